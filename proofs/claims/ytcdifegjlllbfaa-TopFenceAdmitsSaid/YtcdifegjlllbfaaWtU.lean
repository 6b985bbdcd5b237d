/- What holds of a run of leases after each step: at most one site holds, and the witness knows it. Plain lemmas; no condition. -/
import Derived.Test.YtcdifegjlllbfaaWtO
set_option linter.unusedVariables false
set_option linter.unusedSimpArgs false
namespace Go.Proofs.Ytcdifegjlllbfaa
open Go.RowKit
/-- The witness backs a site from an epoch on: all epochs granted from there on are the site's. -/
def Back (gr : Int → Int) (w : Wi) (i e : Int) : Prop := w.ho = i ∧ e ≤ w.ep ∧ ∀ d, e ≤ d → gr d ≠ -1 → gr d = i
structure LeOk (E : Int) (gr : Int → Int) (s : St) (i : Nat) (l : Le) : Prop where
  si : l.si = i
  e0 : 0 ≤ l.ep
  e1 : l.ep ≤ E
  u0 : 0 ≤ l.un
  u1 : l.un ≤ s.now + s.term
  gr_ : 0 < l.un → gr l.ep = i
  bk : s.now < l.un → Back gr s.w i l.ep ∧ l.un ≤ s.w.un
structure RqOk (E : Int) (s : St) (j : Nat) (r : Rs) : Prop where
  s0 : 0 ≤ r.sent
  s1 : r.sent ≤ s.now
  nu : r.m.nu = j
  f0 : 0 ≤ r.m.fr
  f1 : r.m.fr < 3
  e0 : 0 ≤ r.m.ep
  e1 : r.m.ep ≤ E
  ki : r.m.ki = 15 ∨ r.m.ki = 17 ∨ r.m.ki = 18
  rl : r.m.ki = 18 → r.m.ep < (leAt s.ls r.m.fr.toNat).ep
  aq : r.m.ki = 15 → 0 < r.m.ep
/-- A grant: it has run out, or the witness backs it, or its site has gone on. -/
def Grant (gr : Int → Int) (s : St) (a : Mg) : Prop :=
  gr a.ep = a.to ∧ ((rsAt s.rq a.nu.toNat).sent + s.term ≤ s.now ∨ (Back gr s.w a.to a.ep ∧ (rsAt s.rq a.nu.toNat).sent + s.term ≤ s.w.un) ∨ a.ep < (leAt s.ls a.to.toNat).ep)
structure AnOk (E : Int) (gr : Int → Int) (s : St) (a : Mg) : Prop where
  n0 : 0 ≤ a.nu
  n1 : a.nu < s.rq.length
  t0 : 0 ≤ a.to
  t1 : a.to < 3
  e0 : 0 ≤ a.ep
  e1 : a.ep ≤ E
  ki : (a.ki = 16 ∧ a.va = s.term ∧ Grant gr s a) ∨ (a.ki = 12 ∧ a.va = 0)
structure Inv (E : Int) (N : Nat) (gr : Int → Int) (s : St) : Prop where
  n0 : 0 ≤ s.now
  n1 : s.now ≤ 6 * N
  t0 : 1 ≤ s.term
  t1 : s.term ≤ 12
  m0 : 0 ≤ s.margin
  m1 : s.margin ≤ 3
  l3 : s.ls.length = 3
  rn : s.rq.length ≤ N
  an : s.an.length ≤ N
  we0 : 0 ≤ s.w.ep
  we1 : s.w.ep ≤ E
  wu0 : 0 ≤ s.w.un
  wu1 : s.w.un ≤ s.now + s.term
  wh : s.w.ho = -1 ∨ gr s.w.ep = s.w.ho
  g1 : ∀ e, gr e ≠ -1 → 0 < e ∧ e ≤ s.w.ep ∧ 0 ≤ gr e ∧ gr e < 3
  le : ∀ i, i < 3 → LeOk E gr s i (leAt s.ls i)
  rq : ∀ j, j < s.rq.length → RqOk E s j (rsAt s.rq j)
  ans : ∀ a ∈ s.an, AnOk E gr s a
  fc : s.f.cl = false
  fo0 : 0 ≤ s.f.ow
  fo1 : s.f.ow < 3
  fe0 : 0 ≤ s.f.ep
  fe1 : s.f.ep ≤ E
  fg : s.f.ep = 0 ∨ (gr s.f.ep = s.f.ow ∧ s.f.ep ≤ (leAt s.ls s.f.ow.toNat).ep)
theorem leAt_set {l : List Le} {i : Nat} (y : Le) (h : i < l.length) (j : Nat) : leAt (l.set i y) j = if i = j then y else leAt l j := by
  unfold leAt
  rw [List.getElem?_set]
  by_cases e : i = j
  · subst e; simp [h]
  · simp [e]
theorem rsAt_old {l : List Rs} (r : Rs) {j : Nat} (h : j < l.length) : rsAt (l ++ [r]) j = rsAt l j := by
  unfold rsAt; rw [List.getElem?_append_left h]
theorem rsAt_new (l : List Rs) (r : Rs) : rsAt (l ++ [r]) l.length = r := by unfold rsAt; simp
theorem LeOk.mono {E E' : Int} {gr : Int → Int} {s : St} {i : Nat} {l : Le} (h : LeOk E gr s i l) (hE : E ≤ E') : LeOk E' gr s i l := ⟨h.si, h.e0, Int.le_trans h.e1 hE, h.u0, h.u1, h.gr_, h.bk⟩
theorem Inv.mono {E E' : Int} {N N' : Nat} {gr : Int → Int} {s : St} (h : Inv E N gr s) (hE : E ≤ E') (hN : N ≤ N') : Inv E' N' gr s where
  n0 := h.n0
  n1 := by have := h.n1; omega
  t0 := h.t0
  t1 := h.t1
  m0 := h.m0
  m1 := h.m1
  l3 := h.l3
  rn := Nat.le_trans h.rn hN
  an := Nat.le_trans h.an hN
  we0 := h.we0
  we1 := Int.le_trans h.we1 hE
  wu0 := h.wu0
  wu1 := h.wu1
  wh := h.wh
  g1 := h.g1
  le := fun i hi => (h.le i hi).mono hE
  rq := fun j hj => by
    have r := h.rq j hj
    exact ⟨r.s0, r.s1, r.nu, r.f0, r.f1, r.e0, Int.le_trans r.e1 hE, r.ki, r.rl, r.aq⟩
  ans := fun a ha => by
    have r := h.ans a ha
    exact ⟨r.n0, r.n1, r.t0, r.t1, r.e0, Int.le_trans r.e1 hE, r.ki⟩
  fc := h.fc
  fo0 := h.fo0
  fo1 := h.fo1
  fe0 := h.fe0
  fe1 := Int.le_trans h.fe1 hE
  fg := h.fg
/-- A request is sent. -/
theorem Inv.send {E : Int} {N : Nat} {gr : Int → Int} {s : St} (h : Inv E N gr s) (m : Mg) (f0 : 0 ≤ m.fr) (f1 : m.fr < 3) (e0 : 0 ≤ m.ep) (e1 : m.ep ≤ E) (ki : m.ki = 15 ∨ m.ki = 17 ∨ m.ki = 18) (rl : m.ki = 18 → m.ep < (leAt s.ls m.fr.toNat).ep) (aq : m.ki = 15 → 0 < m.ep) : Inv E (N + 1) gr (sendS s m) where
  n0 := h.n0
  n1 := by have := h.n1; show s.now ≤ _; omega
  t0 := h.t0
  t1 := h.t1
  m0 := h.m0
  m1 := h.m1
  l3 := h.l3
  rn := by have := h.rn; show (s.rq ++ [_]).length ≤ _; simp; omega
  an := Nat.le_trans h.an (Nat.le_succ _)
  we0 := h.we0
  we1 := h.we1
  wu0 := h.wu0
  wu1 := h.wu1
  wh := h.wh
  g1 := h.g1
  le := fun i hi => by
    have r := h.le i hi
    exact ⟨r.si, r.e0, r.e1, r.u0, r.u1, r.gr_, r.bk⟩
  rq := fun j hj => by
    replace hj : j < (s.rq ++ [(⟨s.now, numM m s.rq.length⟩ : Rs)]).length := hj
    show RqOk E _ j (rsAt (s.rq ++ [(⟨s.now, numM m s.rq.length⟩ : Rs)]) j)
    rcases Nat.lt_or_ge j s.rq.length with hlt | hge
    · rw [rsAt_old _ hlt]
      have r := h.rq j hlt
      exact ⟨r.s0, r.s1, r.nu, r.f0, r.f1, r.e0, r.e1, r.ki, r.rl, r.aq⟩
    · obtain rfl : j = s.rq.length := by simp at hj; omega
      rw [rsAt_new]
      exact ⟨h.n0, Int.le_refl _, rfl, f0, f1, e0, e1, ki, rl, aq⟩
  ans := fun a ha => by
    have r := h.ans a ha
    have hl : a.nu.toNat < s.rq.length := by have := r.n0; have := r.n1; omega
    refine ⟨r.n0, ?_, r.t0, r.t1, r.e0, r.e1, ?_⟩
    · have := r.n1
      show a.nu < ((s.rq ++ [_]).length : Nat)
      simp
      omega
    · rcases r.ki with ⟨k1, k2, k3⟩ | k
      · refine .inl ⟨k1, k2, k3.1, ?_⟩
        show (rsAt (s.rq ++ [(⟨s.now, numM m s.rq.length⟩ : Rs)]) a.nu.toNat).sent + s.term ≤ s.now ∨ (Back gr s.w a.to a.ep ∧ (rsAt (s.rq ++ [(⟨s.now, numM m s.rq.length⟩ : Rs)]) a.nu.toNat).sent + s.term ≤ s.w.un) ∨ _
        rw [rsAt_old _ hl]
        exact k3.2
      · exact .inr k
  fc := h.fc
  fo0 := h.fo0
  fo1 := h.fo1
  fe0 := h.fe0
  fe1 := h.fe1
  fg := h.fg
/-- A lease changes: its epoch does not fall. -/
theorem Inv.lease {E : Int} {N : Nat} {gr : Int → Int} {s : St} (h : Inv E N gr s) {i : Nat} (hi : i < 3) (y : Le) (hup : (leAt s.ls i).ep ≤ y.ep) (hy : LeOk E gr s i y) : Inv E N gr { s with ls := s.ls.set i y } where
  n0 := h.n0
  n1 := h.n1
  t0 := h.t0
  t1 := h.t1
  m0 := h.m0
  m1 := h.m1
  l3 := by show (s.ls.set i y).length = 3; rw [List.length_set]; exact h.l3
  rn := h.rn
  an := h.an
  we0 := h.we0
  we1 := h.we1
  wu0 := h.wu0
  wu1 := h.wu1
  wh := h.wh
  g1 := h.g1
  le := fun j hj => by
    show LeOk E gr _ j (leAt (s.ls.set i y) j)
    rw [leAt_set y (by rw [h.l3]; exact hi)]
    by_cases e : i = j
    · subst e
      rw [if_pos rfl]
      exact ⟨hy.si, hy.e0, hy.e1, hy.u0, hy.u1, hy.gr_, hy.bk⟩
    · rw [if_neg e]
      have r := h.le j hj
      exact ⟨r.si, r.e0, r.e1, r.u0, r.u1, r.gr_, r.bk⟩
  rq := fun j hj => by
    have r := h.rq j hj
    refine ⟨r.s0, r.s1, r.nu, r.f0, r.f1, r.e0, r.e1, r.ki, fun hk => ?_, r.aq⟩
    have := r.rl hk
    show _ < (leAt (s.ls.set i y) _).ep
    rw [leAt_set y (by rw [h.l3]; exact hi)]
    split
    · rename_i e; rw [← e] at this; exact Int.lt_of_lt_of_le this hup
    · exact this
  ans := fun a ha => by
    have r := h.ans a ha
    refine ⟨r.n0, r.n1, r.t0, r.t1, r.e0, r.e1, ?_⟩
    rcases r.ki with ⟨k1, k2, k3, k4⟩ | k
    · refine .inl ⟨k1, k2, k3, ?_⟩
      rcases k4 with k4 | k4 | k4
      · exact .inl k4
      · exact .inr (.inl k4)
      · refine .inr (.inr ?_)
        show _ < (leAt (s.ls.set i y) _).ep
        rw [leAt_set y (by rw [h.l3]; exact hi)]
        split
        · rename_i e; rw [← e] at k4; exact Int.lt_of_lt_of_le k4 hup
        · exact k4
    · exact .inr k
  fc := h.fc
  fo0 := h.fo0
  fo1 := h.fo1
  fe0 := h.fe0
  fe1 := h.fe1
  fg := by
    rcases h.fg with k | ⟨k1, k2⟩
    · exact .inl k
    · refine .inr ⟨k1, ?_⟩
      show _ ≤ (leAt (s.ls.set i y) _).ep
      rw [leAt_set y (by rw [h.l3]; exact hi)]
      split
      · rename_i e; rw [← e] at k2; exact Int.le_trans k2 hup
      · exact k2
/-- Time passes. -/
theorem Inv.time {E : Int} {N : Nat} {gr : Int → Int} {s : St} (h : Inv E N gr s) (u : Int) (u0 : 0 ≤ u) (u1 : u ≤ 6) : Inv E (N + 1) gr { s with now := s.now + u } where
  n0 := by have := h.n0; show 0 ≤ s.now + u; omega
  n1 := by have := h.n1; show s.now + u ≤ _; omega
  t0 := h.t0
  t1 := h.t1
  m0 := h.m0
  m1 := h.m1
  l3 := h.l3
  rn := Nat.le_trans h.rn (Nat.le_succ _)
  an := Nat.le_trans h.an (Nat.le_succ _)
  we0 := h.we0
  we1 := h.we1
  wu0 := h.wu0
  wu1 := by have := h.wu1; show s.w.un ≤ s.now + u + s.term; omega
  wh := h.wh
  g1 := h.g1
  le := fun i hi => by
    have r := h.le i hi
    refine ⟨r.si, r.e0, r.e1, r.u0, ?_, r.gr_, fun hh => r.bk ?_⟩
    · have := r.u1; show (leAt s.ls i).un ≤ s.now + u + s.term; omega
    · replace hh : s.now + u < (leAt s.ls i).un := hh; omega
  rq := fun j hj => by
    have r := h.rq j hj
    exact ⟨r.s0, by have := r.s1; show _ ≤ s.now + u; exact Int.le_trans this (by omega), r.nu, r.f0, r.f1, r.e0, r.e1, r.ki, r.rl, r.aq⟩
  ans := fun a ha => by
    have r := h.ans a ha
    refine ⟨r.n0, r.n1, r.t0, r.t1, r.e0, r.e1, ?_⟩
    rcases r.ki with ⟨k1, k2, k3, k4⟩ | k
    · refine .inl ⟨k1, k2, k3, ?_⟩
      rcases k4 with k4 | k4
      · exact .inl (Int.le_trans k4 (by show s.now ≤ s.now + u; omega))
      · exact .inr k4
    · exact .inr k
  fc := h.fc
  fo0 := h.fo0
  fo1 := h.fo1
  fe0 := h.fe0
  fe1 := h.fe1
  fg := h.fg
/-- What a run's bounds need. -/
theorem Inv.ok {E : Int} {N : Nat} {gr : Int → Int} {s : St} (h : Inv E N gr s) (hE : E ≤ 1000) (hN : N ≤ 100) : Ok s where
  n0 := h.n0
  n1 := by have := h.n1; omega
  t0 := h.t0
  t1 := h.t1
  m0 := h.m0
  m1 := h.m1
  wi := by
    have a1 := h.we0; have a2 := h.we1; have a3 := h.wu0; have a4 := h.wu1; have a5 := h.n1; have a6 := h.t1
    unfold wiB tmB stB btw
    simp only [Bool.and_eq_true, decide_eq_true_eq, Bool.or_eq_true]
    refine ⟨⟨⟨a1, by omega⟩, ⟨a3, by omega⟩⟩, ?_⟩
    rcases h.wh with k | k
    · exact .inl k
    · by_cases e : s.w.ho = -1
      · exact .inl e
      · have := h.g1 s.w.ep (by rw [k]; exact e)
        rw [k] at this
        exact .inr ⟨this.2.2.1, by omega⟩
  l3 := h.l3
  ls := fun i hi => by
    have r := h.le i (by have := h.l3; omega)
    rw [leAt_eq hi] at r
    have a1 := r.si; have a2 := r.e0; have a3 := r.e1; have a4 := r.u0; have a5 := r.u1; have a6 := h.n1; have a7 := h.t1; have a8 := h.l3
    refine ⟨a1, ?_⟩
    unfold leB tmB stB btw
    simp only [Bool.and_eq_true, decide_eq_true_eq]
    rw [a1]
    exact ⟨⟨⟨by omega, by omega⟩, ⟨a2, by omega⟩⟩, ⟨a4, by omega⟩⟩
  rn := by have := h.rn; omega
  an := by have := h.an; omega
  rq := fun r hr => by
    obtain ⟨j, hj, rfl⟩ := List.getElem_of_mem hr
    have k := h.rq j hj
    rw [rsAt_eq hj] at k
    have a1 := k.e0; have a2 := k.e1; have a3 := k.s1; have a4 := h.n1
    exact ⟨k.s0, by omega, k.f0, k.f1, tmB_of a1 (by omega), k.ki⟩
  ans := fun a ha => by
    have k := h.ans a ha
    have a1 := k.e0; have a2 := k.e1
    exact ⟨by rcases k.ki with c | c; exact .inl ⟨c.1, c.2.1⟩; exact .inr c, tmB_of a1 (by omega), k.n0, k.n1, k.t0, k.t1⟩
end Go.Proofs.Ytcdifegjlllbfaa

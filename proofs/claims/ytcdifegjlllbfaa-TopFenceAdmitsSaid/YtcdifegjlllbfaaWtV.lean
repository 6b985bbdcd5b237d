/- Each step of a run of leases keeps what holds of it, and answers true. Plain lemmas; no condition. -/
import Derived.Test.YtcdifegjlllbfaaWtU
set_option linter.unusedVariables false
set_option linter.unusedSimpArgs false
namespace Go.Proofs.Ytcdifegjlllbfaa
open Go.RowKit
/-- The witness changes and answers. -/
theorem Inv.han {E : Int} {N : Nat} {gr gr' : Int → Int} {s : St} (h : Inv E N gr s) (w' : Wi) (L : List Mg) (ext : ∀ e, gr e ≠ -1 → gr' e = gr e)
    (we0 : 0 ≤ w'.ep) (we1 : w'.ep ≤ E) (wu0 : 0 ≤ w'.un) (wu1 : w'.un ≤ s.now + s.term) (wh : w'.ho = -1 ∨ gr' w'.ep = w'.ho) (g1 : ∀ e, gr' e ≠ -1 → 0 < e ∧ e ≤ w'.ep ∧ 0 ≤ gr' e ∧ gr' e < 3)
    (bk : ∀ i e U, 0 ≤ i → i < 3 → Back gr s.w i e → s.now < U → U ≤ s.w.un → (Back gr' w' i e ∧ U ≤ w'.un) ∨ e < (leAt s.ls i.toNat).ep)
    (hL : ∀ a ∈ L, AnOk E gr' { s with w := w', an := s.an ++ L } a) (hn : L.length ≤ 1) : Inv E (N + 1) gr' { s with w := w', an := s.an ++ L } where
  n0 := h.n0
  n1 := by have := h.n1; show s.now ≤ _; omega
  t0 := h.t0
  t1 := h.t1
  m0 := h.m0
  m1 := h.m1
  l3 := h.l3
  rn := Nat.le_trans h.rn (Nat.le_succ _)
  an := by have := h.an; show (s.an ++ L).length ≤ _; simp; omega
  we0 := we0
  we1 := we1
  wu0 := wu0
  wu1 := wu1
  wh := wh
  g1 := g1
  le := fun i hi => by
    have r := h.le i hi
    refine ⟨r.si, r.e0, r.e1, r.u0, r.u1, fun hu => ?_, fun hu => ?_⟩
    · have := r.gr_ hu
      rw [ext _ (by rw [this]; omega)]
      exact this
    · obtain ⟨k1, k2⟩ := r.bk hu
      rcases bk i (leAt s.ls i).ep (leAt s.ls i).un (by omega) (by omega) k1 hu k2 with c | c
      · exact c
      · rw [Int.toNat_natCast] at c
        exact absurd c (Int.lt_irrefl _)
  rq := fun j hj => by
    have r := h.rq j hj
    exact ⟨r.s0, r.s1, r.nu, r.f0, r.f1, r.e0, r.e1, r.ki, r.rl, r.aq⟩
  ans := fun a ha => by
    replace ha : a ∈ s.an ++ L := ha
    rcases List.mem_append.1 ha with ha | ha
    · have r := h.ans a ha
      have r0 := r.t0
      refine ⟨r.n0, r.n1, r.t0, r.t1, r.e0, r.e1, ?_⟩
      rcases r.ki with ⟨k1, k2, k3, k4⟩ | k
      · refine .inl ⟨k1, k2, ?_, ?_⟩
        · rw [ext _ (by rw [k3]; omega)]
          exact k3
        · rcases k4 with k4 | ⟨k4, k5⟩ | k4
          · exact .inl k4
          · rcases Int.lt_or_le s.now ((rsAt s.rq a.nu.toNat).sent + s.term) with c | c
            · rcases bk a.to a.ep _ r.t0 r.t1 k4 c k5 with d | d
              · exact .inr (.inl d)
              · exact .inr (.inr d)
            · exact .inl c
          · exact .inr (.inr k4)
      · exact .inr k
    · exact hL a ha
  fc := h.fc
  fo0 := h.fo0
  fo1 := h.fo1
  fe0 := h.fe0
  fe1 := h.fe1
  fg := by
    rcases h.fg with k | ⟨k1, k2⟩
    · exact .inl k
    · have := h.fo0
      refine .inr ⟨?_, k2⟩
      rw [ext _ (by rw [k1]; omega)]
      exact k1
/-- A request reaches the witness. -/
theorem Inv.handle {E : Int} {N : Nat} {gr : Int → Int} {s : St} (h : Inv E N gr s) {p : Nat} (hp : p < s.rq.length) : ∃ gr', Inv E (N + 1) gr' (hanM s (rsAt s.rq p).m) ∧ ∀ e, gr e ≠ -1 → gr' e = gr e := by
  have r := h.rq p hp
  obtain ⟨x, hx⟩ : ∃ x, x = rsAt s.rq p := ⟨_, rfl⟩
  rw [← hx] at r ⊢
  have rs0 := r.s0; have rs1 := r.s1; have rf0 := r.f0; have rf1 := r.f1; have re0 := r.e0; have re1 := r.e1; have rnu := r.nu
  have t0 := h.t0; have we0 := h.we0; have we1 := h.we1; have wu0 := h.wu0; have wu1 := h.wu1; have n0 := h.n0
  have hnu : rsAt s.rq x.m.nu.toNat = x := by rw [rnu, Int.toNat_natCast, hx]
  -- renew
  have hren : ∃ gr', Inv E (N + 1) gr' { s with w := (renW (rqOf s x.m)).w, an := s.an ++ renA (rqOf s x.m) } ∧ ∀ e, gr e ≠ -1 → gr' e = gr e := by
    by_cases ho : ownB (rqOf s x.m) = true
    · have e1 : renW (rqOf s x.m) = ⟨⟨s.w.ep, s.w.ho, max s.w.un (s.now + s.term)⟩, s.now, s.term, x.m⟩ := by unfold renW; rw [if_pos ho]; rfl
      have e2 : renA (rqOf s x.m) = [⟨16, 4, x.m.fr, x.m.nu, s.term, s.w.ep⟩] := by unfold renA; rw [if_pos ho]; rfl
      rw [e1, e2]
      simp only [ownB, heldB, Bool.and_eq_true, decide_eq_true_eq] at ho
      obtain ⟨⟨o1, o2⟩, o3, o4⟩ := ho
      replace o1 : x.m.ep = s.w.ep := o1
      replace o2 : s.w.ho = x.m.fr := o2
      replace o3 : s.w.ho ≠ -1 := o3
      replace o4 : s.now < s.w.un := o4
      have hg : gr s.w.ep = s.w.ho := by rcases h.wh with c | c; exact absurd c o3; exact c
      refine ⟨gr, h.han ⟨s.w.ep, s.w.ho, max s.w.un (s.now + s.term)⟩ _ (fun _ _ => rfl) we0 we1 (by show 0 ≤ max s.w.un (s.now + s.term); omega) (by show max s.w.un (s.now + s.term) ≤ _; omega) (.inr hg) h.g1 ?_ ?_ (by simp), fun _ _ => rfl⟩
      · intro i e U _ _ hb _ hU
        exact .inl ⟨hb, by show U ≤ max s.w.un (s.now + s.term); omega⟩
      · intro a ha
        obtain rfl := List.mem_singleton.1 ha
        refine ⟨by show 0 ≤ x.m.nu; omega, by show x.m.nu < (s.rq.length : Int); omega, rf0, rf1, we0, we1, .inl ⟨rfl, rfl, ?_, .inr (.inl ⟨⟨o2, Int.le_refl _, ?_⟩, ?_⟩)⟩⟩
        · show gr s.w.ep = x.m.fr; rw [hg, o2]
        · intro d hd hgd
          have := h.g1 d hgd
          replace hd : s.w.ep ≤ d := hd
          have hde : d = s.w.ep := by omega
          rw [hde]
          show gr s.w.ep = x.m.fr
          rw [hg, o2]
        · show (rsAt s.rq x.m.nu.toNat).sent + s.term ≤ max s.w.un (s.now + s.term)
          rw [hnu]; omega
    · have e1 : renW (rqOf s x.m) = rqOf s x.m := by unfold renW; rw [if_neg ho]
      have e2 : renA (rqOf s x.m) = [⟨12, 4, x.m.fr, x.m.nu, 0, s.w.ep⟩] := by unfold renA; rw [if_neg ho]; rfl
      rw [e1, e2]
      refine ⟨gr, h.han s.w _ (fun _ _ => rfl) we0 we1 wu0 wu1 h.wh h.g1 (fun i e U _ _ hb _ hU => .inl ⟨hb, hU⟩) ?_ (by simp), fun _ _ => rfl⟩
      intro a ha
      obtain rfl := List.mem_singleton.1 ha
      exact ⟨by show 0 ≤ x.m.nu; omega, by show x.m.nu < (s.rq.length : Int); omega, rf0, rf1, we0, we1, .inr ⟨rfl, rfl⟩⟩
  unfold hanM handR handA
  rcases r.ki with k | k | k
  · have k' : (rqOf s x.m).m.ki = 15 := k
    rw [if_pos k', if_pos k']
    by_cases hb : acqB (rqOf s x.m) = true
    · have e1 : acqW (rqOf s x.m) = ⟨⟨x.m.ep, x.m.fr, s.now + s.term⟩, s.now, s.term, x.m⟩ := by unfold acqW; rw [if_pos hb]; rfl
      have e2 : acqA (rqOf s x.m) = [⟨16, 4, x.m.fr, x.m.nu, s.term, x.m.ep⟩] := by unfold acqA; rw [if_pos hb]; rfl
      rw [e1, e2]
      have haq := r.aq k
      simp only [acqB, heldB, Bool.and_eq_true, decide_eq_true_eq, Bool.or_eq_true, Bool.not_eq_true', Bool.and_eq_false_iff, decide_eq_false_iff_not] at hb
      obtain ⟨b1, b2⟩ := hb
      replace b1 : s.w.ep < x.m.ep := b1
      replace b2 : (¬ s.w.ho ≠ -1 ∨ ¬ s.now < s.w.un) ∨ s.w.ho = x.m.fr := b2
      have hge : ∀ d, gr d ≠ -1 → d ≠ x.m.ep := fun d hd => by have := h.g1 d hd; omega
      refine ⟨fun e => if e = x.m.ep then x.m.fr else gr e, h.han ⟨x.m.ep, x.m.fr, s.now + s.term⟩ _ (fun e he => if_neg (hge e he)) re0 re1 (by show 0 ≤ s.now + s.term; omega) (Int.le_refl _) (.inr (if_pos rfl)) ?_ ?_ ?_ (by simp), fun e he => if_neg (hge e he)⟩
      · intro e he
        by_cases c : e = x.m.ep
        · subst c
          simp only [if_true]
          exact ⟨haq, Int.le_refl _, rf0, rf1⟩
        · simp only [if_neg c] at he ⊢
          have := h.g1 e he
          exact ⟨this.1, by show e ≤ x.m.ep; omega, this.2.2⟩
      · intro i e U i0 i3 hk hU hU2
        obtain ⟨c1, c2, c3⟩ := hk
        have hfr : x.m.fr = i := by
          rcases b2 with b2 | b2
          · rcases b2 with b2 | b2
            · exact absurd (by omega : s.w.ho ≠ -1) b2
            · omega
          · rw [← b2, c1]
        refine .inl ⟨⟨hfr, by show e ≤ x.m.ep; omega, fun d hd hgd => ?_⟩, by show U ≤ s.now + s.term; omega⟩
        by_cases c : d = x.m.ep
        · simp only [if_pos c]; exact hfr
        · simp only [if_neg c] at hgd ⊢; exact c3 d hd hgd
      · intro a ha
        obtain rfl := List.mem_singleton.1 ha
        refine ⟨by show 0 ≤ x.m.nu; omega, by show x.m.nu < (s.rq.length : Int); omega, rf0, rf1, re0, re1, .inl ⟨rfl, rfl, if_pos rfl, .inr (.inl ⟨⟨rfl, Int.le_refl _, ?_⟩, ?_⟩)⟩⟩
        · intro d hd hgd
          replace hd : x.m.ep ≤ d := hd
          by_cases c : d = x.m.ep
          · simp only [if_pos c]
          · simp only [if_neg c] at hgd
            have := h.g1 d hgd
            omega
        · show (rsAt s.rq x.m.nu.toNat).sent + s.term ≤ s.now + s.term
          rw [hnu]; omega
    · have e1 : acqW (rqOf s x.m) = renW (rqOf s x.m) := by unfold acqW; rw [if_neg hb]
      have e2 : acqA (rqOf s x.m) = renA (rqOf s x.m) := by unfold acqA; rw [if_neg hb]
      rw [e1, e2]
      exact hren
  · have k' : (rqOf s x.m).m.ki = 17 := k
    have k0 : ¬ (rqOf s x.m).m.ki = 15 := by rw [k']; decide
    rw [if_neg k0, if_pos k', if_neg k0, if_pos k']
    exact hren
  · have k' : (rqOf s x.m).m.ki = 18 := k
    have k0 : ¬ (rqOf s x.m).m.ki = 15 := by rw [k']; decide
    have k1 : ¬ (rqOf s x.m).m.ki = 17 := by rw [k']; decide
    rw [if_neg k0, if_neg k1, if_neg k0, if_neg k1]
    have hrl := r.rl k
    by_cases hb : relB (rqOf s x.m) = true
    · have e1 : relW (rqOf s x.m) = ⟨⟨s.w.ep, -1, 0⟩, s.now, s.term, x.m⟩ := by unfold relW; rw [if_pos hb]; rfl
      rw [e1]
      simp only [relB, Bool.and_eq_true, decide_eq_true_eq] at hb
      obtain ⟨b1, b2⟩ := hb
      replace b1 : x.m.ep = s.w.ep := b1
      replace b2 : x.m.fr = s.w.ho := b2
      refine ⟨gr, h.han ⟨s.w.ep, -1, 0⟩ [] (fun _ _ => rfl) we0 we1 (Int.le_refl _) (by show 0 ≤ s.now + s.term; omega) (.inl rfl) h.g1 ?_ (fun a ha => by cases ha) (by simp), fun _ _ => rfl⟩
      intro i e U i0 i3 hk hU hU2
      obtain ⟨c1, c2, c3⟩ := hk
      refine .inr ?_
      rw [← c1, ← b2]
      omega
    · have e1 : relW (rqOf s x.m) = rqOf s x.m := by unfold relW; rw [if_neg hb]
      rw [e1]
      exact ⟨gr, h.han s.w [] (fun _ _ => rfl) we0 we1 wu0 wu1 h.wh h.g1 (fun i e U _ _ hb _ hU => .inl ⟨hb, hU⟩) (fun a ha => by cases ha) (by simp), fun _ _ => rfl⟩
end Go.Proofs.Ytcdifegjlllbfaa

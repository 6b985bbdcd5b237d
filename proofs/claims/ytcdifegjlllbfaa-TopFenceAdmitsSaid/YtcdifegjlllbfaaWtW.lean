/- Each step of a run of leases keeps what holds of it, and answers true; at most one site holds. Plain lemmas; no condition. -/
import Derived.Test.YtcdifegjlllbfaaWtV
import Derived.Test.YtcdifegjlllbfaaWtK
set_option linter.unusedVariables false
set_option linter.unusedSimpArgs false
namespace Go.Proofs.Ytcdifegjlllbfaa
open Go.RowKit
/-- An answer reaches its site. -/
theorem Inv.learn {E : Int} {N : Nat} {gr : Int → Int} {s : St} (h : Inv E N gr s) {m : Mg} (hm : m ∈ s.an) : Inv E N gr (lrnM s m) := by
  have a := h.ans m hm
  have a0 := a.n0; have a1 := a.n1; have a2 := a.t0; have a3 := a.t1; have a4 := a.e0; have a5 := a.e1
  obtain ⟨i, hi⟩ : ∃ i : Nat, m.to = i := ⟨m.to.toNat, by omega⟩
  have hin : m.to.toNat = i := by omega
  have hi3 : i < 3 := by omega
  have l := h.le i hi3
  have q := h.rq m.nu.toNat (by omega)
  have q0 := q.s0; have q1 := q.s1
  have n0 := h.n0; have t0 := h.t0; have m0 := h.m0
  have hk := a.ki
  unfold lrnM
  unfold Grant at hk
  rw [hin] at hk ⊢
  obtain ⟨x, hx⟩ : ∃ x, x = leAt s.ls i := ⟨_, rfl⟩
  obtain ⟨sent, hs⟩ : ∃ sent, sent = (rsAt s.rq m.nu.toNat).sent := ⟨_, rfl⟩
  have hup : ∀ y : Le, x.ep ≤ y.ep → (leAt s.ls i).ep ≤ y.ep := fun y hy => by rw [← hx]; exact hy
  rw [← hx] at l hk ⊢
  rw [← hs] at hk q0 q1 ⊢
  have l0 := l.e0; have l1 := l.e1; have l2 := l.u0; have l3 := l.u1
  unfold learnL
  have hU : 0 ≤ untilOf sent s.term s.margin ∧ (0 < untilOf sent s.term s.margin → untilOf sent s.term s.margin ≤ sent + s.term) := by unfold untilOf; omega
  obtain ⟨U, hUe⟩ : ∃ U, U = untilOf sent s.term s.margin := ⟨_, rfl⟩
  rw [← hUe] at hU ⊢
  obtain ⟨hU0, hU1⟩ := hU
  rcases hk with ⟨k1, k2, k3, k4⟩ | ⟨k1, k2⟩
  · rw [if_pos k1]
    rw [hi] at k3
    have hbk : ¬ m.ep < x.ep → s.now < U → Back gr s.w i m.ep ∧ U ≤ s.w.un := by
      intro c d
      have := hU1 (by omega)
      rcases k4 with k4 | ⟨k4, k5⟩ | k4
      · omega
      · rw [hi] at k4; exact ⟨k4, by omega⟩
      · exact absurd k4 c
    by_cases c1 : x.ep < m.ep
    · rw [if_pos c1]
      refine h.lease hi3 _ (hup _ (Int.le_of_lt c1)) ⟨l.si, a4, a5, hU0, ?_, fun _ => k3, hbk (by omega)⟩
      show U ≤ s.now + s.term
      by_cases c : 0 < U
      · have := hU1 c; omega
      · omega
    · rw [if_neg c1]
      by_cases c2 : m.ep = x.ep
      · rw [if_pos c2]
        have hb := hbk (by omega)
        rw [c2] at hb k3
        refine h.lease hi3 _ (hup _ (Int.le_refl _)) ⟨l.si, l0, l1, by show 0 ≤ max x.un U; omega, ?_, fun _ => k3, fun c => ?_⟩
        · show max x.un U ≤ s.now + s.term
          by_cases c : 0 < U
          · have := hU1 c; omega
          · omega
        · replace c : s.now < max x.un U := c
          show Back gr s.w i x.ep ∧ max x.un U ≤ s.w.un
          by_cases d1 : s.now < x.un
          · obtain ⟨b1, b2⟩ := l.bk d1
            by_cases d2 : s.now < U
            · have := (hb d2).2; exact ⟨b1, by omega⟩
            · exact ⟨b1, by omega⟩
          · have := hb (by omega)
            exact ⟨this.1, by omega⟩
      · rw [if_neg c2]
        exact h.lease hi3 _ (hup _ (Int.le_refl _)) l
  · rw [if_neg (by rw [k1]; decide)]
    by_cases c1 : x.ep < m.ep
    · rw [if_pos c1]
      exact h.lease hi3 _ (hup _ (Int.le_refl _)) ⟨l.si, l0, l1, Int.le_refl _, by show (0 : Int) ≤ s.now + s.term; omega, fun c => absurd c (Int.lt_irrefl _), fun c => absurd c (by show ¬ s.now < 0; omega)⟩
    · rw [if_neg c1]
      exact h.lease hi3 _ (hup _ (Int.le_refl _)) l
/-- The fence is raised. -/
theorem Inv.fence {E : Int} {N : Nat} {gr : Int → Int} {s : St} (h : Inv E N gr s) (F : Fe) (fc : F.cl = false) (o0 : 0 ≤ F.ow) (o1 : F.ow < 3) (e0 : 0 ≤ F.ep) (e1 : F.ep ≤ E) (fg : gr F.ep = F.ow ∧ F.ep ≤ (leAt s.ls F.ow.toNat).ep) : Inv E N gr { s with f := F } where
  n0 := h.n0
  n1 := h.n1
  t0 := h.t0
  t1 := h.t1
  m0 := h.m0
  m1 := h.m1
  l3 := h.l3
  rn := h.rn
  an := h.an
  we0 := h.we0
  we1 := h.we1
  wu0 := h.wu0
  wu1 := h.wu1
  wh := h.wh
  g1 := h.g1
  le := fun i hi => by
    have r := h.le i hi
    exact ⟨r.si, r.e0, r.e1, r.u0, r.u1, r.gr_, r.bk⟩
  rq := fun j hj => by
    have r := h.rq j hj
    exact ⟨r.s0, r.s1, r.nu, r.f0, r.f1, r.e0, r.e1, r.ki, r.rl, r.aq⟩
  ans := fun a ha => by
    have r := h.ans a ha
    exact ⟨r.n0, r.n1, r.t0, r.t1, r.e0, r.e1, r.ki⟩
  fc := fc
  fo0 := o0
  fo1 := o1
  fe0 := e0
  fe1 := e1
  fg := .inr fg
theorem hoB_spec {l : Le} {now : Int} (h : hoB l now = true) : now < l.un := by
  unfold hoB at h
  simp only [Bool.and_eq_true, decide_eq_true_eq] at h
  exact h.2
theorem adm_ok {f : Fe} {n p : Int} (h : ordB f = true) (h1 : n = f.ep) (h2 : f.cl = false) (h3 : p = f.ow) : admE f n p = 0 := by
  unfold admE
  rw [if_pos h, if_pos (by omega), if_pos h1, if_pos ⟨h2, h3⟩]
theorem adm_no_ {f : Fe} {n p : Int} (h : n < f.ep) : admE f n p ≠ 0 := by
  unfold admE
  by_cases c : ordB f = true
  · rw [if_pos c, if_neg (by omega)]; decide
  · rw [if_neg c]; decide
theorem adm_spec {f : Fe} {n p : Int} (h : admE f n p = 0) : n = f.ep ∧ p = f.ow := by
  unfold admE at h
  by_cases c : ordB f = true
  · rw [if_pos c] at h
    by_cases c1 : f.ep ≤ n
    · rw [if_pos c1] at h
      by_cases c2 : n = f.ep
      · rw [if_pos c2] at h
        by_cases c3 : f.cl = false ∧ p = f.ow
        · exact ⟨c2, c3.2⟩
        · rw [if_neg c3] at h; exact absurd h (by decide)
      · rw [if_neg c2] at h; exact absurd h (by decide)
    · rw [if_neg c1] at h; exact absurd h (by decide)
  · rw [if_neg c] at h; exact absurd h (by decide)
theorem ordB_of {f : Fe} (h0 : 0 ≤ f.ep) (h1 : f.ep ≤ 1000) (h2 : 0 ≤ f.ow) (h3 : f.ow < 3) : ordB f = true := by
  unfold ordB inB siteB
  simp only [Bool.and_eq_true, decide_eq_true_eq]
  exact ⟨⟨h0, by omega⟩, ⟨h2, by omega⟩⟩
/-- A site writes. -/
theorem Inv.write {E : Int} {N : Nat} {gr : Int → Int} {s : St} (h : Inv E N gr s) (hE : E ≤ 1000) {i : Nat} (hi : i < 3) : Inv E N gr (wriS s i) ∧ wriB s i = true ∧ (hoB (leAt s.ls i) s.now = true → (wriS s i).f.ep = (leAt s.ls i).ep) := by
  have l := h.le i hi
  have n0 := h.n0
  have f0 := h.fe0; have f1 := h.fe1; have f2 := h.fo0; have f3 := h.fo1
  have hord := ordB_of f0 (by omega) f2 f3
  by_cases c : hoB (leAt s.ls i) s.now = true
  · have hu := hoB_spec c
    have hg := l.gr_ (by omega)
    have hg1 := h.g1 _ (by rw [hg]; omega)
    obtain ⟨⟨b1, b2, b3⟩, b4⟩ := l.bk hu
    have l0 := l.e0; have l1 := l.e1
    by_cases d : s.f.ep < (leAt s.ls i).ep
    · have hr : raiE s.f (leAt s.ls i).ep i = 0 := by
        unfold raiE
        have : (inB (leAt s.ls i).ep 0 && siteB i) = true := by unfold inB siteB; simp only [Bool.and_eq_true, decide_eq_true_eq]; omega
        rw [if_pos hord, if_pos this, if_pos d]
      have hS : wriS s i = { s with f := ⟨(leAt s.ls i).ep, i, false⟩ } := by
        unfold wriS
        rw [if_pos c, if_pos hr]
        unfold raiF
        rw [if_pos hr]
      have hB : wriB s i = true := by
        unfold wriB
        rw [if_pos c, hS]
        exact decide_eq_true (adm_ok (ordB_of l0 (by show (leAt s.ls i).ep ≤ 1000; omega) (by show 0 ≤ (i : Int); omega) (by show (i : Int) < 3; omega)) rfl rfl rfl)
      rw [hS]
      refine ⟨h.fence _ rfl (by show 0 ≤ (i : Int); omega) (by show (i : Int) < 3; omega) l0 l1 ⟨hg, ?_⟩, hB, fun _ => rfl⟩
      show _ ≤ (leAt s.ls (i : Int).toNat).ep
      rw [Int.toNat_natCast]
      exact Int.le_refl _
    · have hr : raiE s.f (leAt s.ls i).ep i ≠ 0 := by
        unfold raiE
        have : (inB (leAt s.ls i).ep 0 && siteB i) = true := by unfold inB siteB; simp only [Bool.and_eq_true, decide_eq_true_eq]; omega
        rw [if_pos hord, if_pos this, if_neg d]
        decide
      have hS : wriS s i = s := by unfold wriS; rw [if_pos c, if_neg hr]
      have hfg : s.f.ep = (leAt s.ls i).ep ∧ (i : Int) = s.f.ow := by
        rcases h.fg with k | ⟨k1, k2⟩
        · omega
        · have := b3 s.f.ep (by omega) (by rw [k1]; omega)
          rw [k1] at this
          rw [this, Int.toNat_natCast] at k2
          exact ⟨by omega, this.symm⟩
      have hB : wriB s i = true := by
        unfold wriB
        rw [if_pos c, hS]
        exact decide_eq_true (adm_ok hord hfg.1.symm h.fc hfg.2)
      rw [hS]
      exact ⟨h, hB, fun _ => hfg.1⟩
  · have hS : wriS s i = s := by unfold wriS; rw [if_neg c]
    have hB : wriB s i = true := by
      unfold wriB
      rw [if_neg c]
      by_cases d : admE s.f (leAt s.ls i).ep i = 0
      · obtain ⟨d1, d2⟩ := adm_spec d
        simp [d1.symm, d2.symm]
      · simp [d]
    rw [hS]
    exact ⟨h, hB, fun k => absurd k c⟩
theorem step_ki0 {s : St} {x : Sp3} (h : x.ki = 0) : stepS s x = askS s x := by unfold stepS; rw [if_pos h]
/-- A step. -/
theorem inv_step {k : Nat} {gr : Int → Int} {s : St} (h : Inv (3 * (k : Int)) k gr s) (hk : k < 70) (x : Sp3) : ∃ gr', Inv (3 * ((k + 1 : Nat) : Int)) (k + 1) gr' (stepS s x) ∧ (∀ e, gr e ≠ -1 → gr' e = gr e) ∧ stepB s x = true ∧ (x.ki = 5 → hoB (leAt s.ls x.i) s.now = true → (stepS s x).f.ep = (leAt s.ls x.i).ep) := by
  have hi := x.i_lt
  have ok := h.ok (by omega) (by omega)
  have l := h.le x.i hi
  have l0 := l.si; have l1 := l.e0; have l2 := l.e1
  have hM : Inv (3 * ((k + 1 : Nat) : Int)) k gr s := h.mono (by omega) (Nat.le_refl _)
  have hMM : Inv (3 * ((k + 1 : Nat) : Int)) (k + 1) gr s := h.mono (by omega) (Nat.le_succ _)
  by_cases k5 : x.ki = 5
  · have e1 : stepS s x = wriS s x.i := by unfold stepS; simp [k5]
    have e2 : stepB s x = wriB s x.i := by unfold stepB; simp [k5]
    rw [e1, e2]
    obtain ⟨w1, w2, w3⟩ := hMM.write (by omega) hi
    exact ⟨gr, w1, fun _ _ => rfl, w2, fun _ => w3⟩
  have e2 : stepB s x = true := by unfold stepB; simp [k5]
  suffices hs : ∃ gr', Inv (3 * ((k + 1 : Nat) : Int)) (k + 1) gr' (stepS s x) ∧ (∀ e, gr e ≠ -1 → gr' e = gr e) by
    obtain ⟨gr', h1, h2⟩ := hs
    exact ⟨gr', h1, h2, e2, fun c => absurd c k5⟩
  by_cases k0 : x.ki = 0
  · have e1 : stepS s x = askS s x := by unfold stepS; simp [k0]
    rw [e1]
    unfold askS
    have w0 := Int.emod_nonneg x.wh (show (3 : Int) ≠ 0 by decide)
    have w1 := Int.emod_lt_of_pos x.wh (show (0 : Int) < 3 by decide)
    by_cases c : askE (leAt s.ls x.i) (max 1 (leAt s.ls x.i).ep + x.wh % 3) = 0
    · rw [if_pos c]
      have em : askM (leAt s.ls x.i) (max 1 (leAt s.ls x.i).ep + x.wh % 3) = ⟨15, (leAt s.ls x.i).si, 4, 0, 0, max 1 (leAt s.ls x.i).ep + x.wh % 3⟩ := by unfold askM; rw [if_pos c]
      rw [em, l0]
      exact ⟨gr, hM.send _ (by show 0 ≤ (x.i : Int); omega) (by show (x.i : Int) < 3; omega) (by show 0 ≤ max 1 (leAt s.ls x.i).ep + x.wh % 3; omega) (by show max 1 (leAt s.ls x.i).ep + x.wh % 3 ≤ _; omega) (.inl rfl) (fun c => absurd (show (15 : Int) = 18 from c) (by decide)) (fun _ => by show 0 < max 1 (leAt s.ls x.i).ep + x.wh % 3; omega), fun _ _ => rfl⟩
    · rw [if_neg c]
      exact ⟨gr, hMM, fun _ _ => rfl⟩
  by_cases k1 : x.ki = 1
  · have e1 : stepS s x = renS s x := by unfold stepS; simp [k1]
    rw [e1]
    unfold renS
    by_cases c : renE (leAt s.ls x.i) = 0
    · rw [if_pos c]
      have em : renM (leAt s.ls x.i) = ⟨17, (leAt s.ls x.i).si, 4, 0, 0, (leAt s.ls x.i).ep⟩ := by unfold renM; rw [if_pos c]
      rw [em, l0]
      exact ⟨gr, hM.send _ (by show 0 ≤ (x.i : Int); omega) (by show (x.i : Int) < 3; omega) l1 (by show (leAt s.ls x.i).ep ≤ _; omega) (.inr (.inl rfl)) (fun c => absurd (show (17 : Int) = 18 from c) (by decide)) (fun c => absurd (show (17 : Int) = 15 from c) (by decide)), fun _ _ => rfl⟩
    · rw [if_neg c]
      exact ⟨gr, hMM, fun _ _ => rfl⟩
  by_cases k2 : x.ki = 2
  · have e1 : stepS s x = givS s x := by unfold stepS; simp [k2]
    rw [e1]
    unfold givS
    have hlb : leB (leAt s.ls x.i) = true := by
      have := (ok.ls x.i (by have := h.l3; omega)).2
      rw [leAt_eq (by have := h.l3; omega)]
      exact this
    have eg : givL (leAt s.ls x.i) = ⟨x.i, (leAt s.ls x.i).ep + 1, 0⟩ := by unfold givL; rw [if_pos hlb, l0, Int.min_eq_left (by omega)]
    have em : givM (leAt s.ls x.i) = ⟨18, x.i, 4, 0, 0, (leAt s.ls x.i).ep⟩ := by unfold givM; rw [if_pos hlb, l0]
    rw [eg, em]
    have n0 := h.n0; have t0 := h.t0
    have hy : LeOk (3 * ((k + 1 : Nat) : Int)) gr s x.i ⟨x.i, (leAt s.ls x.i).ep + 1, 0⟩ := ⟨rfl, by show 0 ≤ (leAt s.ls x.i).ep + 1; omega, by show (leAt s.ls x.i).ep + 1 ≤ _; omega, Int.le_refl _, by show (0 : Int) ≤ s.now + s.term; omega, fun c => absurd c (Int.lt_irrefl _), fun c => absurd c (by show ¬ s.now < 0; omega)⟩
    have hL := hM.lease hi _ (by show (leAt s.ls x.i).ep ≤ (leAt s.ls x.i).ep + 1; omega) hy
    refine ⟨gr, hL.send _ (by show 0 ≤ (x.i : Int); omega) (by show (x.i : Int) < 3; omega) l1 (by show (leAt s.ls x.i).ep ≤ _; omega) (.inr (.inr rfl)) (fun _ => ?_) (fun c => absurd (show (18 : Int) = 15 from c) (by decide)), fun _ _ => rfl⟩
    show (leAt s.ls x.i).ep < (leAt (s.ls.set x.i _) (x.i : Int).toNat).ep
    rw [Int.toNat_natCast, leAt_set _ (by rw [h.l3]; exact hi), if_pos rfl]
    show (leAt s.ls x.i).ep < (leAt s.ls x.i).ep + 1
    omega
  by_cases k3 : x.ki = 3
  · have e1 : stepS s x = hanS s x := by unfold stepS; simp [k3]
    rw [e1]
    unfold hanS
    by_cases c : s.rq.length = 0
    · rw [if_pos c]; exact ⟨gr, hMM, fun _ _ => rfl⟩
    · rw [if_neg c]
      exact hM.handle (pk_lt x.wh (by omega))
  by_cases k4 : x.ki = 4
  · have e1 : stepS s x = lrnS s x.wh := by unfold stepS; simp [k4]
    rw [e1]
    unfold lrnS
    by_cases c : s.an.length = 0
    · rw [if_pos c]; exact ⟨gr, hMM, fun _ _ => rfl⟩
    · rw [if_neg c]
      have hp := pk_lt x.wh (show 0 < s.an.length by omega)
      rw [mgAt_eq hp]
      exact ⟨gr, hMM.learn (List.getElem_mem hp), fun _ _ => rfl⟩
  have e1 : stepS s x = timS s x := by unfold stepS; simp [k0, k1, k2, k3, k4, k5]
  rw [e1]
  have w0 := Int.emod_nonneg x.wh (show (7 : Int) ≠ 0 by decide)
  have w1 := Int.emod_lt_of_pos x.wh (show (0 : Int) < 7 by decide)
  exact ⟨gr, hM.time _ w0 (by omega), fun _ _ => rfl⟩
/-- The beginning. -/
theorem inv_start (term margin : Int) (ht : 0 ≤ term) (hm : 0 ≤ margin) : Inv (3 * ((0 : Nat) : Int)) 0 (fun _ => -1) (stK term margin 3) := by
  have t0 := Int.emod_nonneg term (show (12 : Int) ≠ 0 by decide)
  have t1 := Int.emod_lt_of_pos term (show (0 : Int) < 12 by decide)
  have m0 := Int.emod_nonneg margin (show (4 : Int) ≠ 0 by decide)
  have m1 := Int.emod_lt_of_pos margin (show (0 : Int) < 4 by decide)
  have hT : (stK term margin 3).term = term % 12 + 1 := rfl
  have hG : (stK term margin 3).margin = margin % 4 := rfl
  refine ⟨Int.le_refl _, (show (0 : Int) ≤ 6 * ((0 : Nat) : Int) by decide), by rw [hT]; omega, by rw [hT]; omega, by rw [hG]; omega, by rw [hG]; omega, rfl, Nat.le_refl _, Nat.le_refl _, Int.le_refl _, (show (0 : Int) ≤ 3 * ((0 : Nat) : Int) by decide), Int.le_refl _, by rw [hT]; show (0 : Int) ≤ 0 + _; omega, .inl rfl, fun e he => absurd rfl he, fun i hi => ?_, fun j hj => absurd hj (Nat.not_lt_zero _), (fun a ha => by cases ha), rfl, Int.le_refl _, (show (0 : Int) < 3 by decide), Int.le_refl _, (show (0 : Int) ≤ 3 * ((0 : Nat) : Int) by decide), .inl rfl⟩
  have : leAt (stK term margin 3).ls i = ⟨i, 0, 0⟩ := by
    match i, hi with
    | 0, _ => rfl
    | 1, _ => rfl
    | 2, _ => rfl
  rw [this]
  exact ⟨rfl, Int.le_refl _, (show (0 : Int) ≤ 3 * ((0 : Nat) : Int) by decide), Int.le_refl _, by rw [hT]; show (0 : Int) ≤ 0 + _; omega, fun c => absurd c (Int.lt_irrefl _), fun c => absurd c (by show ¬ (0 : Int) < 0; omega)⟩
/-- At most one site holds, and the witness knows it. -/
theorem Inv.alone {E : Int} {N : Nat} {gr : Int → Int} {s : St} (h : Inv E N gr s) : (hN s.ls s.now s.ls.length = 0 ∧ hW s.ls s.now s.ls.length = -1) ∨ ∃ i : Nat, i < 3 ∧ hN s.ls s.now s.ls.length = 1 ∧ hW s.ls s.now s.ls.length = i ∧ hoB (leAt s.ls i) s.now = true ∧ s.w.ho = i ∧ (leAt s.ls i).ep ≤ s.w.ep ∧ s.now < s.w.un ∧ gr (leAt s.ls i).ep = i := by
  rw [h.l3]
  have n0 := h.n0
  have one : ∀ i : Nat, i < 3 → hoB (leAt s.ls i) s.now = true → s.w.ho = i ∧ (leAt s.ls i).ep ≤ s.w.ep ∧ s.now < s.w.un ∧ gr (leAt s.ls i).ep = i := by
    intro i hi hb
    have hu := hoB_spec hb
    have l := h.le i hi
    obtain ⟨⟨b1, b2, _⟩, b4⟩ := l.bk hu
    exact ⟨b1, b2, by omega, l.gr_ (by omega)⟩
  simp only [hN, hW]
  cases c0 : hoB (leAt s.ls 0) s.now <;> cases c1 : hoB (leAt s.ls 1) s.now <;> cases c2 : hoB (leAt s.ls 2) s.now
  · exact .inl ⟨rfl, rfl⟩
  · exact .inr ⟨2, by decide, rfl, rfl, c2, one 2 (by decide) c2⟩
  · exact .inr ⟨1, by decide, rfl, rfl, c1, one 1 (by decide) c1⟩
  · have := (one 1 (by decide) c1).1; have := (one 2 (by decide) c2).1; omega
  · exact .inr ⟨0, by decide, rfl, rfl, c0, one 0 (by decide) c0⟩
  · have := (one 0 (by decide) c0).1; have := (one 2 (by decide) c2).1; omega
  · have := (one 0 (by decide) c0).1; have := (one 1 (by decide) c1).1; omega
  · have := (one 0 (by decide) c0).1; have := (one 1 (by decide) c1).1; omega
end Go.Proofs.Ytcdifegjlllbfaa

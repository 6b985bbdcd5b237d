/- Plain laws of lineages: what extending and truncating keep. No condition. -/
import Derived.Test.YtcdifegjlllbfaaChB
set_option linter.unusedVariables false
set_option linter.unusedSimpArgs false
namespace Go.Proofs.Ytcdifegjlllbfaa

theorem snoc_ind {α : Type} {P : List α → Prop} (h0 : P []) (h1 : ∀ l x, P l → P (l ++ [x])) : ∀ l, P l := by
  intro l
  have : ∀ n (l : List α), l.length = n → P l := by
    intro n
    induction n with
    | zero => intro l h; rw [List.eq_nil_of_length_eq_zero h]; exact h0
    | succ n ih =>
      intro l h
      have hne : l ≠ [] := by rintro rfl; simp at h
      rw [← List.dropLast_concat_getLast hne]
      exact h1 _ _ (ih _ (by simp [h]))
  exact this _ l rfl
theorem tailS_snoc (l : List Sp) (x : Sp) : tailS (l ++ [x]) = x := by simp [tailS]
theorem spAt_snoc_lt {l : List Sp} {x : Sp} {k : Nat} (h : k < l.length) : spAt (l ++ [x]) k = spAt l k := by
  simp [spAt, List.getElem?_append_left h]
theorem prevS_snoc_le {l : List Sp} {x : Sp} {k : Nat} (h : k ≤ l.length) : prevS (l ++ [x]) k = prevS l k := by
  cases k with
  | zero => rfl
  | succ k => exact spAt_snoc_lt h
theorem prevS_length (l : List Sp) : prevS l l.length = tailS l := by
  cases l using snoc_ind with
  | h0 => rfl
  | h1 l x _ => rw [tailS_snoc, List.length_append]; show spAt (l ++ [x]) l.length = x; simp [spAt]
theorem lin_snoc {l : List Sp} {x : Sp} : Lin (l ++ [x]) ↔ Lin l ∧ SpOk (tailS l) x := by
  constructor
  · intro h
    refine ⟨fun k hk => ?_, ?_⟩
    · have := h k (by simp; omega)
      rwa [prevS_snoc_le (by omega), List.getElem_append_left hk] at this
    · have := h l.length (by simp)
      rw [prevS_snoc_le (Nat.le_refl _), prevS_length] at this
      simpa using this
  · rintro ⟨h1, h2⟩ k hk
    by_cases h : k < l.length
    · rw [prevS_snoc_le (by omega), List.getElem_append_left h]; exact h1 k h
    · have : k = l.length := by simp at hk; omega
      subst this
      rw [prevS_snoc_le (Nat.le_refl _), prevS_length]
      simpa using h2
theorem lin_nil : Lin [] := fun k hk => absurd hk (by simp)
theorem lin_tail_to : ∀ l : List Sp, Lin l → 0 ≤ (tailS l).to ∧ 0 ≤ (tailS l).ep := by
  apply snoc_ind
  · intro _; exact ⟨Int.le_refl 0, Int.le_refl 0⟩
  · intro l x _ h
    rw [tailS_snoc]
    have := (lin_snoc.1 h).2
    exact ⟨Int.le_trans (by decide) this.t0, Int.le_trans (by decide) this.e0⟩
theorem lin_mem : ∀ l : List Sp, Lin l → ∀ y ∈ l, y.to ≤ (tailS l).to ∧ y.fr ≤ y.to ∧ 1 ≤ y.fr := by
  apply snoc_ind
  · intro _ y hy; simp at hy
  · intro l x ih h y hy
    obtain ⟨h1, h2⟩ := lin_snoc.1 h
    rw [tailS_snoc]
    rcases List.mem_append.1 hy with hy | hy
    · have := ih h1 y hy
      have h3 := h2.gap
      have h4 := h2.ft
      omega
    · simp at hy
      subst hy
      exact ⟨Int.le_refl _, h2.ft, h2.f0⟩

/-- What Extend leaves. -/
theorem extM_snoc (l : List Sp) (x : Sp) (n c : Int) : extM (l ++ [x]) n c = if n = x.ep then l ++ [⟨x.ep, x.fr, c⟩] else l ++ [x] ++ [⟨n, x.to + 1, c⟩] := by
  unfold extM
  rw [tailS_snoc]
  by_cases h : n = x.ep
  · rw [if_pos ⟨by simp, h⟩, if_pos h]; simp
  · rw [if_neg (fun h2 => h h2.2), if_neg h]
theorem extM_nil (n c : Int) : extM [] n c = [⟨n, 1, c⟩] := by unfold extM; rw [if_neg (fun h => h.1 rfl)]; rfl
/-- The conditions of Extend. -/
structure ExtOk (l : List Sp) (n c : Int) : Prop where
  lin : Lin l
  n0 : 1 ≤ n
  n1 : n ≤ 1073741824
  c1 : c ≤ 1073741824
  up : (tailS l).ep ≤ n
  far : (tailS l).to < c
theorem ExtOk.zero {l : List Sp} {n c : Int} (h : ExtOk l n c) : extE l n c = 0 := by
  unfold extE
  have := (lin_tail_to l h.lin).1
  have h1 := h.far
  rw [if_pos (chkL_zero.2 h.lin), if_pos, if_pos h.up, if_pos h.far]
  simp only [inB, Bool.and_eq_true, decide_eq_true_eq]
  exact ⟨⟨h.n0, h.n1⟩, by omega, h.c1⟩
theorem ext_tail : ∀ (l : List Sp) (n c : Int), (tailS (extM l n c)).ep = n ∧ (tailS (extM l n c)).to = c := by
  intro l n c
  cases l using snoc_ind with
  | h0 => rw [extM_nil]; exact ⟨rfl, rfl⟩
  | h1 l x _ =>
    rw [extM_snoc]
    split
    · rename_i h; rw [tailS_snoc]; exact ⟨h.symm, rfl⟩
    · rw [tailS_snoc]; exact ⟨rfl, rfl⟩
theorem ext_length (l : List Sp) (n c : Int) : (extM l n c).length ≤ l.length + 1 := by
  cases l using snoc_ind with
  | h0 => rw [extM_nil]; simp
  | h1 l x _ => rw [extM_snoc]; split <;> simp
theorem ext_lin {l : List Sp} {n c : Int} (h : ExtOk l n c) : Lin (extM l n c) := by
  have h0 := h.lin
  have h1 := h.n0
  have h2 := h.n1
  have h3 := h.c1
  have h4 := h.up
  have h5 := h.far
  cases l using snoc_ind with
  | h0 =>
    rw [extM_nil]
    have : (tailS []).to = 0 := rfl
    rw [this] at h5
    exact lin_snoc (l := []).2 ⟨lin_nil, ⟨h1, h2, by show (1 : Int) ≤ 1; omega, by show (1 : Int) ≤ _; omega, by show 1 ≤ c; omega, h3, by show 1 ≤ c; omega, rfl, by show 0 < n; omega⟩⟩
  | h1 l x _ =>
    rw [tailS_snoc] at h4 h5
    obtain ⟨ha, hb⟩ := lin_snoc.1 h0
    have b1 := hb.e0
    have b2 := hb.e1
    have b3 := hb.f0
    have b4 := hb.f1
    have b5 := hb.t0
    have b6 := hb.t1
    have b7 := hb.ft
    rw [extM_snoc]
    split
    · exact lin_snoc.2 ⟨ha, ⟨b1, b2, b3, b4, by show 1 ≤ c; omega, h3, by show x.fr ≤ c; omega, hb.gap, hb.up⟩⟩
    · rename_i hne
      refine lin_snoc.2 ⟨h0, ?_⟩
      rw [tailS_snoc]
      exact ⟨h1, h2, by show 1 ≤ x.to + 1; omega, by show x.to + 1 ≤ _; omega, by show 1 ≤ c; omega, h3, by show x.to + 1 ≤ c; omega, rfl, by show x.ep < n; omega⟩

/-- The epoch of a cycle. -/
def eAt (l : List Sp) (q : Int) : Option Int := (findS l q).map Sp.ep
theorem findS_none {l : List Sp} {q : Int} (h : ∀ y ∈ l, hasB q y = false) : findS l q = none := List.find?_eq_none.2 fun y hy => by rw [h y hy]; simp
theorem eAt_snoc (l : List Sp) (x : Sp) (q : Int) : eAt (l ++ [x]) q = (eAt l q).or (if hasB q x then some x.ep else none) := by
  unfold eAt findS
  rw [List.find?_append]
  cases h : l.find? (hasB q) with
  | some y => simp
  | none =>
    cases hb : hasB q x with
    | true => simp [List.find?_cons, hb]
    | false => simp [List.find?_cons, hb]
theorem eAt_far {l : List Sp} (h : Lin l) {q : Int} (hq : (tailS l).to < q) : eAt l q = none := by
  unfold eAt
  rw [findS_none]
  · rfl
  · intro y hy
    have := lin_mem l h y hy
    simp only [hasB, Bool.and_eq_false_iff, decide_eq_false_iff_not]
    omega
theorem eAt_low {l : List Sp} (h : Lin l) {q : Int} (hq : q < 1) : eAt l q = none := by
  unfold eAt
  rw [findS_none]
  · rfl
  · intro y hy
    have := lin_mem l h y hy
    simp only [hasB, Bool.and_eq_false_iff, decide_eq_false_iff_not]
    omega
theorem eAt_ext {l : List Sp} {n c : Int} (h : ExtOk l n c) (q : Int) : eAt (extM l n c) q = if q ≤ (tailS l).to then eAt l q else if q ≤ c then some n else none := by
  have h0 := h.lin
  have h5 := h.far
  cases l using snoc_ind with
  | h0 =>
    rw [extM_nil]
    have e : (tailS []).to = 0 := rfl
    rw [e] at h5 ⊢
    show eAt ([] ++ [_]) q = _
    rw [eAt_snoc]
    have : eAt [] q = none := rfl
    rw [this]
    simp only [hasB, Bool.and_eq_true, decide_eq_true_eq, Option.none_or]
    split
    · rename_i hh; rw [if_neg (by omega), if_pos hh.2]
    · rename_i hh
      split
      · rfl
      · rw [if_neg (by omega)]
  | h1 l x _ =>
    rw [tailS_snoc] at h5 ⊢
    obtain ⟨ha, hb⟩ := lin_snoc.1 h0
    have b7 := hb.ft
    have b8 := hb.gap
    rw [extM_snoc]
    split
    · rename_i hn
      rw [eAt_snoc, eAt_snoc]
      simp only [hasB, Bool.and_eq_true, decide_eq_true_eq]
      by_cases hq : q ≤ x.to
      · rw [if_pos hq]
        congr 1
        by_cases hf : x.fr ≤ q
        · rw [if_pos ⟨hf, by omega⟩, if_pos ⟨hf, hq⟩]
        · rw [if_neg (fun h => hf h.1), if_neg (fun h => hf h.1)]
      · rw [if_neg hq, eAt_far ha (by omega), Option.none_or, hn]
        by_cases hc : q ≤ c
        · rw [if_pos ⟨by omega, hc⟩, if_pos hc]
        · rw [if_neg (fun h => hc h.2), if_neg hc]
    · rename_i hn
      rw [eAt_snoc (l ++ [x])]
      simp only [hasB, Bool.and_eq_true, decide_eq_true_eq]
      by_cases hq : q ≤ x.to
      · rw [if_pos hq, if_neg (by omega)]
        simp
      · rw [if_neg hq, eAt_far h0 (by rw [tailS_snoc]; omega), Option.none_or]
        by_cases hc : q ≤ c
        · rw [if_pos ⟨by omega, hc⟩, if_pos hc]
        · rw [if_neg (fun h => hc h.2), if_neg hc]

/-- Truncating gives the beginning back. -/
theorem cut_self {l : List Sp} (h : Lin l) : l.filterMap (cutS (tailS l).to) = l := by
  have : ∀ (m : List Sp) (c : Int), (∀ y ∈ m, y.to ≤ c ∧ y.fr ≤ y.to) → m.filterMap (cutS c) = m := by
    intro m c
    induction m with
    | nil => intro _; rfl
    | cons y m ih =>
      intro hm
      have hy := hm y (by simp)
      have : cutS c y = some y := by
        unfold cutS
        rw [if_pos (by omega), show min y.to c = y.to by omega]
      rw [List.filterMap_cons, this]
      simp only
      rw [ih fun z hz => hm z (by simp [hz])]
  exact this l _ fun y hy => by have := lin_mem l h y hy; exact ⟨this.1, this.2.1⟩
theorem cut_ext {l : List Sp} {n c q : Int} (h : ExtOk l n c) (hq : q ≤ (tailS l).to) : (extM l n c).filterMap (cutS q) = l.filterMap (cutS q) := by
  have h0 := h.lin
  have h5 := h.far
  cases l using snoc_ind with
  | h0 =>
    rw [extM_nil]
    have e : (tailS []).to = 0 := rfl
    rw [e] at hq
    simp [cutS]
    omega
  | h1 l x _ =>
    rw [tailS_snoc] at h5 hq
    rw [extM_snoc]
    split
    · rw [List.filterMap_append, List.filterMap_append]
      congr 1
      have : cutS q ⟨x.ep, x.fr, c⟩ = cutS q x := by
        unfold cutS
        simp only
        rw [show min c q = min x.to q by omega]
      simp only [List.filterMap_cons, this]
    · rw [List.filterMap_append]
      have : cutS q ⟨n, x.to + 1, c⟩ = none := by unfold cutS; rw [if_neg (by show ¬ x.to + 1 ≤ q; omega)]
      simp [this]

/-! What grown computes. -/
structure GSt where
  n : Int
  cyc : Int
  l : List Sp
  ep : List Int
structure P8 where
  a : Int
  b : Int
def GSt.n' (s : GSt) (p : P8) : Int := max (s.n + p.a % 3) 1
def GSt.to' (s : GSt) (p : P8) : Int := s.cyc + 1 + p.b % 4
def GSt.step (s : GSt) (p : P8) : GSt := ⟨s.n' p, s.to' p, extM s.l (s.n' p) (s.to' p), s.ep ++ List.replicate (1 + p.b % 4).toNat (s.n' p)⟩
def growth (s : GSt) (ps : List P8) : GSt := ps.foldl GSt.step s
theorem growth_snoc (s : GSt) (ps : List P8) (p : P8) : growth s (ps ++ [p]) = (growth s ps).step p := by simp [growth]
/-- The state is in order. -/
structure GOk (s : GSt) : Prop where
  lin : Lin s.l
  n : s.n = (tailS s.l).ep
  cyc : s.cyc = (tailS s.l).to
theorem GOk.ext {s : GSt} (h : GOk s) (hn : s.n ≤ 1000000) (hc : s.cyc ≤ 1000000) (p : P8) : ExtOk s.l (s.n' p) (s.to' p) := by
  have h1 := h.n
  have h2 := h.cyc
  have h3 := lin_tail_to s.l h.lin
  exact ⟨h.lin, by unfold GSt.n'; omega, by unfold GSt.n'; omega, by unfold GSt.to'; omega, by unfold GSt.n'; omega, by unfold GSt.to'; omega⟩
theorem GOk.step {s : GSt} (h : GOk s) (hn : s.n ≤ 1000000) (hc : s.cyc ≤ 1000000) (p : P8) : GOk (s.step p) := by
  have he := h.ext hn hc p
  have ht := ext_tail s.l (s.n' p) (s.to' p)
  exact ⟨ext_lin he, ht.1.symm, ht.2.symm⟩
theorem growth_ok (ps : List P8) : ∀ s : GSt, GOk s → 0 ≤ s.n → 0 ≤ s.cyc → s.n + 3 * ps.length ≤ 1000000 → s.cyc + 4 * ps.length ≤ 1000000 →
    GOk (growth s ps) ∧ (growth s ps).n ≤ s.n + 3 * ps.length ∧ s.cyc ≤ (growth s ps).cyc ∧ (growth s ps).cyc ≤ s.cyc + 4 * ps.length ∧ 0 ≤ (growth s ps).n ∧ (growth s ps).l.length ≤ s.l.length + ps.length := by
  induction ps with
  | nil => intro s h h0 h1 _ _; exact ⟨h, by simp [growth], by simp [growth], by simp [growth], by simpa [growth] using h0, by simp [growth]⟩
  | cons p ps ih =>
    intro s h h0 h1 h2 h3
    simp only [List.length_cons] at h2 h3
    have e1 : (s.step p).n = max (s.n + p.a % 3) 1 := rfl
    have e2 : (s.step p).cyc = s.cyc + 1 + p.b % 4 := rfl
    have e3 : (s.step p).l.length ≤ s.l.length + 1 := ext_length _ _ _
    obtain ⟨i1, i2, i3, i4, i5, i6⟩ := ih (s.step p) (h.step (by omega) (by omega) p) (by omega) (by omega) (by omega) (by omega)
    have e : growth s (p :: ps) = growth (s.step p) ps := rfl
    rw [e]
    simp only [List.length_cons]
    exact ⟨i1, by omega, by omega, by omega, i5, by omega⟩
/-- Earlier cycles keep their epochs, and truncating gives the beginning back. -/
theorem growth_keeps (ps : List P8) : ∀ s : GSt, GOk s → 0 ≤ s.n → 0 ≤ s.cyc → s.n + 3 * ps.length ≤ 1000000 → s.cyc + 4 * ps.length ≤ 1000000 → ∀ q, q ≤ s.cyc →
    eAt (growth s ps).l q = eAt s.l q ∧ (growth s ps).l.filterMap (cutS q) = s.l.filterMap (cutS q) := by
  induction ps with
  | nil => intro s _ _ _ _ _ q _; exact ⟨rfl, rfl⟩
  | cons p ps ih =>
    intro s h h0 h1 h2 h3 q hq
    simp only [List.length_cons] at h2 h3
    have e1 : (s.step p).n = max (s.n + p.a % 3) 1 := rfl
    have e2 : (s.step p).cyc = s.cyc + 1 + p.b % 4 := rfl
    have e : growth s (p :: ps) = growth (s.step p) ps := rfl
    have hx := h.ext (by omega) (by omega) p
    have hc := h.cyc
    obtain ⟨i1, i2⟩ := ih (s.step p) (h.step (by omega) (by omega) p) (by omega) (by omega) (by omega) (by omega) q (by omega)
    rw [e, i1, i2]
    refine ⟨?_, ?_⟩
    · show eAt (extM s.l (s.n' p) (s.to' p)) q = _
      rw [eAt_ext hx, if_pos (by omega)]
    · exact cut_ext hx (by omega)
/-- The epochs of all cycles. -/
structure GEp (s : GSt) : Prop where
  len : s.cyc = s.ep.length
  at_ : ∀ i (h : i < s.ep.length), eAt s.l (i + 1) = some s.ep[i]
theorem GEp.step {s : GSt} (h : GEp s) (hg : GOk s) (hn : s.n ≤ 1000000) (hc : s.cyc ≤ 1000000) (h0 : 0 ≤ s.cyc) (p : P8) : GEp (s.step p) := by
  have hl := h.len
  have hcy := hg.cyc
  have hx := hg.ext hn hc p
  have hb : 0 ≤ p.b % 4 := by omega
  constructor
  · show s.cyc + 1 + p.b % 4 = ((s.ep ++ List.replicate (1 + p.b % 4).toNat (s.n' p)).length : Int)
    rw [List.length_append, List.length_replicate]
    omega
  · intro i hi
    have hi' : i < (s.ep ++ List.replicate (1 + p.b % 4).toNat (s.n' p)).length := hi
    show eAt (extM s.l (s.n' p) (s.to' p)) _ = some (s.ep ++ List.replicate (1 + p.b % 4).toNat (s.n' p))[i]
    rw [eAt_ext hx]
    by_cases h2 : i < s.ep.length
    · rw [if_pos (by omega), h.at_ i h2, List.getElem_append_left h2]
    · rw [List.length_append, List.length_replicate] at hi'
      rw [if_neg (by omega), if_pos (by unfold GSt.to'; omega), List.getElem_append_right (by omega), List.getElem_replicate]
theorem growth_ep (ps : List P8) : ∀ s : GSt, GEp s → GOk s → 0 ≤ s.n → 0 ≤ s.cyc → s.n + 3 * ps.length ≤ 1000000 → s.cyc + 4 * ps.length ≤ 1000000 → GEp (growth s ps) := by
  induction ps with
  | nil => intro s h _ _ _ _ _; exact h
  | cons p ps ih =>
    intro s h hg h0 h1 h2 h3
    simp only [List.length_cons] at h2 h3
    have e1 : (s.step p).n = max (s.n + p.a % 3) 1 := rfl
    have e2 : (s.step p).cyc = s.cyc + 1 + p.b % 4 := rfl
    exact ih (s.step p) (h.step hg (by omega) (by omega) h1 p) (hg.step (by omega) (by omega) p) (by omega) (by omega) (by omega) (by omega)
end Go.Proofs.Ytcdifegjlllbfaa

/- Plain laws of budgets: paths, time in steps, the time of When. No condition. -/
import Derived.Test.YtlgahhfpdomdmaaUse
set_option linter.unusedVariables false
set_option linter.unusedSimpArgs false
namespace Go.Proofs.Ytlgahhfpdomdmaa

/-! Paths depend on parents alone. -/
def SamePar (l m : List Bk) : Prop := l.length = m.length ∧ ∀ i (h : i < l.length) (h' : i < m.length), l[i].par = m[i].par
theorem pathF_same {l m : List Bk} (h : SamePar l m) : ∀ (f : Nat) (i : Int), pathF l f i = pathF m f i := by
  intro f
  induction f with
  | zero => intro i; rfl
  | succ f ih =>
    intro i
    simp only [pathF]
    by_cases hi : 0 ≤ i ∧ i.toNat < l.length
    · have hi' : 0 ≤ i ∧ i.toNat < m.length := by rw [← h.1]; exact hi
      rw [dif_pos hi, dif_pos hi', ih, h.2 _ hi.2 hi'.2]
    · have hi' : ¬ (0 ≤ i ∧ i.toNat < m.length) := by rw [← h.1]; exact hi
      rw [dif_neg hi, dif_neg hi']
theorem pathL_same {l m : List Bk} (h : SamePar l m) (i : Int) : pathL l i = pathL m i := by
  unfold pathL
  rw [h.1]
  exact pathF_same h _ i
theorem SamePar.refl (l : List Bk) : SamePar l l := ⟨rfl, fun _ _ _ => rfl⟩
theorem SamePar.trans {a b c : List Bk} (h : SamePar a b) (h' : SamePar b c) : SamePar a c := ⟨h.1.trans h'.1, fun i h1 h3 => (h.2 i h1 (by rw [← h.1]; exact h1)).trans (h'.2 i _ h3)⟩
theorem SamePar.symm {a b : List Bk} (h : SamePar a b) : SamePar b a := ⟨h.1.symm, fun i h1 h2 => (h.2 i h2 h1).symm⟩
theorem same_later (l : List Bk) (d : Int) : SamePar (l.map (Bk.later d)) l := ⟨by simp, fun i h h' => by simp [Bk.later]⟩
theorem same_take (l : List Bk) (n : Int) (p : List Nat) : SamePar (takeM l n p) l := ⟨takeM_length l n p, fun i h h' => by rw [takeM_at h']; split <;> rfl⟩
theorem same_step (s : St) (u : Us) : SamePar (s.step u).l s.l := (same_take _ _ _).trans (same_later _ _)
theorem same_run (us : List Us) : ∀ s : St, SamePar (runU s us).l s.l := by
  induction us with
  | nil => intro s; exact SamePar.refl _
  | cons u us ih => intro s; exact (ih (s.step u)).trans (same_step s u)

/-! Time may pass in steps. -/
theorem later_later {x : Bk} {d e : Int} (hr : 0 ≤ x.rate) (he : 0 ≤ e) : (x.later d).later e = x.later (d + e) := by
  have h := Int.mul_nonneg hr he
  simp only [Bk.later]
  congr 1
  rw [Int.mul_add]
  omega
theorem later_list {t : Int} {l : List Bk} (h : BudOk t l) {d e : Int} (he : 0 ≤ e) : (l.map (Bk.later d)).map (Bk.later e) = l.map (Bk.later (d + e)) := by
  rw [List.map_map]
  apply List.map_congr_left
  intro x hx
  obtain ⟨k, hk, rfl⟩ := List.getElem_of_mem hx
  exact later_later (h.at_ k hk).r0 he

/-! At the time of When, and a tick before. -/
theorem tokAt_later {l : List Bk} {i : Nat} (h : i < l.length) (d : Int) : tokAt (l.map (Bk.later d)) i = min (l[i].tok + l[i].rate * d) l[i].burst := by
  rw [tokAt_of (by simpa using h)]
  simp [Bk.later]
theorem waitL_none {l : List Bk} {n : Int} : ∀ (p : List Nat) (v : Int), (∀ i ∈ p, i < l.length) → waitL l n p v = none → ∃ i ∈ p, ∃ h : i < l.length, l[i].tok < n ∧ (l[i].burst < n ∨ l[i].rate = 0) := by
  intro p
  induction p with
  | nil => intro v _ h; simp [waitL] at h
  | cons i p ih =>
    intro v hp h
    have hi := hp i (by simp)
    simp only [waitL] at h
    split at h
    · obtain ⟨j, hj, h⟩ := ih _ (fun j hj => hp j (by simp [hj])) h
      exact ⟨j, by simp [hj], h⟩
    · rename_i hs
      unfold waitStep at hs
      rw [bkAt_eq hi] at hs
      split at hs
      · cases hs
      · split at hs
        · rename_i h1 h2
          exact ⟨i, by simp, hi, by omega, h2⟩
        · cases hs
theorem ceil_mul {a r : Int} (hr : 0 < r) : a ≤ r * ((a + r - 1) / r) ∧ r * ((a + r - 1) / r - 1) < a := by
  have h1 := Int.mul_ediv_add_emod (a + r - 1) r
  have h2 := Int.emod_nonneg (a + r - 1) (show r ≠ 0 by omega)
  have h3 := Int.emod_lt_of_pos (a + r - 1) hr
  rw [Int.mul_sub, Int.mul_one]
  omega
theorem waitL_some {l : List Bk} {n : Int} {t : Int} (hb : BudOk t l) : ∀ (p : List Nat) (v u : Int), (∀ i ∈ p, i < l.length) → 0 ≤ v → waitL l n p v = some u →
    v ≤ u ∧ (∀ i ∈ p, ∃ h : i < l.length, n ≤ min (l[i].tok + l[i].rate * u) l[i].burst ∨ n ≤ l[i].tok) ∧ (u = v ∨ ∃ i ∈ p, ∃ h : i < l.length, l[i].tok + l[i].rate * (u - 1) < n) := by
  intro p
  induction p with
  | nil => intro v u _ _ h; simp [waitL] at h; subst h; exact ⟨Int.le_refl _, by simp, .inl rfl⟩
  | cons i p ih =>
    intro v u hp hv h
    have hi := hp i (by simp)
    have ok := hb.at_ i hi
    simp only [waitL] at h
    split at h
    · rename_i v' hs
      unfold waitStep at hs
      rw [bkAt_eq hi] at hs
      split at hs
      · rename_i h1
        injection hs with hs
        subst hs
        obtain ⟨h2, h3, h4⟩ := ih v u (fun j hj => hp j (by simp [hj])) hv h
        refine ⟨h2, fun j hj => ?_, ?_⟩
        · rcases List.mem_cons.1 hj with rfl | hj
          · exact ⟨hi, .inr h1⟩
          · exact h3 j hj
        · rcases h4 with h4 | ⟨j, hj, h4⟩
          · exact .inl h4
          · exact .inr ⟨j, by simp [hj], h4⟩
      · split at hs
        · cases hs
        · rename_i h1 h2
          injection hs with hs
          have hr0 := ok.r0
          have hr : 0 < l[i].rate := by omega
          have hc := ceil_mul (a := n - l[i].tok) hr
          have hq : 0 ≤ (n - l[i].tok + l[i].rate - 1) / l[i].rate := Int.ediv_nonneg (by omega) hr0
          obtain ⟨h5, h3, h4⟩ := ih v' u (fun j hj => hp j (by simp [hj])) (by omega) h
          have hm : l[i].rate * ((n - l[i].tok + l[i].rate - 1) / l[i].rate) ≤ l[i].rate * u := Int.mul_le_mul_of_nonneg_left (by omega) hr0
          refine ⟨by omega, fun j hj => ?_, ?_⟩
          · rcases List.mem_cons.1 hj with rfl | hj
            · exact ⟨hi, .inl (by omega)⟩
            · exact h3 j hj
          · rcases h4 with h4 | ⟨j, hj, h4⟩
            · by_cases hmax : v' = v
              · exact .inl (h4.trans hmax)
              · refine .inr ⟨i, by simp, hi, ?_⟩
                have : u = (n - l[i].tok + l[i].rate - 1) / l[i].rate := by omega
                rw [this]
                omega
            · exact .inr ⟨j, by simp [hj], h4⟩
    · cases h
theorem path_later (l : List Bk) (d : Int) (k : Int) : pathL (l.map (Bk.later d)) k = pathL l k := pathL_same (same_later l d) k
theorem avail_lt {t : Int} {l : List Bk} (h : BudOk t l) {k : Nat} (hk : k < l.length) {d : Int} (hd : 0 ≤ d) (htd : t + d ≤ 1073741824) {n : Int} {i : Nat} (hi : i ∈ pathL l k) (h' : i < l.length) (hlt : min (l[i].tok + l[i].rate * d) l[i].burst < n) :
    availL (l.map (Bk.later d)) k < n := by
  have h1 := (le_availL (h.later hd htd) (k := k) (by simpa using hk) (availL (l.map (Bk.later d)) k)).1 (Int.le_refl _) i (by rw [path_later]; exact hi)
  rw [tokAt_later h'] at h1
  omega
theorem le_avail {t : Int} {l : List Bk} (h : BudOk t l) {k : Nat} (hk : k < l.length) {d : Int} (hd : 0 ≤ d) (htd : t + d ≤ 1073741824) {n : Int} (hn : ∀ i ∈ pathL l k, ∃ h : i < l.length, n ≤ min (l[i].tok + l[i].rate * d) l[i].burst) :
    n ≤ availL (l.map (Bk.later d)) k := by
  rw [le_availL (h.later hd htd) (by simpa using hk)]
  intro i hi
  rw [path_later] at hi
  obtain ⟨h', h1⟩ := hn i hi
  rw [tokAt_later h']
  exact h1
/-- When never comes: not even at the last tick. -/
theorem first_never {t : Int} {l : List Bk} (h : BudOk t l) {k : Nat} (hk : k < l.length) {n : Int} (hn : 0 ≤ n) (he : whnE t l k n ≠ 0) : whnE t l k n = 21 ∧ availL (l.map (Bk.later (1073741824 - t))) k < n := by
  have ht0 := h.t0
  have ht1 := h.t1
  have hp : ∀ i ∈ pathL l k, i < l.length := fun i hi => path_in_range h hk hi
  unfold whnE at he ⊢
  rw [if_pos (find_ok h hk), if_neg (by omega)] at he ⊢
  cases hw : waitL l n (pathL l k) 0 with
  | none =>
    refine ⟨rfl, ?_⟩
    obtain ⟨i, hi, h', h1, h2⟩ := waitL_none _ _ hp hw
    refine avail_lt h hk (by omega) (by omega) hi h' ?_
    rcases h2 with h2 | h2
    · omega
    · rw [h2]; omega
  | some v =>
    rw [hw] at he
    by_cases hv : 1073741824 < t + v
    · refine ⟨if_pos hv, ?_⟩
      obtain ⟨h1, _, h3⟩ := waitL_some h _ _ _ hp (Int.le_refl _) hw
      rcases h3 with h3 | ⟨i, hi, h', h3⟩
      · omega
      · refine avail_lt h hk (by omega) (by omega) hi h' ?_
        have := Int.mul_le_mul_of_nonneg_left (show 1073741824 - t ≤ v - 1 by omega) (h.at_ i h').r0
        omega
    · exact absurd (if_neg hv) he
/-- When comes: then there is enough, and a tick before there is not. -/
theorem first_then {t : Int} {l : List Bk} (h : BudOk t l) {k : Nat} (hk : k < l.length) {n : Int} (hn : 0 ≤ n) (he : whnE t l k n = 0) :
    t ≤ whnT t l k n ∧ whnT t l k n ≤ 1073741824 ∧ n ≤ availL (l.map (Bk.later (whnT t l k n - t))) k ∧ (whnT t l k n ≠ t → availL (l.map (Bk.later (whnT t l k n - 1 - t))) k < n) := by
  have ht0 := h.t0
  have hp : ∀ i ∈ pathL l k, i < l.length := fun i hi => path_in_range h hk hi
  have hT : whnT t l k n = t + (waitL l n (pathL l k) 0).getD 0 := by unfold whnT; rw [if_pos he]
  unfold whnE at he
  rw [if_pos (find_ok h hk), if_neg (by omega)] at he
  cases hw : waitL l n (pathL l k) 0 with
  | none => rw [hw] at he; simp at he
  | some v =>
    rw [hw] at he hT
    simp only [Option.getD_some] at hT
    by_cases hv : 1073741824 < t + v
    · simp [hv] at he
    · obtain ⟨h1, h2, h3⟩ := waitL_some h _ _ _ hp (Int.le_refl _) hw
      rw [hT]
      refine ⟨by omega, by omega, ?_, fun hne => ?_⟩
      · refine le_avail h hk (by omega) (by omega) fun i hi => ?_
        obtain ⟨h', h4⟩ := h2 i hi
        refine ⟨h', ?_⟩
        have ok := h.at_ i h'
        have := Int.mul_nonneg ok.r0 h1
        have h5 := ok.t1
        rw [show t + v - t = v by omega]
        rcases h4 with h4 | h4 <;> omega
      · rcases h3 with h3 | ⟨i, hi, h', h3⟩
        · omega
        · have ok := h.at_ i h'
          refine avail_lt h hk (by omega) (by omega) hi h' ?_
          rw [show t + v - 1 - t = v - 1 by omega]
          omega
end Go.Proofs.Ytlgahhfpdomdmaa

/- What the law's used computes, in plain Lean: budgets in order stay in order. No condition. -/
import Derived.Test.YtlgahhfpdomdmaaPlan
set_option linter.unusedVariables false
set_option linter.unusedSimpArgs false
namespace Go.Proofs.Ytlgahhfpdomdmaa
open Go.RowKit

/-! Budgets in order stay in order. -/
theorem BkOk.later {x : Bk} {i d : Int} (h : BkOk x i) (hd : 0 ≤ d) : BkOk (x.later d) i := by
  have h1 := Int.mul_nonneg h.r0 hd
  have h2 := h.t0
  have h3 := h.t1
  have h4 := h.b0
  refine ⟨h.p0, h.p1, h.r0, h.r1, h.b0, h.b1, ?_, ?_⟩ <;> simp only [Bk.later] <;> omega
theorem BudOk.later {t : Int} {l : List Bk} (h : BudOk t l) {d : Int} (hd : 0 ≤ d) (ht : t + d ≤ 1073741824) : BudOk (t + d) (l.map (Bk.later d)) := by
  refine ⟨by rw [List.length_map]; exact h.len, by have := h.t0; omega, ht, fun k hk => ?_⟩
  have hk' : k < l.length := by rwa [List.length_map] at hk
  rw [List.getElem_map]
  exact (h.at_ k hk').later hd
theorem adv_zero {t : Int} {l : List Bk} (h : BudOk t l) {now : Int} (h0 : t ≤ now) (h1 : now ≤ 1073741824) : advE t l now = 0 ∧ advT t l now = now ∧ advL t l now = l.map (Bk.later (now - t)) := by
  have e : advE t l now = 0 := by unfold advE; rw [if_pos (chk_zero.2 h), if_neg (by omega)]
  exact ⟨e, by unfold advT; rw [if_pos e], by unfold advL; rw [if_pos e]⟩
theorem leastT_ge {l : List Bk} {m : Int} : ∀ (p : List Nat) (n : Int), m ≤ n → (∀ i ∈ p, m ≤ tokAt l i) → m ≤ leastT l n p := by
  intro p
  induction p with
  | nil => intro n h _; exact h
  | cons i p ih =>
    intro n h hp
    exact ih (min n (tokAt l i)) (by have := hp i (by simp); omega) (fun j hj => hp j (by simp [hj]))
theorem mem_pathL_self {t : Int} {l : List Bk} (h : BudOk t l) {k : Nat} (hk : k < l.length) : k ∈ pathL l k := by rw [pathL_step h.up hk]; simp
/-- What is available: at least m, if each bucket of the path has it. -/
theorem le_availL {t : Int} {l : List Bk} (h : BudOk t l) {k : Nat} (hk : k < l.length) (m : Int) : m ≤ availL l k ↔ ∀ i ∈ pathL l k, m ≤ tokAt l i := by
  constructor
  · intro hm i hi
    have := (leastT_le l (pathL l k) (tokAt l k)).2 i hi
    unfold availL at hm
    omega
  · intro hm
    exact leastT_ge _ _ (hm k (mem_pathL_self h hk)) hm
theorem path_in_range {t : Int} {l : List Bk} (h : BudOk t l) {k : Nat} (hk : k < l.length) {i : Nat} (hi : i ∈ pathL l k) : i < l.length := (pathL_lt h.up (k + 1) _ (by omega) (by omega) i hi).1
theorem tokAt_of {l : List Bk} {i : Nat} (h : i < l.length) : tokAt l i = l[i].tok := by simp [tokAt, h]
theorem availL_nonneg {t : Int} {l : List Bk} (h : BudOk t l) {k : Nat} (hk : k < l.length) : 0 ≤ availL l k := by
  rw [le_availL h hk]
  intro i hi
  rw [tokAt_of (path_in_range h hk hi)]
  exact (h.at_ i _).t0
theorem availL_le {t : Int} {l : List Bk} (h : BudOk t l) {k : Nat} (hk : k < l.length) : availL l k ≤ 1073741824 := by
  have h1 : availL l k ≤ tokAt l k := (leastT_le l (pathL l k) (tokAt l k)).1
  rw [tokAt_of hk] at h1
  have h2 := (h.at_ k hk).t1
  have h3 := (h.at_ k hk).b1
  omega
theorem find_ok {t : Int} {l : List Bk} (h : BudOk t l) {k : Nat} (hk : k < l.length) : findE t l k = 0 := findE_zero.2 ⟨h, by omega, by omega⟩
theorem avl_ok {t : Int} {l : List Bk} (h : BudOk t l) {k : Nat} (hk : k < l.length) : avlV t l k = availL l k := by unfold avlV; rw [if_pos (find_ok h hk)]; rfl
theorem takeM_length (l : List Bk) (n : Int) (p : List Nat) : (takeM l n p).length = l.length := by simp [takeM]
theorem takeM_at {l : List Bk} {n : Int} {p : List Nat} {i : Nat} (hi : i < l.length) (h : i < (takeM l n p).length) : (takeM l n p)[i] = if i ∈ p then { l[i] with tok := l[i].tok - n } else l[i] := by simp [takeM]
theorem BudOk.take {t : Int} {l : List Bk} (h : BudOk t l) {k : Nat} (hk : k < l.length) {n : Int} (h0 : 0 ≤ n) (h1 : n ≤ availL l k) : BudOk t (takeM l n (pathL l k)) := by
  refine ⟨by rw [takeM_length]; exact h.len, h.t0, h.t1, fun i hi => ?_⟩
  have hi' : i < l.length := by rwa [takeM_length] at hi
  rw [takeM_at hi']
  have hx := h.at_ i hi'
  split
  · rename_i hm
    have h2 := (le_availL h hk n).1 h1 i hm
    rw [tokAt_of hi'] at h2
    have := hx.t1
    exact ⟨hx.p0, hx.p1, hx.r0, hx.r1, hx.b0, hx.b1, by show 0 ≤ l[i].tok - n; omega, by show l[i].tok - n ≤ l[i].burst; omega⟩
  · exact hx
theorem tak_zero {t : Int} {l : List Bk} (h : BudOk t l) {k : Nat} (hk : k < l.length) {n : Int} (h0 : 0 ≤ n) (h1 : n ≤ availL l k) : takE t l k n = 0 ∧ takT t l k n = t ∧ takL t l k n = takeM l n (pathL l k) := by
  have e : takE t l k n = 0 := by unfold takE; rw [if_pos (find_ok h hk), if_neg (by omega), if_neg (by rw [Int.toNat_natCast]; omega)]
  exact ⟨e, by unfold takT; rw [if_pos e], by unfold takL; rw [if_pos e]⟩

/-! What the law's used computes. -/
structure St where
  t : Int
  l : List Bk
  tk : List Tk
def St.adv (s : St) (u : Us) : List Bk := s.l.map (Bk.later (u.wait % 6))
def St.buk (s : St) (u : Us) : Nat := (u.bucket % s.l.length).toNat
def St.amt (s : St) (u : Us) : Int := u.want % (availL (s.adv u) (s.buk u) + 1)
def St.step (s : St) (u : Us) : St := ⟨s.t + u.wait % 6, takeM (s.adv u) (s.amt u) (pathL (s.adv u) (s.buk u)), s.tk ++ [⟨s.t + u.wait % 6, s.buk u, s.amt u⟩]⟩
def runU (s : St) (us : List Us) : St := us.foldl St.step s
theorem runU_snoc (s : St) (us : List Us) (u : Us) : runU s (us ++ [u]) = (runU s us).step u := by simp [runU]
theorem adv_length (s : St) (u : Us) : (s.adv u).length = s.l.length := by simp [St.adv]
theorem step_length (s : St) (u : Us) : (s.step u).l.length = s.l.length := by simp [St.step, takeM_length, adv_length]
theorem runU_length (us : List Us) : ∀ s : St, (runU s us).l.length = s.l.length := by
  induction us with
  | nil => intro s; rfl
  | cons u us ih => intro s; exact (ih (s.step u)).trans (step_length s u)
/-- One use of a budget in order. -/
structure StepOk (s : St) (u : Us) : Prop where
  w0 : 0 ≤ u.wait % 6
  w1 : u.wait % 6 ≤ 5
  advE : Ytlgahhfpdomdmaa.advE s.t s.l (s.t + u.wait % 6) = 0
  advT : Ytlgahhfpdomdmaa.advT s.t s.l (s.t + u.wait % 6) = s.t + u.wait % 6
  advL : Ytlgahhfpdomdmaa.advL s.t s.l (s.t + u.wait % 6) = s.adv u
  ok1 : BudOk (s.t + u.wait % 6) (s.adv u)
  buk : s.buk u < (s.adv u).length
  find : findE (s.t + u.wait % 6) (s.adv u) (s.buk u) = 0
  avl : avlV (s.t + u.wait % 6) (s.adv u) (s.buk u) = availL (s.adv u) (s.buk u)
  av0 : 0 ≤ availL (s.adv u) (s.buk u)
  av1 : availL (s.adv u) (s.buk u) ≤ 1073741824
  n0 : 0 ≤ s.amt u
  n1 : s.amt u ≤ availL (s.adv u) (s.buk u)
  takE : Ytlgahhfpdomdmaa.takE (s.t + u.wait % 6) (s.adv u) (s.buk u) (s.amt u) = 0
  takT : Ytlgahhfpdomdmaa.takT (s.t + u.wait % 6) (s.adv u) (s.buk u) (s.amt u) = s.t + u.wait % 6
  takL : Ytlgahhfpdomdmaa.takL (s.t + u.wait % 6) (s.adv u) (s.buk u) (s.amt u) = (s.step u).l
  ok2 : BudOk (s.step u).t (s.step u).l
theorem step_ok {s : St} {u : Us} (h : BudOk s.t s.l) (hl : 0 < s.l.length) (ht : s.t ≤ 1000000000) : StepOk s u := by
  have w0 : 0 ≤ u.wait % 6 := Int.emod_nonneg _ (by omega)
  have w1 : u.wait % 6 ≤ 5 := by omega
  have ha := adv_zero h (now := s.t + u.wait % 6) (by omega) (by omega)
  have hok : BudOk (s.t + u.wait % 6) (s.adv u) := h.later w0 (by omega)
  have hb : s.buk u < (s.adv u).length := by
    rw [adv_length]
    unfold St.buk
    have h1 := Int.emod_nonneg u.bucket (show (s.l.length : Int) ≠ 0 by omega)
    have h2 := Int.emod_lt_of_pos u.bucket (show 0 < (s.l.length : Int) by omega)
    omega
  have hv := availL_nonneg hok hb
  have n0 : 0 ≤ s.amt u := Int.emod_nonneg _ (by omega)
  have n1 : s.amt u ≤ availL (s.adv u) (s.buk u) := by
    have : s.amt u < availL (s.adv u) (s.buk u) + 1 := Int.emod_lt_of_pos _ (by omega)
    omega
  have ht := tak_zero hok hb n0 n1
  refine ⟨w0, w1, ha.1, ha.2.1, ?_, hok, hb, find_ok hok hb, avl_ok hok hb, hv, availL_le hok hb, n0, n1, ht.1, ht.2.1, ht.2.2, hok.take hb n0 n1⟩
  rw [ha.2.2, show s.t + u.wait % 6 - s.t = u.wait % 6 by omega]
  rfl
theorem runU_ok (us : List Us) : ∀ s : St, BudOk s.t s.l → 0 < s.l.length → s.t + 5 * us.length ≤ 1000000000 → BudOk (runU s us).t (runU s us).l ∧ s.t ≤ (runU s us).t ∧ (runU s us).t ≤ s.t + 5 * us.length := by
  induction us with
  | nil => intro s h _ _; exact ⟨h, Int.le_refl _, by simp [runU]⟩
  | cons u us ih =>
    intro s h hl ht
    have hs := step_ok (u := u) h hl (by simp at ht; omega)
    have h1 := hs.w0
    have h2 := hs.w1
    have e : (s.step u).t = s.t + u.wait % 6 := rfl
    obtain ⟨h3, h4, h5⟩ := ih (s.step u) hs.ok2 (by rw [step_length]; exact hl) (by simp at ht; omega)
    have e2 : runU s (u :: us) = runU (s.step u) us := rfl
    rw [e2]
    exact ⟨h3, by omega, by simp; omega⟩
end Go.Proofs.Ytlgahhfpdomdmaa

/- Plain laws of budgets: what is taken in an interval; two takes in any order. No condition. -/
import Derived.Test.YtlgahhfpdomdmaaPlA
set_option linter.unusedVariables false
set_option linter.unusedSimpArgs false
namespace Go.Proofs.Ytlgahhfpdomdmaa

/-! What is taken through a bucket in an interval. -/
def traceU : St → List Us → List Tk
  | _, [] => []
  | s, u :: us => ⟨s.t + u.wait % 6, s.buk u, s.amt u⟩ :: traceU (s.step u) us
theorem runU_trace (us : List Us) : ∀ s : St, (runU s us).tk = s.tk ++ traceU s us := by
  induction us with
  | nil => intro s; simp [runU, traceU]
  | cons u us ih =>
    intro s
    have e : runU s (u :: us) = runU (s.step u) us := rfl
    rw [e, ih]
    simp [St.step, traceU]
theorem traceU_length (us : List Us) : ∀ s : St, (traceU s us).length = us.length := by
  induction us with
  | nil => intro s; rfl
  | cons u us ih => intro s; simp [traceU, ih]
theorem traceU_take (us : List Us) : ∀ (s : St) (k : Nat), (traceU s us).take k = traceU s (us.take k) := by
  induction us with
  | nil => intro s k; simp [traceU]
  | cons u us ih =>
    intro s k
    cases k with
    | zero => rfl
    | succ k => simp [traceU, ih]
theorem traceU_drop (us : List Us) : ∀ (s : St) (i : Nat), (traceU s us).drop i = traceU (runU s (us.take i)) (us.drop i) := by
  induction us with
  | nil => intro s i; simp [traceU]
  | cons u us ih =>
    intro s i
    cases i with
    | zero => rfl
    | succ i => simpa [traceU, runU] using ih (s.step u) i
theorem traceU_time (us : List Us) : ∀ (s : St) (k : Nat) (h : k < (traceU s us).length), (traceU s us)[k].time = (runU s (us.take (k + 1))).t := by
  induction us with
  | nil => intro s k h; simp [traceU] at h
  | cons u us ih =>
    intro s k h
    cases k with
    | zero => rfl
    | succ k => simpa [traceU, runU] using ih (s.step u) k (by simpa [traceU] using h)
theorem traceU_bucket (us : List Us) : ∀ (s : St), 0 < s.l.length → ∀ x ∈ traceU s us, ∃ k : Nat, x.bucket = k ∧ k < s.l.length := by
  induction us with
  | nil => intro s _ x hx; simp [traceU] at hx
  | cons u us ih =>
    intro s hs x hx
    simp only [traceU, List.mem_cons] at hx
    rcases hx with rfl | hx
    · refine ⟨s.buk u, rfl, ?_⟩
      unfold St.buk
      have h1 := Int.emod_nonneg u.bucket (show (s.l.length : Int) ≠ 0 by omega)
      have h2 := Int.emod_lt_of_pos u.bucket (show 0 < (s.l.length : Int) by omega)
      omega
    · have := ih (s.step u) (by rw [step_length]; exact hs) x hx
      rwa [step_length] at this
/-- The tokens taken through a bucket. -/
def thru (L0 : List Bk) (a : Nat) (x : Tk) : Int := if a ∈ pathL L0 x.bucket then x.n else 0
def sumT (L0 : List Bk) (a : Nat) (l : List Tk) : Int := (l.map (thru L0 a)).sum
theorem sumT_cons (L0 : List Bk) (a : Nat) (x : Tk) (l : List Tk) : sumT L0 a (x :: l) = thru L0 a x + sumT L0 a l := rfl
theorem sumT_snoc (L0 : List Bk) (a : Nat) (x : Tk) (l : List Tk) : sumT L0 a (l ++ [x]) = sumT L0 a l + thru L0 a x := by simp [sumT]
/-- A bucket's rate and burst stay. -/
structure Stay (s : St) (a : Nat) (r b : Int) : Prop where
  lt : a < s.l.length
  rate : s.l[a].rate = r
  burst : s.l[a].burst = b
theorem step_at {s : St} {u : Us} {a : Nat} (h : a < s.l.length) (h' : a < (s.step u).l.length) : (s.step u).l[a] = if a ∈ pathL (s.adv u) (s.buk u) then { (s.l[a].later (u.wait % 6)) with tok := (s.l[a].later (u.wait % 6)).tok - s.amt u } else s.l[a].later (u.wait % 6) := by
  have h1 : a < (s.adv u).length := by rw [adv_length]; exact h
  have e : (s.adv u)[a] = s.l[a].later (u.wait % 6) := by simp [St.adv]
  have h2 : a < (takeM (s.adv u) (s.amt u) (pathL (s.adv u) (s.buk u))).length := by rw [takeM_length]; exact h1
  have h3 := takeM_at h1 h2
  rw [e] at h3
  exact h3
theorem Stay.step {s : St} {a : Nat} {r b : Int} (h : Stay s a r b) (u : Us) : Stay (s.step u) a r b := by
  have h' : a < (s.step u).l.length := by rw [step_length]; exact h.lt
  refine ⟨h', ?_, ?_⟩ <;> rw [step_at h.lt] <;> split <;> simp [Bk.later, h.rate, h.burst]
theorem step_tok {L0 : List Bk} {s : St} {u : Us} {a : Nat} {r b : Int} (hp : SamePar s.l L0) (hs : Stay s a r b) : tokAt (s.step u).l a + thru L0 a ⟨s.t + u.wait % 6, s.buk u, s.amt u⟩ = min (tokAt s.l a + r * (u.wait % 6)) b := by
  have h' := (hs.step u).lt
  have hlt := hs.lt
  rw [tokAt_of h', tokAt_of hlt, step_at hlt]
  have e : pathL (s.adv u) (s.buk u) = pathL L0 (s.buk u) := pathL_same ((same_later _ _).trans hp) _
  rw [e]
  unfold thru
  simp only
  have h1 : (s.l[a].later (u.wait % 6)).tok = min (s.l[a].tok + r * (u.wait % 6)) b := by simp only [Bk.later]; rw [hs.rate, hs.burst]
  split
  · show (s.l[a].later (u.wait % 6)).tok - s.amt u + s.amt u = _
    rw [h1]; omega
  · rw [h1]; omega
theorem run_tok {L0 : List Bk} {a : Nat} {r b : Int} (hr : 0 ≤ r) (us : List Us) : ∀ s : St, SamePar s.l L0 → Stay s a r b → tokAt (runU s us).l a + sumT L0 a (traceU s us) ≤ tokAt s.l a + r * ((runU s us).t - s.t) := by
  induction us with
  | nil => intro s _ _; simp [runU, traceU, sumT]
  | cons u us ih =>
    intro s hp hs
    have e : runU s (u :: us) = runU (s.step u) us := rfl
    have h1 := ih (s.step u) ((same_step s u).trans hp) (hs.step u)
    have h2 := step_tok (u := u) hp hs
    have e2 : (s.step u).t = s.t + u.wait % 6 := rfl
    rw [e]
    simp only [traceU]
    rw [sumT_cons]
    rw [e2] at h1
    have e3 : r * ((runU (s.step u) us).t - s.t) = r * ((runU (s.step u) us).t - (s.t + u.wait % 6)) + r * (u.wait % 6) := by rw [← Int.mul_add]; congr 1; omega
    rw [e3]
    omega
/-- In an interval no more is taken through a bucket than its burst and its rate times the ticks. -/
theorem limit {L0 : List Bk} {s : St} {us : List Us} {a : Nat} {r b : Int} (hb : BudOk s.t s.l) (hl : 0 < s.l.length) (ht : s.t + 5 * us.length ≤ 1000000000) (hp : SamePar s.l L0) (hs : Stay s a r b) {i k : Nat} (hik : i ≤ k) (hk : k < (traceU s us).length) (hi : i < (traceU s us).length) :
    sumT L0 a (((traceU s us).drop i).take (k + 1 - i)) ≤ b + r * ((traceU s us)[k].time - (traceU s us)[i].time) := by
  have hr : 0 ≤ r := by rw [← hs.rate]; exact (hb.at_ a hs.lt).r0
  rw [traceU_time us s k hk, traceU_time us s i hi, traceU_drop, traceU_take]
  rw [traceU_length] at hk hi
  have hst : ∀ (vs : List Us) (s : St), Stay s a r b → Stay (runU s vs) a r b := by
    intro vs
    induction vs with
    | nil => intro s h; exact h
    | cons u vs ih => intro s h; exact ih (s.step u) (h.step u)
  have hlen : (us.take i).length = i := by simp; omega
  have hbi := runU_ok (us.take i) s hb hl (by rw [hlen]; omega)
  have hll := runU_length (us.take i) s
  obtain ⟨q, hq⟩ : ∃ q, q = runU s (us.take i) := ⟨_, rfl⟩
  have hsq : Stay q a r b := by rw [hq]; exact hst _ _ hs
  have hpq : SamePar q.l L0 := by rw [hq]; exact (same_run _ _).trans hp
  rw [← hq] at hbi hll ⊢
  obtain ⟨hbq, h1, h2⟩ := hbi
  have hd : us.drop i = us[i] :: us.drop (i + 1) := List.drop_eq_getElem_cons hi
  have e1 : (us.drop i).take (k + 1 - i) = us[i] :: (us.drop (i + 1)).take (k - i) := by
    rw [hd, show k + 1 - i = (k - i) + 1 by omega, List.take_succ_cons]
  have e2 : runU s (us.take (i + 1)) = q.step us[i] := by rw [List.take_succ_eq_append_getElem hi, runU_snoc, ← hq]
  have e3 : runU s (us.take (k + 1)) = runU (q.step us[i]) ((us.drop (i + 1)).take (k - i)) := by
    have : us.take (k + 1) = us.take (i + 1) ++ (us.drop (i + 1)).take (k - i) := by
      rw [show k + 1 = (i + 1) + (k - i) by omega, List.take_add]
    rw [this, show runU s (us.take (i + 1) ++ (us.drop (i + 1)).take (k - i)) = runU (runU s (us.take (i + 1))) ((us.drop (i + 1)).take (k - i)) from List.foldl_append, e2]
  rw [e1, e2, e3]
  have hso := step_ok (u := us[i]) hbq (by rw [hll]; exact hl) (by rw [hlen] at h2; omega)
  have hlen2 : ((us.drop (i + 1)).take (k - i)).length = k - i := by simp; omega
  have hw0 := hso.w0
  have hw1 := hso.w1
  have et : (q.step us[i]).t = q.t + us[i].wait % 6 := rfl
  have hfin := runU_ok ((us.drop (i + 1)).take (k - i)) (q.step us[i]) hso.ok2 (by rw [step_length, hll]; exact hl) (by rw [hlen2, et]; rw [hlen] at h2; omega)
  have h3 := run_tok (L0 := L0) hr ((us.drop (i + 1)).take (k - i)) (q.step us[i]) ((same_step q _).trans hpq) (hsq.step _)
  have h4 := step_tok (u := us[i]) hpq hsq
  have h5 : 0 ≤ tokAt (runU (q.step us[i]) ((us.drop (i + 1)).take (k - i))).l a := by
    have hlt : a < (runU (q.step us[i]) ((us.drop (i + 1)).take (k - i))).l.length := (hst _ _ (hsq.step _)).lt
    rw [tokAt_of hlt]
    exact (hfin.1.at_ a hlt).t0
  simp only [traceU]
  rw [sumT_cons]
  omega

/-! Two takes, in any order. -/
theorem takeM_tok {l : List Bk} {n : Int} {p : List Nat} {i : Nat} (h : i < l.length) : tokAt (takeM l n p) i = tokAt l i - (if i ∈ p then n else 0) := by
  rw [tokAt_of (by rw [takeM_length]; exact h), tokAt_of h, takeM_at h]
  split
  · rfl
  · simp
theorem takE_zero_iff {t : Int} {l : List Bk} (h : BudOk t l) {k : Nat} (hk : k < l.length) {n : Int} (hn : 0 ≤ n) : takE t l k n = 0 ↔ ∀ i ∈ pathL l k, n ≤ tokAt l i := by
  rw [← le_availL h hk]
  constructor
  · intro he
    unfold takE at he
    rw [if_pos (find_ok h hk), if_neg (by omega), Int.toNat_natCast] at he
    by_cases hc : availL l k < n
    · rw [if_pos hc] at he; cases he
    · omega
  · intro hc
    exact (tak_zero h hk hn hc).1
/-- Both takes go, in this order. -/
def two (t : Int) (l : List Bk) (i k : Nat) (n m : Int) : Prop := takE t l i n = 0 ∧ takE (takT t l i n) (takL t l i n) k m = 0
theorem two_iff {t : Int} {l : List Bk} (h : BudOk t l) {i k : Nat} (hi : i < l.length) (hk : k < l.length) {n m : Int} (hn : 0 ≤ n) (hm : 0 ≤ m) :
    two t l i k n m ↔ ∀ j, j ∈ pathL l i ∨ j ∈ pathL l k → (if j ∈ pathL l i then n else 0) + (if j ∈ pathL l k then m else 0) ≤ tokAt l j := by
  unfold two
  constructor
  · rintro ⟨h1, h2⟩ j hj
    have h3 := (takE_zero_iff h hi hn).1 h1
    have ha : n ≤ availL l i := (le_availL h hi n).2 h3
    have ht := tak_zero h hi hn ha
    rw [ht.2.1, ht.2.2, takE_zero_iff (h.take hi hn ha) (by rw [takeM_length]; exact hk) hm, pathL_same (same_take _ _ _)] at h2
    by_cases hjk : j ∈ pathL l k
    · have := h2 j hjk
      rw [takeM_tok (path_in_range h hk hjk)] at this
      rw [if_pos hjk]
      omega
    · have hji : j ∈ pathL l i := by rcases hj with hj | hj; exact hj; exact absurd hj hjk
      have := h3 j hji
      rw [if_pos hji, if_neg hjk]
      omega
  · intro hall
    have h3 : ∀ j ∈ pathL l i, n ≤ tokAt l j := fun j hj => by
      have := hall j (.inl hj)
      rw [if_pos hj] at this
      split at this <;> omega
    have ha : n ≤ availL l i := (le_availL h hi n).2 h3
    have ht := tak_zero h hi hn ha
    refine ⟨ht.1, ?_⟩
    rw [ht.2.1, ht.2.2, takE_zero_iff (h.take hi hn ha) (by rw [takeM_length]; exact hk) hm, pathL_same (same_take _ _ _)]
    intro j hj
    have := hall j (.inr hj)
    rw [if_pos hj] at this
    rw [takeM_tok (path_in_range h hk hj)]
    omega
theorem two_comm {t : Int} {l : List Bk} (h : BudOk t l) {i k : Nat} (hi : i < l.length) (hk : k < l.length) {n m : Int} (hn : 0 ≤ n) (hm : 0 ≤ m) : two t l i k n m ↔ two t l k i m n := by
  rw [two_iff h hi hk hn hm, two_iff h hk hi hm hn]
  constructor
  · intro hall j hj
    have := hall j hj.symm
    omega
  · intro hall j hj
    have := hall j hj.symm
    omega
/-- What both takes leave. -/
theorem two_eq {t : Int} {l : List Bk} (h : BudOk t l) {i k : Nat} (hi : i < l.length) (hk : k < l.length) {n m : Int} (hn : 0 ≤ n) (hm : 0 ≤ m) (h2 : two t l i k n m) :
    takT (takT t l i n) (takL t l i n) k m = t ∧ takL (takT t l i n) (takL t l i n) k m = takeM (takeM l n (pathL l i)) m (pathL l k) := by
  obtain ⟨h1, h2⟩ := h2
  have ha : n ≤ availL l i := (le_availL h hi n).2 ((takE_zero_iff h hi hn).1 h1)
  have ht := tak_zero h hi hn ha
  rw [ht.2.1, ht.2.2] at h2 ⊢
  have hb := h.take hi hn ha
  have hk' : k < (takeM l n (pathL l i)).length := by rw [takeM_length]; exact hk
  have hu := tak_zero hb hk' hm ((le_availL hb hk' m).2 ((takE_zero_iff hb hk' hm).1 h2))
  refine ⟨hu.2.1, ?_⟩
  rw [hu.2.2, pathL_same (same_take _ _ _)]
theorem takeM_swap (l : List Bk) (n m : Int) (p q : List Nat) : takeM (takeM l n p) m q = takeM (takeM l m q) n p := by
  apply List.ext_getElem
  · simp [takeM_length]
  · intro j h1 h2
    have hj : j < l.length := by simpa [takeM_length] using h1
    have ha : j < (takeM l n p).length := by rw [takeM_length]; exact hj
    have hb : j < (takeM l m q).length := by rw [takeM_length]; exact hj
    rw [takeM_at ha, takeM_at hb, takeM_at hj, takeM_at hj]
    by_cases hp : j ∈ p <;> by_cases hq : j ∈ q <;> simp [hp, hq]
    omega
end Go.Proofs.Ytlgahhfpdomdmaa

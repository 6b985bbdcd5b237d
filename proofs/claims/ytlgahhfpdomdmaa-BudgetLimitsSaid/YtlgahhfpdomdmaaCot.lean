/- used of what was built: what was taken, and the limit. No condition. -/
import Derived.Test.YtlgahhfpdomdmaaCob
set_option linter.unusedVariables false
set_option linter.unusedSimpArgs false
namespace Go.Proofs.Ytlgahhfpdomdmaa
open Go.RowKit

/-- What was taken, in order. -/
structure TkOk (x : Tk) (N : Nat) : Prop where
  n0 : 0 ≤ x.n
  n1 : x.n ≤ 1073741824
  t0 : 0 ≤ x.time
  t1 : x.time ≤ 100
  b : ∃ k : Nat, x.bucket = k ∧ k < N
theorem traceU_ok (us : List Us) : ∀ s : St, BudOk s.t s.l → 0 < s.l.length → s.t + 5 * us.length ≤ 1000000000 → ∀ x ∈ traceU s us, (0 ≤ x.n ∧ x.n ≤ 1073741824) ∧ s.t ≤ x.time ∧ x.time ≤ s.t + 5 * us.length := by
  induction us with
  | nil => intro s _ _ _ x hx; simp [traceU] at hx
  | cons u us ih =>
    intro s h hl ht x hx
    have hs := step_ok (u := u) h hl (by simp at ht; omega)
    have h1 := hs.w0
    have h2 := hs.w1
    have h3 := hs.n0
    have h4 := hs.n1
    have h5 := hs.av1
    have e : (s.step u).t = s.t + u.wait % 6 := rfl
    simp only [List.length_cons] at ht ⊢
    simp only [traceU, List.mem_cons] at hx
    rcases hx with rfl | hx
    · exact ⟨⟨h3, by show s.amt u ≤ _; omega⟩, by show s.t ≤ s.t + u.wait % 6; omega, by show s.t + u.wait % 6 ≤ _; omega⟩
    · have := ih (s.step u) hs.ok2 (by rw [step_length]; exact hl) (by omega) x hx
      omega
/-- The limit of what was taken, of a plan. -/
def Limit (p : List Pl) (TK : List Tk) : Prop := ∀ (a : Nat) (ha : a < p.length) (i k : Nat) (hik : i ≤ k) (hk : k < TK.length) (hi : i < TK.length), sumT (builtL p) a ((TK.drop i).take (k + 1 - i)) ≤ p[a].burst % 60 + p[a].rate % 20 * (TK[k].time - TK[i].time)
theorem used_tk (T : Int) (base : Nat) (A : Option Addr) (n c : Nat) (p : List Pl) (L : List Bk) (A' : Option Addr) (c' : Nat) (us : List Us) (w : World) (hl : OwB w base (.slice A n c) L) (hbase : base ≤ w.heap.size)
    (hL : L = builtL p) (hn : p.length = n) (h8 : n ≤ 8) (hl0 : 0 < n) (ht0 : 0 ≤ T) (ht : T ≤ 0) (hu : RdU w A' us) (huo : ∀ u ∈ us, u.Ok) (h20 : us.length ≤ 20) :
    Calls Try.prog 26 #[.agg #[.int .i64 T, .slice A n c], .slice A' us.length c'] w fun e w' => ∃ (b : Value) (A2 : Option Addr) (c2 : Nat) (TK : List Tk), e = .returned (.tuple #[b, .slice A2 us.length c2, .bool true]) ∧ (∃ u A3 n3 c3, b = .agg #[.int .i64 u, .slice A3 n3 c3]) ∧
      Hid (TK.length = us.length) ∧ Hid (∀ x ∈ TK, TkOk x n) ∧ Hid (Limit p TK) ∧ Hid (OwK w' w.heap.size (.slice A2 us.length c2) TK) ∧ Below w.heap.size w w' := by
  have hT : T = 0 := by omega
  subst hL hT hn
  have hok := builtL_ok h8
  have hl0' : 0 < (builtL p).length := by rw [builtL_length]; exact hl0
  have hc := used_any 0 base A c (builtL p) A' c' us w (by rw [builtL_length]; exact hl) hbase hok hl0' (by omega) hu huo
  rw [builtL_length] at hc
  refine hc.mono ?_
  rintro e w2 ⟨v, vt, rfl, hvb, hv, hb⟩
  obtain ⟨A3, c3, rfl, _, _, _⟩ := OwL.rd hvb
  rw [List.take_of_length_le h20, runU_trace, List.nil_append] at hv
  obtain ⟨A2, c2, rfl, _, _, _⟩ := OwL.rd hv
  have htl := traceU_length us ⟨0, builtL p, []⟩
  refine ⟨_, A2, c2, traceU ⟨0, builtL p, []⟩ us, by rw [htl], ⟨_, _, _, _, rfl⟩, Lib.hid htl, Lib.hid fun x hx => ?_, Lib.hid ?_, Lib.hid (by rw [← htl]; exact hv), hb⟩
  · obtain ⟨⟨h1, h2⟩, h3, h4⟩ := traceU_ok us ⟨0, builtL p, []⟩ hok hl0' (by show (0 : Int) + _ ≤ _; omega) x hx
    have h5 := traceU_bucket us ⟨0, builtL p, []⟩ hl0' x hx
    rw [builtL_length] at h5
    exact ⟨h1, h2, h3, by replace h4 : x.time ≤ 0 + 5 * (us.length : Int) := h4; omega, h5⟩
  · intro a ha i k hik hk hi
    have ha' : a < (builtL p).length := by rw [builtL_length]; exact ha
    exact limit (L0 := builtL p) (s := ⟨0, builtL p, []⟩) hok hl0' (by show (0 : Int) + _ ≤ _; omega) (SamePar.refl _) ⟨ha', by show (builtL p)[a].rate = _; rw [builtL_at ha], by show (builtL p)[a].burst = _; rw [builtL_at ha]⟩ hik hk hi
/-- The sum's next step, and its bounds. -/
theorem sumT_next {L0 : List Bk} {a : Nat} {TK : List Tk} {i j : Nat} (hij : i ≤ j) (hj : j < TK.length) : sumT L0 a ((TK.drop i).take (j + 1 - i)) = sumT L0 a ((TK.drop i).take (j - i)) + thru L0 a TK[j] := by
  have hd : j - i < (TK.drop i).length := by simp; omega
  rw [show j + 1 - i = (j - i) + 1 by omega, List.take_succ_eq_append_getElem hd, sumT_snoc]
  congr 2
  rw [List.getElem_drop]
  congr 1
  omega
theorem sumT_bound {L0 : List Bk} {a : Nat} {l : List Tk} (h : ∀ x ∈ l, 0 ≤ x.n ∧ x.n ≤ 1073741824) : 0 ≤ sumT L0 a l ∧ sumT L0 a l ≤ 1073741824 * l.length := by
  induction l with
  | nil => simp [sumT]
  | cons x l ih =>
    rw [sumT_cons]
    have h1 := ih fun y hy => h y (by simp [hy])
    have h2 := h x (by simp)
    have h3 : 0 ≤ thru L0 a x ∧ thru L0 a x ≤ 1073741824 := by unfold thru; split <;> omega
    simp only [List.length_cons]
    omega
end Go.Proofs.Ytlgahhfpdomdmaa

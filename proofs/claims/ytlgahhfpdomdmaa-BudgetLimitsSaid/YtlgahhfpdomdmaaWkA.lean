/- The walks through budget.bucket, budget.Check, slices.Clone: what each computes. Conditions: the slices lie in memory as lists. -/
import Derived.Test.YtlgahhfpdomdmaaSpec
import Derived.Outline
import Derived.Lib.Hide
import Derived.WalkKit
import Derived.WalkLawsBesides
import Derived.WalkSpells
set_option linter.unusedVariables false
set_option linter.unusedSimpArgs false
namespace Go.Proofs.Ytlgahhfpdomdmaa
open Go.RowKit

def inB (n most : Int) : Bool := decide (0 ≤ n ∧ n ≤ most)


theorem in_any (n most : Int) (w : World) : Calls Try.prog 38 #[.int .i64 n, .int .i64 most] w fun e w' => e = .returned (.bool (inB n most)) ∧ w = w' := by
  go_enter Try.func38, Try.ntmps38
  go_wp2
  all_goals
    go_ret
    refine ⟨?_, rfl⟩
    simp [inB]
    try omega

theorem bucket_any (p r b t i : Int) (w : World) : Calls Try.prog 29 #[.agg #[.int .i64 p, .int .i64 r, .int .i64 b, .int .i64 t], .int .i64 i] w fun e w' => e = .returned (.int .i64 (bErr ⟨p, r, b, t⟩ i)) ∧ Below w.heap.size w w' := by
  go_enter Try.func29, Try.ntmps29
  go_wp2_with (go_at_call 38; refine (in_any _ _ _).mono ?_; rintro e w' ⟨rfl, rfl⟩)
  all_goals
    go_ret
    refine ⟨ret_i ?_, (Below.refl _ _).alloc (Nat.le_refl _) _⟩
    try simp_all only [inB, Bool.not_eq_eq_eq_not, Bool.not_true, Bool.not_false, decide_eq_true_eq, decide_eq_false_iff_not]
    unfold bErr
    dsimp only
    repeat' split
    all_goals omega

theorem bksErr_drop {l : List Bk} {k : Nat} (hk : k < l.length) : bksErr (l.drop k) k = if bErr l[k] k = 0 then bksErr (l.drop (k + 1)) ((k + 1 : Nat) : Int) else bErr l[k] k := by
  rw [List.drop_eq_getElem_cons hk, bksErr]; rfl

theorem Check_any (t : Int) (A : Option Addr) (c : Nat) (l : List Bk) (w : World) (hl : RdB w A l) :
    Calls Try.prog 15 #[.agg #[.int .i64 t, .slice A l.length c]] w fun e w' => e = .returned (.int .i64 (chk t l)) ∧ Below w.heap.size w w' := by
  have hlen : l.length ≤ 9223372036854775807 := hl.1
  have HL := Lib.hid hl
  clear hl
  by_cases h1 : 64 < l.length
  · go_enter Try.func15, Try.ntmps15
    go_wp2
    go_ret
    exact ⟨ret_i (by simp [chk, h1]), (Below.refl _ _).alloc (Nat.le_refl _) _⟩
  by_cases h2 : t < 0
  · go_enter Try.func15, Try.ntmps15
    go_wp2
    go_ret
    exact ⟨ret_i (by simp [chk, h1, h2]), (Below.refl _ _).alloc (Nat.le_refl _) _⟩
  by_cases h3 : 1073741824 < t
  · go_enter Try.func15, Try.ntmps15
    go_wp2
    go_ret
    exact ⟨ret_i (by simp [chk, h1, h3]), (Below.refl _ _).alloc (Nat.le_refl _) _⟩
  have hchk : chk t l = bksErr l 0 := by simp [chk, h1, h2, h3]
  have HC := Lib.hid hchk
  clear hchk
  go_enter Try.func15, Try.ntmps15
  go_wp2
  go_loopw [23] (fun i wr => ∃ k : Nat, k ≤ l.length ∧ i = .int .i64 k ∧ Hid (bksErr l 0 = bksErr (l.drop k) k) ∧ Below w.heap.size w wr) (fun i _ => l.length - (intOf i).toNat)
  case atStart => exact ⟨0, Nat.zero_le _, rfl, Lib.hid rfl, (Below.refl _ _).alloc (Nat.le_refl _) _⟩
  case round =>
    obtain ⟨k, hk, rfl, HE, hB⟩ := hrel
    by_cases hlt : k < l.length
    · obtain ⟨ad, rfl, c0, c1, c2, c3⟩ := RdB.at_ (RdL.below HL.out hB) hlt
      have HD := Lib.hid (bksErr_drop hlt)
      go_wp2_with (go_at_call 29; refine (bucket_any _ _ _ _ _ _).mono ?_; rintro e w' ⟨rfl, hb⟩)
      · go_ret
        have hne : (bErr l[k] k != 0) = true := by assumption
        refine ⟨ret_i ?_, (hB.alloc hB.size _).trans (hb.mono (by simp; have := hB.size; omega))⟩
        rw [HC.out, HE.out, HD.out, if_neg (by simpa using hne)]
      · go_roundw
        have hne : (bErr l[k] k != 0) = false := by assumption
        case rel =>
          refine ⟨k + 1, by omega, by go_num, Lib.hid ?_, (hB.alloc hB.size _).trans (hb.mono (by simp; have := hB.size; omega))⟩
          rw [HE.out, HD.out, if_pos (by simpa using hne)]
        case measure => simp [intOf]; omega
    · go_wp2
      go_ret
      refine ⟨ret_i ?_, hB⟩
      rw [HC.out, HE.out, List.drop_of_length_le (by omega), bksErr]

theorem Clone_any (A : Option Addr) (c : Nat) (l : List Bk) (w : World) (hl : RdB w A l) (hlen : l.length ≤ 4096) :
    Calls Try.prog 28 #[.slice A l.length c] w fun e w' => ∃ v, e = .returned v ∧ OwB w' w.heap.size v l ∧ Below w.heap.size w w' := by
  cases A with
  | none =>
    obtain rfl := RdL.none_ hl
    have hn := fun wx : World => Lib.run_eql_slice_nil (P := Try.prog) wx 22 64 none 0 c 0 0 Try.underlying22
    go_enter Try.func28, Try.ntmps28
    go_wp2
    go_ret
    exact ⟨_, rfl, OwL.nil _ _ _ _, Below.refl _ _⟩
  | some ad =>
    have HL := Lib.hid hl
    clear hl
    obtain ⟨i0, hi, hz0, hz1, hz2⟩ := info_parts info64
    have hn := fun wx : World => Lib.run_eql_slice_nil (P := Try.prog) wx 22 64 (some ad) l.length c 0 0 Try.underlying22
    go_enter Try.func28, Try.ntmps28
    go_wp2_with (at_builtin; refine wpList_append_all (E := eB) _ rfl (.tmp 5) (.tmp 6) _ rfl w.heap.size 64 i0 _ 32 Try.underlying22 hi hz0 hz1 hz2 rfl (.slice (some ⟨w.heap.size, 0, none⟩) 0 0) [] rfl (OwL.empty _ _ _ _ (Nat.le_refl _)) (some ad) c l rfl (RdL.alloc HL.out _) (by simp) (by simp only [maxLen, List.length_nil]; omega) (by simp only [List.length_nil]; omega) (by simp) ?_; intro v1 w1 hown hg hat)
    go_ret
    exact ⟨_, rfl, by simpa using hown, ((Below.refl _ _).alloc (Nat.le_refl _) _).grown hg (by simp) (by intro k hk; simp [Value.ownBlock] at hk; omega)⟩

end Go.Proofs.Ytlgahhfpdomdmaa

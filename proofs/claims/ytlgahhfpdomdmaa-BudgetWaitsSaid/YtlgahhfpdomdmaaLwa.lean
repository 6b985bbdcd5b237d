/- The walk through the law BudgetWaits. Condition: the slice lies in memory as a list. -/
import Derived.Test.YtlgahhfpdomdmaaAw
set_option linter.unusedVariables false
set_option linter.unusedSimpArgs false
namespace Go.Proofs.Ytlgahhfpdomdmaa
open Go.RowKit

set_option maxHeartbeats 2000000 in
theorem BudgetWaits_any (t : Int) (A : Option Addr) (c : Nat) (l : List Bk) (k n : Int) (w : World) (hl : RdB w A l) (hn62 : n ≤ 9223372036854775807) :
    Calls Try.prog 6 #[.agg #[.int .i64 t, .slice A l.length c], .int .i64 k, .int .i64 n] w fun e w' => e = .returned (.bool true) ∧ Below w.heap.size w w' := by
  have hlen := hl.1
  have HL := Lib.hid hl
  clear hl
  by_cases h1 : 200 < l.length
  · go_enter Try.func6, Try.ntmps6
    go_wp2_with fail
    refine (awake_any _).mono ?_
    rintro e w1 ⟨rfl, hb⟩
    go_wp2
    go_ret
    exact ⟨rfl, ((Below.refl _ w).alloc (Nat.le_refl _) _).trans (hb.mono (by simp))⟩
  go_enter Try.func6, Try.ntmps6
  go_wp2_with fail
  refine (When_any _ _ _ _ _ _ _ ((HL.out).alloc _) hn62).mono ?_
  rintro e w1 ⟨rfl, hb⟩
  have hK0 : Blk w1 w.heap.size 24 #[.int .i64 t, .slice A l.length c] := (Blk.new w 24 _).below hb (by simp)
  have HB := Lib.hid (((Below.refl _ w).alloc (Nat.le_refl _) _).trans (hb.mono (by simp)))
  have HL1 := Lib.hid (((HL.out).alloc (.cells #[.int .i64 t, .slice A l.length c] 24)).below hb)
  have k0 : w1.cell? ⟨w.heap.size, 0, none⟩ = some (.int .i64 t) := hK0.cell 0
  have k1 : w1.cell? ⟨w.heap.size, 1, none⟩ = some (.slice A l.length c) := hK0.cell 1
  clear hK0 hb
  go_wp2_with fail
  refine (rWhen_any _ _ _ _ _ _ _ HL1.out hn62).mono ?_
  rintro e w2 ⟨rfl, hb⟩
  have HB2 := Lib.hid (HB.out.trans (hb.mono HB.out.size))
  clear HB hb HL1 k0 k1
  go_wp2_with fail
  refine (awake_any _).mono ?_
  rintro e w3 ⟨rfl, hb⟩
  go_wp2
  go_ret
  exact ⟨rfl, HB2.out.trans (hb.mono HB2.out.size)⟩
end Go.Proofs.Ytlgahhfpdomdmaa

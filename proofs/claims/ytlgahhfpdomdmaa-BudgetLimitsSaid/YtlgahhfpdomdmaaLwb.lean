/- The walk through the law BudgetTakes. Condition: the slice lies in memory as a list. -/
import Derived.Test.YtlgahhfpdomdmaaAw
set_option linter.unusedVariables false
set_option linter.unusedSimpArgs false
namespace Go.Proofs.Ytlgahhfpdomdmaa
open Go.RowKit

theorem sameB_self (t : Int) (l : List Bk) : sameB t l t l = true := by simp [sameB]

set_option maxHeartbeats 2000000 in
theorem BudgetTakes_any (t : Int) (A : Option Addr) (c : Nat) (l : List Bk) (k n : Int) (w : World) (hl : RdB w A l) :
    Calls Try.prog 5 #[.agg #[.int .i64 t, .slice A l.length c], .int .i64 k, .int .i64 n] w fun e w' => e = .returned (.bool true) ∧ Below w.heap.size w w' := by
  have hlen := hl.1
  have HL := Lib.hid hl
  clear hl
  by_cases h1 : 200 < l.length
  · go_enter Try.func5, Try.ntmps5
    go_wp2_with fail
    refine (awake_any _).mono ?_
    rintro e w1 ⟨rfl, hb⟩
    go_wp2
    go_ret
    exact ⟨rfl, ((Below.refl _ w).alloc (Nat.le_refl _) _).trans (hb.mono (by simp))⟩
  have H4 := Lib.hid (show l.length ≤ 4096 by omega)
  go_enter Try.func5, Try.ntmps5
  go_wp2_with fail
  refine (Available_any _ _ _ _ _ _ ((HL.out).alloc _)).mono ?_
  rintro e w1 ⟨rfl, hb⟩
  have HK := Lib.hid ((Blk.new w 24 #[.int .i64 t, .slice A l.length c]).below hb (by simp))
  have HB := Lib.hid (((Below.refl _ w).alloc (Nat.le_refl _) _).trans (hb.mono (by simp)))
  have k0 : w1.cell? ⟨w.heap.size, 0, none⟩ = some (.int .i64 t) := HK.out.cell 0
  have k1 : w1.cell? ⟨w.heap.size, 1, none⟩ = some (.slice A l.length c) := HK.out.cell 1
  clear hb
  go_wp2_with fail
  refine (rAvailable_any _ _ _ _ _ _ (RdL.below HL.out HB.out)).mono ?_
  rintro e w2 ⟨rfl, hb⟩
  have HK2 := Lib.hid (HK.out.below hb HK.out.lt)
  have HB2 := Lib.hid (HB.out.trans (hb.mono HB.out.size))
  clear HK HB hb k0 k1
  have k0 : w2.cell? ⟨w.heap.size, 0, none⟩ = some (.int .i64 t) := HK2.out.cell 0
  have k1 : w2.cell? ⟨w.heap.size, 1, none⟩ = some (.slice A l.length c) := HK2.out.cell 1
  go_wp2_with fail
  refine (Take_any _ _ _ _ _ _ _ (RdL.below HL.out HB2.out) H4.out).mono ?_
  rintro e w3 ⟨v, rfl, hv, hb⟩
  obtain ⟨A1, c1, rfl, _, _, hr⟩ := OwL.rd hv
  have HK := Lib.hid ((HK2.out.below hb HK2.out.lt).alloc (.cells #[.int .i64 (takT t l k n), .slice A1 (takL t l k n).length c1] 24))
  have hB := HB2.out.trans (hb.mono HB2.out.size)
  have HX := Lib.hid (Blk.new w3 24 #[.int .i64 (takT t l k n), .slice A1 (takL t l k n).length c1])
  have HR := Lib.hid (hr.alloc (.cells #[.int .i64 (takT t l k n), .slice A1 (takL t l k n).length c1] 24))
  have hs1 := hB.size
  have hs2 : w.heap.size < w3.heap.size := (HK2.out.below hb HK2.out.lt).lt
  have HB := Lib.hid (hB.alloc hs1 (.cells #[.int .i64 (takT t l k n), .slice A1 (takL t l k n).length c1] 24))
  clear HK2 HB2 hb k0 k1 hv hr hB
  have k0 : (w3.alloc (.cells #[.int .i64 (takT t l k n), .slice A1 (takL t l k n).length c1] 24)).cell? ⟨w.heap.size, 0, none⟩ = some (.int .i64 t) := HK.out.cell 0
  have k1 : (w3.alloc (.cells #[.int .i64 (takT t l k n), .slice A1 (takL t l k n).length c1] 24)).cell? ⟨w.heap.size, 1, none⟩ = some (.slice A l.length c) := HK.out.cell 1
  go_wp2_with fail
  refine (rTake_any _ _ _ _ _ _ _ (RdL.below HL.out HB.out) H4.out).mono ?_
  rintro e w4 ⟨v, rfl, hv, hb⟩
  obtain ⟨A2, c2, rfl, _, _, hr⟩ := OwL.rd hv
  have HX1 := Lib.hid ((HX.out.below hb HX.out.lt).alloc (.cells #[.int .i64 (takT t l k n), .slice A2 (takL t l k n).length c2] 24))
  have hs3 : w3.heap.size < w4.heap.size := (HX.out.below hb HX.out.lt).lt
  have HX2 := Lib.hid (Blk.new w4 24 #[.int .i64 (takT t l k n), .slice A2 (takL t l k n).length c2])
  have hB := HB.out.trans (hb.mono HB.out.size)
  have HR1 := Lib.hid ((RdL.below HR.out hb).alloc (.cells #[.int .i64 (takT t l k n), .slice A2 (takL t l k n).length c2] 24))
  have HR2 := Lib.hid (hr.alloc (.cells #[.int .i64 (takT t l k n), .slice A2 (takL t l k n).length c2] 24))
  have HB2 := Lib.hid (hB.alloc hB.size (.cells #[.int .i64 (takT t l k n), .slice A2 (takL t l k n).length c2] 24))
  clear HK HB hb k0 k1 hv hr hB HX HR
  go_wp2_with fail
  refine (awake_any _).mono ?_
  rintro e w5 ⟨rfl, hb⟩
  have hX1 := HX1.out.below hb HX1.out.lt
  have hX2 := HX2.out.below hb HX2.out.lt
  have x0 : w5.cell? ⟨w3.heap.size, 0, none⟩ = some (.int .i64 (takT t l k n)) := hX1.cell 0
  have x1 : w5.cell? ⟨w3.heap.size, 1, none⟩ = some (.slice A1 (takL t l k n).length c1) := hX1.cell 1
  have y0 : w5.cell? ⟨w4.heap.size, 0, none⟩ = some (.int .i64 (takT t l k n)) := hX2.cell 0
  have y1 : w5.cell? ⟨w4.heap.size, 1, none⟩ = some (.slice A2 (takL t l k n).length c2) := hX2.cell 1
  have HB := Lib.hid (HB2.out.trans (hb.mono HB2.out.size))
  have HS1 := Lib.hid (RdL.below HR1.out hb)
  have HS2 := Lib.hid (RdL.below HR2.out hb)
  clear hX1 hX2 hb HX1 HX2 HB2 HR1 HR2
  go_wp2_with fail
  refine (Same_any _ _ _ _ _ _ _ _ _ HS1.out HS2.out).mono ?_
  rintro e w6 ⟨rfl, hb⟩
  rw [sameB_self]
  have HB2 := Lib.hid (HB.out.trans (hb.mono HB.out.size))
  clear hb HB HS1 HS2 x0 x1 y0 y1
  go_wp2
  go_ret
  exact ⟨rfl, HB2.out⟩
end Go.Proofs.Ytlgahhfpdomdmaa

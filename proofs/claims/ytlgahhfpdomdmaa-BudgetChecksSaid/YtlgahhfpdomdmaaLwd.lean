/- The walk through the law BudgetChecks. Condition: the slice lies in memory as a list. -/
import Derived.Test.YtlgahhfpdomdmaaLwc
set_option linter.unusedVariables false
set_option linter.unusedSimpArgs false
namespace Go.Proofs.Ytlgahhfpdomdmaa
open Go.RowKit
/-- What New hands back. -/
def newL (l : List Bk) : List Bk := if chk 0 (l.map Bk.full) = 0 then l.map Bk.full else []

set_option maxHeartbeats 2000000 in
theorem BudgetChecks_any (t : Int) (A : Option Addr) (c : Nat) (l : List Bk) (w : World) (hl : RdB w A l) :
    Calls Try.prog 3 #[.agg #[.int .i64 t, .slice A l.length c]] w fun e w' => e = .returned (.bool true) ∧ Below w.heap.size w w' := by
  have hlen := hl.1
  have HL := Lib.hid hl
  clear hl
  by_cases h1 : 200 < l.length
  · go_enter Try.func3, Try.ntmps3
    go_wp2_with fail
    refine (awake_any _).mono ?_
    rintro e w1 ⟨rfl, hb⟩
    go_wp2
    go_ret
    exact ⟨rfl, ((Below.refl _ w).alloc (Nat.le_refl _) _).trans (hb.mono (by simp))⟩
  have H4 := Lib.hid (show l.length ≤ 4096 by omega)
  go_enter Try.func3, Try.ntmps3
  go_wp2_with fail
  refine (New_any _ _ _ _ ((HL.out).alloc _) H4.out).mono ?_
  rintro e w3 ⟨v, rfl, hv, hb⟩
  rw [show (if chk 0 (l.map Bk.full) = 0 then l.map Bk.full else []) = newL l from rfl] at hv
  obtain ⟨A1, c1, rfl, _, _, hr⟩ := OwL.rd hv
  have HK := Lib.hid (((Blk.new w 24 #[.int .i64 t, .slice A l.length c]).below hb (by simp)).alloc (.cells #[.int .i64 0, .slice A1 (newL l).length c1] 24))
  have hB := ((Below.refl _ w).alloc (Nat.le_refl _) (.cells #[.int .i64 t, .slice A l.length c] 24)).trans (hb.mono (by simp))
  have HX := Lib.hid (Blk.new w3 24 #[.int .i64 0, .slice A1 (newL l).length c1])
  have HR := Lib.hid (hr.alloc (.cells #[.int .i64 0, .slice A1 (newL l).length c1] 24))
  have hs1 := hB.size
  have hs2 : w.heap.size < w3.heap.size := ((Blk.new w 24 #[.int .i64 t, .slice A l.length c]).below hb (by simp)).lt
  have HB := Lib.hid (hB.alloc hs1 (.cells #[.int .i64 0, .slice A1 (newL l).length c1] 24))
  clear hb hv hr hB
  have k0 : (w3.alloc (.cells #[.int .i64 0, .slice A1 (newL l).length c1] 24)).cell? ⟨w.heap.size, 0, none⟩ = some (.int .i64 t) := HK.out.cell 0
  have k1 : (w3.alloc (.cells #[.int .i64 0, .slice A1 (newL l).length c1] 24)).cell? ⟨w.heap.size, 1, none⟩ = some (.slice A l.length c) := HK.out.cell 1
  go_wp2_with fail
  refine (rNew_any _ _ _ _ (RdL.below HL.out HB.out) H4.out).mono ?_
  rintro e w4 ⟨v, rfl, hv, hb⟩
  rw [← new_same, show (if chk 0 (l.map Bk.full) = 0 then l.map Bk.full else []) = newL l from rfl] at hv
  rw [← chk_full]
  obtain ⟨A2, c2, rfl, _, _, hr⟩ := OwL.rd hv
  let wz := w4.alloc (.cells #[.int .i64 0, .slice A2 (newL l).length c2] 24)
  have hX := HX.out.below hb HX.out.lt
  have hs3 : w3.heap.size < w4.heap.size := hX.lt
  have hY := Blk.new w4 24 #[.int .i64 0, .slice A2 (newL l).length c2]
  have hB := HB.out.trans (hb.mono HB.out.size)
  have S1 : RdB wz A1 (newL l) := (RdL.below HR.out hb).alloc _
  have S2 : RdB wz A2 (newL l) := hr.alloc _
  have HB2 := Lib.hid (hB.alloc hB.size (.cells #[.int .i64 0, .slice A2 (newL l).length c2] 24))
  have hK := (HK.out.below hb HK.out.lt).alloc (.cells #[.int .i64 0, .slice A2 (newL l).length c2] 24)
  have k0 : wz.cell? ⟨w.heap.size, 0, none⟩ = some (.int .i64 t) := hK.cell 0
  have k1 : wz.cell? ⟨w.heap.size, 1, none⟩ = some (.slice A l.length c) := hK.cell 1
  have x0 : wz.cell? ⟨w3.heap.size, 0, none⟩ = some (.int .i64 0) := (hX.alloc _).cell 0
  have x1 : wz.cell? ⟨w3.heap.size, 1, none⟩ = some (.slice A1 (newL l).length c1) := (hX.alloc _).cell 1
  have y0 : wz.cell? ⟨w4.heap.size, 0, none⟩ = some (.int .i64 0) := hY.cell 0
  have y1 : wz.cell? ⟨w4.heap.size, 1, none⟩ = some (.slice A2 (newL l).length c2) := hY.cell 1
  have L1 : RdB wz A l := RdL.below HL.out HB2.out
  clear HK HB hb hv hr hB HX HR hK hX hY
  go_wp2
  go_region_with (first
    | (go_at_call 11; refine (awake_any _).mono ?_; rintro e w5 ⟨rfl, hb⟩; have k0' : w5.cell? ⟨w.heap.size, 0, none⟩ = some (.int .i64 t) := cell_later hb k0; have k1' : w5.cell? ⟨w.heap.size, 1, none⟩ = some (.slice A l.length c) := cell_later hb k1; have x0' : w5.cell? ⟨w3.heap.size, 0, none⟩ = some (.int .i64 0) := cell_later hb x0; have x1' : w5.cell? ⟨w3.heap.size, 1, none⟩ = some (.slice A1 (newL l).length c1) := cell_later hb x1; have y0' : w5.cell? ⟨w4.heap.size, 0, none⟩ = some (.int .i64 0) := cell_later hb y0; have y1' : w5.cell? ⟨w4.heap.size, 1, none⟩ = some (.slice A2 (newL l).length c2) := cell_later hb y1; have S1' := RdL.below (show RdB wz.drew A1 (newL l) from S1) hb; have S2' := RdL.below (show RdB wz.drew A2 (newL l) from S2) hb; have L2 := RdL.below (show RdB wz.drew A l from L1) hb; have B2 : Below w.heap.size w w5 := HB2.out.drew.trans (hb.mono HB2.out.size))
    | (go_at_call 14; refine (Same_any _ _ _ _ _ _ _ _ _ S1' S2').mono ?_; rintro e w6 ⟨rfl, hb⟩; rw [sameB_self]; have k0'' := cell_later hb k0'; have k1'' := cell_later hb k1'; have L3 := RdL.below L2 hb; have B3 := B2.trans (hb.mono B2.size))
    | (go_at_call 15; refine (Check_any _ _ _ _ _ L3).mono ?_; rintro e w7 ⟨rfl, hb⟩; have k0'' := cell_later hb k0''; have k1'' := cell_later hb k1''; have L3 := RdL.below L3 hb; have B3 := B3.trans (hb.mono B3.size))
    | (go_at_call 16; refine (rCheck_any _ _ _ _ _ L3).mono ?_; rintro e w7 ⟨rfl, hb⟩; have k0'' := cell_later hb k0''; have k1'' := cell_later hb k1''; have L3 := RdL.below L3 hb; have B3 := B3.trans (hb.mono B3.size)))
  all_goals
    go_wp2
    go_ret
    exact ⟨by first | (simp; done) | (simp [Act.put]; done), B3⟩
end Go.Proofs.Ytlgahhfpdomdmaa

/- The walk through the law's awake: the chapter's example answers true. No condition. -/
import Derived.Test.YtlgahhfpdomdmaaRfA
import Derived.Test.YtlgahhfpdomdmaaRfH
set_option linter.unusedVariables false
set_option linter.unusedSimpArgs false
namespace Go.Proofs.Ytlgahhfpdomdmaa
open Go.RowKit

/-- A block that was just laid holds the list. -/
theorem RdL.boxes {α : Type} {E : Enc α} (w : World) (l : List α) (e : TypeId) (cs : Array Value) (hc : cs = (E.flat l).toArray) (h : l.length ≤ 9223372036854775807) : RdL E (w.alloc (.cells cs e)) (some ⟨w.heap.size, 0, none⟩) l :=
  ⟨h, fun _ => ⟨_, rfl, by subst hc; simpa using World.news_of_block (cs := (E.flat l).toArray) (t := e) (fr := (0, 0)) (heap_alloc_new w (.cells (E.flat l).toArray e))⟩⟩

def l0 : List Bk := [⟨-1, 10, 30, 0⟩, ⟨0, 2, 8, 0⟩, ⟨0, 9, 40, 0⟩]
def l1 : List Bk := [⟨-1, 10, 30, 30⟩, ⟨0, 2, 8, 8⟩, ⟨0, 9, 40, 40⟩]
def l2 : List Bk := [⟨-1, 10, 30, 5⟩, ⟨0, 2, 8, 8⟩, ⟨0, 9, 40, 15⟩]
def l3 : List Bk := [⟨-1, 10, 30, 30⟩, ⟨0, 2, 8, 8⟩, ⟨0, 9, 40, 40⟩]
theorem a1 : l0.map Bk.full = l1 ∧ chk 0 l1 = 0 ∧ avlV 0 l1 1 = 8 ∧ findE 0 l1 1 = 0 ∧ avlV 0 l1 2 = 30 ∧ findE 0 l1 2 = 0 := by decide +kernel
theorem a2 : takE 0 l1 2 25 = 0 ∧ takT 0 l1 2 25 = 0 ∧ takL 0 l1 2 25 = l2 ∧ avlV 0 l2 1 = 5 ∧ findE 0 l2 1 = 0 := by decide +kernel
theorem a3 : whnE 0 l2 1 6 = 0 ∧ whnT 0 l2 1 6 = 1 ∧ advE 0 l2 8 = 0 ∧ advT 0 l2 8 = 8 ∧ advL 0 l2 8 = l3 := by decide +kernel

set_option maxHeartbeats 2000000 in
theorem awake_any (w : World) : Calls Try.prog 11 #[] w fun e w' => e = .returned (.bool true) ∧ Below w.heap.size w w' := by
  have HRD := Lib.hid (RdL.boxes (E := eB) w l0 64 #[.int .i64 (-1), .int .i64 10, .int .i64 30, .int .i64 0, .int .i64 0, .int .i64 2, .int .i64 8, .int .i64 0, .int .i64 0, .int .i64 9, .int .i64 40, .int .i64 0] rfl (by decide))
  go_enter Try.func11, Try.ntmps11
  go_wp2_with fail
  refine (New_any _ _ l0 _ HRD.out (by decide)).mono ?_
  rintro e wa ⟨v, rfl, hv, hb⟩
  rw [a1.1, a1.2.1, if_pos rfl] at hv
  obtain ⟨A1, c1, rfl, _, _, hr⟩ := OwL.rd hv
  replace hb := ((Below.refl _ w).alloc (Nat.le_refl _) (.cells #[.int .i64 (-1), .int .i64 10, .int .i64 30, .int .i64 0, .int .i64 0, .int .i64 2, .int .i64 8, .int .i64 0, .int .i64 0, .int .i64 9, .int .i64 40, .int .i64 0] 64)).trans (hb.mono (by simp))
  have e1 : chk 0 (List.map Bk.full l0) = 0 := by rw [a1.1]; exact a1.2.1
  have HB := Lib.hid (hb.alloc hb.size (.cells #[.int .i64 0, .slice A1 3 c1] 24))
  have HL := Lib.hid (hr.alloc (.cells #[.int .i64 0, .slice A1 3 c1] 24))
  have HX := Lib.hid (Blk.new wa 24 #[.int .i64 0, .slice A1 3 c1])
  have hsz := hb.size
  rw [e1]
  clear hb hv hr HRD e1
  go_wp2_with fail
  refine (Available_any _ _ _ l1 _ _ HL.out).mono ?_
  rintro e wb ⟨rfl, hb⟩
  have HX2 := Lib.hid (HX.out.below hb HX.out.lt)
  have HB2 := Lib.hid (HB.out.trans (hb.mono HB.out.size))
  have HL2 := Lib.hid (RdL.below HL.out hb)
  have k0 : wb.cell? ⟨wa.heap.size, 0, none⟩ = some (.int .i64 0) := HX2.out.cell 0
  have k1 : wb.cell? ⟨wa.heap.size, 1, none⟩ = some (.slice A1 3 c1) := HX2.out.cell 1
  clear HX HB HL hb
  go_wp2_with fail
  refine (Available_any _ _ _ l1 _ _ HL2.out).mono ?_
  rintro e wc ⟨rfl, hb⟩
  have HX := Lib.hid (HX2.out.below hb HX2.out.lt)
  have HB := Lib.hid (HB2.out.trans (hb.mono HB2.out.size))
  have HL := Lib.hid (RdL.below HL2.out hb)
  clear HX2 HB2 HL2 hb k0 k1
  have k0 : wc.cell? ⟨wa.heap.size, 0, none⟩ = some (.int .i64 0) := HX.out.cell 0
  have k1 : wc.cell? ⟨wa.heap.size, 1, none⟩ = some (.slice A1 3 c1) := HX.out.cell 1
  go_wp2_with fail
  refine (Take_any _ _ _ l1 _ _ _ HL.out (by decide)).mono ?_
  rintro e wd ⟨v, rfl, hv, hb⟩
  rw [a2.2.2.1] at hv
  obtain ⟨A2, c2, rfl, _, _, hr⟩ := OwL.rd hv
  rw [a2.1, a2.2.1]
  have HB2 := Lib.hid (((HB.out.trans (hb.mono HB.out.size))).alloc (HB.out.trans (hb.mono HB.out.size)).size (.cells #[.int .i64 0, .slice A2 3 c2] 24))
  have HL2 := Lib.hid (hr.alloc (.cells #[.int .i64 0, .slice A2 3 c2] 24))
  have HX2 := Lib.hid (Blk.new wd 24 #[.int .i64 0, .slice A2 3 c2])
  have hsz2 := (HB.out.trans (hb.mono HB.out.size)).size
  clear HX HB HL hb k0 k1 hv hr
  go_wp2_with fail
  refine (Available_any _ _ _ l2 _ _ HL2.out).mono ?_
  rintro e we ⟨rfl, hb⟩
  have HX := Lib.hid (HX2.out.below hb HX2.out.lt)
  have HB := Lib.hid (HB2.out.trans (hb.mono HB2.out.size))
  have HL := Lib.hid (RdL.below HL2.out hb)
  clear HX2 HB2 HL2 hb
  have k0 : we.cell? ⟨wd.heap.size, 0, none⟩ = some (.int .i64 0) := HX.out.cell 0
  have k1 : we.cell? ⟨wd.heap.size, 1, none⟩ = some (.slice A2 3 c2) := HX.out.cell 1
  go_wp2_with fail
  refine (When_any _ _ _ l2 _ _ _ HL.out (by decide)).mono ?_
  rintro e wf ⟨rfl, hb⟩
  have HX2 := Lib.hid (HX.out.below hb HX.out.lt)
  have HB2 := Lib.hid (HB.out.trans (hb.mono HB.out.size))
  have HL2 := Lib.hid (RdL.below HL.out hb)
  rw [a3.1, a3.2.1]
  clear HX HB HL hb k0 k1
  have k0 : wf.cell? ⟨wd.heap.size, 0, none⟩ = some (.int .i64 0) := HX2.out.cell 0
  have k1 : wf.cell? ⟨wd.heap.size, 1, none⟩ = some (.slice A2 3 c2) := HX2.out.cell 1
  go_wp2_with fail
  refine (Advance_any _ _ _ l2 _ _ HL2.out (by decide)).mono ?_
  rintro e wg ⟨v, rfl, hv, hb⟩
  rw [a3.2.2.2.2] at hv
  obtain ⟨g, c3, rfl, hg1, hg2, _⟩ := OwL.at_ hv (by decide)
  rw [a3.2.2.1, a3.2.2.2.1]
  have HB := Lib.hid ((HB2.out.trans (hb.mono HB2.out.size)).alloc (HB2.out.trans (hb.mono HB2.out.size)).size (.cells #[.int .i64 8, .slice (some ⟨g, 0, none⟩) 3 c3] 24))
  have f0 : wg.cell? ⟨g, 3, none⟩ = some (.int .i64 30) := (OwB.cells hv (show 0 < l3.length by decide)).2.2.2
  have f1 : wg.cell? ⟨g, 7, none⟩ = some (.int .i64 8) := (OwB.cells hv (show 1 < l3.length by decide)).2.2.2
  have f2 : wg.cell? ⟨g, 11, none⟩ = some (.int .i64 40) := (OwB.cells hv (show 2 < l3.length by decide)).2.2.2
  rw [show l3.length = 3 from rfl]
  rw [a1.2.2.1, a1.2.2.2.1, a1.2.2.2.2.1, a1.2.2.2.2.2, a2.2.2.2.1, a2.2.2.2.2]
  clear HB2 HL2 HX2 k0 k1 hv hb
  go_wp2
  go_ret
  exact ⟨rfl, HB.out⟩
end Go.Proofs.Ytlgahhfpdomdmaa

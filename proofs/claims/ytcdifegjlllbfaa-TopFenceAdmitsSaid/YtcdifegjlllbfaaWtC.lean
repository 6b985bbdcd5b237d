/- The walk through the witness's GiveUp. No condition. -/
import Derived.Test.YtcdifegjlllbfaaWtB
import Derived.RegionTactic
import Derived.BigRegion
set_option linter.unusedVariables false
set_option linter.unusedSimpArgs false
namespace Go.Proofs.Ytcdifegjlllbfaa
open Go.RowKit
set_option maxHeartbeats 2000000 in
theorem giveUp_any (l : Le) (w : World) : Calls Try.prog 39 #[l.val] w fun e w' => e = .returned (.tuple #[(givL l).val, (givM l).val]) ∧ Below w.heap.size w w' := by
  go_enter Try.func39, Try.ntmps39
  unfold Le.val
  go_wp2_with fail
  refine (formed_any l _).mono ?_
  rintro e w1 ⟨rfl, hb⟩
  have HK := Lib.hid (((((Known.start w).alloc 41 #[.int .i64 l.si, .int .i64 l.ep, .int .i64 l.un]).alloc 41 #[.int .i64 0, .int .i64 0, .int .i64 0]).alloc 85 #[.int .i64 0, .int .i64 0, .int .i64 0, .int .i64 0, .int .i64 0, .int .i64 0, .slice none 0 0, .slice none 0 0]).below hb)
  have HL : Hid (Blk w1 w.heap.size 41 #[.int .i64 l.si, .int .i64 l.ep, .int .i64 l.un]) := Lib.hid (HK.out.blk 2 rfl)
  have HR : Hid (Blk w1 (w.heap.size + 1) 41 #[.int .i64 0, .int .i64 0, .int .i64 0]) := Lib.hid (by have := HK.out.blk 1 rfl; simpa using this)
  have HM : Hid (Blk w1 (w.heap.size + 1 + 1) 85 #[.int .i64 0, .int .i64 0, .int .i64 0, .int .i64 0, .int .i64 0, .int .i64 0, .slice none 0 0, .slice none 0 0]) := Lib.hid (by have := HK.out.blk 0 rfl; simpa using this)
  have HW : Hid (Below w.heap.size w w1) := Lib.hid HK.out.low
  have n0 : w.heap.size < w1.heap.size := HL.out.lt
  have n1 : w.heap.size + 1 < w1.heap.size := HR.out.lt
  have n2 : w.heap.size + 1 + 1 < w1.heap.size := HM.out.lt
  have y0 := HM.out.frozen 0
  have y1 := HM.out.frozen 1
  have y2 := HM.out.frozen 2
  have y3 := HM.out.frozen 3
  have y4 := HM.out.frozen 4
  have y5 := HM.out.frozen 5
  have y6 := HM.out.frozen 6
  have y7 := HM.out.frozen 7
  have x0 : w1.cell? ⟨w.heap.size + 1 + 1, 0, none⟩ = some (.int .i64 0) := HM.out.cell 0
  have x1 : w1.cell? ⟨w.heap.size + 1 + 1, 1, none⟩ = some (.int .i64 0) := HM.out.cell 1
  have x2 : w1.cell? ⟨w.heap.size + 1 + 1, 2, none⟩ = some (.int .i64 0) := HM.out.cell 2
  have x3 : w1.cell? ⟨w.heap.size + 1 + 1, 3, none⟩ = some (.int .i64 0) := HM.out.cell 3
  have x4 : w1.cell? ⟨w.heap.size + 1 + 1, 4, none⟩ = some (.int .i64 0) := HM.out.cell 4
  have x5 : w1.cell? ⟨w.heap.size + 1 + 1, 5, none⟩ = some (.int .i64 0) := HM.out.cell 5
  have x6 : w1.cell? ⟨w.heap.size + 1 + 1, 6, none⟩ = some (.slice none 0 0) := HM.out.cell 6
  have x7 : w1.cell? ⟨w.heap.size + 1 + 1, 7, none⟩ = some (.slice none 0 0) := HM.out.cell 7
  have ry0 := HR.out.frozen 0
  have ry1 := HR.out.frozen 1
  have ry2 := HR.out.frozen 2
  have rx0 : w1.cell? ⟨w.heap.size + 1, 0, none⟩ = some (.int .i64 0) := HR.out.cell 0
  have rx1 : w1.cell? ⟨w.heap.size + 1, 1, none⟩ = some (.int .i64 0) := HR.out.cell 1
  have rx2 : w1.cell? ⟨w.heap.size + 1, 2, none⟩ = some (.int .i64 0) := HR.out.cell 2
  have ly0 := HL.out.frozen 0
  have ly1 := HL.out.frozen 1
  have ly2 := HL.out.frozen 2
  have lx0 : w1.cell? ⟨w.heap.size, 0, none⟩ = some (.int .i64 l.si) := HL.out.cell 0
  have lx1 : w1.cell? ⟨w.heap.size, 1, none⟩ = some (.int .i64 l.ep) := HL.out.cell 1
  have lx2 : w1.cell? ⟨w.heap.size, 2, none⟩ = some (.int .i64 l.un) := HL.out.cell 2
  clear hb
  obtain ⟨b, hb⟩ : ∃ b, b = leB l := ⟨_, rfl⟩
  have HB := Lib.hid hb
  rw [← hb]
  clear hb
  cases b
  · have HE : Hid (givL l = l) := Lib.hid (by unfold givL; rw [← HB.out]; rfl)
    have HF : Hid (givM l = mg0) := Lib.hid (by unfold givM; rw [← HB.out]; rfl)
    go_wp2_with fail
    rw [HE.out, HF.out]
    exact bodyPost_ret (v := .tuple #[.agg #[.int .i64 l.si, .int .i64 l.ep, .int .i64 l.un], .agg #[.int .i64 0, .int .i64 0, .int .i64 0, .int .i64 0, .int .i64 0, .int .i64 0, .slice none 0 0, .slice none 0 0]]) (by simp [results, Try.results39, go_sem, x0, x1, x2, x3, x4, x5, x6, x7, rx0, rx1, rx2]) rfl ⟨rfl, below_set8 (below_set3 HW.out (Nat.le_succ _) _ _ _) (Nat.le_add_right _ 2) _ _ _ _ _ _ _ _⟩
  · have HE : Hid (givL l = ⟨l.si, min (l.ep + 1) 1073741824, 0⟩) := Lib.hid (by unfold givL; rw [← HB.out]; rfl)
    have HF : Hid (givM l = ⟨18, l.si, 4, 0, 0, l.ep⟩) := Lib.hid (by unfold givM; rw [← HB.out]; rfl)
    have h1 : 0 ≤ l.ep ∧ l.ep ≤ 1073741824 := by have := HB.out; unfold leB tmB btw at this; simp at this; exact this.1.2
    obtain ⟨h1, h2⟩ := h1
    clear HB
    go_wp2_with fail
    all_goals go_region
    all_goals go_wp2
    · rw [HE.out, HF.out]
      exact bodyPost_ret (v := .tuple #[.agg #[.int .i64 l.si, .int .i64 1073741824, .int .i64 0], .agg #[.int .i64 18, .int .i64 l.si, .int .i64 4, .int .i64 0, .int .i64 0, .int .i64 l.ep, .slice none 0 0, .slice none 0 0]]) (by simp [results, Try.results39, go_sem, x0, x1, x2, x3, x4, x5, x6, x7, rx0, rx1, rx2, n0, n1, n2]) rfl ⟨by rw [Int.min_eq_right (by omega)]; rfl, ((below_set8 (below_set3 ((HW.out.setCell (Nat.le_refl _) _).setCell (Nat.le_refl _) _) (Nat.le_succ _) _ _ _) (Nat.le_add_right _ 2) _ _ _ _ _ _ _ _).alloc (by simp; omega) _).drew⟩
    · rw [HE.out, HF.out]
      exact bodyPost_ret (v := .tuple #[.agg #[.int .i64 l.si, .int .i64 (l.ep + 1), .int .i64 0], .agg #[.int .i64 18, .int .i64 l.si, .int .i64 4, .int .i64 0, .int .i64 0, .int .i64 l.ep, .slice none 0 0, .slice none 0 0]]) (by simp [results, Try.results39, go_sem, x0, x1, x2, x3, x4, x5, x6, x7, rx0, rx1, rx2, n0, n1, n2]) rfl ⟨by rw [Int.min_eq_left (by omega)]; rfl, ((below_set8 (below_set3 ((HW.out.setCell (Nat.le_refl _) _).setCell (Nat.le_refl _) _) (Nat.le_succ _) _ _ _) (Nat.le_add_right _ 2) _ _ _ _ _ _ _ _).alloc (by simp; omega) _).drew⟩
end Go.Proofs.Ytcdifegjlllbfaa

/- The walks through the laws EpochAdmits and EpochRaises. No condition. -/
import Derived.Test.YtcdifegjlllbfaaAw
import Derived.Lib.QuietBelow
import Derived.BigQuiet
set_option linter.unusedVariables false
set_option linter.unusedSimpArgs false
namespace Go.Proofs.Ytcdifegjlllbfaa
open Go.RowKit Go.Sort

theorem stood37 : Try.prog.stoodInHeld 37 = false := by kernel_rfl
theorem eqIn37 (x y : Fe) (d : Nat) (w : World) : (Op.equalIn (d + 1 + 1) 37 (.agg x.cells) (.agg y.cells)).run Try.prog w = .ok (decide (x = y)) w := by
  rw [run_equalIn_struct w (d + 1) 37 _ _ (by unfold Program.fieldsOf; rw [Try.underlying37]) stood37]
  unfold Program.fieldsOf
  rw [Try.underlying37]
  obtain ⟨p, r, b⟩ := x
  obtain ⟨p', r', b'⟩ := y
  have hu := Try.underlying3
  have hu4 := Try.underlying4
  simp [Op.eqFields, Fe.cells, go_sem]
  by_cases h1 : p = p' <;> by_cases h2 : r = r' <;> by_cases h3 : b = b' <;> simp [h1, h2, h3]
theorem run_eqlF (x y : Fe) (w : World) : (binOp .eql 37 (.agg x.cells) (.agg y.cells)).run Try.prog w = .ok (.bool (decide (x = y))) w := by
  simp only [binOp]
  simp [Op.equal, Op.maxDepth, eqIn37 x y 9998 w]

theorem run_eqlF_self (x : Fe) (w : World) : (binOp .eql 37 (.agg #[.int .i64 x.ep, .int .i64 x.ow, .bool x.cl]) (.agg #[.int .i64 x.ep, .int .i64 x.ow, .bool x.cl])).run Try.prog w = .ok (.bool true) w := by
  have := run_eqlF x x w
  rw [decide_eq_true rfl] at this
  exact this
set_option maxRecDepth 100000 in
set_option maxHeartbeats 4000000 in
theorem EpochAdmits_any (f : Fe) (n p : Int) (w : World) : Calls Try.prog 5 #[f.val, .int .i64 n, .int .i64 p] w fun e w' => e = .returned (.bool true) ∧ Below w.heap.size w w' := by
  go_enter Try.func5, Try.ntmps5
  unfold Fe.val
  go_wp2_with fail
  refine (New_any f.ep f.ow _).mono ?_
  rintro e w1 ⟨rfl, hb⟩
  obtain ⟨g, hg⟩ : ∃ g, g = newF f.ep f.ow := ⟨_, rfl⟩
  have HG := Lib.hid hg
  obtain ⟨E, hE⟩ : ∃ E, E = chkF ⟨f.ep, f.ow, false⟩ := ⟨_, rfl⟩
  have HE := Lib.hid hE
  rw [← hg, ← hE]
  unfold Fe.val
  have K := Lib.hid ((((Known.start w).alloc 37 f.cells).below hb).alloc 37 g.cells)
  have hs1 : w.heap.size < w1.heap.size := (((Known.start w).alloc 37 f.cells).below hb).lt 0 rfl
  have k1 := Lib.hid (((Known.start w).alloc 37 f.cells).below hb)
  have c0 : w1.cell? ⟨w.heap.size, 0, none⟩ = some (.int .i64 f.ep) := (k1.out.blk 0 rfl).cell 0
  have c1 : w1.cell? ⟨w.heap.size, 1, none⟩ = some (.int .i64 f.ow) := (k1.out.blk 0 rfl).cell 1
  clear hg hE hb k1
  go_wp2_with fail
  refine (rNew_any f.ep f.ow _).mono ?_
  rintro e w2 ⟨rfl, hb⟩
  rw [← HG.out, ← HE.out]
  unfold Fe.val
  have K2 := Lib.hid ((K.out.below hb).alloc 37 g.cells)
  have hs2 : w1.heap.size < w2.heap.size := (K.out.below hb).lt 0 rfl
  clear hb K c0 c1
  go_wp2
  generalize hW : w2.alloc (.cells #[.int .i64 g.ep, .int .i64 g.ow, .bool g.cl] 37) = W
  replace K2 : Hid (Known w W [⟨w2.heap.size, 37, g.cells⟩, ⟨w1.heap.size, 37, g.cells⟩, ⟨w.heap.size, 37, f.cells⟩] []) := by rw [← hW]; exact K2
  clear hW
  have a0 : W.cell? ⟨w2.heap.size, 0, none⟩ = some (.int .i64 g.ep) := (K2.out.blk 0 rfl).cell 0
  have a1 : W.cell? ⟨w2.heap.size, 1, none⟩ = some (.int .i64 g.ow) := (K2.out.blk 0 rfl).cell 1
  have a2 : W.cell? ⟨w2.heap.size, 2, none⟩ = some (.bool g.cl) := (K2.out.blk 0 rfl).cell 2
  have b0 : W.cell? ⟨w1.heap.size, 0, none⟩ = some (.int .i64 g.ep) := (K2.out.blk 1 rfl).cell 0
  have b1 : W.cell? ⟨w1.heap.size, 1, none⟩ = some (.int .i64 g.ow) := (K2.out.blk 1 rfl).cell 1
  have b2 : W.cell? ⟨w1.heap.size, 2, none⟩ = some (.bool g.cl) := (K2.out.blk 1 rfl).cell 2
  have c0 : W.cell? ⟨w.heap.size, 0, none⟩ = some (.int .i64 f.ep) := (K2.out.blk 2 rfl).cell 0
  have c1 : W.cell? ⟨w.heap.size, 1, none⟩ = some (.int .i64 f.ow) := (K2.out.blk 2 rfl).cell 1
  have c2 : W.cell? ⟨w.heap.size, 2, none⟩ = some (.bool f.cl) := (K2.out.blk 2 rfl).cell 2
  have a0' := fun d os => cell_regrown a0 d os
  have a1' := fun d os => cell_regrown a1 d os
  have a2' := fun d os => cell_regrown a2 d os
  have b0' := fun d os => cell_regrown b0 d os
  have b1' := fun d os => cell_regrown b1 d os
  have b2' := fun d os => cell_regrown b2 d os
  have c0' := fun d os => cell_regrown c0 d os
  have c1' := fun d os => cell_regrown c1 d os
  have c2' := fun d os => cell_regrown c2 d os
  have heq : ∀ w, (binOp .eql 37 (.agg #[.int .i64 g.ep, .int .i64 g.ow, .bool g.cl]) (.agg #[.int .i64 g.ep, .int .i64 g.ow, .bool g.cl])).run Try.prog w = .ok (.bool true) w := fun w => run_eqlF_self g w
  have h18 : ∀ d os, Calls Try.prog 18 #[] (grow (redrawn W d) os) fun e w'' => e = .returned (.bool true) ∧ ∃ p : Regrown, w'' = grow (redrawn W p.d) p.os := fun d os => Calls.regrown_of (awake_any _)
  have h19 : ∀ d os, Calls Try.prog 19 #[.agg #[.int .i64 f.ep, .int .i64 f.ow, .bool f.cl]] (grow (redrawn W d) os) fun e w'' => e = .returned (.int .i64 (chkF f)) ∧ ∃ p : Regrown, w'' = grow (redrawn W p.d) p.os := fun d os => Calls.regrown_of (Check_any f _)
  have h20 : ∀ d os, Calls Try.prog 20 #[.agg #[.int .i64 f.ep, .int .i64 f.ow, .bool f.cl]] (grow (redrawn W d) os) fun e w'' => e = .returned (.int .i64 (chkF f)) ∧ ∃ p : Regrown, w'' = grow (redrawn W p.d) p.os := fun d os => Calls.regrown_of (rCheck_any f _)
  have h15 : ∀ d os, Calls Try.prog 15 #[.agg #[.int .i64 f.ep, .int .i64 f.ow, .bool f.cl], .int .i64 n, .int .i64 p] (grow (redrawn W d) os) fun e w'' => e = .returned (.int .i64 (admE f n p)) ∧ ∃ p : Regrown, w'' = grow (redrawn W p.d) p.os := fun d os => Calls.regrown_of (Admit_any f n p _)
  have h21 : ∀ d os, Calls Try.prog 21 #[.agg #[.int .i64 f.ep, .int .i64 f.ow, .bool f.cl], .int .i64 n, .int .i64 p] (grow (redrawn W d) os) fun e w'' => e = .returned (.int .i64 (admE f n p)) ∧ ∃ p : Regrown, w'' = grow (redrawn W p.d) p.os := fun d os => Calls.regrown_of (rAdmit_any f n p _)
  clear a0 a1 a2 b0 b1 b2 c0 c1 c2
  refine wp_region_quiet_below (by kernel_rfl) (by kernel_rfl) ?_
  repeat (quiet_step (first | exact h18 _ _ | exact h19 _ _ | exact h20 _ _ | exact h15 _ _ | exact h21 _ _))
  refine wpQuiet_nil ?_
  intro _ hw'
  obtain ⟨⟨dq, osq⟩, hw''⟩ := hw'
  subst hw''
  have HFIN := Lib.hid (K2.out.low.trans ((below_regrown W dq osq).mono K2.out.low.size))
  clear a0' a1' a2' b0' b1' b2' c0' c1' c2' h18 h19 h20 h15 h21
  go_wp2
  go_ret
  exact ⟨rfl, HFIN.out⟩
set_option maxRecDepth 100000 in
set_option maxHeartbeats 4000000 in
theorem EpochRaises_any (f : Fe) (n p : Int) (w : World) : Calls Try.prog 6 #[f.val, .int .i64 n, .int .i64 p] w fun e w' => e = .returned (.bool true) ∧ Below w.heap.size w w' := by
  obtain ⟨g, hg⟩ : ∃ g, g = raiF f n p := ⟨_, rfl⟩
  have HG := Lib.hid hg
  obtain ⟨E, hE⟩ : ∃ E, E = raiE f n p := ⟨_, rfl⟩
  have HE := Lib.hid hE
  obtain ⟨h, hh⟩ : ∃ g, g = shuF f n := ⟨_, rfl⟩
  have HH := Lib.hid hh
  obtain ⟨F, hF⟩ : ∃ E, E = shuE f n := ⟨_, rfl⟩
  have HF := Lib.hid hF
  have heq := run_eqlF_self g
  have heq2 := run_eqlF_self h
  clear hg hE hh hF
  go_enter Try.func6, Try.ntmps6
  unfold Fe.val
  go_wp2_with fail
  refine (Raise_any f n p _).mono ?_
  rintro e w1 ⟨rfl, hb⟩
  rw [← HG.out, ← HE.out]
  unfold Fe.val
  have K2 := Lib.hid ((((Known.start w).alloc 37 f.cells).below hb).alloc 37 g.cells)
  have K := Lib.hid (((Known.start w).alloc 37 f.cells).below hb)
  have hs1 : w.heap.size < w1.heap.size := K.out.lt 0 rfl
  have c0 : w1.cell? ⟨w.heap.size, 0, none⟩ = some (.int .i64 f.ep) := (K.out.blk 0 rfl).cell 0
  have c1 : w1.cell? ⟨w.heap.size, 1, none⟩ = some (.int .i64 f.ow) := (K.out.blk 0 rfl).cell 1
  have c2 : w1.cell? ⟨w.heap.size, 2, none⟩ = some (.bool f.cl) := (K.out.blk 0 rfl).cell 2
  clear hb K
  go_wp2_with fail
  refine (rRaise_any f n p _).mono ?_
  rintro e w2 ⟨rfl, hb⟩
  rw [← HG.out, ← HE.out]
  unfold Fe.val
  have K := Lib.hid (K2.out.below hb)
  have hs2 : w1.heap.size < w2.heap.size := K.out.lt 0 rfl
  have hsx2 : w.heap.size < w2.heap.size := by omega
  clear c0 c1 c2
  have c0 : w2.cell? ⟨w.heap.size, 0, none⟩ = some (.int .i64 f.ep) := (K.out.blk 1 rfl).cell 0
  have c1 : w2.cell? ⟨w.heap.size, 1, none⟩ = some (.int .i64 f.ow) := (K.out.blk 1 rfl).cell 1
  have c2 : w2.cell? ⟨w.heap.size, 2, none⟩ = some (.bool f.cl) := (K.out.blk 1 rfl).cell 2
  have K2 := Lib.hid (K.out.alloc 37 g.cells)
  clear hb K
  go_wp2_with fail
  refine (Shut_any f n _).mono ?_
  rintro e w3 ⟨rfl, hb⟩
  rw [← HH.out, ← HF.out]
  unfold Fe.val
  have K := Lib.hid (K2.out.below hb)
  have hs3 : w2.heap.size < w3.heap.size := K.out.lt 0 rfl
  have hsx3 : w.heap.size < w3.heap.size := by omega
  clear c0 c1 c2
  have c0 : w3.cell? ⟨w.heap.size, 0, none⟩ = some (.int .i64 f.ep) := (K.out.blk 2 rfl).cell 0
  have c1 : w3.cell? ⟨w.heap.size, 1, none⟩ = some (.int .i64 f.ow) := (K.out.blk 2 rfl).cell 1
  have c2 : w3.cell? ⟨w.heap.size, 2, none⟩ = some (.bool f.cl) := (K.out.blk 2 rfl).cell 2
  have K2 := Lib.hid (K.out.alloc 37 h.cells)
  clear hb K
  go_wp2_with fail
  refine (rShut_any f n _).mono ?_
  rintro e w4 ⟨rfl, hb⟩
  rw [← HH.out, ← HF.out]
  unfold Fe.val
  have K := Lib.hid (K2.out.below hb)
  have hs4 : w3.heap.size < w4.heap.size := K.out.lt 0 rfl
  have hsx4 : w.heap.size < w4.heap.size := by omega
  have K2 := Lib.hid (K.out.alloc 37 h.cells)
  clear hb K c0 c1 c2
  go_wp2_with fail
  refine (awake_any _).mono ?_
  rintro e w5 ⟨rfl, hb⟩
  have K := Lib.hid (K2.out.below hb)
  have a0 : w5.cell? ⟨w1.heap.size, 0, none⟩ = some (.int .i64 g.ep) := (K.out.blk 3 rfl).cell 0
  have a1 : w5.cell? ⟨w1.heap.size, 1, none⟩ = some (.int .i64 g.ow) := (K.out.blk 3 rfl).cell 1
  have a2 : w5.cell? ⟨w1.heap.size, 2, none⟩ = some (.bool g.cl) := (K.out.blk 3 rfl).cell 2
  have b0 : w5.cell? ⟨w2.heap.size, 0, none⟩ = some (.int .i64 g.ep) := (K.out.blk 2 rfl).cell 0
  have b1 : w5.cell? ⟨w2.heap.size, 1, none⟩ = some (.int .i64 g.ow) := (K.out.blk 2 rfl).cell 1
  have b2 : w5.cell? ⟨w2.heap.size, 2, none⟩ = some (.bool g.cl) := (K.out.blk 2 rfl).cell 2
  have c0 : w5.cell? ⟨w3.heap.size, 0, none⟩ = some (.int .i64 h.ep) := (K.out.blk 1 rfl).cell 0
  have c1 : w5.cell? ⟨w3.heap.size, 1, none⟩ = some (.int .i64 h.ow) := (K.out.blk 1 rfl).cell 1
  have c2 : w5.cell? ⟨w3.heap.size, 2, none⟩ = some (.bool h.cl) := (K.out.blk 1 rfl).cell 2
  have d0 : w5.cell? ⟨w4.heap.size, 0, none⟩ = some (.int .i64 h.ep) := (K.out.blk 0 rfl).cell 0
  have d1 : w5.cell? ⟨w4.heap.size, 1, none⟩ = some (.int .i64 h.ow) := (K.out.blk 0 rfl).cell 1
  have d2 : w5.cell? ⟨w4.heap.size, 2, none⟩ = some (.bool h.cl) := (K.out.blk 0 rfl).cell 2
  clear hb K2
  go_wp2
  go_ret
  exact ⟨rfl, K.out.low⟩
end Go.Proofs.Ytcdifegjlllbfaa

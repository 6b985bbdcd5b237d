/- The walks through New, Admit, Raise, Shut and their closures. No condition. -/
import Derived.Test.YtcdifegjlllbfaaFnB
set_option linter.unusedVariables false
set_option linter.unusedSimpArgs false
namespace Go.Proofs.Ytcdifegjlllbfaa
open Go.RowKit
theorem at47 (args : Array Value) (W : World) : (callFunc 47 args).run Try.prog W = .ok (.enter 47 args) W := by kernel_rfl
theorem at48 (args : Array Value) (W : World) : (callFunc 48 args).run Try.prog W = .ok (.enter 48 args) W := by kernel_rfl
theorem at52 (args : Array Value) (W : World) : (callFunc 52 args).run Try.prog W = .ok (.enter 52 args) W := by kernel_rfl
theorem at55 (args : Array Value) (W : World) : (callFunc 55 args).run Try.prog W = .ok (.enter 55 args) W := by kernel_rfl
theorem at56 (args : Array Value) (W : World) : (callFunc 56 args).run Try.prog W = .ok (.enter 56 args) W := by kernel_rfl
theorem at57 (args : Array Value) (W : World) : (callFunc 57 args).run Try.prog W = .ok (.enter 57 args) W := by kernel_rfl
theorem adm1_any (a g : Nat) (f : Fe) (n : Int) (w : World) (ha : Blk w a 3 #[.int .i64 n]) (hg : Blk w g 37 f.cells) : Calls Try.prog 46 #[.pointer (some ⟨a, 0, none⟩), .pointer (some ⟨g, 0, none⟩)] w fun e w' => e = .returned (.bool (decide (f.ep ≤ n))) ∧ Below w.heap.size w w' := by
  have c0 : w.cell? ⟨a, 0, none⟩ = some (.int .i64 n) := ha.cell 0
  have c1 : w.cell? ⟨g, 0, none⟩ = some (.int .i64 f.ep) := hg.cell 0
  clear ha hg
  go_enter Try.func46, Try.ntmps46
  go_wp2
  go_ret
  exact ⟨ret_b (by first | rfl | (simp; done) | (rw [Bool.eq_iff_iff]; simp)), Below.refl _ _⟩
theorem adm2_any (a g : Nat) (f : Fe) (n : Int) (w : World) (ha : Blk w a 3 #[.int .i64 n]) (hg : Blk w g 37 f.cells) : Calls Try.prog 47 #[.pointer (some ⟨a, 0, none⟩), .pointer (some ⟨g, 0, none⟩)] w fun e w' => e = .returned (.bool (decide (n = f.ep))) ∧ Below w.heap.size w w' := by
  have c0 : w.cell? ⟨a, 0, none⟩ = some (.int .i64 n) := ha.cell 0
  have c1 : w.cell? ⟨g, 0, none⟩ = some (.int .i64 f.ep) := hg.cell 0
  clear ha hg
  go_enter Try.func47, Try.ntmps47
  go_wp2
  go_ret
  exact ⟨ret_b (by first | rfl | (simp; done) | (rw [Bool.eq_iff_iff]; simp)), Below.refl _ _⟩
theorem rai2_any (a g : Nat) (f : Fe) (n : Int) (w : World) (ha : Blk w a 3 #[.int .i64 n]) (hg : Blk w g 37 f.cells) : Calls Try.prog 55 #[.pointer (some ⟨a, 0, none⟩), .pointer (some ⟨g, 0, none⟩)] w fun e w' => e = .returned (.bool (decide (f.ep < n))) ∧ Below w.heap.size w w' := by
  have c0 : w.cell? ⟨a, 0, none⟩ = some (.int .i64 n) := ha.cell 0
  have c1 : w.cell? ⟨g, 0, none⟩ = some (.int .i64 f.ep) := hg.cell 0
  clear ha hg
  go_enter Try.func55, Try.ntmps55
  go_wp2
  go_ret
  exact ⟨ret_b (by first | rfl | (simp; done) | (rw [Bool.eq_iff_iff]; simp)), Below.refl _ _⟩
theorem shu2_any (a g : Nat) (f : Fe) (n : Int) (w : World) (ha : Blk w a 3 #[.int .i64 n]) (hg : Blk w g 37 f.cells) : Calls Try.prog 57 #[.pointer (some ⟨a, 0, none⟩), .pointer (some ⟨g, 0, none⟩)] w fun e w' => e = .returned (.bool (decide (f.ep ≤ n))) ∧ Below w.heap.size w w' := by
  have c0 : w.cell? ⟨a, 0, none⟩ = some (.int .i64 n) := ha.cell 0
  have c1 : w.cell? ⟨g, 0, none⟩ = some (.int .i64 f.ep) := hg.cell 0
  clear ha hg
  go_enter Try.func57, Try.ntmps57
  go_wp2
  go_ret
  exact ⟨ret_b (by first | rfl | (simp; done) | (rw [Bool.eq_iff_iff]; simp)), Below.refl _ _⟩
theorem adm3_any (g s : Nat) (f : Fe) (n : Int) (w : World) (hg : Blk w g 37 f.cells) (hs : Blk w s 3 #[.int .i64 n]) : Calls Try.prog 48 #[.pointer (some ⟨g, 0, none⟩), .pointer (some ⟨s, 0, none⟩)] w fun e w' => e = .returned (.bool (decide (f.cl = false ∧ n = f.ow))) ∧ Below w.heap.size w w' := by
  have c0 : w.cell? ⟨s, 0, none⟩ = some (.int .i64 n) := hs.cell 0
  have c1 : w.cell? ⟨g, 1, none⟩ = some (.int .i64 f.ow) := hg.cell 1
  have c2 : w.cell? ⟨g, 2, none⟩ = some (.bool f.cl) := hg.cell 2
  clear hs hg
  obtain ⟨ep, ow, cl⟩ := f
  simp only at c1 c2 ⊢
  cases cl
  · go_enter Try.func48, Try.ntmps48
    go_wp2
    go_ret
    exact ⟨ret_b (by rw [Bool.eq_iff_iff]; simp), Below.refl _ _⟩
  · go_enter Try.func48, Try.ntmps48
    go_wp2
    go_ret
    exact ⟨ret_b (by simp), Below.refl _ _⟩
theorem rai1_any (a b : Nat) (n ow : Int) (w : World) (ha : Blk w a 3 #[.int .i64 n]) (hb : Blk w b 3 #[.int .i64 ow]) : Calls Try.prog 52 #[.pointer (some ⟨a, 0, none⟩), .pointer (some ⟨b, 0, none⟩)] w fun e w' => e = .returned (.bool (inB n 0 && siteB ow)) ∧ Below w.heap.size w w' := by
  have c0 : w.cell? ⟨a, 0, none⟩ = some (.int .i64 n) := ha.cell 0
  have c1 : w.cell? ⟨b, 0, none⟩ = some (.int .i64 ow) := hb.cell 0
  clear ha hb
  obtain ⟨v, hv⟩ : ∃ v, v = (inB n 0 && siteB ow) := ⟨_, rfl⟩
  have HD := Lib.hid hv
  rw [← hv]
  clear hv
  go_enter Try.func52, Try.ntmps52
  go_wp2_with fail
  refine (in_any _ _ _).mono ?_
  rintro e w1 ⟨rfl, rfl⟩
  obtain ⟨b, hb⟩ : ∃ b, b = inB n 0 := ⟨_, rfl⟩
  rw [← hb] at HD ⊢
  clear hb
  cases b
  · go_wp2
    go_ret
    exact ⟨ret_b (by rw [HD.out]; rfl), Below.refl _ _⟩
  · go_wp2_with fail
    refine (site_any _ _).mono ?_
    rintro e w1 ⟨rfl, rfl⟩
    obtain ⟨b, hb⟩ : ∃ b, b = siteB ow := ⟨_, rfl⟩
    rw [← hb] at HD ⊢
    clear hb
    go_wp2
    go_ret
    exact ⟨ret_b (by rw [HD.out]; simp), Below.refl _ _⟩
theorem shu1_any (a : Nat) (n : Int) (w : World) (ha : Blk w a 3 #[.int .i64 n]) : Calls Try.prog 56 #[.pointer (some ⟨a, 0, none⟩)] w fun e w' => e = .returned (.bool (inB n 0)) ∧ Below w.heap.size w w' := by
  have c0 : w.cell? ⟨a, 0, none⟩ = some (.int .i64 n) := ha.cell 0
  clear ha
  go_enter Try.func56, Try.ntmps56
  go_wp2_with fail
  refine (in_any _ _ _).mono ?_
  rintro e w1 ⟨rfl, rfl⟩
  go_wp2
  go_ret
  exact ⟨rfl, Below.refl _ _⟩
/-- The rules, as lists. -/
def ptr (g : Nat) : Value := .pointer (some ⟨g, 0, none⟩)
def admL (g a s o : Nat) (f : Fe) (n p : Int) : List Rl := [ordR o f, ⟨46, #[ptr a, ptr g], 13, decide (f.ep ≤ n)⟩, ⟨47, #[ptr a, ptr g], 1, decide (n = f.ep)⟩, ⟨48, #[ptr g, ptr s], 14, decide (f.cl = false ∧ p = f.ow)⟩]
theorem admL_answers {w : World} {g a s o : Nat} {f : Fe} {n p : Int} (ho : Blk w o 37 f.cells) (hg : Blk w g 37 f.cells) (ha : Blk w a 3 #[.int .i64 n]) (hs : Blk w s 3 #[.int .i64 p]) : Answers w (admL g a s o f n p) :=
  ordR_answers ho (Answers.cons at46 (fun W hW => adm1_any a g f n W (ha.below hW ha.lt) (hg.below hW hg.lt)) (Answers.cons at47 (fun W hW => adm2_any a g f n W (ha.below hW ha.lt) (hg.below hW hg.lt)) (Answers.cons at48 (fun W hW => adm3_any g s f p W (hg.below hW hg.lt) (hs.below hW hs.lt)) (Answers.nil _))))
theorem admL_first {g a s o : Nat} {f : Fe} {n p : Int} : firstE (admL g a s o f n p) = admE f n p := by
  simp only [admL, firstE_ord, firstE, admE, decide_eq_true_eq]
def raiL (g a s o : Nat) (f : Fe) (n p : Int) : List Rl := [ordR o f, ⟨52, #[ptr a, ptr s], 2, inB n 0 && siteB p⟩, ⟨55, #[ptr a, ptr g], 13, decide (f.ep < n)⟩]
theorem raiL_answers {w : World} {g a s o : Nat} {f : Fe} {n p : Int} (ho : Blk w o 37 f.cells) (hg : Blk w g 37 f.cells) (ha : Blk w a 3 #[.int .i64 n]) (hs : Blk w s 3 #[.int .i64 p]) : Answers w (raiL g a s o f n p) :=
  ordR_answers ho (Answers.cons at52 (fun W hW => rai1_any a s n p W (ha.below hW ha.lt) (hs.below hW hs.lt)) (Answers.cons at55 (fun W hW => rai2_any a g f n W (ha.below hW ha.lt) (hg.below hW hg.lt)) (Answers.nil _)))
theorem raiL_first {g a s o : Nat} {f : Fe} {n p : Int} : firstE (raiL g a s o f n p) = raiE f n p := by
  simp only [raiL, firstE_ord, firstE, raiE, decide_eq_true_eq]
def shuL (g a o : Nat) (f : Fe) (n : Int) : List Rl := [ordR o f, ⟨56, #[ptr a], 2, inB n 0⟩, ⟨57, #[ptr a, ptr g], 13, decide (f.ep ≤ n)⟩]
theorem shuL_answers {w : World} {g a o : Nat} {f : Fe} {n : Int} (ho : Blk w o 37 f.cells) (hg : Blk w g 37 f.cells) (ha : Blk w a 3 #[.int .i64 n]) : Answers w (shuL g a o f n) :=
  ordR_answers ho (Answers.cons at56 (fun W hW => shu1_any a n W (ha.below hW ha.lt)) (Answers.cons at57 (fun W hW => shu2_any a g f n W (ha.below hW ha.lt) (hg.below hW hg.lt)) (Answers.nil _)))
theorem shuL_first {g a o : Nat} {f : Fe} {n : Int} : firstE (shuL g a o f n) = shuE f n := by
  simp only [shuL, firstE_ord, firstE, shuE, decide_eq_true_eq]
/-- Admit. -/
theorem Admit_any (f : Fe) (n p : Int) (w : World) : Calls Try.prog 15 #[f.val, .int .i64 n, .int .i64 p] w fun e w' => e = .returned (.int .i64 (admE f n p)) ∧ Below w.heap.size w w' := by
  go_enter Try.func15, Try.ntmps15
  unfold Fe.val
  go_wp2_with fail
  refine (order_any f _).mono ?_
  rintro e w1 ⟨o, rfl, hk, hb⟩
  have HK := Lib.hid (((((Known.start w).alloc 37 f.cells).alloc 3 #[.int .i64 n]).alloc 3 #[.int .i64 p]).below hb)
  have HO := Lib.hid hk
  have HG : Hid (Blk w1 w.heap.size 37 f.cells) := Lib.hid (HK.out.blk 2 rfl)
  have HA : Hid (Blk w1 (w.heap.size + 1) 3 #[.int .i64 n]) := Lib.hid (by have := HK.out.blk 1 rfl; simpa using this)
  have HS : Hid (Blk w1 (w.heap.size + 1 + 1) 3 #[.int .i64 p]) := Lib.hid (by have := HK.out.blk 0 rfl; simpa using this)
  clear hk hb
  go_wp2_with fail
  refine (first_any _ _ (admL w.heap.size (w.heap.size + 1) (w.heap.size + 1 + 1) o f n p) _ (rules _ rfl (by simp [admL])) (admL_answers (HO.out.alloc _) (HG.out.alloc _) (HA.out.alloc _) (HS.out.alloc _))).mono ?_
  rintro e w2 ⟨rfl, hb⟩
  have HB2 := Lib.hid ((HK.out.low.alloc HK.out.low.size _).trans (hb.mono (HK.out.low.alloc HK.out.low.size _).size))
  rw [admL_first]
  clear HK HO HG HA HS hb
  go_wp2
  go_ret
  exact ⟨rfl, HB2.out⟩
/-- Raise. -/
theorem Raise_any (f : Fe) (n p : Int) (w : World) : Calls Try.prog 22 #[f.val, .int .i64 n, .int .i64 p] w fun e w' => e = .returned (.tuple #[(raiF f n p).val, .int .i64 (raiE f n p)]) ∧ Below w.heap.size w w' := by
  go_enter Try.func22, Try.ntmps22
  unfold Fe.val
  go_wp2_with fail
  refine (order_any f _).mono ?_
  rintro e w1 ⟨o, rfl, hk, hb⟩
  have HK := Lib.hid ((((((Known.start w).alloc 37 f.cells).alloc 3 #[.int .i64 n]).alloc 3 #[.int .i64 p]).alloc 37 #[.int .i64 0, .int .i64 0, .bool false]).below hb)
  have HO := Lib.hid hk
  have HG : Hid (Blk w1 w.heap.size 37 f.cells) := Lib.hid (HK.out.blk 3 rfl)
  have HA : Hid (Blk w1 (w.heap.size + 1) 3 #[.int .i64 n]) := Lib.hid (by have := HK.out.blk 2 rfl; simpa using this)
  have HS : Hid (Blk w1 (w.heap.size + 1 + 1) 3 #[.int .i64 p]) := Lib.hid (by have := HK.out.blk 1 rfl; simpa using this)
  have HR : Hid (Blk w1 (w.heap.size + 1 + 1 + 1) 37 #[.int .i64 0, .int .i64 0, .bool false]) := Lib.hid (by have := HK.out.blk 0 rfl; simpa using this)
  clear hk hb
  go_wp2_with fail
  refine (first_any _ _ (raiL w.heap.size (w.heap.size + 1) (w.heap.size + 1 + 1) o f n p) _ (rules _ rfl (by simp [raiL])) (raiL_answers (HO.out.alloc _) (HG.out.alloc _) (HA.out.alloc _) (HS.out.alloc _))).mono ?_
  rintro e w2 ⟨rfl, hb⟩
  have HB2 := Lib.hid ((HK.out.low.alloc HK.out.low.size _).trans (hb.mono (HK.out.low.alloc HK.out.low.size _).size))
  have hA := (HA.out.alloc _).below hb (HA.out.alloc _).lt
  have hS := (HS.out.alloc _).below hb (HS.out.alloc _).lt
  have hR := (HR.out.alloc _).below hb (HR.out.alloc _).lt
  rw [raiL_first]
  clear HK HO HG HA HS HR hb
  obtain ⟨E, hE⟩ : ∃ E, E = raiE f n p := ⟨_, rfl⟩
  have HE := Lib.hid hE
  rw [← hE]
  clear hE
  have c0 : w2.cell? ⟨w.heap.size + 1, 0, none⟩ = some (.int .i64 n) := hA.cell 0
  have c1 : w2.cell? ⟨w.heap.size + 1 + 1, 0, none⟩ = some (.int .i64 p) := hS.cell 0
  have r0 : w2.cell? ⟨w.heap.size + 1 + 1 + 1, 0, none⟩ = some (.int .i64 0) := hR.cell 0
  have r1 : w2.cell? ⟨w.heap.size + 1 + 1 + 1, 1, none⟩ = some (.int .i64 0) := hR.cell 1
  have r2 : w2.cell? ⟨w.heap.size + 1 + 1 + 1, 2, none⟩ = some (.bool false) := hR.cell 2
  have z0 := hR.frozen 0
  have z1 := hR.frozen 1
  have z2 := hR.frozen 2
  clear hA hS hR
  have HB3 : Hid (∀ u v x, Below w.heap.size w (((w2.setCell ⟨w.heap.size + 1 + 1 + 1, 0, none⟩ u).setCell ⟨w.heap.size + 1 + 1 + 1, 1, none⟩ v).setCell ⟨w.heap.size + 1 + 1 + 1, 2, none⟩ x)) := Lib.hid fun u v x => ((HB2.out.setCell (by show w.heap.size ≤ w.heap.size + 1 + 1 + 1; omega) u).setCell (by show w.heap.size ≤ w.heap.size + 1 + 1 + 1; omega) v).setCell (by show w.heap.size ≤ w.heap.size + 1 + 1 + 1; omega) x
  by_cases h : E = 0
  · have HF : Hid (raiF f n p = ⟨n, p, false⟩) := Lib.hid (by unfold raiF; rw [← HE.out, if_pos h])
    subst h
    go_wp2
    rw [HF.out]
    exact bodyPost_ret (v := .tuple #[.agg #[.int .i64 n, .int .i64 p, .bool false], .int .i64 0]) (by simp [results, Try.results22, go_sem, r0, r1, r2]) rfl ⟨by rw [← HE.out], HB3.out _ _ _⟩
  · have hne : (E != 0) = true := bne_iff_ne.2 h
    have HF : Hid (raiF f n p = fe0) := Lib.hid (by unfold raiF; rw [← HE.out, if_neg h])
    clear h
    go_wp2
    rw [HF.out]
    exact bodyPost_ret (v := .tuple #[.agg #[.int .i64 0, .int .i64 0, .bool false], .int .i64 E]) (by simp [results, Try.results22, go_sem, r0, r1, r2]) rfl ⟨by rw [← HE.out]; rfl, HB3.out _ _ _⟩
/-- Shut. -/
theorem Shut_any (f : Fe) (n : Int) (w : World) : Calls Try.prog 24 #[f.val, .int .i64 n] w fun e w' => e = .returned (.tuple #[(shuF f n).val, .int .i64 (shuE f n)]) ∧ Below w.heap.size w w' := by
  go_enter Try.func24, Try.ntmps24
  unfold Fe.val
  go_wp2_with fail
  refine (order_any f _).mono ?_
  rintro e w1 ⟨o, rfl, hk, hb⟩
  have HK := Lib.hid (((((Known.start w).alloc 37 f.cells).alloc 3 #[.int .i64 n]).alloc 37 #[.int .i64 0, .int .i64 0, .bool false]).below hb)
  have HO := Lib.hid hk
  have HG : Hid (Blk w1 w.heap.size 37 f.cells) := Lib.hid (HK.out.blk 2 rfl)
  have HA : Hid (Blk w1 (w.heap.size + 1) 3 #[.int .i64 n]) := Lib.hid (by have := HK.out.blk 1 rfl; simpa using this)
  have HR : Hid (Blk w1 (w.heap.size + 1 + 1) 37 #[.int .i64 0, .int .i64 0, .bool false]) := Lib.hid (by have := HK.out.blk 0 rfl; simpa using this)
  clear hk hb
  go_wp2_with fail
  refine (first_any _ _ (shuL w.heap.size (w.heap.size + 1) o f n) _ (rules _ rfl (by simp [shuL])) (shuL_answers (HO.out.alloc _) (HG.out.alloc _) (HA.out.alloc _))).mono ?_
  rintro e w2 ⟨rfl, hb⟩
  have HB2 := Lib.hid ((HK.out.low.alloc HK.out.low.size _).trans (hb.mono (HK.out.low.alloc HK.out.low.size _).size))
  have hA := (HA.out.alloc _).below hb (HA.out.alloc _).lt
  have hG := (HG.out.alloc _).below hb (HG.out.alloc _).lt
  have hR := (HR.out.alloc _).below hb (HR.out.alloc _).lt
  rw [shuL_first]
  clear HK HO HG HA HR hb
  obtain ⟨E, hE⟩ : ∃ E, E = shuE f n := ⟨_, rfl⟩
  have HE := Lib.hid hE
  rw [← hE]
  clear hE
  have c0 : w2.cell? ⟨w.heap.size + 1, 0, none⟩ = some (.int .i64 n) := hA.cell 0
  have c1 : w2.cell? ⟨w.heap.size, 1, none⟩ = some (.int .i64 f.ow) := hG.cell 1
  have r0 : w2.cell? ⟨w.heap.size + 1 + 1, 0, none⟩ = some (.int .i64 0) := hR.cell 0
  have r1 : w2.cell? ⟨w.heap.size + 1 + 1, 1, none⟩ = some (.int .i64 0) := hR.cell 1
  have r2 : w2.cell? ⟨w.heap.size + 1 + 1, 2, none⟩ = some (.bool false) := hR.cell 2
  have z0 := hR.frozen 0
  have z1 := hR.frozen 1
  have z2 := hR.frozen 2
  clear hA hG hR
  have HB3 : Hid (∀ u v x, Below w.heap.size w (((w2.setCell ⟨w.heap.size + 1 + 1, 0, none⟩ u).setCell ⟨w.heap.size + 1 + 1, 1, none⟩ v).setCell ⟨w.heap.size + 1 + 1, 2, none⟩ x)) := Lib.hid fun u v x => ((HB2.out.setCell (by show w.heap.size ≤ w.heap.size + 1 + 1; omega) u).setCell (by show w.heap.size ≤ w.heap.size + 1 + 1; omega) v).setCell (by show w.heap.size ≤ w.heap.size + 1 + 1; omega) x
  by_cases h : E = 0
  · have HF : Hid (shuF f n = ⟨n, f.ow, true⟩) := Lib.hid (by unfold shuF; rw [← HE.out, if_pos h])
    subst h
    go_wp2
    rw [HF.out]
    exact bodyPost_ret (v := .tuple #[.agg #[.int .i64 n, .int .i64 f.ow, .bool true], .int .i64 0]) (by simp [results, Try.results24, go_sem, r0, r1, r2]) rfl ⟨by rw [← HE.out], HB3.out _ _ _⟩
  · have hne : (E != 0) = true := bne_iff_ne.2 h
    have HF : Hid (shuF f n = fe0) := Lib.hid (by unfold shuF; rw [← HE.out, if_neg h])
    clear h
    go_wp2
    rw [HF.out]
    exact bodyPost_ret (v := .tuple #[.agg #[.int .i64 0, .int .i64 0, .bool false], .int .i64 E]) (by simp [results, Try.results24, go_sem, r0, r1, r2]) rfl ⟨by rw [← HE.out]; rfl, HB3.out _ _ _⟩
/-- New. -/
theorem New_any (n p : Int) (w : World) : Calls Try.prog 16 #[.int .i64 n, .int .i64 p] w fun e w' => e = .returned (.tuple #[(newF n p).val, .int .i64 (chkF ⟨n, p, false⟩)]) ∧ Below w.heap.size w w' := by
  go_enter Try.func16, Try.ntmps16
  go_wp2_with fail
  refine (Check_any ⟨n, p, false⟩ _).mono ?_
  rintro e w1 ⟨rfl, hb⟩
  have HK := Lib.hid ((((Known.start w).alloc 37 #[.int .i64 0, .int .i64 0, .bool false]).alloc 37 #[.int .i64 n, .int .i64 p, .bool false]).below hb)
  have hX : Blk w1 (w.heap.size + 1) 37 #[.int .i64 n, .int .i64 p, .bool false] := by have := HK.out.blk 0 rfl; simpa using this
  have hR : Blk w1 w.heap.size 37 #[.int .i64 0, .int .i64 0, .bool false] := HK.out.blk 1 rfl
  have HB2 : Hid (Below w.heap.size w w1) := Lib.hid HK.out.low
  obtain ⟨E, hE⟩ : ∃ E, E = chkF ⟨n, p, false⟩ := ⟨_, rfl⟩
  have HE := Lib.hid hE
  rw [← hE]
  clear hE hb HK
  have c0 : w1.cell? ⟨w.heap.size + 1, 0, none⟩ = some (.int .i64 n) := hX.cell 0
  have c1 : w1.cell? ⟨w.heap.size + 1, 1, none⟩ = some (.int .i64 p) := hX.cell 1
  have c2 : w1.cell? ⟨w.heap.size + 1, 2, none⟩ = some (.bool false) := hX.cell 2
  have r0 : w1.cell? ⟨w.heap.size, 0, none⟩ = some (.int .i64 0) := hR.cell 0
  have r1 : w1.cell? ⟨w.heap.size, 1, none⟩ = some (.int .i64 0) := hR.cell 1
  have r2 : w1.cell? ⟨w.heap.size, 2, none⟩ = some (.bool false) := hR.cell 2
  have z0 := hR.frozen 0
  have z1 := hR.frozen 1
  have z2 := hR.frozen 2
  clear hX hR
  have HB3 : Hid (∀ u v x, Below w.heap.size w (((w1.setCell ⟨w.heap.size, 0, none⟩ u).setCell ⟨w.heap.size, 1, none⟩ v).setCell ⟨w.heap.size, 2, none⟩ x)) := Lib.hid fun u v x => ((HB2.out.setCell (Nat.le_refl _) u).setCell (Nat.le_refl _) v).setCell (Nat.le_refl _) x
  by_cases h : E = 0
  · have HF : Hid (newF n p = ⟨n, p, false⟩) := Lib.hid (by unfold newF; rw [← HE.out, if_pos h])
    subst h
    go_wp2
    rw [HF.out]
    exact bodyPost_ret (v := .tuple #[.agg #[.int .i64 n, .int .i64 p, .bool false], .int .i64 0]) (by simp [results, Try.results16, go_sem, r0, r1, r2]) rfl ⟨by rw [← HE.out]; rfl, HB3.out _ _ _⟩
  · have hne : (E != 0) = true := bne_iff_ne.2 h
    have HF : Hid (newF n p = fe0) := Lib.hid (by unfold newF; rw [← HE.out, if_neg h])
    clear h
    go_wp2
    rw [HF.out]
    exact bodyPost_ret (v := .tuple #[.agg #[.int .i64 0, .int .i64 0, .bool false], .int .i64 E]) (by simp [results, Try.results16, go_sem, r0, r1, r2]) rfl ⟨by rw [← HE.out]; rfl, HB3.out _ _ _⟩
end Go.Proofs.Ytcdifegjlllbfaa

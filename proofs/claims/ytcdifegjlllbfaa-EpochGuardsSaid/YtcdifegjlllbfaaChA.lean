/- The walks through the closures of CheckLineage. Conditions: the two spans lie in memory. -/
import Derived.Test.YtcdifegjlllbfaaBeg
import Derived.Test.YtcdifegjlllbfaaFnC
set_option linter.unusedVariables false
set_option linter.unusedSimpArgs false
namespace Go.Proofs.Ytcdifegjlllbfaa
open Go.RowKit

theorem at59 (args : Array Value) (W : World) : (callFunc 59 args).run Try.prog W = .ok (.enter 59 args) W := by kernel_rfl
theorem at60 (args : Array Value) (W : World) : (callFunc 60 args).run Try.prog W = .ok (.enter 60 args) W := by kernel_rfl
theorem at61 (args : Array Value) (W : World) : (callFunc 61 args).run Try.prog W = .ok (.enter 61 args) W := by kernel_rfl
theorem at62 (args : Array Value) (W : World) : (callFunc 62 args).run Try.prog W = .ok (.enter 62 args) W := by kernel_rfl
theorem lin1_any (g : Nat) (x : Sp) (w : World) (h : Blk w g 107 x.cells) : Calls Try.prog 59 #[.pointer (some ⟨g, 0, none⟩)] w fun e w' => e = .returned (.bool (inB x.ep 1 && inB x.fr 1 && inB x.to 1)) ∧ Below w.heap.size w w' := by
  have c0 : w.cell? ⟨g, 0, none⟩ = some (.int .i64 x.ep) := h.cell 0
  have c1 : w.cell? ⟨g, 1, none⟩ = some (.int .i64 x.fr) := h.cell 1
  have c2 : w.cell? ⟨g, 2, none⟩ = some (.int .i64 x.to) := h.cell 2
  clear h
  obtain ⟨v, hv⟩ : ∃ v, v = (inB x.ep 1 && inB x.fr 1 && inB x.to 1) := ⟨_, rfl⟩
  have HD := Lib.hid hv
  rw [← hv]
  clear hv
  go_enter Try.func59, Try.ntmps59
  go_wp2_with fail
  refine (in_any _ _ _).mono ?_
  rintro e w1 ⟨rfl, rfl⟩
  obtain ⟨b, hb⟩ : ∃ b, b = inB x.ep 1 := ⟨_, rfl⟩
  rw [← hb] at HD ⊢
  clear hb
  cases b
  · go_wp2
    go_ret
    exact ⟨ret_b (by rw [HD.out]; rfl), Below.refl _ _⟩
  · go_wp2_with fail
    refine (in_any _ _ _).mono ?_
    rintro e w1 ⟨rfl, rfl⟩
    obtain ⟨b, hb⟩ : ∃ b, b = inB x.fr 1 := ⟨_, rfl⟩
    rw [← hb] at HD ⊢
    clear hb
    cases b
    · go_wp2
      go_ret
      exact ⟨ret_b (by rw [HD.out]; rfl), Below.refl _ _⟩
    · go_wp2_with fail
      refine (in_any _ _ _).mono ?_
      rintro e w1 ⟨rfl, rfl⟩
      obtain ⟨b, hb⟩ : ∃ b, b = inB x.to 1 := ⟨_, rfl⟩
      rw [← hb] at HD ⊢
      clear hb
      go_wp2
      go_ret
      exact ⟨ret_b (by rw [HD.out]; simp), Below.refl _ _⟩
theorem lin2_any (g : Nat) (x : Sp) (w : World) (h : Blk w g 107 x.cells) : Calls Try.prog 60 #[.pointer (some ⟨g, 0, none⟩)] w fun e w' => e = .returned (.bool (decide (x.fr ≤ x.to))) ∧ Below w.heap.size w w' := by
  have c1 : w.cell? ⟨g, 1, none⟩ = some (.int .i64 x.fr) := h.cell 1
  have c2 : w.cell? ⟨g, 2, none⟩ = some (.int .i64 x.to) := h.cell 2
  clear h
  go_enter Try.func60, Try.ntmps60
  go_wp2
  go_ret
  exact ⟨rfl, Below.refl _ _⟩
theorem lin3_any (g g' : Nat) (x y : Sp) (w : World) (h : Blk w g 107 x.cells) (h' : Blk w g' 107 y.cells) (h0 : 0 ≤ y.to) (h1 : y.to ≤ 1073741824) : Calls Try.prog 61 #[.pointer (some ⟨g, 0, none⟩), .pointer (some ⟨g', 0, none⟩)] w fun e w' => e = .returned (.bool (decide (x.fr = y.to + 1))) ∧ Below w.heap.size w w' := by
  have c1 : w.cell? ⟨g, 1, none⟩ = some (.int .i64 x.fr) := h.cell 1
  have c2 : w.cell? ⟨g', 2, none⟩ = some (.int .i64 y.to) := h'.cell 2
  clear h h'
  go_enter Try.func61, Try.ntmps61
  go_wp2
  go_ret
  exact ⟨ret_b (by first | rfl | (rw [Bool.eq_iff_iff]; simp; done)), Below.refl _ _⟩
theorem lin4_any (g g' : Nat) (x y : Sp) (w : World) (h : Blk w g 107 x.cells) (h' : Blk w g' 107 y.cells) : Calls Try.prog 62 #[.pointer (some ⟨g, 0, none⟩), .pointer (some ⟨g', 0, none⟩)] w fun e w' => e = .returned (.bool (decide (y.ep < x.ep))) ∧ Below w.heap.size w w' := by
  have c1 : w.cell? ⟨g, 0, none⟩ = some (.int .i64 x.ep) := h.cell 0
  have c2 : w.cell? ⟨g', 0, none⟩ = some (.int .i64 y.ep) := h'.cell 0
  clear h h'
  go_enter Try.func62, Try.ntmps62
  go_wp2
  go_ret
  exact ⟨ret_b (by first | rfl | (rw [Bool.eq_iff_iff]; simp; done)), Below.refl _ _⟩
/-- The four rules. -/
def linL (g g' : Nat) (x y : Sp) : List Rl := [⟨59, #[ptr g], 2, inB x.ep 1 && inB x.fr 1 && inB x.to 1⟩, ⟨60, #[ptr g], 3, decide (x.fr ≤ x.to)⟩, ⟨61, #[ptr g, ptr g'], 15, decide (x.fr = y.to + 1)⟩, ⟨62, #[ptr g, ptr g'], 13, decide (y.ep < x.ep)⟩]
theorem linL_answers {w : World} {g g' : Nat} {x y : Sp} (h : Blk w g 107 x.cells) (h' : Blk w g' 107 y.cells) (h0 : 0 ≤ y.to) (h1 : y.to ≤ 1073741824) : Answers w (linL g g' x y) :=
  Answers.cons at59 (fun W hW => lin1_any g x W (h.below hW h.lt)) (Answers.cons at60 (fun W hW => lin2_any g x W (h.below hW h.lt)) (Answers.cons at61 (fun W hW => lin3_any g g' x y W (h.below hW h.lt) (h'.below hW h'.lt) h0 h1) (Answers.cons at62 (fun W hW => lin4_any g g' x y W (h.below hW h.lt) (h'.below hW h'.lt)) (Answers.nil _))))
theorem linL_first {g g' : Nat} {x y : Sp} : firstE (linL g g' x y) = spErr y x := by
  simp only [linL, firstE, spErr, decide_eq_true_eq, inB, Bool.and_eq_true, and_assoc]
end Go.Proofs.Ytcdifegjlllbfaa

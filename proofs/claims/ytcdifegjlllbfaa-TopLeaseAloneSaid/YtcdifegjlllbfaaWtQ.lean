/- The walk through a step of the run, of any kind. Conditions: the run lies, its bounds. -/
import Derived.Test.YtcdifegjlllbfaaWtP0
import Derived.Test.YtcdifegjlllbfaaWtP1
import Derived.Test.YtcdifegjlllbfaaWtP2
import Derived.Test.YtcdifegjlllbfaaWtP3
import Derived.Test.YtcdifegjlllbfaaWtP4
import Derived.Test.YtcdifegjlllbfaaWtP5
import Derived.Test.YtcdifegjlllbfaaWtP6
set_option linter.unusedVariables false
namespace Go.Proofs.Ytcdifegjlllbfaa
open Go.RowKit
theorem step_any {B g : Nat} {W : World} {s : St} (x : Sp3) (h : Lies B W g s) (ok : Ok s) :
    Calls Try.prog 13 #[.pointer (some ⟨g, 0, none⟩), x.val] W fun e w' => e = .returned (.bool (stepB s x)) ∧ Lies B w' g (stepS s x) ∧ Bw B W w' := by
  obtain ⟨vL, vR, vA, h⟩ := h
  obtain ⟨ki, si, wh⟩ := x
  show Calls Try.prog 13 #[.pointer (some ⟨g, 0, none⟩), .agg #[.int .i64 ki, .int .i64 si, .int .i64 wh]] W _
  by_cases k0 : ki = 0
  · subst k0
    exact (step0_any si wh h ok).mono fun e w' ⟨he, ⟨v, hl⟩, hb⟩ => ⟨he, ⟨_, _, _, hl⟩, hb⟩
  by_cases k1 : ki = 1
  · subst k1
    exact (step1_any si wh h ok).mono fun e w' ⟨he, ⟨v, hl⟩, hb⟩ => ⟨he, ⟨_, _, _, hl⟩, hb⟩
  by_cases k2 : ki = 2
  · subst k2
    exact (step2_any si wh h ok).mono fun e w' ⟨he, ⟨v, hl⟩, hb⟩ => ⟨he, ⟨_, _, _, hl⟩, hb⟩
  by_cases k3 : ki = 3
  · subst k3
    exact (step3_any si wh h ok).mono fun e w' ⟨he, ⟨v, hl⟩, hb⟩ => ⟨he, ⟨_, _, _, hl⟩, hb⟩
  by_cases k4 : ki = 4
  · subst k4
    exact (step4_any si wh h ok).mono fun e w' ⟨he, hl, hb⟩ => ⟨he, ⟨_, _, _, hl⟩, hb⟩
  by_cases k5 : ki = 5
  · subst k5
    exact (step5_any si wh h ok).mono fun e w' ⟨he, hl, hb⟩ => ⟨he, ⟨_, _, _, hl⟩, hb⟩
  have e1 : stepS s ⟨ki, si, wh⟩ = timS s ⟨ki, si, wh⟩ := by unfold stepS; simp only [k0, k1, k2, k3, k4, k5, if_false]
  have e2 : stepB s ⟨ki, si, wh⟩ = true := by unfold stepB; simp only [k5, if_false]
  rw [e1, e2]
  exact (step6_any ki si wh h ok k0 k1 k2 k3 k4 k5).mono fun e w' ⟨he, hl, hb⟩ => ⟨he, ⟨_, _, _, hl⟩, hb⟩
end Go.Proofs.Ytcdifegjlllbfaa

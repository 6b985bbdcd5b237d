/- Handed steps of a run of leases, opened. No condition. -/
import Derived.Test.YtcdifegjlllbfaaOp
import Derived.Test.YtcdifegjlllbfaaWtY
import Derived.WalkKit
import Derived.ProofKit
import Derived.OpenShut
import Derived.ChangeOld
import Derived.Below
import Derived.SizedLaws
set_option linter.unusedVariables false
set_option linter.unusedSimpArgs false
namespace Go.Proofs.Ytcdifegjlllbfaa
open Go.ChangeShapes Go.WideShapes Go.Deep Go.RowKit
theorem ownTry : ownKnob Try.prog.godebug = none := by kernel_rfl
theorem laidOut : laidOutB Try.prog = true := by kernel_rfl
theorem u8_of_wf {a : Int} (h : (Lit.int .u8 a).wf = true) : 0 ≤ a ∧ a < 256 := by
  unfold Lit.wf at h
  simp only [Bool.and_eq_true, decide_eq_true_eq] at h
  have h1 : IntKind.u8.min = 0 := by decide
  have h2 : IntKind.u8.max = 255 := by decide
  rw [h1, h2] at h
  omega
section
variable {H : Type} {enc : TypeId × Value → H} {w : World} {base : Nat} {spare : Nat → Bool} {held : Bool}
set_option maxRecDepth 100000 in
theorem open_runs {r : Reach} {b0 : Nat} {v : Value} {d : DataW H} {p : List MemPlace} (hv : Value.okWide Try.prog w r b0 22 v) (h : DataW.Trod enc Try.prog w base spare held 22 v d p) :
    ∃ (A : Option Addr) (l : List Sp3) (c : Nat), v = .slice A l.length c ∧ RdL eSt w A l := by
  obtain ⟨a, n, c, rfl⟩ := okWide_slice Try.underlying22 hv
  obtain ⟨fuel, hf⟩ := h
  obtain ⟨A, l, c, e1, _, _, hr, _⟩ := open_list eSt (fun _ => True) Try.underlying22 Try.underlying27 (by kernel_rfl) (by kernel_rfl) rfl (fun g hg => by
    obtain ⟨_, _, g0⟩ := hg 0 _ rfl
    obtain ⟨_, _, g1⟩ := hg 1 _ rfl
    obtain ⟨_, _, g2⟩ := hg 2 _ rfl
    obtain ⟨n0, a0, _, _⟩ := DataW.trod_int Try.underlying3 g0
    obtain ⟨n1, a1, _, _⟩ := DataW.trod_int Try.underlying3 g1
    obtain ⟨n2, a2, _, _⟩ := DataW.trod_int Try.underlying3 g2
    injection a0 with a0
    injection a1 with a1
    injection a2 with a2
    refine ⟨⟨n0, n1, n2⟩, trivial, fun j u hu => ?_⟩
    have hj : j < 3 := (List.getElem?_eq_some_iff.1 hu).1
    rcases j with _ | _ | _ | j
    · rw [a0]; exact (Option.some.inj hu).symm
    · rw [a1]; exact (Option.some.inj hu).symm
    · rw [a2]; exact (Option.some.inj hu).symm
    · omega) hf
  simp only [Value.cells, List.cons.injEq, and_true] at e1
  exact ⟨A, l, _, e1, hr⟩
end
end Go.Proofs.Ytcdifegjlllbfaa

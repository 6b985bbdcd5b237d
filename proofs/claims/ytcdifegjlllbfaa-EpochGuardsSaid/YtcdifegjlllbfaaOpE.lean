/- Handed fences and lineages, opened. No condition. -/
import Derived.Test.YtcdifegjlllbfaaOp
import Derived.Test.YtcdifegjlllbfaaLin
import Derived.WalkKit
import Derived.ProofKit
import Derived.OpenShut
import Derived.ChangeOld
import Derived.Below
import Derived.SizedLaws
set_option linter.unusedVariables false
set_option linter.unusedSimpArgs false
namespace Go.Proofs.Ytcdifegjlllbfaa
open Go.ChangeShapes Go.WideShapes Go.Deep Go.RowKit
theorem ownTry : ownKnob Try.prog.godebug = none := by kernel_rfl
theorem laidOut : laidOutB Try.prog = true := by kernel_rfl
section
variable {H : Type} {enc : TypeId × Value → H} {w : World} {base : Nat} {spare : Nat → Bool} {held : Bool}
set_option maxRecDepth 100000 in
theorem open_fence {r : Reach} {b0 : Nat} {v : Value} {d : DataW H} {p : List MemPlace} (hv : Value.okWide Try.prog w r b0 37 v) (h : DataW.Trod enc Try.prog w base spare held 37 v d p) :
    ∃ f : Fe, v = f.val := by
  obtain ⟨v0, v1, v2, y0, y1, y2, n, rfl, _, _, h0, h1, h2⟩ := Joins.open_agg3 Try.underlying37 (by kernel_rfl) (by kernel_rfl) hv h
  obtain ⟨a, e0, _, _⟩ := DataW.trod_int Try.underlying3 h0
  obtain ⟨b, e1, _, _⟩ := DataW.trod_int Try.underlying3 h1
  obtain ⟨c, e2, _⟩ := DataW.trod_bool Try.underlying4 h2
  injection e0 with e0
  injection e1 with e1
  injection e2 with e2
  exact ⟨⟨a, b, c⟩, by rw [e0, e1, e2]; rfl⟩
set_option maxRecDepth 100000 in
theorem open_spans {r : Reach} {b0 : Nat} {v : Value} {d : DataW H} {p : List MemPlace} (hv : Value.okWide Try.prog w r b0 60 v) (h : DataW.Trod enc Try.prog w base spare held 60 v d p) :
    ∃ (A : Option Addr) (l : List Sp) (c : Nat), v = .slice A l.length c ∧ RdS w A l := by
  obtain ⟨a, n, c, rfl⟩ := okWide_slice Try.underlying60 hv
  obtain ⟨fuel, hf⟩ := h
  obtain ⟨A, l, c, e1, _, _, hr, _⟩ := open_list eS (fun _ => True) Try.underlying60 Try.underlying107 (by kernel_rfl) (by kernel_rfl) rfl (fun g hg => by
    obtain ⟨_, _, g0⟩ := hg 0 _ rfl
    obtain ⟨_, _, g1⟩ := hg 1 _ rfl
    obtain ⟨_, _, g2⟩ := hg 2 _ rfl
    obtain ⟨n0, a0, _, _⟩ := DataW.trod_int Try.underlying3 g0
    obtain ⟨n1, a1, _, _⟩ := DataW.trod_int Try.underlying3 g1
    obtain ⟨n2, a2, _, _⟩ := DataW.trod_int Try.underlying3 g2
    injection a0 with a0
    injection a1 with a1
    injection a2 with a2
    refine ⟨⟨n0, n1, n2⟩, trivial, fun j u hu => ?_⟩
    have hj : j < 3 := (List.getElem?_eq_some_iff.1 hu).1
    rcases j with _ | _ | _ | j
    · rw [a0]; exact (Option.some.inj hu).symm
    · rw [a1]; exact (Option.some.inj hu).symm
    · rw [a2]; exact (Option.some.inj hu).symm
    · omega) hf
  simp only [Value.cells, List.cons.injEq, and_true] at e1
  exact ⟨A, l, _, e1, hr⟩
end
end Go.Proofs.Ytcdifegjlllbfaa

/- Handed slices of steps, opened. No condition. -/
import Derived.Test.YtcdifegjlllbfaaOpG
import Derived.Test.YtcdifegjlllbfaaStp
set_option linter.unusedVariables false
set_option linter.unusedSimpArgs false
namespace Go.Proofs.Ytcdifegjlllbfaa
open Go.ChangeShapes Go.WideShapes Go.Deep Go.RowKit
section
variable {H : Type} {enc : TypeId × Value → H} {w : World} {base : Nat} {spare : Nat → Bool} {held : Bool}
set_option maxRecDepth 100000 in
theorem open_steps {r : Reach} {b0 : Nat} {v : Value} {d : DataW H} {p : List MemPlace} (hv : Value.okWide Try.prog w r b0 72 v) (h : DataW.Trod enc Try.prog w base spare held 72 v d p) :
    ∃ (A : Option Addr) (l : List Stp) (c : Nat), v = .slice A l.length c ∧ RdT w A l ∧ ∀ x ∈ l, x.Ok := by
  obtain ⟨a, n, c, rfl⟩ := okWide_slice Try.underlying72 hv
  obtain ⟨fuel, hf⟩ := h
  obtain ⟨A, l, c, e1, _, _, hr, hok⟩ := open_list eT Stp.Ok Try.underlying72 Try.underlying75 (by kernel_rfl) (by kernel_rfl) rfl (fun g hg => by
    obtain ⟨_, _, g0⟩ := hg 0 _ rfl
    obtain ⟨_, _, g1⟩ := hg 1 _ rfl
    obtain ⟨_, _, g2⟩ := hg 2 _ rfl
    obtain ⟨n0, a0, _, b0⟩ := DataW.trod_int Try.underlying5 g0
    obtain ⟨n1, a1, _, b1⟩ := DataW.trod_int Try.underlying5 g1
    obtain ⟨n2, a2, _⟩ := DataW.trod_bool Try.underlying4 g2
    injection a0 with a0
    injection a1 with a1
    injection a2 with a2
    refine ⟨⟨n0, n1, n2⟩, ⟨byte_in b0, byte_in b1⟩, fun j u hu => ?_⟩
    have hj : j < 3 := (List.getElem?_eq_some_iff.1 hu).1
    rcases j with _ | _ | _ | j
    · rw [a0]; exact (Option.some.inj hu).symm
    · rw [a1]; exact (Option.some.inj hu).symm
    · rw [a2]; exact (Option.some.inj hu).symm
    · omega) hf
  simp only [Value.cells, List.cons.injEq, and_true] at e1
  exact ⟨A, l, _, e1, hr, hok⟩
end
end Go.Proofs.Ytcdifegjlllbfaa

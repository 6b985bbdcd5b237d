/- A handed budget, opened to a time and a list of buckets. No condition. -/
import Derived.Test.YtlgahhfpdomdmaaOp
import Derived.Test.YtlgahhfpdomdmaaMem
import Derived.WalkKit
import Derived.ProofKit
import Derived.OpenShut
import Derived.ChangeOld
import Derived.Below
import Derived.SizedLaws
set_option linter.unusedVariables false
set_option linter.unusedSimpArgs false
namespace Go.Proofs.Ytlgahhfpdomdmaa
open Go.ChangeShapes Go.WideShapes Go.Deep Go.RowKit
theorem ownTry : ownKnob Try.prog.godebug = none := by kernel_rfl
theorem laidOut : laidOutB Try.prog = true := by kernel_rfl
section
variable {H : Type} {enc : TypeId × Value → H} {w : World} {base : Nat} {spare : Nat → Bool} {held : Bool}
def In64 (n : Int) : Prop := -9223372036854775808 ≤ n ∧ n ≤ 9223372036854775807
theorem in64 {n : Int} (h : (Lit.int .i64 n).wf = true) : In64 n := by
  simp only [Lit.wf, Bool.and_eq_true, decide_eq_true_eq] at h
  exact h
theorem open_bud {r : Reach} {b0 : Nat} {v : Value} {d : DataW H} {p : List MemPlace} (hv : Value.okWide Try.prog w r b0 24 v) (h : DataW.Trod enc Try.prog w base spare held 24 v d p) :
    ∃ (t : Int) (A : Option Addr) (l : List Bk) (c : Nat), v = .agg #[.int .i64 t, .slice A l.length c] ∧ RdB w A l := by
  obtain ⟨v0, v1, y0, y1, n, rfl, _, _, h0, h1⟩ := Joins.open_agg2 Try.underlying24 (by kernel_rfl) (by kernel_rfl) hv h
  obtain ⟨t, e0, _, _⟩ := DataW.trod_int Try.underlying3 h0
  obtain ⟨A, l, c, e1, _, _, hr, _⟩ := open_list eB (fun _ => True) Try.underlying22 Try.underlying64 (by kernel_rfl) (by kernel_rfl) rfl (fun g hg => by
    obtain ⟨_, _, g0⟩ := hg 0 _ rfl
    obtain ⟨_, _, g1⟩ := hg 1 _ rfl
    obtain ⟨_, _, g2⟩ := hg 2 _ rfl
    obtain ⟨_, _, g3⟩ := hg 3 _ rfl
    obtain ⟨n0, a0, _, _⟩ := DataW.trod_int Try.underlying3 g0
    obtain ⟨n1, a1, _, _⟩ := DataW.trod_int Try.underlying3 g1
    obtain ⟨n2, a2, _, _⟩ := DataW.trod_int Try.underlying3 g2
    obtain ⟨n3, a3, _, _⟩ := DataW.trod_int Try.underlying3 g3
    injection a0 with a0
    injection a1 with a1
    injection a2 with a2
    injection a3 with a3
    refine ⟨⟨n0, n1, n2, n3⟩, trivial, fun j u hu => ?_⟩
    have hj : j < 4 := (List.getElem?_eq_some_iff.1 hu).1
    rcases j with _ | _ | _ | _ | j
    · rw [a0]; exact (Option.some.inj hu).symm
    · rw [a1]; exact (Option.some.inj hu).symm
    · rw [a2]; exact (Option.some.inj hu).symm
    · rw [a3]; exact (Option.some.inj hu).symm
    · omega) h1
  injection e0 with e0
  injection e1 with e1
  exact ⟨t, A, l, c, by rw [e0, e1], hr⟩
end
end Go.Proofs.Ytlgahhfpdomdmaa

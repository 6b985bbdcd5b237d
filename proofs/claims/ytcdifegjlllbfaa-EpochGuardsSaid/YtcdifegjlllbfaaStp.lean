/- Steps, and how they lie in memory. No condition. -/
import Derived.Test.YtcdifegjlllbfaaGwn
set_option linter.unusedVariables false
set_option linter.unusedSimpArgs false
namespace Go.Proofs.Ytcdifegjlllbfaa
open Go.RowKit
structure Stp where
  a : Int
  b : Int
  c : Bool
def eT : Enc Stp := { size := 3, pos := by omega, cells := fun x => [.int .u8 x.a, .int .u8 x.b, .bool x.c], len := fun _ => rfl, one := fun x u hu => by simp at hu; rcases hu with rfl | rfl | rfl <;> rfl }
abbrev RdT := RdL eT
def Stp.Ok (x : Stp) : Prop := (0 ≤ x.a ∧ x.a ≤ 255) ∧ (0 ≤ x.b ∧ x.b ≤ 255)
theorem RdT.at_ {w : World} {A : Option Addr} {l : List Stp} (h : RdT w A l) {k : Nat} (hk : k < l.length) : ∃ ad, A = some ad ∧ w.cell? (ad.add (k * 3)) = some (.int .u8 l[k].a) ∧ w.cell? ⟨(ad.add (k * 3)).block, (ad.add (k * 3)).off + 1, none⟩ = some (.int .u8 l[k].b) ∧ w.cell? ⟨(ad.add (k * 3)).block, (ad.add (k * 3)).off + 2, none⟩ = some (.bool l[k].c) := by
  obtain ⟨ad, e, hc⟩ := RdL.at_ h hk
  replace hc : ∀ j u, [Value.int .u8 l[k].a, .int .u8 l[k].b, .bool l[k].c][j]? = some u → w.cell? (ad.add (k * 3 + j)) = some u := hc
  exact ⟨ad, e, hc 0 _ rfl, by rw [← add_field _ _ 1 (by omega)]; exact hc 1 _ rfl, by rw [← add_field _ _ 2 (by omega)]; exact hc 2 _ rfl⟩
end Go.Proofs.Ytcdifegjlllbfaa

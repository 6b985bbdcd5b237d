/- How a bucket lies in memory: four whole numbers. Plain lemmas; no condition. -/
import Derived.Test.YtlgahhfpdomdmaaProg
import Derived.Test.YtlgahhfpdomdmaaLists
import Derived.WalkKit
namespace Go.Proofs.Ytlgahhfpdomdmaa
open Go.RowKit

/-- A bucket. -/
structure Bk where
  par : Int
  rate : Int
  burst : Int
  tok : Int
def Bk.cells (x : Bk) : List Value := [.int .i64 x.par, .int .i64 x.rate, .int .i64 x.burst, .int .i64 x.tok]
def eB : Enc Bk := { size := 4, pos := by omega, cells := Bk.cells, len := fun _ => rfl, one := fun x u hu => by simp [Bk.cells] at hu; rcases hu with rfl | rfl | rfl | rfl <;> rfl }
abbrev RdB := RdL eB
abbrev OwB := OwL eB 64
theorem RdB.at_ {w : World} {A : Option Addr} {l : List Bk} (h : RdB w A l) {k : Nat} (hk : k < l.length) : ∃ ad, A = some ad ∧ w.cell? (ad.add (k * 4)) = some (.int .i64 (l[k]).par) ∧ w.cell? ⟨(ad.add (k * 4)).block, (ad.add (k * 4)).off + 1, none⟩ = some (.int .i64 (l[k]).rate) ∧ w.cell? ⟨(ad.add (k * 4)).block, (ad.add (k * 4)).off + 2, none⟩ = some (.int .i64 (l[k]).burst) ∧ w.cell? ⟨(ad.add (k * 4)).block, (ad.add (k * 4)).off + 3, none⟩ = some (.int .i64 (l[k]).tok) := by
  obtain ⟨ad, e, hc⟩ := RdL.at_ h hk
  replace hc : ∀ j u, (l[k]).cells[j]? = some u → w.cell? (ad.add (k * 4 + j)) = some u := hc
  exact ⟨ad, e, hc 0 _ rfl, by rw [← add_field _ _ 1 (by omega)]; exact hc 1 _ rfl, by rw [← add_field _ _ 2 (by omega)]; exact hc 2 _ rfl, by rw [← add_field _ _ 3 (by omega)]; exact hc 3 _ rfl⟩
/-- The four cells of bucket k of an owned list. -/
theorem OwB.cells {w : World} {base g n cap : Nat} {l : List Bk} (h : OwB w base (.slice (some ⟨g, 0, none⟩) n cap) l) {k : Nat} (hk : k < l.length) : w.cell? ⟨g, k * 4, none⟩ = some (.int .i64 (l[k]).par) ∧ w.cell? ⟨g, k * 4 + 1, none⟩ = some (.int .i64 (l[k]).rate) ∧ w.cell? ⟨g, k * 4 + 2, none⟩ = some (.int .i64 (l[k]).burst) ∧ w.cell? ⟨g, k * 4 + 3, none⟩ = some (.int .i64 (l[k]).tok) :=
  ⟨OwL.cell h hk (j := 0) (by decide), OwL.cell h hk (j := 1) (by decide), OwL.cell h hk (j := 2) (by decide), OwL.cell h hk (j := 3) (by decide)⟩
theorem OwB.tok {w : World} {base g n cap : Nat} {l : List Bk} (h : OwB w base (.slice (some ⟨g, 0, none⟩) n cap) l) {k : Nat} (hk : k < l.length) (t : Int) : OwB (w.setCell ⟨g, k * 4 + 3, none⟩ (.int .i64 t)) base (.slice (some ⟨g, 0, none⟩) n cap) (l.set k { l[k] with tok := t }) :=
  OwL.stored h hk (j := 3) (by decide) rfl
theorem info64 : (Try.prog.info? 64).map (fun i => (i.zero, i.size, i.bytes)) = some (some (.agg #[.int .i64 0, .int .i64 0, .int .i64 0, .int .i64 0]), 4, 32) := by kernel_rfl
theorem ret_i {k : IntKind} {a b : Int} (h : a = b) : Ending.returned (.int k a) = .returned (.int k b) := by rw [h]

end Go.Proofs.Ytlgahhfpdomdmaa

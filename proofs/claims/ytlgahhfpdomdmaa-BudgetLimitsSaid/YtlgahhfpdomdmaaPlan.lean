/- Plans, uses and what was taken: how they lie in memory, and the buckets of a plan. No condition. -/
import Derived.Test.YtlgahhfpdomdmaaAw
import Derived.Test.YtlgahhfpdomdmaaOpB
set_option linter.unusedVariables false
set_option linter.unusedSimpArgs false
namespace Go.Proofs.Ytlgahhfpdomdmaa
open Go.RowKit

/-- A plan's bucket; a use; what was taken. -/
structure Pl where
  par : Int
  rate : Int
  burst : Int
structure Us where
  wait : Int
  bucket : Int
  want : Int
structure Tk where
  time : Int
  bucket : Int
  n : Int
def eP : Enc Pl := { size := 3, pos := by omega, cells := fun x => [.int .u8 x.par, .int .u8 x.rate, .int .u8 x.burst], len := fun _ => rfl, one := fun x u hu => by simp at hu; rcases hu with rfl | rfl | rfl <;> rfl }
def eU : Enc Us := { size := 3, pos := by omega, cells := fun x => [.int .u8 x.wait, .int .u8 x.bucket, .int .u8 x.want], len := fun _ => rfl, one := fun x u hu => by simp at hu; rcases hu with rfl | rfl | rfl <;> rfl }
def eK : Enc Tk := { size := 3, pos := by omega, cells := fun x => [.int .i64 x.time, .int .i64 x.bucket, .int .i64 x.n], len := fun _ => rfl, one := fun x u hu => by simp at hu; rcases hu with rfl | rfl | rfl <;> rfl }
def Pl.Ok (x : Pl) : Prop := (0 ≤ x.par ∧ x.par ≤ 255) ∧ (0 ≤ x.rate ∧ x.rate ≤ 255) ∧ (0 ≤ x.burst ∧ x.burst ≤ 255)
def Us.Ok (x : Us) : Prop := (0 ≤ x.wait ∧ x.wait ≤ 255) ∧ (0 ≤ x.bucket ∧ x.bucket ≤ 255) ∧ (0 ≤ x.want ∧ x.want ≤ 255)
theorem three_at {α : Type} {E : Enc α} (hs : E.size = 3) {w : World} {A : Option Addr} {l : List α} (h : RdL E w A l) {k : Nat} (hk : k < l.length) {a b c : Value} (hc : E.cells l[k] = [a, b, c]) : ∃ ad, A = some ad ∧ w.cell? (ad.add (k * 3)) = some a ∧ w.cell? ⟨(ad.add (k * 3)).block, (ad.add (k * 3)).off + 1, none⟩ = some b ∧ w.cell? ⟨(ad.add (k * 3)).block, (ad.add (k * 3)).off + 2, none⟩ = some c := by
  obtain ⟨ad, e, h⟩ := RdL.at_ h hk
  rw [hs, hc] at h
  exact ⟨ad, e, h 0 _ rfl, by rw [← add_field _ _ 1 (by omega)]; exact h 1 _ rfl, by rw [← add_field _ _ 2 (by omega)]; exact h 2 _ rfl⟩
abbrev RdP := RdL eP
abbrev RdU := RdL eU
abbrev RdK := RdL eK
abbrev OwK := OwL eK 56
theorem RdP.at_ {w : World} {A : Option Addr} {l : List Pl} (h : RdP w A l) {k : Nat} (hk : k < l.length) : ∃ ad, A = some ad ∧ w.cell? (ad.add (k * 3)) = some (.int .u8 l[k].par) ∧ w.cell? ⟨(ad.add (k * 3)).block, (ad.add (k * 3)).off + 1, none⟩ = some (.int .u8 l[k].rate) ∧ w.cell? ⟨(ad.add (k * 3)).block, (ad.add (k * 3)).off + 2, none⟩ = some (.int .u8 l[k].burst) := three_at rfl h hk rfl
theorem RdU.at_ {w : World} {A : Option Addr} {l : List Us} (h : RdU w A l) {k : Nat} (hk : k < l.length) : ∃ ad, A = some ad ∧ w.cell? (ad.add (k * 3)) = some (.int .u8 l[k].wait) ∧ w.cell? ⟨(ad.add (k * 3)).block, (ad.add (k * 3)).off + 1, none⟩ = some (.int .u8 l[k].bucket) ∧ w.cell? ⟨(ad.add (k * 3)).block, (ad.add (k * 3)).off + 2, none⟩ = some (.int .u8 l[k].want) := three_at rfl h hk rfl
theorem RdK.at_ {w : World} {A : Option Addr} {l : List Tk} (h : RdK w A l) {k : Nat} (hk : k < l.length) : ∃ ad, A = some ad ∧ w.cell? (ad.add (k * 3)) = some (.int .i64 l[k].time) ∧ w.cell? ⟨(ad.add (k * 3)).block, (ad.add (k * 3)).off + 1, none⟩ = some (.int .i64 l[k].bucket) ∧ w.cell? ⟨(ad.add (k * 3)).block, (ad.add (k * 3)).off + 2, none⟩ = some (.int .i64 l[k].n) := three_at rfl h hk rfl

/-- The buckets of a plan: empty, and full. -/
def plB (i : Nat) (x : Pl) : Bk := ⟨x.par % (i + 1) - 1, x.rate % 20, x.burst % 60, 0⟩
def emptyL (l : List Pl) : List Bk := l.mapIdx plB
def builtL (l : List Pl) : List Bk := (emptyL l).map Bk.full
theorem emptyL_length (l : List Pl) : (emptyL l).length = l.length := by simp [emptyL]
theorem builtL_length (l : List Pl) : (builtL l).length = l.length := by simp [builtL, emptyL]
theorem builtL_at {l : List Pl} {k : Nat} (hk : k < l.length) (h : k < (builtL l).length) : (builtL l)[k] = ⟨l[k].par % (k + 1) - 1, l[k].rate % 20, l[k].burst % 60, l[k].burst % 60⟩ := by
  simp only [builtL, emptyL, List.getElem_map, List.getElem_mapIdx, plB, Bk.full]
  congr 1
  omega
theorem builtL_ok {l : List Pl} (h8 : l.length ≤ 8) : BudOk 0 (builtL l) := by
  refine ⟨by rw [builtL_length]; omega, by omega, by omega, fun k hk => ?_⟩
  have hk' : k < l.length := by rwa [builtL_length] at hk
  rw [builtL_at hk']
  have h1 := Int.emod_nonneg l[k].par (show (k : Int) + 1 ≠ 0 by omega)
  have h2 := Int.emod_lt_of_pos l[k].par (show 0 < (k : Int) + 1 by omega)
  constructor <;> simp only <;> omega
theorem emptyL_take {l : List Pl} {k : Nat} (hk : k < l.length) : emptyL (l.take (k + 1)) = emptyL (l.take k) ++ [plB k l[k]] := by
  rw [List.take_succ_eq_append_getElem hk]
  simp only [emptyL, List.mapIdx_append, List.length_take, List.mapIdx_cons, List.mapIdx_nil, Nat.min_eq_left (Nat.le_of_lt hk), Nat.zero_add]
end Go.Proofs.Ytlgahhfpdomdmaa

/- Lineages: how spans lie in memory, and what the functions on lineages compute. Plain lemmas; no condition. -/
import Derived.Test.YtcdifegjlllbfaaFen
set_option linter.unusedVariables false
namespace Go.Proofs.Ytcdifegjlllbfaa
open Go.RowKit

/-- A span. -/
structure Sp where
  ep : Int
  fr : Int
  to : Int
deriving DecidableEq
def Sp.cells (x : Sp) : Array Value := #[.int .i64 x.ep, .int .i64 x.fr, .int .i64 x.to]
def Sp.val (x : Sp) : Value := .agg x.cells
def eS : Enc Sp := { size := 3, pos := by omega, cells := fun x => [.int .i64 x.ep, .int .i64 x.fr, .int .i64 x.to], len := fun _ => rfl, one := fun x u hu => by simp at hu; rcases hu with rfl | rfl | rfl <;> rfl }
abbrev RdS := RdL eS
abbrev OwS := OwL eS 107
theorem RdS.at_ {w : World} {A : Option Addr} {l : List Sp} (h : RdS w A l) {k : Nat} (hk : k < l.length) : ∃ ad, A = some ad ∧ w.cell? (ad.add (k * 3)) = some (.int .i64 l[k].ep) ∧ w.cell? ⟨(ad.add (k * 3)).block, (ad.add (k * 3)).off + 1, none⟩ = some (.int .i64 l[k].fr) ∧ w.cell? ⟨(ad.add (k * 3)).block, (ad.add (k * 3)).off + 2, none⟩ = some (.int .i64 l[k].to) := by
  obtain ⟨ad, e, hc⟩ := RdL.at_ h hk
  replace hc : ∀ j u, [Value.int .i64 l[k].ep, .int .i64 l[k].fr, .int .i64 l[k].to][j]? = some u → w.cell? (ad.add (k * 3 + j)) = some u := hc
  exact ⟨ad, e, hc 0 _ rfl, by rw [← add_field _ _ 1 (by omega)]; exact hc 1 _ rfl, by rw [← add_field _ _ 2 (by omega)]; exact hc 2 _ rfl⟩
theorem info107 : (Try.prog.info? 107).map (fun i => (i.zero, i.size, i.bytes)) = some (some (.agg #[.int .i64 0, .int .i64 0, .int .i64 0]), 3, 24) := by kernel_rfl

def sp0 : Sp := ⟨0, 0, 0⟩
def spAt (l : List Sp) (k : Nat) : Sp := l[k]?.getD sp0
/-- The span before. -/
def prevS (l : List Sp) : Nat → Sp
  | 0 => sp0
  | k + 1 => spAt l k
theorem spAt_eq {l : List Sp} {k : Nat} (h : k < l.length) : spAt l k = l[k] := by simp [spAt, h]

/-- The error of a span behind another. -/
def spErr (last x : Sp) : Int :=
  if (1 ≤ x.ep ∧ x.ep ≤ 1073741824) ∧ (1 ≤ x.fr ∧ x.fr ≤ 1073741824) ∧ (1 ≤ x.to ∧ x.to ≤ 1073741824) then
    (if x.fr ≤ x.to then (if x.fr = last.to + 1 then (if last.ep < x.ep then 0 else 13) else 15) else 3) else 2
/-- The error of a lineage behind a span. -/
def linE : Sp → List Sp → Int
  | _, [] => 0
  | last, x :: l => if spErr last x = 0 then linE x l else spErr last x
def chkL (l : List Sp) : Int := linE sp0 l
theorem linE_drop {l : List Sp} {k : Nat} (hk : k < l.length) : linE (prevS l k) (l.drop k) = if spErr (prevS l k) l[k] = 0 then linE (prevS l (k + 1)) (l.drop (k + 1)) else spErr (prevS l k) l[k] := by
  rw [List.drop_eq_getElem_cons hk]
  show (if spErr (prevS l k) l[k] = 0 then linE l[k] (l.drop (k + 1)) else spErr (prevS l k) l[k]) = _
  rw [show prevS l (k + 1) = l[k] from spAt_eq hk]
/-- A span in order behind another. -/
structure SpOk (last x : Sp) : Prop where
  e0 : 1 ≤ x.ep
  e1 : x.ep ≤ 1073741824
  f0 : 1 ≤ x.fr
  f1 : x.fr ≤ 1073741824
  t0 : 1 ≤ x.to
  t1 : x.to ≤ 1073741824
  ft : x.fr ≤ x.to
  gap : x.fr = last.to + 1
  up : last.ep < x.ep
theorem spErr_zero {last x : Sp} : spErr last x = 0 ↔ SpOk last x := by
  unfold spErr
  constructor
  · intro h
    split at h
    · split at h
      · split at h
        · split at h
          · constructor <;> omega
          · cases h
        · cases h
      · cases h
    · cases h
  · rintro ⟨h1, h2, h3, h4, h5, h6, h7, h8, h9⟩
    rw [if_pos ⟨⟨h1, h2⟩, ⟨h3, h4⟩, h5, h6⟩, if_pos h7, if_pos h8, if_pos h9]
/-- A lineage in order. -/
def Lin (l : List Sp) : Prop := ∀ k (h : k < l.length), SpOk (prevS l k) l[k]
theorem linE_zero : ∀ (l : List Sp) (last : Sp), linE last l = 0 ↔ ∀ k (h : k < l.length), SpOk (if k = 0 then last else spAt l (k - 1)) l[k] := by
  intro l
  induction l with
  | nil => intro last; simp [linE]
  | cons x l ih =>
    intro last
    unfold linE
    constructor
    · intro h
      split at h
      · rename_i hx
        intro k hk
        cases k with
        | zero => exact spErr_zero.1 hx
        | succ k =>
          have := (ih x).1 h k (by simpa using hk)
          cases k with
          | zero => simpa [spAt] using this
          | succ k => simpa [spAt] using this
      · rename_i hx; exact absurd h hx
    · intro h
      have h0 := h 0 (by simp)
      rw [if_pos (spErr_zero.2 (by simpa using h0))]
      refine (ih x).2 fun k hk => ?_
      have := h (k + 1) (by simpa using hk)
      cases k with
      | zero => simpa [spAt] using this
      | succ k => simpa [spAt] using this
theorem chkL_zero {l : List Sp} : chkL l = 0 ↔ Lin l := by
  unfold chkL Lin
  rw [linE_zero]
  constructor
  · intro h k hk
    have := h k hk
    cases k with
    | zero => exact this
    | succ k => exact this
  · intro h k hk
    have := h k hk
    cases k with
    | zero => exact this
    | succ k => exact this

/-! What the functions compute. -/
def hasB (c : Int) (x : Sp) : Bool := decide (x.fr ≤ c) && decide (c ≤ x.to)
def findS (l : List Sp) (c : Int) : Option Sp := l.find? (hasB c)
def epoV (l : List Sp) (c : Int) : Int := if chkL l = 0 then ((findS l c).map Sp.ep).getD 0 else 0
def epoB (l : List Sp) (c : Int) : Bool := if chkL l = 0 then (findS l c).isSome else false
def cutS (c : Int) (x : Sp) : Option Sp := if x.fr ≤ c then some ⟨x.ep, x.fr, min x.to c⟩ else none
def truL (l : List Sp) (c : Int) : List Sp := if chkL l = 0 then l.filterMap (cutS c) else []
def tailS (l : List Sp) : Sp := l.getLast?.getD sp0
def extE (l : List Sp) (n c : Int) : Int :=
  if chkL l = 0 then (if inB n 1 && inB c 1 then (if (tailS l).ep ≤ n then (if (tailS l).to < c then 0 else 8) else 13) else 2) else chkL l
def extM (l : List Sp) (n c : Int) : List Sp :=
  if l ≠ [] ∧ n = (tailS l).ep then l.dropLast ++ [⟨(tailS l).ep, (tailS l).fr, c⟩] else l ++ [⟨n, (tailS l).to + 1, c⟩]
def extL (l : List Sp) (n c : Int) : List Sp := if extE l n c = 0 then extM l n c else []
end Go.Proofs.Ytcdifegjlllbfaa

/- Fences and rules: how they lie in memory, and what the functions on fences compute. Plain lemmas; no condition. -/
import Derived.Test.YtcdifegjlllbfaaProg
import Derived.Test.YtcdifegjlllbfaaKnw
import Derived.WalkKit
import Derived.RowKit
set_option linter.unusedVariables false
namespace Go.Proofs.Ytcdifegjlllbfaa
open Go.RowKit

/-- A fence. -/
structure Fe where
  ep : Int
  ow : Int
  cl : Bool
def Fe.val (f : Fe) : Value := .agg #[.int .i64 f.ep, .int .i64 f.ow, .bool f.cl]
def Fe.cells (f : Fe) : Array Value := #[.int .i64 f.ep, .int .i64 f.ow, .bool f.cl]
/-- A rule: its function, what it captured, its error; and whether it is satisfied. -/
structure Rl where
  f : Nat
  lb : Array Value
  e : Int
  b : Bool
def eR : Enc Rl := { size := 2, pos := by omega, cells := fun r => [.func (.func r.f) #[] r.lb, .int .i64 r.e], len := fun _ => rfl, one := fun x u hu => by simp at hu; rcases hu with rfl | rfl <;> rfl }
abbrev RdR := RdL eR
theorem RdR.at_ {w : World} {A : Option Addr} {l : List Rl} (h : RdR w A l) {k : Nat} (hk : k < l.length) : ∃ ad, A = some ad ∧ w.cell? (ad.add (k * 2)) = some (.func (.func l[k].f) #[] l[k].lb) ∧ w.cell? ⟨(ad.add (k * 2)).block, (ad.add (k * 2)).off + 1, none⟩ = some (.int .i64 l[k].e) := by
  obtain ⟨ad, e, hc⟩ := RdL.at_ h hk
  replace hc : ∀ j u, [Value.func (.func l[k].f) #[] l[k].lb, .int .i64 l[k].e][j]? = some u → w.cell? (ad.add (k * 2 + j)) = some u := hc
  exact ⟨ad, e, hc 0 _ rfl, by rw [← add_field _ _ 1 (by omega)]; exact hc 1 _ rfl⟩
/-- A block that was just laid holds the list. -/
theorem RdL.boxes {α : Type} {E : Enc α} (w : World) (l : List α) (e : TypeId) (cs : Array Value) (hc : cs = (E.flat l).toArray) (h : l.length ≤ 9223372036854775807) : RdL E (w.alloc (.cells cs e)) (some ⟨w.heap.size, 0, none⟩) l :=
  ⟨h, fun _ => ⟨_, rfl, by subst hc; simpa using World.news_of_block (cs := (E.flat l).toArray) (t := e) (fr := (0, 0)) (heap_alloc_new w (.cells (E.flat l).toArray e))⟩⟩
/-- The error of the first rule that is not satisfied. -/
def firstE : List Rl → Int
  | [] => 0
  | r :: l => if r.b then firstE l else r.e
theorem firstE_drop {l : List Rl} {k : Nat} (hk : k < l.length) : firstE (l.drop k) = if l[k].b then firstE (l.drop (k + 1)) else l[k].e := by
  rw [List.drop_eq_getElem_cons hk]; rfl
theorem ret_i {k : IntKind} {a b : Int} (h : a = b) : Ending.returned (.int k a) = .returned (.int k b) := by rw [h]

/-! What the functions on fences compute. -/
def inB (n low : Int) : Bool := decide (low ≤ n ∧ n ≤ 1073741824)
def siteB (n : Int) : Bool := decide (0 ≤ n ∧ n < 4)
def ordB (f : Fe) : Bool := inB f.ep 0 && siteB f.ow
def chkF (f : Fe) : Int := if ordB f then 0 else 2
def admE (f : Fe) (n s : Int) : Int := if ordB f then (if f.ep ≤ n then (if n = f.ep then (if f.cl = false ∧ s = f.ow then 0 else 14) else 1) else 13) else 2
def raiE (f : Fe) (n ow : Int) : Int := if ordB f then (if inB n 0 && siteB ow then (if f.ep < n then 0 else 13) else 2) else 2
def shuE (f : Fe) (n : Int) : Int := if ordB f then (if inB n 0 then (if f.ep ≤ n then 0 else 13) else 2) else 2
def fe0 : Fe := ⟨0, 0, false⟩
def newF (n ow : Int) : Fe := if chkF ⟨n, ow, false⟩ = 0 then ⟨n, ow, false⟩ else fe0
def raiF (f : Fe) (n ow : Int) : Fe := if raiE f n ow = 0 then ⟨n, ow, false⟩ else fe0
def shuF (f : Fe) (n : Int) : Fe := if shuE f n = 0 then ⟨n, f.ow, true⟩ else fe0
end Go.Proofs.Ytcdifegjlllbfaa

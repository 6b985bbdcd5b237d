/- A map literal of three functions with constant keys: the inserts and the look-up. Plain lemmas over the program's map type; no condition. -/
import Derived.Test.YtcdifegjlllbfaaWtF
import Derived.MapKept
set_option linter.unusedVariables false
set_option linter.unusedSimpArgs false
namespace Go.Proofs.Ytcdifegjlllbfaa
open Go.RowKit Go.MapKept

def ent (k : Int) (f : Value) (b : Nat) : MapEntry := ⟨.int .i64 k, f, b⟩
def putB (w : World) (g : Nat) (o : Obj) : World := { w with heap := w.heap.setIfInBounds g o }
theorem putB_same {w : World} {g : Nat} {o o' : Obj} (h : w.heap[g]? = some o) : (putB w g o').heap[g]? = some o' := (heap_set h).1
theorem putB_other {w : World} {g k : Nat} {o o' : Obj} (h : w.heap[g]? = some o) (hk : k ≠ g) : (putB w g o').heap[k]? = w.heap[k]? := (heap_set h).2 k hk
theorem insert_run {w : World} {g : Nat} {es : Array MapEntry} {c : Nat} (h : w.heap[g]? = some (.map es c)) (k : Int) (f : Value) (hn : Instr.findNow (.int .i64) (.int .i64 k) es.toList 0 = some none) :
    (Instr.mapUpdate 123 (.map (some g)) (.int .i64 k) f).run Try.prog w = .ok () (putB w g (.map (es.push (ent k f c)) (c + 1))) := by
  have hm := Try.underlying123
  have h3 := Try.underlying3
  simp [Instr.mapUpdate, run_underlying hm, MapKept.run_getObj_map h, run_checkKey h3 (k := .int .i64 k) (by simp [IsKey]), run_findKey h3 hn, run_setObj_map _ h, Result.andThen, putB, ent]
theorem lookup_run {w : World} {g : Nat} {es : Array MapEntry} {c : Nat} (h : w.heap[g]? = some (.map es c)) (k : Int) {i : Nat} {f : Value} (hn : Instr.findNow (.int .i64) (.int .i64 k) es.toList 0 = some (some (i, f))) :
    (Instr.lookup 123 (.map (some g)) (.int .i64 k) true).run Try.prog w = .ok (.tuple #[f, .bool true]) w := by
  have hm := Try.underlying123
  have h3 := Try.underlying3
  simp [Instr.lookup, run_underlying hm, MapKept.run_getObj_map h, run_checkKey h3 (k := .int .i64 k) (by simp [IsKey]), run_findKey h3 hn, Result.andThen]
/-- The three inserts. -/
theorem insert_three (w : World) (g : Nat) (f1 f2 f3 : Value) (h : w.heap[g]? = some (.map #[] 0)) : ∃ w1 w2 w3,
    (Instr.mapUpdate 123 (.map (some g)) (.int .i64 15) f1).run Try.prog w = .ok () w1 ∧
    (Instr.mapUpdate 123 (.map (some g)) (.int .i64 17) f2).run Try.prog w1 = .ok () w2 ∧
    (Instr.mapUpdate 123 (.map (some g)) (.int .i64 18) f3).run Try.prog w2 = .ok () w3 ∧
    (Instr.lookup 123 (.map (some g)) (.int .i64 15) true).run Try.prog w3 = .ok (.tuple #[f1, .bool true]) w3 ∧
    (Instr.lookup 123 (.map (some g)) (.int .i64 17) true).run Try.prog w3 = .ok (.tuple #[f2, .bool true]) w3 ∧
    (Instr.lookup 123 (.map (some g)) (.int .i64 18) true).run Try.prog w3 = .ok (.tuple #[f3, .bool true]) w3 ∧ Below g w w3 ∧ w3.heap.size = w.heap.size := by
  have h1 : (putB w g (.map #[ent 15 f1 0] 1)).heap[g]? = some (.map #[ent 15 f1 0] 1) := putB_same h
  have h2 := putB_same (o' := .map #[ent 15 f1 0, ent 17 f2 1] 2) h1
  have h3 := putB_same (o' := .map #[ent 15 f1 0, ent 17 f2 1, ent 18 f3 2] 3) h2
  have s1 : (putB w g (.map #[ent 15 f1 0] 1)).heap.size = w.heap.size := by simp [putB]
  refine ⟨_, _, _, insert_run h 15 f1 rfl, insert_run h1 17 f2 rfl, insert_run h2 18 f3 rfl, lookup_run h3 15 (i := 0) rfl, lookup_run h3 17 (i := 1) rfl, lookup_run h3 18 (i := 2) rfl, ⟨rfl, rfl, rfl, by simp [putB], fun k hk => ?_⟩, by simp [putB]⟩
  have hne : k ≠ g := by omega
  exact (putB_other (k := k) h2 hne).trans ((putB_other (k := k) h1 hne).trans (putB_other (k := k) h hne))
end Go.Proofs.Ytcdifegjlllbfaa

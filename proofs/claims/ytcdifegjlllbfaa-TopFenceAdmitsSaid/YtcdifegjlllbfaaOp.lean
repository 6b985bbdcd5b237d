/- A handed slice of structs, opened to a list; the shape of a law's row. Plain lemmas over any program; no condition. -/
import Derived.Test.YtcdifegjlllbfaaLists
import Derived.Deep.Slices
import Derived.Deep.Fields
import Derived.ChangeSame
import Derived.Lib.SmallJoins
namespace Go.Proofs.Ytcdifegjlllbfaa
open Go.ChangeShapes Go.WideShapes Go.Deep Go.RowKit
section
variable {H : Type} {enc : TypeId × Value → H} {P : Program} {w : World} {base : Nat} {spare : Nat → Bool} {held : Bool}
theorem RdL.make {α : Type} {E : Enc α} {l : List α} {a : Addr} (hlen : l.length ≤ 9223372036854775807) (h : ∀ k (hk : k < l.length) (j : Nat) (u : Value), (E.cells l[k])[j]? = some u → w.cell? (a.add (k * E.size + j)) = some u) : RdL E w (some a) l := by
  refine ⟨hlen, fun _ => ⟨a, rfl, fun j u hu => ?_⟩⟩
  have hj : j < l.length * E.size := by rw [← E.flat_length]; exact (List.getElem?_eq_some_iff.1 hu).1
  have hk : j / E.size < l.length := Nat.div_lt_of_lt_mul (by rw [Nat.mul_comm]; exact hj)
  have hr : j % E.size < E.size := Nat.mod_lt _ E.pos
  have he : j / E.size * E.size + j % E.size = j := by rw [Nat.mul_comm]; exact Nat.div_add_mod j E.size
  have := h (j / E.size) hk (j % E.size) u (by rw [← Enc.flat_get hk hr, he]; exact hu)
  rwa [he] at this
/-- A handed slice of structs of one-cell fields reads as a list. -/
theorem open_list {α : Type} (E : Enc α) (ok : α → Prop) {t e : TypeId} {fs : Array Field} {fuel : Nat} {cs : List Value} {x : DataW H × List MemPlace} (ht : P.underlying t = some (.slice e)) (he : P.underlying e = some (.struct fs))
    (hone : oneCellFields P fs = true) (hC : P.cellsOf e = fs.size) (hE : fs.size = E.size)
    (hx : ∀ g : Nat → Value, (∀ (j : Nat) (f : Field), fs[j]? = some f → ∃ (n : Nat) (y : DataW H × List MemPlace), DataW.trod enc P w base spare held n f.type [g j] = some y) → ∃ x : α, ok x ∧ ∀ j u, (E.cells x)[j]? = some u → u = g j)
    (h : DataW.trod enc P w base spare held fuel t cs = some x) : ∃ (A : Option Addr) (l : List α) (c : Nat), cs = [.slice A l.length c] ∧ l.length ≤ c ∧ c ≤ maxLen ∧ RdL E w A l ∧ (∀ x ∈ l, ok x) := by
  rcases open_slice ht h with ⟨rfl, _⟩ | ⟨a, len, cap, m, n, D, Pl, hcs, hb, hl, hm, hmm, _, hi⟩
  · exact ⟨none, [], 0, rfl, Nat.le_refl _, by unfold maxLen; omega, RdL.nil _ _ _, by simp⟩
  · have hat : ∀ i, i < len → ∃ x : α, ok x ∧ ∀ j u, (E.cells x)[j]? = some u → w.cell? (a.add (i * E.size + j)) = some u := by
      intro i hil
      have him : i < m := by rw [hmm]; split <;> omega
      obtain ⟨cs', hc, ht'⟩ := hi i him
      rw [hC] at hc
      obtain ⟨ys, n', hn', hy, hlen, hyl, hf⟩ := DataW.trod_struct he ht'
      obtain ⟨_, hcl, hat⟩ := World.cells?_some hc
      obtain ⟨x, ox, hxc⟩ := hx (fun j => cs'.getD j (.bool false)) (fun j f hj => by
        obtain ⟨ho, hk⟩ := hone_of hone j f hj
        have hjl : j < fs.size := (Array.getElem?_eq_some_iff.1 hj).1
        have h1 := hf j f hj
        rw [ho, hk] at h1
        have hone' : (cs'.drop j).take 1 = [cs'.getD j (.bool false)] := by
          rw [List.drop_eq_getElem_cons (show j < cs'.length by omega)]
          simp only [List.getD, List.getElem?_eq_getElem (show j < cs'.length by omega)]
          rfl
        rw [hone'] at h1
        have hys : ys[j]? = some (ys[j]'(by omega)) := List.getElem?_eq_getElem (by omega)
        exact ⟨_, _, h1.trans hys⟩)
      refine ⟨x, ox, fun j u hu => ?_⟩
      have hj : j < E.size := by rw [← E.len x]; exact (List.getElem?_eq_some_iff.1 hu).1
      have := hat j (by omega)
      rw [← hE, ← Go.Deep.add_add, this, hxc j u hu]
      simp [List.getD, List.getElem?_eq_getElem (show j < cs'.length by omega)]
    let g : (i : Nat) → i < len → α := fun i hi => Classical.choose (hat i hi)
    have hg : ∀ i hi, ok (g i hi) ∧ ∀ j u, (E.cells (g i hi))[j]? = some u → w.cell? (a.add (i * E.size + j)) = some u := fun i hi => Classical.choose_spec (hat i hi)
    let l : List α := List.ofFn fun i : Fin len => g i.1 i.2
    have hll : l.length = len := by simp [l]
    have hlk : ∀ k (hk : k < l.length), l[k] = g k (by omega) := fun k hk => by simp [l]
    refine ⟨some a, l, cap, by rw [hll]; exact hcs, by omega, hm, RdL.make (by unfold maxLen at hm; omega) fun k hk j u hu => ?_, fun x hx => ?_⟩
    · rw [hlk k hk] at hu
      exact (hg k (by omega)).2 j u hu
    · obtain ⟨k, hk, rfl⟩ := List.getElem_of_mem hx
      rw [hlk k hk]
      exact (hg k (by omega)).1
end
end Go.Proofs.Ytcdifegjlllbfaa

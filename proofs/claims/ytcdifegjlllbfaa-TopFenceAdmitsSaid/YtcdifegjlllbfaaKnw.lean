/- What a call knows of memory: blocks known whole, slices owned; kept by what lies below, by a new block, by a store into a box. Plain lemmas; no condition. -/
import Derived.Test.YtcdifegjlllbfaaLists
set_option linter.unusedVariables false
namespace Go.Proofs.Ytcdifegjlllbfaa
open Go.RowKit

/-- A block known whole; a slice owned. -/
structure BD where
  g : Nat
  t : TypeId
  cs : Array Value
structure Own where
  {α : Type}
  E : Enc α
  e : TypeId
  base : Nat
  v : Value
  l : List α
structure Known (w0 W : World) (bl : List BD) (ow : List Own) : Prop where
  low : Below w0.heap.size w0 W
  blk_ : ∀ b ∈ bl, Blk W b.g b.t b.cs ∧ w0.heap.size ≤ b.g
  dis : (bl.map BD.g).Nodup
  own_ : ∀ o ∈ ow, OwL o.E o.e W o.base o.v o.l
section
variable {w0 W W' : World} {bl : List BD} {ow : List Own}
theorem Known.start (w : World) : Known w w [] [] := ⟨Below.refl _ _, by simp, by simp, by simp⟩
theorem Known.size (h : Known w0 W bl ow) : w0.heap.size ≤ W.heap.size := h.low.size
theorem Known.below (h : Known w0 W bl ow) (hb : Below W.heap.size W W') : Known w0 W' bl ow :=
  ⟨h.low.trans (hb.mono h.low.size), fun b m => ⟨(h.blk_ b m).1.below hb (h.blk_ b m).1.lt, (h.blk_ b m).2⟩, h.dis, fun o m => (h.own_ o m).below hb⟩
theorem Known.alloc (h : Known w0 W bl ow) (t : TypeId) (cs : Array Value) : Known w0 (W.alloc (.cells cs t)) (⟨W.heap.size, t, cs⟩ :: bl) ow := by
  refine ⟨h.low.alloc h.low.size _, fun b m => ?_, ?_, fun o m => (h.own_ o m).alloc _⟩
  · rcases List.mem_cons.1 m with rfl | m
    · exact ⟨Blk.new W t cs, h.low.size⟩
    · exact ⟨(h.blk_ b m).1.alloc _, (h.blk_ b m).2⟩
  · rw [List.map_cons, List.nodup_cons]
    refine ⟨fun m => ?_, h.dis⟩
    obtain ⟨b, hb, e⟩ := List.mem_map.1 m
    have := (h.blk_ b hb).1.lt
    simp only at e
    omega
theorem Known.add {α : Type} {E : Enc α} {e : TypeId} {base : Nat} {v : Value} {l : List α} (h : Known w0 W bl ow) (ho : OwL E e W base v l) : Known w0 W bl (⟨E, e, base, v, l⟩ :: ow) :=
  ⟨h.low, h.blk_, h.dis, fun o m => by rcases List.mem_cons.1 m with rfl | m; exact ho; exact h.own_ o m⟩
theorem Known.drewN (h : Known w0 W bl ow) (n : Nat) : Known w0 (W.drewN n) bl ow := h.below ⟨rfl, rfl, rfl, Nat.le_refl _, fun _ _ => rfl⟩
theorem Known.fst {o : Own} (h : Known w0 W bl (o :: ow)) : Known w0 W bl [o] := ⟨h.low, h.blk_, h.dis, fun x m => by cases List.mem_singleton.1 m; exact h.own_ o (by simp)⟩
theorem Known.sub {ow' : List Own} (h : Known w0 W bl ow) (hs : ∀ o ∈ ow', o ∈ ow) : Known w0 W bl ow' := ⟨h.low, h.blk_, h.dis, fun x m => h.own_ x (hs x m)⟩
theorem Known.blk (h : Known w0 W bl ow) (i : Nat) {b : BD} (hi : bl[i]? = some b) : Blk W b.g b.t b.cs := (h.blk_ b (List.mem_of_getElem? hi)).1
theorem Known.own (h : Known w0 W bl ow) (i : Nat) {o : Own} (hi : ow[i]? = some o) : OwL o.E o.e W o.base o.v o.l := h.own_ o (List.mem_of_getElem? hi)
theorem Known.lt (h : Known w0 W bl ow) (i : Nat) {b : BD} (hi : bl[i]? = some b) : b.g < W.heap.size := (h.blk i hi).lt
/-- A store into one cell of a block. -/
theorem Known.set_ (h : Known w0 W bl ow) (i : Nat) {g : Nat} {t : TypeId} {cs : Array Value} (hi : bl[i]? = some ⟨g, t, cs⟩) (j : Nat) (a : Value) (he : ∀ o ∈ ow, t ≠ o.e) : Known w0 (W.setCell ⟨g, j, none⟩ a) (bl.set i ⟨g, t, cs.setIfInBounds j a⟩) ow := by
  have hm := List.mem_of_getElem? hi
  have hB := (h.blk_ _ hm).1
  obtain ⟨hil, hie⟩ := List.getElem?_eq_some_iff.1 hi
  have hmap : (bl.set i ⟨g, t, cs.setIfInBounds j a⟩).map BD.g = bl.map BD.g := by
    apply List.ext_getElem
    · simp
    · intro k h1 h2
      simp only [List.getElem_map, List.getElem_set]
      split
      · rename_i e; subst e; rw [hie]
      · rfl
  refine ⟨h.low.setCell (h.blk_ _ hm).2 _, fun b m => ?_, by rw [hmap]; exact h.dis, fun o m => ?_⟩
  · obtain ⟨k, hk, rfl⟩ := List.getElem_of_mem m
    have hk' : k < bl.length := by simpa using hk
    rw [List.getElem_set]
    split
    · exact ⟨hB.set_ j a, (h.blk_ _ hm).2⟩
    · rename_i hne
      have hb := h.blk_ _ (List.getElem_mem hk')
      refine ⟨hb.1.far (fun e => hne ?_) a, hb.2⟩
      have h1 : i < (bl.map BD.g).length := by simpa using hil
      have h2 : k < (bl.map BD.g).length := by simpa using hk'
      refine (List.getElem_inj h.dis (h₀ := h1) (h₁ := h2)).1 ?_
      simp only [List.getElem_map, hie]
      exact e.symm
  · exact OwL.far (p := ⟨g, j, none⟩) (h.own_ o m) (OwL.apart (h.own_ o m) hB (he o m)) a
/-- A store of two cells into a box. -/
theorem Known.box (h : Known w0 W bl ow) (i : Nat) {g : Nat} {t : TypeId} {x y : Value} (hi : bl[i]? = some ⟨g, t, #[x, y]⟩) (a b : Value) (he : ∀ o ∈ ow, t ≠ o.e) : Known w0 ((W.setCell ⟨g, 0, none⟩ a).setCell ⟨g, 1, none⟩ b) (bl.set i ⟨g, t, #[a, b]⟩) ow := by
  have h1 := h.set_ i hi 0 a he
  have hil := (List.getElem?_eq_some_iff.1 hi).1
  have h2 := h1.set_ i (List.getElem?_set_self hil) 1 b he
  rw [List.set_set] at h2
  exact h2
end
end Go.Proofs.Ytcdifegjlllbfaa

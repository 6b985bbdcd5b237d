/- A range over a function, at the widest fence: the caller's law in plain words; what a round keeps; a body's end. Plain lemmas over any program; no condition. -/
import Derived.Test.YtcdifegjlllbfaaLists
import Derived.RangeFuncNested
import Derived.RangeFuncBox
import Derived.RangeFuncBound
import Derived.RangeFuncCalls
import Derived.RangeFuncLeaves
import Derived.Shelf.Abstract
import Derived.Shelf.RegionOpen
import Derived.WalkKit
import Derived.OwnWalkIn
import Derived.TacticsInMore
import Derived.LoopNIn
import Derived.LoopIn
import Derived.Lib.Hide
set_option linter.unusedVariables false
set_option linter.unusedSimpArgs false
namespace Go.Proofs.Ytcdifegjlllbfaa
open Go.RowKit Go.Shelf

/-- Certain cells lie as they lay. -/
def KeepsC (S : Addr → Prop) (W W' : World) : Prop := ∀ p v, S p → W.cell? p = some v → W'.cell? p = some v
theorem KeepsC.refl (S : Addr → Prop) (W : World) : KeepsC S W W := fun _ _ _ h => h
theorem keepsC_t {S : Addr → Prop} {A B C : World} (h : KeepsC S A B) (k : KeepsC S B C) : KeepsC S A C := fun p v hp hv => k p v hp (h p v hp hv)
theorem keepsC_b {S : Addr → Prop} {w : World} (W : World) (l : Nat) (o o' : Obj) (_ : w.heap.size ≤ l) (h : W.heap[l]? = some o) (hc : o.isCells = false) (_ : o.isWalk = false) : KeepsC S W (W.putObj l o') := fun p v _ hv =>
  cell_kept hv (grownBy_putObj' W l o') (fun r e => by cases e; exact ⟨_, h, hc⟩)
theorem KeepsC.below {S : Addr → Prop} {W W' : World} (h : Below W.heap.size W W') : KeepsC S W W' := fun p v _ hv => (h.cell (World.block_lt_of_cell? W p hv)).trans hv
theorem KeepsC.setCell {S : Addr → Prop} (W : World) {a : Addr} (h : ∀ p, S p → p ≠ a) (v : Value) : KeepsC S W (W.setCell a v) := fun p u hp hu => (World.cell?_setCell_other W a p v (fun e => h p hp e.symm)).trans hu
theorem KeepsC.alloc (S : Addr → Prop) (W : World) (o : Obj) : KeepsC S W (W.alloc o) := KeepsC.below ((Below.refl _ _).alloc (Nat.le_refl _) _)
theorem KeepsC.drew {S : Addr → Prop} {W W' : World} (h : KeepsC S W W') : KeepsC S W W'.drew := h

section
variable {P : Program}
/-- How a body that holds a range over a function may end: it returns. -/
def endQ (P : Program) (fn : Func) (R : Ending → World → Prop) : Exit → Act → World → Prop
  | .normal, a, w => bodyPostM Fence.wide 8 P fn R .normal a w
  | .ret, a, w => bodyPostM Fence.wide 8 P fn R .ret a w
  | _, _, _ => False
theorem calls_of_wp_marks {f : FuncId} {fn : Func} {c : Code} {args : Array Value} {w : World} {R : Ending → World → Prop}
    (hf : P.funcs[f]? = some fn) (hb : fn.body = some c)
    (h : c.wp P (endQ P fn R) { tmps := args ++ Array.replicate (fn.ntmps - args.size) undef, defers := [] } w) : Calls P f args w R :=
  callsIn_wide.1 (callsIn_of_wp_marks (F := Fence.wide) (n := 8) hf hb trivial (wpIn_wide.2 (Code.wp_mono (fun e a w hq => by cases e <;> first | exact hq | exact hq.elim) h)) rfl)
theorem bodyM_ret {fn : Func} {R : Ending → World → Prop} {a : Act} {w : World} {v : Value} (hr : (results fn a.tmps).run P w = .ok v w) (hd : a.defers = []) (hR : R (.returned v) w) : endQ P fn R .ret a w := by
  show LeavesInM Fence.wide 8 P fn a.tmps R a.defers .returning w
  rw [hd]
  exact ⟨v, hr, hR⟩
theorem bodyM_mark {fn : Func} {R : Ending → World → Prop} {a : Act} {W : World} {v : Value} {D : Nat} (hK : W.heap[D]? = some (.deferred (some []))) (hd : a.defers = [{ target := .collected D, args := #[] }])
    (hr : (results fn a.tmps).run P (W.putObj D (.deferred none)) = .ok v (W.putObj D (.deferred none))) (hR : R (.returned v) (W.putObj D (.deferred none))) : endQ P fn R .ret a W := by
  show LeavesInM Fence.wide 8 P fn a.tmps R a.defers .returning W
  rw [hd]
  exact ⟨by simp, .inl ⟨_, _, rfl, run_takeDeferred hK, v, hr, hR⟩⟩

/-- The caller's law. -/
theorem wp_rangeFunc {α : Type} {g : Operand} {ps : Array Tmp} {assign body : Code} {Q : Exit → Act → World → Prop} {a : Act} {w : World}
    {gf : Nat} {lb : Array Value} (hg : a.eval g = .func (.func gf) #[] lb) (eg : ∀ args w, (callFunc gf args).run P w = .ok (.enter gf args) w)
    {encs : α → Array Value} {Kp : World → World → Prop} {S Sp : List α → Prop} {N : Nat} {w0 : World} (hseq : SeqStopsK Fence.wide 7 P gf lb encs Kp S Sp N w0)
    (hKt : ∀ {A B C : World}, Kp A B → Kp B C → Kp A C) (hKb : ∀ (W : World) (l : Nat) (o o' : Obj), w.heap.size ≤ l → W.heap[l]? = some o → o.isCells = false → o.isWalk = false → Kp W (W.putObj l o')) (hb0 : Below w0.heap.size w0 w) (hps : ∀ x, (encs x).size = ps.size)
    (I : List α → World → Prop) (Ix : Code → List α → World → Prop) (hI : OwnFrom w.heap.size I) (hIx : ∀ c, OwnFrom w.heap.size (Ix c)) (h0 : I [] w) (a₁ : α → Act)
    (hassign : ∀ (l : Nat) (x : α) (W : World) (K : Act → World → Prop), K (a₁ x) W →
      assign.wpIn (Fence.wide.inRound l) 6 P (Exit.then K (fun _ _ _ => False)) { tmps := (ps.zip (encs x)).foldl (fun t (p, v) => t.setIfInBounds p v) a.tmps, defers := [] } W)
    (hbody : ∀ (l : Nat) (pre : List α) (x : α) (W : World), I pre W → pre.length < N → body.wpIn (Fence.wide.inRound l) 6 P (ownPostG w.heap.size Kp I Ix (pre ++ [x]) W) (a₁ x) W)
    (hdone : ∀ (D : Nat) (xs : List α) (W : World), w.heap.size ≤ D → S xs → I xs W → W.heap[D]? = some (.deferred (some [])) → Q .normal { a with defers := { target := .collected D, args := #[] } :: a.defers } W)
    (hstop : ∀ (D : Nat) (c : Code) (pre : List α) (W : World), w.heap.size ≤ D → Sp pre → Ix c pre W → W.heap[D]? = some (.deferred (some [])) → c.wp P Q { a with defers := { target := .collected D, args := #[] } :: a.defers } W) :
    (Code.rangeFunc g ps assign body).wp P Q a w :=
  wpIn_wide.1 (wpIn_rangeFunc_ownG (F := Fence.wide) (n := 8) rfl (by omega) hg trivial eg hseq hKt hKb hb0 hps I Ix hI hIx h0 a₁ hassign hbody hdone (fun D c pre W h1 h2 h3 h4 => wpIn_wide.2 (hstop D c pre W h1 h2 h3 h4)))
end

/-- What a turn of a block that is no cells leaves alone. -/
theorem Blk.kept {A B : World} {g : Nat} {t : TypeId} {cs : Array Value} {row : Option Nat} (h : Blk A g t cs) (hg : A.grownBy B row) (hr : ∀ r, row = some r → ∃ o : Obj, A.heap[r]? = some o ∧ o.isCells = false) : Blk B g t cs :=
  h.grown hg (fun e => by
    obtain ⟨o, ho, hc⟩ := hr g e.symm
    unfold Blk at h
    rw [h] at ho
    injection ho with ho
    subst ho
    cases hc)
theorem OwL.kept {α : Type} {E : Enc α} {e : TypeId} {A B : World} {base : Nat} {v : Value} {l : List α} {row : Option Nat} (h : OwL E e A base v l) (hg : A.grownBy B row) (hr : ∀ r, row = some r → ∃ o : Obj, A.heap[r]? = some o ∧ o.isCells = false) : OwL E e B base v l := by
  refine h.grown hg fun k hk e => ?_
  obtain ⟨o, ho, hc⟩ := hr k e.symm
  rcases h.2 with ⟨rfl, _⟩ | ⟨g, cap, cur, rfl, _, hh, _⟩
  · simp [Value.ownBlock] at hk
  · have : g = k := by simpa [Value.ownBlock] using hk
    subst this
    rw [hh] at ho
    injection ho with ho
    subst ho
    cases hc

end Go.Proofs.Ytcdifegjlllbfaa

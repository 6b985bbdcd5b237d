/- A range over an iterator that writes a block of its own (its first), and lays a block ahead of each round: the iterator's contract, and the caller's law at the widest fence. Plain lemmas over any program; no condition. -/
import Derived.Test.YtcdifegjlllbfaaRng
set_option linter.unusedVariables false
set_option linter.unusedSimpArgs false
namespace Go.Proofs.Ytcdifegjlllbfaa
open Go.RowKit Go.Shelf

section
variable {P : Program}
/-- The iterator's contract: N rounds, numbered; it writes block W.heap.size (its first) alone, and lays the object xo k ahead of round k. -/
def SeqCells (P : Program) (gf : Nat) (lb : Array Value) (encs : Nat → Array Value) (xo : Nat → Obj) (N : Nat) (needs : World → Prop) (w : World) : Prop :=
  ∀ (l : Nat) (J Jx : Nat → World → Prop) (W : World), Below w.heap.size w W →
    (∀ (k : Nat) (A B : World) (row : Option Nat), J k A → A.grownBy B row → (∀ r, row = some r → r = W.heap.size) → J k B) →
    (∀ (k : Nat) (A B : World) (row : Option Nat), Jx k A → A.grownBy B row → (∀ r, row = some r → r = W.heap.size) → Jx k B) →
    (∀ k A, J k A → needs A) →
    (∀ k A, k < N → J k A → W.heap.size < A.heap.size → YieldAt Fence.wide 6 P l (encs k) (A.alloc (xo k)) fun e B =>
      (e = .returned (.bool true) ∧ J (k + 1) B ∧ B.heap[W.heap.size]? = A.heap[W.heap.size]? ∧ B.heap[A.heap.size]? = some (xo k)) ∨ (e = .returned (.bool false) ∧ Jx k B)) →
    J 0 W → CallsIn Fence.wide 7 P gf (#[.func (.yield l) #[] #[]] ++ lb) W fun e B => (∃ v, e = .returned v) ∧ (J N B ∨ ∃ k, k < N ∧ Jx k B)

/-- How a round may end. -/
def roundC (I Ix : Nat → World → Prop) (s h : Nat) (k : Nat) (W : World) : Exit → Act → World → Prop
  | .normal, _, B => I (k + 1) B ∧ ∀ r, (s ≤ r ∧ r ≤ s + 2) ∨ r = h → B.heap[r]? = W.heap[r]?
  | .ret, _, B => Ix k B ∧ ∀ r, s ≤ r ∧ r ≤ s + 1 → B.heap[r]? = W.heap[r]?
  | _, _, _ => False

theorem heap_alloc_lt (W : World) (o : Obj) {r : Nat} (h : r < W.heap.size) : (W.alloc o).heap[r]? = W.heap[r]? := Below.heap_alloc W o r h

/-- The caller's law. -/
theorem wp_rangeCells {g : Operand} {ps : Array Tmp} {assign body : Code} {Q : Exit → Act → World → Prop} {a : Act} {w : World}
    {gf : Nat} {lb : Array Value} (hg : a.eval g = .func (.func gf) #[] lb) (eg : ∀ args w, (callFunc gf args).run P w = .ok (.enter gf args) w)
    {encs : Nat → Array Value} {xo : Nat → Obj} {N : Nat} {needs : World → Prop} {w0 : World} (hseq : SeqCells P gf lb encs xo N needs w0) (hb0 : Below w0.heap.size w0 w) (hps : ∀ k, (encs k).size = ps.size)
    (I Ix : Nat → World → Prop)
    (hI : ∀ (k : Nat) (A B : World) (row : Option Nat), I k A → A.grownBy B row → (∀ r, row = some r → w.heap.size ≤ r ∧ r ≤ w.heap.size + 2) → I k B)
    (hIx : ∀ (k : Nat) (A B : World) (row : Option Nat), Ix k A → A.grownBy B row → (∀ r, row = some r → w.heap.size ≤ r ∧ r ≤ w.heap.size + 2) → Ix k B)
    (hneeds : ∀ k A, I k A → needs A) (h0 : I 0 w) (a₁ : Nat → World → Act) (aw : Nat → World → World) (haw : ∀ (k : Nat) (W : World), W.grownBy (aw k W) none)
    (hassign : ∀ (lp k : Nat) (W : World) (K : Act → World → Prop), K (a₁ k W) (aw k W) →
      assign.wpIn (Fence.wide.inRound lp) 6 P (Exit.then K (fun _ _ _ => False)) { tmps := (ps.zip (encs k)).foldl (fun t (p, v) => t.setIfInBounds p v) a.tmps, defers := [] } W)
    (hbody : ∀ (lp k : Nat) (A W : World), k < N → I k A → I k W → w.heap.size + 2 < A.heap.size → (∀ r, A.heap.size ≤ r → W.heap[r]? = (aw k (A.alloc (xo k))).heap[r]?) → W.heap.size = (aw k (A.alloc (xo k))).heap.size → (∀ r, r < A.heap.size → r ≠ w.heap.size + 1 → W.heap[r]? = A.heap[r]?) →
      body.wpIn (Fence.wide.inRound lp) 6 P (roundC I Ix w.heap.size A.heap.size k W) (a₁ k (A.alloc (xo k))) W)
    (hdone : ∀ (W : World), I N W → W.heap[w.heap.size]? = some (.deferred (some [])) → Q .normal { a with defers := { target := .collected w.heap.size, args := #[] } :: a.defers } W)
    (hstop : ∀ (k : Nat) (W : World), k < N → Ix k W → W.heap[w.heap.size]? = some (.deferred (some [])) → Code.ret.wp P Q { a with defers := { target := .collected w.heap.size, args := #[] } :: a.defers } W) :
    (Code.rangeFunc g ps assign body).wp P Q a w := by
  refine wpIn_wide.1 (wpIn_rangeFunc (F := Fence.wide) (n := 8) fun fn hfn => ?_)
  let rec_ : LoopState → Option Code → Loop := fun st pe => { state := st, pending := pe, fn, tmps := a.tmps, params := ps, assign, body, defers := w.heap.size }
  obtain ⟨D, hD⟩ : ∃ D, D = w.heap.size := ⟨_, rfl⟩
  have hone : (w.alloc (.deferred (some []))).heap.size = D + 1 := by rw [World.size_alloc, hD]
  obtain ⟨W1, hW1⟩ : ∃ W1, W1 = (w.alloc (.deferred (some []))).alloc (.loop (rec_ .ready none)) := ⟨_, rfl⟩
  have hs1 : W1.heap.size = D + 2 := by rw [hW1, World.size_alloc, hone]
  have hl1 : W1.heap[D + 1]? = some (.loop (rec_ .ready none)) := by rw [hW1, ← hone]; exact World.alloc_heap_new _ _
  have hd1 : W1.heap[D]? = some (.deferred (some [])) := by rw [hW1, heap_alloc_lt _ _ (by omega), hD]; exact World.alloc_heap_new _ _
  have hbel : Below w.heap.size w W1 := by rw [hW1]; exact ((Below.refl _ w).alloc (Nat.le_refl _) _).alloc (by simp) _
  have hI1 : I 0 W1 := by rw [hW1]; exact hI 0 _ _ none (hI 0 _ _ none h0 (World.grownBy_alloc _ _ _) (fun r e => by cases e)) (World.grownBy_alloc _ _ _) (fun r e => by cases e)
  refine ⟨D + 1, [{ target := .collected D, args := #[] }], W1, { target := .fn (.func gf) lb, args := #[.func (.yield (D + 1)) #[] #[]] }, W1, gf, #[.func (.yield (D + 1)) #[] #[]] ++ lb, W1, ?_, ?_, ?_, ?_, fun _ => by omega, ?_⟩
  · rw [hW1, hD]; exact run_enterLoop_outer _ _ _ _ _
  · simp only [resolve, hg]; simp [go_sem]
  · intro f' hf'; exact trivial
  · simp [invoke, go_sem, eg]
  have hseq' := hseq (D + 1) (fun k W => I k W ∧ W.heap[D + 1]? = some (.loop (rec_ .ready none)) ∧ W.heap[D]? = some (.deferred (some [])))
    (fun k W => Ix k W ∧ W.heap[D + 1]? = some (.loop (rec_ .done (some .ret))) ∧ W.heap[D]? = some (.deferred (some []))) W1 (hb0.trans (hbel.mono hb0.size))
    (fun k A B row h hgr hr => ⟨hI k A B row h.1 hgr (fun r e => by have := hr r e; omega), (hgr.block _ (Array.getElem?_eq_some_iff.1 h.2.1).1 (fun e => by have := hr _ e.symm; omega)).trans h.2.1, (hgr.block _ (Array.getElem?_eq_some_iff.1 h.2.2).1 (fun e => by have := hr _ e.symm; omega)).trans h.2.2⟩)
    (fun k A B row h hgr hr => ⟨hIx k A B row h.1 hgr (fun r e => by have := hr r e; omega), (hgr.block _ (Array.getElem?_eq_some_iff.1 h.2.1).1 (fun e => by have := hr _ e.symm; omega)).trans h.2.1, (hgr.block _ (Array.getElem?_eq_some_iff.1 h.2.2).1 (fun e => by have := hr _ e.symm; omega)).trans h.2.2⟩)
    (fun k A h => hneeds k A h.1)
  rw [hs1] at hseq'
  refine (hseq' ?_ ⟨hI1, hl1, hd1⟩).mono ?_
  · rintro k A hk ⟨hi, hl, hd⟩ hlt
    have hlA : (A.alloc (xo k)).heap[D + 1]? = some (.loop (rec_ .ready none)) := (heap_alloc_lt A _ (by omega)).trans hl
    have hdA : (A.alloc (xo k)).heap[D]? = some (.deferred (some [])) := (heap_alloc_lt A _ (by omega)).trans hd
    refine ⟨fn, _, assign, body, run_yield (P := P) (args := encs k) hlA (hps k), roundIn_of_wpIn hfn (hassign _ k (A.alloc (xo k)) _ ?_)⟩
    have hga := haw k (A.alloc (xo k))
    have hsA : (A.alloc (xo k)).heap.size = A.heap.size + 1 := World.size_alloc _ _
    have hsz := hga.size
    have hlB : (aw k (A.alloc (xo k))).heap[D + 1]? = some (.loop (rec_ .ready none)) := (hga.block _ (by omega) (by simp)).trans hlA
    have hdB : (aw k (A.alloc (xo k))).heap[D]? = some (.deferred (some [])) := (hga.block _ (by omega) (by simp)).trans hdA
    refine ⟨_, run_beginRound hlB rfl, ?_⟩
    have hiB : I k ((aw k (A.alloc (xo k))).putObj (D + 1) (.loop (rec_ .busy none))) := hI k _ _ _ (hI k _ _ none (hI k _ _ none hi (World.grownBy_alloc _ _ _) (fun r e => by cases e)) hga (fun r e => by cases e)) (grownBy_putObj' _ _ _) (fun r e => by cases e; omega)
    obtain ⟨W, hW⟩ : ∃ W, W = (aw k (A.alloc (xo k))).putObj (D + 1) (.loop (rec_ .busy none)) := ⟨_, rfl⟩
    have hsW : W.heap.size = (aw k (A.alloc (xo k))).heap.size := by rw [hW]; simp [World.putObj]
    have hWl : W.heap[D + 1]? = some (.loop (rec_ .busy none)) := by rw [hW]; exact World.putObj_heap_same (by omega)
    have hWr : ∀ r, r ≠ D + 1 → W.heap[r]? = (aw k (A.alloc (xo k))).heap[r]? := fun r hr => by rw [hW]; exact World.putObj_heap_other hr
    rw [← hW] at hiB
    show body.wpIn (Fence.wide.inRound (D + 1)) 6 P _ _ ((aw k (A.alloc (xo k))).putObj (D + 1) (.loop (rec_ .busy none)))
    rw [← hW]
    refine wpIn_mono (hbody (D + 1) k A W hk hi hiB (by omega) (fun r hr => hWr r (by omega)) hsW (fun r hr hne => (hWr r (by omega)).trans ((hga.block _ (by omega) (by simp)).trans (heap_alloc_lt _ _ hr)))) ?_
    rintro e a3 B hp
    cases e with
    | normal =>
      obtain ⟨hi3, hkp⟩ := hp
      have hBl : B.heap[D + 1]? = some (.loop (rec_ .busy none)) := (hkp _ (.inl ⟨by omega, by omega⟩)).trans hWl
      have hlt3 : D + 1 < B.heap.size := (Array.getElem?_eq_some_iff.1 hBl).1
      refine ⟨_, _, run_endRound none hBl, .inl ⟨rfl, ⟨hI _ _ _ _ hi3 (grownBy_putObj' _ _ _) (fun r e => by cases e; omega), World.putObj_heap_same hlt3, ?_⟩, ?_, ?_⟩⟩
      · rw [World.putObj_heap_other (by omega), hkp _ (.inl ⟨by omega, by omega⟩), hWr _ (by omega)]; exact hdB
      · rw [World.putObj_heap_other (by omega), hkp _ (.inl ⟨by omega, by omega⟩), hWr _ (by omega), hga.block _ (by omega) (by simp), heap_alloc_lt _ _ (by omega)]
      · rw [World.putObj_heap_other (by omega), hkp _ (.inr rfl), hWr _ (by omega), hga.block _ (by omega) (by simp)]
        exact World.alloc_heap_new A (xo k)
    | ret =>
      obtain ⟨hi3, hkp⟩ := hp
      have hBl : B.heap[D + 1]? = some (.loop (rec_ .busy none)) := (hkp _ ⟨by omega, by omega⟩).trans hWl
      have hlt3 : D + 1 < B.heap.size := (Array.getElem?_eq_some_iff.1 hBl).1
      refine ⟨_, _, run_endRound (some .ret) hBl, .inr ⟨rfl, hIx _ _ _ _ hi3 (grownBy_putObj' _ _ _) (fun r e => by cases e; omega), World.putObj_heap_same hlt3, ?_⟩⟩
      rw [World.putObj_heap_other (by omega), hkp _ ⟨by omega, by omega⟩, hWr _ (by omega)]; exact hdB
    | exit id => exact hp.elim
    | goto t => exact hp.elim
    | panic ch => exact hp.elim
    | outgrown => exact hp.elim
  · rintro e W2 ⟨⟨v, rfl⟩, (⟨hi, hl, hd⟩ | ⟨k, hk, hi, hl, hd⟩)⟩
    · refine ⟨none, _, run_endLoop hl (by simp [rec_]), ?_⟩
      have := hdone _ (hI _ _ _ _ hi (grownBy_putObj' W2 (D + 1) (.loop { rec_ .ready none with state := .exhausted })) (fun r e => by cases e; omega)) (by rw [← hD]; exact (World.putObj_heap_other (by omega)).trans hd)
      rw [← hD] at this
      exact this
    · refine ⟨some .ret, _, run_endLoop hl (by simp [rec_]), ?_⟩
      have := hstop k _ hk (hIx _ _ _ _ hi (grownBy_putObj' W2 (D + 1) (.loop { rec_ .done (some .ret) with state := .exhausted })) (fun r e => by cases e; omega)) (by rw [← hD]; exact (World.putObj_heap_other (by omega)).trans hd)
      rw [← hD] at this
      exact wpIn_wide.2 this
end
end Go.Proofs.Ytcdifegjlllbfaa

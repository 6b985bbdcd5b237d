/- A region that draws its order: reads and calls that only make memory, and then a forced tail that writes. One walk in the order of the text. Plain theorem over any program; the region's edges are asked by the kernel. -/
import Derived.StillTail
import Derived.Lib.QuietBelow
set_option linter.unusedVariables false
namespace Go.Proofs.Ytcdifegjlllbfaa
open Go
section
variable {P : Program} {ops : Array Oper} {md : Region.Mode} {C : World → Prop}
/-- Whatever order is picked for the first n operations; L behind them. -/
def headQ (P : Program) (md : Region.Mode) (ops : Array Oper) (C : World → Prop) (n : Nat) (L : Array Bool → Act → Prop) : Nat → Array Bool → Act → Prop
  | 0, done, a => L done a
  | f + 1, done, a => Region.ready md ops done ≠ [] ∧ ∀ i ∈ Region.ready md ops done, i < n ∧ qOp P ops C i (headQ P md ops C n L f (done.setIfInBounds i true)) a
theorem any_of_headQ {n g : Nat} {L : Array Bool → Act → Prop} {Q : Exit → Act → World → Prop} (hL : ∀ done a w, C w → L done a → wpAny P md ops Q g done a w) :
    ∀ (f : Nat) (done : Array Bool) (a : Act) (w : World), C w → headQ P md ops C n L f done a → wpAny P md ops Q (f + g) done a w
  | 0, done, a, w, hw, h => by rw [Nat.zero_add]; exact hL _ _ _ hw h
  | f + 1, done, a, w, hw, h => by
    rw [show f + 1 + g = (f + g) + 1 by omega]
    exact ⟨fun e => absurd e h.1, fun i hi => wpOp_of_qOp hw (fun a' w' hw' h' => any_of_headQ hL f _ a' w' hw' h') (h.2 i hi).2⟩
/-- An operation of the head that may come up now may be taken first. -/
theorem headQ_first {n i : Nat} {x : Oper} {v : Value} {L : Array Bool → Act → Prop} (hx : ops[i]? = some x) (hsel : ∀ (j : Nat) (o : Oper) cs b, ops[j]? = some o → o.op ≠ .select cs b)
    (hs : Region.sinkB md ops n = true) (hc : Region.chainB md ops n = true) (hn : n < ops.size) (hin : i < n) (hL : ∀ done a, L done a → ∀ j ∈ Region.ready md ops done, n ≤ j) (f : Nat) :
    ∀ (done : Array Bool) (a : Act), HeadInv md ops n done →
      (∀ j y, ops[j]? = some y → j ≠ i → done.getD j true = false → (∀ e ∈ y.after, Region.binds md e = true → e.on ≠ i) → x.apart ops y = true) →
      i ∈ Region.ready md ops done → YieldsIn P ops C x v a → headQ P md ops C n L f (done.setIfInBounds i true) (a.put x.dst v) → headQ P md ops C n L (f + 1) done a := by
  induction f with
  | zero =>
    intro done a inv _ hr hy H
    refine ⟨(fun e => by rw [e] at hr; cases hr), fun j hj => ?_⟩
    have hjn : j < n := Nat.lt_of_not_le fun h => tail_waits hs hc hn inv _ i rfl hin (mem_ready.1 hr).1 j h hj
    refine ⟨hjn, ?_⟩
    by_cases hne : j = i
    · subst hne; exact hy.qOp hx H
    · have := hL _ _ H j (ready_mono hj hne)
      omega
  | succ f ih =>
    intro done a inv hfree hr hy H
    have hun := (mem_ready.1 hr).1
    refine ⟨(fun e => by rw [e] at hr; cases hr), fun j hj => ?_⟩
    have hjn : j < n := Nat.lt_of_not_le fun h => tail_waits hs hc hn inv _ i rfl hin hun j h hj
    refine ⟨hjn, ?_⟩
    by_cases hne : j = i
    · subst hne; exact hy.qOp hx H
    · obtain ⟨hjun, y, hy', hall⟩ := mem_ready.1 hj
      have hnot : ∀ e ∈ y.after, Region.binds md e = true → e.on ≠ i := by
        intro e he hb heq
        have := hall e he hb
        rw [heq, getD_both hun] at this
        cases this
      have h2 := qOp_put hy' (hfree j y hy' hne hjun hnot) (fun cs b => hsel i x cs b hx) (fun cs b => hsel j y cs b hy') hy (H.2 j (ready_mono hj hne)).2
      refine qOp_mono (fun a' h3 => ih (done.setIfInBounds j true) a' (inv.set hj hjn) (fun k z hk hki hz hno => hfree k z hk hki ?_ hno) (ready_mono hr (Ne.symm hne)) h3.1 ?_) h2
      · by_cases hjk : j = k
        · subst hjk; exact hjun
        · rw [getD_set_ne true hjk] at hz; exact hz
      · rw [Array.setIfInBounds_comm _ _ hne]
        exact h3.2
theorem headQ_lex {n g : Nat} {K : Act → Prop} (hsel : Region.noSelect ops = true) (hs : Region.sinkB md ops n = true) (hc : Region.chainB md ops n = true) (hn : n < ops.size) :
    ∀ (l : List Oper) (k : Nat) (done : Array Bool) (a : Act), (∀ j, j < l.length → l[j]? = ops[k + j]?) → k + l.length = n → HeadInv md ops n done → Region.lexHead md ops g l.length k done = true →
    wpQuiet P ops C K l a → headQ P md ops C n (fun d a' => Region.seqB md ops g n d = true ∧ K a') l.length done a
  | [], k, done, a, _, hk, _, hB, h => by
    obtain rfl : k = n := by simpa using hk
    exact ⟨by simpa [Region.lexHead] using hB, h⟩
  | o :: l, k, done, a, hl, hk, inv, hB, h => by
    have h0 : ops[k]? = some o := by simpa using (hl 0 (by simp)).symm
    simp only [List.length_cons, Region.lexHead, Bool.and_eq_true] at hB
    obtain ⟨⟨hr, hf⟩, hB'⟩ := hB
    have hkn : k < n := by simp only [List.length_cons] at hk; omega
    have hr' : k ∈ Region.ready md ops done := by simpa using hr
    have hq : qOp P ops C k (wpQuiet P ops C K l) a := by unfold qOp; simp only [h0]; exact h
    obtain ⟨v, hy, hK⟩ := yieldsIn_of_qOp h0 hq
    refine headQ_first h0 (Region.noSelect_spec hsel) hs hc hn hkn (fun d a' hd => seqB_ready hd.1) l.length done a inv (Region.free_spec h0 hf) hr' hy ?_
    refine headQ_lex hsel hs hc hn l (k + 1) _ _ (fun j hj => ?_) (by simp only [List.length_cons] at hk; omega) (inv.set hr' hkn) hB' hK
    have := hl (j + 1) (by simp; omega)
    simpa [Nat.add_assoc, Nat.add_comm 1 j] using this
/-- Reads and calls that only make memory, and then a forced tail. -/
theorem region_below_tail {id : Nat} {Q : Exit → Act → World → Prop} {a : Act} {w : World} {l : List Oper} (n : Nat) (hm : P.follows .mixedOrders = true) (hB : Region.lexTailB .any l.toArray n = true)
    (h : wpQuiet P l.toArray (fun w' => ∃ p : Regrown, w' = Go.Sort.grow (redrawn w p.d) p.os) (fun a' => ∀ w', (∃ p : Regrown, w' = Go.Sort.grow (redrawn w p.d) p.os) → wpList P l.toArray Q (l.drop n) a' w') (l.take n) a) : (Code.region id l.toArray true).wp P Q a w := by
  simp only [Region.lexTailB, Bool.and_eq_true, decide_eq_true_eq] at hB
  obtain ⟨⟨⟨⟨hsel, hn⟩, hs⟩, hc⟩, hlex⟩ := hB
  have hn' : n < l.length := by simpa using hn
  have ht : (l.take n).length = n := by simp; omega
  have hd : (l.drop n).length = l.toArray.size - n := by simp
  have inv : HeadInv .any l.toArray n (Array.replicate l.toArray.size false) :=
    ⟨by simp, fun j y _ hl => (by rw [getD_replicate_false] at hl; cases hl), fun t _ ht => getD_in (by simpa using ht) (getD_replicate_false _ _)⟩
  have H := headQ_lex (md := .any) (g := l.toArray.size - n) hsel hs hc hn (l.take n) 0 _ a (fun j hj => by
    have hj' : j < n := by rw [ht] at hj; exact hj
    simp [hj']) (by simpa using ht) inv (by rw [ht]; exact hlex) h
  refine wp_region_any hm ?_
  have := any_of_headQ (Q := Q) (g := l.toArray.size - n) (fun done a' w' hw' hL => by
    have := wpAny_of_seq (md := .any) (Q' := Q) (l.drop n) n done a' w' (fun j => by simp [List.getElem?_drop]) (by rw [hd]; exact hL.1) (hL.2 w' hw')
    rwa [hd] at this) _ _ _ { w with drawn := w.drawn + 1 } ⟨⟨w.drawn + 1, #[]⟩, by rw [Go.Sort.grow_empty]; rfl⟩ H
  rw [ht, show n + (l.toArray.size - n) = l.toArray.size by omega] at this
  exact this
end
end Go.Proofs.Ytcdifegjlllbfaa

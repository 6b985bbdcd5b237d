/- A region that draws its order, in a round of a range over a function, at the widest fence: the plain laws (quiet; reads before a forced tail) carried into the round. Plain lemmas over any program; no condition. -/
import Derived.Test.YtlgahhfpdomdmaaRng
import Derived.Sort.QuietThIn
import Derived.Sort.QuietIn
import Derived.Sort.CutIn
import Derived.StillTailTactics
set_option linter.unusedVariables false
set_option linter.unusedSimpArgs false
namespace Go.Proofs.Ytlgahhfpdomdmaa
open Go.RowKit Go.Shelf

/-- No 'defer' statement among the operations. -/
def noDefer (l : List Oper) : Bool := l.all fun o => match o.op with
  | .defer _ => false
  | _ => true
theorem noDefer_at {l : List Oper} (h : noDefer l = true) {i : Nat} {o : Oper} (ho : l.toArray[i]? = some o) : ∀ c, o.op ≠ .defer c := by
  intro c hc
  have hm : o ∈ l := by
    have : l[i]? = some o := by simpa using ho
    exact List.mem_of_getElem? this
  have := List.all_eq_true.1 h o hm
  rw [hc] at this
  cases this

section
variable {P : Program} {m lp : Nat}
theorem rows_wide {n : Nat} {row : String} {args : Array Value} {w : World} {R : Value → World → Prop} (h : Rows P row args w R) : RowsIn Fence.wide n P row args w R := fun c cs _ => by
  obtain ⟨v, w', r, s⟩ := h c cs
  exact ⟨v, w', r, stepsIn_wide.2 s⟩
/-- One operation, outside a round, in plain words: in the round. -/
theorem oper_round {o : Oper} {a : Act} {w : World} {K K' : Act → World → Prop} {Q Q' : Exit → Act → World → Prop} (hd : ∀ c, o.op ≠ .defer c) (hK : ∀ a w, K a w → K' a w) (hQ : ∀ e a w, Q e a w → Q' e a w)
    (h : o.wp P a w K Q) : o.wpIn (Fence.wide.inRound lp) m P a w K' Q' := by
  unfold Oper.wp at h
  refine ⟨fun _ _ => trivial, ?_⟩
  rw [Oper.semAt_eq _ _ _ hd]
  generalize (execOp a.eval o).run P w = r at h ⊢
  have hl : LetsOut Q → LetsOut Q' := fun ⟨a, w, q⟩ => ⟨a, w, hQ _ _ _ q⟩
  cases r with
  | ok x w' =>
    cases x with
    | value v => exact hK _ _ h
    | skip => exact hK _ _ h
    | defer d => exact hK _ _ h
    | enter f args => exact ⟨fun hs => by simp [Fence.inRound, Fence.wide] at hs, CallsIn.inRound lp (callsIn_wide.2 (Calls.mono h fun e w'' he => by cases e <;> first | exact hK _ _ he | exact hQ _ _ _ he | exact hl he))⟩
    | row row args => exact ⟨fun hs => by simp [Fence.inRound, Fence.wide] at hs, RowsIn.mono (show RowsIn (Fence.wide.inRound lp) (m - 1) P row args w' _ from rows_wide h) fun v w'' hv => hK _ _ hv⟩
    | _ => exact (h : False).elim
  | halt x w' =>
    cases x with
    | panic v => exact hQ _ _ _ h
    | _ => exact (h : False).elim
theorem wpOp_round {ops : List Oper} (hnd : noDefer ops = true) {Q Q' : Exit → Act → World → Prop} (hno : ¬ LetsOut Q) (hQ : ∀ e a w, Q e a w → Q' e a w) {i : Nat} {K K' : Act → World → Prop} {a : Act} {w : World} (hK : ∀ a w, K a w → K' a w)
    (h : wpOp P ops.toArray Q i K a w) : wpOpIn (Fence.wide.inRound lp) m P ops.toArray Q' i K' a w := by
  unfold wpOp at h
  unfold wpOpIn
  cases ho : ops.toArray[i]? with
  | none => simp only [ho] at h ⊢; exact hK _ _ h
  | some o =>
    simp only [ho] at h ⊢
    split
    · rename_i hw
      rw [if_pos hw] at h
      rcases h with h | ⟨_, h⟩
      · exact oper_round (noDefer_at hnd ho) hK hQ h
      · exact absurd h hno
    · rename_i hw
      rw [if_neg hw] at h
      exact ⟨fun _ _ => trivial, hK _ _ h⟩
theorem wpAny_round {ops : List Oper} (hnd : noDefer ops = true) {md : Region.Mode} {Q Q' : Exit → Act → World → Prop} (hno : ¬ LetsOut Q) (hQ : ∀ e a w, Q e a w → Q' e a w) : ∀ (fuel : Nat) (listed : Array Bool) (a : Act) (w : World),
    wpAny P md ops.toArray Q fuel listed a w → wpAnyIn (Fence.wide.inRound lp) m P md ops.toArray Q' fuel listed a w
  | 0, _, _, _, h => ⟨h.1, hQ _ _ _ h.2⟩
  | fuel + 1, _, _, _, h => ⟨fun h0 => hQ _ _ _ (h.1 h0), fun i hi => wpOp_round hnd hno hQ (fun a' w' h' => wpAny_round hnd hno hQ fuel _ a' w' h') (h.2 i hi)⟩

/-- Q, but 'False' where memory is outgrown. -/
def NoOut (Q : Exit → Act → World → Prop) : Exit → Act → World → Prop
  | .outgrown, _, _ => False
  | e, a, w => Q e a w
theorem NoOut.imp {Q : Exit → Act → World → Prop} : ∀ (e : Exit) (a : Act) (w : World), NoOut Q e a w → Q e a w := fun e a w h => by
  cases e <;> first | exact h | exact (h : False).elim
theorem NoOut.no {Q : Exit → Act → World → Prop} : ¬ LetsOut (NoOut Q) := fun ⟨_, _, h⟩ => h
theorem NoOut.normal {Q : Exit → Act → World → Prop} {a : Act} {w : World} (h : Q .normal a w) : NoOut Q .normal a w := h

/-- Reads, and then a forced tail: in a round. -/
theorem region_tail_round {id : Nat} {Q : Exit → Act → World → Prop} {a : Act} {w : World} {l : List Oper} (n : Nat) (hm : P.follows .mixedOrders = true) (hB : Region.lexTailB .any l.toArray n = true) (hnd : noDefer l = true)
    (h : wpStill P l.toArray w.drew (fun a' => wpList P l.toArray (NoOut Q) (l.drop n) a' w.drew) (l.take n) a) : (Code.region id l.toArray true).wpIn (Fence.wide.inRound lp) m P Q a w := by
  simp only [Region.lexTailB, Bool.and_eq_true, decide_eq_true_eq] at hB
  obtain ⟨⟨⟨⟨hsel, hn⟩, hs⟩, hc⟩, hlex⟩ := hB
  have hn' : n < l.length := by simpa using hn
  have htl : (l.take n).length = n := by simp; omega
  have hdl : (l.drop n).length = l.toArray.size - n := by simp
  have inv0 : HeadInv .any l.toArray n (Array.replicate l.toArray.size false) :=
    ⟨by simp, fun j oj _ hl => (by rw [getD_replicate_false] at hl; cases hl), fun t _ ht => getD_in (by simpa using ht) (getD_replicate_false _ _)⟩
  have H := wpAnyL_lex (md := .any) (g := l.toArray.size - n) hsel hs hc hn (l.take n) 0 _ a (fun j hj => by
    have hj' : j < n := by rw [htl] at hj; exact hj
    simp [hj']) (by simpa using htl) inv0 (by rw [htl]; exact hlex) h
  refine wpIn_region_any hm ?_
  have := wpAny_of_head (Q' := NoOut Q) (g := l.toArray.size - n) (fun listed a' hL => by
    have := wpAny_of_seq (md := .any) (Q' := NoOut Q) (l.drop n) n listed a' { w with drawn := w.drawn + 1 } (fun j => by simp [List.getElem?_drop]) (by rw [hdl]; exact hL.1) hL.2
    rwa [hdl] at this) _ _ _ H
  rw [htl, show n + (l.toArray.size - n) = l.toArray.size by omega] at this
  exact wpAny_round hnd NoOut.no NoOut.imp _ _ _ _ this

/-- The same step inside the widest fence. -/
theorem wpOpIn_inRound {ops : List Oper} (hnd : noDefer ops = true) {Q : Exit → Act → World → Prop} {i : Nat} {K K' : Act → World → Prop} {a : Act} {w : World} (hK : ∀ a w, K a w → K' a w)
    (h : wpOpIn Fence.wide m P ops.toArray Q i K a w) : wpOpIn (Fence.wide.inRound lp) m P ops.toArray Q i K' a w := by
  refine wpOpIn_mono hK ?_
  unfold wpOpIn at h ⊢
  cases ho : ops.toArray[i]? with
  | none => simp only [ho] at h ⊢; exact h
  | some o =>
    simp only [ho] at h ⊢
    split
    · rename_i hw
      rw [if_pos hw] at h
      have h2 := h.2
      rw [Oper.semAt_eq _ _ _ (noDefer_at hnd ho)] at h2
      refine ⟨h.1, ?_⟩
      rw [Oper.semAt_eq _ _ _ (noDefer_at hnd ho)]
      exact h2
    · rename_i hw
      rw [if_neg hw] at h
      exact h
theorem wpAnyIn_inRound {ops : List Oper} (hnd : noDefer ops = true) {md : Region.Mode} {Q : Exit → Act → World → Prop} : ∀ (fuel : Nat) (listed : Array Bool) (a : Act) (w : World),
    wpAnyIn Fence.wide m P md ops.toArray Q fuel listed a w → wpAnyIn (Fence.wide.inRound lp) m P md ops.toArray Q fuel listed a w
  | 0, _, _, _, h => h
  | fuel + 1, _, _, _, h => ⟨h.1, fun i hi => wpOpIn_inRound hnd (fun a' w' h' => wpAnyIn_inRound hnd fuel _ a' w' h') (h.2 i hi)⟩
/-- Reads and quiet calls alone: in a round. -/
theorem region_quiet_round {id : Nat} {Q : Exit → Act → World → Prop} {a : Act} {w : World} {l : List Oper} (hm : P.follows .mixedOrders = true) (hB : Region.lexB .any l.toArray = true) (hnd : noDefer l = true)
    (h : wpQuietIn Fence.wide m P l.toArray (fun w' => ∃ n, w' = w.drewN n) (fun a' => ∀ w', (∃ n, w' = w.drewN n) → Q .normal a' w') l a) : (Code.region id l.toArray true).wpIn (Fence.wide.inRound lp) m P Q a w := by
  simp only [Region.lexB, Bool.and_eq_true] at hB
  refine wpIn_region_any hm (wpAnyIn_inRound hnd _ _ _ _ (wpAnyIn_of_quiet (Q := fun a' => ∀ w', (∃ n, w' = w.drewN n) → Q .normal a' w') rfl (fun _ w' hw' h => h w' hw') _ _ _ _ ⟨1, rfl⟩ ?_))
  have := wpAnyQIn_lex (F := Fence.wide) (n := m) (C := fun w' => ∃ n, w' = w.drewN n) (md := .any) hB.1 l 0 (Array.replicate l.toArray.size false) a (by simp) (by simpa using hB.2) h
  simpa using this
end

theorem keepsOthers_drewN (W : World) (n : Nat) : KeepsOthers W (W.drewN n) := ⟨Nat.le_refl _, fun _ _ h _ => h⟩
theorem below_drewN' {B : Nat} {a w : World} (h : Below B a w) (n : Nat) : Below B a (w.drewN n) := ⟨h.os, h.tape, h.output, h.size, h.block⟩

end Go.Proofs.Ytlgahhfpdomdmaa

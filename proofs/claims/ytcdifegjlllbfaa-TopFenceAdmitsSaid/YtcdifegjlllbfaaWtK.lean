/- The walk through runGranted. Conditions: two bytes. -/
import Derived.Test.YtcdifegjlllbfaaWtI
set_option linter.unusedVariables false
set_option linter.unusedSimpArgs false
namespace Go.Proofs.Ytcdifegjlllbfaa
open Go.RowKit
theorem fe_new : newF 0 0 = ⟨0, 0, false⟩ ∧ chkF ⟨0, 0, false⟩ = 0 := ⟨by unfold newF; rw [if_pos (by decide +kernel)], by decide +kernel⟩
def lsK (k : Nat) : List Le := (List.range k).map fun (i : Nat) => (⟨(i : Int), 0, 0⟩ : Le)
theorem lsK_length (k : Nat) : (lsK k).length = k := by simp [lsK]
theorem lsK_succ (k : Nat) : lsK (k + 1) = lsK k ++ [⟨k, 0, 0⟩] := by simp [lsK, List.range_succ]
def stK (term margin : Int) (k : Nat) : St := ⟨0, term % 12 + 1, margin % 4, ⟨0, -1, 0⟩, lsK k, [], [], ⟨0, 0, false⟩⟩
set_option maxRecDepth 10000 in
set_option maxHeartbeats 2000000 in
theorem granted_any (term margin : Int) (w : World) (ht0 : 0 ≤ term) (ht1 : term < 256) (hm0 : 0 ≤ margin) (hm1 : margin < 256) :
    Calls Try.prog 12 #[.int .u8 term, .int .u8 margin] w fun e w' => ∃ g, e = .returned (.tuple #[.pointer (some ⟨g, 0, none⟩), .bool true]) ∧ Lies w.heap.size w' g (stK term margin 3) ∧ Below w.heap.size w w' := by
  have HF := Lib.hid fe_new.1
  have HC := Lib.hid fe_new.2
  obtain ⟨i0, hi, hz0, hz1, hz2⟩ := info_parts info41
  go_enter Try.func12, Try.ntmps12
  go_wp2_with fail
  refine (New_any 0 0 _).mono ?_
  rintro e w1 ⟨rfl, hb⟩
  rw [HF.out, HC.out]
  have HB := Lib.hid hb
  have hz := hb.size
  clear hb
  unfold Fe.val
  go_wp2
  have H0 : Hid (Lie w.heap.size ((w1.alloc (.cells #[.int .i64 0, .int .i64 0, .bool false] 37)).alloc (.cells ((stK term margin 0).cells (.slice none 0 0) (.slice none 0 0) (.slice none 0 0)) 39)) (w1.heap.size + 1) (stK term margin 0) (.slice none 0 0) (.slice none 0 0) (.slice none 0 0)) := Lib.hid ⟨by
    have := Blk.new (w1.alloc (.cells #[.int .i64 0, .int .i64 0, .bool false] 37)) 39 ((stK term margin 0).cells (.slice none 0 0) (.slice none 0 0) (.slice none 0 0))
    rw [show (w1.alloc (.cells #[.int .i64 0, .int .i64 0, .bool false] 37)).heap.size = w1.heap.size + 1 by simp] at this
    exact this, by omega, OwL.nil _ _ _ _, OwL.nil _ _ _ _, OwL.nil _ _ _ _⟩
  have HB0 : Hid (Below w.heap.size w ((w1.alloc (.cells #[.int .i64 0, .int .i64 0, .bool false] 37)).alloc (.cells ((stK term margin 0).cells (.slice none 0 0) (.slice none 0 0) (.slice none 0 0)) 39))) := Lib.hid ((HB.out.alloc hz _).alloc (by simp; omega) _)
  go_loopw [25] (fun i wr => ∃ k : Nat, k ≤ 3 ∧ i = .int .i64 k ∧ Hid (∃ v, Lie w.heap.size wr (w1.heap.size + 1) (stK term margin k) v (.slice none 0 0) (.slice none 0 0)) ∧ Hid (Below w.heap.size w wr)) (fun i _ => 3 - (intOf i).toNat)
  case atStart => exact ⟨0, by omega, rfl, Lib.hid ⟨_, H0.out⟩, HB0⟩
  case round =>
    clear H0 HB0
    obtain ⟨k, hk, rfl, HV, HBW⟩ := hrel
    by_cases hlt : k < 3
    · obtain ⟨v, hv⟩ := HV.out
      obtain ⟨A, c, rfl, _, _, _⟩ := OwL.rd hv.ol
      have c6 : wr.cell? ⟨w1.heap.size + 1, 6, none⟩ = some (.slice A (lsK k).length c) := hv.blk.cell 6
      have hgl : w1.heap.size + 1 < wr.heap.size := hv.lt
      have b1 : Below wr.heap.size wr (wr.alloc (.cells #[.int .i64 (k : Int), .int .i64 0, .int .i64 0] 41)) := (Below.refl _ _).alloc (Nat.le_refl _) _
      have HH := Lib.hid (hv.below b1)
      have HBX : Hid (RdL eLe (wr.alloc (.cells #[.int .i64 (k : Int), .int .i64 0, .int .i64 0] 41)) (some ⟨wr.heap.size, 0, none⟩) [(⟨k, 0, 0⟩ : Le)]) := Lib.hid (RdL.box (E := eLe) wr ⟨k, 0, 0⟩ 41)
      have HK1 : Hid ((lsK k).length + [(⟨k, 0, 0⟩ : Le)].length ≤ maxLen) := Lib.hid (by rw [lsK_length]; simp only [maxLen, List.length_singleton]; omega)
      have HK2 : Hid (((lsK k).length + [(⟨k, 0, 0⟩ : Le)].length) * 24 ≤ 140737488355328) := Lib.hid (by rw [lsK_length]; simp only [List.length_singleton]; omega)
      have HBN : Hid (Below w.heap.size w (wr.alloc (.cells #[.int .i64 (k : Int), .int .i64 0, .int .i64 0] 41))) := Lib.hid (HBW.out.alloc HBW.out.size _)
      have HBS : Hid (w.heap.size ≤ (wr.alloc (.cells #[.int .i64 (k : Int), .int .i64 0, .int .i64 0] 41)).heap.size) := Lib.hid HBN.out.size
      have HFA : Hid (∀ v1 w9, OwL eLe 41 w9 w.heap.size v1 (lsK k ++ [(⟨k, 0, 0⟩ : Le)]) → (wr.alloc (.cells #[.int .i64 (k : Int), .int .i64 0, .int .i64 0] 41)).grownBy w9 (Value.slice A (lsK k).length c).ownBlock → Below w.heap.size w w9 ∧ Blk w9 (w1.heap.size + 1) 39 ((stK term margin k).cells (.slice A (lsK k).length c) (.slice none 0 0) (.slice none 0 0))) := by
        refine Lib.hid fun v1 w9 hown hg => ?_
        have a1 : ∀ q, (Value.slice A (lsK k).length c).ownBlock = some q → q ≠ w1.heap.size + 1 := OwL.apart HH.out.ol HH.out.blk (by decide)
        have hlt1 : ∀ q, (Value.slice A (lsK k).length c).ownBlock = some q → w.heap.size ≤ q := fun q h => (OwL.lt HH.out.ol q h).1
        exact ⟨HBN.out.grown hg HBS.out hlt1, HH.out.blk.grown hg (fun h => a1 _ h.symm rfl)⟩
      clear hv b1
      go_wp2_with (at_builtin; refine wpList_append_all (E := eLe) _ rfl (.tmp 32) (.tmp 35) 33 rfl w.heap.size 41 i0 _ 24 Try.underlying33 hi hz0 hz1 hz2 rfl (.slice A (lsK k).length c) (lsK k) rfl HH.out.ol (some ⟨wr.heap.size, 0, none⟩) 1 [(⟨k, 0, 0⟩ : Le)] rfl HBX.out (by simp) HK1.out HK2.out HBS.out ?_; intro v1 w9 hown hg hat; have hbk := HFA.out v1 w9 hown hg; have hz6 := hbk.2.frozen 6; have hq6 : w9.cell? ⟨w1.heap.size + 1, 6, none⟩ = some (.slice A (lsK k).length c) := hbk.2.cell 6; obtain ⟨A1, c1, rfl, _, _, _⟩ := OwL.rd hown; have HOW := Lib.hid hown; have HBK := Lib.hid hbk; clear hown hbk hg hat)
      have ho := HOW.out
      rw [List.length_append, List.length_singleton] at ho
      have hk' := HBK.out.2
      refine ⟨⟨k + 1, by omega, by go_num, Lib.hid ⟨_, ⟨(hk'.set_ 6 (.slice A1 ((lsK k).length + 1) c1) : Blk _ _ 39 ((stK term margin (k + 1)).cells (.slice A1 ((lsK k).length + 1) c1) (.slice none 0 0) (.slice none 0 0))), HH.out.low, ?_, OwL.nil _ _ _ _, OwL.nil _ _ _ _⟩⟩, Lib.hid (HBK.out.1.setCell HH.out.low _)⟩, by simp [intOf]; omega⟩
      show OwL eLe 41 _ w.heap.size _ (lsK (k + 1))
      rw [lsK_succ]
      exact ho.far (p := ⟨w1.heap.size + 1, 6, none⟩) (OwL.apart ho hk' (by decide)) _
    · obtain rfl : k = 3 := by omega
      go_wp2
      go_ret2
      exact ⟨_, rfl, (by obtain ⟨v, h⟩ := HV.out; exact ⟨_, _, _, h⟩), HBW.out⟩
end Go.Proofs.Ytcdifegjlllbfaa

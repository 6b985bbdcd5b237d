/- The iterator over a lineage (epoch.begins), by its contract. No condition but that the slice lies in memory as a list. -/
import Derived.Test.YtcdifegjlllbfaaLin
import Derived.Test.YtcdifegjlllbfaaRngC
import Derived.Laws.EntriesVeiled
set_option linter.unusedVariables false
set_option linter.unusedSimpArgs false
namespace Go.Proofs.Ytcdifegjlllbfaa
open Go.RowKit Go.Shelf
attribute [local go_sem] Oper.semAt_some

theorem grownBy_setCell' (W : World) (a : Addr) (u : Value) : W.grownBy (W.setCell a u) (some a.block) :=
  ⟨rfl, rfl, rfl, by simp, fun k _ hk => Below.heap_setCell W a u k (fun e => hk (by rw [e]))⟩
theorem begins_any (A : Option Addr) (len cap : Nat) (w : World) :
    Calls Try.prog 58 #[.slice A len cap] w fun e w' => e = .returned (.func (.func 79) #[] #[.pointer (some ⟨w.heap.size, 0, none⟩)]) ∧ w.alloc (.cells #[.slice A len cap] 60) = w' := by
  go_enter Try.func58, Try.ntmps58
  go_wp2
  go_ret
  exact ⟨rfl, rfl⟩
/-- What the iterator needs in memory. -/
def BegN (Bl : Nat) (A : Option Addr) (l : List Sp) (cap : Nat) (W : World) : Prop := W.cell? ⟨Bl, 0, none⟩ = some (.slice A l.length cap) ∧ RdS W A l
set_option maxRecDepth 100000 in
set_option maxHeartbeats 2000000 in
theorem begins1_seq (Bl : Nat) (A : Option Addr) (l : List Sp) (cap : Nat) (w : World) (hlen : l.length ≤ 9223372036854775807) :
    SeqCells Try.prog 79 #[.pointer (some ⟨Bl, 0, none⟩)] (fun k => #[(prevS l k).val, (spAt l k).val]) (fun k => .cells (spAt l k).cells 107) l.length (BegN Bl A l cap) w := by
  intro lp J Jx W hW hJ hJx hN hY h0
  have h79 : Fence.wide.fn 79 := trivial
  refine callsIn_of_wp Try.func79 rfl h79 ?_ rfl
  simp only [Try.ntmps79, List.size_toArray, List.length_cons, List.length_nil, Nat.reduceAdd, Nat.reduceSub, Array.replicate_succ, Array.replicate_zero, List.push_toArray, List.append_toArray, List.nil_append, List.cons_append]
  have hn0 := (hN 0 W h0).1
  obtain ⟨WB, hWB⟩ : ∃ WB, WB = W.heap.size := ⟨_, rfl⟩
  have HWB := Lib.hid hWB
  clear hWB
  have hBl : Bl < W.heap.size := World.block_lt_of_cell? W _ hn0
  have J0 : J 0 (W.alloc (.cells #[.int .i64 0, .int .i64 0, .int .i64 0] 107)) := hJ 0 _ _ none h0 (World.grownBy_alloc _ _ _) (fun r e => by cases e)
  gi_wp2
  gi_loopw [9] (fun i wr => ∃ k : Nat, k ≤ l.length ∧ i = .int .i64 k ∧ J k wr ∧ Hid (Blk wr W.heap.size 107 (prevS l k).cells)) (fun i _ => l.length - (intOf i).toNat)
  case atStart => exact ⟨0, Nat.zero_le _, rfl, J0, Lib.hid (Blk.new W 107 _)⟩
  case round =>
    obtain ⟨k, hk, rfl, hJk, HL⟩ := hrel
    have hlt0 := HL.out.lt
    by_cases hlt : k < l.length
    · obtain ⟨ad, e, f0, f1, f2⟩ := RdS.at_ (hN k wr hJk).2 hlt
      subst e
      obtain ⟨fn, tmps, assign, body, hy, hR⟩ := hY k wr hlt hJk hlt0
      have hnext : prevS l (k + 1) = spAt l k := rfl
      rw [← spAt_eq hlt] at f0 f1 f2
      obtain ⟨x, hx⟩ : ∃ x, x = spAt l k := ⟨_, rfl⟩
      obtain ⟨q, hq⟩ : ∃ q, q = prevS l k := ⟨_, rfl⟩
      rw [← hx] at hy hR f0 f1 f2 hnext
      rw [← hq] at hy HL
      have HNX := Lib.hid hnext
      have l0 : wr.cell? ⟨W.heap.size, 0, none⟩ = some (.int .i64 q.ep) := HL.out.cell 0
      have l1 : wr.cell? ⟨W.heap.size, 1, none⟩ = some (.int .i64 q.fr) := HL.out.cell 1
      have l2 : wr.cell? ⟨W.heap.size, 2, none⟩ = some (.int .i64 q.to) := HL.out.cell 2
      have zl0 := HL.out.frozen 0
      have zl1 := HL.out.frozen 1
      have zl2 := HL.out.frozen 2
      have HR := Lib.hid hR
      dsimp only [Sp.val, Sp.cells] at hy
      clear hR hx hq hnext
      gi_wp2
      refine HR.out.mono ?_
      rintro e W3 (⟨rfl, hJ3, hL3, hX3⟩ | ⟨rfl, hJx3⟩)
      · have HX : Hid (Blk W3 wr.heap.size 107 x.cells) := Lib.hid hX3
        have HL3 : Hid (Blk W3 W.heap.size 107 q.cells) := Lib.hid (hL3.trans HL.out)
        have x0 : W3.cell? ⟨wr.heap.size, 0, none⟩ = some (.int .i64 x.ep) := HX.out.cell 0
        have x1 : W3.cell? ⟨wr.heap.size, 1, none⟩ = some (.int .i64 x.fr) := HX.out.cell 1
        have x2 : W3.cell? ⟨wr.heap.size, 2, none⟩ = some (.int .i64 x.to) := HX.out.cell 2
        have l0 : W3.cell? ⟨W.heap.size, 0, none⟩ = some (.int .i64 q.ep) := HL3.out.cell 0
        have l1 : W3.cell? ⟨W.heap.size, 1, none⟩ = some (.int .i64 q.fr) := HL3.out.cell 1
        have l2 : W3.cell? ⟨W.heap.size, 2, none⟩ = some (.int .i64 q.to) := HL3.out.cell 2
        have zl0 := HL3.out.frozen 0
        have zl1 := HL3.out.frozen 1
        have zl2 := HL3.out.frozen 2
        clear hL3 hX3
        gi_wp2
        go_roundw
        case rel =>
          refine ⟨k + 1, by omega, by go_num, ?_, Lib.hid ?_⟩
          · have g1 := fun (W : World) (i : Nat) (u : Value) (h : J (k + 1) W) => hJ (k + 1) _ _ _ h (grownBy_setCell' W ⟨WB, i, none⟩ u) (fun r e => by cases e; exact HWB.out)
            rw [HWB.out] at g1
            exact g1 _ 2 _ (g1 _ 1 _ (g1 _ 0 _ hJ3))
          · rw [HNX.out]
            exact ((HL3.out.set_ 0 (.int .i64 x.ep)).set_ 1 (.int .i64 x.fr)).set_ 2 (.int .i64 x.to)
        case measure => simp [intOf]; omega
      · gi_wp2
        exact bodyPost_ret (results_none rfl _ _ _) rfl ⟨⟨_, rfl⟩, .inr ⟨k, hlt, hJx3⟩⟩
    · have hkl : k = l.length := by omega
      subst hkl
      gi_wp2
      go_end0
      exact ⟨⟨_, rfl⟩, .inl hJk⟩
end Go.Proofs.Ytcdifegjlllbfaa

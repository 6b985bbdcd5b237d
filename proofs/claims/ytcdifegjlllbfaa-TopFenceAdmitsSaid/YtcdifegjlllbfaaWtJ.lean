/- The walk through the run's holders. Conditions: the run lies, at most a thousand leases. -/
import Derived.Test.YtcdifegjlllbfaaWtI
import Derived.StillTailTactics
set_option linter.unusedVariables false
set_option linter.unusedSimpArgs false
namespace Go.Proofs.Ytcdifegjlllbfaa
open Go.RowKit
def le0 : Le := ⟨0, 0, 0⟩
def leAt (l : List Le) (k : Nat) : Le := l[k]?.getD le0
theorem leAt_eq {l : List Le} {k : Nat} (h : k < l.length) : leAt l k = l[k] := by unfold leAt; rw [List.getElem?_eq_getElem h]; rfl
/-- How many hold, and the last one. -/
def hN (l : List Le) (now : Int) : Nat → Int
  | 0 => 0
  | k + 1 => if hoB (leAt l k) now then hN l now k + 1 else hN l now k
def hW (l : List Le) (now : Int) : Nat → Int
  | 0 => -1
  | k + 1 => if hoB (leAt l k) now then (k : Int) else hW l now k
theorem hN_le (l : List Le) (now : Int) : ∀ k : Nat, 0 ≤ hN l now k ∧ hN l now k ≤ k
  | 0 => by simp [hN]
  | k + 1 => by
    have := hN_le l now k
    unfold hN
    split <;> omega
theorem RdL.le {w : World} {A : Option Addr} {l : List Le} (h : RdL eLe w A l) {k : Nat} (hk : k < l.length) : ∃ ad, A = some ad ∧ w.cell? (ad.add (k * 3)) = some (.int .i64 l[k].si) ∧ w.cell? ⟨(ad.add (k * 3)).block, (ad.add (k * 3)).off + 1, none⟩ = some (.int .i64 l[k].ep) ∧ w.cell? ⟨(ad.add (k * 3)).block, (ad.add (k * 3)).off + 2, none⟩ = some (.int .i64 l[k].un) := by
  obtain ⟨ad, e, hc⟩ := RdL.at_ h hk
  replace hc : ∀ j u, [Value.int .i64 l[k].si, .int .i64 l[k].ep, .int .i64 l[k].un][j]? = some u → w.cell? (ad.add (k * 3 + j)) = some u := hc
  exact ⟨ad, e, hc 0 _ rfl, by rw [← add_field _ _ 1 (by omega)]; exact hc 1 _ rfl, by rw [← add_field _ _ 2 (by omega)]; exact hc 2 _ rfl⟩
theorem ret_ii {a b c d : Int} (h1 : a = c) (h2 : b = d) : Ending.returned (.tuple #[.int .i64 a, .int .i64 b]) = .returned (.tuple #[.int .i64 c, .int .i64 d]) := by rw [h1, h2]
set_option maxRecDepth 10000 in
set_option maxHeartbeats 2000000 in
theorem holders_any {B g : Nat} {W : World} {s : St} {vL vR vA : Value} (h : Lie B W g s vL vR vA) (hn : s.ls.length ≤ 1000) :
    Calls Try.prog 14 #[.pointer (some ⟨g, 0, none⟩)] W fun e w' => e = .returned (.tuple #[.int .i64 (hN s.ls s.now s.ls.length), .int .i64 (hW s.ls s.now s.ls.length)]) ∧ Below W.heap.size W w' := by
  obtain ⟨A, c, rfl, hc1, hc2, hrd⟩ := OwL.rd h.ol
  have c6 : W.cell? ⟨g, 6, none⟩ = some (.slice A s.ls.length c) := h.blk.cell 6
  have HC0 : Hid (∀ w', Below W.heap.size W w' → w'.cell? ⟨g, 0, none⟩ = some (.int .i64 s.now)) := Lib.hid fun w' hb => (h.blk.below hb h.lt).cell 0
  have HR := Lib.hid hrd
  clear hrd hc1 hc2 h
  go_enter Try.func14, Try.ntmps14
  go_wp2
  go_loopw [13, 4, 5] (fun i n q wr => ∃ k : Nat, k ≤ s.ls.length ∧ i = .int .i64 k ∧ n = .int .i64 (hN s.ls s.now k) ∧ q = .int .i64 (hW s.ls s.now k) ∧ Hid (Below W.heap.size W wr)) (fun i _ _ _ => s.ls.length - (intOf i).toNat)
  case atStart => exact ⟨0, Nat.zero_le _, rfl, rfl, rfl, Lib.hid (Below.refl _ _)⟩
  case round =>
    obtain ⟨k, hk, rfl, rfl, rfl, HB⟩ := hrel
    have hb := hN_le s.ls s.now k
    obtain ⟨b0, b1⟩ := hb
    by_cases hlt : k < s.ls.length
    · obtain ⟨ad, rfl, d0, d1, d2⟩ := RdL.le (RdL.below HR.out HB.out) hlt
      have HLE := Lib.hid (leAt_eq hlt)
      obtain ⟨x, hx⟩ : ∃ x, x = s.ls[k] := ⟨_, rfl⟩
      rw [← hx] at d0 d1 d2 HLE
      clear hx
      have z0 : wr.cell? ⟨g, 0, none⟩ = some (.int .i64 s.now) := HC0.out wr HB.out
      have hgl : g < wr.heap.size := World.block_lt_of_cell? wr _ z0
      go_wp2_with fail
      have hX := Blk.new wr 41 #[.int .i64 x.si, .int .i64 x.ep, .int .i64 x.un]
      have e0 : (wr.alloc (.cells #[.int .i64 x.si, .int .i64 x.ep, .int .i64 x.un] 41)).cell? ⟨wr.heap.size, 0, none⟩ = some (.int .i64 x.si) := hX.cell 0
      have e1 : (wr.alloc (.cells #[.int .i64 x.si, .int .i64 x.ep, .int .i64 x.un] 41)).cell? ⟨wr.heap.size, 1, none⟩ = some (.int .i64 x.ep) := hX.cell 1
      have e2 : (wr.alloc (.cells #[.int .i64 x.si, .int .i64 x.ep, .int .i64 x.un] 41)).cell? ⟨wr.heap.size, 2, none⟩ = some (.int .i64 x.un) := hX.cell 2
      have HB9 : Hid (Below W.heap.size W (wr.alloc (.cells #[.int .i64 x.si, .int .i64 x.ep, .int .i64 x.un] 41))) := Lib.hid (HB.out.alloc HB.out.size _)
      have e3 : (wr.alloc (.cells #[.int .i64 x.si, .int .i64 x.ep, .int .i64 x.un] 41)).cell? ⟨g, 0, none⟩ = some (.int .i64 s.now) := HC0.out _ HB9.out
      clear d0 d1 d2 z0 hX
      generalize wr.alloc (.cells #[.int .i64 x.si, .int .i64 x.ep, .int .i64 x.un] 41) = w9 at *
      go_still_tail 5, (by kernel_rfl)
      go_wp2_with fail
      refine (holds_any x s.now _).mono ?_
      rintro e w2 ⟨rfl, hb⟩
      replace hb : Below w9.heap.size w9 w2 := ⟨hb.os, hb.tape, hb.output, hb.size, hb.block⟩
      have HB2 : Hid (Below W.heap.size W w2) := Lib.hid (HB9.out.trans (hb.mono HB9.out.size))
      clear hb e0 e1 e2 e3 hgl
      obtain ⟨b, hb⟩ : ∃ b, b = hoB x s.now := ⟨_, rfl⟩
      have HO := Lib.hid hb
      rw [← hb]
      clear hb
      cases b
      · have HN : Hid (hN s.ls s.now (k + 1) = hN s.ls s.now k) := Lib.hid (by rw [hN, HLE.out, ← HO.out]; rfl)
        have HWW : Hid (hW s.ls s.now (k + 1) = hW s.ls s.now k) := Lib.hid (by rw [hW, HLE.out, ← HO.out]; rfl)
        go_wp2
        go_roundw
        case rel => exact ⟨k + 1, by omega, by go_num, by rw [HN.out], by rw [HWW.out], HB2⟩
        case measure => simp [intOf]; omega
      · have HN : Hid (hN s.ls s.now (k + 1) = hN s.ls s.now k + 1) := Lib.hid (by rw [hN, HLE.out, ← HO.out]; rfl)
        have HWW : Hid (hW s.ls s.now (k + 1) = (k : Int)) := Lib.hid (by rw [hW, HLE.out, ← HO.out]; rfl)
        go_wp2
        go_roundw
        case rel => exact ⟨k + 1, by omega, by go_num, by rw [HN.out], by rw [HWW.out], HB2⟩
        case measure => simp [intOf]; omega
    · obtain rfl : k = s.ls.length := by omega
      go_wp2
      go_ret2
      exact ⟨rfl, HB.out⟩
end Go.Proofs.Ytcdifegjlllbfaa

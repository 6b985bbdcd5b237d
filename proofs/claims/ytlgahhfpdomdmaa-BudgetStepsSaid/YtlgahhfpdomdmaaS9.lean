/- The walk through the law BudgetSteps. Conditions: the slices lie in memory as lists of plans and of uses, the two numbers are bytes. -/
import Derived.Test.YtlgahhfpdomdmaaCob
import Derived.Test.YtlgahhfpdomdmaaLwb
set_option linter.unusedVariables false
set_option linter.unusedSimpArgs false
namespace Go.Proofs.Ytlgahhfpdomdmaa
open Go.RowKit

set_option maxRecDepth 100000 in
set_option maxHeartbeats 4000000 in
theorem BudgetSteps_any (A : Option Addr) (c : Nat) (l : List Pl) (A' : Option Addr) (c' : Nat) (us : List Us) (x0 x1 : Int) (w : World) (hl : RdP w A l) (hlo : ∀ x ∈ l, x.Ok) (hu : RdU w A' us) (huo : ∀ u ∈ us, u.Ok)
    (hx0 : 0 ≤ x0 ∧ x0 ≤ 255) (hx1 : 0 ≤ x1 ∧ x1 ≤ 255) :
    Calls Try.prog 9 #[.slice A l.length c, .slice A' us.length c', .agg #[.int .u8 x0, .int .u8 x1]] w fun e w' => e = .returned (.bool true) ∧ Below w.heap.size w w' := by
  have hlen := hl.1
  have hlenu := hu.1
  have HL := Lib.hid hl
  have HU := Lib.hid hu
  clear hl hu
  obtain ⟨x00, x01⟩ := hx0
  obtain ⟨x10, x11⟩ := hx1
  by_cases h8 : 8 < l.length
  · go_enter Try.func9, Try.ntmps9
    go_wp2_with fail
    refine (awake_any _).mono ?_
    rintro e w1 ⟨rfl, hb⟩
    go_wp2
    go_ret
    exact ⟨rfl, ((Below.refl _ w).alloc (Nat.le_refl _) _).trans (hb.mono (by simp))⟩
  have hw1 : IntKind.i64.wrap x0 = x0 := IntWalk.i64_in _ (by omega)
  have hw2 : IntKind.i64.wrap x1 = x1 := IntWalk.i64_in _ (by omega)
  go_enter Try.func9, Try.ntmps9
  go_wp2_with fail
  refine (built_op _ _ _ _ (HL.out.alloc _) hlo (by omega)).mono ?_
  rintro e w1 ⟨T0, A1, c1, L0, rfl, t0, t1, HLB, HV, hb⟩
  have K := Lib.hid (((((Known.start w).alloc 60 #[.int .u8 x0, .int .u8 x1]).below hb).add HV.out).alloc 24 #[.int .i64 T0, .slice A1 l.length c1])
  have hsz : w.heap.size < w1.heap.size := by have := hb.size; simp at this; omega
  have k0 : w1.cell? ⟨w.heap.size, 0, none⟩ = some (.int .u8 x0) := ((Blk.new w 60 #[.int .u8 x0, .int .u8 x1]).below hb (by simp)).cell 0
  have k1 : w1.cell? ⟨w.heap.size, 1, none⟩ = some (.int .u8 x1) := ((Blk.new w 60 #[.int .u8 x0, .int .u8 x1]).below hb (by simp)).cell 1
  clear hb HV
  by_cases h0 : 0 < l.length
  case' pos =>
    go_wp2_with fail
    refine (used_op T0 _ A1 l.length c1 l L0 A' c' us _ (K.out.own 0 rfl) (by simp; omega) HLB.out rfl (by omega) h0 t0 t1 (RdL.below HU.out K.out.low) huo).mono ?_
    rintro e w2 ⟨T, A2, c2, vt, L, rfl, ht0, ht1, HBO, HLN, HSP, HV2, hb⟩
    have K2 := Lib.hid (((K.out.below hb).add HV2.out).box 0 rfl (.int .i64 T) (.slice A2 l.length c2) (by simp))
    have k3 := Lib.hid (K.out.below hb)
    have x0c : w2.cell? ⟨w.heap.size, 0, none⟩ = some (.int .u8 x0) := (k3.out.blk 1 rfl).cell 0
    have x1c : w2.cell? ⟨w.heap.size, 1, none⟩ = some (.int .u8 x1) := (k3.out.blk 1 rfl).cell 1
    have b0 : w2.cell? ⟨w1.heap.size, 0, none⟩ = some (.int .i64 T0) := (k3.out.blk 0 rfl).cell 0
    have b1 : w2.cell? ⟨w1.heap.size, 1, none⟩ = some (.slice A1 l.length c1) := (k3.out.blk 0 rfl).cell 1
    have zb0 := (k3.out.blk 0 rfl).frozen 0
    have zb1 := (k3.out.blk 0 rfl).frozen 1
    clear hb HV2 K k3
    go_wp2_with fail
    have KK : Hid (∃ o1, Known w _ [⟨w1.heap.size, 24, #[.int .i64 T, .slice A2 l.length c2]⟩, ⟨w.heap.size, 60, #[.int .u8 x0, .int .u8 x1]⟩] [⟨eB, 64, o1, .slice A2 l.length c2, L⟩]) := Lib.hid ⟨_, K2.out.fst⟩
    clear K2 x0c x1c b0 b1 zb0 zb1 k0 k1
    generalize (w2.setCell ⟨w1.heap.size, 0, none⟩ (.int .i64 T)).setCell ⟨w1.heap.size, 1, none⟩ (.slice A2 l.length c2) = W at KK ⊢
    replace HLB : Hid True := Lib.hid trivial
    clear HSP
  case' neg =>
    obtain ⟨L, hL⟩ : ∃ L, L = L0 := ⟨_, rfl⟩
    have HBO : Hid (BudOk T0 L) := Lib.hid (by rw [hL, HLB.out, show T0 = 0 by omega]; exact builtL_ok (by omega))
    have HLN : Hid (L.length = l.length) := Lib.hid (by rw [hL, HLB.out]; exact builtL_length l)
    rw [← hL] at K
    go_wp2_with fail
    have KK : Hid (∃ o1, Known w _ [⟨w1.heap.size, 24, #[.int .i64 T0, .slice A1 l.length c1]⟩, ⟨w.heap.size, 60, #[.int .u8 x0, .int .u8 x1]⟩] [⟨eB, 64, o1, .slice A1 l.length c1, L⟩]) := Lib.hid ⟨_, K.out.fst⟩
    generalize w1.alloc (.cells #[.int .i64 T0, .slice A1 l.length c1] 24) = W at KK ⊢
    clear k0 k1 hL K HLB
    obtain ⟨T, rfl⟩ : ∃ T, T = T0 := ⟨_, rfl⟩
    obtain ⟨A2, rfl⟩ : ∃ T, T = A1 := ⟨_, rfl⟩
    obtain ⟨c2, rfl⟩ : ∃ T, T = c1 := ⟨_, rfl⟩
    have ht0 : 0 ≤ T := t0
    have ht1 : T ≤ 100 := by omega
  all_goals
    obtain ⟨o1, KK⟩ := KK.out
    have K := Lib.hid KK
    clear KK
    refine (Adv_op T A2 l.length c2 L (T + x0) W (K.out.own 0 rfl) HBO.out (by omega) (by omega)).mono ?_
    rintro e w3 ⟨A3, c3, L3, rfl, HL3, HBO3, HV3, hb⟩
    have K3 := Lib.hid (((K.out.below hb).add HV3.out).alloc 24 #[.int .i64 (T + x0), .slice A3 l.length c3])
    have k3 := Lib.hid (K.out.below hb)
    have x0c : w3.cell? ⟨w.heap.size, 0, none⟩ = some (.int .u8 x0) := (k3.out.blk 1 rfl).cell 0
    have x1c : w3.cell? ⟨w.heap.size, 1, none⟩ = some (.int .u8 x1) := (k3.out.blk 1 rfl).cell 1
    have b0 : w3.cell? ⟨w1.heap.size, 0, none⟩ = some (.int .i64 T) := (k3.out.blk 0 rfl).cell 0
    have b1 : w3.cell? ⟨w1.heap.size, 1, none⟩ = some (.slice A2 l.length c2) := (k3.out.blk 0 rfl).cell 1
    have hsz3 : w1.heap.size < w3.heap.size := k3.out.lt 0 rfl
    have hsz4 : w.heap.size < w3.heap.size := by omega
    clear hb HV3 K k3
    go_wp2_with fail
    refine (Adv_op (T + x0) A3 l.length c3 L3 (T + x0 + x1) _ (K3.out.own 0 rfl) HBO3.out (by omega) (by omega)).mono ?_
    rintro e w4 ⟨A4, c4, L4, rfl, HL4, HBO4, HV4, hb⟩
    have K4 := Lib.hid (((K3.out.below hb).add HV4.out).box 0 rfl (.int .i64 (T + x0 + x1)) (.slice A4 l.length c4) (by simp))
    have k3 := Lib.hid (K3.out.below hb)
    have x0c : w4.cell? ⟨w.heap.size, 0, none⟩ = some (.int .u8 x0) := (k3.out.blk 2 rfl).cell 0
    have x1c : w4.cell? ⟨w.heap.size, 1, none⟩ = some (.int .u8 x1) := (k3.out.blk 2 rfl).cell 1
    have b0 : w4.cell? ⟨w1.heap.size, 0, none⟩ = some (.int .i64 T) := (k3.out.blk 1 rfl).cell 0
    have b1 : w4.cell? ⟨w1.heap.size, 1, none⟩ = some (.slice A2 l.length c2) := (k3.out.blk 1 rfl).cell 1
    have a0 : w4.cell? ⟨w3.heap.size, 0, none⟩ = some (.int .i64 (T + x0)) := (k3.out.blk 0 rfl).cell 0
    have a1 : w4.cell? ⟨w3.heap.size, 1, none⟩ = some (.slice A3 l.length c3) := (k3.out.blk 0 rfl).cell 1
    have z0 := (k3.out.blk 0 rfl).frozen 0
    have z1 := (k3.out.blk 0 rfl).frozen 1
    have hsz5 : w3.heap.size < w4.heap.size := k3.out.lt 0 rfl
    clear hb HV4 K3 k3
    go_wp2_with fail
    refine (Adv_op T A2 l.length c2 L (T + x0 + x1) _ (K4.out.own 2 rfl) HBO.out (by omega) (by omega)).mono ?_
    rintro e w5 ⟨A5, c5, L5, rfl, HL5, HBO5, HV5, hb⟩
    have K5 := Lib.hid (((K4.out.below hb).add HV5.out).alloc 24 #[.int .i64 (T + x0 + x1), .slice A5 l.length c5])
    have hsz6 : w3.heap.size < w5.heap.size := (K4.out.below hb).lt 0 rfl
    have HEQ : Hid (L4 = L5) := Lib.hid (by rw [HL4.out, HL5.out, HL3.out, later_list HBO.out (by omega)]; congr 2; omega)
    have HLN4 : Hid (L4.length = l.length) := Lib.hid (by rw [HL4.out, HL3.out]; simp [HLN.out])
    clear hb HV5 K4 x0c x1c b0 b1 a0 a1 z0 z1
    go_wp2_with fail
    refine (awake_any _).mono ?_
    rintro e w6 ⟨rfl, hb⟩
    have K6 := Lib.hid (K5.out.below hb)
    have b0 : w6.cell? ⟨w3.heap.size, 0, none⟩ = some (.int .i64 (T + x0 + x1)) := (K6.out.blk 1 rfl).cell 0
    have b1 : w6.cell? ⟨w3.heap.size, 1, none⟩ = some (.slice A4 l.length c4) := (K6.out.blk 1 rfl).cell 1
    have a0 : w6.cell? ⟨w5.heap.size, 0, none⟩ = some (.int .i64 (T + x0 + x1)) := (K6.out.blk 0 rfl).cell 0
    have a1 : w6.cell? ⟨w5.heap.size, 1, none⟩ = some (.slice A5 l.length c5) := (K6.out.blk 0 rfl).cell 1
    clear hb K5
    go_wp2_with fail
    have HSM : Hid (∀ W, RdB W A4 L4 → RdB W A5 L5 → Calls Try.prog 14 #[.agg #[.int .i64 (T + x0 + x1), .slice A4 l.length c4], .agg #[.int .i64 (T + x0 + x1), .slice A5 l.length c5]] W fun e w' => e = .returned (.bool true) ∧ Below W.heap.size W w') := by
      refine Lib.hid fun W h4 h5 => ?_
      have h := Same_any (T + x0 + x1) A4 c4 L4 (T + x0 + x1) A5 c5 L5 W h4 h5
      rw [← HEQ.out, sameB_self, HLN4.out] at h
      exact h
    refine (HSM.out _ (OwL.rdA (K6.out.own 1 rfl)) (OwL.rdA (K6.out.own 0 rfl))).mono ?_
    rintro e w7 ⟨rfl, hb⟩
    have K7 := Lib.hid (K6.out.below hb)
    clear hb K6 a0 a1 b0 b1
    go_wp2
    go_ret
    exact ⟨rfl, K7.out.low⟩
end Go.Proofs.Ytlgahhfpdomdmaa

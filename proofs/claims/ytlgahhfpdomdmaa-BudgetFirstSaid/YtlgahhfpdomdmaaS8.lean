/- The walk through the law BudgetFirst. Conditions: the slices lie in memory as lists of plans and of uses, the two numbers are bytes. -/
import Derived.Test.YtlgahhfpdomdmaaCob
import Derived.Test.YtlgahhfpdomdmaaLwb
import Derived.Deep.QuietTactic
import Derived.BigQuiet
set_option linter.unusedVariables false
set_option linter.unusedSimpArgs false
namespace Go.Proofs.Ytlgahhfpdomdmaa
open Go.RowKit

set_option maxRecDepth 100000 in
set_option maxHeartbeats 4000000 in
theorem BudgetFirst_any (A : Option Addr) (c : Nat) (l : List Pl) (A' : Option Addr) (c' : Nat) (us : List Us) (x0 x1 : Int) (w : World) (hl : RdP w A l) (hlo : ∀ x ∈ l, x.Ok) (hu : RdU w A' us) (huo : ∀ u ∈ us, u.Ok)
    (hx0 : 0 ≤ x0 ∧ x0 ≤ 255) (hx1 : 0 ≤ x1 ∧ x1 ≤ 255) :
    Calls Try.prog 8 #[.slice A l.length c, .slice A' us.length c', .agg #[.int .u8 x0, .int .u8 x1]] w fun e w' => e = .returned (.bool true) ∧ Below w.heap.size w w' := by
  have hlen := hl.1
  have hlenu := hu.1
  have HL := Lib.hid hl
  have HU := Lib.hid hu
  clear hl hu
  obtain ⟨x00, x01⟩ := hx0
  obtain ⟨x10, x11⟩ := hx1
  by_cases hz : l.length = 0
  · have hz0 : ((l.length : Int) == 0) = true := by simp [hz]
    have HZ := Lib.hid hz
    clear hz
    go_enter Try.func8, Try.ntmps8
    go_wp2_with fail
    refine (awake_any _).mono ?_
    rintro e w1 ⟨rfl, hb⟩
    go_wp2
    go_ret
    exact ⟨rfl, ((Below.refl _ w).alloc (Nat.le_refl _) _).trans (hb.mono (by simp))⟩
  have hz0 : ((l.length : Int) == 0) = false := beq_eq_false_iff_ne.2 (by omega)
  by_cases h8 : 8 < l.length
  · have h80 : decide (8 < l.length) = true := by simpa using h8
    go_enter Try.func8, Try.ntmps8
    go_wp2_with fail
    refine (awake_any _).mono ?_
    rintro e w1 ⟨rfl, hb⟩
    go_wp2
    go_ret
    exact ⟨rfl, ((Below.refl _ w).alloc (Nat.le_refl _) _).trans (hb.mono (by simp))⟩
  have h80 : decide (8 < l.length) = false := by simpa using h8
  have h0 : 0 < l.length := by omega
  have hw1 : IntKind.i64.wrap x0 = x0 := IntWalk.i64_in _ (by omega)
  have hw2 : IntKind.i64.wrap x1 = x1 := IntWalk.i64_in _ (by omega)
  go_enter Try.func8, Try.ntmps8
  go_wp2_with fail
  refine (built_op _ _ _ _ (HL.out.alloc _) hlo (by omega)).mono ?_
  rintro e w1 ⟨T0, A1, c1, L0, rfl, t0, t1, HLB, HV, hb⟩
  have K := Lib.hid (((((Known.start w).alloc 60 #[.int .u8 x0, .int .u8 x1]).below hb).add HV.out).alloc 24 #[.int .i64 T0, .slice A1 l.length c1])
  have hsz : w.heap.size < w1.heap.size := by have := hb.size; simp at this; omega
  clear hb HV
  go_wp2_with fail
  refine (used_op T0 _ A1 l.length c1 l L0 A' c' us _ (K.out.own 0 rfl) (by simp; omega) HLB.out rfl (by omega) h0 t0 t1 (RdL.below HU.out K.out.low) huo).mono ?_
  rintro e w2 ⟨T, A2, c2, vt, L, rfl, ht0, ht1, HBO, HLN, HSP, HV2, hb⟩
  have K2 := Lib.hid (((K.out.below hb).add HV2.out).box 0 rfl (.int .i64 T) (.slice A2 l.length c2) (by simp)).fst
  have k3 := Lib.hid (K.out.below hb)
  have x0c : w2.cell? ⟨w.heap.size, 0, none⟩ = some (.int .u8 x0) := (k3.out.blk 1 rfl).cell 0
  have x1c : w2.cell? ⟨w.heap.size, 1, none⟩ = some (.int .u8 x1) := (k3.out.blk 1 rfl).cell 1
  have b0 : w2.cell? ⟨w1.heap.size, 0, none⟩ = some (.int .i64 T0) := (k3.out.blk 0 rfl).cell 0
  have b1 : w2.cell? ⟨w1.heap.size, 1, none⟩ = some (.slice A1 l.length c1) := (k3.out.blk 0 rfl).cell 1
  have zb0 := (k3.out.blk 0 rfl).frozen 0
  have zb1 := (k3.out.blk 0 rfl).frozen 1
  have hsz2 : w1.heap.size < w2.heap.size := k3.out.lt 0 rfl
  clear hb HV2 K k3
  have k0 : 0 ≤ x0 % (l.length : Int) := Int.emod_nonneg _ (by omega)
  have k1 : x0 % (l.length : Int) < l.length := Int.emod_lt_of_pos _ (by omega)
  have n0 : 0 ≤ x1 % 70 := by omega
  have n1 : x1 % 70 ≤ 69 := by omega
  have hlz : ¬ ((l.length : Int) = 0) := by omega
  go_wp2
  go_quiet (fail)
  go_wp2_with fail
  generalize x0 % (l.length : Int) = kk at k0 k1 ⊢
  generalize x1 % 70 = nn at n0 n1 ⊢
  have K := Lib.hid (K2.out.drewN nq)
  generalize ((w2.setCell ⟨w1.heap.size, 0, none⟩ (.int .i64 T)).setCell ⟨w1.heap.size, 1, none⟩ (.slice A2 l.length c2)).drewN nq = W at K ⊢
  clear K2 x0c x1c b0 b1 zb0 zb1 hw1 hw2 hlz
  refine (Whn_op T A2 l.length c2 L kk nn W (K.out.own 0 rfl) HBO.out k0 k1 n0 (by omega)).mono ?_
  rintro e w3 ⟨tt, E, rfl, HTT, HE, hb⟩
  have K3 := Lib.hid (K.out.below hb)
  have b0 : w3.cell? ⟨w1.heap.size, 0, none⟩ = some (.int .i64 T) := (K3.out.blk 0 rfl).cell 0
  have b1 : w3.cell? ⟨w1.heap.size, 1, none⟩ = some (.slice A2 l.length c2) := (K3.out.blk 0 rfl).cell 1
  have hsz3 : w1.heap.size < w3.heap.size := K3.out.lt 0 rfl
  clear K hb
  by_cases hE : E = 0
  · have hf := first_then HBO.out (k := kk.toNat) (n := nn) (by rw [HLN.out]; omega) n0 (by rw [Int.toNat_of_nonneg k0, ← HE.out]; exact hE)
    rw [Int.toNat_of_nonneg k0, ← HTT.out] at hf
    obtain ⟨f0, f1, f2, f3⟩ := hf
    have F2 := Lib.hid f2
    have F3 := Lib.hid f3
    subst hE
    clear f2 f3 HTT HE
    go_wp2_with fail
    refine (Adv_op T A2 l.length c2 L tt _ (K3.out.own 0 rfl) HBO.out f0 f1).mono ?_
    rintro e w4 ⟨A4, c4, L4, rfl, HL4, HBO4, HV4, hb⟩
    have K4 := Lib.hid (((K3.out.below hb).add HV4.out).alloc 24 #[.int .i64 tt, .slice A4 l.length c4])
    have k3 := Lib.hid (K3.out.below hb)
    have b0 : w4.cell? ⟨w1.heap.size, 0, none⟩ = some (.int .i64 T) := (k3.out.blk 0 rfl).cell 0
    have b1 : w4.cell? ⟨w1.heap.size, 1, none⟩ = some (.slice A2 l.length c2) := (k3.out.blk 0 rfl).cell 1
    have hsz4 : w1.heap.size < w4.heap.size := k3.out.lt 0 rfl
    clear hb HV4 K3 k3
    go_wp2_with fail
    refine (Avl_op tt A4 l.length c4 L4 kk _ (K4.out.own 0 rfl) HBO4.out k0 k1).mono ?_
    rintro e w5 ⟨m, rfl, HM, m0, m1, hb⟩
    have K5 := Lib.hid (K4.out.below hb)
    have hm : ¬ m < nn := by have := F2.out; rw [← HL4.out, ← HM.out] at this; omega
    have hm2 : decide (m < nn) = false := by simpa using hm
    have ht2 : decide (tt < T) = false := by simp; omega
    have b0 : w5.cell? ⟨w1.heap.size, 0, none⟩ = some (.int .i64 T) := (K5.out.blk 1 rfl).cell 0
    have b1 : w5.cell? ⟨w1.heap.size, 1, none⟩ = some (.slice A2 l.length c2) := (K5.out.blk 1 rfl).cell 1
    have a0 : w5.cell? ⟨w4.heap.size, 0, none⟩ = some (.int .i64 tt) := (K5.out.blk 0 rfl).cell 0
    have a1 : w5.cell? ⟨w4.heap.size, 1, none⟩ = some (.slice A4 l.length c4) := (K5.out.blk 0 rfl).cell 1
    have z0 := (K5.out.blk 0 rfl).frozen 0
    have z1 := (K5.out.blk 0 rfl).frozen 1
    have hsz5 : w4.heap.size < w5.heap.size := K5.out.lt 0 rfl
    clear hb K4 HL4 HBO4 HM F2
    by_cases htt : tt = T
    · have heq : (tt == T) = true := beq_iff_eq.2 htt
      have HT := Lib.hid htt
      clear htt F3
      go_wp2_with fail
      refine (awake_any _).mono ?_
      rintro e w6 ⟨rfl, hb⟩
      have K6 := Lib.hid (K5.out.below hb)
      clear hb K5
      go_wp2
      go_ret
      exact ⟨rfl, K6.out.low⟩
    · have heq : (tt == T) = false := beq_eq_false_iff_ne.2 htt
      have F4 := Lib.hid (F3.out htt)
      have ht1' : T ≤ tt - 1 := by omega
      have HT := Lib.hid htt
      clear htt F3
      go_wp2_with fail
      refine (Adv_op T A2 l.length c2 L (tt - 1) _ (K5.out.own 1 rfl) HBO.out ht1' (by omega)).mono ?_
      rintro e w6 ⟨A6, c6, L6, rfl, HL6, HBO6, HV6, hb⟩
      have K6 := Lib.hid (((K5.out.below hb).add HV6.out).box 0 rfl (.int .i64 (tt - 1)) (.slice A6 l.length c6) (by simp))
      have k3 := Lib.hid (K5.out.below hb)
      have a0 : w6.cell? ⟨w4.heap.size, 0, none⟩ = some (.int .i64 tt) := (k3.out.blk 0 rfl).cell 0
      have a1 : w6.cell? ⟨w4.heap.size, 1, none⟩ = some (.slice A4 l.length c4) := (k3.out.blk 0 rfl).cell 1
      have z0 := (k3.out.blk 0 rfl).frozen 0
      have z1 := (k3.out.blk 0 rfl).frozen 1
      clear hb HV6 K5 k3 b0 b1 ht2 hm hm2
      go_wp2_with fail
      refine (Avl_op (tt - 1) A6 l.length c6 L6 kk _ (K6.out.own 0 rfl) HBO6.out k0 k1).mono ?_
      rintro e w7 ⟨m', rfl, HM, m0', m1', hb⟩
      have K7 := Lib.hid (K6.out.below hb)
      have hm : m' < nn := by rw [HM.out, HL6.out]; exact F4.out
      clear hb K6 a0 a1 z0 z1
      go_wp2_with fail
      refine (awake_any _).mono ?_
      rintro e w8 ⟨rfl, hb⟩
      have K8 := Lib.hid (K7.out.below hb)
      clear hb K7
      go_wp2
      go_ret
      exact ⟨rfl, K8.out.low⟩
  · have hf := first_never HBO.out (k := kk.toNat) (n := nn) (by rw [HLN.out]; omega) n0 (by rw [Int.toNat_of_nonneg k0, ← HE.out]; exact hE)
    rw [Int.toNat_of_nonneg k0, ← HE.out] at hf
    obtain ⟨f1, f2⟩ := hf
    have F2 := Lib.hid f2
    subst f1
    clear hE f2 HTT HE
    go_wp2_with fail
    refine (Adv_op T A2 l.length c2 L 1073741824 _ (K3.out.own 0 rfl) HBO.out (by omega) (by omega)).mono ?_
    rintro e w4 ⟨A4, c4, L4, rfl, HL4, HBO4, HV4, hb⟩
    have K4 := Lib.hid (((K3.out.below hb).add HV4.out).alloc 24 #[.int .i64 1073741824, .slice A4 l.length c4])
    clear hb HV4 K3
    go_wp2_with fail
    refine (Avl_op 1073741824 A4 l.length c4 L4 kk _ (K4.out.own 0 rfl) HBO4.out k0 k1).mono ?_
    rintro e w5 ⟨m, rfl, HM, m0, m1, hb⟩
    have K5 := Lib.hid (K4.out.below hb)
    have hm : m < nn := by rw [HM.out, HL4.out]; exact F2.out
    clear hb K4
    go_wp2_with fail
    refine (awake_any _).mono ?_
    rintro e w6 ⟨rfl, hb⟩
    have K6 := Lib.hid (K5.out.below hb)
    clear hb K5
    go_wp2
    go_ret
    exact ⟨rfl, K6.out.low⟩
end Go.Proofs.Ytlgahhfpdomdmaa

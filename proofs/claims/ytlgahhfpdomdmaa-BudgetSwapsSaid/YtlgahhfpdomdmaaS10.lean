/- The walk through the law BudgetSwaps. Conditions: the slices lie in memory as lists of plans and of uses, the four numbers are bytes. -/
import Derived.Test.YtlgahhfpdomdmaaCob
import Derived.Test.YtlgahhfpdomdmaaLwb
import Derived.Deep.QuietTactic
import Derived.BigQuiet
set_option linter.unusedVariables false
set_option linter.unusedSimpArgs false
namespace Go.Proofs.Ytlgahhfpdomdmaa
open Go.RowKit

set_option maxRecDepth 100000 in
set_option maxHeartbeats 4000000 in
theorem BudgetSwaps_any (A : Option Addr) (c : Nat) (l : List Pl) (A' : Option Addr) (c' : Nat) (us : List Us) (x0 x1 x2 x3 : Int) (w : World) (hl : RdP w A l) (hlo : ∀ x ∈ l, x.Ok) (hu : RdU w A' us) (huo : ∀ u ∈ us, u.Ok)
    (hx0 : 0 ≤ x0 ∧ x0 ≤ 255) (hx1 : 0 ≤ x1 ∧ x1 ≤ 255) (hx2 : 0 ≤ x2 ∧ x2 ≤ 255) (hx3 : 0 ≤ x3 ∧ x3 ≤ 255) :
    Calls Try.prog 10 #[.slice A l.length c, .slice A' us.length c', .agg #[.int .u8 x0, .int .u8 x1, .int .u8 x2, .int .u8 x3]] w fun e w' => e = .returned (.bool true) ∧ Below w.heap.size w w' := by
  have hlen := hl.1
  have hlenu := hu.1
  have HL := Lib.hid hl
  have HU := Lib.hid hu
  clear hl hu
  obtain ⟨x00, x01⟩ := hx0
  obtain ⟨x10, x11⟩ := hx1
  obtain ⟨x20, x21⟩ := hx2
  obtain ⟨x30, x31⟩ := hx3
  by_cases hz : l.length = 0
  · have hz0 : ((l.length : Int) == 0) = true := by simp [hz]
    have HZ := Lib.hid hz
    clear hz
    go_enter Try.func10, Try.ntmps10
    go_wp2_with fail
    refine (awake_any _).mono ?_
    rintro e w1 ⟨rfl, hb⟩
    go_wp2
    go_ret
    exact ⟨rfl, ((Below.refl _ w).alloc (Nat.le_refl _) _).trans (hb.mono (by simp))⟩
  have hz0 : ((l.length : Int) == 0) = false := beq_eq_false_iff_ne.2 (by omega)
  by_cases h8 : 8 < l.length
  · have h80 : decide (8 < l.length) = true := by simpa using h8
    go_enter Try.func10, Try.ntmps10
    go_wp2_with fail
    refine (awake_any _).mono ?_
    rintro e w1 ⟨rfl, hb⟩
    go_wp2
    go_ret
    exact ⟨rfl, ((Below.refl _ w).alloc (Nat.le_refl _) _).trans (hb.mono (by simp))⟩
  have h80 : decide (8 < l.length) = false := by simpa using h8
  have h0 : 0 < l.length := by omega
  have hw1 : IntKind.i64.wrap x0 = x0 := IntWalk.i64_in _ (by omega)
  have hw2 : IntKind.i64.wrap x1 = x1 := IntWalk.i64_in _ (by omega)
  have hw3 : IntKind.i64.wrap x2 = x2 := IntWalk.i64_in _ (by omega)
  have hw4 : IntKind.i64.wrap x3 = x3 := IntWalk.i64_in _ (by omega)
  go_enter Try.func10, Try.ntmps10
  go_wp2_with fail
  refine (built_op _ _ _ _ (HL.out.alloc _) hlo (by omega)).mono ?_
  rintro e w1 ⟨T0, A1, c1, L0, rfl, t0, t1, HLB, HV, hb⟩
  have K := Lib.hid (((((Known.start w).alloc 62 #[.int .u8 x0, .int .u8 x1, .int .u8 x2, .int .u8 x3]).below hb).add HV.out).alloc 24 #[.int .i64 T0, .slice A1 l.length c1])
  have hsz : w.heap.size < w1.heap.size := by have := hb.size; simp at this; omega
  clear hb HV
  go_wp2_with fail
  refine (used_op T0 _ A1 l.length c1 l L0 A' c' us _ (K.out.own 0 rfl) (by simp; omega) HLB.out rfl (by omega) h0 t0 t1 (RdL.below HU.out K.out.low) huo).mono ?_
  rintro e w2 ⟨T, A2, c2, vt, L, rfl, ht0, ht1, HBO, HLN, HSP, HV2, hb⟩
  have K2 := Lib.hid (((K.out.below hb).add HV2.out).box 0 rfl (.int .i64 T) (.slice A2 l.length c2) (by simp)).fst
  have k3 := Lib.hid (K.out.below hb)
  have x0c : w2.cell? ⟨w.heap.size, 0, none⟩ = some (.int .u8 x0) := (k3.out.blk 1 rfl).cell 0
  have x1c : w2.cell? ⟨w.heap.size, 1, none⟩ = some (.int .u8 x1) := (k3.out.blk 1 rfl).cell 1
  have x2c : w2.cell? ⟨w.heap.size, 2, none⟩ = some (.int .u8 x2) := (k3.out.blk 1 rfl).cell 2
  have x3c : w2.cell? ⟨w.heap.size, 3, none⟩ = some (.int .u8 x3) := (k3.out.blk 1 rfl).cell 3
  have b0 : w2.cell? ⟨w1.heap.size, 0, none⟩ = some (.int .i64 T0) := (k3.out.blk 0 rfl).cell 0
  have b1 : w2.cell? ⟨w1.heap.size, 1, none⟩ = some (.slice A1 l.length c1) := (k3.out.blk 0 rfl).cell 1
  have zb0 := (k3.out.blk 0 rfl).frozen 0
  have zb1 := (k3.out.blk 0 rfl).frozen 1
  have hsz2 : w1.heap.size < w2.heap.size := k3.out.lt 0 rfl
  clear hb HV2 K k3
  have k0 : 0 ≤ x0 % (l.length : Int) := Int.emod_nonneg _ (by omega)
  have k1 : x0 % (l.length : Int) < l.length := Int.emod_lt_of_pos _ (by omega)
  have j0 : 0 ≤ x1 % (l.length : Int) := Int.emod_nonneg _ (by omega)
  have j1 : x1 % (l.length : Int) < l.length := Int.emod_lt_of_pos _ (by omega)
  have n0 : 0 ≤ x2 % 40 := by omega
  have n1 : x2 % 40 ≤ 39 := by omega
  have m0 : 0 ≤ x3 % 40 := by omega
  have m1 : x3 % 40 ≤ 39 := by omega
  have hlz : ¬ ((l.length : Int) = 0) := by omega
  go_wp2
  go_quiet (fail)
  go_wp2_with fail
  have K := Lib.hid (K2.out.drewN nq)
  generalize ((w2.setCell ⟨w1.heap.size, 0, none⟩ (.int .i64 T)).setCell ⟨w1.heap.size, 1, none⟩ (.slice A2 l.length c2)).drewN nq = W at K ⊢
  clear K2 x0c x1c x2c x3c b0 b1 zb0 zb1 hw1 hw2 hw3 hw4 hlz
  generalize x0 % (l.length : Int) = ii at k0 k1 ⊢
  generalize x1 % (l.length : Int) = kk at j0 j1 ⊢
  generalize x2 % 40 = nn at n0 n1 ⊢
  generalize x3 % 40 = mm at m0 m1 ⊢
  obtain ⟨i, rfl⟩ := Int.eq_ofNat_of_zero_le k0
  obtain ⟨k, rfl⟩ := Int.eq_ofNat_of_zero_le j0
  refine (Tak_op T A2 l.length c2 L i nn W (K.out.own 0 rfl) (by rw [HLN.out]; omega)).mono ?_
  rintro e w3 ⟨T1, P1, N1, C1, L1, E1, rfl, HT1, HL1, HE1, HN1, HM1, HV1, hb⟩
  have K3 := Lib.hid (((K.out.below hb).add HV1.out).alloc 24 #[.int .i64 T1, .slice P1 N1 C1])
  have k3 := Lib.hid (K.out.below hb)
  have b0 : w3.cell? ⟨w1.heap.size, 0, none⟩ = some (.int .i64 T) := (k3.out.blk 0 rfl).cell 0
  have b1 : w3.cell? ⟨w1.heap.size, 1, none⟩ = some (.slice A2 l.length c2) := (k3.out.blk 0 rfl).cell 1
  have hsz3 : w1.heap.size < w3.heap.size := k3.out.lt 0 rfl
  clear K k3 hb HV1
  go_wp2_with fail
  refine (Tak_op T1 P1 N1 C1 L1 k mm _ (K3.out.own 0 rfl) HM1.out).mono ?_
  rintro e w4 ⟨T2, P2, N2, C2, L2, E2, rfl, HT2, HL2, HE2, HN2, HM2, HV2, hb⟩
  have K4 := Lib.hid (((K3.out.below hb).add HV2.out).box 0 rfl (.int .i64 T2) (.slice P2 N2 C2) (by simp))
  have k3 := Lib.hid (K3.out.below hb)
  have b0 : w4.cell? ⟨w1.heap.size, 0, none⟩ = some (.int .i64 T) := (k3.out.blk 1 rfl).cell 0
  have b1 : w4.cell? ⟨w1.heap.size, 1, none⟩ = some (.slice A2 l.length c2) := (k3.out.blk 1 rfl).cell 1
  have a0 : w4.cell? ⟨w3.heap.size, 0, none⟩ = some (.int .i64 T1) := (k3.out.blk 0 rfl).cell 0
  have a1 : w4.cell? ⟨w3.heap.size, 1, none⟩ = some (.slice P1 N1 C1) := (k3.out.blk 0 rfl).cell 1
  have z0 := (k3.out.blk 0 rfl).frozen 0
  have z1 := (k3.out.blk 0 rfl).frozen 1
  have hsz4 : w3.heap.size < w4.heap.size := k3.out.lt 0 rfl
  clear K3 k3 hb HV2
  go_wp2_with fail
  refine (Tak_op T A2 l.length c2 L k mm _ (K4.out.own 2 rfl) (by rw [HLN.out]; omega)).mono ?_
  rintro e w5 ⟨T3, P3, N3, C3, L3, E3, rfl, HT3, HL3, HE3, HN3, HM3, HV3, hb⟩
  have K5 := Lib.hid (((K4.out.below hb).add HV3.out).alloc 24 #[.int .i64 T3, .slice P3 N3 C3])
  have k3 := Lib.hid (K4.out.below hb)
  have b0 : w5.cell? ⟨w1.heap.size, 0, none⟩ = some (.int .i64 T) := (k3.out.blk 1 rfl).cell 0
  have b1 : w5.cell? ⟨w1.heap.size, 1, none⟩ = some (.slice A2 l.length c2) := (k3.out.blk 1 rfl).cell 1
  have hsz5 : w3.heap.size < w5.heap.size := k3.out.lt 0 rfl
  clear K4 k3 hb HV3 a0 a1 z0 z1
  go_wp2_with fail
  refine (Tak_op T3 P3 N3 C3 L3 i nn _ (K5.out.own 0 rfl) HM3.out).mono ?_
  rintro e w6 ⟨T4, P4, N4, C4, L4, E4, rfl, HT4, HL4, HE4, HN4, HM4, HV4, hb⟩
  have K6 := Lib.hid (((K5.out.below hb).add HV4.out).box 0 rfl (.int .i64 T4) (.slice P4 N4 C4) (by simp))
  have k3 := Lib.hid (K5.out.below hb)
  have a0 : w6.cell? ⟨w5.heap.size, 0, none⟩ = some (.int .i64 T3) := (k3.out.blk 0 rfl).cell 0
  have a1 : w6.cell? ⟨w5.heap.size, 1, none⟩ = some (.slice P3 N3 C3) := (k3.out.blk 0 rfl).cell 1
  have z0 := (k3.out.blk 0 rfl).frozen 0
  have z1 := (k3.out.blk 0 rfl).frozen 1
  have hsz6 : w5.heap.size < w6.heap.size := k3.out.lt 0 rfl
  have b0 : w6.cell? ⟨w1.heap.size, 0, none⟩ = some (.int .i64 T) := (k3.out.blk 2 rfl).cell 0
  have b1 : w6.cell? ⟨w1.heap.size, 1, none⟩ = some (.slice A2 l.length c2) := (k3.out.blk 2 rfl).cell 1
  have p0 : w6.cell? ⟨w3.heap.size, 0, none⟩ = some (.int .i64 T2) := (k3.out.blk 1 rfl).cell 0
  have p1 : w6.cell? ⟨w3.heap.size, 1, none⟩ = some (.slice P2 N2 C2) := (k3.out.blk 1 rfl).cell 1
  clear K5 k3 hb HV4
  have H12 : Hid (two T L i k nn mm ↔ E1 = 0 ∧ E2 = 0) := Lib.hid (by rw [HE1.out, HE2.out, HT1.out, HL1.out]; exact Iff.rfl)
  have H34 : Hid (two T L k i mm nn ↔ E3 = 0 ∧ E4 = 0) := Lib.hid (by rw [HE3.out, HE4.out, HT3.out, HL3.out]; exact Iff.rfl)
  have HC : Hid (two T L i k nn mm ↔ two T L k i mm nn) := Lib.hid (two_comm HBO.out (by rw [HLN.out]; omega) (by rw [HLN.out]; omega) n0 m0)
  by_cases htwo : two T L i k nn mm
  · obtain ⟨rfl, rfl⟩ := H12.out.1 htwo
    obtain ⟨rfl, rfl⟩ := H34.out.1 (HC.out.1 htwo)
    have HTWO := Lib.hid htwo
    clear htwo
    go_wp2_with fail
    have hil : i < L.length := by rw [HLN.out]; omega
    have hkl : k < L.length := by rw [HLN.out]; omega
    have hq := two_eq HBO.out hil hkl n0 m0 HTWO.out
    have hq' := two_eq HBO.out hkl hil m0 n0 (HC.out.1 HTWO.out)
    rw [← HT1.out, ← HL1.out, ← HT2.out, ← HL2.out] at hq
    rw [← HT3.out, ← HL3.out, ← HT4.out, ← HL4.out] at hq'
    have hT : T2 = T4 := hq.1.trans hq'.1.symm
    have hL : L2 = L4 := by rw [hq.2, hq'.2]; exact takeM_swap _ _ _ _ _
    have hlen2 : L2.length = l.length := by rw [hq.2]; simp [takeM_length, HLN.out]
    obtain rfl : N2 = l.length := by rw [← HN2.out]; exact hlen2
    have HSM : Hid (∀ W, RdB W P2 L2 → RdB W P4 L4 → Calls Try.prog 14 #[.agg #[.int .i64 T2, .slice P2 l.length C2], .agg #[.int .i64 T4, .slice P4 N4 C4]] W fun e w' => e = .returned (.bool true) ∧ Below W.heap.size W w') := by
      refine Lib.hid fun W h4 h5 => ?_
      have h := Same_any T2 P2 C2 L2 T4 P4 C4 L4 W h4 h5
      rw [← hT, ← hL, sameB_self, hlen2] at h
      rw [show N4 = l.length by rw [← HN4.out, ← hL]; exact hlen2, ← hT]
      exact h
    have HTOK : Hid (∀ j (h : j < L.length) (h' : j < L2.length), L2[j].tok = L[j].tok - (if j ∈ pathL (builtL l) i then nn else 0) - (if j ∈ pathL (builtL l) k then mm else 0)) := Lib.hid fun j h h' => two_tok HBO.out HSP.out hil hkl n0 m0 HTWO.out (by rw [← HT1.out, ← HL1.out]; exact HL2.out) h h'
    have HLEN2 := Lib.hid hlen2
    clear hq hq' hT hL hlen2 hil hkl H12 H34 HC HTWO HE1 HE2 HE3 HE4 HT1 HT2 HT3 HT4 HL1 HL2 HL3 HL4 HN2 HM1 HM2 HM3 HM4 HN1 HN3 HN4
    refine (HSM.out _ (OwL.rdA (K6.out.own 2 rfl)) (OwL.rdA (K6.out.own 0 rfl))).mono ?_
    rintro e w7 ⟨rfl, hb⟩
    have K7 := Lib.hid (K6.out.below hb)
    have b0 : w7.cell? ⟨w1.heap.size, 0, none⟩ = some (.int .i64 T) := (K7.out.blk 2 rfl).cell 0
    have b1 : w7.cell? ⟨w1.heap.size, 1, none⟩ = some (.slice A2 l.length c2) := (K7.out.blk 2 rfl).cell 1
    have p0 : w7.cell? ⟨w3.heap.size, 0, none⟩ = some (.int .i64 T2) := (K7.out.blk 1 rfl).cell 0
    have p1 : w7.cell? ⟨w3.heap.size, 1, none⟩ = some (.slice P2 l.length C2) := (K7.out.blk 1 rfl).cell 1
    clear hb K6 a0 a1 z0 z1 HSM
    go_wp2_with fail
    go_loopw [19] (fun j wr => ∃ q : Nat, q ≤ l.length ∧ j = .int .i64 q ∧ Hid (Below w7.heap.size w7 wr)) (fun j _ => l.length - (intOf j).toNat)
    case atStart => exact ⟨0, Nat.zero_le _, rfl, Lib.hid (Below.refl _ _)⟩
    case round =>
      obtain ⟨q, hq, rfl, HB⟩ := hrel
      have K8 := Lib.hid (K7.out.below HB.out)
      have b1 : wr.cell? ⟨w1.heap.size, 1, none⟩ = some (.slice A2 l.length c2) := (K8.out.blk 2 rfl).cell 1
      have p1 : wr.cell? ⟨w3.heap.size, 1, none⟩ = some (.slice P2 l.length C2) := (K8.out.blk 1 rfl).cell 1
      by_cases hlt : q < l.length
      · have hqL : q < L.length := by rw [HLN.out]; exact hlt
        have hqL2 : q < L2.length := by rw [HLEN2.out]; exact hlt
        have hA : RdB wr A2 L := OwL.rdA (K8.out.own 4 rfl)
        have hP : RdB wr P2 L2 := OwL.rdA (K8.out.own 2 rfl)
        obtain ⟨ad, rfl, _, _, _, tk⟩ := RdB.at_ hA hqL
        obtain ⟨ad2, rfl, _, _, _, tk2⟩ := RdB.at_ hP hqL2
        have hok := HBO.out.at_ q hqL
        have hr0 := hok.t0
        have hr1 : L[q].tok ≤ 1073741824 := Int.le_trans hok.t1 hok.b1
        have hv := HTOK.out q hqL hqL2
        rw [hv] at tk2
        generalize L[q].tok = X at tk tk2 hr0 hr1
        clear hv hok hA hP
        have hrd := Lib.hid (RdL.below HL.out K8.out.low)
        by_cases hm1 : q ∈ pathL (builtL l) i <;> by_cases hm2 : q ∈ pathL (builtL l) k
        all_goals
          have D1 : Hid (∀ b, b = decide (q ∈ pathL (builtL l) i) → b = _) := Lib.hid (fun b hb => hb.trans (by first | exact decide_eq_true hm1 | exact decide_eq_false hm1))
          have D2 : Hid (∀ b, b = decide (q ∈ pathL (builtL l) k) → b = _) := Lib.hid (fun b hb => hb.trans (by first | exact decide_eq_true hm2 | exact decide_eq_false hm2))
          first | rw [if_pos hm1, if_pos hm2] at tk2 | rw [if_pos hm1, if_neg hm2] at tk2 | rw [if_neg hm1, if_pos hm2] at tk2 | rw [if_neg hm1, if_neg hm2] at tk2
          clear hm1 hm2
          try simp only [Int.sub_zero] at tk2
          go_wp2_with fail
          refine (below_any A c l i q wr hrd.out hlo (by omega) (by omega)).mono ?_
          rintro e w8 ⟨rfl, hb⟩
          rw [D1.out _ rfl]
          have tk3 := cell_later hb tk2
          have HB2 := Lib.hid (HB.out.trans (hb.mono HB.out.size))
          clear hb K8 D1 tk tk2 hrd b1 p1
          go_wp2_with fail
          refine (below_any A c l k q w8 (RdL.below HL.out (K7.out.below HB2.out).low) hlo (by omega) (by omega)).mono ?_
          rintro e w9 ⟨rfl, hb⟩
          rw [D2.out _ rfl]
          have tk4 := cell_later hb tk3
          have HB3 := Lib.hid (HB2.out.trans (hb.mono HB2.out.size))
          clear hb D2 tk3 HB2
          have p1 : w9.cell? ⟨w3.heap.size, 1, none⟩ = some (.slice (some ad2) l.length C2) := ((K7.out.below HB3.out).blk 1 rfl).cell 1
          go_wp2
          go_roundw
          case rel => exact ⟨q + 1, by omega, by go_num, HB3⟩
          case measure => simp [intOf]; omega
      · go_wp2_with fail
        refine (awake_any _).mono ?_
        rintro e w8 ⟨rfl, hb⟩
        have K9 := Lib.hid (K8.out.below hb)
        clear hb K8
        go_wp2
        go_ret
        exact ⟨rfl, K9.out.low⟩
  · have hor : (E1 ≠ 0) ∨ (E1 = 0 ∧ E2 ≠ 0) := by
      by_cases h : E1 = 0
      · exact .inr ⟨h, fun h2 => htwo (H12.out.2 ⟨h, h2⟩)⟩
      · exact .inl h
    have hor2 : (E3 ≠ 0) ∨ (E3 = 0 ∧ E4 ≠ 0) := by
      by_cases h : E3 = 0
      · exact .inr ⟨h, fun h2 => htwo (HC.out.2 (H34.out.2 ⟨h, h2⟩))⟩
      · exact .inl h
    clear htwo
    rcases hor with e1 | ⟨rfl, e1⟩ <;> rcases hor2 with e3 | ⟨rfl, e3⟩
    all_goals
      replace e1 := bne_iff_ne.2 e1
      replace e3 := bne_iff_ne.2 e3
      go_wp2_with fail
      refine (awake_any _).mono ?_
      rintro e w7 ⟨rfl, hb⟩
      have K7 := Lib.hid (K6.out.below hb)
      clear hb K6
      go_wp2
      go_ret
      exact ⟨rfl, K7.out.low⟩
end Go.Proofs.Ytlgahhfpdomdmaa

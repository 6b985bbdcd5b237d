/- The walk through the law BudgetLimits. Conditions: the slices lie in memory as lists of plans and of uses, the three numbers are bytes. -/
import Derived.Test.YtlgahhfpdomdmaaCot
import Derived.Test.YtlgahhfpdomdmaaLwb
import Derived.Deep.QuietTactic
import Derived.BigQuiet
import Derived.Lib.QuietBelow
set_option linter.unusedVariables false
set_option linter.unusedSimpArgs false
namespace Go.Proofs.Ytlgahhfpdomdmaa
open Go.RowKit Go.Sort

set_option maxRecDepth 100000 in
set_option maxHeartbeats 4000000 in
theorem BudgetLimits_any (A : Option Addr) (c : Nat) (l : List Pl) (A' : Option Addr) (c' : Nat) (us : List Us) (x0 x1 x2 : Int) (w : World) (hl : RdP w A l) (hlo : ∀ x ∈ l, x.Ok) (hu : RdU w A' us) (huo : ∀ u ∈ us, u.Ok)
    (hx0 : 0 ≤ x0 ∧ x0 ≤ 255) (hx1 : 0 ≤ x1 ∧ x1 ≤ 255) (hx2 : 0 ≤ x2 ∧ x2 ≤ 255) :
    Calls Try.prog 7 #[.slice A l.length c, .slice A' us.length c', .agg #[.int .u8 x0, .int .u8 x1, .int .u8 x2]] w fun e w' => e = .returned (.bool true) ∧ Below w.heap.size w w' := by
  have hlen := hl.1
  have hlenu := hu.1
  have HL := Lib.hid hl
  have HU := Lib.hid hu
  clear hl hu
  obtain ⟨x00, x01⟩ := hx0
  obtain ⟨x10, x11⟩ := hx1
  obtain ⟨x20, x21⟩ := hx2
  by_cases hz : l.length = 0
  · have hz0 : ((l.length : Int) == 0) = true := by simp [hz]
    have HZ := Lib.hid hz
    clear hz
    go_enter Try.func7, Try.ntmps7
    go_wp2_with fail
    refine (awake_any _).mono ?_
    rintro e w1 ⟨rfl, hb⟩
    go_wp2
    go_ret
    exact ⟨rfl, ((Below.refl _ w).alloc (Nat.le_refl _) _).trans (hb.mono (by simp))⟩
  have hz0 : ((l.length : Int) == 0) = false := beq_eq_false_iff_ne.2 (by omega)
  by_cases h8 : 8 < l.length
  · have h80 : decide (8 < l.length) = true := by simpa using h8
    go_enter Try.func7, Try.ntmps7
    go_wp2_with fail
    refine (awake_any _).mono ?_
    rintro e w1 ⟨rfl, hb⟩
    go_wp2
    go_ret
    exact ⟨rfl, ((Below.refl _ w).alloc (Nat.le_refl _) _).trans (hb.mono (by simp))⟩
  have h80 : decide (8 < l.length) = false := by simpa using h8
  by_cases hzu : us.length = 0
  · have hz1 : ((us.length : Int) == 0) = true := by simp [hzu]
    have HZ := Lib.hid hzu
    clear hzu
    go_enter Try.func7, Try.ntmps7
    go_wp2_with fail
    refine (awake_any _).mono ?_
    rintro e w1 ⟨rfl, hb⟩
    go_wp2
    go_ret
    exact ⟨rfl, ((Below.refl _ w).alloc (Nat.le_refl _) _).trans (hb.mono (by simp))⟩
  have hz1 : ((us.length : Int) == 0) = false := beq_eq_false_iff_ne.2 (by omega)
  by_cases h20 : 20 < us.length
  · have h200 : decide (20 < us.length) = true := by simpa using h20
    go_enter Try.func7, Try.ntmps7
    go_wp2_with fail
    refine (awake_any _).mono ?_
    rintro e w1 ⟨rfl, hb⟩
    go_wp2
    go_ret
    exact ⟨rfl, ((Below.refl _ w).alloc (Nat.le_refl _) _).trans (hb.mono (by simp))⟩
  have h200 : decide (20 < us.length) = false := by simpa using h20
  have h0 : 0 < l.length := by omega
  have hw1 : IntKind.i64.wrap x0 = x0 := IntWalk.i64_in _ (by omega)
  have hw2 : IntKind.i64.wrap x1 = x1 := IntWalk.i64_in _ (by omega)
  have hw3 : IntKind.i64.wrap x2 = x2 := IntWalk.i64_in _ (by omega)
  go_enter Try.func7, Try.ntmps7
  go_wp2_with fail
  refine (built_op _ _ _ _ (HL.out.alloc _) hlo (by omega)).mono ?_
  rintro e w1 ⟨T0, A1, c1, L0, rfl, t0, t1, HLB, HV, hb⟩
  have K := Lib.hid (((((Known.start w).alloc 49 #[.int .u8 x0, .int .u8 x1, .int .u8 x2]).below hb).add HV.out).alloc 24 #[.int .i64 T0, .slice A1 l.length c1])
  have hsz : w.heap.size < w1.heap.size := by have := hb.size; simp at this; omega
  clear hb HV
  go_wp2_with fail
  refine (used_tk T0 _ A1 l.length c1 l L0 A' c' us _ (K.out.own 0 rfl) (by simp; omega) HLB.out rfl (by omega) h0 t0 t1 (RdL.below HU.out K.out.low) huo (by omega)).mono ?_
  rintro e w2 ⟨b, A2, c2, TK, rfl, ⟨bu, A3, n3, c3, rfl⟩, HTL, HTO, HLIM, HV2, hb⟩
  have K2 := Lib.hid (((K.out.below hb).add HV2.out).alloc 24 #[.int .i64 bu, .slice A3 n3 c3])
  have k3 := Lib.hid (K.out.below hb)
  have x0c : w2.cell? ⟨w.heap.size, 0, none⟩ = some (.int .u8 x0) := (k3.out.blk 1 rfl).cell 0
  have x1c : w2.cell? ⟨w.heap.size, 1, none⟩ = some (.int .u8 x1) := (k3.out.blk 1 rfl).cell 1
  have x2c : w2.cell? ⟨w.heap.size, 2, none⟩ = some (.int .u8 x2) := (k3.out.blk 1 rfl).cell 2
  have hsz2 : w.heap.size < w2.heap.size := k3.out.lt 1 rfl
  clear hb HV2 K k3
  have k0 : 0 ≤ x0 % (us.length : Int) := Int.emod_nonneg _ (by omega)
  have k1 : x0 % (us.length : Int) < us.length := Int.emod_lt_of_pos _ (by omega)
  have j0 : 0 ≤ x1 % (us.length : Int) := Int.emod_nonneg _ (by omega)
  have j1 : x1 % (us.length : Int) < us.length := Int.emod_lt_of_pos _ (by omega)
  have n0 : 0 ≤ x2 % (l.length : Int) := Int.emod_nonneg _ (by omega)
  have n1 : x2 % (l.length : Int) < l.length := Int.emod_lt_of_pos _ (by omega)
  have hlz : ¬ ((l.length : Int) = 0) := by omega
  have hlu : ¬ ((us.length : Int) = 0) := by omega
  go_wp2
  go_quiet (fail)
  have K := Lib.hid (K2.out.drewN nq).low
  have HK2 := Lib.hid ((K2.out.drewN nq).own 0 rfl)
  generalize (w2.alloc (.cells #[.int .i64 bu, .slice A3 n3 c3] 24)).drewN nq = W at K HK2 ⊢
  have HKT : Hid (RdK W A2 TK) := Lib.hid (OwL.rdA HK2.out)
  clear K2 HK2 x0c x1c x2c hw1 hw2 hw3 hlz hlu
  generalize x0 % (us.length : Int) = ii at k0 k1 ⊢
  generalize x1 % (us.length : Int) = kk at j0 j1 ⊢
  generalize x2 % (l.length : Int) = aa at n0 n1 ⊢
  obtain ⟨i, rfl⟩ := Int.eq_ofNat_of_zero_le k0
  obtain ⟨k, rfl⟩ := Int.eq_ofNat_of_zero_le j0
  obtain ⟨a, rfl⟩ := Int.eq_ofNat_of_zero_le n0
  by_cases hik : k < i
  case' pos =>
    have hd : decide (k < i) = true := by simpa using hik
    go_wp2_with fail
    obtain ⟨lo, rfl⟩ : ∃ lo, lo = k := ⟨_, rfl⟩
    obtain ⟨hi, rfl⟩ : ∃ hi, hi = i := ⟨_, rfl⟩
    have hle : lo ≤ hi := by omega
  case' neg =>
    have hd : decide (k < i) = false := by simpa using hik
    go_wp2_with fail
    obtain ⟨hi, rfl⟩ : ∃ hi, hi = k := ⟨_, rfl⟩
    obtain ⟨lo, rfl⟩ : ∃ lo, lo = i := ⟨_, rfl⟩
    have hle : lo ≤ hi := by omega
  all_goals
    have hlu : lo < us.length := by omega
    have hhu : hi < us.length := by omega
    have hal : a < l.length := by omega
    clear hik hd
    go_loopw [14, 15] (fun t j wr => ∃ q : Nat, lo ≤ q ∧ q ≤ hi + 1 ∧ j = .int .i64 q ∧ t = .int .i64 (sumT (builtL l) a ((TK.drop lo).take (q - lo))) ∧ Hid (Below W.heap.size W wr)) (fun _ j _ => hi + 1 - (intOf j).toNat)
    case atStart => exact ⟨lo, Nat.le_refl _, by omega, rfl, by simp [sumT], Lib.hid (Below.refl _ _)⟩
    case round =>
      obtain ⟨q, hq0, hq1, rfl, rfl, HB⟩ := hrel
      by_cases hlt : q ≤ hi
      · have hqT : q < TK.length := by rw [HTL.out]; omega
        obtain ⟨ad, rfl, _, tk1, tk2⟩ := RdK.at_ (RdL.below HKT.out HB.out) hqT
        have hok := HTO.out TK[q] (List.getElem_mem hqT)
        obtain ⟨bk, hbk, hbl⟩ := hok.b
        rw [hbk] at tk1
        have hn0 := hok.n0
        have hn1 := hok.n1
        have hnext := sumT_next (L0 := builtL l) (a := a) hq0 hqT
        have hlen1 : ((TK.drop lo).take (q - lo)).length ≤ 20 := by simp; omega
        have hS := sumT_bound (L0 := builtL l) (a := a) (l := (TK.drop lo).take (q - lo)) (fun x hx => by have := HTO.out x (List.mem_of_mem_drop (List.mem_of_mem_take hx)); exact ⟨this.n0, this.n1⟩)
        unfold thru at hnext
        rw [hbk] at hnext
        have hd1 : decide (q ≤ hi) = true := by simpa using hlt
        obtain ⟨S, hSe⟩ : ∃ S, S = sumT (builtL l) a ((TK.drop lo).take (q - lo)) := ⟨_, rfl⟩
        rw [← hSe] at hS hnext ⊢
        obtain ⟨hS0, hS1⟩ := hS
        have hS2 : S ≤ 1073741824 * 20 := by omega
        generalize TK[q].n = X at tk2 hn0 hn1 hnext
        clear hok hbk hSe hS1 hlen1
        have hrd := Lib.hid (RdL.below HL.out (K.out.trans (HB.out.mono K.out.size)))
        by_cases hm1 : a ∈ pathL (builtL l) bk
        all_goals
          first | rw [if_pos hm1] at hnext | rw [if_neg hm1] at hnext
          have HN := Lib.hid hnext
          have D1 : Hid (∀ b, b = decide (a ∈ pathL (builtL l) bk) → b = _) := Lib.hid (fun b hb => hb.trans (by first | exact decide_eq_true hm1 | exact decide_eq_false hm1))
          clear hm1 hnext
          go_wp2_with fail
          refine (below_any A c l bk a wr hrd.out hlo (by omega) (by omega)).mono ?_
          rintro e w8 ⟨rfl, hb⟩
          rw [D1.out _ rfl]
          have tk3 := cell_later hb tk2
          have HB2 := Lib.hid (HB.out.trans (hb.mono HB.out.size))
          clear hb D1 tk1 tk2 hrd
          have hw9 : IntKind.i64.wrap (S + X) = S + X := IntWalk.i64_in _ (by omega)
          go_wp2
          go_roundw
          case rel => exact ⟨q + 1, by omega, by omega, by go_num, by first | (rw [HN.out]; done) | (rw [HN.out]; simp; done), HB2⟩
          case measure => simp [intOf]; omega
      · have hqe : q = hi + 1 := by omega
        have hhT : hi < TK.length := by rw [HTL.out]; omega
        have hlT : lo < TK.length := by rw [HTL.out]; omega
        have hlim := HLIM.out a hal lo hi hle hhT hlT
        rw [← hqe] at hlim
        obtain ⟨ad, e, th, _, _⟩ := RdK.at_ (RdL.below HKT.out HB.out) hhT
        obtain ⟨ad', e', tl, _, _⟩ := RdK.at_ (RdL.below HKT.out HB.out) hlT
        obtain rfl : ad = ad' := by rw [e] at e'; injection e'
        obtain ⟨ap, ea, _, pr, pb⟩ := RdP.at_ (RdL.below HL.out (K.out.trans (HB.out.mono K.out.size))) hal
        subst e ea
        have ho := HTO.out TK[hi] (List.getElem_mem hhT)
        have ho' := HTO.out TK[lo] (List.getElem_mem hlT)
        have h1 := ho.t0
        have h2 := ho.t1
        have h3 := ho'.t0
        have h4 := ho'.t1
        obtain ⟨_, ⟨r0, r1⟩, b0, b1⟩ := hlo l[a] (List.getElem_mem hal)
        have hlen1 : ((TK.drop lo).take (q - lo)).length ≤ 20 := by simp; omega
        have hS := sumT_bound (L0 := builtL l) (a := a) (l := (TK.drop lo).take (q - lo)) (fun x hx => by have := HTO.out x (List.mem_of_mem_drop (List.mem_of_mem_take hx)); exact ⟨this.n0, this.n1⟩)
        obtain ⟨S, hSe⟩ : ∃ S, S = sumT (builtL l) a ((TK.drop lo).take (q - lo)) := ⟨_, rfl⟩
        rw [← hSe] at hS hlim ⊢
        obtain ⟨hS0, hS1⟩ := hS
        have hd1 : decide (q ≤ hi) = false := by simpa using hlt
        clear hSe hS1 hlen1 ho ho' hqe
        generalize TK[hi].time = t1 at th h1 h2 hlim
        generalize TK[lo].time = t2 at tl h3 h4 hlim
        generalize l[a].rate = R at pr r0 r1 hlim
        generalize l[a].burst = B at pb b0 b1 hlim
        have m1 : IntKind.u8.wrap (R.tmod 20) = R % 20 := by rw [Int.tmod_eq_emod_of_nonneg r0]; exact IntWalk.u8_in _ (by omega)
        have m2 : IntKind.u8.wrap (B.tmod 60) = B % 60 := by rw [Int.tmod_eq_emod_of_nonneg b0]; exact IntWalk.u8_in _ (by omega)
        have m3 : IntKind.i64.wrap (R % 20) = R % 20 := IntWalk.i64_in _ (by omega)
        have m4 : IntKind.i64.wrap (B % 60) = B % 60 := IntWalk.i64_in _ (by omega)
        have m5 : IntKind.i64.wrap (t1 - t2) = t1 - t2 := IntWalk.i64_in _ (by omega)
        have hp1 : R % 20 * (t1 - t2) ≤ 2000 := by
          have := Int.mul_le_mul_of_nonneg_left (show t1 - t2 ≤ 100 by omega) (show 0 ≤ R % 20 by omega)
          omega
        have hp2 : -2000 ≤ R % 20 * (t1 - t2) := by
          have := Int.mul_le_mul_of_nonneg_left (show -100 ≤ t1 - t2 by omega) (show 0 ≤ R % 20 by omega)
          omega
        have m6 : IntKind.i64.wrap (R % 20 * (t1 - t2)) = R % 20 * (t1 - t2) := IntWalk.i64_in _ (by omega)
        have m7 : IntKind.i64.wrap (B % 60 + R % 20 * (t1 - t2)) = B % 60 + R % 20 * (t1 - t2) := IntWalk.i64_in _ (by omega)
        have m8 : decide (S ≤ B % 60 + R % 20 * (t1 - t2)) = true := by simpa using hlim
        have hi0 : 0 ≤ (hi : Int) := by omega
        have hal' : (a : Int) < l.length := by omega
        have hhu' : (hi : Int) < us.length := by omega
        have hlu' : (lo : Int) < us.length := by omega
        have HVAL : Hid (decide (S ≤ IntKind.i64.wrap (IntKind.i64.wrap (B.tmod 60) + IntKind.i64.wrap (IntKind.i64.wrap (R.tmod 20) * (t1 - t2)))) = true) := by
          rw [Int.tmod_eq_emod_of_nonneg r0, Int.tmod_eq_emod_of_nonneg b0, m3, m4, m6, m7]
          exact Lib.hid m8
        have hcall : ∀ d os, Calls Try.prog 11 #[] (grow (redrawn wr d) os) fun e w'' => e = .returned (.bool true) ∧ ∃ p : Regrown, w'' = grow (redrawn wr p.d) p.os := fun d os => Calls.regrown_of (awake_any _)
        have th' := fun d os => cell_regrown th d os
        have tl' := fun d os => cell_regrown tl d os
        have pr' := fun d os => cell_regrown pr d os
        have pb' := fun d os => cell_regrown pb d os
        clear hlim hp1 hp2 th tl pr pb
        go_wp2_with fail
        refine wp_region_quiet_below (by kernel_rfl) (by kernel_rfl) ?_
        repeat (quiet_step (exact hcall _ _))
        refine wpQuiet_nil ?_
        intro _ hw'
        obtain ⟨⟨dq, osq⟩, hw''⟩ := hw'
        subst hw''
        have HFIN := Lib.hid (K.out.trans ((HB.out.trans ((below_regrown wr dq osq).mono HB.out.size)).mono K.out.size))
        clear th' tl' pr' pb' hcall
        go_wp2
        go_ret
        exact ⟨congrArg (fun b => Ending.returned (Value.bool b)) HVAL.out, HFIN.out⟩
end Go.Proofs.Ytlgahhfpdomdmaa

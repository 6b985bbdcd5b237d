/- The walk through the reference's When: what it computes. Condition: the slice lies in memory as a list. -/
import Derived.Test.YtlgahhfpdomdmaaRfG
set_option linter.unusedVariables false
set_option linter.unusedSimpArgs false
namespace Go.Proofs.Ytlgahhfpdomdmaa
open Go.RowKit

set_option maxHeartbeats 2000000 in
theorem rWhen_any (t : Int) (A : Option Addr) (c : Nat) (l : List Bk) (k n : Int) (w : World) (hl : RdB w A l) (hn62 : n ≤ 9223372036854775807) :
    Calls Try.prog 24 #[.agg #[.int .i64 t, .slice A l.length c], .int .i64 k, .int .i64 n] w (WhnPost w t l k n) := by
  have hlen := hl.1
  have HL := Lib.hid hl
  clear hl
  go_enter Try.func24, Try.ntmps24
  go_wp2_with fail
  refine (exists_any _ _ _ _ _ _ ((HL.out).alloc _)).mono ?_
  rintro e w1 ⟨rfl, hb⟩
  have hK0 : Blk w1 w.heap.size 24 #[.int .i64 t, .slice A l.length c] := (Blk.new w 24 _).below hb (by simp)
  have hB0 : Below w.heap.size w w1 := ((Below.refl _ w).alloc (Nat.le_refl _) _).trans (hb.mono (by simp))
  have k0 : w1.cell? ⟨w.heap.size, 0, none⟩ = some (.int .i64 t) := hK0.cell 0
  have k1 : w1.cell? ⟨w.heap.size, 1, none⟩ = some (.slice A l.length c) := hK0.cell 1
  have HL1 := Lib.hid (((HL.out).alloc (.cells #[.int .i64 t, .slice A l.length c] 24)).below hb)
  have HK := Lib.hid hK0
  have HB := Lib.hid hB0
  clear hK0 hB0 hb
  by_cases hc : findE t l k = 0
  · have hcb : (findE t l k != 0) = false := by simp [hc]
    have hf := findE_zero.1 hc
    have HC := Lib.hid hc
    obtain ⟨j, rfl⟩ := Int.eq_ofNat_of_zero_le hf.2.1
    have hj : j < l.length := by omega
    have HF := Lib.hid hf.1
    clear hc hf
    by_cases h1 : n < 0
    · have E1 := Lib.hid (show whnE t l j n = 1 by unfold whnE; rw [if_pos HC.out, if_pos h1])
      go_wp2
      go_ret2
      exact whn_err E1.out (by omega) HB.out
    go_wp2_with fail
    refine (rPath_any _ _ _ _ j _ HL1.out HF.out.up hj HF.out.len).mono ?_
    rintro e w2 ⟨v, rfl, hv, hb2⟩
    obtain ⟨A1, c1, rfl, _, _, hr⟩ := OwL.rd hv
    have hB2 := HB.out.trans (hb2.mono HB.out.size)
    have hK2 := HK.out.below hb2 HK.out.lt
    have HR2 := Lib.hid hr
    have HK2 := Lib.hid hK2
    have HB2 := Lib.hid hB2
    obtain ⟨p, hp⟩ : ∃ p, p = pathL l j := ⟨_, rfl⟩
    rw [← hp] at HR2
    have hpl : p.length ≤ 65 := by have := pathL_len l j; have := HF.out.len; rw [hp]; omega
    have hpl2 : (pathL l ↑j).length = p.length := by rw [hp]
    have HPL := Lib.hid (show ∀ x ∈ p, x < l.length from fun x hx => by rw [hp] at hx; exact (pathL_lt HF.out.up (j + 1) _ (by omega) (by omega) x hx).1)
    have HP := Lib.hid hp
    have ht0 := HF.out.t0
    have ht1 := HF.out.t1
    clear HK HB hK2 hB2 hb2 hr hv hp k0 k1
    go_wp2
    go_loopw [10, 11] (fun s i wr => ∃ (q : Nat) (v : Int), q ≤ p.length ∧ i = .int .i64 q ∧ s = .int .i64 v ∧ (0 ≤ v ∧ v ≤ 2147483648) ∧ Hid (waitL l n (p.take q) 0 = some v) ∧ Hid (RdI wr A1 p) ∧ Hid (Blk wr w.heap.size 24 #[.int .i64 t, .slice A l.length c]) ∧ Hid (Below w.heap.size w wr)) (fun _ i _ => p.length - (intOf i).toNat)
    case atStart => exact ⟨0, 0, by omega, rfl, rfl, by omega, Lib.hid rfl, HR2, HK2, HB2⟩
    case round =>
      obtain ⟨q, v, hq, rfl, rfl, hv2, HV, HR, HK, HB⟩ := hrel
      clear HK2 HB2 HR2
      have hs1 : w.heap.size < wr.heap.size := HK.out.lt
      have b0 : wr.cell? ⟨w.heap.size, 0, none⟩ = some (.int .i64 t) := HK.out.cell 0
      have hv3 := hv2.1
      have hv4 := hv2.2
      by_cases hlt : q < p.length
      · obtain ⟨ap, rfl, g0⟩ := RdI.at_ HR.out hlt
        have hx := HPL.out p[q] (List.getElem_mem hlt)
        obtain ⟨ad, rfl, f0, f1, f2, f3⟩ := RdB.at_ (RdL.below HL.out HB.out) hx
        have b1 : wr.cell? ⟨w.heap.size, 1, none⟩ = some (.slice (some ad) l.length c) := HK.out.cell 1
        have HX := Lib.hid (bkAt_eq hx)
        have hap : (ap.add q).block < wr.heap.size := World.block_lt_of_cell? wr _ g0
        have had : (ad.add (p[q] * 4)).block < wr.heap.size := World.block_lt_of_cell? wr _ f0
        have HT := Lib.hid (List.take_succ_eq_append_getElem hlt)
        obtain ⟨i, hi⟩ : ∃ i, i = p[q] := ⟨_, rfl⟩
        obtain ⟨x, hxx⟩ : ∃ x, x = l[p[q]] := ⟨_, rfl⟩
        have ok := HF.out.at_ p[q] hx
        have q0 := ok.t0
        have q1 := ok.t1
        have q2 := ok.b1
        have q3 := ok.r0
        have q4 := ok.r1
        have HRW := Lib.hid ((HR.out.alloc (.cells x.cells.toArray 64)).below (Below.refl _ _).drew)
        have HBW := Lib.hid (HB.out.alloc HB.out.size (.cells x.cells.toArray 64)).drew
        have HKW := Lib.hid (HK.out.alloc (.cells x.cells.toArray 64))
        have HXX := Lib.hid hxx
        clear ok hxx hi
        by_cases h2 : n ≤ l[p[q]].tok
        · have HWS := Lib.hid (show waitStep l n v p[q] = some v by unfold waitStep; rw [HX.out, if_pos h2])
          go_wp2
          go_region
          all_goals
            go_wp2
            go_roundw
            case rel =>
              exact ⟨q + 1, v, by omega, by go_num, rfl, hv2, Lib.hid (by rw [HT.out, waitL_snoc, HV.out]; exact HWS.out), Lib.hid (HXX.out ▸ HRW.out), Lib.hid (HXX.out ▸ HKW.out), Lib.hid (HXX.out ▸ HBW.out)⟩
            case measure => simp [intOf]; omega
        have hm1 : 0 < n - l[p[q]].tok := by omega
        by_cases h3 : l[p[q]].burst < n
        · have HWS := Lib.hid (show waitStep l n v p[q] = none by unfold waitStep; rw [HX.out, if_neg (by omega), if_pos (.inl h3)])
          have E1 := Lib.hid (show whnE t l j n = 21 by
            have h5 : waitL l n (pathL l j) 0 = none := by
              rw [← HP.out, ← List.take_append_drop (q + 1) p, waitL_append, HT.out, waitL_snoc, HV.out, Option.bind_some, HWS.out]; rfl
            unfold whnE; rw [if_pos HC.out, if_neg (by omega), h5])
          go_wp2
          go_region
          all_goals
            go_wp2
            go_ret2
            exact whn_err E1.out (by omega) (HXX.out ▸ HBW.out)
        have hd3 : decide (l[p[q]].burst < n) = false := by simp; omega
        by_cases h4 : l[p[q]].rate = 0
        · have HWS := Lib.hid (show waitStep l n v p[q] = none by unfold waitStep; rw [HX.out, if_neg (by omega), if_pos (.inr h4)])
          have E1 := Lib.hid (show whnE t l j n = 21 by
            have h5 : waitL l n (pathL l j) 0 = none := by
              rw [← HP.out, ← List.take_append_drop (q + 1) p, waitL_append, HT.out, waitL_snoc, HV.out, Option.bind_some, HWS.out]; rfl
            unfold whnE; rw [if_pos HC.out, if_neg (by omega), h5])
          have hrb : (l[p[q]].rate == 0) = true := by simp [h4]
          clear h4
          go_wp2
          go_region
          all_goals
            go_wp2
            go_ret2
            exact whn_err E1.out (by omega) (HXX.out ▸ HBW.out)
        have hr1 : 1 ≤ l[p[q]].rate := by omega
        have hrb : (l[p[q]].rate == 0) = false := by simp [h4]
        have hws : waitStep l n v p[q] = some (max v ((n - l[p[q]].tok + l[p[q]].rate - 1) / l[p[q]].rate)) := by unfold waitStep; rw [HX.out, if_neg (by omega), if_neg (by omega)]
        have hv5 := waitStep_le HF.out hx hv2 hws
        have HWS := Lib.hid hws
        have HV5 := Lib.hid hv5
        have hp : 0 ≤ n - l[p[q]].tok + l[p[q]].rate - 1 := by omega
        have hq0 := Int.ediv_nonneg hp q3
        have hq1 := Int.ediv_le_self l[p[q]].rate hp
        have hw3 : (n - l[p[q]].tok + l[p[q]].rate - 1).tdiv l[p[q]].rate = (n - l[p[q]].tok + l[p[q]].rate - 1) / l[p[q]].rate := Int.tdiv_eq_ediv_of_nonneg hp
        clear hws hv5 h4
        go_wp2
        go_region
        all_goals
          go_wp2
          go_roundw
          case rel =>
            refine ⟨q + 1, max v ((n - l[p[q]].tok + l[p[q]].rate - 1) / l[p[q]].rate), by omega, by go_num, ?_, HV5.out, Lib.hid (by rw [HT.out, waitL_snoc, HV.out]; exact HWS.out), Lib.hid (HXX.out ▸ HRW.out), Lib.hid (HXX.out ▸ HKW.out), Lib.hid (HXX.out ▸ HBW.out)⟩
            congr 1
            omega
          case measure => simp [intOf]; omega
      · obtain rfl : q = p.length := by omega
        have HVV := Lib.hid (show waitL l n (pathL l j) 0 = some v by rw [← HP.out]; simpa using HV.out)
        by_cases h3 : 1073741824 < t + v
        · have E1 := Lib.hid (show whnE t l j n = 21 by unfold whnE; rw [if_pos HC.out, if_neg (by omega), HVV.out]; exact if_pos h3)
          have hd1 : 1073741824 - t < v := by omega
          go_wp2
          go_ret2
          exact whn_err E1.out (by omega) HB.out
        · have E1 := Lib.hid (show whnE t l j n = 0 by unfold whnE; rw [if_pos HC.out, if_neg (by omega), HVV.out]; exact if_neg h3)
          have HT := Lib.hid (show whnT t l j n = t + v by unfold whnT; rw [E1.out, if_pos rfl, HVV.out]; rfl)
          go_wp2
          go_ret2
          exact ⟨by rw [HT.out, E1.out]; rfl, HB.out⟩
  · have hcb : (findE t l k != 0) = true := by simp [hc]
    have E1 := Lib.hid (show whnE t l k n = findE t l k by unfold whnE; rw [if_neg hc])
    have HC := Lib.hid hc
    clear hc
    go_wp2
    go_ret2
    exact whn_err E1.out HC.out HB.out
end Go.Proofs.Ytlgahhfpdomdmaa

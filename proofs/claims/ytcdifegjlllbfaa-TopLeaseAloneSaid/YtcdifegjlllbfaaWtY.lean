/- The walk through TopLeaseAlone. Conditions: two bytes, the steps lie in memory as a list. -/
import Derived.Test.YtcdifegjlllbfaaWtW
import Derived.Test.YtcdifegjlllbfaaWtQ
set_option linter.unusedVariables false
set_option linter.unusedSimpArgs false
namespace Go.Proofs.Ytcdifegjlllbfaa
open Go.RowKit
def eSt : Enc Sp3 := ⟨3, by decide, fun x => [.int .i64 x.ki, .int .i64 x.si, .int .i64 x.wh], fun _ => rfl, by intro x u hu; simp at hu; rcases hu with rfl | rfl | rfl <;> rfl⟩
theorem RdL.st {w : World} {A : Option Addr} {l : List Sp3} (h : RdL eSt w A l) {k : Nat} (hk : k < l.length) : ∃ ad, A = some ad ∧ w.cell? (ad.add (k * 3)) = some (.int .i64 l[k].ki) ∧ w.cell? ⟨(ad.add (k * 3)).block, (ad.add (k * 3)).off + 1, none⟩ = some (.int .i64 l[k].si) ∧ w.cell? ⟨(ad.add (k * 3)).block, (ad.add (k * 3)).off + 2, none⟩ = some (.int .i64 l[k].wh) := by
  obtain ⟨ad, e, hc⟩ := RdL.at_ h hk
  replace hc : ∀ j u, [Value.int .i64 l[k].ki, .int .i64 l[k].si, .int .i64 l[k].wh][j]? = some u → w.cell? (ad.add (k * 3 + j)) = some u := hc
  exact ⟨ad, e, hc 0 _ rfl, by rw [← add_field _ _ 1 (by omega)]; exact hc 1 _ rfl, by rw [← add_field _ _ 2 (by omega)]; exact hc 2 _ rfl⟩
/-- The run after k steps. -/
def runK (term margin : Int) (l : List Sp3) (k : Nat) : St := (l.take k).foldl stepS (stK term margin 3)
theorem runK_zero (term margin : Int) (l : List Sp3) : runK term margin l 0 = stK term margin 3 := rfl
theorem runK_succ (term margin : Int) {l : List Sp3} {k : Nat} (h : k < l.length) : runK term margin l (k + 1) = stepS (runK term margin l k) l[k] := by
  unfold runK
  rw [List.take_succ_eq_append_getElem h, List.foldl_append]
  rfl
theorem runK_inv {term margin : Int} (ht : 0 ≤ term) (hm : 0 ≤ margin) {l : List Sp3} (hl : l.length ≤ 60) : ∀ k, k ≤ l.length → ∃ gr, Inv (3 * (k : Int)) k gr (runK term margin l k)
  | 0, _ => ⟨_, inv_start term margin ht hm⟩
  | k + 1, h => by
    obtain ⟨gr, hi⟩ := runK_inv ht hm hl k (by omega)
    obtain ⟨gr', h1, _⟩ := inv_step hi (by omega) l[k]
    rw [runK_succ term margin (by omega)]
    exact ⟨gr', h1⟩
set_option maxRecDepth 10000 in
set_option maxHeartbeats 4000000 in
theorem TopLeaseAlone_any (term margin : Int) (A : Option Addr) (c : Nat) (l : List Sp3) (w : World) (ht0 : 0 ≤ term) (ht1 : term < 256) (hm0 : 0 ≤ margin) (hm1 : margin < 256) (hr : RdL eSt w A l) :
    Calls Try.prog 3 #[.int .u8 term, .int .u8 margin, .slice A l.length c] w fun e w' => e = .returned (.bool true) ∧ Below w.heap.size w w' := by
  have hlen := hr.1
  have HR := Lib.hid hr
  have HINV := Lib.hid (fun (hl : l.length ≤ 60) => runK_inv (l := l) ht0 hm0 hl)
  clear hr
  go_enter Try.func3, Try.ntmps3
  go_wp2_with fail
  refine (granted_any term margin _ ht0 ht1 hm0 hm1).mono ?_
  rintro e w1 ⟨g, rfl, hl, hb⟩
  have HL := Lib.hid hl
  have HB := Lib.hid hb
  clear hl hb
  by_cases h60 : 60 < l.length
  · go_wp2_with fail
    go_ret
    exact ⟨rfl, HB.out⟩
  · go_wp2_with fail
    go_loopw [24] (fun i wr => ∃ k : Nat, k ≤ l.length ∧ i = .int .i64 k ∧ Hid (Lies w.heap.size wr g (runK term margin l k)) ∧ Hid (Below w.heap.size w wr)) (fun i _ => l.length - (intOf i).toNat)
    case atStart => exact ⟨0, Nat.zero_le _, rfl, HL, HB⟩
    case round =>
      clear HL HB
      obtain ⟨k, hk, rfl, HV, HBW⟩ := hrel
      by_cases hlt : k < l.length
      · obtain ⟨ad, rfl, d0, d1, d2⟩ := RdL.st (RdL.below HR.out HBW.out) hlt
        have HRS := Lib.hid (runK_succ term margin hlt)
        obtain ⟨gr, hinv⟩ := HINV.out (by omega) k hk
        obtain ⟨gr', hi1, hi2, hi3, hi4⟩ := inv_step hinv (by omega) l[k]
        obtain ⟨x, hx⟩ : ∃ x, x = l[k] := ⟨_, rfl⟩
        rw [← hx] at d0 d1 d2 HRS hi1 hi3
        have HOK := Lib.hid (hinv.ok (by omega) (by omega))
        have HSB := Lib.hid hi3
        have hal := hi1.alone
        have hok' := hi1.ok (by omega) (by omega)
        rw [← HRS.out] at hal hok'
        have HAL := Lib.hid hal
        have HOK' := Lib.hid hok'
        have hb1 : Below w.heap.size w (wr.alloc (.cells #[.int .i64 x.ki, .int .i64 x.si, .int .i64 x.wh] 27)) := HBW.out.alloc HBW.out.size _
        have hv1 : Lies w.heap.size (wr.alloc (.cells #[.int .i64 x.ki, .int .i64 x.si, .int .i64 x.wh] 27)) g (runK term margin l k) := by
          obtain ⟨vL, vR, vA, h⟩ := HV.out
          exact ⟨vL, vR, vA, h.below ((Below.refl _ _).alloc (Nat.le_refl _) _)⟩
        have HV1 := Lib.hid hv1
        have HB1 := Lib.hid hb1
        clear hinv hi1 hi2 hi3 hi4 hx hal hok' hb1 hv1
        go_wp2_with fail
        refine (step_any x HV1.out HOK.out).mono ?_
        rintro e w2 ⟨rfl, hl2, hb2⟩
        rw [HSB.out]
        obtain ⟨vL, vR, vA, hl2⟩ := hl2
        rw [← HRS.out] at hl2
        have HL2 := Lib.hid hl2
        have HB2 := Lib.hid (HB1.out.trans hb2.low)
        clear hl2 hb2 d0 d1 d2
        go_wp2_with fail
        refine (holders_any HL2.out (by rw [HOK'.out.l3]; decide)).mono ?_
        rintro e w3 ⟨rfl, hb3⟩
        have HL3 := Lib.hid (HL2.out.below hb3)
        have HB3 := Lib.hid (HB2.out.trans (HL2.out.up hb3).low)
        clear hb3
        rcases HAL.out with ⟨a1, a2⟩ | ⟨i, a0, a1, a2, a3, a4, a5, a6, a7⟩
        · rw [a1, a2]
          clear a1 a2
          go_wp2_with fail
          go_quiet (fail)
          go_wp2
          go_roundw
          case rel => exact ⟨k + 1, by omega, by go_num, Lib.hid ⟨_, _, _, HL3.out.below (drewN_below w3 _ _)⟩, Lib.hid (HB3.out.trans (HL3.out.up (drewN_below w3 _ _)).low)⟩
          case measure => simp [intOf]; omega
        · rw [a1, a2]
          clear a1 a2 a3 a7
          have hl3 := HOK'.out.l3
          have htl : i < (runK term margin l (k + 1)).ls.length := by omega
          rw [leAt_eq htl] at a5
          obtain ⟨gL, cL, hvl, _, _, _, _⟩ := OwL.at_ HL3.out.ol (by omega)
          subst hvl
          have z1 : w3.cell? ⟨gL, i * 3 + 1, none⟩ = some (.int .i64 (runK term margin l (k + 1)).ls[i].ep) := OwL.cell (E := eLe) HL3.out.ol (k := i) (j := 1) htl (by decide)
          have c0 : w3.cell? ⟨g, 0, none⟩ = some (.int .i64 (runK term margin l (k + 1)).now) := HL3.out.blk.cell 0
          have c3 : w3.cell? ⟨g, 3, none⟩ = some (.int .i64 (runK term margin l (k + 1)).w.ep) := HL3.out.blk.cell 3
          have c4 : w3.cell? ⟨g, 4, none⟩ = some (.int .i64 (i : Int)) := by rw [← a4]; exact HL3.out.blk.cell 4
          have c5 : w3.cell? ⟨g, 5, none⟩ = some (.int .i64 (runK term margin l (k + 1)).w.un) := HL3.out.blk.cell 5
          have c6 : w3.cell? ⟨g, 6, none⟩ = some (.slice (some ⟨gL, 0, none⟩) (runK term margin l (k + 1)).ls.length cL) := HL3.out.blk.cell 6
          have hi3 : (i : Int) < (runK term margin l (k + 1)).ls.length := by omega
          obtain ⟨n3, hn3⟩ : ∃ n3, n3 = (runK term margin l (k + 1)).ls.length := ⟨_, rfl⟩
          obtain ⟨LE, hLE⟩ : ∃ LE, LE = (runK term margin l (k + 1)).ls[i].ep := ⟨_, rfl⟩
          obtain ⟨WE, hWE⟩ : ∃ WE, WE = (runK term margin l (k + 1)).w.ep := ⟨_, rfl⟩
          obtain ⟨UN, hUN⟩ : ∃ UN, UN = (runK term margin l (k + 1)).w.un := ⟨_, rfl⟩
          obtain ⟨NW, hNW⟩ : ∃ NW, NW = (runK term margin l (k + 1)).now := ⟨_, rfl⟩
          rw [← hLE, ← hWE] at a5
          rw [← hUN, ← hNW] at a6
          rw [← hLE] at z1
          rw [← hWE] at c3
          rw [← hUN] at c5
          rw [← hNW] at c0
          rw [← hn3] at c6 hi3
          have hle : ¬ WE < LE := by omega
          have hun : ¬ UN ≤ NW := by omega
          have hd1 : decide (WE < LE) = false := by simpa using hle
          have hd2 : decide (UN ≤ NW) = false := by simpa using hun
          clear hLE hWE hUN hNW hn3 a4 htl hl3 hle hun
          go_wp2_with fail
          go_quiet (fail)
          go_wp2
          go_roundw
          case rel => exact ⟨k + 1, by omega, by go_num, Lib.hid ⟨_, _, _, HL3.out.below (drewN_below w3 _ _)⟩, Lib.hid (HB3.out.trans (HL3.out.up (drewN_below w3 _ _)).low)⟩
          case measure => simp [intOf]; omega
      · obtain rfl : k = l.length := by omega
        go_wp2
        go_ret
        exact ⟨rfl, HBW.out⟩
end Go.Proofs.Ytcdifegjlllbfaa

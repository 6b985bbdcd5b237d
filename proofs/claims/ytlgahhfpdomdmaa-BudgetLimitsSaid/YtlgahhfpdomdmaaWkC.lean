/- The walk through budget.Advance (and account.give): what it computes. Condition: the slice lies in memory as a list of at most 4096 buckets. -/
import Derived.Test.YtlgahhfpdomdmaaWkB
set_option linter.unusedVariables false
set_option linter.unusedSimpArgs false
namespace Go.Proofs.Ytlgahhfpdomdmaa
open Go.RowKit

theorem give_any (g o : Nat) (burst tok n : Int) (w : World) (h2 : w.cell? ⟨g, o + 2, none⟩ = some (.int .i64 burst)) (h3 : w.cell? ⟨g, o + 3, none⟩ = some (.int .i64 tok)) (hz : w.frozen? ⟨g, o + 3, none⟩ = false)
    (h0 : 0 ≤ tok) (h0' : tok ≤ 1073741824) (h1 : 0 ≤ n) (h1' : n ≤ 1152921504606846976) :
    Calls Try.prog 30 #[.agg #[.pointer (some ⟨g, o, none⟩)], .int .i64 n] w fun e w' => (∃ u, e = .returned u) ∧ ((w.setCell ⟨g, o + 3, none⟩ (.int .i64 (min (tok + n) burst))).alloc (.cells #[.pointer (some ⟨g, o, none⟩)] 71)).drew = w' := by
  have hg : g < w.heap.size := World.block_lt_of_cell? w _ h2
  have g2 : (w.alloc (.cells #[.pointer (some ⟨g, o, none⟩)] 71)).cell? ⟨g, o + 2, none⟩ = some (.int .i64 burst) := (World.cell?_alloc_lt w _ ⟨g, o + 2, none⟩ hg).trans h2
  have g3 : (w.alloc (.cells #[.pointer (some ⟨g, o, none⟩)] 71)).cell? ⟨g, o + 3, none⟩ = some (.int .i64 tok) := (World.cell?_alloc_lt w _ ⟨g, o + 3, none⟩ hg).trans h3
  have hm : (if burst < tok + n then burst else tok + n) = min (tok + n) burst := by omega
  have HM := Lib.hid hm
  clear hm
  go_enter Try.func30, Try.ntmps30
  go_wp2
  go_region
  all_goals
    go_end0
    exact ⟨⟨_, rfl⟩, by rw [HM.out]⟩

set_option maxHeartbeats 1000000 in
theorem Advance_any (t : Int) (A : Option Addr) (c : Nat) (l : List Bk) (now : Int) (w : World) (hl : RdB w A l) (hlen : l.length ≤ 4096) :
    Calls Try.prog 17 #[.agg #[.int .i64 t, .slice A l.length c], .int .i64 now] w fun e w' => ∃ v, e = .returned (.tuple #[.agg #[.int .i64 (advT t l now), v], .int .i64 (advE t l now)]) ∧ OwB w' w.heap.size v (advL t l now) ∧ Below w.heap.size w w' := by
  have HL := Lib.hid hl
  clear hl
  go_enter Try.func17, Try.ntmps17
  go_wp2_with fail
  refine (Check_any _ _ _ _ _ (((HL.out).alloc _).alloc _)).mono ?_
  rintro e w1 ⟨rfl, hb⟩
  have hR0 : Blk w1 (w.heap.size + 1) 24 #[.int .i64 0, .slice none 0 0] := (show Blk _ (w.heap.size + 1) _ _ by simpa using Blk.new (w.alloc (.cells #[.int .i64 t, .slice A l.length c] 24)) 24 _).below hb (by simp)
  have hK0 : Blk w1 w.heap.size 24 #[.int .i64 t, .slice A l.length c] := ((Blk.new w 24 _).alloc _).below hb (by simp; omega)
  have hB0 : Below w.heap.size w w1 := (((Below.refl _ w).alloc (Nat.le_refl _) _).alloc (by simp) _).trans (hb.mono (by simp; omega))
  have hs1 : w.heap.size + 1 < w1.heap.size := hR0.lt
  have r0 : w1.cell? ⟨w.heap.size + 1, 0, none⟩ = some (.int .i64 0) := hR0.cell 0
  have r1 : w1.cell? ⟨w.heap.size + 1, 1, none⟩ = some (.slice none 0 0) := hR0.cell 1
  have z0 := hR0.frozen 0
  have z1 := hR0.frozen 1
  have k0 : w1.cell? ⟨w.heap.size, 0, none⟩ = some (.int .i64 t) := hK0.cell 0
  have k1 : w1.cell? ⟨w.heap.size, 1, none⟩ = some (.slice A l.length c) := hK0.cell 1
  have HR := Lib.hid hR0
  have HK := Lib.hid hK0
  have HB := Lib.hid hB0
  have HL1 := Lib.hid ((((HL.out).alloc _).alloc _).below hb)
  clear hR0 hK0 hB0 hb
  by_cases hc : chk t l = 0
  · have hcb : (chk t l != 0) = false := by simp [hc]
    have HC := Lib.hid hc
    clear hc
    by_cases h1 : now < t
    · have e1 : advE t l now = 24 := by unfold advE; rw [if_pos HC.out, if_pos (.inl h1)]
      have e2 : advT t l now = 0 := by unfold advT; rw [e1]; rfl
      have e3 : advL t l now = [] := by unfold advL; rw [e1]; rfl
      have E1 := Lib.hid e1
      have E2 := Lib.hid e2
      have E3 := Lib.hid e3
      clear e1 e2 e3
      go_wp2
      refine bodyPost_ret (v := .tuple #[.agg #[.int .i64 0, .slice none 0 0], .int .i64 24]) (by simp [results, Try.results17, go_sem, r0, r1]) rfl ⟨_, by rw [E1.out, E2.out], by rw [E3.out]; exact OwL.nil _ _ _ _, ?_⟩
      exact (HB.out.setCell (p := ⟨w.heap.size + 1, 0, none⟩) (by simp) _).setCell (p := ⟨w.heap.size + 1, 1, none⟩) (by simp) _
    by_cases h2 : 1073741824 < now
    · have e1 : advE t l now = 24 := by unfold advE; rw [if_pos HC.out, if_pos (.inr h2)]
      have e2 : advT t l now = 0 := by unfold advT; rw [e1]; rfl
      have e3 : advL t l now = [] := by unfold advL; rw [e1]; rfl
      have E1 := Lib.hid e1
      have E2 := Lib.hid e2
      have E3 := Lib.hid e3
      clear e1 e2 e3
      go_wp2
      refine bodyPost_ret (v := .tuple #[.agg #[.int .i64 0, .slice none 0 0], .int .i64 24]) (by simp [results, Try.results17, go_sem, r0, r1]) rfl ⟨_, by rw [E1.out, E2.out], by rw [E3.out]; exact OwL.nil _ _ _ _, ?_⟩
      exact (HB.out.setCell (p := ⟨w.heap.size + 1, 0, none⟩) (by simp) _).setCell (p := ⟨w.heap.size + 1, 1, none⟩) (by simp) _
    have e1 : advE t l now = 0 := by unfold advE; rw [if_pos HC.out, if_neg (by omega)]
    have e2 : advT t l now = now := by unfold advT; rw [e1]; rfl
    have e3 : advL t l now = l.map (Bk.later (now - t)) := by unfold advL; rw [e1]; rfl
    have E1 := Lib.hid e1
    have E2 := Lib.hid e2
    have E3 := Lib.hid e3
    clear e1 e2 e3
    go_wp2_with fail
    refine (Clone_any _ _ _ _ HL1.out hlen).mono ?_
    rintro e w2 ⟨v, rfl, hv, hb⟩
    obtain ⟨A1, c1, rfl, hc1, hc2, hr1⟩ := OwL.rd hv
    have HV := Lib.hid hv
    have hR := HR.out.below hb HR.out.lt
    have hK := HK.out.below hb HK.out.lt
    have hB := HB.out.trans (hb.mono HB.out.size)
    have hs2 : w.heap.size + 1 < w2.heap.size := hR.lt
    clear HR HK HB r0 r1 z0 z1 k0 k1 hb hv hr1 HL1 HL
    have HR := Lib.hid hR
    have HK := Lib.hid hK
    have HB := Lib.hid hB
    clear hR hK hB hcb
    go_wp2_with fail
    go_loopw [33] (fun i wr => ∃ k : Nat, k ≤ l.length ∧ i = .int .i64 k ∧ Hid (OwB wr w.heap.size (.slice A1 l.length c1) (part (Bk.later (now - t)) l k)) ∧ Hid (Blk wr w2.heap.size 24 #[.int .i64 now, .slice A1 l.length c1]) ∧ Hid (Blk wr (w.heap.size + 1) 24 #[.int .i64 0, .slice none 0 0]) ∧ Hid (Blk wr w.heap.size 24 #[.int .i64 t, .slice A l.length c]) ∧ Hid (Below w.heap.size w wr)) (fun i _ => l.length - (intOf i).toNat)
    case atStart => exact ⟨0, Nat.zero_le _, rfl, Lib.hid (by rw [part_zero]; exact (HV.out.alloc _).lower (by omega)), Lib.hid (Blk.new _ _ _), Lib.hid (HR.out.alloc _), Lib.hid (HK.out.alloc _), Lib.hid (HB.out.alloc (by omega) _)⟩
    case round =>
      obtain ⟨k, hk, rfl, HO, HN, HR, HK, HB⟩ := hrel
      by_cases hlt : k < l.length
      · obtain ⟨g, cap, e, hg1, hg2, _⟩ := OwL.at_ HO.out (by rw [part_length]; omega)
        obtain rfl : A1 = some ⟨g, 0, none⟩ := by injection e
        clear e
        have hkp : k < (part (Bk.later (now - t)) l k).length := by rw [part_length]; exact hlt
        obtain ⟨f0, f1, f2, f3⟩ := OwB.cells HO.out hkp
        rw [part_at _ hlt] at f0 f1 f2 f3
        have zf := OwL.frozen HO.out (k * 4 + 3)
        have b1 : wr.cell? ⟨w2.heap.size, 1, none⟩ = some (.slice (some ⟨g, 0, none⟩) l.length c1) := HN.out.cell 1
        have k0 : wr.cell? ⟨w.heap.size, 0, none⟩ = some (.int .i64 t) := HK.out.cell 0
        have ok := (chk_zero.1 HC.out).at_ k hlt
        have ht0 := (chk_zero.1 HC.out).t0
        have q0 := ok.t0
        have q1 := ok.t1
        have q2 := ok.b1
        have q3 : 0 ≤ l[k].rate * (now - t) := Int.mul_nonneg ok.r0 (by omega)
        have q4 : l[k].rate * (now - t) ≤ 1152921504606846976 := Int.le_trans (Int.mul_le_mul ok.r1 (show now - t ≤ 1073741824 by omega) (by omega) (by omega)) (by omega)
        have n1 : w2.heap.size ≠ g := OwL.ne_blk HO.out HN.out (by decide)
        have n2 : w.heap.size + 1 ≠ g := OwL.ne_blk HO.out HR.out (by decide)
        have n3 : w.heap.size ≠ g := OwL.ne_blk HO.out HK.out (by decide)
        clear f0 ok
        go_wp2_with fail
        go_still_tail 12, (by kernel_rfl)
        go_wp2_with fail
        refine (give_any g (k * 4) l[k].burst l[k].tok (l[k].rate * (now - t)) wr.drew f2 f3 zf q0 (by omega) q3 q4).mono ?_
        rintro e wx ⟨⟨u, rfl⟩, rfl⟩
        go_wp2
        go_roundw
        case rel =>
          refine ⟨k + 1, by omega, by go_num, Lib.hid ?_, Lib.hid ?_, Lib.hid ?_, Lib.hid ?_, Lib.hid ?_⟩
          · have := OwB.tok HO.out hkp (min (l[k].tok + l[k].rate * (now - t)) l[k].burst)
            rw [part_at _ hlt] at this
            rw [part_succ _ hlt]
            exact this.alloc _
          · exact (HN.out.far (p := ⟨g, k * 4 + 3, none⟩) n1 _).alloc _
          · exact (HR.out.far (p := ⟨g, k * 4 + 3, none⟩) n2 _).alloc _
          · exact (HK.out.far (p := ⟨g, k * 4 + 3, none⟩) n3 _).alloc _
          · exact ((HB.out.setCell (p := ⟨g, k * 4 + 3, none⟩) hg1 _).alloc (by simpa [World.setCell] using HB.out.size) _).drew.drew
        case measure => simp [intOf]; omega
      · obtain rfl : k = l.length := by omega
        have HO' := Lib.hid (part_all (Bk.later (now - t)) l ▸ HO.out)
        have b0 : wr.cell? ⟨w2.heap.size, 0, none⟩ = some (.int .i64 now) := HN.out.cell 0
        have b1 : wr.cell? ⟨w2.heap.size, 1, none⟩ = some (.slice A1 l.length c1) := HN.out.cell 1
        have r0 : wr.cell? ⟨w.heap.size + 1, 0, none⟩ = some (.int .i64 0) := HR.out.cell 0
        have r1 : wr.cell? ⟨w.heap.size + 1, 1, none⟩ = some (.slice none 0 0) := HR.out.cell 1
        have z0 := HR.out.frozen 0
        have z1 := HR.out.frozen 1
        go_wp2
        refine bodyPost_ret (v := .tuple #[.agg #[.int .i64 now, .slice A1 l.length c1], .int .i64 0]) (by simp [results, Try.results17, go_sem, r0, r1]) rfl ⟨_, by rw [E1.out, E2.out], ?_, ?_⟩
        · rw [E3.out]
          have ho := HO'.out
          exact (ho.far (OwL.apart ho HR.out (by decide)) _).far (OwL.apart ho HR.out (by decide)) _
        · exact (HB.out.setCell (p := ⟨w.heap.size + 1, 0, none⟩) (by simp) _).setCell (p := ⟨w.heap.size + 1, 1, none⟩) (by simp) _
  · have hcb : (chk t l != 0) = true := by simp [hc]
    have e1 : advE t l now = chk t l := by unfold advE; rw [if_neg hc]
    have e2 : advT t l now = 0 := by unfold advT; rw [e1, if_neg hc]
    have e3 : advL t l now = [] := by unfold advL; rw [e1, if_neg hc]
    have E1 := Lib.hid e1
    have E2 := Lib.hid e2
    have E3 := Lib.hid e3
    clear e1 e2 e3
    have HC := Lib.hid hc
    clear hc
    go_wp2
    refine bodyPost_ret (v := .tuple #[.agg #[.int .i64 0, .slice none 0 0], .int .i64 (chk t l)]) (by simp [results, Try.results17, go_sem, r0, r1]) rfl ⟨_, by rw [E1.out, E2.out], by rw [E3.out]; exact OwL.nil _ _ _ _, ?_⟩
    exact (HB.out.setCell (p := ⟨w.heap.size + 1, 0, none⟩) (by simp) _).setCell (p := ⟨w.heap.size + 1, 1, none⟩) (by simp) _
end Go.Proofs.Ytlgahhfpdomdmaa

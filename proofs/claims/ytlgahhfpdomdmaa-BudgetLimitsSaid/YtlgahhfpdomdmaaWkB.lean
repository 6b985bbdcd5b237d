/- The walks through budget.New and budget.Advance: what each computes. Conditions: the slices lie in memory as lists of at most 4096 buckets. -/
import Derived.Test.YtlgahhfpdomdmaaWkA
import Derived.ChangeAlike
import Derived.StillTailTactics
import Derived.Deep.RegionWith
set_option linter.unusedVariables false
set_option linter.unusedSimpArgs false
namespace Go.Proofs.Ytlgahhfpdomdmaa
open Go.RowKit

theorem New_any (A : Option Addr) (c : Nat) (l : List Bk) (w : World) (hl : RdB w A l) (hlen : l.length ≤ 4096) :
    Calls Try.prog 12 #[.slice A l.length c] w fun e w' => ∃ v, e = .returned (.tuple #[.agg #[.int .i64 0, v], .int .i64 (chk 0 (l.map Bk.full))]) ∧ OwB w' w.heap.size v (if chk 0 (l.map Bk.full) = 0 then l.map Bk.full else []) ∧ Below w.heap.size w w' := by
  have HL := Lib.hid hl
  clear hl
  go_enter Try.func12, Try.ntmps12
  go_wp2_with (go_at_call 28; refine (Clone_any _ _ _ _ (RdL.alloc HL.out _) hlen).mono ?_; rintro e w1 ⟨v, rfl, hv, hb⟩; obtain ⟨A1, c1, rfl, hc1, hc2, hr1⟩ := OwL.rd hv)
  have hR0 : Blk w1 w.heap.size 24 #[.int .i64 0, .slice none 0 0] := (Blk.new w 24 _).below hb (by simp)
  have hsz : w.heap.size < w1.heap.size := hR0.lt
  have hB1 : Below w.heap.size w w1 := ((Below.refl _ w).alloc (Nat.le_refl _) _).trans (hb.mono (by simp))
  have HV := Lib.hid hv
  have HR := Lib.hid hR0
  have HB := Lib.hid hB1
  clear hv hr1 hb hR0 hB1
  go_loopw [13] (fun i wr => ∃ k : Nat, k ≤ l.length ∧ i = .int .i64 k ∧ Hid (OwB wr w.heap.size (.slice A1 l.length c1) (part Bk.full l k)) ∧ Hid (Blk wr w1.heap.size 24 #[.int .i64 0, .slice A1 l.length c1]) ∧ Hid (Blk wr w.heap.size 24 #[.int .i64 0, .slice none 0 0]) ∧ Hid (Below w.heap.size w wr)) (fun i _ => l.length - (intOf i).toNat)
  case atStart => exact ⟨0, Nat.zero_le _, rfl, Lib.hid (by rw [part_zero]; exact (HV.out.alloc _).lower (by simp)), Lib.hid (Blk.new _ _ _), Lib.hid (HR.out.alloc _), Lib.hid (HB.out.alloc (by omega) _)⟩
  case round =>
    obtain ⟨k, hk, rfl, HO, HK, HR, HB⟩ := hrel
    by_cases hlt : k < l.length
    · obtain ⟨g, cap, e, hg1, hg2, _⟩ := OwL.at_ HO.out (by rw [part_length]; omega)
      obtain rfl : A1 = some ⟨g, 0, none⟩ := by injection e
      clear e
      have hkp : k < (part Bk.full l k).length := by rw [part_length]; exact hlt
      obtain ⟨f0, f1, f2, f3⟩ := OwB.cells HO.out hkp
      rw [part_at _ hlt] at f0 f1 f2 f3
      have z2 := OwL.frozen HO.out (k * 4 + 3)
      have b0 : wr.cell? ⟨w1.heap.size, 0, none⟩ = _ := HK.out.cell 0
      have b1 : wr.cell? ⟨w1.heap.size, 1, none⟩ = some (.slice (some ⟨g, 0, none⟩) l.length c1) := HK.out.cell 1
      clear b0
      have hgne : w1.heap.size ≠ g := OwL.ne_blk HO.out HK.out (by decide)
      have hgne2 : w.heap.size ≠ g := OwL.ne_blk HO.out HR.out (by decide)
      go_wp2
      go_region
      all_goals
        go_wp2
        go_roundw
        case rel =>
          have hmx : (if l[k].burst < 0 then 0 else l[k].burst) = max l[k].burst 0 := by omega
          refine ⟨k + 1, by omega, by go_num, Lib.hid ?_, Lib.hid ?_, Lib.hid ?_, Lib.hid ?_⟩
          · rw [hmx]
            have := OwB.tok HO.out hkp (max l[k].burst 0)
            rw [part_at _ hlt] at this
            rw [part_succ _ hlt]
            exact this
          · exact HK.out.far hgne _
          · exact HR.out.far hgne2 _
          · exact (HB.out.setCell (p := ⟨g, k * 4 + 3, none⟩) hg1 _).drew
        case measure => simp [intOf]; omega
    · obtain rfl : k = l.length := by omega
      have HO' := Lib.hid (part_all Bk.full l ▸ HO.out)
      have b0 : wr.cell? ⟨w1.heap.size, 0, none⟩ = some (.int .i64 0) := HK.out.cell 0
      have b1 : wr.cell? ⟨w1.heap.size, 1, none⟩ = some (.slice A1 l.length c1) := HK.out.cell 1
      have r0 : wr.cell? ⟨w.heap.size, 0, none⟩ = some (.int .i64 0) := HR.out.cell 0
      have r1 : wr.cell? ⟨w.heap.size, 1, none⟩ = some (.slice none 0 0) := HR.out.cell 1
      have z0 := HR.out.frozen 0
      have z1 := HR.out.frozen 1
      obtain ⟨A2, c2, e2, _, _, hr2⟩ := OwL.rd HO'.out
      rw [List.length_map] at e2
      injection e2 with ea _ ec
      subst ea ec
      have hm : (l.map Bk.full).length = l.length := List.length_map _
      have hcall := Check_any 0 A1 c1 (l.map Bk.full) wr hr2
      rw [hm] at hcall
      have HCC := Lib.hid hcall
      have HM := Lib.hid hm
      clear hcall hm hr2
      go_wp2_with fail
      refine (HCC.out).mono ?_
      rintro e w3 ⟨rfl, hb3⟩
      have r0 : w3.cell? ⟨w.heap.size, 0, none⟩ = some (.int .i64 0) := (HR.out.below hb3 HR.out.lt).cell 0
      have r1 : w3.cell? ⟨w.heap.size, 1, none⟩ = some (.slice none 0 0) := (HR.out.below hb3 HR.out.lt).cell 1
      have z0 := (HR.out.below hb3 HR.out.lt).frozen 0
      have z1 := (HR.out.below hb3 HR.out.lt).frozen 1
      have b0 : w3.cell? ⟨w1.heap.size, 0, none⟩ = some (.int .i64 0) := (HK.out.below hb3 HK.out.lt).cell 0
      have b1 : w3.cell? ⟨w1.heap.size, 1, none⟩ = some (.slice A1 l.length c1) := (HK.out.below hb3 HK.out.lt).cell 1
      have HB3 := Lib.hid hb3
      clear hb3
      by_cases hc : chk 0 (l.map Bk.full) = 0
      · have hcb : (chk 0 (l.map Bk.full) != 0) = false := by simp [hc]
        have HCE := Lib.hid hc
        clear hc
        go_wp2
        refine bodyPost_ret (v := .tuple #[.agg #[.int .i64 0, .slice A1 l.length c1], .int .i64 0]) (by simp [results, Try.results12, go_sem, r0, r1]) rfl ⟨_, rfl, ?_, ?_⟩
        · have ho := OwL.below HO'.out HB3.out
          have hr := HR.out.below HB3.out HR.out.lt
          exact (ho.far (OwL.apart ho hr (by decide)) _).far (OwL.apart ho hr (by decide)) _
        · exact ((HB.out.trans (HB3.out.mono HB.out.size)).setCell (p := ⟨w.heap.size, 0, none⟩) (Nat.le_refl _) _).setCell (p := ⟨w.heap.size, 1, none⟩) (Nat.le_refl _) _
      · have hcb : (chk 0 (l.map Bk.full) != 0) = true := by simp [hc]
        have HCE := Lib.hid hc
        clear hc
        go_wp2
        refine bodyPost_ret (v := .tuple #[.agg #[.int .i64 0, .slice none 0 0], .int .i64 (chk 0 (l.map Bk.full))]) (by simp [results, Try.results12, go_sem, r0, r1]) rfl ⟨_, rfl, ?_, ?_⟩
        · exact OwL.nil _ _ _ _
        · exact ((HB.out.trans (HB3.out.mono HB.out.size)).setCell (p := ⟨w.heap.size, 0, none⟩) (Nat.le_refl _) _).setCell (p := ⟨w.heap.size, 1, none⟩) (Nat.le_refl _) _
end Go.Proofs.Ytlgahhfpdomdmaa

/- The walk through the reference's New: what it computes. Conditions: the slice lies in memory as a list of at most 4096 buckets. -/
import Derived.Test.YtlgahhfpdomdmaaRfB
set_option linter.unusedVariables false
set_option linter.unusedSimpArgs false
namespace Go.Proofs.Ytlgahhfpdomdmaa
open Go.RowKit

/-- A bucket whose tokens are its burst. -/
def Bk.fullR (x : Bk) : Bk := { x with tok := x.burst }
/-- What New hands back, given the buckets with their tokens. -/
def NewPost (w : World) (l : List Bk) (e : Ending) (w' : World) : Prop :=
  ∃ v, e = .returned (.tuple #[.agg #[.int .i64 0, v], .int .i64 (chk 0 l)]) ∧ OwB w' w.heap.size v (if chk 0 l = 0 then l else []) ∧ Below w.heap.size w w'

set_option maxHeartbeats 2000000 in
theorem rNew_any (A : Option Addr) (c : Nat) (l : List Bk) (w : World) (hl : RdB w A l) (hlen : l.length ≤ 4096) :
    Calls Try.prog 13 #[.slice A l.length c] w (NewPost w (l.map Bk.fullR)) := by
  have HL := Lib.hid hl
  clear hl
  obtain ⟨i0, hi, hz0, hz1, hz2⟩ := info_parts info64
  go_enter Try.func13, Try.ntmps13
  go_wp2
  have GR := Lib.hid ((Blk.new w 24 #[.int .i64 0, .slice none 0 0]).alloc (.cells #[.int .i64 0, .slice none 0 0] 24))
  have GO : Hid (Blk ((w.alloc (.cells #[.int .i64 0, .slice none 0 0] 24)).alloc (.cells #[.int .i64 0, .slice none 0 0] 24)) (w.heap.size + 1) 24 #[.int .i64 0, .slice none 0 0]) := Lib.hid (by simpa using Blk.new (w.alloc (.cells #[.int .i64 0, .slice none 0 0] 24)) 24 #[.int .i64 0, .slice none 0 0])
  go_loopw [5] (fun i wr => ∃ (k : Nat) (v : Value), k ≤ l.length ∧ i = .int .i64 k ∧ Hid (OwB wr w.heap.size v ((l.take k).map Bk.fullR)) ∧ Hid (Blk wr w.heap.size 24 #[.int .i64 0, .slice none 0 0]) ∧ Hid (Blk wr (w.heap.size + 1) 24 #[.int .i64 0, v]) ∧ Hid (Below w.heap.size w wr)) (fun i _ => l.length - (intOf i).toNat)
  case atStart => exact ⟨0, _, Nat.zero_le _, rfl, Lib.hid (OwL.nil _ _ _ _), GR, GO, Lib.hid (((Below.refl _ _).alloc (Nat.le_refl _) _).alloc (by simp) _)⟩
  case round =>
    obtain ⟨k, v, hk, rfl, HV, HR, HO, HB⟩ := hrel
    clear GR GO
    have hs1 : w.heap.size < wr.heap.size := HR.out.lt
    have hs2 : w.heap.size + 1 < wr.heap.size := HO.out.lt
    have hlk : ((l.take k).map Bk.fullR).length = k := by simp; omega
    obtain ⟨A1, c1, e, _, _, _⟩ := OwL.rd HV.out
    rw [hlk] at e
    subst e
    have HLK := Lib.hid hlk
    clear hlk
    by_cases hlt : k < l.length
    · obtain ⟨ad, rfl, f0, f1, f2, f3⟩ := RdB.at_ (RdL.below HL.out HB.out) hlt
      have o1 : wr.cell? ⟨w.heap.size + 1, 1, none⟩ = some (.slice A1 k c1) := HO.out.cell 1
      have zo := HO.out.frozen 1
      have hbox : RdB ((wr.alloc (.cells #[.int .i64 l[k].par, .int .i64 l[k].rate, .int .i64 l[k].burst, .int .i64 l[k].burst] 64)).alloc (.cells #[.int .i64 l[k].par, .int .i64 l[k].rate, .int .i64 l[k].burst, .int .i64 l[k].burst] 64)) (some ⟨wr.heap.size + 1, 0, none⟩) [Bk.fullR l[k]] := by
        have := RdL.box (E := eB) (wr.alloc (.cells #[.int .i64 l[k].par, .int .i64 l[k].rate, .int .i64 l[k].burst, .int .i64 l[k].burst] 64)) (Bk.fullR l[k]) 64
        rw [World.size_alloc] at this
        exact this
      have HBX := Lib.hid hbox
      clear hbox
      have hk1 : (((l.take k).map Bk.fullR).length + [Bk.fullR l[k]].length) ≤ maxLen := by rw [HLK.out]; simp only [maxLen, List.length_singleton]; omega
      have hk2 : (((l.take k).map Bk.fullR).length + [Bk.fullR l[k]].length) * 32 ≤ 140737488355328 := by rw [HLK.out]; simp only [List.length_singleton]; omega
      have HK1 := Lib.hid hk1
      have HK2 := Lib.hid hk2
      clear hk1 hk2
      have HFA : Hid (∀ v1 w1, OwB w1 w.heap.size v1 ((l.take k).map Bk.fullR ++ [Bk.fullR l[k]]) → ((wr.alloc (.cells #[.int .i64 l[k].par, .int .i64 l[k].rate, .int .i64 l[k].burst, .int .i64 l[k].burst] 64)).alloc (.cells #[.int .i64 l[k].par, .int .i64 l[k].rate, .int .i64 l[k].burst, .int .i64 l[k].burst] 64)).grownBy w1 (Value.slice A1 k c1).ownBlock → ∃ A2 c2, v1 = .slice A2 (k + 1) c2 ∧ Hid (Blk w1 (w.heap.size + 1) 24 #[.int .i64 0, .slice A1 k c1]) ∧ Hid (Blk w1 w.heap.size 24 #[.int .i64 0, .slice none 0 0]) ∧ Hid (Below w.heap.size w w1) ∧ w1.cell? ⟨w.heap.size + 1, 1, none⟩ = some (.slice A1 k c1) ∧ w1.frozen? ⟨w.heap.size + 1, 1, none⟩ = false) := by
        refine Lib.hid fun v1 w1 hown hg => ?_
        obtain ⟨A2, c2, e, _, _, _⟩ := OwL.rd hown
        rw [List.length_append, HLK.out] at e
        have hne1 : ∀ q, (Value.slice A1 k c1).ownBlock = some q → q ≠ w.heap.size + 1 := OwL.apart HV.out HO.out (by decide)
        have hne0 : ∀ q, (Value.slice A1 k c1).ownBlock = some q → q ≠ w.heap.size := OwL.apart HV.out HR.out (by decide)
        have HO1 := ((HO.out.alloc _).alloc _).grown hg (fun h => hne1 _ h.symm rfl)
        have HR1 := ((HR.out.alloc _).alloc _).grown hg (fun h => hne0 _ h.symm rfl)
        have hlt1 : ∀ q, (Value.slice A1 k c1).ownBlock = some q → w.heap.size ≤ q := fun q h => (OwL.lt HV.out q h).1
        exact ⟨A2, c2, e, Lib.hid HO1, Lib.hid HR1, Lib.hid (((HB.out.alloc HB.out.size _).alloc (by simp; omega) _).grown hg (by simp; omega) hlt1), HO1.cell 1, HO1.frozen 1⟩
      go_wp2_with (at_builtin; go_loud (refine wpList_append_all (E := eB) _ rfl (.tmp 22) (.tmp 24) _ rfl w.heap.size 64 i0 _ 32 Try.underlying22 hi hz0 hz1 hz2 rfl (.slice A1 k c1) ((l.take k).map Bk.fullR) rfl ((HV.out.alloc _).alloc _) (some ⟨wr.heap.size + 1, 0, none⟩) 1 [Bk.fullR l[k]] rfl HBX.out (by simp) HK1.out HK2.out (Nat.le_trans HB.out.size (by simp; omega)) ?_); intro v1 w1 hown hg hat; obtain ⟨A2, c2, rfl, HO1, HR1, HB1, p1, zp⟩ := HFA.out v1 w1 hown hg; replace hown := Lib.hid hown; clear hg hat)
      go_roundw
      case rel =>
        refine ⟨k + 1, _, by omega, by go_num, Lib.hid ?_, Lib.hid (HR1.out.far (by simp) _), Lib.hid (HO1.out.set_ 1 _), Lib.hid (HB1.out.setCell (p := ⟨w.heap.size + 1, 1, none⟩) (by simp) _)⟩
        have h2 := OwL.far (p := ⟨w.heap.size + 1, 1, none⟩) hown.out (OwL.apart hown.out HO1.out (by decide)) (.slice A2 (k + 1) c2)
        rw [List.take_succ_eq_append_getElem hlt, List.map_append]
        exact h2
      case measure => simp [intOf]; omega
    · obtain rfl : k = l.length := by omega
      have b0 : wr.cell? ⟨w.heap.size + 1, 0, none⟩ = some (.int .i64 0) := HO.out.cell 0
      have b1 : wr.cell? ⟨w.heap.size + 1, 1, none⟩ = some (.slice A1 l.length c1) := HO.out.cell 1
      have r0 : wr.cell? ⟨w.heap.size, 0, none⟩ = some (.int .i64 0) := HR.out.cell 0
      have r1 : wr.cell? ⟨w.heap.size, 1, none⟩ = some (.slice none 0 0) := HR.out.cell 1
      have z0 := HR.out.frozen 0
      have z1 := HR.out.frozen 1
      rw [List.take_length] at *
      obtain ⟨A2, c2, e2, _, _, hr2⟩ := OwL.rd HV.out
      have hm : (l.map Bk.fullR).length = l.length := List.length_map _
      rw [hm] at e2
      injection e2 with ea _ ec
      subst ea ec
      have hcall := rCheck_any 0 A1 c1 (l.map Bk.fullR) wr hr2
      rw [hm] at hcall
      have HCC := Lib.hid hcall
      have HM := Lib.hid hm
      clear hcall hm hr2
      go_wp2_with fail
      refine (HCC.out).mono ?_
      rintro e w3 ⟨rfl, hb3⟩
      have HR3 := Lib.hid (HR.out.below hb3 HR.out.lt)
      have HO3 := Lib.hid (HO.out.below hb3 HO.out.lt)
      have r0 : w3.cell? ⟨w.heap.size, 0, none⟩ = some (.int .i64 0) := HR3.out.cell 0
      have r1 : w3.cell? ⟨w.heap.size, 1, none⟩ = some (.slice none 0 0) := HR3.out.cell 1
      have z0 := HR3.out.frozen 0
      have z1 := HR3.out.frozen 1
      have b0 : w3.cell? ⟨w.heap.size + 1, 0, none⟩ = some (.int .i64 0) := HO3.out.cell 0
      have b1 : w3.cell? ⟨w.heap.size + 1, 1, none⟩ = some (.slice A1 l.length c1) := HO3.out.cell 1
      have HB3 := Lib.hid hb3
      clear hb3
      by_cases hc : chk 0 (l.map Bk.fullR) = 0
      · have hcb : (chk 0 (l.map Bk.fullR) != 0) = false := by simp [hc]
        have HCE := Lib.hid hc
        clear hc
        go_wp2
        refine bodyPost_ret (v := .tuple #[.agg #[.int .i64 0, .slice A1 l.length c1], .int .i64 0]) (by simp [results, Try.results13, go_sem, r0, r1]) rfl ⟨_, by rw [HCE.out], ?_, ?_⟩
        · rw [if_pos HCE.out]
          have ho := OwL.below HV.out HB3.out
          have hr := HR3.out
          exact (ho.far (OwL.apart ho hr (by decide)) _).far (OwL.apart ho hr (by decide)) _
        · exact ((HB.out.trans (HB3.out.mono HB.out.size)).setCell (p := ⟨w.heap.size, 0, none⟩) (Nat.le_refl _) _).setCell (p := ⟨w.heap.size, 1, none⟩) (Nat.le_refl _) _
      · have hcb : (chk 0 (l.map Bk.fullR) != 0) = true := by simp [hc]
        have HCE := Lib.hid hc
        clear hc
        go_wp2
        refine bodyPost_ret (v := .tuple #[.agg #[.int .i64 0, .slice none 0 0], .int .i64 (chk 0 (l.map Bk.fullR))]) (by simp [results, Try.results13, go_sem, r0, r1]) rfl ⟨_, rfl, ?_, ?_⟩
        · rw [if_neg HCE.out]; exact OwL.nil _ _ _ _
        · exact ((HB.out.trans (HB3.out.mono HB.out.size)).setCell (p := ⟨w.heap.size, 0, none⟩) (Nat.le_refl _) _).setCell (p := ⟨w.heap.size, 1, none⟩) (Nat.le_refl _) _
end Go.Proofs.Ytlgahhfpdomdmaa

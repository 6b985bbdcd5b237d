/- The walk through the reference's Take: what it computes. Condition: the slice lies in memory as a list of at most 4096 buckets. -/
import Derived.Test.YtlgahhfpdomdmaaRfF
import Derived.Test.YtlgahhfpdomdmaaWkG
set_option linter.unusedVariables false
set_option linter.unusedSimpArgs false
namespace Go.Proofs.Ytlgahhfpdomdmaa
open Go.RowKit

/-- The slice value that owns a list reads as it. -/
theorem OwL.rdA {α : Type} {E : Enc α} {e : TypeId} {w : World} {base n c : Nat} {A : Option Addr} {l : List α} (h : OwL E e w base (.slice A n c) l) : RdL E w A l := by
  obtain ⟨A', c', e, _, _, hr⟩ := OwL.rd h
  injection e with e1
  subst e1
  exact hr

set_option maxHeartbeats 2000000 in
theorem rTake_any (t : Int) (A : Option Addr) (c : Nat) (l : List Bk) (k n : Int) (w : World) (hl : RdB w A l) (hlen : l.length ≤ 4096) :
    Calls Try.prog 22 #[.agg #[.int .i64 t, .slice A l.length c], .int .i64 k, .int .i64 n] w (TakPost w t l k n) := by
  have HL := Lib.hid hl
  clear hl
  go_enter Try.func22, Try.ntmps22
  go_wp2_with fail
  refine (rAvailable_any _ _ _ _ _ _ (((HL.out).alloc _).alloc _)).mono ?_
  rintro e w1 ⟨rfl, hb⟩
  have hK0 : Blk w1 w.heap.size 24 #[.int .i64 t, .slice A l.length c] := ((Blk.new w 24 _).alloc _).below hb (by simp; omega)
  have hR0 : Blk w1 (w.heap.size + 1) 24 #[.int .i64 0, .slice none 0 0] := (show Blk _ (w.heap.size + 1) _ _ by simpa using Blk.new (w.alloc (.cells #[.int .i64 t, .slice A l.length c] 24)) 24 #[.int .i64 0, .slice none 0 0]).below hb (by simp)
  have hB0 : Below w.heap.size w w1 := (((Below.refl _ w).alloc (Nat.le_refl _) _).alloc (by simp) _).trans (hb.mono (by simp; omega))
  have hs1 : w.heap.size + 1 < w1.heap.size := hR0.lt
  have HK := Lib.hid hK0
  have HR := Lib.hid hR0
  have HB := Lib.hid hB0
  clear hK0 hR0 hB0 hb
  have k0 : w1.cell? ⟨w.heap.size, 0, none⟩ = some (.int .i64 t) := HK.out.cell 0
  have k1 : w1.cell? ⟨w.heap.size, 1, none⟩ = some (.slice A l.length c) := HK.out.cell 1
  have r0 : w1.cell? ⟨w.heap.size + 1, 0, none⟩ = some (.int .i64 0) := HR.out.cell 0
  have r1 : w1.cell? ⟨w.heap.size + 1, 1, none⟩ = some (.slice none 0 0) := HR.out.cell 1
  have z0 := HR.out.frozen 0
  have z1 := HR.out.frozen 1
  by_cases hc : findE t l k = 0
  · have hcb : (findE t l k != 0) = false := by simp [hc]
    have hf := findE_zero.1 hc
    have HC := Lib.hid hc
    obtain ⟨j, rfl⟩ := Int.eq_ofNat_of_zero_le hf.2.1
    have hj : j < l.length := by omega
    have HF := Lib.hid hf.1
    have HAV := Lib.hid (show avlV t l j = availL l j by unfold avlV; rw [if_pos hc]; rfl)
    clear hc hf
    by_cases h1 : n < 0
    · have E1 := Lib.hid (show takE t l j n = 1 by unfold takE; rw [if_pos HC.out, if_pos h1])
      go_wp2
      refine bodyPost_ret (v := .tuple #[.agg #[.int .i64 0, .slice none 0 0], .int .i64 1]) (by simp [results, Try.results22, go_sem, r0, r1]) rfl (tak_err E1.out (by omega) (two_sets HB.out (by omega) _ _))
    by_cases h2 : avlV t l j < n
    · have E1 := Lib.hid (show takE t l j n = 16 by unfold takE; rw [if_pos HC.out, if_neg (by omega)]; have := HAV.out; exact if_pos (by rw [Int.toNat_natCast]; omega))
      go_wp2
      refine bodyPost_ret (v := .tuple #[.agg #[.int .i64 0, .slice none 0 0], .int .i64 16]) (by simp [results, Try.results22, go_sem, r0, r1]) rfl (tak_err E1.out (by omega) (two_sets HB.out (by omega) _ _))
    have E1 := Lib.hid (show takE t l j n = 0 by unfold takE; rw [if_pos HC.out, if_neg (by omega)]; have := HAV.out; exact if_neg (by rw [Int.toNat_natCast]; omega))
    go_wp2_with fail
    refine (copied_any _ _ _ _ _ (RdL.below HL.out HB.out) hlen).mono ?_
    rintro e w2 ⟨v, rfl, hv, hb⟩
    obtain ⟨g, c1, rfl, hg1, hg2, hc1, hc2⟩ := OwL.at_ hv (by omega)
    have HV := Lib.hid hv
    have hR := HR.out.below hb HR.out.lt
    have hK := HK.out.below hb HK.out.lt
    have hB := HB.out.trans (hb.mono HB.out.size)
    have hs2 : w.heap.size + 1 < w2.heap.size := hR.lt
    clear HR HK r0 r1 z0 z1 k0 k1 hb hv
    have HR := Lib.hid hR
    have HK := Lib.hid hK
    have HB2 := Lib.hid hB
    have k0 : (w2.alloc (.cells #[.int .i64 t, .slice (some ⟨g, 0, none⟩) l.length c1] 24)).cell? ⟨w.heap.size, 0, none⟩ = some (.int .i64 t) := (HK.out.alloc _).cell 0
    have k1 : (w2.alloc (.cells #[.int .i64 t, .slice (some ⟨g, 0, none⟩) l.length c1] 24)).cell? ⟨w.heap.size, 1, none⟩ = some (.slice A l.length c) := (HK.out.alloc _).cell 1
    clear hR hK hB hcb
    go_wp2_with fail
    have hL2 : RdB (w2.alloc (.cells #[.int .i64 t, .slice (some ⟨g, 0, none⟩) l.length c1] 24)) A l := (RdL.below HL.out HB2.out).alloc _
    refine (rPath_any _ _ _ _ j _ hL2 HF.out.up hj HF.out.len).mono ?_
    rintro e w3 ⟨vp, rfl, hv, hb⟩
    obtain ⟨A3, c3, rfl, _, _, _⟩ := OwL.rd hv
    obtain ⟨p, hp⟩ : ∃ p, p = pathL l j := ⟨_, rfl⟩
    have hr := hv
    rw [← hp, World.size_alloc] at hr
    have hpl : p.length ≤ 65 := by have := pathL_len l j; have := HF.out.len; rw [hp]; omega
    have hpl2 : (pathL l ↑j).length = p.length := by rw [hp]
    have HPL := Lib.hid (show ∀ x ∈ p, x < l.length from fun x hx => by rw [hp] at hx; exact (pathL_lt HF.out.up (j + 1) _ (by omega) (by omega) x hx).1)
    have hV3 := ((HV.out.alloc (.cells #[.int .i64 t, .slice (some ⟨g, 0, none⟩) l.length c1] 24)).below hb).lower (base' := w.heap.size) HB.out.size
    have hN3 := (Blk.new w2 24 #[.int .i64 t, .slice (some ⟨g, 0, none⟩) l.length c1]).below hb (by simp)
    have hR3 := (HR.out.alloc (.cells #[.int .i64 t, .slice (some ⟨g, 0, none⟩) l.length c1] 24)).below hb (by simp; omega)
    have hB3 := (HB2.out.alloc HB2.out.size (.cells #[.int .i64 t, .slice (some ⟨g, 0, none⟩) l.length c1] 24)).trans (hb.mono (by simp; omega))
    have HP := Lib.hid hp
    have HV3 := Lib.hid hV3
    have HN3 := Lib.hid hN3
    have HR3 := Lib.hid hR3
    have HB3 := Lib.hid hB3
    have HPR := Lib.hid hr
    have HG2 := Lib.hid hg2
    clear HV HK HR HB2 k0 k1 hL2 hv hr hV3 hN3 hR3 hB3 hb hp
    go_wp2
    go_loopw [12] (fun i wr => ∃ q : Nat, q ≤ p.length ∧ i = .int .i64 q ∧ Hid (OwB wr w.heap.size (.slice (some ⟨g, 0, none⟩) l.length c1) (takeW l n (p.take q))) ∧ Hid (OwI wr (w2.heap.size + 1) (.slice A3 p.length c3) p) ∧ Hid (Blk wr w2.heap.size 24 #[.int .i64 t, .slice (some ⟨g, 0, none⟩) l.length c1]) ∧ Hid (Blk wr (w.heap.size + 1) 24 #[.int .i64 0, .slice none 0 0]) ∧ Hid (Below w.heap.size w wr)) (fun i _ => p.length - (intOf i).toNat)
    case atStart => exact ⟨0, Nat.zero_le _, rfl, HV3, HPR, HN3, HR3, HB3⟩
    case round =>
      obtain ⟨q, hq, rfl, HO, HI, HN, HR, HB⟩ := hrel
      clear HV3 HN3 HR3 HB3 HPR
      have hs3 : w2.heap.size < wr.heap.size := HN.out.lt
      by_cases hlt : q < p.length
      · obtain ⟨ap, rfl, g0⟩ := RdI.at_ (OwL.rdA HI.out) hlt
        have hx := HPL.out p[q] (List.getElem_mem hlt)
        have hxl : p[q] < (takeW l n (p.take q)).length := by rw [takeW_length]; exact hx
        obtain ⟨f0, f1, f2, f3⟩ := OwB.cells HO.out hxl
        have z3 := OwL.frozen HO.out (p[q] * 4 + 3)
        have b1 : wr.cell? ⟨w2.heap.size, 1, none⟩ = some (.slice (some ⟨g, 0, none⟩) l.length c1) := HN.out.cell 1
        have n1 : w2.heap.size ≠ g := OwL.ne_blk HO.out HN.out (by decide)
        have n2 : w.heap.size + 1 ≠ g := OwL.ne_blk HO.out HR.out (by decide)
        clear f0 f1 f2
        go_wp2
        go_region
        all_goals
          go_wp2
          go_roundw
          case rel =>
            refine ⟨q + 1, by omega, by go_num, Lib.hid ?_, Lib.hid ?_, Lib.hid ?_, Lib.hid ?_, Lib.hid ?_⟩
            · have := OwB.tok HO.out hxl (wrap64 ((takeW l n (p.take q))[p[q]].tok - n))
              rw [← stepW_at hxl, ← takeW_snoc, ← List.take_succ_eq_append_getElem hlt] at this
              exact this
            · exact OwL.far (p := ⟨g, p[q] * 4 + 3, none⟩) HI.out (fun r hr h => by have := (OwL.lt HI.out r hr).1; have := HG2.out; simp at h; omega) _
            · exact HN.out.far n1 _
            · exact HR.out.far n2 _
            · exact (HB.out.setCell (p := ⟨g, p[q] * 4 + 3, none⟩) (by simp; have := hg1; omega) _).drew
          case measure => simp [intOf]; omega
      · obtain rfl : q = p.length := by omega
        have b0 : wr.cell? ⟨w2.heap.size, 0, none⟩ = some (.int .i64 t) := HN.out.cell 0
        have b1 : wr.cell? ⟨w2.heap.size, 1, none⟩ = some (.slice (some ⟨g, 0, none⟩) l.length c1) := HN.out.cell 1
        have r0 : wr.cell? ⟨w.heap.size + 1, 0, none⟩ = some (.int .i64 0) := HR.out.cell 0
        have r1 : wr.cell? ⟨w.heap.size + 1, 1, none⟩ = some (.slice none 0 0) := HR.out.cell 1
        have z0 := HR.out.frozen 0
        have z1 := HR.out.frozen 1
        go_wp2
        refine bodyPost_ret (v := .tuple #[.agg #[.int .i64 t, .slice (some ⟨g, 0, none⟩) l.length c1], .int .i64 0]) (by simp [results, Try.results22, go_sem, r0, r1]) rfl ⟨_, by unfold takT; rw [E1.out]; rfl, ?_, ?_⟩
        · unfold takL
          rw [E1.out, if_pos rfl, ← takeW_path HF.out hj (by omega) (by have := HAV.out; omega), ← HP.out]
          have ho := HO.out
          rw [List.take_length] at ho
          exact (ho.far (p := ⟨w.heap.size + 1, 0, none⟩) (OwL.apart ho HR.out (by decide)) _).far (p := ⟨w.heap.size + 1, 1, none⟩) (OwL.apart ho HR.out (by decide)) _
        · exact two_sets HB.out (by omega) _ _
  · have hcb : (findE t l k != 0) = true := by simp [hc]
    have E1 := Lib.hid (show takE t l k n = findE t l k by unfold takE; rw [if_neg hc])
    have HC := Lib.hid hc
    clear hc
    go_wp2
    exact bodyPost_ret (v := .tuple #[.agg #[.int .i64 0, .slice none 0 0], .int .i64 (findE t l k)]) (by simp [results, Try.results22, go_sem, r0, r1]) rfl (tak_err E1.out HC.out (two_sets HB.out (by omega) _ _))
end Go.Proofs.Ytlgahhfpdomdmaa

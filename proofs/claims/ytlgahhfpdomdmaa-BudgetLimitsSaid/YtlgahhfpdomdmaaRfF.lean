/- The walk through the reference's Available: what it computes. Condition: the slice lies in memory as a list. -/
import Derived.Test.YtlgahhfpdomdmaaRfE
set_option linter.unusedVariables false
set_option linter.unusedSimpArgs false
namespace Go.Proofs.Ytlgahhfpdomdmaa
open Go.RowKit

theorem leastT_snoc (l : List Bk) (n : Int) (p : List Nat) (i : Nat) : leastT l n (p ++ [i]) = min (leastT l n p) (tokAt l i) := by simp [leastT]
theorem tokAt_eq {l : List Bk} {i : Nat} (h : i < l.length) : tokAt l i = l[i].tok := by simp [tokAt, h]
set_option maxHeartbeats 1000000 in
theorem rAvailable_any (t : Int) (A : Option Addr) (c : Nat) (l : List Bk) (k : Int) (w : World) (hl : RdB w A l) :
    Calls Try.prog 20 #[.agg #[.int .i64 t, .slice A l.length c], .int .i64 k] w fun e w' => e = .returned (.tuple #[.int .i64 (avlV t l k), .int .i64 (findE t l k)]) ∧ Below w.heap.size w w' := by
  have hlen := hl.1
  have HL := Lib.hid hl
  clear hl
  go_enter Try.func20, Try.ntmps20
  go_wp2_with fail
  refine (exists_any _ _ _ _ _ _ ((HL.out).alloc _)).mono ?_
  rintro e w1 ⟨rfl, hb⟩
  have hK0 : Blk w1 w.heap.size 24 #[.int .i64 t, .slice A l.length c] := (Blk.new w 24 _).below hb (by simp)
  have hB0 : Below w.heap.size w w1 := ((Below.refl _ w).alloc (Nat.le_refl _) _).trans (hb.mono (by simp))
  have k0 : w1.cell? ⟨w.heap.size, 0, none⟩ = some (.int .i64 t) := hK0.cell 0
  have k1 : w1.cell? ⟨w.heap.size, 1, none⟩ = some (.slice A l.length c) := hK0.cell 1
  have HL1 := Lib.hid (((HL.out).alloc (.cells #[.int .i64 t, .slice A l.length c] 24)).below hb)
  have HK := Lib.hid hK0
  have HB := Lib.hid hB0
  clear hK0 hB0 hb
  by_cases hc : findE t l k = 0
  · have hcb : (findE t l k != 0) = false := by simp [hc]
    have hf := findE_zero.1 hc
    have E1 := Lib.hid (show avlV t l k = availL l k.toNat by unfold avlV; rw [if_pos hc])
    have HC := Lib.hid hc
    obtain ⟨n, rfl⟩ := Int.eq_ofNat_of_zero_le hf.2.1
    have hn : n < l.length := by omega
    have HF := Lib.hid hf.1.up
    have HN := Lib.hid hf.1.len
    clear hc hf
    go_wp2_with fail
    refine (rPath_any _ _ _ _ n _ HL1.out HF.out hn HN.out).mono ?_
    rintro e w2 ⟨v, rfl, hv, hb2⟩
    obtain ⟨A1, c1, rfl, _, _, hr⟩ := OwL.rd hv
    have hB2 := HB.out.trans (hb2.mono HB.out.size)
    have hK2 := HK.out.below hb2 HK.out.lt
    obtain ⟨ad, rfl, f0, f1, f2, f3⟩ := RdB.at_ (RdL.below HL.out hB2) hn
    have k1 : w2.cell? ⟨w.heap.size, 1, none⟩ = some (.slice (some ad) l.length c) := hK2.cell 1
    have HR2 := Lib.hid hr
    have HK2 := Lib.hid hK2
    have HB2 := Lib.hid hB2
    have hPl : ∀ x ∈ pathL l n, x < l.length := fun x hx => (pathL_lt HF.out (n + 1) _ (by omega) (by omega) x hx).1
    have HPL := Lib.hid hPl
    have HPN := Lib.hid (show ∃ p, p = pathL l n from ⟨_, rfl⟩)
    obtain ⟨p, hp⟩ := HPN.out
    rw [← hp] at HPL HR2 
    have hpl : p.length ≤ 65 := by have := pathL_len l n; have := HN.out; rw [hp]; omega
    have hpl2 : (pathL l ↑n).length = p.length := by rw [hp]
    have HP := Lib.hid hp
    clear HK HB hK2 hB2 hb2 hr hv hPl HPN hp
    go_wp2
    go_loopw [8, 9] (fun s i wr => ∃ j : Nat, j ≤ p.length ∧ i = .int .i64 j ∧ s = .int .i64 (leastT l (tokAt l n) (p.take j)) ∧ Hid (RdI wr A1 p) ∧ Hid (Blk wr w.heap.size 24 #[.int .i64 t, .slice (some ad) l.length c]) ∧ Hid (Below w.heap.size w wr)) (fun _ i _ => p.length - (intOf i).toNat)
    case atStart => exact ⟨0, by omega, rfl, by rw [tokAt_eq hn]; rfl, HR2, HK2, HB2⟩
    case round =>
      obtain ⟨j, hj, rfl, rfl, HR, HK, HB⟩ := hrel
      clear k0 k1 HK2 HB2
      by_cases hlt : j < p.length
      · obtain ⟨ap, rfl, g0⟩ := RdI.at_ HR.out hlt
        have hx := HPL.out p[j] (List.getElem_mem hlt)
        obtain ⟨ad', e, f0, f1, f2, f3⟩ := RdB.at_ (RdL.below HL.out HB.out) hx
        injection e with e
        subst e
        have k1 : wr.cell? ⟨w.heap.size, 1, none⟩ = some (.slice (some ad) l.length c) := HK.out.cell 1
        have HX := Lib.hid (show ∃ x, x = p[j] from ⟨_, rfl⟩)
        clear f0 f1 f2
        go_wp2
        go_region
        all_goals
          go_wp2
          go_roundw
          case rel =>
            refine ⟨j + 1, by omega, by go_num, ?_, Lib.hid (HR.out.below (Below.refl _ _).drew), HK, Lib.hid HB.out.drew⟩
            rw [List.take_succ_eq_append_getElem hlt, leastT_snoc, tokAt_eq hx]
            congr 1
            omega
          case measure => simp [intOf]; omega
      · obtain rfl : j = p.length := by omega
        go_wp2
        go_ret2
        refine ⟨by rw [E1.out, HC.out, List.take_length, HP.out]; rfl, HB.out⟩
  · have hcb : (findE t l k != 0) = true := by simp [hc]
    have E1 := Lib.hid (show avlV t l k = 0 by unfold avlV; rw [if_neg hc])
    clear hc
    go_wp2
    go_ret2
    exact ⟨by rw [E1.out]; rfl, HB.out⟩
end Go.Proofs.Ytlgahhfpdomdmaa

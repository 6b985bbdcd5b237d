/- The walks through budget.find and budget.Available. Condition: the slice lies in memory as a list. -/
import Derived.Test.YtlgahhfpdomdmaaWkC
import Derived.Test.YtlgahhfpdomdmaaWkD
set_option linter.unusedVariables false
set_option linter.unusedSimpArgs false
namespace Go.Proofs.Ytlgahhfpdomdmaa
open Go.RowKit Go.Shelf

theorem available_any (A : Option Addr) (cap : Nat) (l : List Bk) (hu : Up l) (k : Nat) (hk : k < l.length) (w : World) (hl : RdB w A l) :
    Calls Try.prog 33 #[.slice A l.length cap, .int .i64 k] w fun e w' => e = .returned (.int .i64 (availL l k)) ∧ Below w.heap.size w w' :=
  callsIn_wide.1 (available_in Fence.wide 8 trivial trivial trivial rfl (by omega) A cap l hu k hk w hl)

theorem find_any (t : Int) (A : Option Addr) (c : Nat) (l : List Bk) (k : Int) (w : World) (hl : RdB w A l) :
    Calls Try.prog 32 #[.agg #[.int .i64 t, .slice A l.length c], .int .i64 k] w fun e w' => e = .returned (.int .i64 (findE t l k)) ∧ Below w.heap.size w w' := by
  have hlen := hl.1
  have HL := Lib.hid hl
  clear hl
  go_enter Try.func32, Try.ntmps32
  go_wp2_with fail
  refine (Check_any _ _ _ _ _ ((HL.out).alloc _)).mono ?_
  rintro e w1 ⟨rfl, hb⟩
  have hK0 : Blk w1 w.heap.size 24 #[.int .i64 t, .slice A l.length c] := (Blk.new w 24 _).below hb (by simp)
  have hB0 : Below w.heap.size w w1 := ((Below.refl _ w).alloc (Nat.le_refl _) _).trans (hb.mono (by simp))
  have k1 : w1.cell? ⟨w.heap.size, 1, none⟩ = some (.slice A l.length c) := hK0.cell 1
  have HB := Lib.hid hB0
  clear hK0 hB0 hb
  by_cases hc : chk t l = 0
  · have hcb : (chk t l != 0) = false := by simp [hc]
    have HC := Lib.hid hc
    clear hc
    by_cases h1 : k < 0
    · have E1 := Lib.hid (show findE t l k = 7 by unfold findE; rw [if_pos HC.out, if_pos (.inl h1)])
      go_wp2
      go_ret
      exact ⟨ret_i E1.out.symm, HB.out⟩
    by_cases h2 : (l.length : Int) ≤ k
    · have E1 := Lib.hid (show findE t l k = 7 by unfold findE; rw [if_pos HC.out, if_pos (.inr h2)])
      go_wp2
      go_ret
      exact ⟨ret_i E1.out.symm, HB.out⟩
    have E1 := Lib.hid (show findE t l k = 0 by unfold findE; rw [if_pos HC.out, if_neg (by omega)])
    go_wp2
    go_ret
    exact ⟨ret_i E1.out.symm, HB.out⟩
  · have hcb : (chk t l != 0) = true := by simp [hc]
    have E1 := Lib.hid (show findE t l k = chk t l by unfold findE; rw [if_neg hc])
    clear hc
    go_wp2
    go_ret
    exact ⟨ret_i E1.out.symm, HB.out⟩

theorem Available_any (t : Int) (A : Option Addr) (c : Nat) (l : List Bk) (k : Int) (w : World) (hl : RdB w A l) :
    Calls Try.prog 19 #[.agg #[.int .i64 t, .slice A l.length c], .int .i64 k] w fun e w' => e = .returned (.tuple #[.int .i64 (avlV t l k), .int .i64 (findE t l k)]) ∧ Below w.heap.size w w' := by
  have hlen := hl.1
  have HL := Lib.hid hl
  clear hl
  go_enter Try.func19, Try.ntmps19
  go_wp2_with fail
  refine (find_any _ _ _ _ _ _ ((HL.out).alloc _)).mono ?_
  rintro e w1 ⟨rfl, hb⟩
  have hK0 : Blk w1 w.heap.size 24 #[.int .i64 t, .slice A l.length c] := (Blk.new w 24 _).below hb (by simp)
  have hB0 : Below w.heap.size w w1 := ((Below.refl _ w).alloc (Nat.le_refl _) _).trans (hb.mono (by simp))
  have k1 : w1.cell? ⟨w.heap.size, 1, none⟩ = some (.slice A l.length c) := hK0.cell 1
  have HL1 := Lib.hid (((HL.out).alloc (.cells #[.int .i64 t, .slice A l.length c] 24)).below hb)
  have HB := Lib.hid hB0
  clear hK0 hB0 hb
  by_cases hc : findE t l k = 0
  · have hcb : (findE t l k != 0) = false := by simp [hc]
    have hf := findE_zero.1 hc
    have E1 := Lib.hid (show avlV t l k = availL l k.toNat by unfold avlV; rw [if_pos hc])
    have HC := Lib.hid hc
    obtain ⟨n, rfl⟩ := Int.eq_ofNat_of_zero_le hf.2.1
    have hn : n < l.length := by omega
    have HF := Lib.hid hf.1.up
    clear hc hf
    go_wp2_with fail
    refine (available_any _ _ _ HF.out n hn _ HL1.out).mono ?_
    rintro e w2 ⟨rfl, hb2⟩
    go_wp2
    go_ret2
    exact ⟨by rw [E1.out, HC.out]; rfl, HB.out.trans (hb2.mono HB.out.size)⟩
  · have hcb : (findE t l k != 0) = true := by simp [hc]
    have E1 := Lib.hid (show avlV t l k = 0 by unfold avlV; rw [if_neg hc])
    clear hc
    go_wp2
    go_ret2
    exact ⟨by rw [E1.out]; rfl, HB.out⟩
end Go.Proofs.Ytlgahhfpdomdmaa

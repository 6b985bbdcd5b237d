/- The walk through the law BudgetAdvances; New and its reference agree. Condition: the slice lies in memory as a list. -/
import Derived.Test.YtlgahhfpdomdmaaLwb
set_option linter.unusedVariables false
set_option linter.unusedSimpArgs false
namespace Go.Proofs.Ytlgahhfpdomdmaa
open Go.RowKit

set_option maxHeartbeats 2000000 in
theorem BudgetAdvances_any (t : Int) (A : Option Addr) (c : Nat) (l : List Bk) (n : Int) (w : World) (hl : RdB w A l) :
    Calls Try.prog 4 #[.agg #[.int .i64 t, .slice A l.length c], .int .i64 n] w fun e w' => e = .returned (.bool true) ∧ Below w.heap.size w w' := by
  have hlen := hl.1
  have HL := Lib.hid hl
  clear hl
  by_cases h1 : 200 < l.length
  · go_enter Try.func4, Try.ntmps4
    go_wp2_with fail
    refine (awake_any _).mono ?_
    rintro e w1 ⟨rfl, hb⟩
    go_wp2
    go_ret
    exact ⟨rfl, ((Below.refl _ w).alloc (Nat.le_refl _) _).trans (hb.mono (by simp))⟩
  have H4 := Lib.hid (show l.length ≤ 4096 by omega)
  go_enter Try.func4, Try.ntmps4
  go_wp2_with fail
  refine (Advance_any _ _ _ _ _ _ ((HL.out).alloc _) H4.out).mono ?_
  rintro e w3 ⟨v, rfl, hv, hb⟩
  obtain ⟨A1, c1, rfl, _, _, hr⟩ := OwL.rd hv
  have HK := Lib.hid (((Blk.new w 24 #[.int .i64 t, .slice A l.length c]).below hb (by simp)).alloc (.cells #[.int .i64 (advT t l n), .slice A1 (advL t l n).length c1] 24))
  have hB := ((Below.refl _ w).alloc (Nat.le_refl _) (.cells #[.int .i64 t, .slice A l.length c] 24)).trans (hb.mono (by simp))
  have HX := Lib.hid (Blk.new w3 24 #[.int .i64 (advT t l n), .slice A1 (advL t l n).length c1])
  have HR := Lib.hid (hr.alloc (.cells #[.int .i64 (advT t l n), .slice A1 (advL t l n).length c1] 24))
  have hs1 := hB.size
  have hs2 : w.heap.size < w3.heap.size := ((Blk.new w 24 #[.int .i64 t, .slice A l.length c]).below hb (by simp)).lt
  have HB := Lib.hid (hB.alloc hs1 (.cells #[.int .i64 (advT t l n), .slice A1 (advL t l n).length c1] 24))
  clear hb hv hr hB
  have k0 : (w3.alloc (.cells #[.int .i64 (advT t l n), .slice A1 (advL t l n).length c1] 24)).cell? ⟨w.heap.size, 0, none⟩ = some (.int .i64 t) := HK.out.cell 0
  have k1 : (w3.alloc (.cells #[.int .i64 (advT t l n), .slice A1 (advL t l n).length c1] 24)).cell? ⟨w.heap.size, 1, none⟩ = some (.slice A l.length c) := HK.out.cell 1
  go_wp2_with fail
  refine (rAdvance_any _ _ _ _ _ _ (RdL.below HL.out HB.out) H4.out).mono ?_
  rintro e w4 ⟨v, rfl, hv, hb⟩
  obtain ⟨A2, c2, rfl, _, _, hr⟩ := OwL.rd hv
  have HX1 := Lib.hid ((HX.out.below hb HX.out.lt).alloc (.cells #[.int .i64 (advT t l n), .slice A2 (advL t l n).length c2] 24))
  have hs3 : w3.heap.size < w4.heap.size := (HX.out.below hb HX.out.lt).lt
  have HX2 := Lib.hid (Blk.new w4 24 #[.int .i64 (advT t l n), .slice A2 (advL t l n).length c2])
  have hB := HB.out.trans (hb.mono HB.out.size)
  have HR1 := Lib.hid ((RdL.below HR.out hb).alloc (.cells #[.int .i64 (advT t l n), .slice A2 (advL t l n).length c2] 24))
  have HR2 := Lib.hid (hr.alloc (.cells #[.int .i64 (advT t l n), .slice A2 (advL t l n).length c2] 24))
  have HB2 := Lib.hid (hB.alloc hB.size (.cells #[.int .i64 (advT t l n), .slice A2 (advL t l n).length c2] 24))
  clear HK HB hb k0 k1 hv hr hB HX HR
  go_wp2_with fail
  refine (awake_any _).mono ?_
  rintro e w5 ⟨rfl, hb⟩
  have hX1 := HX1.out.below hb HX1.out.lt
  have hX2 := HX2.out.below hb HX2.out.lt
  have x0 : w5.cell? ⟨w3.heap.size, 0, none⟩ = some (.int .i64 (advT t l n)) := hX1.cell 0
  have x1 : w5.cell? ⟨w3.heap.size, 1, none⟩ = some (.slice A1 (advL t l n).length c1) := hX1.cell 1
  have y0 : w5.cell? ⟨w4.heap.size, 0, none⟩ = some (.int .i64 (advT t l n)) := hX2.cell 0
  have y1 : w5.cell? ⟨w4.heap.size, 1, none⟩ = some (.slice A2 (advL t l n).length c2) := hX2.cell 1
  have HB := Lib.hid (HB2.out.trans (hb.mono HB2.out.size))
  have HS1 := Lib.hid (RdL.below HR1.out hb)
  have HS2 := Lib.hid (RdL.below HR2.out hb)
  clear hX1 hX2 hb HX1 HX2 HB2 HR1 HR2
  go_wp2_with fail
  refine (Same_any _ _ _ _ _ _ _ _ _ HS1.out HS2.out).mono ?_
  rintro e w6 ⟨rfl, hb⟩
  rw [sameB_self]
  have HB2 := Lib.hid (HB.out.trans (hb.mono HB.out.size))
  clear hb HB HS1 HS2 x0 x1 y0 y1
  go_wp2
  go_ret
  exact ⟨rfl, HB2.out⟩

theorem full_eq {l : List Bk} (h : chk 0 (l.map Bk.fullR) = 0 ∨ chk 0 (l.map Bk.full) = 0) : l.map Bk.full = l.map Bk.fullR := by
  apply List.map_congr_left
  intro x hx
  obtain ⟨k, hk, rfl⟩ := List.getElem_of_mem hx
  have hb : 0 ≤ l[k].burst := by
    rcases h with h | h
    · have := ((chk_zero.1 h).at_ k (by simpa using hk)).b0
      simpa [Bk.fullR] using this
    · have := ((chk_zero.1 h).at_ k (by simpa using hk)).b0
      simpa [Bk.full] using this
  unfold Bk.full Bk.fullR
  rw [Int.max_eq_left hb]
theorem bErr_full (x : Bk) (i : Int) : bErr x.full i = bErr x.fullR i := by
  unfold bErr Bk.full Bk.fullR
  simp only
  by_cases h : 0 ≤ x.burst
  · rw [Int.max_eq_left h]
  · rw [if_neg (show ¬ ((0 ≤ x.rate ∧ x.rate ≤ 1073741824) ∧ (0 ≤ x.burst ∧ x.burst ≤ 1073741824) ∧ 0 ≤ max x.burst 0 ∧ max x.burst 0 ≤ x.burst) by omega), if_neg (show ¬ ((0 ≤ x.rate ∧ x.rate ≤ 1073741824) ∧ (0 ≤ x.burst ∧ x.burst ≤ 1073741824) ∧ 0 ≤ x.burst ∧ x.burst ≤ x.burst) by omega)]
theorem bksErr_full (l : List Bk) : ∀ i : Int, bksErr (l.map Bk.full) i = bksErr (l.map Bk.fullR) i := by
  induction l with
  | nil => intro i; rfl
  | cons x l ih => intro i; simp only [List.map_cons, bksErr, bErr_full, ih]
theorem chk_full (l : List Bk) : chk 0 (l.map Bk.full) = chk 0 (l.map Bk.fullR) := by
  unfold chk
  simp only [List.length_map, bksErr_full]
theorem new_same (l : List Bk) : (if chk 0 (l.map Bk.full) = 0 then l.map Bk.full else []) = (if chk 0 (l.map Bk.fullR) = 0 then l.map Bk.fullR else []) := by
  rw [chk_full]
  split
  · rename_i h; exact full_eq (.inl h)
  · rfl
end Go.Proofs.Ytlgahhfpdomdmaa

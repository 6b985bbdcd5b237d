/- The walks through the reference's exists and Path: what each computes. Conditions: the slice lies in memory as a list; for Path each parent lies before its child. -/
import Derived.Test.YtlgahhfpdomdmaaRfD
set_option linter.unusedVariables false
set_option linter.unusedSimpArgs false
namespace Go.Proofs.Ytlgahhfpdomdmaa
open Go.RowKit

theorem exists_any (t : Int) (A : Option Addr) (c : Nat) (l : List Bk) (k : Int) (w : World) (hl : RdB w A l) :
    Calls Try.prog 34 #[.agg #[.int .i64 t, .slice A l.length c], .int .i64 k] w fun e w' => e = .returned (.int .i64 (findE t l k)) ∧ Below w.heap.size w w' := by
  have hlen := hl.1
  have HL := Lib.hid hl
  clear hl
  go_enter Try.func34, Try.ntmps34
  go_wp2_with fail
  refine (rCheck_any _ _ _ _ _ ((HL.out).alloc _)).mono ?_
  rintro e w1 ⟨rfl, hb⟩
  have hK0 : Blk w1 w.heap.size 24 #[.int .i64 t, .slice A l.length c] := (Blk.new w 24 _).below hb (by simp)
  have hB0 : Below w.heap.size w w1 := ((Below.refl _ w).alloc (Nat.le_refl _) _).trans (hb.mono (by simp))
  have k1 : w1.cell? ⟨w.heap.size, 1, none⟩ = some (.slice A l.length c) := hK0.cell 1
  have HB := Lib.hid hB0
  clear hK0 hB0 hb
  by_cases hc : chk t l = 0
  · have hcb : (chk t l != 0) = false := by simp [hc]
    have HC := Lib.hid hc
    clear hc
    by_cases h1 : k < 0
    · have E1 := Lib.hid (show findE t l k = 7 by unfold findE; rw [if_pos HC.out, if_pos (.inl h1)])
      go_wp2
      go_ret
      exact ⟨ret_i E1.out.symm, HB.out⟩
    by_cases h2 : (l.length : Int) ≤ k
    · have E1 := Lib.hid (show findE t l k = 7 by unfold findE; rw [if_pos HC.out, if_pos (.inr h2)])
      go_wp2
      go_ret
      exact ⟨ret_i E1.out.symm, HB.out⟩
    have E1 := Lib.hid (show findE t l k = 0 by unfold findE; rw [if_pos HC.out, if_neg (by omega)])
    go_wp2
    go_ret
    exact ⟨ret_i E1.out.symm, HB.out⟩
  · have hcb : (chk t l != 0) = true := by simp [hc]
    have E1 := Lib.hid (show findE t l k = chk t l by unfold findE; rw [if_neg hc])
    clear hc
    go_wp2
    go_ret
    exact ⟨ret_i E1.out.symm, HB.out⟩


/-- A whole number in one cell. -/
def eI : Enc Nat := { size := 1, pos := by omega, cells := fun x => [.int .i64 x], len := fun _ => rfl, one := fun x u hu => by simp at hu; subst hu; rfl }
abbrev RdI := RdL eI
abbrev OwI := OwL eI 3
theorem info3 : (Try.prog.info? 3).map (fun i => (i.zero, i.size, i.bytes)) = some (some (.int .i64 0), 1, 8) := by kernel_rfl
theorem pathF_len (l : List Bk) : ∀ (f : Nat) (i : Int), (pathF l f i).length ≤ f := by
  intro f
  induction f with
  | zero => intro i; simp [pathF]
  | succ f ih =>
    intro i
    simp only [pathF]
    split
    · have := ih (l[i.toNat]'(by rename_i h; exact h.2)).par
      simp; omega
    · simp
theorem pathL_len (l : List Bk) (i : Int) : (pathL l i).length ≤ l.length + 1 := pathF_len l _ i
theorem RdI.at_ {w : World} {A : Option Addr} {l : List Nat} (h : RdI w A l) {k : Nat} (hk : k < l.length) : ∃ ad, A = some ad ∧ w.cell? (ad.add k) = some (.int .i64 (l[k] : Nat)) := by
  obtain ⟨ad, e, hc⟩ := RdL.at_ h hk
  refine ⟨ad, e, ?_⟩
  have := hc 0 _ rfl
  simpa [eI] using this

set_option maxHeartbeats 1000000 in
theorem rPath_any (t : Int) (A : Option Addr) (c : Nat) (l : List Bk) (k : Nat) (w : World) (hl : RdB w A l) (hu : Up l) (hk : k < l.length) (hlen : l.length ≤ 64) :
    Calls Try.prog 35 #[.agg #[.int .i64 t, .slice A l.length c], .int .i64 k] w fun e w' => ∃ v, e = .returned v ∧ OwI w' w.heap.size v (pathL l k) ∧ Below w.heap.size w w' := by
  have HL := Lib.hid hl
  clear hl
  obtain ⟨i0, hi, hz0, hz1, hz2⟩ := info_parts info3
  go_enter Try.func35, Try.ntmps35
  go_wp2
  have GK := Lib.hid (Blk.new w 24 #[.int .i64 t, .slice A l.length c])
  go_loopw [1, 5] (fun b o wr => ∃ (q : Int) (pre : List Nat), -1 ≤ q ∧ q < l.length ∧ b = .int .i64 q ∧ Hid (OwI wr w.heap.size o pre) ∧ Hid (pre ++ pathL l q = pathL l k) ∧ Hid (Blk wr w.heap.size 24 #[.int .i64 t, .slice A l.length c]) ∧ Hid (Below w.heap.size w wr)) (fun b _ _ => (intOf b + 1).toNat)
  case atStart => exact ⟨k, [], by omega, by omega, rfl, Lib.hid (OwL.nil _ _ _ _), Lib.hid (by simp), GK, Lib.hid ((Below.refl _ _).alloc (Nat.le_refl _) _)⟩
  case round =>
    rename_i o
    obtain ⟨q, pre, hq0, hq1, rfl, HV, HP, HK, HB⟩ := hrel
    clear GK
    have hs1 : w.heap.size < wr.heap.size := HK.out.lt
    by_cases hneg : q < 0
    · go_wp2
      go_ret
      refine ⟨_, rfl, ?_, HB.out⟩
      have := HP.out
      rw [pathL_neg hneg, List.append_nil] at this
      rw [← this]
      exact HV.out
    · obtain ⟨j, rfl⟩ := Int.eq_ofNat_of_zero_le (show 0 ≤ q by omega)
      have hj : j < l.length := by omega
      have hp := hu j hj
      obtain ⟨ad, rfl, f0, f1, f2, f3⟩ := RdB.at_ (RdL.below HL.out HB.out) hj
      have k1 : wr.cell? ⟨w.heap.size, 1, none⟩ = some (.slice (some ad) l.length c) := HK.out.cell 1
      have HS := Lib.hid (pathL_step hu hj)
      have hp0 := hp.1
      have hp1 := hp.2
      clear hp f0 f1 f2 f3
      obtain ⟨A1, c1, rfl, _, _, _⟩ := OwL.rd HV.out
      have hpl : pre.length + 1 ≤ l.length + 1 := by
        have := pathL_len l k
        rw [← HP.out, HS.out] at this
        simp at this
        omega
      have HBX : Hid (RdI (wr.alloc (.cells #[.int .i64 j] 3)) (some ⟨wr.heap.size, 0, none⟩) [j]) := Lib.hid (RdL.box (E := eI) wr j 3)
      have HK1 : Hid (pre.length + [j].length ≤ maxLen) := Lib.hid (by simp only [maxLen, List.length_singleton]; omega)
      have HK2 : Hid ((pre.length + [j].length) * 8 ≤ 140737488355328) := Lib.hid (by simp only [List.length_singleton]; omega)
      have HBS : Hid (w.heap.size ≤ (wr.alloc (.cells #[.int .i64 j] 3)).heap.size) := Lib.hid (by simp; omega)
      have HFA : Hid (∀ v1 w1, OwI w1 w.heap.size v1 (pre ++ [j]) → (wr.alloc (.cells #[.int .i64 j] 3)).grownBy w1 (Value.slice A1 pre.length c1).ownBlock → Hid (Blk w1 w.heap.size 24 #[.int .i64 t, .slice (some ad) l.length c]) ∧ Hid (Below w.heap.size w w1) ∧ w1.cell? ⟨w.heap.size, 1, none⟩ = some (.slice (some ad) l.length c) ∧ w1.cell? (ad.add (j * 4)) = some (.int .i64 (l[j]).par)) := by
        refine Lib.hid fun v1 w1 hown hg => ?_
        have hne0 : ∀ q, (Value.slice A1 pre.length c1).ownBlock = some q → q ≠ w.heap.size := OwL.apart HV.out HK.out (by decide)
        have HR1 := (HK.out.alloc _).grown hg (fun h => hne0 _ h.symm rfl)
        have hlt1 : ∀ q, (Value.slice A1 pre.length c1).ownBlock = some q → w.heap.size ≤ q := fun q h => (OwL.lt HV.out q h).1
        have hB := (HB.out.alloc HB.out.size _).grown hg HBS.out hlt1
        obtain ⟨ad', e, f0, f1, f2, f3⟩ := RdB.at_ (RdL.below HL.out hB) hj
        injection e with e
        subst e
        exact ⟨Lib.hid HR1, Lib.hid hB, HR1.cell 1, f0⟩
      go_wp2_with (at_builtin; go_loud (refine wpList_append_all (E := eI) _ rfl (.tmp 8) (.tmp 10) _ rfl w.heap.size 3 i0 _ 8 Try.underlying76 hi hz0 hz1 hz2 rfl (.slice A1 pre.length c1) pre rfl (HV.out.alloc _) (some ⟨wr.heap.size, 0, none⟩) 1 [j] rfl HBX.out (by simp) HK1.out HK2.out HBS.out ?_); intro v1 w1 hown hg hat; obtain ⟨HR1, HB1, p1, p2⟩ := HFA.out v1 w1 hown hg; replace hown := Lib.hid hown; clear hg hat)
      go_roundw
      case rel => exact ⟨_, pre ++ [j], hp0, by omega, rfl, hown, Lib.hid (by rw [← HP.out, HS.out, List.append_assoc]; rfl), HR1, HB1⟩
      case measure => simp [intOf]; omega
end Go.Proofs.Ytlgahhfpdomdmaa

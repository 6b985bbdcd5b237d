/- The walk through the reference Check: what it computes. Condition: the slice lies in memory as a list. -/
import Derived.Test.YtlgahhfpdomdmaaWkA
set_option linter.unusedVariables false
set_option linter.unusedSimpArgs false
namespace Go.Proofs.Ytlgahhfpdomdmaa
open Go.RowKit

set_option maxHeartbeats 2000000 in
theorem rCheck_any (t : Int) (A : Option Addr) (c : Nat) (l : List Bk) (w : World) (hl : RdB w A l) :
    Calls Try.prog 16 #[.agg #[.int .i64 t, .slice A l.length c]] w fun e w' => e = .returned (.int .i64 (chk t l)) ∧ Below w.heap.size w w' := by
  have hlen := hl.1
  have HL := Lib.hid hl
  clear hl
  by_cases h1 : 64 < l.length
  · go_enter Try.func16, Try.ntmps16
    go_wp2
    go_ret
    exact ⟨ret_i (by simp [chk, h1]), (Below.refl _ _).alloc (Nat.le_refl _) _⟩
  by_cases h2 : t < 0
  · go_enter Try.func16, Try.ntmps16
    go_wp2
    go_ret
    exact ⟨ret_i (by simp [chk, h1, h2]), (Below.refl _ _).alloc (Nat.le_refl _) _⟩
  by_cases h3 : 1073741824 < t
  · go_enter Try.func16, Try.ntmps16
    go_wp2
    go_ret
    exact ⟨ret_i (by simp [chk, h1, h3]), (Below.refl _ _).alloc (Nat.le_refl _) _⟩
  have hchk : chk t l = bksErr l 0 := by simp [chk, h1, h2, h3]
  have HC := Lib.hid hchk
  clear hchk
  go_enter Try.func16, Try.ntmps16
  go_wp2
  have GK := Lib.hid (Blk.new w 24 #[.int .i64 t, .slice A l.length c])
  go_loopw [3] (fun i wr => ∃ k : Nat, k ≤ l.length ∧ i = .int .i64 k ∧ Hid (bksErr l 0 = bksErr (l.drop k) k) ∧ Hid (Blk wr w.heap.size 24 #[.int .i64 t, .slice A l.length c]) ∧ Hid (Below w.heap.size w wr)) (fun i _ => l.length - (intOf i).toNat)
  case atStart => exact ⟨0, Nat.zero_le _, rfl, Lib.hid rfl, GK, Lib.hid ((Below.refl _ _).alloc (Nat.le_refl _) _)⟩
  case round =>
    obtain ⟨k, hk, rfl, HE, HK, HB⟩ := hrel
    clear GK
    have k1 : wr.cell? ⟨w.heap.size, 1, none⟩ = some (.slice A l.length c) := HK.out.cell 1
    by_cases hlt : k < l.length
    · obtain ⟨ad, rfl, c0, c1, c2, c3⟩ := RdB.at_ (RdL.below HL.out HB.out) hlt
      have HD := Lib.hid (bksErr_drop hlt)
      by_cases hb : bErr l[k] k = 0
      · have ok := bErr_zero.1 hb
        have p0 := ok.p0
        have p1 := ok.p1
        have r0 := ok.r0
        have r1 := ok.r1
        have b0 := ok.b0
        have b1 := ok.b1
        have t0 := ok.t0
        have t1 := ok.t1
        have HBE := Lib.hid hb
        clear hb ok
        go_wp2
        go_roundw
        case rel =>
          exact ⟨k + 1, by omega, by go_num, Lib.hid (by rw [HE.out, HD.out, if_pos HBE.out]), Lib.hid (HK.out.alloc _), Lib.hid (HB.out.alloc HB.out.size _)⟩
        case measure => simp [intOf]; omega
      · have HBE := Lib.hid hb
        clear hb
        have hfin : chk t l = bErr l[k] k := by rw [HC.out, HE.out, HD.out, if_neg HBE.out]
        have HF := Lib.hid hfin
        clear hfin
        go_wp2
        all_goals
          first
          | (exfalso; exact HBE.out (bErr_zero.2 ⟨by omega, by omega, by omega, by omega, by omega, by omega, by omega, by omega⟩))
          | (go_ret
             refine ⟨ret_i ?_, HB.out.alloc HB.out.size _⟩
             rw [HF.out]
             unfold bErr
             first
             | (rw [if_pos (by omega)])
             | (rw [if_neg (by omega), if_neg (by omega)]))
    · go_wp2
      go_ret
      refine ⟨ret_i ?_, HB.out⟩
      rw [HC.out, HE.out, List.drop_of_length_le (by omega), bksErr]
end Go.Proofs.Ytlgahhfpdomdmaa

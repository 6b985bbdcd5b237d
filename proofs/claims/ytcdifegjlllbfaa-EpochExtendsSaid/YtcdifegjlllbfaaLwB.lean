/- The walks through the laws EpochChecks and EpochExtends. Condition: the slice lies in memory as a list. -/
import Derived.Test.YtcdifegjlllbfaaAw
set_option linter.unusedVariables false
set_option linter.unusedSimpArgs false
namespace Go.Proofs.Ytcdifegjlllbfaa
open Go.RowKit

set_option maxRecDepth 100000 in
set_option maxHeartbeats 4000000 in
theorem EpochChecks_any (A : Option Addr) (cp : Nat) (l : List Sp) (c : Int) (w : World) (hl : RdS w A l) : Calls Try.prog 7 #[.slice A l.length cp, .int .i64 c] w fun e w' => e = .returned (.bool true) ∧ Below w.heap.size w w' := by
  have hlen := hl.1
  have HL := Lib.hid hl
  clear hl
  by_cases h50 : 50 < l.length
  · go_enter Try.func7, Try.ntmps7
    go_wp2_with fail
    refine (awake_any _).mono ?_
    rintro e w1 ⟨rfl, hb⟩
    go_wp2
    go_ret
    exact ⟨rfl, hb⟩
  obtain ⟨x, hx⟩ : ∃ x, x = epoV l c := ⟨_, rfl⟩
  have HX := Lib.hid hx
  obtain ⟨b, hbb⟩ : ∃ x, x = epoB l c := ⟨_, rfl⟩
  have HBB := Lib.hid hbb
  obtain ⟨E, hE⟩ : ∃ x, x = chkL l := ⟨_, rfl⟩
  have HE := Lib.hid hE
  have heqb : (b == b) = true := by simp
  clear hx hbb hE
  go_enter Try.func7, Try.ntmps7
  go_wp2_with fail
  refine (Epo_any _ _ _ _ _ HL.out).mono ?_
  rintro e w1 ⟨rfl, hb⟩
  rw [← HX.out, ← HBB.out]
  have K1 := Lib.hid hb
  clear hb
  go_wp2_with fail
  refine (rEpo_any _ _ _ _ _ (RdL.below HL.out K1.out)).mono ?_
  rintro e w2 ⟨rfl, hb⟩
  rw [← HX.out, ← HBB.out]
  have K2 := Lib.hid (K1.out.trans (hb.mono K1.out.size))
  clear hb K1
  go_wp2_with fail
  refine (awake_any _).mono ?_
  rintro e w3 ⟨rfl, hb⟩
  have K1 := Lib.hid (K2.out.trans (hb.mono K2.out.size))
  clear hb K2
  go_wp2_with fail
  refine (Chk_any _ _ _ _ (RdL.below HL.out K1.out)).mono ?_
  rintro e w4 ⟨rfl, hb⟩
  rw [← HE.out]
  have K2 := Lib.hid (K1.out.trans (hb.mono K1.out.size))
  clear hb K1
  go_wp2_with fail
  refine (rChk_any _ _ _ _ (RdL.below HL.out K2.out)).mono ?_
  rintro e w5 ⟨rfl, hb⟩
  rw [← HE.out]
  have K1 := Lib.hid (K2.out.trans (hb.mono K2.out.size))
  clear hb K2
  go_wp2_with fail
  refine (Tru_any _ _ _ _ _ (RdL.below HL.out K1.out) (by omega)).mono ?_
  rintro e w6 ⟨v, rfl, hv, hb⟩
  obtain ⟨A6, c6, rfl, _, _, hr6⟩ := OwL.rd hv
  have HR6 := Lib.hid hr6
  have K2 := Lib.hid (K1.out.trans (hb.mono K1.out.size))
  clear hb K1 hv hr6
  go_wp2_with fail
  refine (rTru_any _ _ _ _ _ (RdL.below HL.out K2.out) (by omega)).mono ?_
  rintro e w7 ⟨v, rfl, hv, hb⟩
  obtain ⟨A7, c7, rfl, _, _, hr7⟩ := OwL.rd hv
  have HR7 := Lib.hid hr7
  have HR6' := Lib.hid (RdL.below HR6.out hb)
  have K1 := Lib.hid (K2.out.trans (hb.mono K2.out.size))
  clear hb K2 hv hr7 HR6
  go_wp2_with fail
  refine (SameS_any _ _ _ _ _ _ _ HR6'.out HR7.out).mono ?_
  rintro e w8 ⟨rfl, hb⟩
  rw [sameS_self]
  have K2 := Lib.hid (K1.out.trans (hb.mono K1.out.size))
  clear hb K1
  go_wp2
  go_ret
  exact ⟨rfl, K2.out⟩
set_option maxRecDepth 100000 in
set_option maxHeartbeats 4000000 in
theorem EpochExtends_any (A : Option Addr) (cp : Nat) (l : List Sp) (n c : Int) (w : World) (hl : RdS w A l) : Calls Try.prog 8 #[.slice A l.length cp, .int .i64 n, .int .i64 c] w fun e w' => e = .returned (.bool true) ∧ Below w.heap.size w w' := by
  have hlen := hl.1
  have HL := Lib.hid hl
  clear hl
  by_cases h50 : 50 < l.length
  · go_enter Try.func8, Try.ntmps8
    go_wp2_with fail
    refine (awake_any _).mono ?_
    rintro e w1 ⟨rfl, hb⟩
    go_wp2
    go_ret
    exact ⟨rfl, hb⟩
  obtain ⟨E, hE⟩ : ∃ x, x = extE l n c := ⟨_, rfl⟩
  have HE := Lib.hid hE
  clear hE
  go_enter Try.func8, Try.ntmps8
  go_wp2_with fail
  refine (Ext_any _ _ _ _ _ _ HL.out (by omega)).mono ?_
  rintro e w1 ⟨v, rfl, hv, hb⟩
  rw [← HE.out]
  obtain ⟨A1, c1, rfl, _, _, hr⟩ := OwL.rd hv
  have HR1 := Lib.hid hr
  have K1 := Lib.hid hb
  clear hb hv hr
  go_wp2_with fail
  refine (rExt_any _ _ _ _ _ _ (RdL.below HL.out K1.out) (by omega)).mono ?_
  rintro e w2 ⟨v, rfl, hv, hb⟩
  rw [← HE.out]
  obtain ⟨A2, c2, rfl, _, _, hr⟩ := OwL.rd hv
  have HR2 := Lib.hid hr
  have HR1' := Lib.hid (RdL.below HR1.out hb)
  have K2 := Lib.hid (K1.out.trans (hb.mono K1.out.size))
  clear hb K1 hv hr HR1
  go_wp2_with fail
  refine (awake_any _).mono ?_
  rintro e w3 ⟨rfl, hb⟩
  have HR1 := Lib.hid (RdL.below HR1'.out hb)
  have HR2' := Lib.hid (RdL.below HR2.out hb)
  have K1 := Lib.hid (K2.out.trans (hb.mono K2.out.size))
  clear hb K2 HR1' HR2
  go_wp2_with fail
  refine (SameS_any _ _ _ _ _ _ _ HR1.out HR2'.out).mono ?_
  rintro e w4 ⟨rfl, hb⟩
  rw [sameS_self]
  have K2 := Lib.hid (K1.out.trans (hb.mono K1.out.size))
  clear hb K1
  go_wp2
  go_ret
  exact ⟨rfl, K2.out⟩
end Go.Proofs.Ytcdifegjlllbfaa

/- The walks through the reference's End and Extend. Condition: the slice lies in memory as a list of at most 4096 spans. -/
import Derived.Test.YtcdifegjlllbfaaRfT
set_option linter.unusedVariables false
set_option linter.unusedSimpArgs false
namespace Go.Proofs.Ytcdifegjlllbfaa
open Go.RowKit

theorem rEnd_any (A : Option Addr) (c : Nat) (l : List Sp) (w : World) (hl : RdS w A l) :
    Calls Try.prog 68 #[.slice A l.length c] w fun e w' => e = .returned (.tuple #[.int .i64 (tailS l).ep, .int .i64 (tailS l).to]) ∧ Below w.heap.size w w' := by
  have hlen := hl.1
  by_cases h : l.length = 0
  · have hz0 : ((l.length : Int) == 0) = true := by simp [h]
    have HT : Hid (tailS l = sp0) := Lib.hid (by rw [List.eq_nil_of_length_eq_zero h]; rfl)
    have HZ := Lib.hid h
    clear hl h
    go_enter Try.func68, Try.ntmps68
    go_wp2
    go_ret2
    exact ⟨by rw [HT.out]; rfl, Below.refl _ _⟩
  · have hz0 : ((l.length : Int) == 0) = false := beq_eq_false_iff_ne.2 (by omega)
    have HT := Lib.hid (tailS_at (l := l) (by omega))
    obtain ⟨ad, rfl, f0, f1, f2⟩ := RdS.at_ hl (show l.length - 1 < l.length by omega)
    obtain ⟨x, hx⟩ : ∃ x, x = l[l.length - 1] := ⟨_, rfl⟩
    rw [← hx] at f0 f1 f2 HT
    have hi : (((l.length : Int) - 1).toNat) = l.length - 1 := by omega
    have hw : IntKind.i64.wrap ((l.length : Int) - 1) = (l.length : Int) - 1 := IntWalk.i64_in _ (by omega)
    have h1 : (1 : Int) ≤ l.length := by omega
    have h1' : 0 ≤ (l.length : Int) - 1 := by omega
    have h2' : (l.length : Int) - 1 < l.length := by omega
    clear hl hx h
    go_enter Try.func68, Try.ntmps68
    go_wp2
    go_quiet (fail)
    go_wp2
    go_ret2
    exact ⟨by rw [HT.out]; rfl, below_drewN (Below.refl _ _) _⟩
set_option maxRecDepth 100000 in
set_option maxHeartbeats 4000000 in
theorem rExt_any (A : Option Addr) (cp : Nat) (l : List Sp) (n c : Int) (w : World) (hl : RdS w A l) (h4096 : l.length ≤ 4096) :
    Calls Try.prog 34 #[.slice A l.length cp, .int .i64 n, .int .i64 c] w (ExtPost w l n c) := by
  have HL := Lib.hid hl
  clear hl
  have HD : Hid (extE l n c = if chkL l = 0 then extF n c (tailS l) else chkL l) := Lib.hid rfl
  obtain ⟨i0, hi, hz0, hz1, hz2⟩ := info_parts info107
  go_enter Try.func34, Try.ntmps34
  go_wp2_with fail
  refine (rChk_any _ _ _ _ HL.out).mono ?_
  rintro e w1 ⟨rfl, hb⟩
  have HB1 := Lib.hid hb
  clear hb
  obtain ⟨E, hE⟩ : ∃ E, E = chkL l := ⟨_, rfl⟩
  have HE := Lib.hid hE
  rw [← hE] at HD ⊢
  clear hE
  by_cases h : E = 0
  · rw [if_pos h] at HD
    subst h
    by_cases hr : (1 ≤ n ∧ n ≤ 1073741824) ∧ (1 ≤ c ∧ c ≤ 1073741824)
    · obtain ⟨⟨n0, n1⟩, q0, q1⟩ := hr
      have HD2 : Hid (extE l n c = if (tailS l).ep ≤ n then (if (tailS l).to < c then 0 else 8) else 13) := Lib.hid (by
        rw [HD.out]; unfold extF; exact if_pos (by simp [inB]; omega))
      clear HD
      go_wp2_with fail
      refine (rEnd_any _ _ _ _ (RdL.below HL.out HB1.out)).mono ?_
      rintro e w2 ⟨rfl, hb⟩
      have HB2 := Lib.hid (HB1.out.trans (hb.mono HB1.out.size))
      obtain ⟨x, hx⟩ : ∃ x, x = tailS l := ⟨_, rfl⟩
      have HX := Lib.hid hx
      have hx0 : 0 ≤ x.to ∧ x.to ≤ 1073741824 := by rw [hx]; exact tail_to (chkL_zero.1 HE.out.symm)
      obtain ⟨hx0, hx1⟩ := hx0
      rw [← hx] at HD2 ⊢
      clear hx hb HB1
      by_cases h1 : x.ep ≤ n
      · by_cases h2 : x.to < c
        · have HD0 : Hid (extE l n c = 0) := Lib.hid (by rw [HD2.out, if_pos h1, if_pos h2])
          have HEL : Hid (extL l n c = extM l n c) := Lib.hid (by unfold extL; rw [HD0.out, if_pos rfl])
          have HRD : Hid (RdS w2 A l) := Lib.hid (RdL.below HL.out HB2.out)
          have HNA : Hid (A = none → l = []) := Lib.hid fun e => by have := HL.out; rw [e] at this; exact RdL.none_ this
          clear HD2
          have hs2 : w.heap.size ≤ w2.heap.size := HB2.out.size
          by_cases hnl : 0 < l.length ∧ n = x.ep
          · obtain ⟨hl0, hne⟩ := hnl
            have hb1 : (n == x.ep) = true := by simp [hne]
            have HM : Hid (extM l n c = l.set (l.length - 1) ⟨x.ep, x.fr, c⟩) := Lib.hid (by unfold extM; rw [if_pos ⟨fun e => by rw [e] at hl0; simp at hl0, hne.trans (by rw [HX.out])⟩, HX.out]; exact set_last hl0)
            have hw : IntKind.i64.wrap ((l.length : Int) - 1) = (l.length : Int) - 1 := IntWalk.i64_in _ (by omega)
            have h1' : 0 ≤ (l.length : Int) - 1 := by omega
            have h1 : (1 : Int) ≤ l.length := by omega
            have hi' : (((l.length : Int) - 1).toNat) = l.length - 1 := by omega
            have hd0 : decide (0 < l.length) = true := by simpa using hl0
            have HLP := Lib.hid hl0
            clear hne
            go_wp2_with (at_builtin; refine wpList_append_all (E := eS) _ rfl (.tmp 42) (.tmp 43) 60 rfl w.heap.size 107 i0 _ 24 Try.underlying60 hi hz0 hz1 hz2 rfl (.slice none 0 0) [] rfl (OwL.nil _ _ _ _) A cp l rfl HRD.out HNA.out (by simp only [maxLen, List.length_nil]; omega) (by simp only [List.length_nil]; omega) hs2 ?_; intro v1 w3 hown hg hat; rw [List.nil_append] at hown; obtain ⟨g, cap, rfl, hg0, hg1, hg2⟩ := OwL.at_ hown HLP.out; have hzz := OwL.frozen hown ((l.length - 1) * 3 + 2); have hc2 : w3.cell? ⟨g, (l.length - 1) * 3 + 2, none⟩ = some (.int .i64 l[l.length - 1].to) := OwL.cell hown (show l.length - 1 < l.length by omega) (j := 2) (by decide); have HV := Lib.hid hown; have HG0 := Lib.hid hg0; have HB3 := Lib.hid (HB2.out.grown hg hs2 (fun q h => by cases h)); clear hown hg hat hg0)
            have HST : Hid (OwS (w3.setCell ⟨g, (l.length - 1) * 3 + 2, none⟩ (.int .i64 c)) w.heap.size (.slice (some ⟨g, 0, none⟩) l.length cap) (l.set (l.length - 1) ⟨x.ep, x.fr, c⟩)) := Lib.hid (by
              have hxl : l[l.length - 1] = x := by rw [HX.out]; exact (tailS_at HLP.out).symm
              exact OwL.stored (E := eS) HV.out (show l.length - 1 < l.length by have := HLP.out; omega) (j := 2) (by decide) (x := ⟨x.ep, x.fr, c⟩) (u := .int .i64 c) (by rw [hxl]; rfl))
            go_ret2
            exact ⟨.slice (some ⟨g, 0, none⟩) l.length cap, by rw [HD0.out]; rfl, by rw [HEL.out, HM.out]; simpa using HST.out, HB3.out.setCell (p := ⟨g, (l.length - 1) * 3 + 2, none⟩) HG0.out _⟩
          · have HM : Hid (extM l n c = l ++ [⟨n, x.to + 1, c⟩]) := Lib.hid (by unfold extM; rw [if_neg (fun h => hnl ⟨List.length_pos_iff.2 h.1, h.2.trans (by rw [HX.out])⟩), HX.out])
            have hor : l.length = 0 ∨ (0 < l.length ∧ n ≠ x.ep) := by
              by_cases h : l.length = 0
              · exact .inl h
              · exact .inr ⟨by omega, fun h2 => hnl ⟨by omega, h2⟩⟩
            clear hnl
            have HK1 : Hid (l.length + [(⟨n, x.to + 1, c⟩ : Sp)].length ≤ maxLen) := Lib.hid (by simp only [maxLen, List.length_singleton]; omega)
            have HK2 : Hid ((l.length + [(⟨n, x.to + 1, c⟩ : Sp)].length) * 24 ≤ 140737488355328) := Lib.hid (by simp only [List.length_singleton]; omega)
            have HBN : ∀ w4 : World, Hid (RdS (w4.alloc (.cells #[.int .i64 n, .int .i64 (x.to + 1), .int .i64 c] 107)) (some ⟨w4.heap.size, 0, none⟩) [⟨n, x.to + 1, c⟩]) := fun w4 => Lib.hid (RdL.box (E := eS) w4 ⟨n, x.to + 1, c⟩ 107)
            have HBS : ∀ w4 : World, Hid (w.heap.size ≤ w4.heap.size → w.heap.size ≤ (w4.alloc (.cells #[.int .i64 n, .int .i64 (x.to + 1), .int .i64 c] 107)).heap.size) := fun w4 => Lib.hid (fun h => by simp; omega)
            rcases hor with h | ⟨h, hne⟩
            case' inl =>
              have hd0 : decide (0 < l.length) = false := by simp [h]
              have HZ := Lib.hid h
              clear h
            case' inr =>
              have hd0 : decide (0 < l.length) = true := by simpa using h
              have hb1 : (n == x.ep) = false := beq_eq_false_iff_ne.2 hne
            all_goals
              go_wp2_with (first
                | (at_builtin; refine wpList_append_all (E := eS) _ rfl (.tmp 42) (.tmp 43) 60 rfl w.heap.size 107 i0 _ 24 Try.underlying60 hi hz0 hz1 hz2 rfl (.slice none 0 0) [] rfl (OwL.nil _ _ _ _) A cp l rfl HRD.out HNA.out (by simp only [maxLen, List.length_nil]; omega) (by simp only [List.length_nil]; omega) hs2 ?_; intro v1 w3 hown hg hat; rw [List.nil_append] at hown; obtain ⟨A1, cc, rfl, _, _, _⟩ := OwL.rd hown; have HV := Lib.hid hown; have HB3 := Lib.hid (HB2.out.grown hg hs2 (fun q h => by cases h)); have HLT : Hid (∀ q, (Value.slice A1 l.length cc).ownBlock = some q → w.heap.size ≤ q) := Lib.hid fun q hq => (OwL.lt hown q hq).1; have hs3 := HB3.out.size; clear hown hg hat)
                | (at_builtin; refine wpList_append_all (E := eS) _ rfl (.tmp 61) (.tmp 67) 60 rfl w.heap.size 107 i0 _ 24 Try.underlying60 hi hz0 hz1 hz2 rfl (.slice A1 l.length cc) l rfl (HV.out.alloc _) (some ⟨w3.heap.size, 0, none⟩) 1 [⟨n, x.to + 1, c⟩] rfl (HBN w3).out (by simp) HK1.out HK2.out ((HBS w3).out hs3) ?_; intro v2 w9 hown hg hat))
              go_ret2
              exact ⟨v2, by rw [HD0.out]; rfl, by rw [HEL.out, HM.out]; exact hown, (HB3.out.alloc hs3 _).grown hg ((HBS w3).out hs3) HLT.out⟩
        · have HF : Hid (extE l n c = 8) := Lib.hid (by rw [HD2.out, if_pos h1, if_neg h2])
          clear HD2
          go_wp2
          go_ret2
          exact ext_err HF.out (by decide) HB2.out
      · have HF : Hid (extE l n c = 13) := Lib.hid (by rw [HD2.out, if_neg h1])
        clear HD2
        go_wp2
        go_ret2
        exact ext_err HF.out (by decide) HB2.out
    · have HF : Hid (extE l n c = 2) := Lib.hid (by rw [HD.out]; unfold extF; exact if_neg (by simp [inB]; omega))
      have hor : n < 1 ∨ (1 ≤ n ∧ 1073741824 < n) ∨ (1 ≤ n ∧ n ≤ 1073741824 ∧ c < 1) ∨ (1 ≤ n ∧ n ≤ 1073741824 ∧ 1 ≤ c ∧ 1073741824 < c) := by omega
      clear hr HD
      rcases hor with h1 | ⟨h1, h2⟩ | ⟨h1, h2, h3⟩ | ⟨h1, h2, h3, h4⟩
      all_goals
        go_wp2
        go_ret2
        exact ext_err HF.out (by decide) HB1.out
  · rw [if_neg h] at HD
    have hne : (E != 0) = true := bne_iff_ne.2 h
    have H2 := Lib.hid h
    clear h
    go_wp2
    go_ret2
    exact ext_err HD.out H2.out HB1.out
end Go.Proofs.Ytcdifegjlllbfaa

/- The walk through a step of the run: kind 0. Conditions: the run lies, its bounds. -/
import Derived.Test.YtcdifegjlllbfaaWtO
import Derived.Test.YtcdifegjlllbfaaWtI
import Derived.Test.YtcdifegjlllbfaaWtC
import Derived.RegionTactic
import Derived.BigRegion
import Derived.BigQuiet
import Derived.Deep.QuietTactic
import Derived.Deep.DeepCutAuto
set_option linter.unusedVariables false
set_option linter.unusedSimpArgs false
namespace Go.Proofs.Ytcdifegjlllbfaa
open Go.RowKit
set_option maxRecDepth 10000 in
set_option maxHeartbeats 4000000 in
theorem step0_any {B g : Nat} {W : World} {s : St} {vL vR vA : Value} (si wh : Int) (h : Lie B W g s vL vR vA) (ok : Ok s) :
    Calls Try.prog 13 #[.pointer (some ⟨g, 0, none⟩), .agg #[.int .i64 0, .int .i64 si, .int .i64 wh]] W fun e w' => e = .returned (.bool true) ∧ (∃ v, Lie B w' g (askS s ⟨0, si, wh⟩) vL v vA) ∧ Bw B W w' := by
  obtain ⟨gL, cL, rfl, hgL0, hgL1, _, _⟩ := OwL.at_ h.ol (by rw [ok.l3]; omega)
  have hgl := h.lt
  have hil := (⟨0, si, wh⟩ : Sp3).i_lt
  have hie := (⟨0, si, wh⟩ : Sp3).i_eq
  obtain ⟨i, hi⟩ : ∃ i, i = (⟨0, si, wh⟩ : Sp3).i := ⟨_, rfl⟩
  rw [← hi] at hil hie
  replace hie : (i : Int) = si % 3 := hie
  have hl3 := ok.l3
  have htl : i < s.ls.length := by omega
  obtain ⟨x, hx⟩ : ∃ x, x = s.ls[i] := ⟨_, rfl⟩
  obtain ⟨hxs, hxl⟩ := ok.ls i htl
  have hle : leAt s.ls i = x := by rw [leAt_eq htl, hx]
  have z0 : W.cell? ⟨gL, i * 3, none⟩ = some (.int .i64 x.si) := by rw [hx]; exact OwL.cell (E := eLe) h.ol (k := i) (j := 0) htl (by decide)
  have z1 : W.cell? ⟨gL, i * 3 + 1, none⟩ = some (.int .i64 x.ep) := by rw [hx]; exact OwL.cell (E := eLe) h.ol (k := i) (j := 1) htl (by decide)
  have z2 : W.cell? ⟨gL, i * 3 + 2, none⟩ = some (.int .i64 x.un) := by rw [hx]; exact OwL.cell (E := eLe) h.ol (k := i) (j := 2) htl (by decide)
  rw [← hx] at hxs hxl
  have c6 : W.cell? ⟨g, 6, none⟩ = some (.slice (some ⟨gL, 0, none⟩) s.ls.length cL) := h.blk.cell 6
  obtain ⟨r0, r1, r2⟩ := rem3 si
  rw [← hie] at r2
  obtain ⟨q, hq⟩ : ∃ q, q = si.tmod 3 := ⟨_, rfl⟩
  rw [← hq] at r0 r1 r2
  have w1 : si.tmod 3 = q := hq.symm
  have hi3 : (i : Int) < s.ls.length := by omega
  have HI := Lib.hid hi
  have HLE := Lib.hid hle
  have HXS := Lib.hid hxs
  have HXL := Lib.hid hxl
  have HTL := Lib.hid htl
  have HH := Lib.hid h
  have OK := Lib.hid ok
  have HL3 := Lib.hid hl3
  clear hi hle hx hq h ok hie hxs hxl hl3 htl
  have hxb : 0 ≤ x.ep ∧ x.ep ≤ 1073741824 := by have := HXL.out; unfold leB tmB btw at this; simp at this; exact this.1.2
  obtain ⟨hx0, hx1⟩ := hxb
  have hnr := OK.out.rn
  obtain ⟨s0, s1, s2⟩ := rem3 wh
  obtain ⟨q2, hq2⟩ : ∃ q2, q2 = wh.tmod 3 := ⟨_, rfl⟩
  obtain ⟨u, hu⟩ : ∃ u, u = wh % 3 := ⟨_, rfl⟩
  have u0 : 0 ≤ u := by omega
  have u1 : u < 3 := by omega
  rw [← hq2] at s0 s1 s2
  rw [← hu] at s2
  have w2' : wh.tmod 3 = q2 := hq2.symm
  have HAS : Hid (askS s ⟨0, si, wh⟩ = if askE x (max 1 x.ep + u) = 0 then sendS s (askM x (max 1 x.ep + u)) else s) := Lib.hid (by unfold askS; rw [← HI.out, HLE.out, hu])
  clear hq2 hu
  obtain ⟨N, hN⟩ : ∃ N, N = max 1 x.ep + u := ⟨_, rfl⟩
  rw [← hN] at HAS
  have HC : Hid (∀ W', Calls Try.prog 36 #[.agg #[.int .i64 x.si, .int .i64 x.ep, .int .i64 x.un], .int .i64 N] W' fun e w' => e = .returned (.tuple #[(askM x N).val, .int .i64 (askE x N)]) ∧ Below W'.heap.size W' w') := Lib.hid fun W' => ask_any x N W'
  obtain ⟨m, hm⟩ : ∃ m, m = askM x N := ⟨_, rfl⟩
  obtain ⟨E, hE⟩ : ∃ E, E = askE x N := ⟨_, rfl⟩
  rw [← hm, ← hE] at HC HAS
  clear hm hE
  have b0 : Below W.heap.size W ((W.alloc (.cells #[.int .i64 0, .int .i64 si, .int .i64 wh] 27)).alloc (.cells #[.int .i64 x.si, .int .i64 x.ep, .int .i64 x.un] 41)) := ((Below.refl _ _).alloc (Nat.le_refl _) _).alloc (by simp) _
  have HB0 := Lib.hid b0
  clear b0
  have hN2 : (1 ≤ x.ep ∧ N = x.ep + u) ∨ (x.ep < 1 ∧ N = 1 + u) := by omega
  have HN2 := Lib.hid hN2
  clear hN hN2
  unfold Mg.val at HC
  go_enter Try.func13, Try.ntmps13
  rcases HN2.out with ⟨hm1, hN⟩ | ⟨hm1, hN⟩
  all_goals go_wp2_with fail
  all_goals
    first | rw [show x.ep + u = N by omega] | rw [show 1 + u = N by omega]
    clear hN hm1
    refine (HC.out _).mono ?_
    rintro e w2 ⟨rfl, hb⟩
    have hb2 : Below W.heap.size W w2 := HB0.out.trans (hb.mono HB0.out.size)
    have H2 := Lib.hid (HH.out.below hb2)
    have HB2 := Lib.hid (HH.out.up hb2)
    have bz : Below w2.heap.size w2 (w2.alloc (.cells #[.int .i64 m.ki, .int .i64 m.fr, .int .i64 m.to, .int .i64 m.nu, .int .i64 m.va, .int .i64 m.ep, .slice none 0 0, .slice none 0 0] 85)) := (Below.refl _ _).alloc (Nat.le_refl _) _
    have H3 := Lib.hid (H2.out.below bz)
    have HB3 := Lib.hid (HB2.out.trans (H2.out.up bz))
    clear hb hb2 bz z0 z1 z2 c6 w1 w2'
    by_cases h0 : E = 0
    · have hbe : (E == 0) = true := by simp [h0]
      have HS : Hid (askS s ⟨0, si, wh⟩ = sendS s m) := Lib.hid (by rw [HAS.out, if_pos h0])
      clear h0
      go_wp2_with fail
      refine (send_any m H3.out (by omega)).mono ?_
      rintro e w4 ⟨rfl, hv, hb4⟩
      have HV := Lib.hid hv
      have HB4 := Lib.hid (HB3.out.trans hb4)
      clear hv hb4
      go_wp2
      go_ret
      rw [HS.out]
      exact ⟨rfl, HV.out, HB4.out⟩
    · have hbe : (E == 0) = false := by simp [h0]
      have HS : Hid (askS s ⟨0, si, wh⟩ = s) := Lib.hid (by rw [HAS.out, if_neg h0])
      clear h0
      go_wp2_with fail
      go_ret
      rw [HS.out]
      exact ⟨rfl, ⟨_, H3.out⟩, HB3.out⟩
end Go.Proofs.Ytcdifegjlllbfaa

/- The walk through a step of the run: kind 5. Conditions: the run lies, its bounds. -/
import Derived.Test.YtcdifegjlllbfaaWtO
import Derived.RegionTactic
import Derived.BigRegion
import Derived.BigQuiet
import Derived.Deep.QuietTactic
import Derived.Deep.DeepCutAuto
set_option linter.unusedVariables false
set_option linter.unusedSimpArgs false
namespace Go.Proofs.Ytcdifegjlllbfaa
open Go.RowKit
set_option maxRecDepth 10000 in
set_option maxHeartbeats 4000000 in
theorem step5_any {B g : Nat} {W : World} {s : St} {vL vR vA : Value} (si wh : Int) (h : Lie B W g s vL vR vA) (ok : Ok s) :
    Calls Try.prog 13 #[.pointer (some ⟨g, 0, none⟩), .agg #[.int .i64 5, .int .i64 si, .int .i64 wh]] W fun e w' => e = .returned (.bool (wriB s (Sp3.i ⟨5, si, wh⟩))) ∧ Lie B w' g (wriS s (Sp3.i ⟨5, si, wh⟩)) vL vR vA ∧ Bw B W w' := by
  obtain ⟨gL, cL, rfl, hgL0, hgL1, _, _⟩ := OwL.at_ h.ol (by rw [ok.l3]; omega)
  have hgl := h.lt
  have hil := (⟨5, si, wh⟩ : Sp3).i_lt
  have hie := (⟨5, si, wh⟩ : Sp3).i_eq
  obtain ⟨i, hi⟩ : ∃ i, i = (⟨5, si, wh⟩ : Sp3).i := ⟨_, rfl⟩
  rw [← hi] at hil hie
  replace hie : (i : Int) = si % 3 := hie
  have hl3 := ok.l3
  have htl : i < s.ls.length := by omega
  obtain ⟨x, hx⟩ : ∃ x, x = s.ls[i] := ⟨_, rfl⟩
  obtain ⟨hxs, hxl⟩ := ok.ls i htl
  have hle : leAt s.ls i = x := by rw [leAt_eq htl, hx]
  have z0 : W.cell? ⟨gL, i * 3, none⟩ = some (.int .i64 x.si) := by rw [hx]; exact OwL.cell (E := eLe) h.ol (k := i) (j := 0) htl (by decide)
  have z1 : W.cell? ⟨gL, i * 3 + 1, none⟩ = some (.int .i64 x.ep) := by rw [hx]; exact OwL.cell (E := eLe) h.ol (k := i) (j := 1) htl (by decide)
  have z2 : W.cell? ⟨gL, i * 3 + 2, none⟩ = some (.int .i64 x.un) := by rw [hx]; exact OwL.cell (E := eLe) h.ol (k := i) (j := 2) htl (by decide)
  rw [← hx] at hxs hxl
  have c6 : W.cell? ⟨g, 6, none⟩ = some (.slice (some ⟨gL, 0, none⟩) s.ls.length cL) := h.blk.cell 6
  obtain ⟨r0, r1, r2⟩ := rem3 si
  rw [← hie] at r2
  obtain ⟨q, hq⟩ : ∃ q, q = si.tmod 3 := ⟨_, rfl⟩
  rw [← hq] at r0 r1 r2
  have w1 : si.tmod 3 = q := hq.symm
  have hi3 : (i : Int) < s.ls.length := by omega
  have HI := Lib.hid hi
  have HLE := Lib.hid hle
  have HXS := Lib.hid hxs
  have HXL := Lib.hid hxl
  have HTL := Lib.hid htl
  have HH := Lib.hid h
  have OK := Lib.hid ok
  have HL3 := Lib.hid hl3
  clear hi hle hx hq h ok hie hxs hxl hl3 htl
  have b0 : Below W.heap.size W ((W.alloc (.cells #[.int .i64 5, .int .i64 si, .int .i64 wh] 27)).alloc (.cells #[.int .i64 x.si, .int .i64 x.ep, .int .i64 x.un] 41)) := ((Below.refl _ _).alloc (Nat.le_refl _) _).alloc (by simp) _
  have H0 := Lib.hid (HH.out.below b0)
  have HB0 := Lib.hid (HH.out.up b0)
  clear b0
  rw [← HI.out]
  go_enter Try.func13, Try.ntmps13
  go_wp2_with fail
  refine (write_any i H0.out HTL.out (by have := HL3.out; omega)).mono ?_
  rintro e w2 ⟨rfl, hl, hb⟩
  have HFIN := Lib.hid (And.intro hl (HB0.out.trans hb))
  clear hl hb z0 z1 z2 c6 w1
  go_wp2
  go_ret
  exact ⟨rfl, HFIN.out⟩
end Go.Proofs.Ytcdifegjlllbfaa

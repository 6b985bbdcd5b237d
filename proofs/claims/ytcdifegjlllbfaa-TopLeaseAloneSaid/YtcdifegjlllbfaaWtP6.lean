/- The walk through a step of the run: kind 6 and more. Conditions: the run lies, its bounds. -/
import Derived.Test.YtcdifegjlllbfaaWtO
import Derived.RegionTactic
import Derived.BigRegion
import Derived.BigQuiet
import Derived.Deep.QuietTactic
import Derived.Deep.DeepCutAuto
set_option linter.unusedVariables false
set_option linter.unusedSimpArgs false
namespace Go.Proofs.Ytcdifegjlllbfaa
open Go.RowKit
set_option maxRecDepth 10000 in
set_option maxHeartbeats 4000000 in
theorem step6_any {B g : Nat} {W : World} {s : St} {vL vR vA : Value} (ki si wh : Int) (h : Lie B W g s vL vR vA) (ok : Ok s) (k0 : ki ≠ 0) (k1 : ki ≠ 1) (k2 : ki ≠ 2) (k3 : ki ≠ 3) (k4 : ki ≠ 4) (k5 : ki ≠ 5) :
    Calls Try.prog 13 #[.pointer (some ⟨g, 0, none⟩), .agg #[.int .i64 ki, .int .i64 si, .int .i64 wh]] W fun e w' => e = .returned (.bool true) ∧ Lie B w' g (timS s ⟨ki, si, wh⟩) vL vR vA ∧ Bw B W w' := by
  obtain ⟨gL, cL, rfl, hgL0, hgL1, _, _⟩ := OwL.at_ h.ol (by rw [ok.l3]; omega)
  have hgl := h.lt
  have hil := (⟨ki, si, wh⟩ : Sp3).i_lt
  have hie := (⟨ki, si, wh⟩ : Sp3).i_eq
  obtain ⟨i, hi⟩ : ∃ i, i = (⟨ki, si, wh⟩ : Sp3).i := ⟨_, rfl⟩
  rw [← hi] at hil hie
  replace hie : (i : Int) = si % 3 := hie
  have hl3 := ok.l3
  have htl : i < s.ls.length := by omega
  obtain ⟨x, hx⟩ : ∃ x, x = s.ls[i] := ⟨_, rfl⟩
  obtain ⟨hxs, hxl⟩ := ok.ls i htl
  have hle : leAt s.ls i = x := by rw [leAt_eq htl, hx]
  have z0 : W.cell? ⟨gL, i * 3, none⟩ = some (.int .i64 x.si) := by rw [hx]; exact OwL.cell (E := eLe) h.ol (k := i) (j := 0) htl (by decide)
  have z1 : W.cell? ⟨gL, i * 3 + 1, none⟩ = some (.int .i64 x.ep) := by rw [hx]; exact OwL.cell (E := eLe) h.ol (k := i) (j := 1) htl (by decide)
  have z2 : W.cell? ⟨gL, i * 3 + 2, none⟩ = some (.int .i64 x.un) := by rw [hx]; exact OwL.cell (E := eLe) h.ol (k := i) (j := 2) htl (by decide)
  rw [← hx] at hxs hxl
  have c6 : W.cell? ⟨g, 6, none⟩ = some (.slice (some ⟨gL, 0, none⟩) s.ls.length cL) := h.blk.cell 6
  obtain ⟨r0, r1, r2⟩ := rem3 si
  rw [← hie] at r2
  obtain ⟨q, hq⟩ : ∃ q, q = si.tmod 3 := ⟨_, rfl⟩
  rw [← hq] at r0 r1 r2
  have w1 : si.tmod 3 = q := hq.symm
  have hi3 : (i : Int) < s.ls.length := by omega
  have HI := Lib.hid hi
  have HLE := Lib.hid hle
  have HXS := Lib.hid hxs
  have HXL := Lib.hid hxl
  have HTL := Lib.hid htl
  have HH := Lib.hid h
  have OK := Lib.hid ok
  have HL3 := Lib.hid hl3
  clear hi hle hx hq h ok hie hxs hxl hl3 htl
  have j0 : (ki == 0) = false := by simp [k0]
  have j1 : (ki == 1) = false := by simp [k1]
  have j2 : (ki == 2) = false := by simp [k2]
  have j3 : (ki == 3) = false := by simp [k3]
  have j4 : (ki == 4) = false := by simp [k4]
  have j5 : (ki == 5) = false := by simp [k5]
  clear k0 k1 k2 k3 k4 k5
  obtain ⟨s0, s1, s2⟩ := rem7 wh
  obtain ⟨q2, hq2⟩ : ∃ q2, q2 = wh.tmod 7 := ⟨_, rfl⟩
  obtain ⟨u, hu⟩ : ∃ u, u = wh % 7 := ⟨_, rfl⟩
  have u0 : 0 ≤ u := by omega
  have u1 : u < 7 := by omega
  rw [← hq2] at s0 s1 s2
  rw [← hu] at s2
  have w2' : wh.tmod 7 = q2 := hq2.symm
  have HTS : Hid (timS s ⟨ki, si, wh⟩ = { s with now := s.now + u }) := Lib.hid (by unfold timS; rw [hu])
  have hn0 := OK.out.n0
  have hn1 := OK.out.n1
  clear hq2 hu
  have b0 : Below W.heap.size W ((W.alloc (.cells #[.int .i64 ki, .int .i64 si, .int .i64 wh] 27)).alloc (.cells #[.int .i64 x.si, .int .i64 x.ep, .int .i64 x.un] 41)) := ((Below.refl _ _).alloc (Nat.le_refl _) _).alloc (by simp) _
  have H0 := Lib.hid (HH.out.below b0)
  have HB0 := Lib.hid (HH.out.up b0)
  clear b0
  have d0 := H0.out.blk.frozen 0
  have f0 := HH.out.blk.frozen 0
  have c0 : W.cell? ⟨g, 0, none⟩ = some (.int .i64 s.now) := HH.out.blk.cell 0
  clear d0
  go_enter Try.func13, Try.ntmps13
  go_wp2_with fail
  go_region
  go_wp2
  go_ret
  rw [HTS.out]
  have hk : Blk (W.setCell ⟨g, 0, none⟩ (.int .i64 (s.now + u))) g 39 (St.cells { s with now := s.now + u } (.slice (some ⟨gL, 0, none⟩) s.ls.length cL) vR vA) := (HH.out.blk.set_ 0 (.int .i64 (s.now + u)) : Blk _ g 39 _)
  have hl : Lie B (W.setCell ⟨g, 0, none⟩ (.int .i64 (s.now + u))) g { s with now := s.now + u } (.slice (some ⟨gL, 0, none⟩) s.ls.length cL) vR vA := ⟨hk, HH.out.low, HH.out.ol.far (p := ⟨g, 0, none⟩) (OwL.apart HH.out.ol HH.out.blk (by decide)) _, HH.out.or_.far (p := ⟨g, 0, none⟩) (OwL.apart HH.out.or_ HH.out.blk (by decide)) _, HH.out.oa.far (p := ⟨g, 0, none⟩) (OwL.apart HH.out.oa HH.out.blk (by decide)) _⟩
  have hb := ((Below.refl (W.setCell ⟨g, 0, none⟩ (.int .i64 (s.now + u))).heap.size (W.setCell ⟨g, 0, none⟩ (.int .i64 (s.now + u)))).alloc (Nat.le_refl _) (.cells #[.int .i64 ki, .int .i64 si, .int .i64 wh] 27)).alloc (by simp) (.cells #[.int .i64 x.si, .int .i64 x.ep, .int .i64 x.un] 41)
  exact ⟨rfl, (hl.below hb.drew), ((Bw.refl B W).setCell (p := ⟨g, 0, none⟩) HH.out.low (HH.out.blk.typed t39) _).trans (hl.up hb.drew)⟩
end Go.Proofs.Ytcdifegjlllbfaa

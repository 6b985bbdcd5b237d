/- The walk through a step of the run: kind 2. Conditions: the run lies, its bounds. -/
import Derived.Test.YtcdifegjlllbfaaWtO
import Derived.Test.YtcdifegjlllbfaaWtI
import Derived.Test.YtcdifegjlllbfaaWtC
import Derived.RegionTactic
import Derived.BigRegion
import Derived.BigQuiet
import Derived.Deep.QuietTactic
import Derived.Deep.DeepCutAuto
set_option linter.unusedVariables false
set_option linter.unusedSimpArgs false
namespace Go.Proofs.Ytcdifegjlllbfaa
open Go.RowKit
set_option maxRecDepth 10000 in
set_option maxHeartbeats 4000000 in
theorem step2_any {B g : Nat} {W : World} {s : St} {vL vR vA : Value} (si wh : Int) (h : Lie B W g s vL vR vA) (ok : Ok s) :
    Calls Try.prog 13 #[.pointer (some ⟨g, 0, none⟩), .agg #[.int .i64 2, .int .i64 si, .int .i64 wh]] W fun e w' => e = .returned (.bool true) ∧ (∃ v, Lie B w' g (givS s ⟨2, si, wh⟩) vL v vA) ∧ Bw B W w' := by
  obtain ⟨gL, cL, rfl, hgL0, hgL1, _, _⟩ := OwL.at_ h.ol (by rw [ok.l3]; omega)
  have hgl := h.lt
  have hil := (⟨2, si, wh⟩ : Sp3).i_lt
  have hie := (⟨2, si, wh⟩ : Sp3).i_eq
  obtain ⟨i, hi⟩ : ∃ i, i = (⟨2, si, wh⟩ : Sp3).i := ⟨_, rfl⟩
  rw [← hi] at hil hie
  replace hie : (i : Int) = si % 3 := hie
  have hl3 := ok.l3
  have htl : i < s.ls.length := by omega
  obtain ⟨x, hx⟩ : ∃ x, x = s.ls[i] := ⟨_, rfl⟩
  obtain ⟨hxs, hxl⟩ := ok.ls i htl
  have hle : leAt s.ls i = x := by rw [leAt_eq htl, hx]
  have z0 : W.cell? ⟨gL, i * 3, none⟩ = some (.int .i64 x.si) := by rw [hx]; exact OwL.cell (E := eLe) h.ol (k := i) (j := 0) htl (by decide)
  have z1 : W.cell? ⟨gL, i * 3 + 1, none⟩ = some (.int .i64 x.ep) := by rw [hx]; exact OwL.cell (E := eLe) h.ol (k := i) (j := 1) htl (by decide)
  have z2 : W.cell? ⟨gL, i * 3 + 2, none⟩ = some (.int .i64 x.un) := by rw [hx]; exact OwL.cell (E := eLe) h.ol (k := i) (j := 2) htl (by decide)
  rw [← hx] at hxs hxl
  have c6 : W.cell? ⟨g, 6, none⟩ = some (.slice (some ⟨gL, 0, none⟩) s.ls.length cL) := h.blk.cell 6
  obtain ⟨r0, r1, r2⟩ := rem3 si
  rw [← hie] at r2
  obtain ⟨q, hq⟩ : ∃ q, q = si.tmod 3 := ⟨_, rfl⟩
  rw [← hq] at r0 r1 r2
  have w1 : si.tmod 3 = q := hq.symm
  have hi3 : (i : Int) < s.ls.length := by omega
  have HI := Lib.hid hi
  have HLE := Lib.hid hle
  have HXS := Lib.hid hxs
  have HXL := Lib.hid hxl
  have HTL := Lib.hid htl
  have HH := Lib.hid h
  have OK := Lib.hid ok
  have HL3 := Lib.hid hl3
  clear hi hle hx hq h ok hie hxs hxl hl3 htl
  have hnr := OK.out.rn
  have HAS : Hid (givS s ⟨2, si, wh⟩ = sendS { s with ls := s.ls.set i (givL x) } (givM x)) := Lib.hid (by unfold givS; rw [← HI.out, HLE.out])
  have HC : Hid (∀ W', Calls Try.prog 39 #[.agg #[.int .i64 x.si, .int .i64 x.ep, .int .i64 x.un]] W' fun e w' => e = .returned (.tuple #[(givL x).val, (givM x).val]) ∧ Below W'.heap.size W' w') := Lib.hid fun W' => giveUp_any x W'
  obtain ⟨m, hm⟩ : ∃ m, m = givM x := ⟨_, rfl⟩
  obtain ⟨y, hy⟩ : ∃ y, y = givL x := ⟨_, rfl⟩
  rw [← hm, ← hy] at HC HAS
  clear hm hy
  have b0 : Below W.heap.size W ((W.alloc (.cells #[.int .i64 2, .int .i64 si, .int .i64 wh] 27)).alloc (.cells #[.int .i64 x.si, .int .i64 x.ep, .int .i64 x.un] 41)) := ((Below.refl _ _).alloc (Nat.le_refl _) _).alloc (by simp) _
  have HB0 := Lib.hid b0
  clear b0
  unfold Mg.val Le.val at HC
  go_enter Try.func13, Try.ntmps13
  go_wp2_with fail
  refine (HC.out _).mono ?_
  rintro e w2 ⟨rfl, hb⟩
  have hb2 : Below W.heap.size W w2 := HB0.out.trans (hb.mono HB0.out.size)
  have H2 := Lib.hid (HH.out.below hb2)
  have HB2 := Lib.hid (HH.out.up hb2)
  clear z0 z1 z2 c6 w1
  have z0 : w2.cell? ⟨gL, i * 3, none⟩ = some (.int .i64 s.ls[i].si) := OwL.cell (E := eLe) H2.out.ol (k := i) (j := 0) HTL.out (by decide)
  have z1 : w2.cell? ⟨gL, i * 3 + 1, none⟩ = some (.int .i64 s.ls[i].ep) := OwL.cell (E := eLe) H2.out.ol (k := i) (j := 1) HTL.out (by decide)
  have z2 : w2.cell? ⟨gL, i * 3 + 2, none⟩ = some (.int .i64 s.ls[i].un) := OwL.cell (E := eLe) H2.out.ol (k := i) (j := 2) HTL.out (by decide)
  have c6 : w2.cell? ⟨g, 6, none⟩ = some (.slice (some ⟨gL, 0, none⟩) s.ls.length cL) := H2.out.blk.cell 6
  have f0 := OwL.frozen H2.out.ol (i * 3)
  have f1 := OwL.frozen H2.out.ol (i * 3 + 1)
  have f2 := OwL.frozen H2.out.ol (i * 3 + 2)
  have hg2 : g < w2.heap.size := H2.out.lt
  have hL2 : gL < w2.heap.size := World.block_lt_of_cell? w2 _ z0
  clear hb hb2 hgl hgL1
  go_wp2_with fail
  go_region
  go_wp2_with fail
  have h5 := H2.out.lease HTL.out y
  obtain ⟨W5, hW5⟩ : ∃ W5 : World, W5 = (((w2.setCell ⟨gL, i * 3, none⟩ (.int .i64 y.si)).setCell ⟨gL, i * 3 + 1, none⟩ (.int .i64 y.ep)).setCell ⟨gL, i * 3 + 2, none⟩ (.int .i64 y.un)) := ⟨_, rfl⟩
  have hb5 : Bw B W W5 := by rw [hW5]; exact HB2.out.set3 hgL0 (H2.out.ol.typed t41 gL rfl) _ _ _
  rw [← hW5] at h5 ⊢
  have bz : Below W5.heap.size W5 ((W5.alloc (.cells #[.int .i64 y.si, .int .i64 y.ep, .int .i64 y.un] 41)).alloc (.cells #[.int .i64 m.ki, .int .i64 m.fr, .int .i64 m.to, .int .i64 m.nu, .int .i64 m.va, .int .i64 m.ep, .slice none 0 0, .slice none 0 0] 85)).drew := (((Below.refl _ _).alloc (Nat.le_refl _) _).alloc (by simp) _).drew
  have H6 := Lib.hid (h5.below bz)
  have HB6 := Lib.hid (hb5.trans (h5.up bz))
  clear hW5 z0 z1 z2 c6 f0 f1 f2 hg2 hL2 h5 hb5 bz
  refine (send_any m H6.out (by show s.rq.length ≤ 1000; omega)).mono ?_
  rintro e w4 ⟨rfl, hv, hb4⟩
  have HV := Lib.hid hv
  have HB4 := Lib.hid (HB6.out.trans hb4)
  clear hv hb4
  go_wp2
  go_ret
  rw [HAS.out]
  exact ⟨rfl, HV.out, HB4.out⟩
end Go.Proofs.Ytcdifegjlllbfaa

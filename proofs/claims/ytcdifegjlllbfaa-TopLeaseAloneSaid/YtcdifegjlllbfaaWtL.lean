/- The walk through the run's write. Conditions: the run lies, a lease's place. -/
import Derived.Test.YtcdifegjlllbfaaWtJ
import Derived.Deep.DeepCutAuto
import Derived.Lib.QuietBelow
import Derived.BigQuiet
set_option linter.unusedVariables false
set_option linter.unusedSimpArgs false
namespace Go.Proofs.Ytcdifegjlllbfaa
open Go.RowKit
theorem later_ {w w' : World} {p : Addr} {v : Value} (hb : Below w.heap.size w w') (h : w.cell? p = some v) : w'.cell? p = some v := (hb.cell (World.block_lt_of_cell? w p h)).trans h
theorem far3_ {w : World} {p : Addr} {g' i j k : Nat} {v a b c : Value} (hne : p.block ≠ g') (h : w.cell? p = some v) : (((w.setCell ⟨g', i, none⟩ a).setCell ⟨g', j, none⟩ b).setCell ⟨g', k, none⟩ c).cell? p = some v := by
  rw [World.cell?_of_block (Below.heap_setCell _ ⟨g', k, none⟩ c _ hne), World.cell?_of_block (Below.heap_setCell _ ⟨g', j, none⟩ b _ hne), World.cell?_of_block (Below.heap_setCell _ ⟨g', i, none⟩ a _ hne)]
  exact h
theorem Lie.fence {B g : Nat} {W : World} {s : St} {vL vR vA : Value} (h : Lie B W g s vL vR vA) (R : Fe) : Lie B (((W.setCell ⟨g, 9, none⟩ (.int .i64 R.ep)).setCell ⟨g, 10, none⟩ (.int .i64 R.ow)).setCell ⟨g, 11, none⟩ (.bool R.cl)) g { s with f := R } vL vR vA :=
  ⟨(((h.blk.set_ 9 (.int .i64 R.ep)).set_ 10 (.int .i64 R.ow)).set_ 11 (.bool R.cl) : Blk _ g 39 (St.cells { s with f := R } vL vR vA)), h.low,
   ((h.ol.far (p := ⟨g, 9, none⟩) (OwL.apart h.ol h.blk (by decide)) _).far (p := ⟨g, 10, none⟩) (OwL.apart h.ol h.blk (by decide)) _).far (p := ⟨g, 11, none⟩) (OwL.apart h.ol h.blk (by decide)) _,
   ((h.or_.far (p := ⟨g, 9, none⟩) (OwL.apart h.or_ h.blk (by decide)) _).far (p := ⟨g, 10, none⟩) (OwL.apart h.or_ h.blk (by decide)) _).far (p := ⟨g, 11, none⟩) (OwL.apart h.or_ h.blk (by decide)) _,
   ((h.oa.far (p := ⟨g, 9, none⟩) (OwL.apart h.oa h.blk (by decide)) _).far (p := ⟨g, 10, none⟩) (OwL.apart h.oa h.blk (by decide)) _).far (p := ⟨g, 11, none⟩) (OwL.apart h.oa h.blk (by decide)) _⟩
def wriS (s : St) (i : Nat) : St := if hoB (leAt s.ls i) s.now then (if raiE s.f (leAt s.ls i).ep i = 0 then { s with f := raiF s.f (leAt s.ls i).ep i } else s) else s
def wriB (s : St) (i : Nat) : Bool := if hoB (leAt s.ls i) s.now then decide (admE (wriS s i).f (leAt s.ls i).ep i = 0) else (decide (admE s.f (leAt s.ls i).ep i ≠ 0) || (decide (s.f.ow = i) && decide (s.f.ep = (leAt s.ls i).ep)))
set_option maxRecDepth 10000 in
set_option maxHeartbeats 4000000 in
theorem write_any {B g : Nat} {W : World} {s : St} {vL vR vA : Value} (i : Nat) (h : Lie B W g s vL vR vA) (hi : i < s.ls.length) (hn : s.ls.length ≤ 1000) :
    Calls Try.prog 42 #[.pointer (some ⟨g, 0, none⟩), .int .i64 i] W fun e w' => e = .returned (.bool (wriB s i)) ∧ Lie B w' g (wriS s i) vL vR vA ∧ Bw B W w' := by
  obtain ⟨A, c, rfl, hc1, hc2, hrd⟩ := OwL.rd h.ol
  have c6 : W.cell? ⟨g, 6, none⟩ = some (.slice A s.ls.length c) := h.blk.cell 6
  obtain ⟨ad, rfl, d0, d1, d2⟩ := RdL.le hrd hi
  have HLE := Lib.hid (leAt_eq hi)
  obtain ⟨x, hx⟩ : ∃ x, x = s.ls[i] := ⟨_, rfl⟩
  rw [← hx] at d0 d1 d2 HLE
  have HH := Lib.hid h
  have hgl := h.lt
  clear hrd hc1 hc2 h hx
  go_enter Try.func42, Try.ntmps42
  go_wp2_with fail
  have b1 : Below W.heap.size W (W.alloc (.cells #[.int .i64 x.si, .int .i64 x.ep, .int .i64 x.un] 41)) := (Below.refl _ _).alloc (Nat.le_refl _) _
  have hX := Blk.new W 41 #[.int .i64 x.si, .int .i64 x.ep, .int .i64 x.un]
  have H9 := Lib.hid (HH.out.below b1)
  have HB9 := Lib.hid (HH.out.up b1)
  obtain ⟨b, hb⟩ : ∃ b, b = W.heap.size := ⟨_, rfl⟩
  rw [← hb] at hX hgl ⊢
  generalize W.alloc (.cells #[.int .i64 x.si, .int .i64 x.ep, .int .i64 x.un] 41) = w9 at *
  have e0 : w9.cell? ⟨b, 0, none⟩ = some (.int .i64 x.si) := hX.cell 0
  have e1 : w9.cell? ⟨b, 1, none⟩ = some (.int .i64 x.ep) := hX.cell 1
  have e2 : w9.cell? ⟨b, 2, none⟩ = some (.int .i64 x.un) := hX.cell 2
  have e3 : w9.cell? ⟨g, 0, none⟩ = some (.int .i64 s.now) := H9.out.blk.cell 0
  have HX := Lib.hid hX
  clear hX b1 hb d0 d1 d2 c6 HH
  go_still_tail 5, (by kernel_rfl)
  go_wp2_with fail
  refine (holds_any x s.now _).mono ?_
  rintro e w2 ⟨rfl, hb⟩
  replace hb : Below w9.heap.size w9 w2 := ⟨hb.os, hb.tape, hb.output, hb.size, hb.block⟩
  have H2 := Lib.hid (H9.out.below hb)
  have HB2 : Hid (Bw B W w2) := Lib.hid (HB9.out.trans (H9.out.up hb))
  have HX2 := Lib.hid (HX.out.below hb HX.out.lt)
  clear hb e0 e1 e2 e3 H9 HB9 HX
  have d9 : w2.cell? ⟨g, 9, none⟩ = some (.int .i64 s.f.ep) := H2.out.blk.cell 9
  have d10 : w2.cell? ⟨g, 10, none⟩ = some (.int .i64 s.f.ow) := H2.out.blk.cell 10
  have d11 : w2.cell? ⟨g, 11, none⟩ = some (.bool s.f.cl) := H2.out.blk.cell 11
  have d1 : w2.cell? ⟨b, 1, none⟩ = some (.int .i64 x.ep) := HX2.out.cell 1
  have hg2 : g < w2.heap.size := H2.out.lt
  have hb2 : b < w2.heap.size := HX2.out.lt
  obtain ⟨v, hv⟩ : ∃ v, v = hoB x s.now := ⟨_, rfl⟩
  have HO := Lib.hid hv
  rw [← hv]
  clear hv
  cases v
  · have HWS : Hid (wriS s i = s) := Lib.hid (by unfold wriS; rw [HLE.out, ← HO.out]; rfl)
    have HWB : Hid (wriB s i = (decide (admE s.f x.ep i ≠ 0) || (decide (s.f.ow = i) && decide (s.f.ep = x.ep)))) := Lib.hid (by unfold wriB; rw [HLE.out, ← HO.out]; rfl)
    have HSF : Hid (∀ w6, Below w2.heap.size w2 w6 → (fun w' => w'.cell? ⟨g, 9, none⟩ = some (.int .i64 s.f.ep) ∧ w'.cell? ⟨g, 10, none⟩ = some (.int .i64 s.f.ow) ∧ w'.cell? ⟨g, 11, none⟩ = some (.bool s.f.cl) ∧ w'.cell? ⟨b, 1, none⟩ = some (.int .i64 x.ep)) w6) := Lib.hid fun w6 hb => ⟨(H2.out.below hb).blk.cell 9, (H2.out.below hb).blk.cell 10, (H2.out.below hb).blk.cell 11, (HX2.out.below hb hb2).cell 1⟩
    obtain ⟨E, hE⟩ : ∃ E, E = admE s.f x.ep i := ⟨_, rfl⟩
    have HC : Hid (∀ W', Calls Try.prog 15 #[s.f.val, .int .i64 x.ep, .int .i64 i] W' fun e w' => e = .returned (.int .i64 E) ∧ Below W'.heap.size W' w') := Lib.hid fun W' => by rw [hE]; exact Admit_any s.f x.ep i W'
    rw [← hE] at HWB
    clear hE
    have d9' := fun d os => cell_regrown d9 d os
    have d10' := fun d os => cell_regrown d10 d os
    have d11' := fun d os => cell_regrown d11 d os
    have d1' := fun d os => cell_regrown d1 d os
    clear d9 d10 d11 d1
    by_cases h0 : E = 0
    · have hbe : (E != 0) = false := by simp [h0]
      have hcall : ∀ d os, Calls Try.prog 15 #[.agg #[.int .i64 s.f.ep, .int .i64 s.f.ow, .bool s.f.cl], .int .i64 x.ep, .int .i64 i] (Go.Sort.grow (redrawn w2 d) os) fun e w'' => e = .returned (.int .i64 E) ∧ ∃ p : Regrown, w'' = Go.Sort.grow (redrawn w2 p.d) p.os := fun d os => Calls.regrown_of (HC.out _)
      by_cases h1 : s.f.ow = i
      · have hbf : (s.f.ow == (i : Int)) = true := by simp [h1]
        have HZ : Hid (wriB s i = decide (s.f.ep = x.ep)) := Lib.hid (by rw [HWB.out]; simp [h0, h1])
        by_cases h2 : s.f.ep = x.ep
        · have hbg : (s.f.ep == x.ep) = true := by simp [h2]
          replace HZ : Hid (wriB s i = true) := Lib.hid (by rw [HZ.out]; simp [h2])
          clear h0 h1 h2
          go_wp2_with fail
          refine wp_region_quiet_below (by kernel_rfl) (by kernel_rfl) ?_
          repeat (go_big_quiet_step (exact hcall _ _))
          refine wpQuiet_nil ?_
          intro _ hw'
          obtain ⟨⟨dq, osq⟩, hw''⟩ := hw'
          subst hw''
          have hbq := below_regrown w2 dq osq
          have HFIN := Lib.hid (And.intro (H2.out.below hbq) (HB2.out.trans (H2.out.up hbq)))
          clear hbq d9' d10' d11' d1' hcall
          go_wp2
          go_ret
          rw [HWS.out, HZ.out]
          exact ⟨rfl, HFIN.out⟩
        · have hbg : (s.f.ep == x.ep) = false := by simp [h2]
          replace HZ : Hid (wriB s i = false) := Lib.hid (by rw [HZ.out]; simp [h2])
          clear h0 h1 h2
          go_wp2_with fail
          refine wp_region_quiet_below (by kernel_rfl) (by kernel_rfl) ?_
          repeat (go_big_quiet_step (exact hcall _ _))
          refine wpQuiet_nil ?_
          intro _ hw'
          obtain ⟨⟨dq, osq⟩, hw''⟩ := hw'
          subst hw''
          have hbq := below_regrown w2 dq osq
          have HFIN := Lib.hid (And.intro (H2.out.below hbq) (HB2.out.trans (H2.out.up hbq)))
          clear hbq d9' d10' d11' d1' hcall
          go_wp2
          go_ret
          rw [HWS.out, HZ.out]
          exact ⟨rfl, HFIN.out⟩
      · have hbf : (s.f.ow == (i : Int)) = false := by simp [h1]
        have HZ : Hid (wriB s i = false) := Lib.hid (by rw [HWB.out]; simp [h0, h1])
        clear h0 h1
        go_wp2_with fail
        refine wp_region_quiet_below (by kernel_rfl) (by kernel_rfl) ?_
        repeat (go_big_quiet_step (exact hcall _ _))
        refine wpQuiet_nil ?_
        intro _ hw'
        obtain ⟨⟨dq, osq⟩, hw''⟩ := hw'
        subst hw''
        have hbq := below_regrown w2 dq osq
        have HFIN := Lib.hid (And.intro (H2.out.below hbq) (HB2.out.trans (H2.out.up hbq)))
        clear hbq d9' d10' d11' d1' hcall
        go_wp2
        go_ret
        rw [HWS.out, HZ.out]
        exact ⟨rfl, HFIN.out⟩
    · have hne : (E != 0) = true := bne_iff_ne.2 h0
      have HZ : Hid (wriB s i = true) := Lib.hid (by rw [HWB.out]; simp [h0])
      have hcall : ∀ d os, Calls Try.prog 15 #[.agg #[.int .i64 s.f.ep, .int .i64 s.f.ow, .bool s.f.cl], .int .i64 x.ep, .int .i64 i] (Go.Sort.grow (redrawn w2 d) os) fun e w'' => e = .returned (.int .i64 E) ∧ ∃ p : Regrown, w'' = Go.Sort.grow (redrawn w2 p.d) p.os := fun d os => Calls.regrown_of (HC.out _)
      clear h0
      go_wp2_with fail
      refine wp_region_quiet_below (by kernel_rfl) (by kernel_rfl) ?_
      repeat (go_big_quiet_step (exact hcall _ _))
      refine wpQuiet_nil ?_
      intro _ hw'
      obtain ⟨⟨dq, osq⟩, hw''⟩ := hw'
      subst hw''
      have hbq := below_regrown w2 dq osq
      have HFIN := Lib.hid (And.intro (H2.out.below hbq) (HB2.out.trans (H2.out.up hbq)))
      clear hbq d9' d10' d11' d1' hcall
      go_wp2
      go_ret
      rw [HWS.out, HZ.out]
      exact ⟨rfl, HFIN.out⟩
  · obtain ⟨E, hE⟩ : ∃ E, E = raiE s.f x.ep i := ⟨_, rfl⟩
    obtain ⟨R, hR⟩ : ∃ R, R = raiF s.f x.ep i := ⟨_, rfl⟩
    have HC : Hid (∀ W', Calls Try.prog 22 #[s.f.val, .int .i64 x.ep, .int .i64 i] W' fun e w' => e = .returned (.tuple #[.agg #[.int .i64 R.ep, .int .i64 R.ow, .bool R.cl], .int .i64 E]) ∧ Below W'.heap.size W' w') := Lib.hid fun W' => by rw [hE, hR]; exact Raise_any s.f x.ep i W'
    have HWS : Hid (wriS s i = if E = 0 then { s with f := R } else s) := Lib.hid (by unfold wriS; rw [HLE.out, ← HO.out, ← hE, ← hR]; rfl)
    have HWB : Hid (wriB s i = decide (admE (wriS s i).f x.ep i = 0)) := Lib.hid (by unfold wriB; rw [HLE.out, ← HO.out]; rfl)
    clear hE hR
    go_wp2_with fail
    go_cut [6, 7] (fun v6 v7 wc => ∃ Bk : Nat, v6 = .pointer (some ⟨Bk, 0, none⟩) ∧ v7 = .int .i64 E ∧ w2.heap.size ≤ Bk ∧ Hid (Blk wc Bk 37 R.cells) ∧ Hid (Below w2.heap.size w2 wc))
    case first =>
      have hbz := (Below.refl w2.heap.size w2).alloc (Nat.le_refl _) (.cells #[.int .i64 0, .int .i64 0, .bool false] 37)
      have kd9 := later_ hbz d9
      have kd10 := later_ hbz d10
      have kd11 := later_ hbz d11
      have kd1 := later_ hbz d1
      have HBZ := Lib.hid hbz
      clear hbz
      go_region_held3 (fun w' => w'.cell? ⟨g, 9, none⟩ = some (.int .i64 s.f.ep) ∧ w'.cell? ⟨g, 10, none⟩ = some (.int .i64 s.f.ow) ∧ w'.cell? ⟨g, 11, none⟩ = some (.bool s.f.cl) ∧ w'.cell? ⟨b, 1, none⟩ = some (.int .i64 x.ep)) (first | exact ⟨d9, d10, d11, d1⟩ | exact ⟨kd9, kd10, kd11, kd1⟩ | exact ⟨hk9, hk10, hk11, hk1⟩ | exact ⟨far3_ (by show g ≠ w2.heap.size; omega) hk9, far3_ (by show g ≠ w2.heap.size; omega) hk10, far3_ (by show g ≠ w2.heap.size; omega) hk11, far3_ (by show b ≠ w2.heap.size; omega) hk1⟩ | go_keep)
        (first | (go_at_call 22; refine (HC.out _).mono ?_; rintro e w6 ⟨rfl, hb⟩; have hk9 : w6.cell? ⟨g, 9, none⟩ = some (.int .i64 s.f.ep) := later_ hb kd9; have hk10 : w6.cell? ⟨g, 10, none⟩ = some (.int .i64 s.f.ow) := later_ hb kd10; have hk11 : w6.cell? ⟨g, 11, none⟩ = some (.bool s.f.cl) := later_ hb kd11; have hk1 : w6.cell? ⟨b, 1, none⟩ = some (.int .i64 x.ep) := later_ hb kd1; have hbk : Blk w6 w2.heap.size 37 #[.int .i64 0, .int .i64 0, .bool false] := (show Blk (w2.alloc (.cells #[.int .i64 0, .int .i64 0, .bool false] 37)).drew _ _ _ from Blk.new w2 37 _).below hb (by simp); have y0 := hbk.frozen 0; have y1 := hbk.frozen 1; have y2 := hbk.frozen 2; have z0 : w6.cell? ⟨w2.heap.size, 0, none⟩ = some (.int .i64 0) := hbk.cell 0; have z1 : w6.cell? ⟨w2.heap.size, 1, none⟩ = some (.int .i64 0) := hbk.cell 1; have z2 : w6.cell? ⟨w2.heap.size, 2, none⟩ = some (.bool false) := hbk.cell 2) | (go_at_call 22; refine (HC.out _).mono ?_; rintro e w6 ⟨rfl, hb⟩; have hk9 : w6.cell? ⟨g, 9, none⟩ = some (.int .i64 s.f.ep) := later_ hb d9; have hk10 : w6.cell? ⟨g, 10, none⟩ = some (.int .i64 s.f.ow) := later_ hb d10; have hk11 : w6.cell? ⟨g, 11, none⟩ = some (.bool s.f.cl) := later_ hb d11; have hk1 : w6.cell? ⟨b, 1, none⟩ = some (.int .i64 x.ep) := later_ hb d1))
      · go_wp2
        go_meet
        case rel =>
          have hbw : Below w2.heap.size w2 w6 := (Below.refl _ w2).drew.trans hb
          exact ⟨_, rfl, rfl, hbw.size, Lib.hid (Blk.new _ _ _), Lib.hid (hbw.alloc hbw.size _)⟩
      · go_wp2
        go_meet
        case rel =>
          have hbw : Below w2.heap.size w2 w6 := ((Below.refl _ w2).alloc (Nat.le_refl _) _).drew.trans (hb.mono (by simp))
          exact ⟨_, rfl, rfl, Nat.le_refl _, Lib.hid (((hbk.set_ 0 _).set_ 1 _).set_ 2 _), Lib.hid (((hbw.setCell (p := ⟨w2.heap.size, 0, none⟩) (Nat.le_refl _) _).setCell (p := ⟨w2.heap.size, 1, none⟩) (Nat.le_refl _) _).setCell (p := ⟨w2.heap.size, 2, none⟩) (Nat.le_refl _) _)⟩
    case rest =>
      obtain ⟨Bk, rfl, rfl, hBk, HXB, HWc⟩ := hcut
      clear HC
      have H3 := Lib.hid (H2.out.below HWc.out)
      have HB3 : Hid (Bw B W wc) := Lib.hid (HB2.out.trans (H2.out.up HWc.out))
      have HX3 := Lib.hid (HX2.out.below HWc.out hb2)
      have hgk : g < Bk := Nat.lt_of_lt_of_le hg2 hBk
      clear d9 d10 d11 d1 HWc
      by_cases h0 : E = 0
      · have hbe : (E == 0) = true := by simp [h0]
        replace HWS : Hid (wriS s i = { s with f := R }) := Lib.hid (by rw [HWS.out, if_pos h0])
        clear h0
        have d0 : wc.cell? ⟨Bk, 0, none⟩ = some (.int .i64 R.ep) := HXB.out.cell 0
        have d1 : wc.cell? ⟨Bk, 1, none⟩ = some (.int .i64 R.ow) := HXB.out.cell 1
        have d2 : wc.cell? ⟨Bk, 2, none⟩ = some (.bool R.cl) := HXB.out.cell 2
        have y0 := H3.out.blk.frozen 9
        have y1 := H3.out.blk.frozen 10
        have y2 := H3.out.blk.frozen 11
        have q0 : wc.cell? ⟨g, 9, none⟩ = some (.int .i64 s.f.ep) := H3.out.blk.cell 9
        have q1 : wc.cell? ⟨g, 10, none⟩ = some (.int .i64 s.f.ow) := H3.out.blk.cell 10
        have q2 : wc.cell? ⟨g, 11, none⟩ = some (.bool s.f.cl) := H3.out.blk.cell 11
        go_wp2_with fail
        obtain ⟨W5, hW5⟩ : ∃ W5 : World, W5 = (((wc.setCell ⟨g, 9, none⟩ (.int .i64 R.ep)).setCell ⟨g, 10, none⟩ (.int .i64 R.ow)).setCell ⟨g, 11, none⟩ (.bool R.cl)) := ⟨_, rfl⟩
        have H5 : Hid (Lie B W5 g { s with f := R } (.slice (some ad) s.ls.length c) vR vA) := Lib.hid (by rw [hW5]; exact H3.out.fence R)
        have HX5 : Hid (Blk W5 b 41 #[.int .i64 x.si, .int .i64 x.ep, .int .i64 x.un]) := Lib.hid (by rw [hW5]; exact ((HX3.out.far (p := ⟨g, 9, none⟩) (Nat.ne_of_gt hgl) _).far (p := ⟨g, 10, none⟩) (Nat.ne_of_gt hgl) _).far (p := ⟨g, 11, none⟩) (Nat.ne_of_gt hgl) _)
        have HB5 : Hid (Bw B W W5) := Lib.hid (by rw [hW5]; exact HB3.out.set3 H3.out.low (H3.out.blk.typed t39) _ _ _)
        rw [← hW5]
        clear hW5 d0 d1 d2 y0 y1 y2 q0 q1 q2 hbe
        have e9 : W5.cell? ⟨g, 9, none⟩ = some (.int .i64 R.ep) := H5.out.blk.cell 9
        have e10 : W5.cell? ⟨g, 10, none⟩ = some (.int .i64 R.ow) := H5.out.blk.cell 10
        have e11 : W5.cell? ⟨g, 11, none⟩ = some (.bool R.cl) := H5.out.blk.cell 11
        have e1 : W5.cell? ⟨b, 1, none⟩ = some (.int .i64 x.ep) := HX5.out.cell 1
        go_still_tail 7, (by kernel_rfl)
        go_wp2_with fail
        refine (Admit_any R x.ep i _).mono ?_
        rintro e w6 ⟨rfl, hb⟩
        replace hb : Below W5.heap.size W5 w6 := ⟨hb.os, hb.tape, hb.output, hb.size, hb.block⟩
        have HFIN := Lib.hid (And.intro (H5.out.below hb) (HB5.out.trans (H5.out.up hb)))
        clear hb e9 e10 e11 e1
        go_wp2
        go_ret
        rw [HWB.out, HWS.out]
        exact ⟨ret_b (by rfl), HFIN.out⟩
      · have hbe : (E == 0) = false := by simp [h0]
        replace HWS : Hid (wriS s i = s) := Lib.hid (by rw [HWS.out, if_neg h0])
        clear h0
        go_wp2_with fail
        clear hbe
        have e9 : wc.cell? ⟨g, 9, none⟩ = some (.int .i64 s.f.ep) := H3.out.blk.cell 9
        have e10 : wc.cell? ⟨g, 10, none⟩ = some (.int .i64 s.f.ow) := H3.out.blk.cell 10
        have e11 : wc.cell? ⟨g, 11, none⟩ = some (.bool s.f.cl) := H3.out.blk.cell 11
        have e1 : wc.cell? ⟨b, 1, none⟩ = some (.int .i64 x.ep) := HX3.out.cell 1
        go_still_tail 7, (by kernel_rfl)
        go_wp2_with fail
        refine (Admit_any s.f x.ep i _).mono ?_
        rintro e w6 ⟨rfl, hb⟩
        replace hb : Below wc.heap.size wc w6 := ⟨hb.os, hb.tape, hb.output, hb.size, hb.block⟩
        have HFIN := Lib.hid (And.intro (H3.out.below hb) (HB3.out.trans (H3.out.up hb)))
        clear hb e9 e10 e11 e1
        go_wp2
        go_ret
        rw [HWB.out, HWS.out]
        exact ⟨ret_b (by rfl), HFIN.out⟩
end Go.Proofs.Ytcdifegjlllbfaa

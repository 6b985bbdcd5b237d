/- The walk through the run's learn. Conditions: the run lies, its bounds. -/
import Derived.Test.YtcdifegjlllbfaaWtM
import Derived.Test.YtcdifegjlllbfaaWtL
import Derived.RegionTactic
import Derived.BigRegion
import Derived.BigQuiet
import Derived.Deep.QuietTactic
import Derived.Deep.DeepCutAuto
import Derived.Test.YtcdifegjlllbfaaWtT
set_option linter.unusedVariables false
set_option linter.unusedSimpArgs false
namespace Go.Proofs.Ytcdifegjlllbfaa
open Go.RowKit
set_option maxRecDepth 10000 in
set_option maxHeartbeats 4000000 in
theorem learned_any {B g : Nat} {W : World} {s : St} {vL vR vA : Value} (which : Int) (h : Lie B W g s vL vR vA) (ok : Ok s) :
    Calls Try.prog 41 #[.pointer (some ⟨g, 0, none⟩), .int .i64 which] W fun e w' => e = .returned (.tuple #[]) ∧ Lie B w' g (lrnS s which) vL vR vA ∧ Bw B W w' := by
  obtain ⟨AA, cA, rfl, _, _, hra⟩ := OwL.rd h.oa
  obtain ⟨AR, cR, rfl, _, _, hrr⟩ := OwL.rd h.or_
  obtain ⟨gL, cL, rfl, hgL0, hgL1, _, _⟩ := OwL.at_ h.ol (by rw [ok.l3]; omega)
  have hna := ok.an
  have hnr := ok.rn
  have c8 : W.cell? ⟨g, 8, none⟩ = some (.slice AA s.an.length cA) := h.blk.cell 8
  have HH := Lib.hid h
  have OK := Lib.hid ok
  have hgl := h.lt
  rcases Nat.eq_zero_or_pos s.an.length with h0 | h0
  · have hbe : ((s.an.length : Int) == 0) = true := by simp [h0]
    have HS : Hid (lrnS s which = s) := Lib.hid (by unfold lrnS; rw [if_pos h0])
    clear h0 h ok hra hrr
    go_enter Try.func41, Try.ntmps41
    go_wp2
    refine bodyPost_ret (results_none rfl _ _ _) rfl ?_
    rw [HS.out]
    exact ⟨rfl, HH.out, Bw.refl _ _⟩
  · have hbe : ((s.an.length : Int) == 0) = false := by rw [beq_eq_false_iff_ne]; omega
    have hk := pk_lt which h0
    have hke := pk_eq which h0
    obtain ⟨p, hp⟩ : ∃ p, p = pk s.an.length which := ⟨_, rfl⟩
    rw [← hp] at hk hke
    obtain ⟨ad, rfl, d0, d1, d2, d3, d4, d5, d6, d7⟩ := RdL.mg hra hk
    obtain ⟨m, hm⟩ : ∃ m, m = s.an[p] := ⟨_, rfl⟩
    obtain ⟨a1, a2, a3, a4, a5, a6⟩ := ok.ans s.an[p] (List.getElem_mem hk)
    have hme : mgAt s.an p = m := by rw [mgAt_eq hk, hm]
    rw [← hm] at d0 d1 d2 d3 d4 d5 a1 a2 a3 a4 a5 a6
    have HS : Hid (lrnS s which = lrnM s m) := Lib.hid (by unfold lrnS; rw [if_neg (by omega), ← hp, hme])
    obtain ⟨ki, fr, too, nu, va, ep⟩ := m
    simp only at d0 d1 d2 d3 d4 d5 a1 a2 a3 a4 a5 a6
    obtain ⟨tn, rfl⟩ : ∃ tn : Nat, too = tn := ⟨too.toNat, by omega⟩
    obtain ⟨qn, rfl⟩ : ∃ qn : Nat, nu = qn := ⟨nu.toNat, by omega⟩
    have r0 := rem_bd which h0
    have r1 := rem_pos which h0
    obtain ⟨q, hq⟩ : ∃ q, q = which.tmod s.an.length := ⟨_, rfl⟩
    rw [← hq] at r0 r1
    obtain ⟨r00, r01⟩ := r0
    have e1 := Int.emod_nonneg which (show (s.an.length : Int) ≠ 0 by omega)
    have e2 := Int.emod_lt_of_pos which (show (0 : Int) < s.an.length by omega)
    obtain ⟨u, hu⟩ : ∃ u, u = which % s.an.length := ⟨_, rfl⟩
    rw [← hu] at r1 e1 e2 hke
    have w1 : which.tmod s.an.length = q := hq.symm
    have w4 : (s.an.length : Int) - 1 - u = p := by omega
    have hnil : ¬ s.an = [] := by intro e; rw [e] at h0; simp at h0
    have hpi : (p : Int) < s.an.length := by omega
    have hp0 : (0 : Int) ≤ p := by omega
    have A1 : Hid (ki = 16 ∧ va = s.term ∨ ki = 12 ∧ va = 0) := Lib.hid a1
    have A2 : Hid (tmB ep = true) := Lib.hid a2
    clear hme hm hq hu hke hp h ok hra hrr a1 a2
    have bz : Below W.heap.size W (W.alloc (.cells #[.int .i64 0, .int .i64 0, .int .i64 0, .int .i64 0, .int .i64 0, .int .i64 0, .slice none 0 0, .slice none 0 0] 85)) := (Below.refl _ _).alloc (Nat.le_refl _) _
    have k0 : (W.alloc (.cells #[.int .i64 0, .int .i64 0, .int .i64 0, .int .i64 0, .int .i64 0, .int .i64 0, .slice none 0 0, .slice none 0 0] 85)).cell? (ad.add (p * 8)) = some (.int .i64 ki) := later_ bz d0
    have k1 : (W.alloc (.cells #[.int .i64 0, .int .i64 0, .int .i64 0, .int .i64 0, .int .i64 0, .int .i64 0, .slice none 0 0, .slice none 0 0] 85)).cell? ⟨(ad.add (p * 8)).block, (ad.add (p * 8)).off + 1, none⟩ = some (.int .i64 fr) := later_ bz d1
    have k2 : (W.alloc (.cells #[.int .i64 0, .int .i64 0, .int .i64 0, .int .i64 0, .int .i64 0, .int .i64 0, .slice none 0 0, .slice none 0 0] 85)).cell? ⟨(ad.add (p * 8)).block, (ad.add (p * 8)).off + 2, none⟩ = some (.int .i64 (tn : Int)) := later_ bz d2
    have k3 : (W.alloc (.cells #[.int .i64 0, .int .i64 0, .int .i64 0, .int .i64 0, .int .i64 0, .int .i64 0, .slice none 0 0, .slice none 0 0] 85)).cell? ⟨(ad.add (p * 8)).block, (ad.add (p * 8)).off + 3, none⟩ = some (.int .i64 (qn : Int)) := later_ bz d3
    have k4 : (W.alloc (.cells #[.int .i64 0, .int .i64 0, .int .i64 0, .int .i64 0, .int .i64 0, .int .i64 0, .slice none 0 0, .slice none 0 0] 85)).cell? ⟨(ad.add (p * 8)).block, (ad.add (p * 8)).off + 4, none⟩ = some (.int .i64 va) := later_ bz d4
    have k5 : (W.alloc (.cells #[.int .i64 0, .int .i64 0, .int .i64 0, .int .i64 0, .int .i64 0, .int .i64 0, .slice none 0 0, .slice none 0 0] 85)).cell? ⟨(ad.add (p * 8)).block, (ad.add (p * 8)).off + 5, none⟩ = some (.int .i64 ep) := later_ bz d5
    have k6 : (W.alloc (.cells #[.int .i64 0, .int .i64 0, .int .i64 0, .int .i64 0, .int .i64 0, .int .i64 0, .slice none 0 0, .slice none 0 0] 85)).cell? ⟨(ad.add (p * 8)).block, (ad.add (p * 8)).off + 6, none⟩ = some (.slice none 0 0) := later_ bz d6
    have k7 : (W.alloc (.cells #[.int .i64 0, .int .i64 0, .int .i64 0, .int .i64 0, .int .i64 0, .int .i64 0, .slice none 0 0, .slice none 0 0] 85)).cell? ⟨(ad.add (p * 8)).block, (ad.add (p * 8)).off + 7, none⟩ = some (.slice none 0 0) := later_ bz d7
    clear bz
    go_enter Try.func41, Try.ntmps41
    go_wp2_with fail
    go_region
    have htl : tn < s.ls.length := by have := OK.out.l3; omega
    have hql : qn < s.rq.length := by omega
    have bz : Below W.heap.size W (W.alloc (.cells #[.int .i64 ki, .int .i64 fr, .int .i64 (tn : Int), .int .i64 (qn : Int), .int .i64 va, .int .i64 ep, .slice none 0 0, .slice none 0 0] 85)).drew := ((Below.refl _ _).alloc (Nat.le_refl _) _).drew
    have hX : Blk (W.alloc (.cells #[.int .i64 ki, .int .i64 fr, .int .i64 (tn : Int), .int .i64 (qn : Int), .int .i64 va, .int .i64 ep, .slice none 0 0, .slice none 0 0] 85)).drew W.heap.size 85 #[.int .i64 ki, .int .i64 fr, .int .i64 (tn : Int), .int .i64 (qn : Int), .int .i64 va, .int .i64 ep, .slice none 0 0, .slice none 0 0] := (show Blk (W.alloc (.cells #[.int .i64 ki, .int .i64 fr, .int .i64 (tn : Int), .int .i64 (qn : Int), .int .i64 va, .int .i64 ep, .slice none 0 0, .slice none 0 0] 85)) _ _ _ from Blk.new W 85 _)
    have H9 := Lib.hid (HH.out.below bz)
    have HB9 := Lib.hid (HH.out.up bz)
    clear d0 k0 d1 k1 d2 k2 d3 k3 d4 k4 d5 k5 d6 k6 d7 k7
    clear bz HH
    obtain ⟨b, hb⟩ : ∃ b, b = W.heap.size := ⟨_, rfl⟩
    rw [← hb] at hX hgl hgL1 ⊢
    generalize (W.alloc (.cells #[.int .i64 ki, .int .i64 fr, .int .i64 (tn : Int), .int .i64 (qn : Int), .int .i64 va, .int .i64 ep, .slice none 0 0, .slice none 0 0] 85)).drew = w9 at *
    have HX := Lib.hid hX
    clear hb hX
    have x2 : w9.cell? ⟨b, 2, none⟩ = some (.int .i64 (tn : Int)) := HX.out.cell 2
    have x3 : w9.cell? ⟨b, 3, none⟩ = some (.int .i64 (qn : Int)) := HX.out.cell 3
    have x6 : w9.cell? ⟨g, 6, none⟩ = some (.slice (some ⟨gL, 0, none⟩) s.ls.length cL) := H9.out.blk.cell 6
    have x7 : w9.cell? ⟨g, 7, none⟩ = some (.slice AR s.rq.length cR) := H9.out.blk.cell 7
    go_wp2_with fail
    go_quiet (fail)
    go_wp2_with fail
    have bq := drewN_below w9 nq w9.heap.size
    have H8 := Lib.hid (H9.out.below bq)
    have HX8 := Lib.hid (HX.out.below bq HX.out.lt)
    have HB8 := Lib.hid (HB9.out.trans (H9.out.up bq))
    clear bq x2 x3 x6 x7 H9 HX HB9
    generalize w9.drewN nq = w8 at *
    obtain ⟨adr, hAR, y0, _⟩ := RdL.rs (OwL.rd_ H8.out.or_) hql
    subst hAR
    obtain ⟨r, hr⟩ : ∃ r, r = s.rq[qn] := ⟨_, rfl⟩
    obtain ⟨hr0, hr1, _⟩ := OK.out.rq s.rq[qn] (List.getElem_mem hql)
    obtain ⟨x, hx⟩ : ∃ x, x = s.ls[tn] := ⟨_, rfl⟩
    obtain ⟨hxs, hxl⟩ := OK.out.ls tn htl
    rw [← hr] at y0 hr0 hr1
    rw [← hx] at hxs hxl
    have z0 : w8.cell? ⟨gL, tn * 3, none⟩ = some (.int .i64 x.si) := by rw [hx]; exact OwL.cell (E := eLe) H8.out.ol (k := tn) (j := 0) htl (by decide)
    have z1 : w8.cell? ⟨gL, tn * 3 + 1, none⟩ = some (.int .i64 x.ep) := by rw [hx]; exact OwL.cell (E := eLe) H8.out.ol (k := tn) (j := 1) htl (by decide)
    have z2 : w8.cell? ⟨gL, tn * 3 + 2, none⟩ = some (.int .i64 x.un) := by rw [hx]; exact OwL.cell (E := eLe) H8.out.ol (k := tn) (j := 2) htl (by decide)
    have HLT := Lib.hid htl
    have HST : Hid (lrnM s ⟨ki, fr, tn, qn, va, ep⟩ = { s with ls := s.ls.set tn (learnL x r.sent s.term s.margin ⟨ki, fr, tn, qn, va, ep⟩) }) := Lib.hid (by
      unfold lrnM
      simp only [Int.toNat_natCast]
      rw [leAt_eq htl, rsAt_eq hql, hx, hr])
    have HCL : Hid (∀ W', Calls Try.prog 77 #[.agg #[.int .i64 x.si, .int .i64 x.ep, .int .i64 x.un], .int .i64 r.sent, .int .i64 s.term, .int .i64 s.margin, .agg #[.int .i64 ki, .int .i64 fr, .int .i64 (tn : Int), .int .i64 (qn : Int), .int .i64 va, .int .i64 ep, .slice none 0 0, .slice none 0 0]] W' fun e w' => e = .returned (.agg #[.int .i64 (learnL x r.sent s.term s.margin ⟨ki, fr, tn, qn, va, ep⟩).si, .int .i64 (learnL x r.sent s.term s.margin ⟨ki, fr, tn, qn, va, ep⟩).ep, .int .i64 (learnL x r.sent s.term s.margin ⟨ki, fr, tn, qn, va, ep⟩).un]) ∧ Below W'.heap.size W' w') := Lib.hid fun W' => learn_any x r.sent s.term s.margin ⟨ki, fr, tn, qn, va, ep⟩ W' hxl hr0 hr1 OK.out.t0 OK.out.t1 OK.out.m0 OK.out.m1 (by rw [hxs]) A2.out A1.out
    obtain ⟨y, hy⟩ : ∃ y, y = learnL x r.sent s.term s.margin ⟨ki, fr, tn, qn, va, ep⟩ := ⟨_, rfl⟩
    rw [← hy] at HCL HST
    have g1 : w8.cell? ⟨g, 1, none⟩ = some (.int .i64 s.term) := H8.out.blk.cell 1
    have g1' := fun d os => cell_regrown g1 d os
    have g2 : w8.cell? ⟨g, 2, none⟩ = some (.int .i64 s.margin) := H8.out.blk.cell 2
    have g2' := fun d os => cell_regrown g2 d os
    have g6 : w8.cell? ⟨g, 6, none⟩ = some (.slice (some ⟨gL, 0, none⟩) s.ls.length cL) := H8.out.blk.cell 6
    have g6' := fun d os => cell_regrown g6 d os
    have g7 : w8.cell? ⟨g, 7, none⟩ = some (.slice (some adr) s.rq.length cR) := H8.out.blk.cell 7
    have g7' := fun d os => cell_regrown g7 d os
    have m0 : w8.cell? ⟨b, 0, none⟩ = some (.int .i64 ki) := HX8.out.cell 0
    have m0' := fun d os => cell_regrown m0 d os
    have m1 : w8.cell? ⟨b, 1, none⟩ = some (.int .i64 fr) := HX8.out.cell 1
    have m1' := fun d os => cell_regrown m1 d os
    have m2 : w8.cell? ⟨b, 2, none⟩ = some (.int .i64 (tn : Int)) := HX8.out.cell 2
    have m2' := fun d os => cell_regrown m2 d os
    have m3 : w8.cell? ⟨b, 3, none⟩ = some (.int .i64 (qn : Int)) := HX8.out.cell 3
    have m3' := fun d os => cell_regrown m3 d os
    have m4 : w8.cell? ⟨b, 4, none⟩ = some (.int .i64 va) := HX8.out.cell 4
    have m4' := fun d os => cell_regrown m4 d os
    have m5 : w8.cell? ⟨b, 5, none⟩ = some (.int .i64 ep) := HX8.out.cell 5
    have m5' := fun d os => cell_regrown m5 d os
    have m6 : w8.cell? ⟨b, 6, none⟩ = some (.slice none 0 0) := HX8.out.cell 6
    have m6' := fun d os => cell_regrown m6 d os
    have m7 : w8.cell? ⟨b, 7, none⟩ = some (.slice none 0 0) := HX8.out.cell 7
    have m7' := fun d os => cell_regrown m7 d os
    have y0' := fun d os => cell_regrown y0 d os
    have z0' := fun d os => cell_regrown z0 d os
    have z1' := fun d os => cell_regrown z1 d os
    have z2' := fun d os => cell_regrown z2 d os
    have hcall : ∀ d os, Calls Try.prog 77 #[.agg #[.int .i64 x.si, .int .i64 x.ep, .int .i64 x.un], .int .i64 r.sent, .int .i64 s.term, .int .i64 s.margin, .agg #[.int .i64 ki, .int .i64 fr, .int .i64 (tn : Int), .int .i64 (qn : Int), .int .i64 va, .int .i64 ep, .slice none 0 0, .slice none 0 0]] (Go.Sort.grow (redrawn w8 d) os) fun e w'' => e = .returned (.agg #[.int .i64 y.si, .int .i64 y.ep, .int .i64 y.un]) ∧ ∃ p : Regrown, w'' = Go.Sort.grow (redrawn w8 p.d) p.os := fun d os => Calls.regrown_of (HCL.out _)
    clear hy hx hr hxs hxl hr0 hr1 y0 z0 z1 z2 g1 g2 g6 g7 m0 m1 m2 m3 m4 m5 m6 m7
    have h3 : (tn : Int) < s.ls.length := by omega
    have h4 : (qn : Int) < s.rq.length := by omega
    refine region_below_tail 34 (by kernel_rfl) (by kernel_rfl) ?_
    simp only [List.take_succ_cons, List.take_zero, List.drop_succ_cons, List.drop_zero]
    repeat (go_big_quiet_step (exact hcall _ _))
    refine wpQuiet_nil ?_
    intro _ hw'
    obtain ⟨⟨dq, osq⟩, hw''⟩ := hw'
    subst hw''
    have hb := below_regrown w8 dq osq
    clear hcall g1' g2' g6' g7' m0' m1' m2' m3' m4' m5' m6' m7' y0' z0' z1' z2'
    generalize Go.Sort.grow (redrawn w8 dq) osq = w6 at *
    have hH6 := H8.out.below hb
    have q0 : w6.cell? ⟨gL, tn * 3, none⟩ = some (.int .i64 s.ls[tn].si) := OwL.cell (E := eLe) hH6.ol (k := tn) (j := 0) htl (by decide)
    have q1 : w6.cell? ⟨gL, tn * 3 + 1, none⟩ = some (.int .i64 s.ls[tn].ep) := OwL.cell (E := eLe) hH6.ol (k := tn) (j := 1) htl (by decide)
    have q2 : w6.cell? ⟨gL, tn * 3 + 2, none⟩ = some (.int .i64 s.ls[tn].un) := OwL.cell (E := eLe) hH6.ol (k := tn) (j := 2) htl (by decide)
    have v0 := OwL.frozen hH6.ol (tn * 3)
    have v1 := OwL.frozen hH6.ol (tn * 3 + 1)
    have v2 := OwL.frozen hH6.ol (tn * 3 + 2)
    go_wp2
    go_end0
    rw [HS.out, HST.out]
    exact ⟨rfl, hH6.lease HLT.out y, (HB8.out.trans (H8.out.up hb)).set3 hgL0 (hH6.ol.typed t41 gL rfl) _ _ _⟩
end Go.Proofs.Ytcdifegjlllbfaa

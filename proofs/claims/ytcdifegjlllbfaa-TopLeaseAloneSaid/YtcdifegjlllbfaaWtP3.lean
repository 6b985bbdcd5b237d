/- The walk through a step of the run: kind 3. Conditions: the run lies, its bounds. -/
import Derived.Test.YtcdifegjlllbfaaWtO
import Derived.Test.YtcdifegjlllbfaaWtH
import Derived.RegionTactic
import Derived.BigRegion
import Derived.BigQuiet
import Derived.Deep.QuietTactic
import Derived.Deep.DeepCutAuto
import Derived.Deep.RegionLaw
set_option linter.unusedVariables false
set_option linter.unusedSimpArgs false
namespace Go.Proofs.Ytcdifegjlllbfaa
open Go.RowKit
theorem handA_len (r : Rq) : (handA r).length ≤ 1 := by
  unfold handA acqA renA
  split
  · split
    · simp
    · split <;> simp
  · split
    · split <;> simp
    · simp
theorem han_end {B g : Nat} {W w1 : World} {s : St} {vL vR vA : Value} {A1 : Option Addr} {c1 : Nat} {m : Mg} {R : Wi} {L : List Mg} (hRL : R = (handR (rqOf s m)).w ∧ L = handA (rqOf s m)) (hl : B ≤ g) (hb : Bw B W w1) (hk : Blk w1 g 39 (s.cells vL vR vA)) (ol : OwL eLe 41 w1 B vL s.ls) (or_ : OwL eRs 93 w1 B vR s.rq)
    (ho : OwL eMg 85 w1 B (.slice A1 (s.an ++ L).length c1) (s.an ++ L)) :
    (∃ v, Lie B ((((w1.setCell ⟨g, 3, none⟩ (.int .i64 R.ep)).setCell ⟨g, 4, none⟩ (.int .i64 R.ho)).setCell ⟨g, 5, none⟩ (.int .i64 R.un)).setCell ⟨g, 8, none⟩ (.slice A1 (s.an.length + L.length) c1)) g (hanM s m) vL vR v) ∧ Bw B W ((((w1.setCell ⟨g, 3, none⟩ (.int .i64 R.ep)).setCell ⟨g, 4, none⟩ (.int .i64 R.ho)).setCell ⟨g, 5, none⟩ (.int .i64 R.un)).setCell ⟨g, 8, none⟩ (.slice A1 (s.an.length + L.length) c1)) := by
  rw [List.length_append] at ho
  obtain ⟨e1, e2⟩ := hRL
  have e : hanM s m = { s with w := R, an := s.an ++ L } := by unfold hanM; rw [e1, e2]
  rw [e]
  have a1 := OwL.apart ol hk (by decide)
  have a2 := OwL.apart or_ hk (by decide)
  have a3 := OwL.apart ho hk (by decide)
  exact ⟨⟨_, ⟨((((hk.set_ 3 (.int .i64 R.ep)).set_ 4 (.int .i64 R.ho)).set_ 5 (.int .i64 R.un)).set_ 8 (.slice A1 (s.an.length + L.length) c1) : Blk _ g 39 (St.cells { s with w := R, an := s.an ++ L } vL vR (.slice A1 (s.an.length + L.length) c1))), hl,
    (((ol.far (p := ⟨g, 3, none⟩) a1 _).far (p := ⟨g, 4, none⟩) a1 _).far (p := ⟨g, 5, none⟩) a1 _).far (p := ⟨g, 8, none⟩) a1 _,
    (((or_.far (p := ⟨g, 3, none⟩) a2 _).far (p := ⟨g, 4, none⟩) a2 _).far (p := ⟨g, 5, none⟩) a2 _).far (p := ⟨g, 8, none⟩) a2 _,
    (((ho.far (p := ⟨g, 3, none⟩) a3 _).far (p := ⟨g, 4, none⟩) a3 _).far (p := ⟨g, 5, none⟩) a3 _).far (p := ⟨g, 8, none⟩) a3 _⟩⟩,
    (hb.set3 hl (hk.typed t39) _ _ _).setCell (p := ⟨g, 8, none⟩) hl ((((hk.typed t39).set _ _).set _ _).set _ _) _⟩
set_option maxRecDepth 10000 in
set_option maxHeartbeats 4000000 in
theorem step3_any {B g : Nat} {W : World} {s : St} {vL vR vA : Value} (si wh : Int) (h : Lie B W g s vL vR vA) (ok : Ok s) :
    Calls Try.prog 13 #[.pointer (some ⟨g, 0, none⟩), .agg #[.int .i64 3, .int .i64 si, .int .i64 wh]] W fun e w' => e = .returned (.bool true) ∧ (∃ v, Lie B w' g (hanS s ⟨3, si, wh⟩) vL vR v) ∧ Bw B W w' := by
  obtain ⟨gL, cL, rfl, hgL0, hgL1, _, _⟩ := OwL.at_ h.ol (by rw [ok.l3]; omega)
  have hgl := h.lt
  have hil := (⟨3, si, wh⟩ : Sp3).i_lt
  have hie := (⟨3, si, wh⟩ : Sp3).i_eq
  obtain ⟨i, hi⟩ : ∃ i, i = (⟨3, si, wh⟩ : Sp3).i := ⟨_, rfl⟩
  rw [← hi] at hil hie
  replace hie : (i : Int) = si % 3 := hie
  have hl3 := ok.l3
  have htl : i < s.ls.length := by omega
  obtain ⟨x, hx⟩ : ∃ x, x = s.ls[i] := ⟨_, rfl⟩
  obtain ⟨hxs, hxl⟩ := ok.ls i htl
  have hle : leAt s.ls i = x := by rw [leAt_eq htl, hx]
  have z0 : W.cell? ⟨gL, i * 3, none⟩ = some (.int .i64 x.si) := by rw [hx]; exact OwL.cell (E := eLe) h.ol (k := i) (j := 0) htl (by decide)
  have z1 : W.cell? ⟨gL, i * 3 + 1, none⟩ = some (.int .i64 x.ep) := by rw [hx]; exact OwL.cell (E := eLe) h.ol (k := i) (j := 1) htl (by decide)
  have z2 : W.cell? ⟨gL, i * 3 + 2, none⟩ = some (.int .i64 x.un) := by rw [hx]; exact OwL.cell (E := eLe) h.ol (k := i) (j := 2) htl (by decide)
  rw [← hx] at hxs hxl
  have c6 : W.cell? ⟨g, 6, none⟩ = some (.slice (some ⟨gL, 0, none⟩) s.ls.length cL) := h.blk.cell 6
  obtain ⟨r0, r1, r2⟩ := rem3 si
  rw [← hie] at r2
  obtain ⟨q, hq⟩ : ∃ q, q = si.tmod 3 := ⟨_, rfl⟩
  rw [← hq] at r0 r1 r2
  have w1 : si.tmod 3 = q := hq.symm
  have hi3 : (i : Int) < s.ls.length := by omega
  have HI := Lib.hid hi
  have HLE := Lib.hid hle
  have HXS := Lib.hid hxs
  have HXL := Lib.hid hxl
  have HTL := Lib.hid htl
  have HH := Lib.hid h
  have OK := Lib.hid ok
  have HL3 := Lib.hid hl3
  clear hi hle hx hq h ok hie hxs hxl hl3 htl
  have hnr := OK.out.rn
  have b0 : Below W.heap.size W ((W.alloc (.cells #[.int .i64 3, .int .i64 si, .int .i64 wh] 27)).alloc (.cells #[.int .i64 x.si, .int .i64 x.ep, .int .i64 x.un] 41)) := ((Below.refl _ _).alloc (Nat.le_refl _) _).alloc (by simp) _
  have H0 := Lib.hid (HH.out.below b0)
  have HB0 := Lib.hid (HH.out.up b0)
  obtain ⟨AR, cR, rfl, _, _, hrr⟩ := OwL.rd HH.out.or_
  have c7 : W.cell? ⟨g, 7, none⟩ = some (.slice AR s.rq.length cR) := HH.out.blk.cell 7
  rcases Nat.eq_zero_or_pos s.rq.length with h0 | h0
  · have HS : Hid (hanS s ⟨3, si, wh⟩ = s) := Lib.hid (by unfold hanS; rw [if_pos h0])
    have hnil : s.rq = [] := List.eq_nil_of_length_eq_zero h0
    have hz : ¬ 0 < s.rq.length := by omega
    rw [h0] at c7
    clear h0 hrr b0 hnil hz
    go_enter Try.func13, Try.ntmps13
    go_wp2_with fail
    go_ret
    rw [HS.out]
    exact ⟨rfl, ⟨_, H0.out⟩, HB0.out⟩
  · have hk := pk_lt wh h0
    have hke := pk_eq wh h0
    obtain ⟨p, hp⟩ : ∃ p, p = pk s.rq.length wh := ⟨_, rfl⟩
    rw [← hp] at hk hke
    obtain ⟨ad, rfl, d0, d1, d2, d3, d4, d5, d6, d7, d8⟩ := RdL.rs hrr hk
    obtain ⟨r, hr⟩ : ∃ r, r = s.rq[p] := ⟨_, rfl⟩
    obtain ⟨a0, a1, a2, a3, a4, a5⟩ := OK.out.rq s.rq[p] (List.getElem_mem hk)
    have hme : rsAt s.rq p = r := by rw [rsAt_eq hk, hr]
    rw [← hr] at d0 d1 d2 d3 d4 d5 d6 a0 a1 a2 a3 a4 a5
    have HS : Hid (hanS s ⟨3, si, wh⟩ = hanM s r.m) := Lib.hid (by unfold hanS; rw [if_neg (by omega), ← hp, hme])
    have HCH : Hid (∀ W', Calls Try.prog 40 #[.agg #[.int .i64 s.w.ep, .int .i64 s.w.ho, .int .i64 s.w.un], .int .i64 s.now, .int .i64 s.term, .agg #[.int .i64 r.m.ki, .int .i64 r.m.fr, .int .i64 r.m.to, .int .i64 r.m.nu, .int .i64 r.m.va, .int .i64 r.m.ep, .slice none 0 0, .slice none 0 0]] W' fun e w' => ∃ A, e = .returned (.tuple #[.agg #[.int .i64 (handR (rqOf s r.m)).w.ep, .int .i64 (handR (rqOf s r.m)).w.ho, .int .i64 (handR (rqOf s r.m)).w.un], .slice A (handA (rqOf s r.m)).length (handA (rqOf s r.m)).length]) ∧ RdN (W'.heap.size + 1) w' A (handA (rqOf s r.m)) ∧ Below W'.heap.size W' w') := Lib.hid fun W' =>
      handle_any (rqOf s r.m) W' OK.out.wi OK.out.n0 (by have := OK.out.n1; show s.now ≤ 1000; omega) OK.out.t0 OK.out.t1 (by unfold stB btw rqOf; simp; omega) a4 a5
    have r0' := rem_bd wh h0
    have r1' := rem_pos wh h0
    obtain ⟨q2, hq2⟩ : ∃ q2, q2 = wh.tmod s.rq.length := ⟨_, rfl⟩
    rw [← hq2] at r0' r1'
    obtain ⟨r00, r01⟩ := r0'
    have e1 := Int.emod_nonneg wh (show (s.rq.length : Int) ≠ 0 by omega)
    have e2 := Int.emod_lt_of_pos wh (show (0 : Int) < s.rq.length by omega)
    obtain ⟨u, hu⟩ : ∃ u, u = wh % s.rq.length := ⟨_, rfl⟩
    rw [← hu] at r1' e1 e2 hke
    have w2 : wh.tmod s.rq.length = q2 := hq2.symm
    have w4 : (s.rq.length : Int) - 1 - u = p := by omega
    have hnil : ¬ s.rq = [] := by intro e; rw [e] at h0; simp at h0
    have hpi : (p : Int) < s.rq.length := by omega
    have hp0 : (0 : Int) ≤ p := by omega
    clear hme hr hq2 hu hke hp hrr a0 a1 a2 a3 a4 a5
    go_enter Try.func13, Try.ntmps13
    go_wp2_with fail
    have hXW := (Blk.new W 27 #[.int .i64 3, .int .i64 si, .int .i64 wh]).alloc (.cells #[.int .i64 x.si, .int .i64 x.ep, .int .i64 x.un] 41)
    replace d0 := later_ b0 d0; replace d1 := later_ b0 d1; replace d2 := later_ b0 d2; replace d3 := later_ b0 d3; replace d4 := later_ b0 d4; replace d5 := later_ b0 d5; replace d6 := later_ b0 d6; replace d7 := later_ b0 d7; replace d8 := later_ b0 d8
    obtain ⟨b, hb⟩ : ∃ b, b = W.heap.size := ⟨_, rfl⟩
    rw [← hb] at hXW hgl hgL1 ⊢
    clear b0 z0 z1 z2 c6 c7 HH
    generalize (W.alloc (.cells #[.int .i64 3, .int .i64 si, .int .i64 wh] 27)).alloc (.cells #[.int .i64 x.si, .int .i64 x.ep, .int .i64 x.un] 41) = w9 at *
    have x2 : w9.cell? ⟨b, 2, none⟩ = some (.int .i64 wh) := hXW.cell 2
    have c7 : w9.cell? ⟨g, 7, none⟩ = some (.slice (some ad) s.rq.length cR) := H0.out.blk.cell 7
    have hbw : b < w9.heap.size := hXW.lt
    have hgw : g < w9.heap.size := H0.out.lt
    clear hXW hb
    have bz : Below w9.heap.size w9 (w9.alloc (.cells #[.int .i64 0, .int .i64 0, .int .i64 0, .int .i64 0, .int .i64 0, .int .i64 0, .int .i64 0, .slice none 0 0, .slice none 0 0] 93)) := (Below.refl _ _).alloc (Nat.le_refl _) _
    have k0 : (w9.alloc (.cells #[.int .i64 0, .int .i64 0, .int .i64 0, .int .i64 0, .int .i64 0, .int .i64 0, .int .i64 0, .slice none 0 0, .slice none 0 0] 93)).cell? (ad.add (p * 9)) = some (.int .i64 r.sent) := later_ bz d0
    have k1 : (w9.alloc (.cells #[.int .i64 0, .int .i64 0, .int .i64 0, .int .i64 0, .int .i64 0, .int .i64 0, .int .i64 0, .slice none 0 0, .slice none 0 0] 93)).cell? ⟨(ad.add (p * 9)).block, (ad.add (p * 9)).off + 1, none⟩ = some (.int .i64 r.m.ki) := later_ bz d1
    have k2 : (w9.alloc (.cells #[.int .i64 0, .int .i64 0, .int .i64 0, .int .i64 0, .int .i64 0, .int .i64 0, .int .i64 0, .slice none 0 0, .slice none 0 0] 93)).cell? ⟨(ad.add (p * 9)).block, (ad.add (p * 9)).off + 2, none⟩ = some (.int .i64 r.m.fr) := later_ bz d2
    have k3 : (w9.alloc (.cells #[.int .i64 0, .int .i64 0, .int .i64 0, .int .i64 0, .int .i64 0, .int .i64 0, .int .i64 0, .slice none 0 0, .slice none 0 0] 93)).cell? ⟨(ad.add (p * 9)).block, (ad.add (p * 9)).off + 3, none⟩ = some (.int .i64 r.m.to) := later_ bz d3
    have k4 : (w9.alloc (.cells #[.int .i64 0, .int .i64 0, .int .i64 0, .int .i64 0, .int .i64 0, .int .i64 0, .int .i64 0, .slice none 0 0, .slice none 0 0] 93)).cell? ⟨(ad.add (p * 9)).block, (ad.add (p * 9)).off + 4, none⟩ = some (.int .i64 r.m.nu) := later_ bz d4
    have k5 : (w9.alloc (.cells #[.int .i64 0, .int .i64 0, .int .i64 0, .int .i64 0, .int .i64 0, .int .i64 0, .int .i64 0, .slice none 0 0, .slice none 0 0] 93)).cell? ⟨(ad.add (p * 9)).block, (ad.add (p * 9)).off + 5, none⟩ = some (.int .i64 r.m.va) := later_ bz d5
    have k6 : (w9.alloc (.cells #[.int .i64 0, .int .i64 0, .int .i64 0, .int .i64 0, .int .i64 0, .int .i64 0, .int .i64 0, .slice none 0 0, .slice none 0 0] 93)).cell? ⟨(ad.add (p * 9)).block, (ad.add (p * 9)).off + 6, none⟩ = some (.int .i64 r.m.ep) := later_ bz d6
    have k7 : (w9.alloc (.cells #[.int .i64 0, .int .i64 0, .int .i64 0, .int .i64 0, .int .i64 0, .int .i64 0, .int .i64 0, .slice none 0 0, .slice none 0 0] 93)).cell? ⟨(ad.add (p * 9)).block, (ad.add (p * 9)).off + 7, none⟩ = some (.slice none 0 0) := later_ bz d7
    have k8 : (w9.alloc (.cells #[.int .i64 0, .int .i64 0, .int .i64 0, .int .i64 0, .int .i64 0, .int .i64 0, .int .i64 0, .slice none 0 0, .slice none 0 0] 93)).cell? ⟨(ad.add (p * 9)).block, (ad.add (p * 9)).off + 8, none⟩ = some (.slice none 0 0) := later_ bz d8
    clear bz
    go_wp2_with fail
    go_region
    go_wp2_with fail
    have bz : Below w9.heap.size w9 (w9.alloc (.cells #[.int .i64 r.sent, .int .i64 r.m.ki, .int .i64 r.m.fr, .int .i64 r.m.to, .int .i64 r.m.nu, .int .i64 r.m.va, .int .i64 r.m.ep, .slice none 0 0, .slice none 0 0] 93)).drew := ((Below.refl _ _).alloc (Nat.le_refl _) _).drew
    have hX : Blk (w9.alloc (.cells #[.int .i64 r.sent, .int .i64 r.m.ki, .int .i64 r.m.fr, .int .i64 r.m.to, .int .i64 r.m.nu, .int .i64 r.m.va, .int .i64 r.m.ep, .slice none 0 0, .slice none 0 0] 93)).drew w9.heap.size 93 #[.int .i64 r.sent, .int .i64 r.m.ki, .int .i64 r.m.fr, .int .i64 r.m.to, .int .i64 r.m.nu, .int .i64 r.m.va, .int .i64 r.m.ep, .slice none 0 0, .slice none 0 0] := (show Blk (w9.alloc (.cells #[.int .i64 r.sent, .int .i64 r.m.ki, .int .i64 r.m.fr, .int .i64 r.m.to, .int .i64 r.m.nu, .int .i64 r.m.va, .int .i64 r.m.ep, .slice none 0 0, .slice none 0 0] 93)) _ _ _ from Blk.new w9 93 _)
    have H8 := Lib.hid (H0.out.below bz)
    have HB8 := Lib.hid (HB0.out.trans (H0.out.up bz))
    obtain ⟨c, hc⟩ : ∃ c, c = w9.heap.size := ⟨_, rfl⟩
    rw [← hc] at hX ⊢
    clear d0 d1 d2 d3 d4 d5 d6 d7 d8 k0 k1 k2 k3 k4 k5 k6 k7 k8 bz H0 HB0 x2 c7 hbw hgw
    generalize (w9.alloc (.cells #[.int .i64 r.sent, .int .i64 r.m.ki, .int .i64 r.m.fr, .int .i64 r.m.to, .int .i64 r.m.nu, .int .i64 r.m.va, .int .i64 r.m.ep, .slice none 0 0, .slice none 0 0] 93)).drew = w8 at *
    have HX8 := Lib.hid hX
    clear hX hc
    obtain ⟨R, hR⟩ : ∃ R, R = (handR (rqOf s r.m)).w := ⟨_, rfl⟩
    obtain ⟨L, hL⟩ : ∃ L, L = handA (rqOf s r.m) := ⟨_, rfl⟩
    rw [← hR, ← hL] at HCH
    have HRL := Lib.hid (And.intro hR hL)
    clear hR hL
    have y0 : w8.cell? ⟨g, 0, none⟩ = some (.int .i64 s.now) := H8.out.blk.cell 0
    have y1 : w8.cell? ⟨g, 1, none⟩ = some (.int .i64 s.term) := H8.out.blk.cell 1
    have y3 : w8.cell? ⟨g, 3, none⟩ = some (.int .i64 s.w.ep) := H8.out.blk.cell 3
    have y4 : w8.cell? ⟨g, 4, none⟩ = some (.int .i64 s.w.ho) := H8.out.blk.cell 4
    have y5 : w8.cell? ⟨g, 5, none⟩ = some (.int .i64 s.w.un) := H8.out.blk.cell 5
    have v1 : w8.cell? ⟨c, 1, none⟩ = some (.int .i64 r.m.ki) := HX8.out.cell 1
    have v2 : w8.cell? ⟨c, 2, none⟩ = some (.int .i64 r.m.fr) := HX8.out.cell 2
    have v3 : w8.cell? ⟨c, 3, none⟩ = some (.int .i64 r.m.to) := HX8.out.cell 3
    have v4 : w8.cell? ⟨c, 4, none⟩ = some (.int .i64 r.m.nu) := HX8.out.cell 4
    have v5 : w8.cell? ⟨c, 5, none⟩ = some (.int .i64 r.m.va) := HX8.out.cell 5
    have v6 : w8.cell? ⟨c, 6, none⟩ = some (.int .i64 r.m.ep) := HX8.out.cell 6
    have v7 : w8.cell? ⟨c, 7, none⟩ = some (.slice none 0 0) := HX8.out.cell 7
    have v8 : w8.cell? ⟨c, 8, none⟩ = some (.slice none 0 0) := HX8.out.cell 8
    have hg8 : g < w8.heap.size := H8.out.lt
    have hc8 : c < w8.heap.size := HX8.out.lt
    go_cut [15, 16] (fun v15 v16 wc => ∃ (Bk : Nat) (A : Option Addr), v15 = .pointer (some ⟨Bk, 0, none⟩) ∧ v16 = .slice A L.length L.length ∧ w8.heap.size ≤ Bk ∧ Hid (Blk wc Bk 32 #[.int .i64 R.ep, .int .i64 R.ho, .int .i64 R.un]) ∧ Hid (RdL eMg wc A L) ∧ Hid (Below w8.heap.size w8 wc))
    case first =>
      have hbz := (Below.refl w8.heap.size w8).alloc (Nat.le_refl _) (.cells #[.int .i64 0, .int .i64 0, .int .i64 0] 32)
      have hfa : ∀ w', Below w8.heap.size w8 w' → (fun w' => w'.cell? ⟨g, 0, none⟩ = some (.int .i64 s.now) ∧ w'.cell? ⟨g, 1, none⟩ = some (.int .i64 s.term) ∧ w'.cell? ⟨g, 3, none⟩ = some (.int .i64 s.w.ep) ∧ w'.cell? ⟨g, 4, none⟩ = some (.int .i64 s.w.ho) ∧ w'.cell? ⟨g, 5, none⟩ = some (.int .i64 s.w.un) ∧ w'.cell? ⟨c, 1, none⟩ = some (.int .i64 r.m.ki) ∧ w'.cell? ⟨c, 2, none⟩ = some (.int .i64 r.m.fr) ∧ w'.cell? ⟨c, 3, none⟩ = some (.int .i64 r.m.to) ∧ w'.cell? ⟨c, 4, none⟩ = some (.int .i64 r.m.nu) ∧ w'.cell? ⟨c, 5, none⟩ = some (.int .i64 r.m.va) ∧ w'.cell? ⟨c, 6, none⟩ = some (.int .i64 r.m.ep) ∧ w'.cell? ⟨c, 7, none⟩ = some (.slice none 0 0) ∧ w'.cell? ⟨c, 8, none⟩ = some (.slice none 0 0)) w' := fun w' hb => ⟨(H8.out.below hb).blk.cell 0, (H8.out.below hb).blk.cell 1, (H8.out.below hb).blk.cell 3, (H8.out.below hb).blk.cell 4, (H8.out.below hb).blk.cell 5, (HX8.out.below hb HX8.out.lt).cell 1, (HX8.out.below hb HX8.out.lt).cell 2, (HX8.out.below hb HX8.out.lt).cell 3, (HX8.out.below hb HX8.out.lt).cell 4, (HX8.out.below hb HX8.out.lt).cell 5, (HX8.out.below hb HX8.out.lt).cell 6, (HX8.out.below hb HX8.out.lt).cell 7, (HX8.out.below hb HX8.out.lt).cell 8⟩
      have HFA := Lib.hid hfa
      have HS0 := Lib.hid (hfa w8 (Below.refl _ _))
      have HS1 := Lib.hid (hfa _ hbz)
      have HBZ := Lib.hid hbz
      clear hbz hfa
      go_region_held3 (fun w' => w'.cell? ⟨g, 0, none⟩ = some (.int .i64 s.now) ∧ w'.cell? ⟨g, 1, none⟩ = some (.int .i64 s.term) ∧ w'.cell? ⟨g, 3, none⟩ = some (.int .i64 s.w.ep) ∧ w'.cell? ⟨g, 4, none⟩ = some (.int .i64 s.w.ho) ∧ w'.cell? ⟨g, 5, none⟩ = some (.int .i64 s.w.un) ∧ w'.cell? ⟨c, 1, none⟩ = some (.int .i64 r.m.ki) ∧ w'.cell? ⟨c, 2, none⟩ = some (.int .i64 r.m.fr) ∧ w'.cell? ⟨c, 3, none⟩ = some (.int .i64 r.m.to) ∧ w'.cell? ⟨c, 4, none⟩ = some (.int .i64 r.m.nu) ∧ w'.cell? ⟨c, 5, none⟩ = some (.int .i64 r.m.va) ∧ w'.cell? ⟨c, 6, none⟩ = some (.int .i64 r.m.ep) ∧ w'.cell? ⟨c, 7, none⟩ = some (.slice none 0 0) ∧ w'.cell? ⟨c, 8, none⟩ = some (.slice none 0 0)) (first | exact HS0.out | exact HS1.out | exact hk | exact ⟨far3_ (by show g ≠ w8.heap.size; omega) hk.1, far3_ (by show g ≠ w8.heap.size; omega) hk.2.1, far3_ (by show g ≠ w8.heap.size; omega) hk.2.2.1, far3_ (by show g ≠ w8.heap.size; omega) hk.2.2.2.1, far3_ (by show g ≠ w8.heap.size; omega) hk.2.2.2.2.1, far3_ (by show c ≠ w8.heap.size; omega) hk.2.2.2.2.2.1, far3_ (by show c ≠ w8.heap.size; omega) hk.2.2.2.2.2.2.1, far3_ (by show c ≠ w8.heap.size; omega) hk.2.2.2.2.2.2.2.1, far3_ (by show c ≠ w8.heap.size; omega) hk.2.2.2.2.2.2.2.2.1, far3_ (by show c ≠ w8.heap.size; omega) hk.2.2.2.2.2.2.2.2.2.1, far3_ (by show c ≠ w8.heap.size; omega) hk.2.2.2.2.2.2.2.2.2.2.1, far3_ (by show c ≠ w8.heap.size; omega) hk.2.2.2.2.2.2.2.2.2.2.2.1, far3_ (by show c ≠ w8.heap.size; omega) hk.2.2.2.2.2.2.2.2.2.2.2.2⟩ | go_keep)
        (first | (go_at_call 40; refine (HCH.out _).mono ?_; rintro e w6 ⟨A, rfl, hrd, hb⟩; have hk := HFA.out w6 (((Below.refl w8.heap.size w8).alloc (Nat.le_refl _) (.cells #[.int .i64 0, .int .i64 0, .int .i64 0] 32)).drew.trans (hb.mono (by simp))); have hbk : Blk w6 w8.heap.size 32 #[.int .i64 0, .int .i64 0, .int .i64 0] := (show Blk (w8.alloc (.cells #[.int .i64 0, .int .i64 0, .int .i64 0] 32)).drew _ _ _ from Blk.new w8 32 _).below hb (by simp); have n0 := hbk.frozen 0; have n1 := hbk.frozen 1; have n2 := hbk.frozen 2; have z0 : w6.cell? ⟨w8.heap.size, 0, none⟩ = some (.int .i64 0) := hbk.cell 0; have z1 : w6.cell? ⟨w8.heap.size, 1, none⟩ = some (.int .i64 0) := hbk.cell 1; have z2 : w6.cell? ⟨w8.heap.size, 2, none⟩ = some (.int .i64 0) := hbk.cell 2) | (go_at_call 40; refine (HCH.out _).mono ?_; rintro e w6 ⟨A, rfl, hrd, hb⟩; have hk := HFA.out w6 ((Below.refl w8.heap.size w8).drew.trans hb)))
      · go_wp2
        go_meet
        case rel =>
          have hbw : Below w8.heap.size w8 w6 := (Below.refl _ w8).drew.trans hb
          exact ⟨_, A, rfl, rfl, hbw.size, Lib.hid (Blk.new _ _ _), Lib.hid (hrd.1.alloc _), Lib.hid (hbw.alloc hbw.size _)⟩
      · go_wp2
        go_meet
        case rel =>
          have hbw : Below w8.heap.size w8 w6 := ((Below.refl _ w8).alloc (Nat.le_refl _) _).drew.trans (hb.mono (by simp))
          have hfr : w8.heap.size < (w8.alloc (.cells #[.int .i64 0, .int .i64 0, .int .i64 0] 32)).drew.heap.size + 1 := Nat.lt_succ_of_lt (show w8.heap.size < (w8.alloc (.cells #[.int .i64 0, .int .i64 0, .int .i64 0] 32)).heap.size by simp)
          exact ⟨_, A, rfl, rfl, Nat.le_refl _, Lib.hid (((hbk.set_ 0 _).set_ 1 _).set_ 2 _), Lib.hid (((hrd.far (g := w8.heap.size) (j := 0) hfr _).far (g := w8.heap.size) (j := 1) hfr _).far (g := w8.heap.size) (j := 2) hfr _).1, Lib.hid (((hbw.setCell (p := ⟨w8.heap.size, 0, none⟩) (Nat.le_refl _) _).setCell (p := ⟨w8.heap.size, 1, none⟩) (Nat.le_refl _) _).setCell (p := ⟨w8.heap.size, 2, none⟩) (Nat.le_refl _) _)⟩
    case rest =>
      obtain ⟨Bk, A, rfl, rfl, hBk, HXB, HRD, HWc⟩ := hcut
      have H3 := Lib.hid (H8.out.below HWc.out)
      have HB3 : Hid (Bw B W wc) := Lib.hid (HB8.out.trans (H8.out.up HWc.out))
      have hgB : g < Bk := Nat.lt_of_lt_of_le hg8 hBk
      obtain ⟨AA, cA, rfl, _, _, _⟩ := OwL.rd H3.out.oa
      obtain ⟨i0, hi, hz0, hz1, hz2⟩ := info_parts info85
      have hna := OK.out.an
      have hLl : L.length ≤ 1 := by rw [HRL.out.2]; exact handA_len _
      have hA0 : A = none → L = [] := fun e => by have := HRD.out; rw [e] at this; exact this.none_
      have HA0 := Lib.hid hA0
      have HVA : Hid (OwL eMg 85 wc.drew B (.slice AA s.an.length cA) s.an) := Lib.hid (show OwL eMg 85 wc B (.slice AA s.an.length cA) s.an from H3.out.oa)
      have HBX : Hid (RdL eMg wc.drew A L) := Lib.hid (show RdL eMg wc A L from HRD.out)
      have HK1 : Hid (s.an.length + L.length ≤ maxLen) := Lib.hid (by simp only [maxLen]; omega)
      have HK2 : Hid ((s.an.length + L.length) * 96 ≤ 140737488355328) := Lib.hid (by omega)
      have HBS : Hid (B ≤ wc.drew.heap.size) := Lib.hid (show B ≤ wc.heap.size from H3.out.base)
      have HFA : Hid (∀ v1 w1, OwL eMg 85 w1 B v1 (s.an ++ L) → wc.drew.grownBy w1 (Value.slice AA s.an.length cA).ownBlock → Bw B W w1 ∧ Blk w1 g 39 (s.cells (.slice (some ⟨gL, 0, none⟩) s.ls.length cL) (.slice (some ad) s.rq.length cR) (.slice AA s.an.length cA)) ∧ OwL eLe 41 w1 B (.slice (some ⟨gL, 0, none⟩) s.ls.length cL) s.ls ∧ OwL eRs 93 w1 B (.slice (some ad) s.rq.length cR) s.rq ∧ Blk w1 Bk 32 #[.int .i64 R.ep, .int .i64 R.ho, .int .i64 R.un]) := by
        refine Lib.hid fun v1 w1 hown hg => ?_
        have a1 : ∀ q, (Value.slice AA s.an.length cA).ownBlock = some q → q ≠ g := OwL.apart H3.out.oa H3.out.blk (by decide)
        have a2 := OwL.apart_ H3.out.ol H3.out.oa (by decide)
        have a3 := OwL.apart_ H3.out.or_ H3.out.oa (by decide)
        have a4 : ∀ q, (Value.slice AA s.an.length cA).ownBlock = some q → q ≠ Bk := OwL.apart H3.out.oa HXB.out (by decide)
        have hlt1 : ∀ q, (Value.slice AA s.an.length cA).ownBlock = some q → B ≤ q := fun q h => (OwL.lt H3.out.oa q h).1
        exact ⟨(HB3.out.drew).grown hg HBS.out hlt1 (H3.out.oa.typed t85), (show Blk wc.drew _ _ _ from H3.out.blk).grown hg (fun h => a1 _ h.symm rfl), (show OwL eLe 41 wc.drew B _ s.ls from H3.out.ol).grown hg a2, (show OwL eRs 93 wc.drew B _ s.rq from H3.out.or_).grown hg a3, (show Blk wc.drew _ _ _ from HXB.out).grown hg (fun h => a4 _ h.symm rfl)⟩
      have x8 : wc.cell? ⟨g, 8, none⟩ = some (.slice AA s.an.length cA) := H3.out.blk.cell 8
      have b0 : wc.cell? ⟨Bk, 0, none⟩ = some (.int .i64 R.ep) := HXB.out.cell 0
      have b1 : wc.cell? ⟨Bk, 1, none⟩ = some (.int .i64 R.ho) := HXB.out.cell 1
      have b2 : wc.cell? ⟨Bk, 2, none⟩ = some (.int .i64 R.un) := HXB.out.cell 2
      clear y0 y1 y3 y4 y5 v1 v2 v3 v4 v5 v6 v7 v8 hg8 hc8 hA0 HCH w1 w2 w4 hnil
      go_wp2_with fail
      go_region_law
        ((refine step_append_ (E := eMg) (by rfl) (.tmp 143) (.tmp 144) 35 (by rfl) B 85 i0 _ 96 Try.underlying35 hi hz0 hz1 hz2 (by rfl) (.slice AA s.an.length cA) s.an (by rfl) HVA.out A L.length L (by rfl) HBX.out HA0.out HK1.out HK2.out HBS.out ?_; intro v1 w1 hown hg hat; have hbk := HFA.out v1 w1 hown hg; have p3 : w1.cell? ⟨g, 3, none⟩ = some (.int .i64 s.w.ep) := hbk.2.1.cell 3; have p4 : w1.cell? ⟨g, 4, none⟩ = some (.int .i64 s.w.ho) := hbk.2.1.cell 4; have p5 : w1.cell? ⟨g, 5, none⟩ = some (.int .i64 s.w.un) := hbk.2.1.cell 5; have p8 : w1.cell? ⟨g, 8, none⟩ = some (.slice AA s.an.length cA) := hbk.2.1.cell 8; have q0 : w1.cell? ⟨Bk, 0, none⟩ = some (.int .i64 R.ep) := hbk.2.2.2.2.cell 0; have q1 : w1.cell? ⟨Bk, 1, none⟩ = some (.int .i64 R.ho) := hbk.2.2.2.2.cell 1; have q2 : w1.cell? ⟨Bk, 2, none⟩ = some (.int .i64 R.un) := hbk.2.2.2.2.cell 2; have n3 := hbk.2.1.frozen 3; have n4 := hbk.2.1.frozen 4; have n5 := hbk.2.1.frozen 5; have n8 := hbk.2.1.frozen 8; obtain ⟨A1, c1, rfl, _, _, _⟩ := OwL.rd hown))
      all_goals go_wp2
      all_goals go_ret
      all_goals rw [HS.out]
      all_goals exact ⟨rfl, han_end HRL.out H3.out.low hbk.1 hbk.2.1 hbk.2.2.1 hbk.2.2.2.1 hown⟩
end Go.Proofs.Ytcdifegjlllbfaa

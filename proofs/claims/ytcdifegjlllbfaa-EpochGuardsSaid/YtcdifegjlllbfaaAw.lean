/- The walks through the law's extended and awake: the chapter's examples answer true. No condition. -/
import Derived.Test.YtcdifegjlllbfaaRfU
import Derived.Test.YtcdifegjlllbfaaFnD
set_option linter.unusedVariables false
set_option linter.unusedSimpArgs false
namespace Go.Proofs.Ytcdifegjlllbfaa
open Go.RowKit

theorem OwL.rdA {α : Type} {E : Enc α} {e : TypeId} {w : World} {base n c : Nat} {A : Option Addr} {l : List α} (h : OwL E e w base (.slice A n c) l) : RdL E w A l := by
  obtain ⟨A', c', e, _, _, hr⟩ := OwL.rd h
  injection e with e1 e2 e3
  rw [e1]
  exact hr
/-- A pair of numbers. -/
structure Pr where
  a : Int
  b : Int
def eQ : Enc Pr := { size := 2, pos := by omega, cells := fun x => [.int .i64 x.a, .int .i64 x.b], len := fun _ => rfl, one := fun x u hu => by simp at hu; rcases hu with rfl | rfl <;> rfl }
abbrev RdQ := RdL eQ
theorem RdQ.at_ {w : World} {A : Option Addr} {l : List Pr} (h : RdQ w A l) {k : Nat} (hk : k < l.length) : ∃ ad, A = some ad ∧ w.cell? (ad.add (k * 2)) = some (.int .i64 l[k].a) ∧ w.cell? ⟨(ad.add (k * 2)).block, (ad.add (k * 2)).off + 1, none⟩ = some (.int .i64 l[k].b) := by
  obtain ⟨ad, e, hc⟩ := RdL.at_ h hk
  replace hc : ∀ j u, [Value.int .i64 l[k].a, .int .i64 l[k].b][j]? = some u → w.cell? (ad.add (k * 2 + j)) = some u := hc
  exact ⟨ad, e, hc 0 _ rfl, by rw [← add_field _ _ 1 (by omega)]; exact hc 1 _ rfl⟩
/-- A lineage, extended by pairs. -/
def extAll (l : List Sp) (ps : List Pr) : List Sp := ps.foldl (fun l p => extL l p.a p.b) l
def AllOk (ps : List Pr) : Prop := ∀ k (h : k < ps.length), extE (extAll [] (ps.take k)) ps[k].a ps[k].b = 0 ∧ (extAll [] (ps.take k)).length ≤ 4096
theorem extAll_succ {ps : List Pr} {k : Nat} (h : k < ps.length) : extAll [] (ps.take (k + 1)) = extL (extAll [] (ps.take k)) ps[k].a ps[k].b := by
  unfold extAll
  rw [List.take_succ_eq_append_getElem h, List.foldl_append]
  rfl
set_option maxRecDepth 100000 in
set_option maxHeartbeats 2000000 in
theorem extended_any (A : Option Addr) (c : Nat) (ps : List Pr) (w : World) (hp : RdQ w A ps) (hok : AllOk ps) :
    Calls Try.prog 51 #[.slice A ps.length c] w fun e w' => ∃ v, e = .returned (.tuple #[v, .bool true]) ∧ OwS w' w.heap.size v (extAll [] ps) ∧ Below w.heap.size w w' := by
  have hlen := hp.1
  have HP := Lib.hid hp
  have HOK := Lib.hid hok
  clear hp hok
  go_enter Try.func51, Try.ntmps51
  go_wp2
  go_loopw [4, 5] (fun v i wr => ∃ k : Nat, k ≤ ps.length ∧ i = .int .i64 k ∧ Hid (OwS wr w.heap.size v (extAll [] (ps.take k))) ∧ Hid (Below w.heap.size w wr)) (fun _ i _ => ps.length - (intOf i).toNat)
  case atStart => exact ⟨0, Nat.zero_le _, rfl, Lib.hid (OwL.nil _ _ _ _), Lib.hid (Below.refl _ _)⟩
  case round =>
    obtain ⟨k, hk, rfl, HV, HB⟩ := hrel
    by_cases hlt : k < ps.length
    · obtain ⟨ad, rfl, c0, c1⟩ := RdQ.at_ (RdL.below HP.out HB.out) hlt
      have hs := extAll_succ hlt
      obtain ⟨hE, hL⟩ := HOK.out k hlt
      obtain ⟨A1, cc, rfl, _, _, _⟩ := OwL.rd HV.out
      obtain ⟨p, hpe⟩ : ∃ p, p = ps[k] := ⟨_, rfl⟩
      obtain ⟨l, hle⟩ : ∃ l, l = extAll [] (ps.take k) := ⟨_, rfl⟩
      rw [← hpe] at c0 c1 hs hE
      rw [← hle] at hs hE hL HV ⊢
      have HS := Lib.hid hs
      have HE := Lib.hid hE
      have HLL := Lib.hid hL
      have hrd : RdS wr A1 l := OwL.rdA HV.out
      have HRD := Lib.hid hrd
      have hsz : w.heap.size ≤ wr.heap.size := HB.out.size
      clear hs hE hL hpe hle hrd
      go_wp2
      go_region_held3 (fun w' => w'.cell? (ad.add (k * 2)) = some (.int .i64 p.a) ∧ w'.cell? ⟨(ad.add (k * 2)).block, (ad.add (k * 2)).off + 1, none⟩ = some (.int .i64 p.b)) (first | exact ⟨c0, c1⟩ | exact hk2 | go_keep)
        ((go_at_call 33; refine (Ext_any _ _ _ _ _ _ (by exact HRD.out) HLL.out).mono ?_; rintro e w2 ⟨v, rfl, hv, hb⟩; replace hb : Below wr.heap.size wr w2 := ⟨hb.os, hb.tape, hb.output, hb.size, hb.block⟩; have hk2 : w2.cell? (ad.add (k * 2)) = some (.int .i64 p.a) ∧ w2.cell? ⟨(ad.add (k * 2)).block, (ad.add (k * 2)).off + 1, none⟩ = some (.int .i64 p.b) := ⟨cell_later hb c0, cell_later hb c1⟩; rw [HE.out]))
      have HV2 : Hid (OwS w2 w.heap.size v (extAll [] (ps.take (k + 1)))) := Lib.hid (by rw [HS.out]; exact OwL.lower hv hsz)
      have HB2 := Lib.hid (HB.out.trans (hb.mono hsz))
      clear hv hb hk2
      go_wp2
      go_roundw
      case rel => exact ⟨k + 1, by omega, by go_num, HV2, HB2⟩
      case measure => simp [intOf]; omega
    · have hk0 : k = ps.length := by omega
      subst hk0
      have HF : Hid (extAll [] (ps.take ps.length) = extAll [] ps) := Lib.hid (by rw [List.take_length])
      go_wp2
      go_ret2
      exact ⟨_, rfl, by rw [← HF.out]; exact HV.out, HB.out⟩

def f1 : Fe := ⟨2, 1, false⟩
def f2 : Fe := ⟨3, 1, true⟩
def f3 : Fe := ⟨4, 0, false⟩
def p3 : List Pr := [⟨1, 5⟩, ⟨3, 6⟩, ⟨3, 9⟩]
def s5 : List Sp := [⟨1, 1, 5⟩, ⟨3, 6, 9⟩]
def s6 : List Sp := [⟨1, 1, 5⟩]
def s7 : List Sp := [⟨1, 1, 5⟩, ⟨3, 6, 7⟩]
instance : DecidableEq Fe := fun x y => decidable_of_iff (x.ep = y.ep ∧ x.ow = y.ow ∧ x.cl = y.cl) (by cases x; cases y; simp)
theorem aw1 : newF 2 1 = f1 ∧ chkF ⟨2, 1, false⟩ = 0 ∧ admE f1 2 1 = 0 ∧ admE f1 1 1 = 13 ∧ admE f1 3 1 = 1 ∧ admE f1 2 0 = 14 := by decide +kernel
theorem aw2 : shuF f1 3 = f2 ∧ shuE f1 3 = 0 ∧ raiF f2 4 0 = f3 ∧ raiE f2 4 0 = 0 ∧ admE f2 3 1 = 14 ∧ admE f3 4 0 = 0 := by decide +kernel
theorem aw3 : extAll [] p3 = s5 ∧ epoV s5 6 = 3 ∧ epoB s5 6 = true ∧ truL s5 5 = s6 ∧ truL s5 7 = s7 := by decide +kernel
theorem aw4 : AllOk p3 := by
  intro k h
  have : k = 0 ∨ k = 1 ∨ k = 2 := by simp [p3] at h; omega
  rcases this with rfl | rfl | rfl
  · exact ⟨by show extE (extAll [] []) 1 5 = 0; decide +kernel, by show (extAll [] []).length ≤ 4096; decide +kernel⟩
  · exact ⟨by show extE (extAll [] [⟨1, 5⟩]) 3 6 = 0; decide +kernel, by show (extAll [] [⟨1, 5⟩]).length ≤ 4096; decide +kernel⟩
  · exact ⟨by show extE (extAll [] [⟨1, 5⟩, ⟨3, 6⟩]) 3 9 = 0; decide +kernel, by show (extAll [] [⟨1, 5⟩, ⟨3, 6⟩]).length ≤ 4096; decide +kernel⟩
theorem rd_take {w : World} {A : Option Addr} (h : RdS w A s5) : RdS w A s6 := by
  obtain ⟨ad, e, hc⟩ := h.2 (by decide)
  refine ⟨by decide, fun _ => ⟨ad, e, fun j u hu => hc j u ?_⟩⟩
  have hj : j < 3 := by
    have := (List.getElem?_eq_some_iff.1 hu).1
    rw [Enc.flat_length] at this
    exact this
  have : j = 0 ∨ j = 1 ∨ j = 2 := by omega
  rcases this with rfl | rfl | rfl <;> exact hu
set_option maxRecDepth 100000 in
set_option maxHeartbeats 4000000 in
theorem awake_any (w : World) : Calls Try.prog 18 #[] w fun e w' => e = .returned (.bool true) ∧ Below w.heap.size w w' := by
  go_enter Try.func18, Try.ntmps18
  go_wp2_with fail
  refine (New_any 2 1 _).mono ?_
  rintro e w1 ⟨rfl, hb⟩
  rw [aw1.1, aw1.2.1]
  unfold Fe.val f1
  have K := Lib.hid (((Known.start w).below hb).alloc 37 f1.cells)
  clear hb
  go_wp2_with fail
  refine (Admit_any f1 2 1 _).mono ?_
  rintro e w2 ⟨rfl, hb⟩
  rw [aw1.2.2.1]
  have K2 := Lib.hid (K.out.below hb)
  clear hb K
  have b0 : w2.cell? ⟨w1.heap.size, 0, none⟩ = some (.int .i64 2) := (K2.out.blk 0 rfl).cell 0
  have b1 : w2.cell? ⟨w1.heap.size, 1, none⟩ = some (.int .i64 1) := (K2.out.blk 0 rfl).cell 1
  have b2 : w2.cell? ⟨w1.heap.size, 2, none⟩ = some (.bool false) := (K2.out.blk 0 rfl).cell 2
  go_wp2_with fail
  refine (Admit_any f1 1 1 _).mono ?_
  rintro e w3 ⟨rfl, hb⟩
  rw [aw1.2.2.2.1]
  have K := Lib.hid (K2.out.below hb)
  clear hb K2 b0 b1 b2
  have b0 : w3.cell? ⟨w1.heap.size, 0, none⟩ = some (.int .i64 2) := (K.out.blk 0 rfl).cell 0
  have b1 : w3.cell? ⟨w1.heap.size, 1, none⟩ = some (.int .i64 1) := (K.out.blk 0 rfl).cell 1
  have b2 : w3.cell? ⟨w1.heap.size, 2, none⟩ = some (.bool false) := (K.out.blk 0 rfl).cell 2
  go_wp2_with fail
  refine (Admit_any f1 3 1 _).mono ?_
  rintro e w4 ⟨rfl, hb⟩
  rw [aw1.2.2.2.2.1]
  have K2 := Lib.hid (K.out.below hb)
  clear hb K b0 b1 b2
  have b0 : w4.cell? ⟨w1.heap.size, 0, none⟩ = some (.int .i64 2) := (K2.out.blk 0 rfl).cell 0
  have b1 : w4.cell? ⟨w1.heap.size, 1, none⟩ = some (.int .i64 1) := (K2.out.blk 0 rfl).cell 1
  have b2 : w4.cell? ⟨w1.heap.size, 2, none⟩ = some (.bool false) := (K2.out.blk 0 rfl).cell 2
  go_wp2_with fail
  refine (Admit_any f1 2 0 _).mono ?_
  rintro e w5 ⟨rfl, hb⟩
  rw [aw1.2.2.2.2.2]
  have K := Lib.hid (K2.out.below hb)
  clear hb K2 b0 b1 b2
  have b0 : w5.cell? ⟨w1.heap.size, 0, none⟩ = some (.int .i64 2) := (K.out.blk 0 rfl).cell 0
  have b1 : w5.cell? ⟨w1.heap.size, 1, none⟩ = some (.int .i64 1) := (K.out.blk 0 rfl).cell 1
  have b2 : w5.cell? ⟨w1.heap.size, 2, none⟩ = some (.bool false) := (K.out.blk 0 rfl).cell 2
  go_wp2_with fail
  refine (Shut_any f1 3 _).mono ?_
  rintro e w6 ⟨rfl, hb⟩
  rw [aw2.1, aw2.2.1]
  unfold Fe.val f2
  have K2 := Lib.hid ((K.out.below hb).alloc 37 f2.cells)
  have hs6 : w1.heap.size < w6.heap.size := (K.out.below hb).lt 0 rfl
  clear hb K b0 b1 b2
  go_wp2_with fail
  refine (Raise_any f2 4 0 _).mono ?_
  rintro e w7 ⟨rfl, hb⟩
  rw [aw2.2.2.1, aw2.2.2.2.1]
  unfold Fe.val f3
  have K := Lib.hid ((K2.out.below hb).alloc 37 f3.cells)
  have k7 := Lib.hid (K2.out.below hb)
  have hs7 : w6.heap.size < w7.heap.size := k7.out.lt 0 rfl
  have b0 : w7.cell? ⟨w6.heap.size, 0, none⟩ = some (.int .i64 3) := (k7.out.blk 0 rfl).cell 0
  have b1 : w7.cell? ⟨w6.heap.size, 1, none⟩ = some (.int .i64 1) := (k7.out.blk 0 rfl).cell 1
  have b2 : w7.cell? ⟨w6.heap.size, 2, none⟩ = some (.bool true) := (k7.out.blk 0 rfl).cell 2
  clear hb K2 k7
  go_wp2_with fail
  refine (Admit_any f2 3 1 _).mono ?_
  rintro e w8 ⟨rfl, hb⟩
  rw [aw2.2.2.2.2.1]
  have K2 := Lib.hid (K.out.below hb)
  clear hb K b0 b1 b2
  have b0 : w8.cell? ⟨w7.heap.size, 0, none⟩ = some (.int .i64 4) := (K2.out.blk 0 rfl).cell 0
  have b1 : w8.cell? ⟨w7.heap.size, 1, none⟩ = some (.int .i64 0) := (K2.out.blk 0 rfl).cell 1
  have b2 : w8.cell? ⟨w7.heap.size, 2, none⟩ = some (.bool false) := (K2.out.blk 0 rfl).cell 2
  go_wp2_with fail
  refine (Admit_any f3 4 0 _).mono ?_
  rintro e w9 ⟨rfl, hb⟩
  rw [aw2.2.2.2.2.2]
  have K := Lib.hid (K2.out.below hb).low
  clear hb K2 b0 b1 b2
  go_wp2_with fail
  refine (extended_any _ _ p3 _ (RdL.boxes (E := eQ) w9 p3 105 _ rfl (by decide)) aw4).mono ?_
  rintro e wa ⟨v, rfl, hv, hb⟩
  rw [aw3.1] at hv
  obtain ⟨A1, cc, rfl, hcc, _, hrd⟩ := OwL.rd hv
  have KB := Lib.hid ((K.out.alloc K.out.size _).trans (hb.mono (K.out.alloc K.out.size _).size))
  have HRD := Lib.hid hrd
  clear hb K hrd hv
  go_wp2_with fail
  refine (Epo_any _ _ s5 6 _ HRD.out).mono ?_
  rintro e wb ⟨rfl, hb⟩
  rw [aw3.2.1, aw3.2.2.1]
  have K := Lib.hid (KB.out.trans (hb.mono KB.out.size))
  have HR2 : Hid (RdS wb A1 s5) := Lib.hid (RdL.below HRD.out hb)
  have hcc2 : 2 ≤ cc := hcc
  clear hb KB HRD hcc
  have hcc3 : ¬ cc < 1 := by omega
  have hcc4 : (1 : Int) ≤ cc := by omega
  have hcc5 : ¬ (cc : Int) < 1 := by omega
  obtain ⟨ad, hA1, _⟩ := HR2.out.2 (by decide)
  subst hA1
  go_wp2
  have HX5 : Hid (RdS (wb.alloc (.cells #[.int .i64 1, .int .i64 1, .int .i64 5, .int .i64 3, .int .i64 6, .int .i64 9] 107)).drew (some ad) s5 ∧ RdS (wb.alloc (.cells #[.int .i64 1, .int .i64 1, .int .i64 5, .int .i64 3, .int .i64 6, .int .i64 9] 107)).drew (some ⟨wb.heap.size, 0, none⟩) s5) := Lib.hid ⟨(show RdS (wb.alloc (.cells #[.int .i64 1, .int .i64 1, .int .i64 5, .int .i64 3, .int .i64 6, .int .i64 9] 107)) (some ad) s5 from HR2.out.alloc _), (show RdS (wb.alloc (.cells #[.int .i64 1, .int .i64 1, .int .i64 5, .int .i64 3, .int .i64 6, .int .i64 9] 107)) _ s5 from RdL.boxes (E := eS) wb s5 107 _ rfl (by decide))⟩
  have HKC : Hid (∀ wc, Below (wb.alloc (.cells #[.int .i64 1, .int .i64 1, .int .i64 5, .int .i64 3, .int .i64 6, .int .i64 9] 107)).drew.heap.size (wb.alloc (.cells #[.int .i64 1, .int .i64 1, .int .i64 5, .int .i64 3, .int .i64 6, .int .i64 9] 107)).drew wc → Below w.heap.size w wc ∧ RdS wc (some ad) s5) := Lib.hid fun wc hb => ⟨(K.out.alloc K.out.size _).drew.trans (hb.mono (K.out.alloc K.out.size _).size), RdL.below HX5.out.1 hb⟩
  go_region_held3 (fun w' => True) (exact trivial) (first
    | (go_at_call 30; have _t := HT7b.out; refine (SameS_any _ _ s7 _ _ s7 wf HT7b.out.1 HT7b.out.2).mono ?_; rintro e wg ⟨rfl, hb⟩; rw [sameS_self]; have KG := Lib.hid (KF.out.trans (hb.mono KF.out.size)); clear hb)
    | (go_at_call 30; have _t := HT7a.out; refine (SameS_any _ _ s7 _ _ s7 (wf.alloc (.cells #[.int .i64 1, .int .i64 1, .int .i64 5, .int .i64 3, .int .i64 6, .int .i64 7] 107)) (HT7a.out.alloc _) (RdL.boxes (E := eS) wf s7 107 _ rfl (by decide))).mono ?_; rintro e wg ⟨rfl, hb⟩; rw [sameS_self]; have KG := Lib.hid ((KF.out.alloc KF.out.size _).trans (hb.mono (KF.out.alloc KF.out.size _).size)); clear hb)
    | (go_at_call 30; have _t := HT5.out; refine (SameS_any _ _ s6 _ _ s6 wd HT5.out.1 HT5.out.2).mono ?_; rintro e we ⟨rfl, hb⟩; rw [sameS_self]; have HS2 := Lib.hid (RdL.below HRD.out hb); have KE := Lib.hid (KD.out.trans (hb.mono KD.out.size)); clear hb)
    | (go_at_call 30; refine (SameS_any _ _ s5 _ _ s5 _ HX5.out.1 HX5.out.2).mono ?_; rintro e wc ⟨rfl, hb⟩; rw [sameS_self]; have KC := Lib.hid (HKC.out wc hb).1; have HRC := Lib.hid (HKC.out wc hb).2; clear hb)
    | (go_at_call 31; have _t := HS2.out; refine (Tru_any (some ad) cc s5 7 we HS2.out (by decide)).mono ?_; rintro e wf ⟨v, rfl, hv, hb⟩; rw [aw3.2.2.2.2] at hv; obtain ⟨A7, c7, rfl, _, _, hrd⟩ := OwL.rd hv; have HT7a : Hid (RdS wf A7 s7) := Lib.hid hrd; have KF := Lib.hid (KE.out.trans (hb.mono KE.out.size)); clear hv hb hrd)
    | (go_at_call 31; have _t := HS2.out; refine (Tru_any (some ad) cc s5 7 (we.alloc (.cells #[.int .i64 1, .int .i64 1, .int .i64 5, .int .i64 3, .int .i64 6, .int .i64 7] 107)) (HS2.out.alloc _) (by decide)).mono ?_; rintro e wf ⟨v, rfl, hv, hb⟩; rw [aw3.2.2.2.2] at hv; obtain ⟨A7, c7, rfl, _, _, hrd⟩ := OwL.rd hv; have HT7b : Hid (RdS wf A7 s7 ∧ RdS wf (some ⟨we.heap.size, 0, none⟩) s7) := Lib.hid ⟨hrd, RdL.below (RdL.boxes (E := eS) we s7 107 _ rfl (by decide)) hb⟩; have KF := Lib.hid ((KE.out.alloc KE.out.size _).trans (hb.mono (KE.out.alloc KE.out.size _).size)); clear hv hb hrd)
    | (go_at_call 31; refine (Tru_any (some ad) cc s5 5 wc HRC.out (by decide)).mono ?_; rintro e wd ⟨v, rfl, hv, hb⟩; rw [aw3.2.2.2.1] at hv; obtain ⟨A6, c6, rfl, _, _, hrd⟩ := OwL.rd hv; have HRD := Lib.hid (RdL.below HRC.out hb); have HT5 : Hid (RdS wd A6 s6 ∧ RdS wd (some ad) s6) := Lib.hid ⟨hrd, rd_take HRD.out⟩; have KD := Lib.hid (KC.out.trans (hb.mono KC.out.size)); clear hv hb hrd))
  all_goals
    go_wp2
    go_ret
    exact ⟨rfl, KG.out⟩
end Go.Proofs.Ytcdifegjlllbfaa

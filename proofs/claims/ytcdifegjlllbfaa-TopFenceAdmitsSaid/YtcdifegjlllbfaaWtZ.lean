/- The walk through TopFenceAdmits. Conditions: two bytes, the steps lie in memory as a list. -/
import Derived.Test.YtcdifegjlllbfaaWtY
import Derived.Maps.Own
import Derived.Maps.OwnOps
import Derived.Maps.OwnSet
import Derived.Maps.RangeWalk
import Derived.WalkArith
set_option linter.unusedVariables false
set_option linter.unusedSimpArgs false
namespace Go.Proofs.Ytcdifegjlllbfaa
open Go.RowKit Go.Maps
theorem law3 : Keyed Try.prog 3 := int_keyed Try.underlying3
theorem zero3 (w : World) : (zeroValue 3).run Try.prog w = .ok (.int .i64 0) w := by kernel_rfl
abbrev MapAt (W : World) (M n : Nat) (D : DataW Unit) : Prop := W.ownsMap Try.prog 3 (plainElem Try.prog 3) M n D
/-- Each entry is an epoch and the site to which it was granted. -/
def MapOk (gr : Int → Int) (D : DataW Unit) : Prop := ∀ e a : Int, Maps.has D (.int .i64 e) = true → D.atKey (.int .i64 e) (.lit (.int .i64 0)) = .lit (.int .i64 a) → gr e = a ∧ gr e ≠ -1
theorem MapOk.ext {gr gr' : Int → Int} {D : DataW Unit} (h : MapOk gr D) (he : ∀ e, gr e ≠ -1 → gr' e = gr e) : MapOk gr' D := fun e a h1 h2 => by
  obtain ⟨k1, k2⟩ := h e a h1 h2
  rw [he e k2]
  exact ⟨k1, k2⟩
theorem MapOk.put {gr : Int → Int} {D : DataW Unit} (h : MapOk gr D) (hD : IsMap D) {e a : Int} (h1 : gr e = a) (h2 : a ≠ -1) : MapOk gr (D.put (.int .i64 e) (.lit (.int .i64 a))) := fun e' a' k1 k2 => by
  by_cases c : e' = e
  · subst c
    rw [atKey_put_same hD (show WideAt.IsKeyLit (.int .i64 e') from trivial)] at k2
    injection k2 with k2
    injection k2 with _ k2
    subst k2
    exact ⟨h1, by rw [h1]; exact h2⟩
  · have hne : (Lit.int .i64 e') ≠ .int .i64 e := fun x => by injection x with _ x; exact c x
    rw [has_put_other hne] at k1
    rw [atKey_put_other hne] at k2
    exact h e' a' k1 k2
theorem MapOk.nil (gr : Int → Int) : MapOk gr (.map []) := fun e a h _ => by simp [Maps.has] at h
theorem MapAt.bw {W W' : World} {M n B : Nat} {D : DataW Unit} (h : MapAt W M n D) (hb : Bw B W W') : MapAt W' M n D := by
  obtain ⟨es, clock, h1, F, hs, hD⟩ := h
  exact ⟨es, clock, hb.keep _ _ h1 (fun _ _ _ e => by cases e), F, hs, hD⟩
theorem MapAt.obj {W : World} {M n : Nat} {D : DataW Unit} (h : MapAt W M n D) : ∃ es c, W.heap[M]? = some (.map es c) := by
  obtain ⟨es, clock, h1, _⟩ := h
  exact ⟨es, clock, h1⟩
theorem grown_of {W W' : World} (h : Below W.heap.size W W') (row : Option Nat) : W.grownBy W' row := ⟨h.os, h.tape, h.output, h.size, fun k hk _ => h.block k hk⟩
/-- The run stays where a block is written that holds no cells. -/
theorem Lie.kept {B g : Nat} {W W' : World} {s : St} {vL vR vA : Value} {q : Nat} (h : Lie B W g s vL vR vA) (hg : W.grownBy W' (some q)) (hq : ∀ cs t f, W.heap[q]? ≠ some (.cells cs t f)) : Lie B W' g s vL vR vA := by
  have far : ∀ k, TypedAt W k → some k ≠ some q := fun k ho e => by
    obtain ⟨cs, t, f, hc, _⟩ := ho
    injection e with e
    rw [e] at hc
    exact hq _ _ _ hc
  exact ⟨h.blk.grown hg (far _ (h.blk.typed t39)), h.low, h.ol.grown hg (fun k hk => far _ (h.ol.typed t41 k hk)), h.or_.grown hg (fun k hk => far _ (h.or_.typed t93 k hk)), h.oa.grown hg (fun k hk => far _ (h.oa.typed t85 k hk))⟩
theorem Blk.bw {W W' : World} {B g : Nat} {t : TypeId} {cs : Array Value} (h : Blk W g t cs) (hb : Bw B W W') (ht : ¬ RunT t) : Blk W' g t cs := hb.keep g _ h (fun _ _ _ e => by cases e; exact ht)
theorem below_of_grown {W W' : World} (h : W.grownBy W' none) : Below W.heap.size W W' := ⟨h.os, h.tape, h.output, h.size, fun k hk => h.block k hk (by simp)⟩
theorem wriS_ls (s : St) (i : Nat) : (wriS s i).ls = s.ls ∧ (wriS s i).now = s.now := by
  unfold wriS
  split
  · split <;> exact ⟨rfl, rfl⟩
  · exact ⟨rfl, rfl⟩
set_option maxRecDepth 10000 in
set_option maxHeartbeats 4000000 in
theorem TopFenceAdmits_any (term margin : Int) (A : Option Addr) (c : Nat) (l : List Sp3) (w : World) (ht0 : 0 ≤ term) (ht1 : term < 256) (hm0 : 0 ≤ margin) (hm1 : margin < 256) (hr : RdL eSt w A l) :
    Calls Try.prog 4 #[.int .u8 term, .int .u8 margin, .slice A l.length c] w fun e w' => e = .returned (.bool true) ∧ Below w.heap.size w w' := by
  have hlen := hr.1
  have HR := Lib.hid hr
  have HSTART := Lib.hid (inv_start term margin ht0 hm0)
  have hmm := @run_makeMap Try.prog
  clear hr
  go_enter Try.func4, Try.ntmps4
  go_wp2_with fail
  refine (granted_any term margin _ ht0 ht1 hm0 hm1).mono ?_
  rintro e w1 ⟨g, rfl, hl, hb⟩
  have HL := Lib.hid hl
  have HB := Lib.hid hb
  clear hl hb
  by_cases h60 : 60 < l.length
  · go_wp2_with fail
    go_ret
    exact ⟨rfl, HB.out⟩
  · obtain ⟨M, hM⟩ : ∃ M, M = w1.heap.size := ⟨_, rfl⟩
    have HMM : Hid (w.heap.size ≤ M) := Lib.hid (by rw [hM]; exact HB.out.size)
    have HL1 : Hid (Lies w.heap.size (w1.alloc (.map #[] 0)) g (runK term margin l 0)) := Lib.hid (by
      obtain ⟨vL, vR, vA, h⟩ := HL.out
      exact ⟨vL, vR, vA, h.below ((Below.refl _ _).alloc (Nat.le_refl _) _)⟩)
    have HB1 : Hid (Below w.heap.size w (w1.alloc (.map #[] 0))) := Lib.hid (HB.out.alloc HB.out.size _)
    have HM1 : Hid (∃ (gr : Int → Int) (n : Nat) (D : DataW Unit), Inv (3 * ((0 : Nat) : Int)) 0 gr (runK term margin l 0) ∧ n ≤ 0 ∧ MapAt (w1.alloc (.map #[] 0)) M n D ∧ MapOk gr D) := Lib.hid ⟨_, 0, .map [], HSTART.out, Nat.le_refl _, by rw [hM]; exact World.ownsMap_made _ _ _ _, MapOk.nil _⟩
    have HMq := Lib.hid hM
    clear hM HL HB
    go_wp2_with fail
    rw [← HMq.out]
    go_loopw [31] (fun i wr => ∃ k : Nat, k ≤ l.length ∧ i = .int .i64 k ∧ Hid (Lies w.heap.size wr g (runK term margin l k)) ∧ Hid (Below w.heap.size w wr) ∧ Hid (∃ (gr : Int → Int) (n : Nat) (D : DataW Unit), Inv (3 * (k : Int)) k gr (runK term margin l k) ∧ n ≤ k ∧ MapAt wr M n D ∧ MapOk gr D)) (fun i _ => l.length - (intOf i).toNat)
    case atStart => exact ⟨0, Nat.zero_le _, rfl, HL1, HB1, HM1⟩
    case round =>
      clear HL1 HB1 HM1
      obtain ⟨k, hk, rfl, HV, HBW, HMW⟩ := hrel
      by_cases hlt : k < l.length
      · obtain ⟨ad, rfl, d0, d1, d2⟩ := RdL.st (RdL.below HR.out HBW.out) hlt
        have HRS := Lib.hid (runK_succ term margin hlt)
        obtain ⟨gr, n, D, hinv, hnk, hmap, hmok⟩ := HMW.out
        obtain ⟨gr', hi1, hi2, hi3, hi4⟩ := inv_step hinv (by omega) l[k]
        obtain ⟨x, hx⟩ : ∃ x, x = l[k] := ⟨_, rfl⟩
        rw [← hx] at d0 d1 d2 HRS hi1 hi3 hi4
        have HOK := Lib.hid (hinv.ok (by omega) (by omega))
        have HSB := Lib.hid hi3
        have hal := hi1.alone
        have hok' := hi1.ok (by omega) (by omega)
        have hfe : x.ki = 5 → hoB (leAt (stepS (runK term margin l k) x).ls x.i) (stepS (runK term margin l k) x).now = true → (stepS (runK term margin l k) x).f.ep = (leAt (stepS (runK term margin l k) x).ls x.i).ep := by
          intro h5 hb
          have e1 : stepS (runK term margin l k) x = wriS (runK term margin l k) x.i := by unfold stepS; simp [h5]
          have hq := hi4 h5
          rw [e1] at hb hq ⊢
          rw [(wriS_ls _ _).1] at hb ⊢
          rw [(wriS_ls _ _).2] at hb
          exact hq hb
        rw [← HRS.out] at hal hok' hfe hi1
        have HAL := Lib.hid hal
        have HOK' := Lib.hid hok'
        have HFE := Lib.hid hfe
        have HI1 := Lib.hid hi1
        have HMK := Lib.hid (hmok.ext hi2)
        have HNK := Lib.hid hnk
        have HMP := Lib.hid hmap
        have hb1 : Below w.heap.size w (wr.alloc (.cells #[.int .i64 x.ki, .int .i64 x.si, .int .i64 x.wh] 27)) := HBW.out.alloc HBW.out.size _
        have hv1 : Lies w.heap.size (wr.alloc (.cells #[.int .i64 x.ki, .int .i64 x.si, .int .i64 x.wh] 27)) g (runK term margin l k) := by
          obtain ⟨vL, vR, vA, h⟩ := HV.out
          exact ⟨vL, vR, vA, h.below ((Below.refl _ _).alloc (Nat.le_refl _) _)⟩
        have HV1 := Lib.hid hv1
        have HB1 := Lib.hid hb1
        clear hinv hi1 hi2 hi3 hi4 hx hal hok' hb1 hv1 hfe hnk hmap hmok HMW
        have hXB := Blk.new wr 27 #[.int .i64 x.ki, .int .i64 x.si, .int .i64 x.wh]
        have HXB := Lib.hid hXB
        clear hXB
        go_wp2_with fail
        refine (step_any x HV1.out HOK.out).mono ?_
        rintro e w2 ⟨rfl, hl2, hb2⟩
        rw [HSB.out]
        obtain ⟨vL, vR, vA, hl2⟩ := hl2
        rw [← HRS.out] at hl2
        have HL2 := Lib.hid hl2
        have HB2 := Lib.hid (HB1.out.trans hb2.low)
        have HM2 : Hid (MapAt w2 M n D) := Lib.hid (MapAt.bw (HMP.out.alloc _) hb2)
        have HX2 := Lib.hid (HXB.out.bw hb2 (by unfold RunT; decide))
        clear hl2 hb2 d0 d1 d2
        go_wp2_with fail
        refine (holders_any HL2.out (by rw [HOK'.out.l3]; decide)).mono ?_
        rintro e w3 ⟨rfl, hb3⟩
        have HL3 := Lib.hid (HL2.out.below hb3)
        have HB3 := Lib.hid (HB2.out.trans (HL2.out.up hb3).low)
        have HMA3 : Hid (MapAt w3 M n D) := Lib.hid (MapAt.bw HM2.out (HL2.out.up hb3))
        have HM3 : Hid (∃ (gr : Int → Int) (n : Nat) (D : DataW Unit), Inv (3 * ((k + 1 : Nat) : Int)) (k + 1) gr (runK term margin l (k + 1)) ∧ n ≤ k + 1 ∧ MapAt w3 M n D ∧ MapOk gr D) := Lib.hid ⟨gr', n, D, HI1.out, by have := HNK.out; omega, HMA3.out, HMK.out⟩
        have hx3 := HX2.out.below hb3 HX2.out.lt
        have x0 : w3.cell? ⟨wr.heap.size, 0, none⟩ = some (.int .i64 x.ki) := hx3.cell 0
        have x1 : w3.cell? ⟨wr.heap.size, 1, none⟩ = some (.int .i64 x.si) := hx3.cell 1
        clear hb3 hx3 HX2 HXB HV HBW HMP HV1 HB1 HM2
        by_cases k5 : x.ki = 5
        · rw [k5] at x0
          rcases HAL.out with ⟨a1, a2⟩ | ⟨i, a0, a1, a2, a3, a4, a5, a6, a7⟩
          · rw [a1, a2]
            clear a1 a2
            go_wp2_with fail
            go_roundw
            case rel => exact ⟨k + 1, by omega, by go_num, Lib.hid ⟨_, _, _, HL3.out⟩, HB3, HM3⟩
            case measure => simp [intOf]; omega
          · rw [a1, a2]
            clear a1 a2
            obtain ⟨r0, r1, r2⟩ := rem3 x.si
            rw [← x.i_eq] at r2
            obtain ⟨q, hq⟩ : ∃ q, q = x.si.tmod 3 := ⟨_, rfl⟩
            rw [← hq] at r0 r1 r2
            have w1' : x.si.tmod 3 = q := hq.symm
            by_cases hxi : x.i = i
            · have HXI := Lib.hid hxi
              rw [hxi] at r2
              have hl3 := HOK'.out.l3
              have htl : i < (runK term margin l (k + 1)).ls.length := by omega
              have hfe := HFE.out k5 (by rw [hxi]; exact a3)
              rw [hxi] at hfe
              have hle0 := (HI1.out.le i a0).e0
              have hle1 := (HI1.out.le i a0).e1
              obtain ⟨LE, hLE⟩ : ∃ LE, LE = (leAt (runK term margin l (k + 1)).ls i).ep := ⟨_, rfl⟩
              rw [← hLE] at hfe hle0 hle1 a7
              obtain ⟨gL, cL, hvl, _, _, _, _⟩ := OwL.at_ HL3.out.ol (by omega)
              subst hvl
              have z1 : w3.cell? ⟨gL, i * 3 + 1, none⟩ = some (.int .i64 LE) := by
                rw [hLE, leAt_eq htl]
                exact OwL.cell (E := eLe) HL3.out.ol (k := i) (j := 1) htl (by decide)
              have c6 : w3.cell? ⟨g, 6, none⟩ = some (.slice (some ⟨gL, 0, none⟩) 3 cL) := by rw [← hl3]; exact HL3.out.blk.cell 6
              have hi3 : (i : Int) < 3 := by omega
              have HKEY : Hid (keyOf Try.prog 3 (.int .i64 LE) = some (.int .i64 LE)) := Lib.hid (keyOf_int_mk Try.underlying3 (WalkArith.wf_i64 (by omega)))
              have HWFI : Hid ((Lit.int .i64 (i : Int)).wf = true) := Lib.hid (WalkArith.wf_i64 (by omega))
              have HCC : Hid (∀ cc : Int, Maps.has D (.int .i64 LE) = true → D.atKey (.int .i64 LE) (.lit (.int .i64 0)) = .lit (.int .i64 cc) → cc = i) := Lib.hid (fun cc h1 h2 => by rw [← (HMK.out LE cc h1 h2).1, a7])
              have HPUT : Hid (MapOk gr' (D.put (.int .i64 LE) (.lit (.int .i64 (i : Int))))) := Lib.hid (HMK.out.put HMA3.out.isMap a7 (by omega))
              have HFE2 := Lib.hid hfe
              have hLE1 : LE ≤ 1000 := by omega
              have HNK1 : Hid (n < maxLen) := Lib.hid (by have := HNK.out; unfold maxLen; omega)
              have HM0 : Hid (w.heap.size ≤ M) := HMM
              clear a3 a4 a5 a6 a7 hfe hLE htl hl3 hxi hq k5
              by_cases hf : Maps.has D (.int .i64 LE) = true
              case' pos =>
                have HF := Lib.hid hf
                go_wp2_with (first
                  | (at_lookup; refine wpList_lookup_own_ok_int _ rfl _ _ 43 rfl 3 3 .i64 law3 Try.underlying43 Try.underlying3 (zero3 _) M n D rfl HMA3.out _ _ rfl HKEY.out ?_; intro cc hat hwc; obtain rfl := HCC.out cc HF.out hat; clear hat hwc)
                  | (at_mapUpdate; refine wpList_mapUpdate_own _ rfl _ _ _ 43 rfl 3 3 law3 Try.underlying43 _ M n D rfl HMA3.out HNK1.out _ _ _ rfl rfl HKEY.out _ [] (plainElem_int Try.underlying3 HWFI.out) ?_; intro w4 hown4 hgrow4)
                  | (at_range; refine wpList_range_own _ rfl _ 43 rfl 3 3 law3 Try.underlying43 _ M _ _ rfl hown4 ?_; intro w5 hrg5 hg5 hs5)
                  | fail)
              case' neg =>
                have HF := Lib.hid hf
                go_wp2_with (first
                  | (at_lookup; refine wpList_lookup_own_ok_int _ rfl _ _ 43 rfl 3 3 .i64 law3 Try.underlying43 Try.underlying3 (zero3 _) M n D rfl HMA3.out _ _ rfl HKEY.out ?_; intro cc hat hwc; clear hat hwc)
                  | (at_mapUpdate; refine wpList_mapUpdate_own _ rfl _ _ _ 43 rfl 3 3 law3 Try.underlying43 _ M n D rfl HMA3.out HNK1.out _ _ _ rfl rfl HKEY.out _ [] (plainElem_int Try.underlying3 HWFI.out) ?_; intro w4 hown4 hgrow4)
                  | (at_range; refine wpList_range_own _ rfl _ 43 rfl 3 3 law3 Try.underlying43 _ M _ _ rfl hown4 ?_; intro w5 hrg5 hg5 hs5)
                  | fail)
              all_goals
                go_frame
                obtain ⟨es0, ck0, hobj⟩ := HMA3.out.obj
                have hl4 := HL3.out.kept hgrow4 (fun cs t f e => by rw [hobj] at e; cases e)
                have hb4 : Below w.heap.size w w4 := HB3.out.grown hgrow4 HB3.out.size (fun q e => by cases e; exact HM0.out)
                have hb5' := below_of_grown hg5
                obtain ⟨R, hR⟩ : ∃ R, R = w4.heap.size := ⟨_, rfl⟩
                have HRB : Hid (w.heap.size ≤ R) := Lib.hid (by rw [hR]; exact hb4.size)
                have HL5 := Lib.hid (hl4.below hb5')
                have HB5 : Hid (Below w.heap.size w w5) := Lib.hid (hb4.trans (hb5'.mono hb4.size))
                rw [← hR] at hrg5 ⊢
                have HRG5 := Lib.hid hrg5
                clear hobj hl4 hb4 hb5' hR hrg5 hown4 hgrow4 hg5 hs5 hf
                go_loopw [17] (fun _ wq => ∃ (left : Lit → Bool) (cnt : Nat), Hid (wq.ranges Try.prog 3 (plainElem Try.prog 3) M R (n + 1) (D.put (.int .i64 LE) (.lit (.int .i64 (i : Int)))) left cnt) ∧ Hid (Lie w.heap.size wq g (runK term margin l (k + 1)) (.slice (some ⟨gL, 0, none⟩) (runK term margin l (k + 1)).ls.length cL) vR vA) ∧ Hid (Below w.heap.size w wq)) (fun _ wq => wq.rangeLeft M R)
                case atStart => exact ⟨_, _, HRG5, HL5, HB5⟩
                case round =>
                  clear HRG5 HL5 HB5
                  obtain ⟨left, cnt, HRG, HLQ, HBQ⟩ := hrel
                  go_wp2_with (first
                    | (at_next; refine wpList_next_ranges_ii _ rfl _ rfl 3 3 .i64 .i64 law3 Try.underlying3 Try.underlying3 M R (n + 1) _ _ _ rfl HRG.out ?_ ?_)
                    | fail)
                  · intro _ _
                    go_wp2_with fail
                    go_roundw
                    case rel => exact ⟨k + 1, by omega, by go_num, Lib.hid ⟨_, _, _, HLQ.out⟩, HBQ, Lib.hid ⟨gr', n + 1, _, HI1.out, by have := HNK.out; omega, HRG.out.owns, HPUT.out⟩⟩
                    case measure => simp [intOf]; omega
                  · intro xe ce w7 cnt1 hwx hwc hlx hat hrg1 hlt1 hg1 hs1 hen
                    have hobj : ∃ a1 a2 a3 a4, wr.heap[R]? = some (.mapIter a1 a2 a3 a4) := by
                      obtain ⟨es, clock, since, seen, c0, hb, _, _, _, hr, _⟩ := HRG.out
                      exact ⟨_, _, _, _, hr⟩
                    obtain ⟨q1, q2, q3, q4, hobj⟩ := hobj
                    have HL7 := Lib.hid (HLQ.out.kept hg1 (fun cs t f e => by rw [hobj] at e; cases e))
                    have HB7 : Hid (Below w.heap.size w w7) := Lib.hid (HBQ.out.grown hg1 HBQ.out.size (fun q e => by cases e; exact HRB.out))
                    have HRG7 := Lib.hid hrg1
                    have HLT := Lib.hid hlt1
                    have f9 : w7.cell? ⟨g, 9, none⟩ = some (.int .i64 (runK term margin l (k + 1)).f.ep) := HL7.out.blk.cell 9
                    have f10 : w7.cell? ⟨g, 10, none⟩ = some (.int .i64 (runK term margin l (k + 1)).f.ow) := HL7.out.blk.cell 10
                    have f11 : w7.cell? ⟨g, 11, none⟩ = some (.bool (runK term margin l (k + 1)).f.cl) := HL7.out.blk.cell 11
                    obtain ⟨F, hF⟩ : ∃ F, F = (runK term margin l (k + 1)).f := ⟨_, rfl⟩
                    rw [← hF] at f9 f10 f11
                    have hFe : F.ep = LE := by rw [hF]; exact HFE2.out
                    obtain ⟨E, hE⟩ : ∃ E, E = admE F xe ce := ⟨_, rfl⟩
                    have HCE : Hid (∀ W', Calls Try.prog 15 #[.agg #[.int .i64 F.ep, .int .i64 F.ow, .bool F.cl], .int .i64 xe, .int .i64 ce] W' fun e w' => e = .returned (.int .i64 E) ∧ Below W'.heap.size W' w') := Lib.hid fun W' => by rw [hE]; exact Admit_any F xe ce W'
                    by_cases hxl : xe < LE
                    · have hne0 : (E == 0) = false := by rw [hE, beq_eq_false_iff_ne]; exact adm_no_ (by rw [hFe]; exact hxl)
                      have hd : decide (xe < LE) = true := by simpa using hxl
                      clear hE hF hFe hobj hwx hwc hlx hat hrg1 hlt1 hg1 hs1
                      go_wp2_with fail
                      refine (HCE.out _).mono ?_
                      rintro e w8 ⟨rfl, hbq⟩
                      have HRQ := Lib.hid (HRG7.out.kept (grown_of hbq none) (by simp) (by simp))
                      have HLR := Lib.hid (HL7.out.below hbq)
                      have HBR := Lib.hid (HB7.out.trans (hbq.mono HB7.out.size))
                      clear hbq f9 f10 f11 hen
                      go_wp2_with fail
                      go_roundw
                      case rel => exact ⟨_, cnt1, HRQ, HLR, HBR⟩
                      case measure => rw [HRQ.out.left_eq, HRG.out.left_eq]; exact HLT.out
                    · have hd : decide (xe < LE) = false := by simpa using hxl
                      clear hE hF hFe hobj hwx hwc hlx hat hrg1 hlt1 hg1 hs1 f9 f10 f11
                      go_wp2_with fail
                      go_roundw
                      case rel => exact ⟨_, cnt1, HRG7, HL7, HB7⟩
                      case measure => rw [HRG7.out.left_eq, HRG.out.left_eq]; exact HLT.out
            · have hne : ((x.i : Int) != (i : Int)) = true := by rw [bne_iff_ne]; omega
              clear a3 a4 a5 a6 a7 hq
              go_wp2_with fail
              go_roundw
              case rel => exact ⟨k + 1, by omega, by go_num, Lib.hid ⟨_, _, _, HL3.out⟩, HB3, HM3⟩
              case measure => simp [intOf]; omega
        · have hne5 : (x.ki != 5) = true := bne_iff_ne.2 k5
          clear k5
          obtain ⟨N1, hN1⟩ : ∃ N1, N1 = hN (runK term margin l (k + 1)).ls (runK term margin l (k + 1)).now (runK term margin l (k + 1)).ls.length := ⟨_, rfl⟩
          obtain ⟨N2, hN2⟩ : ∃ N2, N2 = hW (runK term margin l (k + 1)).ls (runK term margin l (k + 1)).now (runK term margin l (k + 1)).ls.length := ⟨_, rfl⟩
          rw [← hN1, ← hN2]
          clear hN1 hN2
          go_wp2_with fail
          go_roundw
          case rel => exact ⟨k + 1, by omega, by go_num, Lib.hid ⟨_, _, _, HL3.out⟩, HB3, HM3⟩
          case measure => simp [intOf]; omega
      · obtain rfl : k = l.length := by omega
        go_wp2
        go_ret
        exact ⟨rfl, HBW.out⟩
end Go.Proofs.Ytcdifegjlllbfaa

/- The walk through the law EpochForks. Condition: the steps lie in memory as lists of bytes. -/
import Derived.Test.YtcdifegjlllbfaaLwR
set_option linter.unusedVariables false
set_option linter.unusedSimpArgs false
namespace Go.Proofs.Ytcdifegjlllbfaa
open Go.RowKit
/-- A lineage that grew from another. -/
structure Forked (l x : List Sp) (q : Int) : Prop where
  lin : Lin x
  len : x.length ≤ 40
  keep : ∀ c, c ≤ q → eAt x c = eAt l c
  cut : x.filterMap (cutS q) = l
theorem forked {l : List Sp} {ep : List Int} (h : Grew l ep) (ps : List P8) : Forked l (growth (gst l) (ps.take 20)).l ep.length := by
  have ht : (ps.take 20).length ≤ 20 := by simp; omega
  have h1 := h.to
  have h2 := h.low
  have h3 := h.len
  have h4 := h.epl
  have e1 : (gst l).n = (tailS l).ep := rfl
  have e2 : (gst l).cyc = (tailS l).to := rfl
  have e3 : (gst l).l = l := rfl
  obtain ⟨g1, g2, g3, g4, g5, g6⟩ := growth_ok (ps.take 20) (gst l) (gst_ok h.lin) (by omega) (by omega) (by omega) (by omega)
  have hk := growth_keeps (ps.take 20) (gst l) (gst_ok h.lin) (by omega) (by omega) (by omega) (by omega)
  rw [e3] at g6 hk
  exact ⟨g1.lin, by omega, fun c hc => (hk c (by omega)).1, by rw [(hk _ (by omega)).2, ← h1]; exact cut_self h.lin⟩
theorem grown_from (A : Option Addr) (c : Nat) (l : List Sp) (ep : List Int) (A' : Option Addr) (c' : Nat) (ps : List P8) (w : World) (hl : RdS w A l) (hg : Grew l ep) (hp : RdE w A' ps) (hpo : ∀ x ∈ ps, x.Ok) :
    Calls Try.prog 35 #[.slice A l.length c, .slice A' ps.length c'] w fun e w' => ∃ (A2 : Option Addr) (c2 : Nat) (ve : Value) (x : List Sp), Forked l x ep.length ∧ e = .returned (.tuple #[.slice A2 x.length c2, ve, .bool true]) ∧ RdS w' A2 x ∧ Below w.heap.size w w' := by
  have h1 := hg.to
  have h2 := hg.low
  have h3 := hg.len
  have h4 := hg.epl
  refine (grown_any A c l A' c' ps w hl hg.lin (by omega) (by omega) (by omega) hp hpo).mono ?_
  rintro e w' ⟨A2, c2, ve, rfl, h1, h2, h3⟩
  exact ⟨A2, c2, ve, _, forked hg ps, rfl, h1, h3⟩
theorem forked_tru {l x : List Sp} {q : Int} (h : Forked l x q) : truL x q = l := by unfold truL; rw [if_pos (chkL_zero.2 h.lin), h.cut]
set_option maxRecDepth 100000 in
set_option maxHeartbeats 4000000 in
theorem EpochForks_any (A : Option Addr) (c : Nat) (ps : List P8) (Aa : Option Addr) (ca : Nat) (las : List P8) (Ab : Option Addr) (cb : Nat) (bs : List P8) (w : World) (hp : RdE w A ps) (hpo : ∀ x ∈ ps, x.Ok) (ha : RdE w Aa las) (hao : ∀ x ∈ las, x.Ok) (hb : RdE w Ab bs) (hbo : ∀ x ∈ bs, x.Ok) :
    Calls Try.prog 11 #[.slice A ps.length c, .slice Aa las.length ca, .slice Ab bs.length cb] w fun e w' => e = .returned (.bool true) ∧ Below w.heap.size w w' := by
  have hlen := hp.1
  have hlena := ha.1
  have hlenb := hb.1
  have HP := Lib.hid hp
  have HO := Lib.hid hpo
  have HA := Lib.hid ha
  have HAO := Lib.hid hao
  have HB := Lib.hid hb
  have HBO := Lib.hid hbo
  clear hp hpo ha hao hb hbo
  go_enter Try.func11, Try.ntmps11
  go_wp2_with fail
  refine (grown_nil _ _ _ _ HP.out HO.out).mono ?_
  rintro e w1 ⟨A2, c2, A3, c3, L, E, -, -, hg, rfl, h1, h2, hb⟩
  have hEl := hg.epl
  have HG := Lib.hid hg
  have H1 := Lib.hid h1
  have H2 := Lib.hid h2
  have K1 := Lib.hid hb
  clear hg h1 h2 hb
  go_wp2_with fail
  refine (grown_from _ _ _ _ _ _ _ _ H1.out HG.out (RdL.below HA.out K1.out) HAO.out).mono ?_
  rintro e w2 ⟨A4, c4, v4, x, hf, rfl, h3, hb⟩
  have HX := Lib.hid hf
  have X1 := Lib.hid h3
  have H1' := Lib.hid (RdL.below H1.out hb)
  have H2' := Lib.hid (RdL.below H2.out hb)
  have K2 := Lib.hid (K1.out.trans (hb.mono K1.out.size))
  clear hf h3 hb H1 H2 K1
  go_wp2_with fail
  refine (grown_from _ _ _ _ _ _ _ _ H1'.out HG.out (RdL.below HB.out K2.out) HBO.out).mono ?_
  rintro e w3 ⟨A5, c5, v5, y, hf, rfl, h3, hb⟩
  have HY := Lib.hid hf
  have Y1 := Lib.hid h3
  have H1 := Lib.hid (RdL.below H1'.out hb)
  have H2 := Lib.hid (RdL.below H2'.out hb)
  have X2 := Lib.hid (RdL.below X1.out hb)
  have K1 := Lib.hid (K2.out.trans (hb.mono K2.out.size))
  clear hf h3 hb H1' H2' K2 X1
  go_wp2
  go_loopw [15] (fun v wr => ∃ k : Nat, k ≤ E.length ∧ v = .int .i64 k ∧ Hid (Below w3.heap.size w3 wr)) (fun v _ => E.length - (intOf v).toNat)
  case atStart => exact ⟨0, Nat.zero_le _, rfl, Lib.hid (Below.refl _ _)⟩
  case round =>
    obtain ⟨k, hk, rfl, HB⟩ := hrel
    have m1 : IntKind.i64.wrap ((k : Int) + 1) = k + 1 := IntWalk.i64_in _ (by omega)
    by_cases hlt : k < E.length
    · obtain ⟨ad, rfl, f0⟩ := RdI.at_ H2.out hlt
      have HQ : Hid (∀ z : List Sp, Forked L z E.length → epoV z (k + 1) = E[k] ∧ epoB z (k + 1) = true) := Lib.hid (by
        intro z hz
        have hq := HG.out.at_ k hlt
        rw [epoV_at hz.lin, epoB_at hz.lin, hz.keep _ (by omega), hq]
        exact ⟨rfl, rfl⟩)
      have HQX := Lib.hid (HQ.out x HX.out)
      have HQY := Lib.hid (HQ.out y HY.out)
      obtain ⟨n, hn⟩ : ∃ n, n = E[k] := ⟨_, rfl⟩
      rw [← hn] at f0 HQX HQY
      have F0 := Lib.hid f0
      clear hn f0 HQ
      go_wp2_with fail
      refine (Epo_any _ _ _ _ _ (RdL.below X2.out HB.out)).mono ?_
      rintro e w4 ⟨rfl, hb⟩
      rw [HQX.out.1, HQX.out.2]
      have HB2 := Lib.hid (HB.out.trans (hb.mono HB.out.size))
      clear hb
      go_wp2_with fail
      refine (Epo_any _ _ _ _ _ (RdL.below Y1.out HB2.out)).mono ?_
      rintro e w5 ⟨rfl, hb⟩
      rw [HQY.out.1, HQY.out.2]
      have HB3 := Lib.hid (HB2.out.trans (hb.mono HB2.out.size))
      clear hb
      have f0 := cell_later HB3.out F0.out
      go_wp2
      go_roundw
      case rel => exact ⟨k + 1, by omega, by go_num, HB3⟩
      case measure => simp [intOf]; omega
    · go_wp2_with fail
      refine (awake_any _).mono ?_
      rintro e w4 ⟨rfl, hb⟩
      have HB2 := Lib.hid (HB.out.trans (hb.mono HB.out.size))
      clear hb
      have h40x := HX.out.len
      have h40y := HY.out.len
      go_wp2_with fail
      refine (Tru_any _ _ _ _ _ (RdL.below X2.out HB2.out) (by omega)).mono ?_
      rintro e w5 ⟨v, rfl, hv, hb⟩
      rw [forked_tru HX.out] at hv
      obtain ⟨A6, c6, rfl, _, _, hr6⟩ := OwL.rd hv
      have HR6 := Lib.hid hr6
      have HB3 := Lib.hid (HB2.out.trans (hb.mono HB2.out.size))
      clear hb hv hr6
      go_wp2_with fail
      refine (SameS_any _ _ _ _ _ _ _ HR6.out (RdL.below H1.out HB3.out)).mono ?_
      rintro e w6 ⟨rfl, hb⟩
      rw [sameS_self]
      have HB4 := Lib.hid (HB3.out.trans (hb.mono HB3.out.size))
      clear hb
      go_wp2_with fail
      refine (Tru_any _ _ _ _ _ (RdL.below Y1.out HB4.out) (by omega)).mono ?_
      rintro e w7 ⟨v, rfl, hv, hb⟩
      rw [forked_tru HY.out] at hv
      obtain ⟨A7, c7, rfl, _, _, hr7⟩ := OwL.rd hv
      have HR7 := Lib.hid hr7
      have HB5 := Lib.hid (HB4.out.trans (hb.mono HB4.out.size))
      clear hb hv hr7
      go_wp2_with fail
      refine (SameS_any _ _ _ _ _ _ _ HR7.out (RdL.below H1.out HB5.out)).mono ?_
      rintro e w8 ⟨rfl, hb⟩
      rw [sameS_self]
      have HB6 := Lib.hid (HB5.out.trans (hb.mono HB5.out.size))
      clear hb
      go_wp2
      go_ret
      exact ⟨rfl, K1.out.trans (HB6.out.mono K1.out.size)⟩
end Go.Proofs.Ytcdifegjlllbfaa

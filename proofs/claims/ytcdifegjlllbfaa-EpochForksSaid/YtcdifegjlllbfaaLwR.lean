/- The walk through the law EpochRemembers. Condition: the steps lie in memory as a list of bytes. -/
import Derived.Test.YtcdifegjlllbfaaGwn
set_option linter.unusedVariables false
set_option linter.unusedSimpArgs false
namespace Go.Proofs.Ytcdifegjlllbfaa
open Go.RowKit
theorem epoV_at {l : List Sp} (h : Lin l) (q : Int) : epoV l q = (eAt l q).getD 0 := by unfold epoV eAt; rw [if_pos (chkL_zero.2 h)]
theorem epoB_at {l : List Sp} (h : Lin l) (q : Int) : epoB l q = (eAt l q).isSome := by
  unfold epoB eAt
  rw [if_pos (chkL_zero.2 h)]
  cases findS l q <;> rfl
/-- A lineage that grew. -/
structure Grew (l : List Sp) (ep : List Int) : Prop where
  lin : Lin l
  to : (tailS l).to = ep.length
  at_ : ∀ i (h : i < ep.length), eAt l (i + 1) = some ep[i]
  len : l.length ≤ 20
  epl : ep.length ≤ 80
  low : 0 ≤ (tailS l).ep ∧ (tailS l).ep ≤ 60
theorem grew (ps : List P8) : Grew (growth (gst []) (ps.take 20)).l (growth (gst []) (ps.take 20)).ep := by
  have ht : (ps.take 20).length ≤ 20 := by simp; omega
  have e1 : (gst []).n = 0 := rfl
  have e2 : (gst []).cyc = 0 := rfl
  have e3 : (gst []).l.length = 0 := rfl
  have e4 : (gst []).ep.length = 0 := rfl
  obtain ⟨g1, g2, g3, g4, g5, g6⟩ := growth_ok (ps.take 20) (gst []) (gst_ok lin_nil) (by omega) (by omega) (by omega) (by omega)
  have g7 := ep_length (ps.take 20) (gst [])
  have g8 := growth_ep (ps.take 20) (gst []) ⟨rfl, fun i h => absurd h (by simp [gst])⟩ (gst_ok lin_nil) (by omega) (by omega) (by omega) (by omega)
  have h1 := g1.n
  have h2 := g1.cyc
  exact ⟨g1.lin, by rw [← h2]; exact g8.len, g8.at_, by omega, by omega, by omega, by omega⟩
theorem grown_nil (A' : Option Addr) (c' : Nat) (ps : List P8) (w : World) (hp : RdE w A' ps) (hpo : ∀ x ∈ ps, x.Ok) :
    Calls Try.prog 35 #[.slice none 0 0, .slice A' ps.length c'] w fun e w' => ∃ (A2 : Option Addr) (c2 : Nat) (A3 : Option Addr) (c3 : Nat) (L : List Sp) (E : List Int), L = (growth (gst []) (ps.take 20)).l ∧ E = (growth (gst []) (ps.take 20)).ep ∧ Grew L E ∧ e = .returned (.tuple #[.slice A2 L.length c2, .slice A3 E.length c3, .bool true]) ∧ RdS w' A2 L ∧ RdI w' A3 E ∧ Below w.heap.size w w' := by
  refine (grown_any none 0 [] A' c' ps w (RdL.nil _ _ _) lin_nil (by simp) (by show (0:Int) ≤ 1000; omega) (by show (0:Int) ≤ 1000; omega) hp hpo).mono ?_
  rintro e w' ⟨A2, c2, ve, rfl, h1, h2, h3⟩
  obtain ⟨A3, c3, rfl, _, _, hr⟩ := OwL.rd h2
  exact ⟨A2, c2, A3, c3, _, _, rfl, rfl, grew ps, rfl, h1, hr, h3⟩
set_option maxRecDepth 100000 in
set_option maxHeartbeats 4000000 in
theorem EpochRemembers_any (A : Option Addr) (c : Nat) (ps : List P8) (w : World) (hp : RdE w A ps) (hpo : ∀ x ∈ ps, x.Ok) : Calls Try.prog 10 #[.slice A ps.length c] w fun e w' => e = .returned (.bool true) ∧ Below w.heap.size w w' := by
  have hlen := hp.1
  have HP := Lib.hid hp
  have HO := Lib.hid hpo
  clear hp hpo
  go_enter Try.func10, Try.ntmps10
  go_wp2_with fail
  refine (grown_nil _ _ _ _ HP.out HO.out).mono ?_
  rintro e w1 ⟨A2, c2, A3, c3, L, E, -, -, hg, rfl, h1, h2, hb⟩
  have hEl := hg.epl
  have HG := Lib.hid hg
  have H1 := Lib.hid h1
  have H2 := Lib.hid h2
  have K1 := Lib.hid hb
  clear hg h1 h2 hb
  go_wp2_with fail
  refine (Chk_any _ _ _ _ H1.out).mono ?_
  rintro e w2 ⟨rfl, hb⟩
  rw [chkL_zero.2 HG.out.lin]
  have H1' := Lib.hid (RdL.below H1.out hb)
  have H2' := Lib.hid (RdL.below H2.out hb)
  have K2 := Lib.hid (K1.out.trans (hb.mono K1.out.size))
  clear hb H1 H2 K1
  go_wp2
  go_loopw [6] (fun v wr => ∃ i : Int, -1 ≤ i ∧ i ≤ E.length + 2 ∧ v = .int .i64 i ∧ Hid (Below w2.heap.size w2 wr)) (fun v _ => (E.length + 2 - intOf v).toNat)
  case atStart => exact ⟨-1, by omega, by omega, rfl, Lib.hid (Below.refl _ _)⟩
  case round =>
    obtain ⟨i, hi0, hi1, rfl, HB⟩ := hrel
    have m1 : IntKind.i64.wrap (i + 1) = i + 1 := IntWalk.i64_in _ (by omega)
    by_cases hlt : i ≤ E.length + 1
    · have hcase : (i < 0 ∨ E.length ≤ i) ∨ (0 ≤ i ∧ i < E.length) := by omega
      rcases hcase with hc | ⟨hc0, hc1⟩
      · have HQ : Hid (epoV L (i + 1) = 0 ∧ epoB L (i + 1) = false) := Lib.hid (by
          have hq : eAt L (i + 1) = none := by
            rcases hc with hc | hc
            · exact eAt_low HG.out.lin (by omega)
            · exact eAt_far HG.out.lin (by rw [HG.out.to]; omega)
          rw [epoV_at HG.out.lin, epoB_at HG.out.lin, hq]
          exact ⟨rfl, rfl⟩)
        have hcs : i < 0 ∨ (¬ i < 0 ∧ E.length ≤ i) := by omega
        clear hc
        rcases hcs with hc | ⟨hc, hc2⟩
        all_goals
          go_wp2_with fail
          refine (Epo_any _ _ _ _ _ (RdL.below H1'.out HB.out)).mono ?_
          rintro e w3 ⟨rfl, hb⟩
          rw [HQ.out.1, HQ.out.2]
          have HB2 := Lib.hid (HB.out.trans (hb.mono HB.out.size))
          clear hb
          go_wp2
          go_roundw
          case rel => exact ⟨i + 1, by omega, by omega, rfl, HB2⟩
          case measure => simp [intOf]; omega
      · have hi' : i.toNat < E.length := by omega
        obtain ⟨ad, rfl, f0⟩ := RdI.at_ H2'.out hi'
        have HQ : Hid (epoV L (i + 1) = E[i.toNat] ∧ epoB L (i + 1) = true) := Lib.hid (by
          have hq := HG.out.at_ i.toNat hi'
          rw [show ((i.toNat : Nat) : Int) = i by omega] at hq
          rw [epoV_at HG.out.lin, epoB_at HG.out.lin, hq]
          exact ⟨rfl, rfl⟩)
        obtain ⟨x, hx⟩ : ∃ x, x = E[i.toNat] := ⟨_, rfl⟩
        rw [← hx] at f0 HQ
        have F0 := Lib.hid f0
        clear hx f0
        have hnn : ¬ i < 0 := by omega
        go_wp2_with fail
        refine (Epo_any _ _ _ _ _ (RdL.below H1'.out HB.out)).mono ?_
        rintro e w3 ⟨rfl, hb⟩
        rw [HQ.out.1, HQ.out.2]
        have HB2 := Lib.hid (HB.out.trans (hb.mono HB.out.size))
        clear hb
        have f0 := cell_later HB2.out F0.out
        go_wp2
        go_roundw
        case rel => exact ⟨i + 1, by omega, by omega, rfl, HB2⟩
        case measure => simp [intOf]; omega
    · go_wp2_with fail
      refine (awake_any _).mono ?_
      rintro e w3 ⟨rfl, hb⟩
      have HB2 := Lib.hid (HB.out.trans (hb.mono HB.out.size))
      clear hb
      go_wp2
      go_ret
      exact ⟨rfl, K2.out.trans (HB2.out.mono K2.out.size)⟩
end Go.Proofs.Ytcdifegjlllbfaa

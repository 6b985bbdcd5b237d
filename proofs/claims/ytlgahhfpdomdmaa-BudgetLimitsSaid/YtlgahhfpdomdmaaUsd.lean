/- The walk through the law's used. Conditions: the budget is in order and owned, the uses lie in memory as a list. -/
import Derived.Test.YtlgahhfpdomdmaaUse
import Derived.Test.YtlgahhfpdomdmaaBlt
set_option linter.unusedVariables false
set_option linter.unusedSimpArgs false
namespace Go.Proofs.Ytlgahhfpdomdmaa
open Go.RowKit
theorem info56 : (Try.prog.info? 56).map (fun i => (i.zero, i.size, i.bytes)) = some (some (.agg #[.int .i64 0, .int .i64 0, .int .i64 0]), 3, 24) := by kernel_rfl

theorem runU_tk (us : List Us) : ∀ s : St, (runU s us).tk.length = s.tk.length + us.length := by
  induction us with
  | nil => intro s; rfl
  | cons u us ih =>
    intro s
    have e : runU s (u :: us) = runU (s.step u) us := rfl
    rw [e, ih]
    simp [St.step]
    omega
theorem OwL.apart2 {α β : Type} {E : Enc α} {F : Enc β} {e f : TypeId} {w : World} {base base' : Nat} {v u : Value} {l : List α} {m : List β} (h : OwL E e w base v l) (h' : OwL F f w base' u m) (hne : e ≠ f) : ∀ k, v.ownBlock = some k → u.ownBlock ≠ some k := by
  intro k hk hk'
  rcases h.2 with ⟨rfl, _⟩ | ⟨g2, cap2, cur, rfl, _, hh, _⟩
  · simp [Value.ownBlock] at hk
  · have e2 : g2 = k := by simpa [Value.ownBlock] using hk
    subst e2
    rcases h'.2 with ⟨rfl, _⟩ | ⟨g3, cap3, cur3, rfl, _, hh', _⟩
    · simp [Value.ownBlock] at hk'
    · have e3 : g3 = g2 := by simpa [Value.ownBlock] using hk'
      subst e3
      rw [hh] at hh'
      injection hh' with hh'
      injection hh' with _ ht
      exact hne ht
theorem far2p {w : World} {p : Addr} {g' : Nat} {v a b : Value} (hne : p.block ≠ g') (h : w.cell? p = some v) : ((w.setCell ⟨g', 0, none⟩ a).setCell ⟨g', 1, none⟩ b).cell? p = some v :=
  (World.cell?_setCell_other _ _ _ _ (fun e => hne (congrArg Addr.block e).symm)).trans ((World.cell?_setCell_other _ _ _ _ (fun e => hne (congrArg Addr.block e).symm)).trans h)

set_option maxRecDepth 100000 in
set_option maxHeartbeats 4000000 in
theorem used_any (t : Int) (base : Nat) (A : Option Addr) (c : Nat) (l : List Bk) (A' : Option Addr) (c' : Nat) (us : List Us) (w : World) (hl : OwB w base (.slice A l.length c) l) (hbase : base ≤ w.heap.size)
    (hok : BudOk t l) (hl0 : 0 < l.length) (ht : t ≤ 1000) (hu : RdU w A' us) (huo : ∀ u ∈ us, u.Ok) :
    Calls Try.prog 26 #[.agg #[.int .i64 t, .slice A l.length c], .slice A' us.length c'] w fun e w' => ∃ v vt, e = .returned (.tuple #[.agg #[.int .i64 (runU ⟨t, l, []⟩ (us.take 20)).t, v], vt, .bool true]) ∧
      OwB w' base v (runU ⟨t, l, []⟩ (us.take 20)).l ∧ OwK w' w.heap.size vt (runU ⟨t, l, []⟩ (us.take 20)).tk ∧ Below w.heap.size w w' := by
  have hlen := hu.1
  have HL := Lib.hid hl
  have HU := Lib.hid hu
  have HOK := Lib.hid hok
  have HBASE := Lib.hid hbase
  clear hl hu hok hbase
  obtain ⟨i0, hi, hz0, hz1, hz2⟩ := info_parts info56
  go_enter Try.func26, Try.ntmps26
  go_wp2
  have GB := Lib.hid ((Blk.new w 24 #[.int .i64 t, .slice A l.length c]).alloc (.cells #[.int .i64 0, .slice none 0 0] 24))
  have GR : Hid (Blk ((w.alloc (.cells #[.int .i64 t, .slice A l.length c] 24)).alloc (.cells #[.int .i64 0, .slice none 0 0] 24)) (w.heap.size + 1) 24 #[.int .i64 0, .slice none 0 0]) := Lib.hid (by simpa using Blk.new (w.alloc (.cells #[.int .i64 t, .slice A l.length c] 24)) 24 #[.int .i64 0, .slice none 0 0])
  have GL := Lib.hid ((HL.out.alloc (.cells #[.int .i64 t, .slice A l.length c] 24)).alloc (.cells #[.int .i64 0, .slice none 0 0] 24))
  go_loopw [7, 8] (fun vt i wr => ∃ (k : Nat) (A1 : Option Addr) (c1 : Nat), k ≤ us.length ∧ k ≤ 20 ∧ i = .int .i64 k ∧ Hid (Blk wr w.heap.size 24 #[.int .i64 (runU ⟨t, l, []⟩ (us.take k)).t, .slice A1 l.length c1]) ∧ Hid (OwB wr base (.slice A1 l.length c1) (runU ⟨t, l, []⟩ (us.take k)).l) ∧ Hid (OwK wr w.heap.size vt (runU ⟨t, l, []⟩ (us.take k)).tk) ∧ Hid (Blk wr (w.heap.size + 1) 24 #[.int .i64 0, .slice none 0 0]) ∧ Hid (Below w.heap.size w wr)) (fun _ i _ => us.length - (intOf i).toNat)
  case atStart => exact ⟨0, A, c, Nat.zero_le _, by omega, rfl, GB, GL, Lib.hid (OwL.nil _ _ _ _), GR, Lib.hid (((Below.refl _ _).alloc (Nat.le_refl _) _).alloc (by simp) _)⟩
  case round =>
    obtain ⟨k, A1, c1, hk, hk20, rfl, HB, HO, HT, HR, HW⟩ := hrel
    clear GB GR GL
    have hs0 : w.heap.size < wr.heap.size := HB.out.lt
    have hs1 : w.heap.size + 1 < wr.heap.size := HR.out.lt
    by_cases hlt : k < us.length ∧ k < 20
    · obtain ⟨hlt, hlt2⟩ := hlt
      have hd20 : decide ((k : Int) < 20) = true := by simp; omega
      have hrun := runU_ok (us.take k) ⟨t, l, []⟩ HOK.out hl0 (by simp; omega)
      have htk : (us.take k).length = k := by simp; omega
      have hll : (runU ⟨t, l, []⟩ (us.take k)).l.length = l.length := runU_length _ _
      rw [htk] at hrun
      obtain ⟨s, hs⟩ : ∃ s, s = runU ⟨t, l, []⟩ (us.take k) := ⟨_, rfl⟩
      have hstep : runU ⟨t, l, []⟩ (us.take (k + 1)) = s.step us[k] := by rw [List.take_succ_eq_append_getElem hlt, runU_snoc, ← hs]
      have HSTEP := Lib.hid hstep
      rw [← hs] at HB HO HT hrun hll
      have hsk : s.tk.length = k := by rw [hs, runU_tk, htk]; simp
      clear hs hstep
      obtain ⟨A4, c4, e, _, _, _⟩ := OwL.rd HT.out
      rw [hsk] at e
      subst e
      have HSK := Lib.hid hsk
      clear hsk
      obtain ⟨hbo, ht0, ht1⟩ := hrun
      replace ht0 : t ≤ s.t := ht0
      replace ht1 : s.t ≤ t + 5 * k := ht1
      have hst0 := hbo.t0
      have SO := step_ok (u := us[k]) hbo (by omega) (by omega)
      have w0 := SO.w0
      have w1 := SO.w1
      have HSO := Lib.hid SO
      have b0 : wr.cell? ⟨w.heap.size, 0, none⟩ = some (.int .i64 s.t) := HB.out.cell 0
      have b1 : wr.cell? ⟨w.heap.size, 1, none⟩ = some (.slice A1 l.length c1) := HB.out.cell 1
      obtain ⟨⟨u0, u1⟩, ⟨u2, u3⟩, ⟨u4, u5⟩⟩ := huo us[k] (List.getElem_mem hlt)
      obtain ⟨ad, rfl, f0, f1, f2⟩ := RdU.at_ (RdL.below HU.out HW.out) hlt
      have mt : us[k].wait.tmod 6 = us[k].wait % 6 := Int.tmod_eq_emod_of_nonneg u0
      have hw1 : IntKind.u8.wrap (us[k].wait.tmod 6) = us[k].wait % 6 := by rw [mt]; exact IntWalk.u8_in _ (by omega)
      have hw2 : IntKind.i64.wrap (us[k].wait % 6) = us[k].wait % 6 := IntWalk.i64_in _ (by omega)
      have hw3 : IntKind.i64.wrap (s.t + us[k].wait % 6) = s.t + us[k].wait % 6 := IntWalk.i64_in _ (by omega)
      have h64 : l.length ≤ 64 := HOK.out.len
      have HCA : Hid (∀ W, RdB W A1 s.l → Calls Try.prog 17 #[.agg #[.int .i64 s.t, .slice A1 l.length c1], .int .i64 (s.t + us[k].wait % 6)] W fun e w' => ∃ A2 c2, e = .returned (.tuple #[.agg #[.int .i64 (s.t + us[k].wait % 6), .slice A2 l.length c2], .int .i64 0]) ∧ OwB w' W.heap.size (.slice A2 l.length c2) (s.adv us[k]) ∧ Below W.heap.size W w') := by
        refine Lib.hid fun W hW => ?_
        have h := Advance_any s.t A1 c1 s.l (s.t + us[k].wait % 6) W hW (by omega)
        rw [hll] at h
        refine h.mono ?_
        rintro e w2 ⟨v, rfl, hv, hb⟩
        rw [HSO.out.advL] at hv
        rw [HSO.out.advE, HSO.out.advT]
        obtain ⟨A2, c2, rfl, _, _, _⟩ := OwL.rd hv
        rw [adv_length, hll] at hv ⊢
        exact ⟨A2, c2, rfl, hv, hb⟩
      clear SO hbo
      go_wp2
      go_cut [9, 10] from 27 to 41 (fun v9 v10 wc => ∃ (B : Nat) (A2 : Option Addr) (c2 : Nat), v9 = .pointer (some ⟨B, 0, none⟩) ∧ v10 = .int .i64 0 ∧ Hid (Blk wc B 24 #[.int .i64 (s.t + us[k].wait % 6), .slice A2 l.length c2]) ∧ Hid (OwB wc wr.heap.size (.slice A2 l.length c2) (s.adv us[k])) ∧ Hid (Below wr.heap.size wr wc) ∧ wr.heap.size ≤ B)
      case first =>
        have had : (ad.add (k * 3)).block < wr.heap.size := World.block_lt_of_cell? wr _ f0
        have hbz := (Below.refl wr.heap.size wr).alloc (Nat.le_refl _) (.cells #[.int .i64 0, .slice none 0 0] 24)
        have kd0 := cell_later hbz b0
        have kd1 := cell_later hbz b1
        have kdu := cell_later hbz f0
        have HBZ := Lib.hid hbz
        clear hbz
        go_region_held3 (fun w' => w'.cell? ⟨w.heap.size, 0, none⟩ = some (.int .i64 s.t) ∧ w'.cell? ⟨w.heap.size, 1, none⟩ = some (.slice A1 l.length c1) ∧ w'.cell? (ad.add (k * 3)) = some (.int .u8 us[k].wait)) (first | exact ⟨b0, b1, f0⟩ | exact ⟨kd0, kd1, kdu⟩ | exact ⟨hk0, hk1, hk2⟩ | exact ⟨far2 (by omega) hk0, far2 (by omega) hk1, far2p (by omega) hk2⟩ | go_keep)
          (first | (go_at_call 17; refine (HCA.out _ (by exact RdL.alloc (OwL.rdA HO.out) _)).mono ?_; rintro e w2 ⟨A2, c2, rfl, hv, hb⟩; have ho := (OwL.lower hv (show wr.heap.size ≤ _ by simp)); have hk0 : w2.cell? ⟨w.heap.size, 0, none⟩ = some (.int .i64 s.t) := cell_later hb kd0; have hk1 : w2.cell? ⟨w.heap.size, 1, none⟩ = some (.slice A1 l.length c1) := cell_later hb kd1; have hk2 : w2.cell? (ad.add (k * 3)) = some (.int .u8 us[k].wait) := cell_later hb kdu; have hbk : Blk w2 wr.heap.size 24 #[.int .i64 0, .slice none 0 0] := (show Blk (wr.alloc (.cells #[.int .i64 0, .slice none 0 0] 24)).drew _ _ _ from Blk.new wr 24 _).below hb (by simp); have y0 := hbk.frozen 0; have y1 := hbk.frozen 1; have z0 : w2.cell? ⟨wr.heap.size, 0, none⟩ = some (.int .i64 0) := hbk.cell 0; have z1 : w2.cell? ⟨wr.heap.size, 1, none⟩ = some (.slice none 0 0) := hbk.cell 1) | (go_at_call 17; refine (HCA.out _ (by exact OwL.rdA HO.out)).mono ?_; rintro e w2 ⟨A2, c2, rfl, hv, hb⟩; have ho := (OwL.lower hv (show wr.heap.size ≤ _ by simp)); have hk0 : w2.cell? ⟨w.heap.size, 0, none⟩ = some (.int .i64 s.t) := cell_later hb b0; have hk1 : w2.cell? ⟨w.heap.size, 1, none⟩ = some (.slice A1 l.length c1) := cell_later hb b1; have hk2 : w2.cell? (ad.add (k * 3)) = some (.int .u8 us[k].wait) := cell_later hb f0))
        · go_wp2
          go_meet
          case rel =>
            have hbw : Below wr.heap.size wr w2 := (Below.refl _ wr).drew.trans hb
            exact ⟨_, A2, c2, rfl, rfl, Lib.hid (Blk.new _ _ _), Lib.hid (ho.alloc _), Lib.hid (hbw.alloc hbw.size _), hbw.size⟩
        · go_wp2
          go_meet
          case rel =>
            have hbw : Below wr.heap.size wr w2 := ((Below.refl _ wr).alloc (Nat.le_refl _) _).drew.trans (hb.mono (by simp))
            have ho' := (ho.far (p := ⟨wr.heap.size, 0, none⟩) (OwL.apart ho hbk (by decide)) (.int .i64 (s.t + us[k].wait % 6))).far (p := ⟨wr.heap.size, 1, none⟩) (OwL.apart ho hbk (by decide)) (.slice A2 l.length c2)
            exact ⟨_, A2, c2, rfl, rfl, Lib.hid ((hbk.set_ 0 _).set_ 1 _), Lib.hid ho', Lib.hid ((hbw.setCell (p := ⟨wr.heap.size, 0, none⟩) (Nat.le_refl _) _).setCell (p := ⟨wr.heap.size, 1, none⟩) (Nat.le_refl _) _), Nat.le_refl _⟩
      case rest =>
        obtain ⟨B, A2, c2, rfl, rfl, HX, HV, HWB, hB⟩ := hcut
        obtain ⟨wa, rfl⟩ : ∃ wa : World, wa = wc := ⟨_, rfl⟩
        have HBA := Lib.hid (HB.out.below HWB.out HB.out.lt)
        have HRA := Lib.hid (HR.out.below HWB.out HR.out.lt)
        have HTA := Lib.hid (OwL.below HT.out HWB.out)
        have HWA := Lib.hid (HW.out.trans (HWB.out.mono HW.out.size))
        have hsB : B < wa.heap.size := HX.out.lt
        have hsz := HWB.out.size
        have x0 : wa.cell? ⟨B, 0, none⟩ = some (.int .i64 (s.t + us[k].wait % 6)) := HX.out.cell 0
        have x1 : wa.cell? ⟨B, 1, none⟩ = some (.slice A2 l.length c2) := HX.out.cell 1
        have g1 : wa.cell? ⟨(ad.add (k * 3)).block, (ad.add (k * 3)).off + 1, none⟩ = some (.int .u8 us[k].bucket) := cell_later HWB.out f1
        have g2 : wa.cell? ⟨(ad.add (k * 3)).block, (ad.add (k * 3)).off + 2, none⟩ = some (.int .u8 us[k].want) := cell_later HWB.out f2
        have mtb : us[k].bucket.tmod (l.length : Int) = us[k].bucket % (l.length : Int) := Int.tmod_eq_emod_of_nonneg u2
        have hbm0 := Int.emod_nonneg us[k].bucket (show (l.length : Int) ≠ 0 by omega)
        have hbm1 := Int.emod_lt_of_pos us[k].bucket (show 0 < (l.length : Int) by omega)
        have hbk : us[k].bucket % (l.length : Int) = (s.buk us[k] : Nat) := by unfold St.buk; rw [hll]; omega
        have hlz : ((l.length : Int) == 0) = false := by rw [beq_eq_false_iff_ne]; omega
        have hlz2 : ¬ ((l.length : Int) = 0) := by omega
        have hw4 : IntKind.i64.wrap (us[k].bucket.tmod (l.length : Int)) = (s.buk us[k] : Nat) := by rw [mtb, hbk]; exact IntWalk.i64_in _ (by omega)
        have hl1 : (s.adv us[k]).length = l.length := by rw [adv_length, hll]
        have hmo0 := HSO.out.av0
        have hmo1 := HSO.out.av1
        have mtn : us[k].want.tmod (availL (s.adv us[k]) (s.buk us[k]) + 1) = us[k].want % (availL (s.adv us[k]) (s.buk us[k]) + 1) := Int.tmod_eq_emod_of_nonneg u4
        have hn0 := HSO.out.n0
        have hn1 := HSO.out.n1
        obtain ⟨T1, hT1⟩ : ∃ T1, T1 = s.t + us[k].wait % 6 := ⟨_, rfl⟩
        obtain ⟨m, hm⟩ : ∃ m, m = availL (s.adv us[k]) (s.buk us[k]) := ⟨_, rfl⟩
        obtain ⟨n, hn⟩ : ∃ n, n = s.amt us[k] := ⟨_, rfl⟩
        obtain ⟨kk, hkk⟩ : ∃ kk : Nat, kk = s.buk us[k] := ⟨_, rfl⟩
        have HCV : Hid (∀ W, RdB W A2 (s.adv us[k]) → Calls Try.prog 19 #[.agg #[.int .i64 T1, .slice A2 l.length c2], .int .i64 kk] W fun e w' => e = .returned (.tuple #[.int .i64 m, .int .i64 0]) ∧ Below W.heap.size W w') := by
          refine Lib.hid fun W hW => ?_
          have h := Available_any T1 A2 c2 (s.adv us[k]) kk W hW
          rw [hl1, hT1, hkk, HSO.out.avl, HSO.out.find, ← hm, ← hkk, ← hT1] at h
          exact h
        have HCT : Hid (∀ W, RdB W A2 (s.adv us[k]) → Calls Try.prog 21 #[.agg #[.int .i64 T1, .slice A2 l.length c2], .int .i64 kk, .int .i64 n] W fun e w' => ∃ A3 c3, e = .returned (.tuple #[.agg #[.int .i64 T1, .slice A3 l.length c3], .int .i64 0]) ∧ OwB w' W.heap.size (.slice A3 l.length c3) (s.step us[k]).l ∧ Below W.heap.size W w') := by
          refine Lib.hid fun W hW => ?_
          have h := Take_any T1 A2 c2 (s.adv us[k]) kk n W hW (by omega)
          unfold TakPost at h
          rw [hl1, hT1, hkk, hn, HSO.out.takE, HSO.out.takT, HSO.out.takL, ← hn, ← hkk, ← hT1] at h
          refine h.mono ?_
          rintro e w2 ⟨v, rfl, hv, hb⟩
          obtain ⟨A3, c3, rfl, _, _, _⟩ := OwL.rd hv
          rw [step_length, hll] at hv ⊢
          exact ⟨A3, c3, rfl, hv, hb⟩
        have hnw : us[k].want % (m + 1) = n := by rw [hn, hm]; rfl
        rw [← hm] at mtn hmo0 hmo1 hn1
        rw [← hn] at hn0 hn1
        rw [← hT1] at x0 HX
        rw [← hkk] at hw4 hbk
        have hkl : kk < l.length := by have := HSO.out.buk; rw [hl1] at this; omega
        have hw5 : IntKind.i64.wrap (m + 1) = m + 1 := IntWalk.i64_in _ (by omega)
        have hw6 : IntKind.i64.wrap (us[k].want.tmod (m + 1)) = n := by rw [mtn, hnw]; exact IntWalk.i64_in _ (by omega)
        have hmz : ¬ (m + 1 = 0) := by omega
        have hmz2 : (m + 1 == 0) = false := by rw [beq_eq_false_iff_ne]; omega
        have HT1 := Lib.hid hT1
        have HN := Lib.hid hn
        have HKK := Lib.hid hkk
        clear HB HR HT HW HWB b0 b1 f0 f1 f2 HCA hw1 hw2 hw3 hm hn hkk hT1
        go_wp2
        go_quiet (fail)
        rename_i nq1
        go_wp2_with fail
        refine (HCV.out _ (by exact OwL.rdA HV.out)).mono ?_
        rintro e wb ⟨rfl, hb⟩
        replace hb : Below wa.heap.size wa wb := ⟨hb.os, hb.tape, hb.output, hb.size, hb.block⟩
        have HBB := Lib.hid (HBA.out.below hb HBA.out.lt)
        have HRB := Lib.hid (HRA.out.below hb HRA.out.lt)
        have HTB := Lib.hid (OwL.below HTA.out hb)
        have HVB := Lib.hid (OwL.below HV.out hb)
        have HXB := Lib.hid (HX.out.below hb HX.out.lt)
        have HWB := Lib.hid (HWA.out.trans (hb.mono HWA.out.size))
        have hsb : wa.heap.size ≤ wb.heap.size := hb.size
        have g2b : wb.cell? ⟨(ad.add (k * 3)).block, (ad.add (k * 3)).off + 2, none⟩ = some (.int .u8 us[k].want) := cell_later hb g2
        have x0b : wb.cell? ⟨B, 0, none⟩ = some (.int .i64 T1) := HXB.out.cell 0
        have x1b : wb.cell? ⟨B, 1, none⟩ = some (.slice A2 l.length c2) := HXB.out.cell 1
        clear HBA HRA HTA HV HX HWA hb g1 g2 x0 x1 HCV
        go_wp2_with fail
        refine (HCT.out _ (by exact OwL.rdA HVB.out)).mono ?_
        rintro e wd ⟨A3, c3, rfl, hv, hb⟩
        let bz : Obj := .cells #[.int .i64 T1, .slice A3 l.length c3] 24
        have HBD := Lib.hid ((HBB.out.below hb HBB.out.lt).alloc bz)
        have HRD := Lib.hid ((HRB.out.below hb HRB.out.lt).alloc bz)
        have HTD := Lib.hid ((OwL.below HTB.out hb).alloc bz)
        have HVD := Lib.hid ((OwL.lower hv (base' := base) (by have := HBASE.out; have := HWB.out.size; omega)).alloc bz)
        have hx2 := HXB.out.below hb HXB.out.lt
        have HYD := Lib.hid (Blk.new wd 24 #[.int .i64 T1, .slice A3 l.length c3])
        have hwd := HWB.out.trans (hb.mono HWB.out.size)
        have HWD := Lib.hid (hwd.alloc hwd.size bz)
        have hsd : wb.heap.size ≤ wd.heap.size := hb.size
        have x0d : wd.cell? ⟨B, 0, none⟩ = some (.int .i64 T1) := hx2.cell 0
        have hsBd : B < wd.heap.size := hx2.lt
        have x1d : wd.cell? ⟨B, 1, none⟩ = some (.slice A2 l.length c2) := hx2.cell 1
        clear HBB HRB HTB HVB HXB HWB hb x0b x1b g2b HCT hx2 hwd hv
        have HBX : Hid (RdK ((wd.alloc bz).alloc (.cells #[.int .i64 T1, .int .i64 kk, .int .i64 n] 56)) (some ⟨wd.heap.size + 1, 0, none⟩) [⟨T1, kk, n⟩]) := by
          have := RdL.box (E := eK) (wd.alloc bz) ⟨T1, kk, n⟩ 56
          rw [World.size_alloc] at this
          exact Lib.hid this
        have HK1 : Hid (s.tk.length + [(⟨T1, kk, n⟩ : Tk)].length ≤ maxLen) := Lib.hid (by rw [HSK.out]; simp only [maxLen, List.length_singleton]; omega)
        have HK2 : Hid ((s.tk.length + [(⟨T1, kk, n⟩ : Tk)].length) * 24 ≤ 140737488355328) := Lib.hid (by rw [HSK.out]; simp only [List.length_singleton]; omega)
        have HBS : Hid (w.heap.size ≤ ((wd.alloc bz).alloc (.cells #[.int .i64 T1, .int .i64 kk, .int .i64 n] 56)).heap.size) := Lib.hid (by simp; omega)
        have HFA : Hid (∀ v1 w1, OwK w1 w.heap.size v1 (s.tk ++ [⟨T1, kk, n⟩]) → ((wd.alloc bz).alloc (.cells #[.int .i64 T1, .int .i64 kk, .int .i64 n] 56)).grownBy w1 (Value.slice A4 k c4).ownBlock → Hid (Blk w1 w.heap.size 24 #[.int .i64 s.t, .slice A1 l.length c1]) ∧ Hid (Blk w1 (w.heap.size + 1) 24 #[.int .i64 0, .slice none 0 0]) ∧ Hid (Blk w1 wd.heap.size 24 #[.int .i64 T1, .slice A3 l.length c3]) ∧ Hid (OwB w1 base (.slice A3 l.length c3) (s.step us[k]).l) ∧ Hid (Below w.heap.size w w1) ∧ Hid (∃ A5 c5, v1 = .slice A5 (k + 1) c5)) := by
          refine Lib.hid fun v1 w1 hown hg => ?_
          have hne : ∀ {g : Nat} {cs : Array Value}, Blk (wd.alloc bz) g 24 cs → ∀ q, (Value.slice A4 k c4).ownBlock = some q → q ≠ g := fun hh => OwL.apart HTD.out hh (by decide)
          have hneB : ∀ q, (Value.slice A3 l.length c3).ownBlock = some q → some q ≠ (Value.slice A4 k c4).ownBlock := fun q h1 h2 => OwL.apart2 HVD.out HTD.out (by decide) q h1 h2.symm
          have hlt1 : ∀ q, (Value.slice A4 k c4).ownBlock = some q → w.heap.size ≤ q := fun q h => (OwL.lt HTD.out q h).1
          obtain ⟨A5, c5, e, _, _, _⟩ := OwL.rd hown
          rw [List.length_append, HSK.out] at e
          exact ⟨Lib.hid ((HBD.out.alloc _).grown hg (fun h => hne HBD.out _ h.symm rfl)), Lib.hid ((HRD.out.alloc _).grown hg (fun h => hne HRD.out _ h.symm rfl)), Lib.hid ((HYD.out.alloc _).grown hg (fun h => hne HYD.out _ h.symm rfl)), Lib.hid ((HVD.out.alloc _).grown hg hneB), Lib.hid ((HWD.out.alloc HWD.out.size _).grown hg HBS.out hlt1), Lib.hid ⟨A5, c5, e⟩⟩
        have hs5 : w.heap.size < wd.heap.size := by omega
        go_wp2_with (at_builtin; go_loud (refine wpList_append_all (E := eK) _ rfl (.tmp 105) (.tmp 111) _ rfl w.heap.size 56 i0 _ 24 Try.underlying52 hi hz0 hz1 hz2 rfl (.slice A4 k c4) s.tk rfl (HTD.out.alloc _) (some ⟨wd.heap.size + 1, 0, none⟩) 1 [⟨T1, kk, n⟩] rfl HBX.out (by simp) HK1.out HK2.out HBS.out ?_); intro v1 w1 hown hg hat; obtain ⟨HB1, HR1, HY1, HV1, HW1, HE1⟩ := HFA.out v1 w1 hown hg; replace hown := Lib.hid hown; clear hg hat; have y0 : w1.cell? ⟨wd.heap.size, 0, none⟩ = some (.int .i64 T1) := HY1.out.cell 0; have y1 : w1.cell? ⟨wd.heap.size, 1, none⟩ = some (.slice A3 l.length c3) := HY1.out.cell 1; have b0 : w1.cell? ⟨w.heap.size, 0, none⟩ = some (.int .i64 s.t) := HB1.out.cell 0; have b1 : w1.cell? ⟨w.heap.size, 1, none⟩ = some (.slice A1 l.length c1) := HB1.out.cell 1; have zb0 := HB1.out.frozen 0; have zb1 := HB1.out.frozen 1)
        go_roundw
        case rel =>
          have e1 : (runU ⟨t, l, []⟩ (us.take (k + 1))).t = T1 := by rw [HSTEP.out, HT1.out]; rfl
          have e2 : (runU ⟨t, l, []⟩ (us.take (k + 1))).l = (s.step us[k]).l := by rw [HSTEP.out]
          have e3 : (runU ⟨t, l, []⟩ (us.take (k + 1))).tk = s.tk ++ [⟨T1, kk, n⟩] := by rw [HSTEP.out, HT1.out, HKK.out, HN.out]; rfl
          refine ⟨k + 1, A3, c3, by omega, by omega, by go_num, Lib.hid ?_, Lib.hid ?_, Lib.hid ?_, Lib.hid ?_, Lib.hid ?_⟩
          · rw [e1]
            exact (HB1.out.set_ 0 (.int .i64 T1)).set_ 1 (.slice A3 l.length c3)
          · rw [e2]
            have h1 := OwL.far (p := ⟨w.heap.size, 0, none⟩) HV1.out (OwL.apart HV1.out HB1.out (by decide)) (.int .i64 T1)
            exact OwL.far (p := ⟨w.heap.size, 1, none⟩) h1 (OwL.apart h1 (HB1.out.set_ 0 (.int .i64 T1)) (by decide)) (.slice A3 l.length c3)
          · rw [e3]
            have h1 := OwL.far (p := ⟨w.heap.size, 0, none⟩) hown.out (OwL.apart hown.out HB1.out (by decide)) (.int .i64 T1)
            exact OwL.far (p := ⟨w.heap.size, 1, none⟩) h1 (OwL.apart h1 (HB1.out.set_ 0 (.int .i64 T1)) (by decide)) (.slice A3 l.length c3)
          · exact (HR1.out.far (p := ⟨w.heap.size, 0, none⟩) (by simp) _).far (p := ⟨w.heap.size, 1, none⟩) (by simp) _
          · exact two_sets HW1.out (Nat.le_refl _) _ _
        case measure => simp [intOf]; omega
    · have htake : runU ⟨t, l, []⟩ (us.take 20) = runU ⟨t, l, []⟩ (us.take k) := by
        by_cases h : k < us.length
        · rw [show k = 20 by omega]
        · rw [List.take_of_length_le (show us.length ≤ 20 by omega), List.take_of_length_le (show us.length ≤ k by omega)]
      obtain ⟨s, hs⟩ : ∃ s, s = runU ⟨t, l, []⟩ (us.take k) := ⟨_, rfl⟩
      rw [← hs] at HB HO HT htake
      have HTK := Lib.hid htake
      clear htake
      obtain ⟨A4, c4, rfl, _, _, _⟩ := OwL.rd HT.out
      have b0 : wr.cell? ⟨w.heap.size, 0, none⟩ = some (.int .i64 s.t) := HB.out.cell 0
      have b1 : wr.cell? ⟨w.heap.size, 1, none⟩ = some (.slice A1 l.length c1) := HB.out.cell 1
      have r0 : wr.cell? ⟨w.heap.size + 1, 0, none⟩ = some (.int .i64 0) := HR.out.cell 0
      have r1 : wr.cell? ⟨w.heap.size + 1, 1, none⟩ = some (.slice none 0 0) := HR.out.cell 1
      have z0 := HR.out.frozen 0
      have z1 := HR.out.frozen 1
      have HFIN : Hid (OwB ((wr.setCell ⟨w.heap.size + 1, 0, none⟩ (.int .i64 s.t)).setCell ⟨w.heap.size + 1, 1, none⟩ (.slice A1 l.length c1)) base (.slice A1 l.length c1) s.l ∧ OwK ((wr.setCell ⟨w.heap.size + 1, 0, none⟩ (.int .i64 s.t)).setCell ⟨w.heap.size + 1, 1, none⟩ (.slice A1 l.length c1)) w.heap.size (.slice A4 s.tk.length c4) s.tk ∧ Below w.heap.size w ((wr.setCell ⟨w.heap.size + 1, 0, none⟩ (.int .i64 s.t)).setCell ⟨w.heap.size + 1, 1, none⟩ (.slice A1 l.length c1))) := by
        have h2 := HR.out.set_ 0 (.int .i64 s.t)
        have h3 := OwL.far (p := ⟨w.heap.size + 1, 0, none⟩) HO.out (OwL.apart HO.out HR.out (by decide)) (.int .i64 s.t)
        have h4 := OwL.far (p := ⟨w.heap.size + 1, 0, none⟩) HT.out (OwL.apart HT.out HR.out (by decide)) (.int .i64 s.t)
        exact Lib.hid ⟨OwL.far (p := ⟨w.heap.size + 1, 1, none⟩) h3 (OwL.apart h3 h2 (by decide)) _, OwL.far (p := ⟨w.heap.size + 1, 1, none⟩) h4 (OwL.apart h4 h2 (by decide)) _, two_sets HW.out (by omega) _ _⟩
      clear hs
      by_cases h : k < us.length
      · have hd20 : decide ((k : Int) < 20) = false := by simp; omega
        go_wp2
        exact bodyPost_ret (v := .tuple #[.agg #[.int .i64 s.t, .slice A1 l.length c1], .slice A4 s.tk.length c4, .bool true]) (by simp [results, Try.results26, go_sem, r0, r1]) rfl ⟨_, _, by rw [HTK.out], by rw [HTK.out]; exact HFIN.out⟩
      · go_wp2
        exact bodyPost_ret (v := .tuple #[.agg #[.int .i64 s.t, .slice A1 l.length c1], .slice A4 s.tk.length c4, .bool true]) (by simp [results, Try.results26, go_sem, r0, r1]) rfl ⟨_, _, by rw [HTK.out], by rw [HTK.out]; exact HFIN.out⟩
end Go.Proofs.Ytlgahhfpdomdmaa

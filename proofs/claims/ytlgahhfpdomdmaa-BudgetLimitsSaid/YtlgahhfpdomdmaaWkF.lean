/- The walk through budget.Take: what it computes. Condition: the slice lies in memory as a list of at most 4096 buckets. -/
import Derived.Test.YtlgahhfpdomdmaaWkE
import Derived.Test.YtlgahhfpdomdmaaRng
import Derived.Deep.DeepCutAuto
import Derived.Deep.RegionHeld3
set_option linter.unusedVariables false
set_option linter.unusedSimpArgs false
namespace Go.Proofs.Ytlgahhfpdomdmaa
open Go.RowKit Go.Shelf
attribute [local go_sem] Oper.semAt_some

theorem take_any (g o : Nat) (tok n : Int) (w : World) (h3 : w.cell? ⟨g, o + 3, none⟩ = some (.int .i64 tok)) (hz : w.frozen? ⟨g, o + 3, none⟩ = false) :
    Calls Try.prog 37 #[.agg #[.pointer (some ⟨g, o, none⟩)], .int .i64 n] w fun e w' => (∃ u, e = .returned u) ∧ ((w.setCell ⟨g, o + 3, none⟩ (.int .i64 (wrap64 (tok - n)))).alloc (.cells #[.pointer (some ⟨g, o, none⟩)] 71)) = w' := by
  have hg : g < w.heap.size := World.block_lt_of_cell? w _ h3
  have g3 : (w.alloc (.cells #[.pointer (some ⟨g, o, none⟩)] 71)).cell? ⟨g, o + 3, none⟩ = some (.int .i64 tok) := (World.cell?_alloc_lt w _ ⟨g, o + 3, none⟩ hg).trans h3
  go_enter Try.func37, Try.ntmps37
  go_wp2
  go_end0
  exact ⟨⟨_, rfl⟩, rfl⟩

theorem path_any (A : Option Addr) (len cap : Nat) (k : Int) (w : World) :
    Calls Try.prog 36 #[.slice A len cap, .int .i64 k] w fun e w' => e = .returned (.func (.func 39) #[] #[.pointer (some ⟨w.heap.size + 1, 0, none⟩), .pointer (some ⟨w.heap.size, 0, none⟩)]) ∧ (w.alloc (.cells #[.slice A len cap] 22)).alloc (.cells #[.int .i64 k] 3) = w' :=
  callsIn_wide.1 (path_in Fence.wide 8 trivial rfl A len cap k w)

/-- What is handed back: the error, the time, the buckets. -/
def TakPost (w : World) (t : Int) (l : List Bk) (k n : Int) (e : Ending) (w' : World) : Prop := ∃ v, e = .returned (.tuple #[.agg #[.int .i64 (takT t l k n), v], .int .i64 (takE t l k n)]) ∧ OwB w' w.heap.size v (takL t l k n) ∧ Below w.heap.size w w'
theorem tak_err {w w' : World} {t : Int} {l : List Bk} {k n E : Int} (h : takE t l k n = E) (hE : E ≠ 0) (hB : Below w.heap.size w w') : TakPost w t l k n (.returned (.tuple #[.agg #[.int .i64 0, .slice none 0 0], .int .i64 E])) w' := by
  refine ⟨.slice none 0 0, ?_, ?_, hB⟩
  · unfold takT; rw [h, if_neg hE]
  · unfold takL; rw [h, if_neg hE]; exact OwL.nil _ _ _ _
theorem far2 {w : World} {g g' i : Nat} {v a b : Value} (hne : g' ≠ g) (h : w.cell? ⟨g, i, none⟩ = some v) : ((w.setCell ⟨g', 0, none⟩ a).setCell ⟨g', 1, none⟩ b).cell? ⟨g, i, none⟩ = some v :=
  (World.cell?_setCell_other _ _ _ _ (fun e => hne (congrArg Addr.block e))).trans ((World.cell?_setCell_other _ _ _ _ (fun e => hne (congrArg Addr.block e))).trans h)
theorem two_sets {w w1 : World} {g : Nat} (hB : Below w.heap.size w w1) (hg : w.heap.size ≤ g) (u v : Value) : Below w.heap.size w ((w1.setCell ⟨g, 0, none⟩ u).setCell ⟨g, 1, none⟩ v) :=
  (hB.setCell (p := ⟨g, 0, none⟩) hg u).setCell (p := ⟨g, 1, none⟩) hg v

theorem path_stops0 (bs : List Bk) (hu : Up bs) (k0 : Nat) (hk0 : k0 < bs.length) (Bn Bl g : Nat) (cap : Nat) (w : World)
    (hBn : w.cell? ⟨Bn, 0, none⟩ = some (.int .i64 k0)) (hBl : w.cell? ⟨Bl, 0, none⟩ = some (.slice (some ⟨g, 0, none⟩) bs.length cap)) (hc : ∀ j (hj : j < bs.length), w.cell? ⟨g, j * 4, none⟩ = some (.int .i64 (bs[j]).par)) (hlen : bs.length ≤ 9223372036854775807) :
    SeqStopsK Fence.wide 7 Try.prog 39 #[.pointer (some ⟨Bn, 0, none⟩), .pointer (some ⟨Bl, 0, none⟩)] (fun x : Ix bs => #[Value.pointer (some ⟨g, x.1 * 4, none⟩)]) (KeepsC (PathS bs.length Bl ⟨g, 0, none⟩)) (fun xs => ixs xs = pathL bs k0) (fun pre => ixs pre <+: pathL bs k0) (pathL bs k0).length w := by
  have := path_stops Fence.wide 7 trivial rfl (by omega) bs hu k0 hk0 Bn Bl ⟨g, 0, none⟩ cap w hBn hBl (fun j hj => by rw [add_plain]; exact hc j hj) hlen
  simp only [add_plain] at this
  exact this

set_option maxHeartbeats 2000000 in
theorem Take_any (t : Int) (A : Option Addr) (c : Nat) (l : List Bk) (k n : Int) (w : World) (hl : RdB w A l) (hlen : l.length ≤ 4096) :
    Calls Try.prog 21 #[.agg #[.int .i64 t, .slice A l.length c], .int .i64 k, .int .i64 n] w (TakPost w t l k n) := by
  have HL := Lib.hid hl
  clear hl
  refine calls_of_wp_marks Try.func21 rfl ?_
  simp only [Try.ntmps21, List.size_toArray, List.length_cons, List.length_nil, Nat.reduceAdd, Nat.reduceSub, Array.replicate_succ, Array.replicate_zero, List.push_toArray, List.append_toArray, List.nil_append, List.cons_append]
  go_wp2_with fail
  refine (find_any _ _ _ _ _ _ (((HL.out).alloc _).alloc _ |>.alloc _)).mono ?_
  rintro e w1 ⟨rfl, hb⟩
  have hK0 : Blk w1 w.heap.size 24 #[.int .i64 t, .slice A l.length c] := (((Blk.new w 24 _).alloc _).alloc _).below hb (by simp; omega)
  have hN0 : Blk w1 (w.heap.size + 1) 3 #[.int .i64 n] := ((show Blk _ (w.heap.size + 1) _ _ by simpa using Blk.new (w.alloc (.cells #[.int .i64 t, .slice A l.length c] 24)) 3 #[.int .i64 n]).alloc _).below hb (by simp)
  have hR0 : Blk w1 (w.heap.size + 1 + 1) 24 #[.int .i64 0, .slice none 0 0] := (show Blk _ (w.heap.size + 1 + 1) _ _ by simpa using Blk.new ((w.alloc (.cells #[.int .i64 t, .slice A l.length c] 24)).alloc (.cells #[.int .i64 n] 3)) 24 #[.int .i64 0, .slice none 0 0]).below hb (by simp)
  have hB0 : Below w.heap.size w w1 := ((((Below.refl _ w).alloc (Nat.le_refl _) _).alloc (by simp) _).alloc (by simp; omega) _).trans (hb.mono (by simp; omega))
  have HL1 := Lib.hid ((((HL.out).alloc (.cells #[.int .i64 t, .slice A l.length c] 24)).alloc (.cells #[.int .i64 n] 3) |>.alloc (.cells #[.int .i64 0, .slice none 0 0] 24)).below hb)
  have hs1 : w.heap.size + 1 + 1 < w1.heap.size := hR0.lt
  have HK := Lib.hid hK0
  have HN := Lib.hid hN0
  have HR := Lib.hid hR0
  have HB := Lib.hid hB0
  clear hK0 hN0 hR0 hB0 hb HL
  have n0 : w1.cell? ⟨w.heap.size + 1, 0, none⟩ = some (.int .i64 n) := HN.out.cell 0
  have k0 : w1.cell? ⟨w.heap.size, 0, none⟩ = some (.int .i64 t) := HK.out.cell 0
  have k1 : w1.cell? ⟨w.heap.size, 1, none⟩ = some (.slice A l.length c) := HK.out.cell 1
  have r0 : w1.cell? ⟨w.heap.size + 1 + 1, 0, none⟩ = some (.int .i64 0) := HR.out.cell 0
  have r1 : w1.cell? ⟨w.heap.size + 1 + 1, 1, none⟩ = some (.slice none 0 0) := HR.out.cell 1
  have z0 := HR.out.frozen 0
  have z1 := HR.out.frozen 1
  by_cases hc : findE t l k = 0
  · have hcb : (findE t l k != 0) = false := by simp [hc]
    have hf := findE_zero.1 hc
    have HC := Lib.hid hc
    obtain ⟨j, rfl⟩ := Int.eq_ofNat_of_zero_le hf.2.1
    have hj : j < l.length := by omega
    have HF := Lib.hid hf.1
    clear hc hf
    by_cases h1 : n < 0
    · have E1 := Lib.hid (show takE t l j n = 1 by unfold takE; rw [if_pos HC.out, if_pos h1])
      go_wp2
      refine bodyM_ret (v := .tuple #[.agg #[.int .i64 0, .slice none 0 0], .int .i64 1]) (by simp [results, Try.results21, go_sem, r0, r1]) rfl (tak_err E1.out (by omega) (two_sets HB.out (by omega) _ _))
    go_wp2_with fail
    go_cut [22] from 23 to 28 (fun v22 wc => v22 = .bool (decide (availL l j < n)) ∧ Hid (Below w1.heap.size w1 wc))
    case first =>
      go_region_with (go_at_call 33; refine (available_any _ _ _ HF.out.up j hj _ (by exact HL1.out)).mono ?_; rintro e w2 ⟨rfl, hb⟩; have hn2 : w2.cell? ⟨w.heap.size + 1, 0, none⟩ = some (.int .i64 n) := cell_later hb n0)
      all_goals
        go_wp2
        go_meet
        case rel => exact ⟨rfl, Lib.hid ((Below.refl _ w1).drew.trans hb)⟩
    case rest =>
      obtain ⟨rfl, hbc⟩ := hcut
      obtain ⟨wa, rfl⟩ : ∃ wa : World, wa = wc := ⟨_, rfl⟩
      have hK0 := HK.out.below hbc.out HK.out.lt
      have hN0 := HN.out.below hbc.out HN.out.lt
      have hR0 := HR.out.below hbc.out HR.out.lt
      have hB0 := HB.out.trans (hbc.out.mono HB.out.size)
      have hL0 := RdL.below HL1.out hbc.out
      have hs2 : w.heap.size + 1 + 1 < wa.heap.size := hR0.lt
      clear HK HN HR HB HL1 n0 k0 k1 r0 r1 z0 z1 hbc hs1
      have HK := Lib.hid hK0
      have HN := Lib.hid hN0
      have HR := Lib.hid hR0
      have HB := Lib.hid hB0
      have HL1 := Lib.hid hL0
      clear hK0 hN0 hR0 hB0 hL0
      have n0 : wa.cell? ⟨w.heap.size + 1, 0, none⟩ = some (.int .i64 n) := HN.out.cell 0
      have k0 : wa.cell? ⟨w.heap.size, 0, none⟩ = some (.int .i64 t) := HK.out.cell 0
      have k1 : wa.cell? ⟨w.heap.size, 1, none⟩ = some (.slice A l.length c) := HK.out.cell 1
      have r0 : wa.cell? ⟨w.heap.size + 1 + 1, 0, none⟩ = some (.int .i64 0) := HR.out.cell 0
      have r1 : wa.cell? ⟨w.heap.size + 1 + 1, 1, none⟩ = some (.slice none 0 0) := HR.out.cell 1
      have z0 := HR.out.frozen 0
      have z1 := HR.out.frozen 1
      by_cases h2 : availL l j < n
      · have hd : decide (availL l j < n) = true := by simp [h2]
        have E1 := Lib.hid (show takE t l j n = 16 by unfold takE; rw [if_pos HC.out, if_neg (by omega)]; exact if_pos h2)
        go_wp2
        refine bodyM_ret (v := .tuple #[.agg #[.int .i64 0, .slice none 0 0], .int .i64 16]) (by simp [results, Try.results21, go_sem, r0, r1]) rfl (tak_err E1.out (by omega) (two_sets HB.out (by omega) _ _))
      have hd : decide (availL l j < n) = false := by simp; omega
      have E1 := Lib.hid (show takE t l j n = 0 by unfold takE; rw [if_pos HC.out, if_neg (by omega)]; exact if_neg h2)
      go_wp2_with fail
      go_cut [9] from 30 to 35 (fun v9 wd => ∃ (B : Nat) (A2 : Option Addr) (c2 : Nat), v9 = .pointer (some ⟨B, 0, none⟩) ∧ Hid (Blk wd B 24 #[.int .i64 t, .slice A2 l.length c2]) ∧ Hid (OwB wd w.heap.size (.slice A2 l.length c2) l) ∧ Hid (Below wa.heap.size wa wd) ∧ wa.heap.size ≤ B)
      case first =>
        have kd0 : (wa.alloc (.cells #[.int .i64 0, .slice none 0 0] 24)).cell? ⟨w.heap.size, 0, none⟩ = some (.int .i64 t) := cell_later ((Below.refl _ wa).alloc (Nat.le_refl _) _) k0
        have kd1 : (wa.alloc (.cells #[.int .i64 0, .slice none 0 0] 24)).cell? ⟨w.heap.size, 1, none⟩ = some (.slice A l.length c) := cell_later ((Below.refl _ wa).alloc (Nat.le_refl _) _) k1
        go_region_held3 (fun w' => w'.cell? ⟨w.heap.size, 0, none⟩ = some (.int .i64 t) ∧ w'.cell? ⟨w.heap.size, 1, none⟩ = some (.slice A l.length c)) (first | exact ⟨k0, k1⟩ | exact ⟨kd0, kd1⟩ | exact ⟨hk2, hk3⟩ | exact ⟨far2 (by omega) hk2, far2 (by omega) hk3⟩ | go_keep)
          (first | (go_at_call 28; refine (Clone_any _ _ _ _ (by exact RdL.alloc HL1.out _) hlen).mono ?_; rintro e w2 ⟨v, rfl, hv, hb⟩; have ho := (OwL.lower hv (Nat.le_trans HB.out.size (by simp))); obtain ⟨A1, c1, rfl, _, _, _⟩ := OwL.rd hv; have hk2 : w2.cell? ⟨w.heap.size, 0, none⟩ = some (.int .i64 t) := cell_later hb kd0; have hk3 : w2.cell? ⟨w.heap.size, 1, none⟩ = some (.slice A l.length c) := cell_later hb kd1; have hbk : Blk w2 wa.heap.size 24 #[.int .i64 0, .slice none 0 0] := (show Blk (wa.alloc (.cells #[.int .i64 0, .slice none 0 0] 24)).drew _ _ _ from Blk.new wa 24 _).below hb (by simp); have b0 : w2.cell? ⟨wa.heap.size, 0, none⟩ = some (.int .i64 0) := hbk.cell 0; have b1 : w2.cell? ⟨wa.heap.size, 1, none⟩ = some (.slice none 0 0) := hbk.cell 1; have y0 := hbk.frozen 0; have y1 := hbk.frozen 1) | (go_at_call 28; refine (Clone_any _ _ _ _ (by exact HL1.out) hlen).mono ?_; rintro e w2 ⟨v, rfl, hv, hb⟩; have ho := (OwL.lower hv HB.out.size); obtain ⟨A1, c1, rfl, _, _, _⟩ := OwL.rd hv; have hk2 : w2.cell? ⟨w.heap.size, 0, none⟩ = some (.int .i64 t) := cell_later hb k0; have hk3 : w2.cell? ⟨w.heap.size, 1, none⟩ = some (.slice A l.length c) := cell_later hb k1))
        · go_wp2
          go_meet
          case rel =>
            have hbw : Below wa.heap.size wa w2 := (Below.refl _ wa).drew.trans hb
            exact ⟨_, A1, c1, rfl, Lib.hid (Blk.new _ _ _), Lib.hid (ho.alloc _), Lib.hid (hbw.alloc hbw.size _), hbw.size⟩
        · go_wp2
          go_meet
          case rel =>
            have hbw : Below wa.heap.size wa w2 := ((Below.refl _ wa).alloc (Nat.le_refl _) _).drew.trans (hb.mono (by simp))
            have ho' := (ho.far (p := ⟨wa.heap.size, 0, none⟩) (OwL.apart ho hbk (by decide)) (.int .i64 t)).far (p := ⟨wa.heap.size, 1, none⟩) (OwL.apart ho hbk (by decide)) (.slice A1 l.length c1)
            exact ⟨_, A1, c1, rfl, Lib.hid ((hbk.set_ 0 _).set_ 1 _), Lib.hid ho', Lib.hid ((hbw.setCell (p := ⟨wa.heap.size, 0, none⟩) (Nat.le_refl _) _).setCell (p := ⟨wa.heap.size, 1, none⟩) (Nat.le_refl _) _), Nat.le_refl _⟩
      case rest =>
        obtain ⟨B, A2, c2, rfl, HO, HV, hbd, hB2⟩ := hcut
        obtain ⟨wd, rfl⟩ : ∃ wd : World, wd = wc := ⟨_, rfl⟩
        have hK0 := HK.out.below hbd.out HK.out.lt
        have hN0 := HN.out.below hbd.out HN.out.lt
        have hR0 := HR.out.below hbd.out HR.out.lt
        have hB0 := HB.out.trans (hbd.out.mono HB.out.size)
        have hs3 : w.heap.size + 1 + 1 < wd.heap.size := hR0.lt
        clear HK HN HR HB HL1 n0 k0 k1 r0 r1 z0 z1 hbd hcb hd
        have HN := Lib.hid hN0
        have HR := Lib.hid hR0
        have HB := Lib.hid hB0
        clear hK0 hN0 hR0 hB0
        obtain ⟨g, cap, e, hg1, hg2, _⟩ := OwL.at_ HV.out (by omega)
        obtain rfl : A2 = some ⟨g, 0, none⟩ := by injection e
        clear e
        have o1 : wd.cell? ⟨B, 1, none⟩ = some (.slice (some ⟨g, 0, none⟩) l.length c2) := HO.out.cell 1
        go_wp2_with fail
        refine (path_any _ _ _ _ _).mono ?_
        rintro e w3 ⟨rfl, rfl⟩
        have bL := Blk.new wd 22 #[.slice (some ⟨g, 0, none⟩) l.length c2]
        have bK : Blk ((wd.alloc (.cells #[.slice (some ⟨g, 0, none⟩) l.length c2] 22)).alloc (.cells #[.int .i64 (j : Int)] 3)) (wd.heap.size + 1) 3 #[.int .i64 (j : Int)] := by simpa using Blk.new (wd.alloc (.cells #[.slice (some ⟨g, 0, none⟩) l.length c2] 22)) 3 #[.int .i64 (j : Int)]
        have hbA : Below wd.heap.size wd ((wd.alloc (.cells #[.slice (some ⟨g, 0, none⟩) l.length c2] 22)).alloc (.cells #[.int .i64 (j : Int)] 3)) := ((Below.refl _ wd).alloc (Nat.le_refl _) _).alloc (by simp) _
        have hgB : B ≠ g := OwL.ne_blk HV.out HO.out (by decide)
        have hgN : w.heap.size + 1 ≠ g := OwL.ne_blk HV.out HN.out (by decide)
        have hgR : w.heap.size + 1 + 1 ≠ g := OwL.ne_blk HV.out HR.out (by decide)
        go_wp2_with fail
        refine wp_rangeFunc (gf := 39) (lb := #[.pointer (some ⟨wd.heap.size + 1, 0, none⟩), .pointer (some ⟨wd.heap.size, 0, none⟩)]) rfl (enters_of Try.func39 (by kernel_rfl) rfl)
          (path_stops0 l HF.out.up j hj (wd.heap.size + 1) wd.heap.size g c2 _ (bK.cell 0) ((bL.alloc _).cell 0) (fun i hi => (hbA.cell (p := ⟨g, i * 4, none⟩) hg2).trans (OwB.cells HV.out hi).1) (by omega)) keepsC_t keepsC_b (Below.refl _ _) (fun _ => rfl)
          (fun pre W => (OwB W w.heap.size (.slice (some ⟨g, 0, none⟩) l.length c2) (takeW l n (ixs pre)) ∧ Blk W B 24 #[.int .i64 t, .slice (some ⟨g, 0, none⟩) l.length c2] ∧ Blk W (w.heap.size + 1) 3 #[.int .i64 n] ∧ Blk W (w.heap.size + 1 + 1) 24 #[.int .i64 0, .slice none 0 0]) ∧ Below w.heap.size w W)
          (fun _ _ _ => False)
          (OwnFrom.and (Own.from (fun s A B row hs hg hr => ⟨hs.1.kept hg hr, hs.2.1.kept hg hr, hs.2.2.1.kept hg hr, hs.2.2.2.kept hg hr⟩) _) (ownFrom_below (Nat.le_refl _) (by simp; omega)))
          (fun _ _ _ _ _ hs _ _ => hs)
          ⟨⟨HV.out.below hbA, (HO.out.alloc _).alloc _, (HN.out.alloc _).alloc _, (HR.out.alloc _).alloc _⟩, HB.out.trans (hbA.mono HB.out.size)⟩
          (fun x => { tmps := #[.agg #[.int .i64 t, .slice A l.length c], .int .i64 (j : Int), .int .i64 n, .pointer (some ⟨w.heap.size, 0, none⟩), undef, .pointer (some ⟨w.heap.size + 1, 0, none⟩), .pointer (some ⟨w.heap.size + 1 + 1, 0, none⟩), .int .i64 0, .int .i64 (findE t l j), .pointer (some ⟨B, 0, none⟩), .pointer (some ⟨g, x.1 * 4, none⟩), .agg #[.int .i64 t, .slice A l.length c], .int .i64 (j : Int), .int .i64 (findE t l j), .int .i64 (findE t l j), .bool false, undef, undef, .bool (decide (n < 0)), .int .i64 n, .bool (decide (n < 0)), undef, .bool false, u23, u24, u25, u26, u27, u28, undef, u30, u31, u32, u33, u34, u35, .pointer (some ⟨B, 1, none⟩), .slice (some ⟨g, 0, none⟩) l.length c2, .int .i64 (j : Int), .func (.func 39) #[] #[.pointer (some ⟨wd.heap.size + 1, 0, none⟩), .pointer (some ⟨wd.heap.size, 0, none⟩)], .pointer (some ⟨g, x.1 * 4, none⟩), undef, undef, undef, undef, undef], defers := [] }) ?assign ?body ?done ?stop
        case assign =>
          intro lp x W K hK
          gi_wp2
          exact hK
        case body =>
          rintro lp pre x W ⟨⟨ho, hbo, hbn, hbr⟩, hb⟩ _
          have hxl : x.1 < (takeW l n (ixs pre)).length := by rw [takeW_length]; exact x.2
          have hx := (OwB.cells ho hxl).2.2.2
          have hz := OwL.frozen ho (x.1 * 4 + 3)
          have n0 : W.cell? ⟨w.heap.size + 1, 0, none⟩ = some (.int .i64 n) := hbn.cell 0
          gi_wp2_with ((refine ⟨trivial, ?_⟩); gi_at_call 37; refine (CallsIn.inRound lp (callsIn_wide.2 (take_any g (x.1 * 4) _ n W hx hz))).mono ?_; rintro e wx ⟨⟨u, rfl⟩, rfl⟩)
          refine ⟨((KeepsOthers.setCell _ _ _).trans (KeepsOthers.alloc _ _)).from _, keepsC_t (KeepsC.setCell W ?_ _) (KeepsC.alloc _ _ _), ⟨?_, (hbo.far (p := ⟨g, x.1 * 4 + 3, none⟩) hgB _).alloc _, (hbn.far (p := ⟨g, x.1 * 4 + 3, none⟩) hgN _).alloc _, (hbr.far (p := ⟨g, x.1 * 4 + 3, none⟩) hgR _).alloc _⟩, (hb.setCell (p := ⟨g, x.1 * 4 + 3, none⟩) hg1 _).alloc (by simpa [World.setCell] using hb.size) _⟩
          · rintro p (rfl | ⟨i, hi, rfl⟩) e
            · have := congrArg Addr.block e
              simp at this
              omega
            · rw [add_plain] at e
              have := congrArg Addr.off e
              simp at this
              omega
          · rw [ixs_snoc, takeW_snoc, stepW_at hxl]
            exact (OwB.tok ho hxl _).alloc _
        case done =>
          rintro D ys W hD hys ⟨⟨ho, hbo, hbn, hbr⟩, hb⟩ hK
          have o0 : W.cell? ⟨B, 0, none⟩ = some (.int .i64 t) := hbo.cell 0
          have o1 : W.cell? ⟨B, 1, none⟩ = some (.slice (some ⟨g, 0, none⟩) l.length c2) := hbo.cell 1
          have r0 : W.cell? ⟨w.heap.size + 1 + 1, 0, none⟩ = some (.int .i64 0) := hbr.cell 0
          have r1 : W.cell? ⟨w.heap.size + 1 + 1, 1, none⟩ = some (.slice none 0 0) := hbr.cell 1
          have z0 := hbr.frozen 0
          have z1 := hbr.frozen 1
          have HY := Lib.hid hys
          have HO2 := Lib.hid ho
          have HR2 := Lib.hid hbr
          have HB2 := Lib.hid hb
          have HK2 := Lib.hid hK
          clear hys ho hbo hbn hbr hb hK bL bK hbA
          go_wp2
          have hK3 := (KeepsOthers.setCell (W.setCell ⟨w.heap.size + 1 + 1, 0, none⟩ (.int .i64 t)) ⟨w.heap.size + 1 + 1, 1, none⟩ (.slice (some ⟨g, 0, none⟩) l.length c2)).same D _ ((KeepsOthers.setCell W ⟨w.heap.size + 1 + 1, 0, none⟩ (.int .i64 t)).same D _ HK2.out rfl) rfl
          have hr3 := (HR2.out.set_ 0 (.int .i64 t)).set_ 1 (.slice (some ⟨g, 0, none⟩) l.length c2)
          have hg3 := grownBy_putObj' ((W.setCell ⟨w.heap.size + 1 + 1, 0, none⟩ (.int .i64 t)).setCell ⟨w.heap.size + 1 + 1, 1, none⟩ (.slice (some ⟨g, 0, none⟩) l.length c2)) D (.deferred none)
          have hrow : ∀ r, some D = some r → ∃ o : Obj, ((W.setCell ⟨w.heap.size + 1 + 1, 0, none⟩ (.int .i64 t)).setCell ⟨w.heap.size + 1 + 1, 1, none⟩ (.slice (some ⟨g, 0, none⟩) l.length c2)).heap[r]? = some o ∧ o.isCells = false := fun r e => by cases e; exact ⟨_, hK3, rfl⟩
          have hr4 := hr3.kept hg3 hrow
          have q0 := hr4.cell 0
          have q1 := hr4.cell 1
          refine bodyM_mark (v := .tuple #[.agg #[.int .i64 t, .slice (some ⟨g, 0, none⟩) l.length c2], .int .i64 0]) hK3 rfl (by simp [results, Try.results21, go_sem, q0, q1]) ?_
          refine ⟨_, by unfold takT; rw [E1.out]; rfl, ?_, ?_⟩
          · unfold takL
            rw [E1.out, if_pos rfl, ← takeW_path HF.out hj (by omega) (by omega), ← HY.out]
            have ho3 := (HO2.out.far (p := ⟨w.heap.size + 1 + 1, 0, none⟩) (OwL.apart HO2.out HR2.out (by decide)) (.int .i64 t)).far (p := ⟨w.heap.size + 1 + 1, 1, none⟩) (OwL.apart HO2.out HR2.out (by decide)) (.slice (some ⟨g, 0, none⟩) l.length c2)
            exact ho3.kept hg3 hrow
          · exact (two_sets HB2.out (by omega) _ _).trans (belowK_b (w := w) (Nat.le_refl _) _ D _ _ (by simp at hD; omega) hK3 rfl rfl)
        case stop =>
          rintro D c pre W _ _ h _
          exact h.elim
  · have hcb : (findE t l k != 0) = true := by simp [hc]
    have E1 := Lib.hid (show takE t l k n = findE t l k by unfold takE; rw [if_neg hc])
    have HC := Lib.hid hc
    clear hc
    go_wp2
    exact bodyM_ret (v := .tuple #[.agg #[.int .i64 0, .slice none 0 0], .int .i64 (findE t l k)]) (by simp [results, Try.results21, go_sem, r0, r1]) rfl (tak_err E1.out HC.out (two_sets HB.out (by omega) _ _))
end Go.Proofs.Ytlgahhfpdomdmaa

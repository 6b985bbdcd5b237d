/- The walk through budget.When: what it computes. Condition: the slice lies in memory as a list. -/
import Derived.Test.YtlgahhfpdomdmaaWkF
import Derived.Test.YtlgahhfpdomdmaaRngQ
set_option linter.unusedVariables false
set_option linter.unusedSimpArgs false
namespace Go.Proofs.Ytlgahhfpdomdmaa
open Go.RowKit Go.Shelf
attribute [local go_sem] Oper.semAt_some

def WhnPost (w : World) (t : Int) (l : List Bk) (k n : Int) (e : Ending) (w' : World) : Prop := e = .returned (.tuple #[.int .i64 (whnT t l k n), .int .i64 (whnE t l k n)]) ∧ Below w.heap.size w w'
theorem whn_err {w w' : World} {t : Int} {l : List Bk} {k n E : Int} (h : whnE t l k n = E) (hE : E ≠ 0) (hB : Below w.heap.size w w') : WhnPost w t l k n (.returned (.tuple #[.int .i64 0, .int .i64 E])) w' :=
  ⟨by unfold whnT; rw [h, if_neg hE], hB⟩
/-- Two results in cells of their own. -/
theorem res2 {w1 : World} {g : Nat} {u v : Value} {x y : Value} (h0 : Blk w1 g 3 #[x]) (h1 : Blk w1 (g + 1) 26 #[y]) : Blk ((w1.setCell ⟨g, 0, none⟩ u).setCell ⟨g + 1, 0, none⟩ v) g 3 #[u] ∧ Blk ((w1.setCell ⟨g, 0, none⟩ u).setCell ⟨g + 1, 0, none⟩ v) (g + 1) 26 #[v] :=
  ⟨(h0.set_ 0 u).far (by simp) v, (h1.far (p := ⟨g, 0, none⟩) (by simp) u).set_ 0 v⟩
theorem below2 {w w1 : World} {g : Nat} (hB : Below w.heap.size w w1) (hg : w.heap.size ≤ g) (u v : Value) : Below w.heap.size w ((w1.setCell ⟨g, 0, none⟩ u).setCell ⟨g + 1, 0, none⟩ v) :=
  (hB.setCell (p := ⟨g, 0, none⟩) hg u).setCell (p := ⟨g + 1, 0, none⟩) (by simp; omega) v

set_option maxHeartbeats 2000000 in
theorem When_any (t : Int) (A : Option Addr) (c : Nat) (l : List Bk) (k n : Int) (w : World) (hl : RdB w A l) (hn62 : n ≤ 9223372036854775807) :
    Calls Try.prog 23 #[.agg #[.int .i64 t, .slice A l.length c], .int .i64 k, .int .i64 n] w (WhnPost w t l k n) := by
  have hlen := hl.1
  have HL := Lib.hid hl
  clear hl
  refine calls_of_wp_marks Try.func23 rfl ?_
  simp only [Try.ntmps23, List.size_toArray, List.length_cons, List.length_nil, Nat.reduceAdd, Nat.reduceSub, Array.replicate_succ, Array.replicate_zero, List.push_toArray, List.append_toArray, List.nil_append, List.cons_append]
  go_wp2_with fail
  refine (find_any _ _ _ _ _ _ ((((HL.out).alloc _).alloc _ |>.alloc _) |>.alloc _)).mono ?_
  rintro e w1 ⟨rfl, hb⟩
  have hK0 : Blk w1 w.heap.size 24 #[.int .i64 t, .slice A l.length c] := ((((Blk.new w 24 _).alloc _).alloc _).alloc _).below hb (by simp; omega)
  have hN0 : Blk w1 (w.heap.size + 1) 3 #[.int .i64 n] := (((show Blk _ (w.heap.size + 1) _ _ by simpa using Blk.new (w.alloc (.cells #[.int .i64 t, .slice A l.length c] 24)) 3 #[.int .i64 n]).alloc _).alloc _).below hb (by simp)
  have hR0 : Blk w1 (w.heap.size + 1 + 1) 3 #[.int .i64 0] := ((show Blk _ (w.heap.size + 1 + 1) _ _ by simpa using Blk.new ((w.alloc (.cells #[.int .i64 t, .slice A l.length c] 24)).alloc (.cells #[.int .i64 n] 3)) 3 #[.int .i64 0]).alloc _).below hb (by simp)
  have hE0 : Blk w1 (w.heap.size + 1 + 1 + 1) 26 #[.int .i64 0] := (show Blk _ (w.heap.size + 1 + 1 + 1) _ _ by simpa using Blk.new (((w.alloc (.cells #[.int .i64 t, .slice A l.length c] 24)).alloc (.cells #[.int .i64 n] 3)).alloc (.cells #[.int .i64 0] 3)) 26 #[.int .i64 0]).below hb (by simp)
  have hB0 : Below w.heap.size w w1 := (((((Below.refl _ w).alloc (Nat.le_refl _) _).alloc (by simp) _).alloc (by simp; omega) _).alloc (by simp; omega) _).trans (hb.mono (by simp; omega))
  have HL1 := Lib.hid ((((HL.out).alloc (.cells #[.int .i64 t, .slice A l.length c] 24)).alloc (.cells #[.int .i64 n] 3) |>.alloc (.cells #[.int .i64 0] 3) |>.alloc (.cells #[.int .i64 0] 26)).below hb)
  have hs1 : w.heap.size + 1 + 1 + 1 < w1.heap.size := hE0.lt
  have hs2 : w.heap.size < w1.heap.size := by omega
  have hs3 : w.heap.size + 1 < w1.heap.size := by omega
  have hs4 : w.heap.size + 1 + 1 < w1.heap.size := by omega
  have HK := Lib.hid hK0
  have HN := Lib.hid hN0
  have HR := Lib.hid hR0
  have HE := Lib.hid hE0
  have HB := Lib.hid hB0
  clear hK0 hN0 hR0 hE0 hB0 hb HL
  have n0 : w1.cell? ⟨w.heap.size + 1, 0, none⟩ = some (.int .i64 n) := HN.out.cell 0
  have k0 : w1.cell? ⟨w.heap.size, 0, none⟩ = some (.int .i64 t) := HK.out.cell 0
  have k1 : w1.cell? ⟨w.heap.size, 1, none⟩ = some (.slice A l.length c) := HK.out.cell 1
  have r0 : w1.cell? ⟨w.heap.size + 1 + 1, 0, none⟩ = some (.int .i64 0) := HR.out.cell 0
  have r1 : w1.cell? ⟨w.heap.size + 1 + 1 + 1, 0, none⟩ = some (.int .i64 0) := HE.out.cell 0
  have z0 := HR.out.frozen 0
  have z1 := HE.out.frozen 0
  by_cases hc : findE t l k = 0
  · have hcb : (findE t l k != 0) = false := by simp [hc]
    have hf := findE_zero.1 hc
    have HC := Lib.hid hc
    obtain ⟨j, rfl⟩ := Int.eq_ofNat_of_zero_le hf.2.1
    have hj : j < l.length := by omega
    have HF := Lib.hid hf.1
    clear hc hf
    by_cases h1 : n < 0
    · have E1 := Lib.hid (show whnE t l j n = 1 by unfold whnE; rw [if_pos HC.out, if_pos h1])
      go_wp2
      have hq := res2 (u := .int .i64 0) (v := .int .i64 1) HR.out HE.out
      have q0 := hq.1.cell 0
      have q1 := hq.2.cell 0
      exact bodyM_ret (v := .tuple #[.int .i64 0, .int .i64 1]) (by simp [results, Try.results23, go_sem, q0, q1]) rfl (whn_err E1.out (by omega) (below2 HB.out (by omega) _ _))
    obtain ⟨ad, rfl, _⟩ := RdB.at_ HL1.out hj
    go_wp2_with fail
    refine (path_any _ _ _ _ _).mono ?_
    rintro e w3 ⟨rfl, rfl⟩
    go_wp2_with fail
    have hcs : ∀ i (hi : i < l.length), w1.cell? (ad.add (i * 4)) = some (.int .i64 (l[i]).par) ∧ w1.cell? ⟨(ad.add (i * 4)).block, (ad.add (i * 4)).off + 1, none⟩ = some (.int .i64 (l[i]).rate) ∧ w1.cell? ⟨(ad.add (i * 4)).block, (ad.add (i * 4)).off + 2, none⟩ = some (.int .i64 (l[i]).burst) ∧ w1.cell? ⟨(ad.add (i * 4)).block, (ad.add (i * 4)).off + 3, none⟩ = some (.int .i64 (l[i]).tok) := fun i hi => by
      obtain ⟨ad', e, hc⟩ := RdB.at_ HL1.out hi
      cases e
      exact hc
    have hadb : ad.block < w1.heap.size := by have := World.block_lt_of_cell? w1 _ (hcs j hj).1; rwa [add_block] at this
    have bT := Blk.new w1 3 #[.int .i64 0]
    have bL : Blk ((w1.alloc (.cells #[.int .i64 0] 3)).alloc (.cells #[.slice (some ad) l.length c] 22)) (w1.heap.size + 1) 22 #[.slice (some ad) l.length c] := by simpa using Blk.new (w1.alloc (.cells #[.int .i64 0] 3)) 22 #[.slice (some ad) l.length c]
    have bK : Blk (((w1.alloc (.cells #[.int .i64 0] 3)).alloc (.cells #[.slice (some ad) l.length c] 22)).alloc (.cells #[.int .i64 (j : Int)] 3)) (w1.heap.size + 1 + 1) 3 #[.int .i64 (j : Int)] := by simpa using Blk.new ((w1.alloc (.cells #[.int .i64 0] 3)).alloc (.cells #[.slice (some ad) l.length c] 22)) 3 #[.int .i64 (j : Int)]
    have hbA : Below w1.heap.size w1 (((w1.alloc (.cells #[.int .i64 0] 3)).alloc (.cells #[.slice (some ad) l.length c] 22)).alloc (.cells #[.int .i64 (j : Int)] 3)) := (((Below.refl _ w1).alloc (Nat.le_refl _) _).alloc (by simp) _).alloc (by simp; omega) _
    have HCS := Lib.hid hcs
    clear hcs
    refine wp_rangeFunc (gf := 39) (lb := #[.pointer (some ⟨w1.heap.size + 1 + 1, 0, none⟩), .pointer (some ⟨w1.heap.size + 1, 0, none⟩)]) rfl (enters_of Try.func39 (by kernel_rfl) rfl)
      (path_stops Fence.wide 7 trivial rfl (by omega) l HF.out.up j hj (w1.heap.size + 1 + 1) (w1.heap.size + 1) ad c _ (bK.cell 0) ((bL.alloc _).cell 0) (fun i hi => cell_later hbA (HCS.out i hi).1) hlen) keepsC_t keepsC_b (Below.refl _ _) (fun _ => rfl)
      (fun pre W => (∃ v, waitL l n (ixs pre) 0 = some v ∧ (0 ≤ v ∧ v ≤ 2147483648) ∧ Blk W w1.heap.size 3 #[.int .i64 v] ∧ Blk W w.heap.size 24 #[.int .i64 t, .slice (some ad) l.length c] ∧ Blk W (w.heap.size + 1) 3 #[.int .i64 n] ∧ Blk W (w.heap.size + 1 + 1) 3 #[.int .i64 0] ∧ Blk W (w.heap.size + 1 + 1 + 1) 26 #[.int .i64 0] ∧ (∀ i (hi : i < l.length), W.cell? ⟨(ad.add (i * 4)).block, (ad.add (i * 4)).off + 1, none⟩ = some (.int .i64 (l[i]).rate) ∧ W.cell? ⟨(ad.add (i * 4)).block, (ad.add (i * 4)).off + 2, none⟩ = some (.int .i64 (l[i]).burst) ∧ W.cell? ⟨(ad.add (i * 4)).block, (ad.add (i * 4)).off + 3, none⟩ = some (.int .i64 (l[i]).tok))) ∧ Below w.heap.size w W)
      (fun cd pre W => (cd = .ret ∧ waitL l n (ixs pre) 0 = none ∧ Blk W (w.heap.size + 1 + 1) 3 #[.int .i64 0] ∧ Blk W (w.heap.size + 1 + 1 + 1) 26 #[.int .i64 21]) ∧ Below w.heap.size w W)
      (OwnFrom.and (Own.from (fun s A B row hs hg hr => by obtain ⟨v, h1, h2, h3, h4, h5, h6, h7, h8⟩ := hs; exact ⟨v, h1, h2, h3.kept hg hr, h4.kept hg hr, h5.kept hg hr, h6.kept hg hr, h7.kept hg hr, fun i hi => ⟨cell_kept (h8 i hi).1 hg hr, cell_kept (h8 i hi).2.1 hg hr, cell_kept (h8 i hi).2.2 hg hr⟩⟩) _) (ownFrom_below (Nat.le_refl _) (by simp; omega)))
      (fun cd => OwnFrom.and (Own.from (fun s A B row hs hg hr => by obtain ⟨h1, h2, h3, h4⟩ := hs; exact ⟨h1, h2, h3.kept hg hr, h4.kept hg hr⟩) _) (ownFrom_below (Nat.le_refl _) (by simp; omega)))
      ⟨⟨0, rfl, by omega, (bT.alloc _).alloc _, HK.out.below hbA HK.out.lt, HN.out.below hbA HN.out.lt, HR.out.below hbA HR.out.lt, HE.out.below hbA HE.out.lt, fun i hi => ⟨cell_later hbA (HCS.out i hi).2.1, cell_later hbA (HCS.out i hi).2.2.1, cell_later hbA (HCS.out i hi).2.2.2⟩⟩, HB.out.trans (hbA.mono HB.out.size)⟩
      (fun x => { tmps := #[.agg #[.int .i64 t, .slice (some ad) l.length c], .int .i64 (j : Int), .int .i64 n, .pointer (some ⟨w.heap.size, 0, none⟩), undef, .pointer (some ⟨w.heap.size + 1, 0, none⟩), .pointer (some ⟨w.heap.size + 1 + 1, 0, none⟩), .pointer (some ⟨w.heap.size + 1 + 1 + 1, 0, none⟩), .int .i64 (findE t l j), .pointer (some ⟨w1.heap.size, 0, none⟩), .pointer (some (ad.add (x.1 * 4))), undef, .agg #[.int .i64 t, .slice (some ad) l.length c], .int .i64 (j : Int), .int .i64 (findE t l j), .int .i64 (findE t l j), .bool false, undef, .int .i64 n, .bool (decide (n < 0)), .pointer (some ⟨w.heap.size, 1, none⟩), .slice (some ad) l.length c, .int .i64 (j : Int), .func (.func 39) #[] #[.pointer (some ⟨w1.heap.size + 1 + 1, 0, none⟩), .pointer (some ⟨w1.heap.size + 1, 0, none⟩)], .pointer (some (ad.add (x.1 * 4))), undef, undef, undef, undef, undef, undef, undef, undef, undef, undef, undef, undef, undef, undef, undef, undef, undef, undef, undef, undef, undef, undef, undef, undef, undef, undef, undef, undef, undef, undef, undef, undef, undef, undef, undef, undef, undef, undef, undef, undef, undef, undef, undef, undef, undef, undef], defers := [] }) ?assign ?body ?done ?stop
    case assign =>
      intro lp x W K hK
      gi_wp2
      exact hK
    case body =>
      rintro lp pre x W ⟨⟨v, hv, hv2, hbt, hbk, hbn, hbr, hbe, hcc⟩, hb⟩ _
      have ok := HF.out.at_ x.1 x.2
      have q0 := ok.t0
      have q1 := ok.t1
      have q2 := ok.b1
      have q3 := ok.r0
      have q4 := ok.r1
      have HX := Lib.hid (bkAt_eq x.2)
      have n0 : W.cell? ⟨w.heap.size + 1, 0, none⟩ = some (.int .i64 n) := hbn.cell 0
      have t0 : W.cell? ⟨w1.heap.size, 0, none⟩ = some (.int .i64 v) := hbt.cell 0
      have zt := hbt.frozen 0
      have e0 : W.cell? ⟨w.heap.size + 1 + 1, 0, none⟩ = some (.int .i64 0) := hbr.cell 0
      have e1 : W.cell? ⟨w.heap.size + 1 + 1 + 1, 0, none⟩ = some (.int .i64 0) := hbe.cell 0
      have ze0 := hbr.frozen 0
      have ze1 := hbe.frozen 0
      obtain ⟨x1, x2, x3⟩ := hcc x.1 x.2
      have HV := Lib.hid hv
      have HT := Lib.hid hbt
      have HBK := Lib.hid hbk
      have HBN := Lib.hid hbn
      have HBR := Lib.hid hbr
      have HBE := Lib.hid hbe
      have HCC := Lib.hid hcc
      have HBB := Lib.hid hb
      clear hv hbt hbk hbn hbr hbe hcc hb ok HCS HL1 HK HN HR HE HB n0 k0 k1 r0 r1 z0 z1
      have n0 : W.cell? ⟨w.heap.size + 1, 0, none⟩ = some (.int .i64 n) := HBN.out.cell 0
      have hmix : Try.prog.follows .mixedOrders = true := by kernel_rfl
      by_cases h2 : n ≤ (l[x.1]'x.2).tok
      · have hws : waitStep l n v x.1 = some v := by unfold waitStep; rw [HX.out, if_pos h2]
        have HWS := Lib.hid hws
        clear hws
        gi_wp2
        refine region_quiet_round (by kernel_rfl) (by kernel_rfl) (by kernel_rfl) ?_
        repeat (gi_big_quiet_step (fail))
        refine wpQuietIn_nil ?_
        intro _ hw'
        obtain ⟨nq, hw''⟩ := hw'
        subst hw''
        gi_wp2
        exact ⟨(keepsOthers_drewN W _).from _, KeepsC.refl _ _, ⟨v, by rw [ixs_snoc, waitL_snoc, HV.out]; exact HWS.out, hv2, HT.out, HBK.out, HBN.out, HBR.out, HBE.out, HCC.out⟩, below_drewN' HBB.out _⟩
      have hm1 : 0 < n - (l[x.1]'x.2).tok := by omega
      gi_wp2
      refine region_quiet_round (by kernel_rfl) (by kernel_rfl) (by kernel_rfl) ?_
      repeat (gi_big_quiet_step (fail))
      refine wpQuietIn_nil ?_
      intro _ hw'
      obtain ⟨nq, hw''⟩ := hw'
      subst hw''
      by_cases h3 : (l[x.1]'x.2).burst < n
      · have hws : waitStep l n v x.1 = none := by unfold waitStep; rw [HX.out, if_neg (by omega), if_pos (.inl h3)]
        have HWS := Lib.hid hws
        clear hws
        gi_wp2
        refine region_quiet_round (by kernel_rfl) (by kernel_rfl) (by kernel_rfl) ?_
        repeat (gi_big_quiet_step (fail))
        refine wpQuietIn_nil ?_
        intro _ hw'
        obtain ⟨nq, hw''⟩ := hw'
        subst hw''
        gi_wp2
        have hr := res2 (u := .int .i64 0) (v := .int .i64 21) HBR.out HBE.out
        exact ⟨((keepsOthers_drewN W _).trans ((KeepsOthers.setCell _ _ _).trans (KeepsOthers.setCell _ _ _))).from _, ⟨rfl, by rw [ixs_snoc, waitL_snoc, HV.out]; exact HWS.out, hr.1, hr.2⟩, below2 (below_drewN' HBB.out _) (by omega) _ _⟩
      have hd3 : decide ((l[x.1]'x.2).burst < n) = false := by simp; omega
      by_cases h4 : (l[x.1]'x.2).rate = 0
      · have hws : waitStep l n v x.1 = none := by unfold waitStep; rw [HX.out, if_neg (by omega), if_pos (.inr h4)]
        have HWS := Lib.hid hws
        have hrb : ((l[x.1]'x.2).rate == 0) = true := by simp [h4]
        clear hws h4
        gi_wp2
        refine region_quiet_round (by kernel_rfl) (by kernel_rfl) (by kernel_rfl) ?_
        repeat (gi_big_quiet_step (fail))
        refine wpQuietIn_nil ?_
        intro _ hw'
        obtain ⟨nq, hw''⟩ := hw'
        subst hw''
        gi_wp2
        have hr := res2 (u := .int .i64 0) (v := .int .i64 21) HBR.out HBE.out
        exact ⟨((keepsOthers_drewN W _).trans ((KeepsOthers.setCell _ _ _).trans (KeepsOthers.setCell _ _ _))).from _, ⟨rfl, by rw [ixs_snoc, waitL_snoc, HV.out]; exact HWS.out, hr.1, hr.2⟩, below2 (below_drewN' HBB.out _) (by omega) _ _⟩
      have hr1 : 1 ≤ (l[x.1]'x.2).rate := by omega
      have hrb : ((l[x.1]'x.2).rate == 0) = false := by simp [h4]
      have hws : waitStep l n v x.1 = some (max v ((n - (l[x.1]'x.2).tok + (l[x.1]'x.2).rate - 1) / (l[x.1]'x.2).rate)) := by unfold waitStep; rw [HX.out, if_neg (by omega), if_neg (by omega)]
      have hv3 := waitStep_le HF.out x.2 hv2 hws
      have HV3 := Lib.hid hv3
      have HWS := Lib.hid hws
      clear hws h4 hv3
      gi_wp2
      refine region_quiet_round (by kernel_rfl) (by kernel_rfl) (by kernel_rfl) ?_
      repeat (gi_big_quiet_step (fail))
      refine wpQuietIn_nil ?_
      intro _ hw'
      obtain ⟨nq, hw''⟩ := hw'
      subst hw''
      gi_wp2
      refine region_tail_round 14 (by kernel_rfl) (by kernel_rfl) (by kernel_rfl) ?_
      simp only [List.take_succ_cons, List.take_zero, List.drop_succ_cons, List.drop_zero]
      generalize hWW : ((W.drewN _).drewN _).drew = WW
      have t0' : WW.cell? ⟨w1.heap.size, 0, none⟩ = some (.int .i64 v) := by rw [← hWW]; exact t0
      have zt' : WW.frozen? ⟨w1.heap.size, 0, none⟩ = false := by rw [← hWW]; exact zt
      have x1' : WW.cell? ⟨(ad.add (x.1 * 4)).block, (ad.add (x.1 * 4)).off + 1, none⟩ = some (.int .i64 (l[x.1]'x.2).rate) := by rw [← hWW]; exact x1
      have hk' : KeepsOthers W WW := by rw [← hWW]; exact ⟨Nat.le_refl _, fun _ _ h _ => h⟩
      have hc' : ∀ p, WW.cell? p = W.cell? p := by rw [← hWW]; exact fun _ => rfl
      have hh' : WW.heap = W.heap := by rw [← hWW]; rfl
      have hb' : Below w.heap.size w WW := by rw [← hWW]; exact ⟨HBB.out.os, HBB.out.tape, HBB.out.output, HBB.out.size, HBB.out.block⟩
      have HKW := Lib.hid hk'
      have HCW := Lib.hid hc'
      have HHW := Lib.hid hh'
      have HBW := Lib.hid hb'
      clear hWW hk' hc' hh' hb' t0 zt x1 x2 x3 e0 e1 ze0 ze1
      have hw1 : IntKind.i64.wrap (n - (l[x.1]'x.2).tok + (l[x.1]'x.2).rate) = n - (l[x.1]'x.2).tok + (l[x.1]'x.2).rate := IntWalk.i64_in _ (by omega)
      have hw2 : IntKind.i64.wrap (n - (l[x.1]'x.2).tok + (l[x.1]'x.2).rate - 1) = n - (l[x.1]'x.2).tok + (l[x.1]'x.2).rate - 1 := IntWalk.i64_in _ (by omega)
      have hp : 0 ≤ n - (l[x.1]'x.2).tok + (l[x.1]'x.2).rate - 1 := by omega
      have hq0 := Int.ediv_nonneg hp q3
      have hq1 := Int.ediv_le_self (l[x.1]'x.2).rate hp
      have hw3 : IntKind.i64.wrap ((n - (l[x.1]'x.2).tok + (l[x.1]'x.2).rate - 1).tdiv (l[x.1]'x.2).rate) = (n - (l[x.1]'x.2).tok + (l[x.1]'x.2).rate - 1) / (l[x.1]'x.2).rate := by
        rw [Int.tdiv_eq_ediv_of_nonneg hp]
        exact IntWalk.i64_in _ (by omega)
      have hne : ¬ (l[x.1]'x.2).rate = 0 := by omega
      clear hp hq0 hq1
      repeat still_step
      refine wpStill_nil ?_
      clear hw1 hw2 hw3
      go_wp2
      all_goals
        refine NoOut.normal ?_
        have hmx : max v ((n - (l[x.1]'x.2).tok + (l[x.1]'x.2).rate - 1) / (l[x.1]'x.2).rate) = ((n - (l[x.1]'x.2).tok + (l[x.1]'x.2).rate - 1) / (l[x.1]'x.2).rate) ∨ max v ((n - (l[x.1]'x.2).tok + (l[x.1]'x.2).rate - 1) / (l[x.1]'x.2).rate) = v := by omega
        refine ⟨(HKW.out.trans (KeepsOthers.setCell _ _ _)).from _, fun p u hp hu => ?_, ⟨max v ((n - (l[x.1]'x.2).tok + (l[x.1]'x.2).rate - 1) / (l[x.1]'x.2).rate), ?_, ?_, ?_, ?_, ?_, ?_, ?_, ?_⟩, HBW.out.setCell (p := ⟨w1.heap.size, 0, none⟩) (show w.heap.size ≤ w1.heap.size by omega) _⟩
        · exact KeepsC.setCell WW (PathS.ne (w := w1) (by omega) (fun _ => hadb)) _ p u hp ((HCW.out p).trans hu)
        · rw [ixs_snoc, waitL_snoc, HV.out]
          exact HWS.out
        · have := HV3.out
          omega
        · have hb0 : ∀ u, Blk (WW.setCell ⟨w1.heap.size, 0, none⟩ u) w1.heap.size 3 #[u] := fun u => (show Blk WW w1.heap.size 3 #[.int .i64 v] by unfold Blk; rw [HHW.out]; exact HT.out).set_ 0 u
          first | (rw [show max v ((n - (l[x.1]'x.2).tok + (l[x.1]'x.2).rate - 1) / (l[x.1]'x.2).rate) = ((n - (l[x.1]'x.2).tok + (l[x.1]'x.2).rate - 1) / (l[x.1]'x.2).rate) by omega]; exact hb0 _) | (rw [show max v ((n - (l[x.1]'x.2).tok + (l[x.1]'x.2).rate - 1) / (l[x.1]'x.2).rate) = v by omega]; exact hb0 _)
        · exact (show Blk WW _ _ _ by unfold Blk; rw [HHW.out]; exact HBK.out).far (p := ⟨w1.heap.size, 0, none⟩) (by simp; omega) _
        · exact (show Blk WW _ _ _ by unfold Blk; rw [HHW.out]; exact HBN.out).far (p := ⟨w1.heap.size, 0, none⟩) (by simp; omega) _
        · exact (show Blk WW _ _ _ by unfold Blk; rw [HHW.out]; exact HBR.out).far (p := ⟨w1.heap.size, 0, none⟩) (by simp; omega) _
        · exact (show Blk WW _ _ _ by unfold Blk; rw [HHW.out]; exact HBE.out).far (p := ⟨w1.heap.size, 0, none⟩) (by simp; omega) _
        · intro i hi
          have hne : ∀ k, (⟨w1.heap.size, 0, none⟩ : Addr) ≠ ⟨(ad.add (i * 4)).block, k, none⟩ := fun k e => by
            have := congrArg Addr.block e
            rw [add_block] at this
            simp at this
            omega
          have h3 := HCC.out i hi
          exact ⟨(World.cell?_setCell_other _ _ _ _ (hne _)).trans ((HCW.out _).trans h3.1), (World.cell?_setCell_other _ _ _ _ (hne _)).trans ((HCW.out _).trans h3.2.1), (World.cell?_setCell_other _ _ _ _ (hne _)).trans ((HCW.out _).trans h3.2.2)⟩
    case done =>
      rintro D ys W hD hys ⟨⟨v, hv, hv2, hbt, hbk, hbn, hbr, hbe, hcc⟩, hb⟩ hK
      have t0 : W.cell? ⟨w1.heap.size, 0, none⟩ = some (.int .i64 v) := hbt.cell 0
      have b0 : W.cell? ⟨w.heap.size, 0, none⟩ = some (.int .i64 t) := hbk.cell 0
      have e0 : W.cell? ⟨w.heap.size + 1 + 1, 0, none⟩ = some (.int .i64 0) := hbr.cell 0
      have e1 : W.cell? ⟨w.heap.size + 1 + 1 + 1, 0, none⟩ = some (.int .i64 0) := hbe.cell 0
      have ze0 := hbr.frozen 0
      have ze1 := hbe.frozen 0
      have ht0 := HF.out.t0
      have ht1 := HF.out.t1
      have hv3 := hv2.1
      have hv4 := hv2.2
      rw [hys] at hv
      have HV := Lib.hid hv
      have HBR := Lib.hid hbr
      have HBE := Lib.hid hbe
      have HBB := Lib.hid hb
      have HKK := Lib.hid hK
      have HD := Lib.hid hD
      clear hv hys hbt hbk hbn hbr hbe hcc hb hK HCS HL1 HK HN HR HE HB n0 k0 k1 r0 r1 z0 z1 hv2 hD bT bL bK hbA
      have fin : ∀ (x y : Int), WhnPost w t l j n (.returned (.tuple #[.int .i64 x, .int .i64 y])) (((W.setCell ⟨w.heap.size + 1 + 1, 0, none⟩ (.int .i64 x)).setCell ⟨w.heap.size + 1 + 1 + 1, 0, none⟩ (.int .i64 y)).putObj D (.deferred none)) → ∀ a : Act, a.tmps[6]?.getD undef = .pointer (some ⟨w.heap.size + 1 + 1, 0, none⟩) → a.tmps[7]?.getD undef = .pointer (some ⟨w.heap.size + 1 + 1 + 1, 0, none⟩) → a.defers = [{ target := .collected D, args := #[] }] → endQ Try.prog Try.f23 (WhnPost w t l j n) .ret a ((W.setCell ⟨w.heap.size + 1 + 1, 0, none⟩ (.int .i64 x)).setCell ⟨w.heap.size + 1 + 1 + 1, 0, none⟩ (.int .i64 y)) := by
        intro x y hp a h6 h7 hd
        have hK3 := (KeepsOthers.setCell (W.setCell ⟨w.heap.size + 1 + 1, 0, none⟩ (.int .i64 x)) ⟨w.heap.size + 1 + 1 + 1, 0, none⟩ (.int .i64 y)).same D _ ((KeepsOthers.setCell W ⟨w.heap.size + 1 + 1, 0, none⟩ (.int .i64 x)).same D _ HKK.out rfl) rfl
        have hr3 := res2 (u := .int .i64 x) (v := .int .i64 y) HBR.out HBE.out
        have hg3 := grownBy_putObj' ((W.setCell ⟨w.heap.size + 1 + 1, 0, none⟩ (.int .i64 x)).setCell ⟨w.heap.size + 1 + 1 + 1, 0, none⟩ (.int .i64 y)) D (.deferred none)
        have hrow : ∀ r, some D = some r → ∃ o : Obj, ((W.setCell ⟨w.heap.size + 1 + 1, 0, none⟩ (.int .i64 x)).setCell ⟨w.heap.size + 1 + 1 + 1, 0, none⟩ (.int .i64 y)).heap[r]? = some o ∧ o.isCells = false := fun r e => by cases e; exact ⟨_, hK3, rfl⟩
        have q0 := (hr3.1.kept hg3 hrow).cell 0
        have q1 := (hr3.2.kept hg3 hrow).cell 0
        exact bodyM_mark hK3 hd (by simp [results, Try.results23, go_sem, h6, h7, q0, q1]) hp
      have bel : ∀ (x y : Int), Below w.heap.size w (((W.setCell ⟨w.heap.size + 1 + 1, 0, none⟩ (.int .i64 x)).setCell ⟨w.heap.size + 1 + 1 + 1, 0, none⟩ (.int .i64 y)).putObj D (.deferred none)) := by
        intro x y
        have hK3 := (KeepsOthers.setCell (W.setCell ⟨w.heap.size + 1 + 1, 0, none⟩ (.int .i64 x)) ⟨w.heap.size + 1 + 1 + 1, 0, none⟩ (.int .i64 y)).same D _ ((KeepsOthers.setCell W ⟨w.heap.size + 1 + 1, 0, none⟩ (.int .i64 x)).same D _ HKK.out rfl) rfl
        exact (below2 HBB.out (by omega) _ _).trans (belowK_b (w := w) (Nat.le_refl _) _ D _ _ (by have := HD.out; simp at this; omega) hK3 rfl rfl)
      have FIN := Lib.hid fin
      have BEL := Lib.hid bel
      clear fin bel
      by_cases h3 : 1073741824 < t + v
      · have E1 := Lib.hid (show whnE t l j n = 21 by unfold whnE; rw [if_pos HC.out, if_neg (by omega), HV.out]; exact if_pos h3)
        have hd1 : 1073741824 - t < v := by omega
        clear h3
        go_wp2
        exact FIN.out 0 21 (whn_err E1.out (by omega) (BEL.out 0 21)) _ rfl rfl rfl
      · have E1 := Lib.hid (show whnE t l j n = 0 by unfold whnE; rw [if_pos HC.out, if_neg (by omega), HV.out]; exact if_neg h3)
        have hd1 : v ≤ 1073741824 - t := by omega
        clear h3
        have hT : whnT t l j n = t + v := by unfold whnT; rw [E1.out, if_pos rfl, HV.out]; rfl
        have HT := Lib.hid hT
        clear hT
        go_wp2
        exact FIN.out (t + v) 0 ⟨by rw [HT.out, E1.out], BEL.out (t + v) 0⟩ _ rfl rfl rfl
    case stop =>
      rintro D cd pre W hD hpre ⟨⟨rfl, hv, hbr, hbe⟩, hb⟩ hK
      have e0 : W.cell? ⟨w.heap.size + 1 + 1, 0, none⟩ = some (.int .i64 0) := hbr.cell 0
      have e1 : W.cell? ⟨w.heap.size + 1 + 1 + 1, 0, none⟩ = some (.int .i64 21) := hbe.cell 0
      have hg3 := grownBy_putObj' W D (.deferred none)
      have hrow : ∀ r, some D = some r → ∃ o : Obj, W.heap[r]? = some o ∧ o.isCells = false := fun r e => by cases e; exact ⟨_, hK, rfl⟩
      have q0 := (hbr.kept hg3 hrow).cell 0
      have q1 := (hbe.kept hg3 hrow).cell 0
      have hnone : waitL l n (pathL l j) 0 = none := by
        obtain ⟨rest, hr⟩ := hpre
        rw [← hr, waitL_append, hv]; rfl
      have E1 := Lib.hid (show whnE t l j n = 21 by unfold whnE; rw [if_pos HC.out, if_neg (by omega), hnone])
      have hbel : Below w.heap.size w (W.putObj D (.deferred none)) := hb.trans (belowK_b (w := w) (Nat.le_refl _) W D _ _ (by simp at hD; omega) hK rfl rfl)
      have HBEL := Lib.hid hbel
      have HKK := Lib.hid hK
      clear hv hbr hbe hb hK hpre hg3 hrow hnone hbel
      go_wp2
      exact bodyM_mark (v := .tuple #[.int .i64 0, .int .i64 21]) HKK.out rfl (by simp [results, Try.results23, go_sem, q0, q1]) (whn_err E1.out (by omega) HBEL.out)
  · have hcb : (findE t l k != 0) = true := by simp [hc]
    have E1 := Lib.hid (show whnE t l k n = findE t l k by unfold whnE; rw [if_neg hc])
    have HC := Lib.hid hc
    clear hc
    go_wp2
    have hq := res2 (u := .int .i64 0) (v := .int .i64 (findE t l k)) HR.out HE.out
    have q0 := hq.1.cell 0
    have q1 := hq.2.cell 0
    exact bodyM_ret (v := .tuple #[.int .i64 0, .int .i64 (findE t l k)]) (by simp [results, Try.results23, go_sem, q0, q1]) rfl (whn_err E1.out HC.out (below2 HB.out (by omega) _ _))
end Go.Proofs.Ytlgahhfpdomdmaa

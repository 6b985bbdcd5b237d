/- The walk through the witness's Handle, at the messages that sites send. Conditions: a formed witness, small times, a known kind. -/
import Derived.Test.YtcdifegjlllbfaaWtG
set_option linter.unusedVariables false
set_option linter.unusedSimpArgs false
namespace Go.Proofs.Ytcdifegjlllbfaa
open Go.RowKit
def handR (r : Rq) : Rq := if r.m.ki = 15 then acqW r else if r.m.ki = 17 then renW r else relW r
def handA (r : Rq) : List Mg := if r.m.ki = 15 then acqA r else if r.m.ki = 17 then renA r else []
theorem at74 (args : Array Value) (W : World) : (callFunc 74 args).run Try.prog W = .ok (.enter 74 args) W := by kernel_rfl
theorem at75 (args : Array Value) (W : World) : (callFunc 75 args).run Try.prog W = .ok (.enter 75 args) W := by kernel_rfl
theorem at76 (args : Array Value) (W : World) : (callFunc 76 args).run Try.prog W = .ok (.enter 76 args) W := by kernel_rfl
set_option maxRecDepth 10000 in
set_option maxHeartbeats 2000000 in
theorem handle_any (r : Rq) (w : World) (hw : wiB r.w = true) (hn0 : 0 ≤ r.now) (hn1 : r.now ≤ 1000) (ht0 : 1 ≤ r.term) (ht1 : r.term ≤ 12) (hfr : stB r.m.fr = true) (hep : tmB r.m.ep = true) (hk : r.m.ki = 15 ∨ r.m.ki = 17 ∨ r.m.ki = 18) :
    Calls Try.prog 40 #[r.w.val, .int .i64 r.now, .int .i64 r.term, r.m.val] w fun e w' => ∃ A, e = .returned (.tuple #[(handR r).w.val, .slice A (handA r).length (handA r).length]) ∧ RdN (w.heap.size + 1) w' A (handA r) ∧ Below w.heap.size w w' := by
  have HWI : Hid (wiE r.w = 0) := Lib.hid (by unfold wiE; rw [hw]; rfl)
  have HNO : Hid (tmB r.now = true) := Lib.hid (by unfold tmB btw; simp; omega)
  have HTE : Hid (btw r.term 1 (1073741824 - r.now) = true) := Lib.hid (by unfold btw; simp; omega)
  have HFR := Lib.hid hfr
  have HEP := Lib.hid hep
  have HK := Lib.hid hk
  have hmm := @run_makeMap Try.prog
  clear hw hfr hep hk
  go_enter Try.func40, Try.ntmps40
  unfold Wi.val Mg.val
  go_wp2_with fail
  refine (wCheck_any r.w _).mono ?_
  rintro e w1 ⟨rfl, hb⟩
  have HN := Lib.hid (((((Known.start w).alloc 32 #[.int .i64 r.w.ep, .int .i64 r.w.ho, .int .i64 r.w.un]).alloc 85 #[.int .i64 r.m.ki, .int .i64 r.m.fr, .int .i64 r.m.to, .int .i64 r.m.nu, .int .i64 r.m.va, .int .i64 r.m.ep, .slice none 0 0, .slice none 0 0]).alloc 32 #[.int .i64 0, .int .i64 0, .int .i64 0]).below hb)
  have HA : Hid (Blk w1 w.heap.size 32 #[.int .i64 r.w.ep, .int .i64 r.w.ho, .int .i64 r.w.un]) := Lib.hid (HN.out.blk 2 rfl)
  have HM : Hid (Blk w1 (w.heap.size + 1) 85 #[.int .i64 r.m.ki, .int .i64 r.m.fr, .int .i64 r.m.to, .int .i64 r.m.nu, .int .i64 r.m.va, .int .i64 r.m.ep, .slice none 0 0, .slice none 0 0]) := Lib.hid (by have := HN.out.blk 1 rfl; simpa using this)
  have HR : Hid (Blk w1 (w.heap.size + 1 + 1) 32 #[.int .i64 0, .int .i64 0, .int .i64 0]) := Lib.hid (by have := HN.out.blk 0 rfl; simpa using this)
  have HW : Hid (Below w.heap.size w w1) := Lib.hid HN.out.low
  have n0 : w.heap.size < w1.heap.size := HA.out.lt
  have n1 : w.heap.size + 1 < w1.heap.size := HM.out.lt
  have n2 : w.heap.size + 1 + 1 < w1.heap.size := HR.out.lt
  have my0 := HM.out.frozen 0
  have my1 := HM.out.frozen 1
  have my2 := HM.out.frozen 2
  have my3 := HM.out.frozen 3
  have my4 := HM.out.frozen 4
  have my5 := HM.out.frozen 5
  have my6 := HM.out.frozen 6
  have my7 := HM.out.frozen 7
  have mx0 : w1.cell? ⟨w.heap.size + 1, 0, none⟩ = some (.int .i64 r.m.ki) := HM.out.cell 0
  have mx1 : w1.cell? ⟨w.heap.size + 1, 1, none⟩ = some (.int .i64 r.m.fr) := HM.out.cell 1
  have mx2 : w1.cell? ⟨w.heap.size + 1, 2, none⟩ = some (.int .i64 r.m.to) := HM.out.cell 2
  have mx3 : w1.cell? ⟨w.heap.size + 1, 3, none⟩ = some (.int .i64 r.m.nu) := HM.out.cell 3
  have mx4 : w1.cell? ⟨w.heap.size + 1, 4, none⟩ = some (.int .i64 r.m.va) := HM.out.cell 4
  have mx5 : w1.cell? ⟨w.heap.size + 1, 5, none⟩ = some (.int .i64 r.m.ep) := HM.out.cell 5
  have mx6 : w1.cell? ⟨w.heap.size + 1, 6, none⟩ = some (.slice none 0 0) := HM.out.cell 6
  have mx7 : w1.cell? ⟨w.heap.size + 1, 7, none⟩ = some (.slice none 0 0) := HM.out.cell 7
  have ly0 := HA.out.frozen 0
  have ly1 := HA.out.frozen 1
  have ly2 := HA.out.frozen 2
  have lx0 : w1.cell? ⟨w.heap.size, 0, none⟩ = some (.int .i64 r.w.ep) := HA.out.cell 0
  have lx1 : w1.cell? ⟨w.heap.size, 1, none⟩ = some (.int .i64 r.w.ho) := HA.out.cell 1
  have lx2 : w1.cell? ⟨w.heap.size, 2, none⟩ = some (.int .i64 r.w.un) := HA.out.cell 2
  clear hb HN
  rw [HWI.out]
  go_wp2_with fail
  refine (wtime_any _ _).mono ?_
  rintro e w2 ⟨rfl, rfl⟩
  rw [HNO.out]
  go_wp2_with fail
  refine (between_any _ _ _ _).mono ?_
  rintro e w2 ⟨rfl, rfl⟩
  rw [HTE.out]
  go_wp2_with fail
  refine (wsite_any _ _).mono ?_
  rintro e w2 ⟨rfl, rfl⟩
  rw [HFR.out]
  go_wp2_with fail
  refine (wtime_any _ _).mono ?_
  rintro e w2 ⟨rfl, rfl⟩
  rw [HEP.out]
  have HQ0 : Hid (Blk (w1.alloc (.cells r.cells 121)) w1.heap.size 121 r.cells) := Lib.hid (Blk.new w1 121 _)
  have hmap : ((w1.alloc (.cells r.cells 121)).alloc (.map #[] 0)).heap[w1.heap.size + 1]? = some (.map #[] 0) := by
    have := heap_alloc_new (w1.alloc (.cells r.cells 121)) (.map #[] 0)
    simpa using this
  obtain ⟨v1, v2, v3, i1, i2, i3, l1, l2, l3, hv, hvs⟩ := insert_three _ _ (.func (.func 74) #[.pointer (some ⟨w1.heap.size, 0, none⟩)] #[]) (.func (.func 75) #[.pointer (some ⟨w1.heap.size, 0, none⟩)] #[]) (.func (.func 76) #[.pointer (some ⟨w1.heap.size, 0, none⟩)] #[]) hmap
  have HV := Lib.hid hv
  have HVS := Lib.hid hvs
  clear hv hvs hmap
  unfold Rq.cells at i1
  have HVB : Hid (Below w1.heap.size w1 v3) := Lib.hid ((((Below.refl w1.heap.size w1).alloc (Nat.le_refl _) (.cells r.cells 121)).alloc (by simp) (.map #[] 0)).trans (HV.out.mono (Nat.le_succ _)))
  have HQ : Hid (Blk v3 w1.heap.size 121 r.cells) := Lib.hid ((HQ0.out.alloc (.map #[] 0)).below HV.out (Nat.lt_succ_self _))
  have HR3 : Hid (Blk v3 (w.heap.size + 1 + 1) 32 #[.int .i64 0, .int .i64 0, .int .i64 0]) := Lib.hid (HR.out.below HVB.out n2)
  have HW3 : Hid (Below w.heap.size w v3) := Lib.hid (HW.out.trans (HVB.out.mono (Nat.le_of_lt n0)))
  have z0 : v3.cell? ⟨w.heap.size + 1, 0, none⟩ = some (.int .i64 r.m.ki) := (HM.out.below HVB.out n1).cell 0
  rcases HK.out with h1 | h1 | h1
  · have H1 := Lib.hid h1
    rw [h1] at z0
    clear h1 l2 l3
    have hat := at74
    go_wp2_with fail
    refine (wacquire_any _ r _ HQ.out hn0 hn1 ht0 ht1).mono ?_
    rintro e v6 ⟨A, rfl, hr, hk, hb⟩
    have HRR := Lib.hid hr
    have HK6 : Hid (Blk v6 w1.heap.size 121 (acqW r).cells) := Lib.hid hk
    have HR6 : Hid (Blk v6 (w.heap.size + 1 + 1) 32 #[.int .i64 0, .int .i64 0, .int .i64 0]) := Lib.hid (HR3.out.below hb n2)
    have HW6 : Hid (Below w.heap.size w v6) := Lib.hid (HW3.out.trans (hb.mono (Nat.le_of_lt n0)))
    have HE : Hid (handR r = acqW r) := Lib.hid (by unfold handR; simp [H1.out])
    have HF : Hid (handA r = acqA r) := Lib.hid (by unfold handA; simp [H1.out])
    clear hr hk hb z0
    have q0 : v6.cell? ⟨w1.heap.size, 0, none⟩ = some (.int .i64 (acqW r).w.ep) := HK6.out.cell 0
    have q1 : v6.cell? ⟨w1.heap.size, 1, none⟩ = some (.int .i64 (acqW r).w.ho) := HK6.out.cell 1
    have q2 : v6.cell? ⟨w1.heap.size, 2, none⟩ = some (.int .i64 (acqW r).w.un) := HK6.out.cell 2
    have ry0 := HR6.out.frozen 0
    have ry1 := HR6.out.frozen 1
    have ry2 := HR6.out.frozen 2
    have rx0 : v6.cell? ⟨w.heap.size + 1 + 1, 0, none⟩ = some (.int .i64 0) := HR6.out.cell 0
    have rx1 : v6.cell? ⟨w.heap.size + 1 + 1, 1, none⟩ = some (.int .i64 0) := HR6.out.cell 1
    have rx2 : v6.cell? ⟨w.heap.size + 1 + 1, 2, none⟩ = some (.int .i64 0) := HR6.out.cell 2
    go_wp2
    rw [HE.out, HF.out]
    exact bodyPost_ret (v := .tuple #[.agg #[.int .i64 (acqW r).w.ep, .int .i64 (acqW r).w.ho, .int .i64 (acqW r).w.un], .slice A (acqA r).length (acqA r).length]) (by simp [results, Try.results40, go_sem, rx0, rx1, rx2]) rfl ⟨A, rfl, (((HRR.out.far (Nat.lt_succ_of_lt n2) _).far (Nat.lt_succ_of_lt n2) _).far (Nat.lt_succ_of_lt n2) _).low (by omega), below_set3 HW6.out (Nat.le_add_right _ 2) _ _ _⟩
  · have H1 := Lib.hid h1
    rw [h1] at z0
    clear h1 l1 l3
    have hat := at75
    go_wp2_with fail
    refine (wrenew_any _ r _ HQ.out hn0 hn1 ht0 ht1).mono ?_
    rintro e v6 ⟨A, rfl, hr, hk, hb⟩
    have HRR := Lib.hid hr
    have HK6 : Hid (Blk v6 w1.heap.size 121 (renW r).cells) := Lib.hid hk
    have HR6 : Hid (Blk v6 (w.heap.size + 1 + 1) 32 #[.int .i64 0, .int .i64 0, .int .i64 0]) := Lib.hid (HR3.out.below hb n2)
    have HW6 : Hid (Below w.heap.size w v6) := Lib.hid (HW3.out.trans (hb.mono (Nat.le_of_lt n0)))
    have HE : Hid (handR r = renW r) := Lib.hid (by unfold handR; simp [H1.out])
    have HF : Hid (handA r = renA r) := Lib.hid (by unfold handA; simp [H1.out])
    clear hr hk hb z0
    have q0 : v6.cell? ⟨w1.heap.size, 0, none⟩ = some (.int .i64 (renW r).w.ep) := HK6.out.cell 0
    have q1 : v6.cell? ⟨w1.heap.size, 1, none⟩ = some (.int .i64 (renW r).w.ho) := HK6.out.cell 1
    have q2 : v6.cell? ⟨w1.heap.size, 2, none⟩ = some (.int .i64 (renW r).w.un) := HK6.out.cell 2
    have ry0 := HR6.out.frozen 0
    have ry1 := HR6.out.frozen 1
    have ry2 := HR6.out.frozen 2
    have rx0 : v6.cell? ⟨w.heap.size + 1 + 1, 0, none⟩ = some (.int .i64 0) := HR6.out.cell 0
    have rx1 : v6.cell? ⟨w.heap.size + 1 + 1, 1, none⟩ = some (.int .i64 0) := HR6.out.cell 1
    have rx2 : v6.cell? ⟨w.heap.size + 1 + 1, 2, none⟩ = some (.int .i64 0) := HR6.out.cell 2
    go_wp2
    rw [HE.out, HF.out]
    exact bodyPost_ret (v := .tuple #[.agg #[.int .i64 (renW r).w.ep, .int .i64 (renW r).w.ho, .int .i64 (renW r).w.un], .slice A (renA r).length (renA r).length]) (by simp [results, Try.results40, go_sem, rx0, rx1, rx2]) rfl ⟨A, rfl, (((HRR.out.far (Nat.lt_succ_of_lt n2) _).far (Nat.lt_succ_of_lt n2) _).far (Nat.lt_succ_of_lt n2) _).low (by omega), below_set3 HW6.out (Nat.le_add_right _ 2) _ _ _⟩
  · have H1 := Lib.hid h1
    rw [h1] at z0
    clear h1 l1 l2
    have hat := at76
    go_wp2_with fail
    refine (wrelease_any _ r _ HQ.out).mono ?_
    rintro e v6 ⟨rfl, hk, hb⟩
    have HK6 : Hid (Blk v6 w1.heap.size 121 (relW r).cells) := Lib.hid hk
    have HR6 : Hid (Blk v6 (w.heap.size + 1 + 1) 32 #[.int .i64 0, .int .i64 0, .int .i64 0]) := Lib.hid (HR3.out.below hb n2)
    have HW6 : Hid (Below w.heap.size w v6) := Lib.hid (HW3.out.trans (hb.mono (Nat.le_of_lt n0)))
    have HE : Hid (handR r = relW r) := Lib.hid (by unfold handR; simp [H1.out])
    have HF : Hid (handA r = ([] : List Mg)) := Lib.hid (by unfold handA; simp [H1.out])
    clear hk hb z0
    have q0 : v6.cell? ⟨w1.heap.size, 0, none⟩ = some (.int .i64 (relW r).w.ep) := HK6.out.cell 0
    have q1 : v6.cell? ⟨w1.heap.size, 1, none⟩ = some (.int .i64 (relW r).w.ho) := HK6.out.cell 1
    have q2 : v6.cell? ⟨w1.heap.size, 2, none⟩ = some (.int .i64 (relW r).w.un) := HK6.out.cell 2
    have ry0 := HR6.out.frozen 0
    have ry1 := HR6.out.frozen 1
    have ry2 := HR6.out.frozen 2
    have rx0 : v6.cell? ⟨w.heap.size + 1 + 1, 0, none⟩ = some (.int .i64 0) := HR6.out.cell 0
    have rx1 : v6.cell? ⟨w.heap.size + 1 + 1, 1, none⟩ = some (.int .i64 0) := HR6.out.cell 1
    have rx2 : v6.cell? ⟨w.heap.size + 1 + 1, 2, none⟩ = some (.int .i64 0) := HR6.out.cell 2
    go_wp2
    rw [HE.out, HF.out]
    exact bodyPost_ret (v := .tuple #[.agg #[.int .i64 (relW r).w.ep, .int .i64 (relW r).w.ho, .int .i64 (relW r).w.un], .slice none 0 0]) (by simp [results, Try.results40, go_sem, rx0, rx1, rx2]) rfl ⟨none, rfl, ⟨RdL.nil _ _ _, fun a e => by cases e⟩, below_set3 HW6.out (Nat.le_add_right _ 2) _ _ _⟩
end Go.Proofs.Ytcdifegjlllbfaa

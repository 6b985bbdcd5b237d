/- The walk through the witness's Learn, at messages that the witness sends. Conditions: a formed lease, small times, a grant of the term or a refusal. -/
import Derived.Test.YtcdifegjlllbfaaWtB
set_option linter.unusedVariables false
set_option linter.unusedSimpArgs false
namespace Go.Proofs.Ytcdifegjlllbfaa
open Go.RowKit
def untilOf (sent term margin : Int) : Int := max (sent + term - margin) 0
def learnL (l : Le) (sent term margin : Int) (m : Mg) : Le :=
  if m.ki = 16 then (if l.ep < m.ep then ⟨l.si, m.ep, untilOf sent term margin⟩ else if m.ep = l.ep then ⟨l.si, l.ep, max l.un (untilOf sent term margin)⟩ else l)
  else if l.ep < m.ep then ⟨l.si, l.ep, 0⟩ else l
theorem tmB_of {n : Int} (h0 : 0 ≤ n) (h1 : n ≤ 1073741824) : tmB n = true := by unfold tmB btw; simp [h0, h1]
set_option maxHeartbeats 2000000 in
theorem learn_any (l : Le) (sent term margin : Int) (m : Mg) (w : World) (hl : leB l = true) (hs0 : 0 ≤ sent) (hs1 : sent ≤ 1000) (ht0 : 1 ≤ term) (ht1 : term ≤ 12) (hm0 : 0 ≤ margin) (hm1 : margin ≤ 3) (hto : m.to = l.si) (hep : tmB m.ep = true) (hk : m.ki = 16 ∧ m.va = term ∨ m.ki = 12 ∧ m.va = 0) :
    Calls Try.prog 77 #[l.val, .int .i64 sent, .int .i64 term, .int .i64 margin, m.val] w fun e w' => e = .returned (learnL l sent term margin m).val ∧ Below w.heap.size w w' := by
  have HL := Lib.hid hl
  have HS : Hid (tmB sent = true) := Lib.hid (tmB_of hs0 (by omega))
  have HT : Hid (tmB term = true) := Lib.hid (tmB_of (by omega) (by omega))
  have HG : Hid (tmB margin = true) := Lib.hid (tmB_of (by omega) (by omega))
  have HTO := Lib.hid hto
  have HEP := Lib.hid hep
  have HK := Lib.hid hk
  have hne : (m.to != l.si) = false := by rw [hto]; simp
  clear hl hto hep hk
  go_enter Try.func77, Try.ntmps77
  unfold Le.val Mg.val
  go_wp2_with fail
  refine (formed_any l _).mono ?_
  rintro e w1 ⟨rfl, hb⟩
  have HN := Lib.hid (((((Known.start w).alloc 41 #[.int .i64 l.si, .int .i64 l.ep, .int .i64 l.un]).alloc 85 #[.int .i64 m.ki, .int .i64 m.fr, .int .i64 m.to, .int .i64 m.nu, .int .i64 m.va, .int .i64 m.ep, .slice none 0 0, .slice none 0 0]).alloc 41 #[.int .i64 0, .int .i64 0, .int .i64 0]).below hb)
  have HA : Hid (Blk w1 w.heap.size 41 #[.int .i64 l.si, .int .i64 l.ep, .int .i64 l.un]) := Lib.hid (HN.out.blk 2 rfl)
  have HM : Hid (Blk w1 (w.heap.size + 1) 85 #[.int .i64 m.ki, .int .i64 m.fr, .int .i64 m.to, .int .i64 m.nu, .int .i64 m.va, .int .i64 m.ep, .slice none 0 0, .slice none 0 0]) := Lib.hid (by have := HN.out.blk 1 rfl; simpa using this)
  have HR : Hid (Blk w1 (w.heap.size + 1 + 1) 41 #[.int .i64 0, .int .i64 0, .int .i64 0]) := Lib.hid (by have := HN.out.blk 0 rfl; simpa using this)
  have HW : Hid (Below w.heap.size w w1) := Lib.hid HN.out.low
  have my0 := HM.out.frozen 0
  have my1 := HM.out.frozen 1
  have my2 := HM.out.frozen 2
  have my3 := HM.out.frozen 3
  have my4 := HM.out.frozen 4
  have my5 := HM.out.frozen 5
  have my6 := HM.out.frozen 6
  have my7 := HM.out.frozen 7
  have mx0 : w1.cell? ⟨w.heap.size + 1, 0, none⟩ = some (.int .i64 m.ki) := HM.out.cell 0
  have mx1 : w1.cell? ⟨w.heap.size + 1, 1, none⟩ = some (.int .i64 m.fr) := HM.out.cell 1
  have mx2 : w1.cell? ⟨w.heap.size + 1, 2, none⟩ = some (.int .i64 m.to) := HM.out.cell 2
  have mx3 : w1.cell? ⟨w.heap.size + 1, 3, none⟩ = some (.int .i64 m.nu) := HM.out.cell 3
  have mx4 : w1.cell? ⟨w.heap.size + 1, 4, none⟩ = some (.int .i64 m.va) := HM.out.cell 4
  have mx5 : w1.cell? ⟨w.heap.size + 1, 5, none⟩ = some (.int .i64 m.ep) := HM.out.cell 5
  have mx6 : w1.cell? ⟨w.heap.size + 1, 6, none⟩ = some (.slice none 0 0) := HM.out.cell 6
  have mx7 : w1.cell? ⟨w.heap.size + 1, 7, none⟩ = some (.slice none 0 0) := HM.out.cell 7
  have ry0 := HR.out.frozen 0
  have ry1 := HR.out.frozen 1
  have ry2 := HR.out.frozen 2
  have rx0 : w1.cell? ⟨w.heap.size + 1 + 1, 0, none⟩ = some (.int .i64 0) := HR.out.cell 0
  have rx1 : w1.cell? ⟨w.heap.size + 1 + 1, 1, none⟩ = some (.int .i64 0) := HR.out.cell 1
  have rx2 : w1.cell? ⟨w.heap.size + 1 + 1, 2, none⟩ = some (.int .i64 0) := HR.out.cell 2
  have ly0 := HA.out.frozen 0
  have ly1 := HA.out.frozen 1
  have ly2 := HA.out.frozen 2
  have lx0 : w1.cell? ⟨w.heap.size, 0, none⟩ = some (.int .i64 l.si) := HA.out.cell 0
  have lx1 : w1.cell? ⟨w.heap.size, 1, none⟩ = some (.int .i64 l.ep) := HA.out.cell 1
  have lx2 : w1.cell? ⟨w.heap.size, 2, none⟩ = some (.int .i64 l.un) := HA.out.cell 2
  clear hb HN
  rw [HL.out]
  go_wp2_with fail
  refine (wtime_any _ _).mono ?_
  rintro e w2 ⟨rfl, rfl⟩
  rw [HS.out]
  go_wp2_with fail
  refine (wtime_any _ _).mono ?_
  rintro e w2 ⟨rfl, rfl⟩
  rw [HT.out]
  go_wp2_with fail
  refine (wtime_any _ _).mono ?_
  rintro e w2 ⟨rfl, rfl⟩
  rw [HG.out]
  go_wp2_with fail
  refine (wtime_any _ _).mono ?_
  rintro e w2 ⟨rfl, rfl⟩
  rw [HEP.out]
  rcases HK.out with ⟨h1, h2⟩ | ⟨h1, h2⟩
  · have H1 := Lib.hid h1
    rw [h1] at mx0
    rw [h2] at mx4
    clear h1 h2 HK
    by_cases h4 : 0 ≤ sent + term - margin
    · have HU : Hid (untilOf sent term margin = sent + term - margin) := Lib.hid (by unfold untilOf; omega)
      by_cases h3 : l.ep < m.ep
      · have HF : Hid (learnL l sent term margin m = ⟨l.si, m.ep, sent + term - margin⟩) := Lib.hid (by unfold learnL; rw [if_pos H1.out, if_pos h3, HU.out])
        go_wp2_with fail
        all_goals first | (exfalso; omega) | exact bodyPost_ret (v := .agg #[.int .i64 (l.si), .int .i64 (m.ep), .int .i64 (sent + term - margin)]) (by simp [results, Try.results77, go_sem, rx0, rx1, rx2]) rfl ⟨by rw [HF.out], below_set3 ((HW.out.setCell (Nat.le_refl _) _).setCell (Nat.le_refl _) _) (Nat.le_add_right _ 2) _ _ _⟩
      · by_cases h5 : m.ep = l.ep
        · have hbe : (m.ep == l.ep) = true := by simp [h5]
          have H5 := Lib.hid h5
          clear h5
          by_cases h6 : l.un < sent + term - margin
          · have HF : Hid (learnL l sent term margin m = ⟨l.si, l.ep, sent + term - margin⟩) := Lib.hid (by unfold learnL; rw [if_pos H1.out, if_neg h3, if_pos H5.out, HU.out, Int.max_eq_right (by omega)])
            go_wp2_with fail
            all_goals first | (exfalso; omega) | exact bodyPost_ret (v := .agg #[.int .i64 (l.si), .int .i64 (l.ep), .int .i64 (sent + term - margin)]) (by simp [results, Try.results77, go_sem, rx0, rx1, rx2]) rfl ⟨by rw [HF.out], below_set3 (HW.out.setCell (Nat.le_refl _) _) (Nat.le_add_right _ 2) _ _ _⟩
          · have HF : Hid (learnL l sent term margin m = ⟨l.si, l.ep, l.un⟩) := Lib.hid (by unfold learnL; rw [if_pos H1.out, if_neg h3, if_pos H5.out, HU.out, Int.max_eq_left (by omega)])
            go_wp2_with fail
            all_goals first | (exfalso; omega) | exact bodyPost_ret (v := .agg #[.int .i64 (l.si), .int .i64 (l.ep), .int .i64 (l.un)]) (by simp [results, Try.results77, go_sem, rx0, rx1, rx2]) rfl ⟨by rw [HF.out], below_set3 (HW.out.setCell (Nat.le_refl _) _) (Nat.le_add_right _ 2) _ _ _⟩
        · have hbe : (m.ep == l.ep) = false := by simp [h5]
          have H5 := Lib.hid h5
          clear h5
          have HF : Hid (learnL l sent term margin m = ⟨l.si, l.ep, l.un⟩) := Lib.hid (by unfold learnL; rw [if_pos H1.out, if_neg h3, if_neg H5.out])
          go_wp2_with fail
          all_goals first | (exfalso; omega) | exact bodyPost_ret (v := .agg #[.int .i64 (l.si), .int .i64 (l.ep), .int .i64 (l.un)]) (by simp [results, Try.results77, go_sem, rx0, rx1, rx2]) rfl ⟨by rw [HF.out], below_set3 HW.out (Nat.le_add_right _ 2) _ _ _⟩
    · have HU : Hid (untilOf sent term margin = 0) := Lib.hid (by unfold untilOf; omega)
      by_cases h3 : l.ep < m.ep
      · have HF : Hid (learnL l sent term margin m = ⟨l.si, m.ep, 0⟩) := Lib.hid (by unfold learnL; rw [if_pos H1.out, if_pos h3, HU.out])
        go_wp2_with fail
        all_goals first | (exfalso; omega) | exact bodyPost_ret (v := .agg #[.int .i64 (l.si), .int .i64 (m.ep), .int .i64 (0)]) (by simp [results, Try.results77, go_sem, rx0, rx1, rx2]) rfl ⟨by rw [HF.out], below_set3 ((HW.out.setCell (Nat.le_refl _) _).setCell (Nat.le_refl _) _) (Nat.le_add_right _ 2) _ _ _⟩
      · by_cases h5 : m.ep = l.ep
        · have hbe : (m.ep == l.ep) = true := by simp [h5]
          have H5 := Lib.hid h5
          clear h5
          by_cases h6 : l.un < 0
          · have HF : Hid (learnL l sent term margin m = ⟨l.si, l.ep, 0⟩) := Lib.hid (by unfold learnL; rw [if_pos H1.out, if_neg h3, if_pos H5.out, HU.out, Int.max_eq_right (by omega)])
            go_wp2_with fail
            all_goals first | (exfalso; omega) | exact bodyPost_ret (v := .agg #[.int .i64 (l.si), .int .i64 (l.ep), .int .i64 (0)]) (by simp [results, Try.results77, go_sem, rx0, rx1, rx2]) rfl ⟨by rw [HF.out], below_set3 (HW.out.setCell (Nat.le_refl _) _) (Nat.le_add_right _ 2) _ _ _⟩
          · have HF : Hid (learnL l sent term margin m = ⟨l.si, l.ep, l.un⟩) := Lib.hid (by unfold learnL; rw [if_pos H1.out, if_neg h3, if_pos H5.out, HU.out, Int.max_eq_left (by omega)])
            go_wp2_with fail
            all_goals first | (exfalso; omega) | exact bodyPost_ret (v := .agg #[.int .i64 (l.si), .int .i64 (l.ep), .int .i64 (l.un)]) (by simp [results, Try.results77, go_sem, rx0, rx1, rx2]) rfl ⟨by rw [HF.out], below_set3 (HW.out.setCell (Nat.le_refl _) _) (Nat.le_add_right _ 2) _ _ _⟩
        · have hbe : (m.ep == l.ep) = false := by simp [h5]
          have H5 := Lib.hid h5
          clear h5
          have HF : Hid (learnL l sent term margin m = ⟨l.si, l.ep, l.un⟩) := Lib.hid (by unfold learnL; rw [if_pos H1.out, if_neg h3, if_neg H5.out])
          go_wp2_with fail
          all_goals first | (exfalso; omega) | exact bodyPost_ret (v := .agg #[.int .i64 (l.si), .int .i64 (l.ep), .int .i64 (l.un)]) (by simp [results, Try.results77, go_sem, rx0, rx1, rx2]) rfl ⟨by rw [HF.out], below_set3 HW.out (Nat.le_add_right _ 2) _ _ _⟩
  · have H1 : Hid (m.ki ≠ 16) := Lib.hid (by rw [h1]; decide)
    rw [h1] at mx0
    rw [h2] at mx4
    clear h1 h2 HK
    by_cases h4 : 0 ≤ sent - margin
    · by_cases h3 : l.ep < m.ep
      · have HF : Hid (learnL l sent term margin m = ⟨l.si, l.ep, 0⟩) := Lib.hid (by unfold learnL; rw [if_neg H1.out, if_pos h3])
        go_wp2_with fail
        all_goals first | (exfalso; omega) | exact bodyPost_ret (v := .agg #[.int .i64 (l.si), .int .i64 (l.ep), .int .i64 (0)]) (by simp [results, Try.results77, go_sem, rx0, rx1, rx2]) rfl ⟨by rw [HF.out], below_set3 (HW.out.setCell (Nat.le_refl _) _) (Nat.le_add_right _ 2) _ _ _⟩
      · have HF : Hid (learnL l sent term margin m = ⟨l.si, l.ep, l.un⟩) := Lib.hid (by unfold learnL; rw [if_neg H1.out, if_neg h3])
        go_wp2_with fail
        all_goals first | (exfalso; omega) | exact bodyPost_ret (v := .agg #[.int .i64 (l.si), .int .i64 (l.ep), .int .i64 (l.un)]) (by simp [results, Try.results77, go_sem, rx0, rx1, rx2]) rfl ⟨by rw [HF.out], below_set3 HW.out (Nat.le_add_right _ 2) _ _ _⟩
    · by_cases h3 : l.ep < m.ep
      · have HF : Hid (learnL l sent term margin m = ⟨l.si, l.ep, 0⟩) := Lib.hid (by unfold learnL; rw [if_neg H1.out, if_pos h3])
        go_wp2_with fail
        all_goals first | (exfalso; omega) | exact bodyPost_ret (v := .agg #[.int .i64 (l.si), .int .i64 (l.ep), .int .i64 (0)]) (by simp [results, Try.results77, go_sem, rx0, rx1, rx2]) rfl ⟨by rw [HF.out], below_set3 (HW.out.setCell (Nat.le_refl _) _) (Nat.le_add_right _ 2) _ _ _⟩
      · have HF : Hid (learnL l sent term margin m = ⟨l.si, l.ep, l.un⟩) := Lib.hid (by unfold learnL; rw [if_neg H1.out, if_neg h3])
        go_wp2_with fail
        all_goals first | (exfalso; omega) | exact bodyPost_ret (v := .agg #[.int .i64 (l.si), .int .i64 (l.ep), .int .i64 (l.un)]) (by simp [results, Try.results77, go_sem, rx0, rx1, rx2]) rfl ⟨by rw [HF.out], below_set3 HW.out (Nat.le_add_right _ 2) _ _ _⟩

end Go.Proofs.Ytcdifegjlllbfaa

/- The walks through the witness's Ask, Renew and GiveUp. No condition. -/
import Derived.Test.YtcdifegjlllbfaaWtA
set_option linter.unusedVariables false
set_option linter.unusedSimpArgs false
namespace Go.Proofs.Ytcdifegjlllbfaa
open Go.RowKit
/-- A message. -/
structure Mg where
  ki : Int
  fr : Int
  to : Int
  nu : Int
  va : Int
  ep : Int
def Mg.cells (m : Mg) : Array Value := #[.int .i64 m.ki, .int .i64 m.fr, .int .i64 m.to, .int .i64 m.nu, .int .i64 m.va, .int .i64 m.ep, .slice none 0 0, .slice none 0 0]
def Mg.val (m : Mg) : Value := .agg #[.int .i64 m.ki, .int .i64 m.fr, .int .i64 m.to, .int .i64 m.nu, .int .i64 m.va, .int .i64 m.ep, .slice none 0 0, .slice none 0 0]
def mg0 : Mg := ⟨0, 0, 0, 0, 0, 0⟩
def askE (l : Le) (n : Int) : Int := if leB l then (if btw n 1 1073741824 then (if n < l.ep then 13 else 0) else 2) else 3
def askM (l : Le) (n : Int) : Mg := if askE l n = 0 then ⟨15, l.si, 4, 0, 0, n⟩ else mg0
def renE (l : Le) : Int := if leB l then (if l.un = 0 then 12 else 0) else 3
def renM (l : Le) : Mg := if renE l = 0 then ⟨17, l.si, 4, 0, 0, l.ep⟩ else mg0
def givL (l : Le) : Le := if leB l then ⟨l.si, min (l.ep + 1) 1073741824, 0⟩ else l
def givM (l : Le) : Mg := if leB l then ⟨18, l.si, 4, 0, 0, l.ep⟩ else mg0
theorem below_set8 {B g : Nat} {w w1 : World} (h : Below B w w1) (hg : B ≤ g) (a0 a1 a2 a3 a4 a5 a6 a7 : Value) : Below B w ((((((((w1.setCell ⟨g, 0, none⟩ a0).setCell ⟨g, 1, none⟩ a1).setCell ⟨g, 2, none⟩ a2).setCell ⟨g, 3, none⟩ a3).setCell ⟨g, 4, none⟩ a4).setCell ⟨g, 5, none⟩ a5).setCell ⟨g, 6, none⟩ a6).setCell ⟨g, 7, none⟩ a7) :=
  (((((((h.setCell hg a0).setCell hg a1).setCell hg a2).setCell hg a3).setCell hg a4).setCell hg a5).setCell hg a6).setCell hg a7
theorem below_set3 {B g : Nat} {w w1 : World} (h : Below B w w1) (hg : B ≤ g) (a0 a1 a2 : Value) : Below B w (((w1.setCell ⟨g, 0, none⟩ a0).setCell ⟨g, 1, none⟩ a1).setCell ⟨g, 2, none⟩ a2) :=
  ((h.setCell hg a0).setCell hg a1).setCell hg a2
set_option maxHeartbeats 1000000 in
theorem ask_any (l : Le) (n : Int) (w : World) : Calls Try.prog 36 #[l.val, .int .i64 n] w fun e w' => e = .returned (.tuple #[(askM l n).val, .int .i64 (askE l n)]) ∧ Below w.heap.size w w' := by
  have HD : Hid (askE l n = if leB l then (if btw n 1 1073741824 then (if n < l.ep then 13 else 0) else 2) else 3) := Lib.hid rfl
  go_enter Try.func36, Try.ntmps36
  unfold Le.val
  go_wp2_with fail
  refine (formed_any l _).mono ?_
  rintro e w1 ⟨rfl, hb⟩
  have HK := Lib.hid ((((Known.start w).alloc 41 #[.int .i64 l.si, .int .i64 l.ep, .int .i64 l.un]).alloc 85 #[.int .i64 0, .int .i64 0, .int .i64 0, .int .i64 0, .int .i64 0, .int .i64 0, .slice none 0 0, .slice none 0 0]).below hb)
  have c0 : w1.cell? ⟨w.heap.size, 0, none⟩ = some (.int .i64 l.si) := (HK.out.blk 1 rfl).cell 0
  have c1 : w1.cell? ⟨w.heap.size, 1, none⟩ = some (.int .i64 l.ep) := (HK.out.blk 1 rfl).cell 1
  have HM : Hid (Blk w1 (w.heap.size + 1) 85 #[.int .i64 0, .int .i64 0, .int .i64 0, .int .i64 0, .int .i64 0, .int .i64 0, .slice none 0 0, .slice none 0 0]) := Lib.hid (by have := HK.out.blk 0 rfl; simpa using this)
  have HW : Hid (Below w.heap.size w w1) := Lib.hid HK.out.low
  have y0 := HM.out.frozen 0
  have y1 := HM.out.frozen 1
  have y2 := HM.out.frozen 2
  have y3 := HM.out.frozen 3
  have y4 := HM.out.frozen 4
  have y5 := HM.out.frozen 5
  have y6 := HM.out.frozen 6
  have y7 := HM.out.frozen 7
  have x0 : w1.cell? ⟨w.heap.size + 1, 0, none⟩ = some (.int .i64 0) := HM.out.cell 0
  have x1 : w1.cell? ⟨w.heap.size + 1, 1, none⟩ = some (.int .i64 0) := HM.out.cell 1
  have x2 : w1.cell? ⟨w.heap.size + 1, 2, none⟩ = some (.int .i64 0) := HM.out.cell 2
  have x3 : w1.cell? ⟨w.heap.size + 1, 3, none⟩ = some (.int .i64 0) := HM.out.cell 3
  have x4 : w1.cell? ⟨w.heap.size + 1, 4, none⟩ = some (.int .i64 0) := HM.out.cell 4
  have x5 : w1.cell? ⟨w.heap.size + 1, 5, none⟩ = some (.int .i64 0) := HM.out.cell 5
  have x6 : w1.cell? ⟨w.heap.size + 1, 6, none⟩ = some (.slice none 0 0) := HM.out.cell 6
  have x7 : w1.cell? ⟨w.heap.size + 1, 7, none⟩ = some (.slice none 0 0) := HM.out.cell 7
  clear hb
  obtain ⟨b, hb⟩ : ∃ b, b = leB l := ⟨_, rfl⟩
  rw [← hb] at HD ⊢
  clear hb
  cases b
  · have HE : Hid (askE l n = 3) := Lib.hid (by rw [HD.out]; rfl)
    have HF : Hid (askM l n = mg0) := Lib.hid (by unfold askM; rw [HE.out]; rfl)
    go_wp2_with fail
    rw [HF.out, HE.out]
    exact bodyPost_ret (v := .tuple #[.agg #[.int .i64 0, .int .i64 0, .int .i64 0, .int .i64 0, .int .i64 0, .int .i64 0, .slice none 0 0, .slice none 0 0], .int .i64 3]) (by simp [results, Try.results36, go_sem, x0, x1, x2, x3, x4, x5, x6, x7]) rfl ⟨rfl, below_set8 HW.out (Nat.le_succ _) _ _ _ _ _ _ _ _⟩
  · go_wp2_with fail
    refine (between_any _ _ _ _).mono ?_
    rintro e w2 ⟨rfl, rfl⟩
    obtain ⟨b, hb⟩ : ∃ b, b = btw n 1 1073741824 := ⟨_, rfl⟩
    rw [← hb] at HD ⊢
    clear hb
    cases b
    · have HE : Hid (askE l n = 2) := Lib.hid (by rw [HD.out]; rfl)
      have HF : Hid (askM l n = mg0) := Lib.hid (by unfold askM; rw [HE.out]; rfl)
      go_wp2_with fail
      rw [HF.out, HE.out]
      exact bodyPost_ret (v := .tuple #[.agg #[.int .i64 0, .int .i64 0, .int .i64 0, .int .i64 0, .int .i64 0, .int .i64 0, .slice none 0 0, .slice none 0 0], .int .i64 2]) (by simp [results, Try.results36, go_sem, x0, x1, x2, x3, x4, x5, x6, x7]) rfl ⟨rfl, below_set8 HW.out (Nat.le_succ _) _ _ _ _ _ _ _ _⟩
    · by_cases h : n < l.ep
      · have HE : Hid (askE l n = 13) := Lib.hid (by rw [HD.out]; simp [h])
        have HF : Hid (askM l n = mg0) := Lib.hid (by unfold askM; rw [HE.out]; rfl)
        go_wp2_with fail
        rw [HF.out, HE.out]
        exact bodyPost_ret (v := .tuple #[.agg #[.int .i64 0, .int .i64 0, .int .i64 0, .int .i64 0, .int .i64 0, .int .i64 0, .slice none 0 0, .slice none 0 0], .int .i64 13]) (by simp [results, Try.results36, go_sem, x0, x1, x2, x3, x4, x5, x6, x7]) rfl ⟨rfl, below_set8 HW.out (Nat.le_succ _) _ _ _ _ _ _ _ _⟩
      · have HE : Hid (askE l n = 0) := Lib.hid (by rw [HD.out]; simp [h])
        have HF : Hid (askM l n = ⟨15, l.si, 4, 0, 0, n⟩) := Lib.hid (by unfold askM; rw [HE.out]; rfl)
        go_wp2_with fail
        rw [HF.out, HE.out]
        exact bodyPost_ret (v := .tuple #[.agg #[.int .i64 15, .int .i64 l.si, .int .i64 4, .int .i64 0, .int .i64 0, .int .i64 n, .slice none 0 0, .slice none 0 0], .int .i64 0]) (by simp [results, Try.results36, go_sem, x0, x1, x2, x3, x4, x5, x6, x7]) rfl ⟨rfl, below_set8 HW.out (Nat.le_succ _) _ _ _ _ _ _ _ _⟩
set_option maxHeartbeats 1000000 in
theorem renew_any (l : Le) (w : World) : Calls Try.prog 38 #[l.val] w fun e w' => e = .returned (.tuple #[(renM l).val, .int .i64 (renE l)]) ∧ Below w.heap.size w w' := by
  have HD : Hid (renE l = if leB l then (if l.un = 0 then 12 else 0) else 3) := Lib.hid rfl
  go_enter Try.func38, Try.ntmps38
  unfold Le.val
  go_wp2_with fail
  refine (formed_any l _).mono ?_
  rintro e w1 ⟨rfl, hb⟩
  have HK := Lib.hid ((((Known.start w).alloc 41 #[.int .i64 l.si, .int .i64 l.ep, .int .i64 l.un]).alloc 85 #[.int .i64 0, .int .i64 0, .int .i64 0, .int .i64 0, .int .i64 0, .int .i64 0, .slice none 0 0, .slice none 0 0]).below hb)
  have c0 : w1.cell? ⟨w.heap.size, 0, none⟩ = some (.int .i64 l.si) := (HK.out.blk 1 rfl).cell 0
  have c1 : w1.cell? ⟨w.heap.size, 1, none⟩ = some (.int .i64 l.ep) := (HK.out.blk 1 rfl).cell 1
  have c2 : w1.cell? ⟨w.heap.size, 2, none⟩ = some (.int .i64 l.un) := (HK.out.blk 1 rfl).cell 2
  have HM : Hid (Blk w1 (w.heap.size + 1) 85 #[.int .i64 0, .int .i64 0, .int .i64 0, .int .i64 0, .int .i64 0, .int .i64 0, .slice none 0 0, .slice none 0 0]) := Lib.hid (by have := HK.out.blk 0 rfl; simpa using this)
  have HW : Hid (Below w.heap.size w w1) := Lib.hid HK.out.low
  have y0 := HM.out.frozen 0
  have y1 := HM.out.frozen 1
  have y2 := HM.out.frozen 2
  have y3 := HM.out.frozen 3
  have y4 := HM.out.frozen 4
  have y5 := HM.out.frozen 5
  have y6 := HM.out.frozen 6
  have y7 := HM.out.frozen 7
  have x0 : w1.cell? ⟨w.heap.size + 1, 0, none⟩ = some (.int .i64 0) := HM.out.cell 0
  have x1 : w1.cell? ⟨w.heap.size + 1, 1, none⟩ = some (.int .i64 0) := HM.out.cell 1
  have x2 : w1.cell? ⟨w.heap.size + 1, 2, none⟩ = some (.int .i64 0) := HM.out.cell 2
  have x3 : w1.cell? ⟨w.heap.size + 1, 3, none⟩ = some (.int .i64 0) := HM.out.cell 3
  have x4 : w1.cell? ⟨w.heap.size + 1, 4, none⟩ = some (.int .i64 0) := HM.out.cell 4
  have x5 : w1.cell? ⟨w.heap.size + 1, 5, none⟩ = some (.int .i64 0) := HM.out.cell 5
  have x6 : w1.cell? ⟨w.heap.size + 1, 6, none⟩ = some (.slice none 0 0) := HM.out.cell 6
  have x7 : w1.cell? ⟨w.heap.size + 1, 7, none⟩ = some (.slice none 0 0) := HM.out.cell 7
  clear hb
  obtain ⟨b, hb⟩ : ∃ b, b = leB l := ⟨_, rfl⟩
  rw [← hb] at HD ⊢
  clear hb
  cases b
  · have HE : Hid (renE l = 3) := Lib.hid (by rw [HD.out]; rfl)
    have HF : Hid (renM l = mg0) := Lib.hid (by unfold renM; rw [HE.out]; rfl)
    go_wp2_with fail
    rw [HF.out, HE.out]
    exact bodyPost_ret (v := .tuple #[.agg #[.int .i64 0, .int .i64 0, .int .i64 0, .int .i64 0, .int .i64 0, .int .i64 0, .slice none 0 0, .slice none 0 0], .int .i64 3]) (by simp [results, Try.results38, go_sem, x0, x1, x2, x3, x4, x5, x6, x7]) rfl ⟨rfl, below_set8 HW.out (Nat.le_succ _) _ _ _ _ _ _ _ _⟩
  · by_cases h : l.un = 0
    · have HE : Hid (renE l = 12) := Lib.hid (by rw [HD.out]; simp [h])
      have HF : Hid (renM l = mg0) := Lib.hid (by unfold renM; rw [HE.out]; rfl)
      have hbe : (l.un == 0) = true := by simp [h]
      clear h
      go_wp2_with fail
      rw [HF.out, HE.out]
      exact bodyPost_ret (v := .tuple #[.agg #[.int .i64 0, .int .i64 0, .int .i64 0, .int .i64 0, .int .i64 0, .int .i64 0, .slice none 0 0, .slice none 0 0], .int .i64 12]) (by simp [results, Try.results38, go_sem, x0, x1, x2, x3, x4, x5, x6, x7]) rfl ⟨rfl, below_set8 HW.out (Nat.le_succ _) _ _ _ _ _ _ _ _⟩
    · have HE : Hid (renE l = 0) := Lib.hid (by rw [HD.out]; simp [h])
      have HF : Hid (renM l = ⟨17, l.si, 4, 0, 0, l.ep⟩) := Lib.hid (by unfold renM; rw [HE.out]; rfl)
      have hbe : (l.un == 0) = false := by simp [h]
      clear h
      go_wp2_with fail
      rw [HF.out, HE.out]
      exact bodyPost_ret (v := .tuple #[.agg #[.int .i64 17, .int .i64 l.si, .int .i64 4, .int .i64 0, .int .i64 0, .int .i64 l.ep, .slice none 0 0, .slice none 0 0], .int .i64 0]) (by simp [results, Try.results38, go_sem, x0, x1, x2, x3, x4, x5, x6, x7]) rfl ⟨rfl, below_set8 HW.out (Nat.le_succ _) _ _ _ _ _ _ _ _⟩
end Go.Proofs.Ytcdifegjlllbfaa

/- The walks through the witness's small functions: between, time, site, formed, Check, Holds. No condition. -/
import Derived.Test.YtcdifegjlllbfaaFnB
set_option linter.unusedVariables false
set_option linter.unusedSimpArgs false
namespace Go.Proofs.Ytcdifegjlllbfaa
open Go.RowKit
/-- A lease. -/
structure Le where
  si : Int
  ep : Int
  un : Int
def Le.val (l : Le) : Value := .agg #[.int .i64 l.si, .int .i64 l.ep, .int .i64 l.un]
/-- A witness. -/
structure Wi where
  ep : Int
  ho : Int
  un : Int
def Wi.val (l : Wi) : Value := .agg #[.int .i64 l.ep, .int .i64 l.ho, .int .i64 l.un]
def btw (n lo hi : Int) : Bool := decide (lo ≤ n ∧ n ≤ hi)
def tmB (n : Int) : Bool := btw n 0 1073741824
def stB (n : Int) : Bool := btw n 0 3
def leB (l : Le) : Bool := stB l.si && tmB l.ep && tmB l.un
def hoB (l : Le) (now : Int) : Bool := leB l && decide (now < l.un)
def wiB (w : Wi) : Bool := tmB w.ep && tmB w.un && (decide (w.ho = -1) || stB w.ho)
def wiE (w : Wi) : Int := if wiB w then 0 else 3
theorem between_any (n lo hi : Int) (w : World) : Calls Try.prog 70 #[.int .i64 n, .int .i64 lo, .int .i64 hi] w fun e w' => e = .returned (.bool (btw n lo hi)) ∧ w = w' := by
  by_cases h1 : lo ≤ n
  · by_cases h2 : n ≤ hi
    · have HF : Hid (btw n lo hi = true) := Lib.hid (by simp [btw, h1, h2])
      go_enter Try.func70, Try.ntmps70
      go_wp2
      go_ret
      exact ⟨ret_b HF.out.symm, rfl⟩
    · have HF : Hid (btw n lo hi = false) := Lib.hid (by simp [btw, h1, h2])
      go_enter Try.func70, Try.ntmps70
      go_wp2
      go_ret
      exact ⟨ret_b HF.out.symm, rfl⟩
  · have HF : Hid (btw n lo hi = false) := Lib.hid (by simp [btw, h1])
    go_enter Try.func70, Try.ntmps70
    go_wp2
    go_ret
    exact ⟨ret_b HF.out.symm, rfl⟩
theorem wtime_any (n : Int) (w : World) : Calls Try.prog 72 #[.int .i64 n] w fun e w' => e = .returned (.bool (tmB n)) ∧ w = w' := by
  go_enter Try.func72, Try.ntmps72
  go_wp2_with fail
  refine (between_any _ _ _ _).mono ?_
  rintro e w1 ⟨rfl, rfl⟩
  go_wp2
  go_ret
  exact ⟨rfl, rfl⟩
theorem wsite_any (n : Int) (w : World) : Calls Try.prog 73 #[.int .i64 n] w fun e w' => e = .returned (.bool (stB n)) ∧ w = w' := by
  go_enter Try.func73, Try.ntmps73
  go_wp2_with fail
  refine (between_any _ _ _ _).mono ?_
  rintro e w1 ⟨rfl, rfl⟩
  go_wp2
  go_ret
  exact ⟨rfl, rfl⟩
set_option maxHeartbeats 1000000 in
theorem formed_any (l : Le) (w : World) : Calls Try.prog 69 #[l.val] w fun e w' => e = .returned (.bool (leB l)) ∧ Below w.heap.size w w' := by
  unfold Le.val
  have HD : Hid (leB l = (stB l.si && tmB l.ep && tmB l.un)) := Lib.hid rfl
  go_enter Try.func69, Try.ntmps69
  go_wp2_with fail
  refine (wsite_any _ _).mono ?_
  rintro e w1 ⟨rfl, rfl⟩
  have HB := Lib.hid ((Below.refl w.heap.size w).alloc (Nat.le_refl _) (.cells #[.int .i64 l.si, .int .i64 l.ep, .int .i64 l.un] 41))
  obtain ⟨b, hb⟩ : ∃ b, b = stB l.si := ⟨_, rfl⟩
  rw [← hb] at HD ⊢
  clear hb
  cases b
  · go_wp2
    go_ret
    exact ⟨ret_b (by rw [HD.out]; rfl), HB.out⟩
  · go_wp2_with fail
    refine (wtime_any _ _).mono ?_
    rintro e w1 ⟨rfl, rfl⟩
    obtain ⟨b, hb⟩ : ∃ b, b = tmB l.ep := ⟨_, rfl⟩
    rw [← hb] at HD ⊢
    clear hb
    cases b
    · go_wp2
      go_ret
      exact ⟨ret_b (by rw [HD.out]; rfl), HB.out⟩
    · go_wp2_with fail
      refine (wtime_any _ _).mono ?_
      rintro e w1 ⟨rfl, rfl⟩
      obtain ⟨b, hb⟩ : ∃ b, b = tmB l.un := ⟨_, rfl⟩
      rw [← hb] at HD ⊢
      clear hb
      go_wp2
      go_ret
      exact ⟨ret_b (by rw [HD.out]; simp), HB.out⟩
set_option maxHeartbeats 1000000 in
theorem holds_any (l : Le) (now : Int) (w : World) : Calls Try.prog 43 #[l.val, .int .i64 now] w fun e w' => e = .returned (.bool (hoB l now)) ∧ Below w.heap.size w w' := by
  have HD : Hid (hoB l now = (leB l && decide (now < l.un))) := Lib.hid rfl
  go_enter Try.func43, Try.ntmps43
  unfold Le.val
  go_wp2_with fail
  refine (formed_any l _).mono ?_
  rintro e w1 ⟨rfl, hb⟩
  have HX := Lib.hid ((Blk.new w 41 #[.int .i64 l.si, .int .i64 l.ep, .int .i64 l.un]).below hb (Blk.new w 41 _).lt)
  have HB := Lib.hid (((Below.refl w.heap.size w).alloc (Nat.le_refl _) (.cells #[.int .i64 l.si, .int .i64 l.ep, .int .i64 l.un] 41)).trans (hb.mono (by simp)))
  have c2 : w1.cell? ⟨w.heap.size, 2, none⟩ = some (.int .i64 l.un) := HX.out.cell 2
  clear hb
  obtain ⟨b, hb⟩ : ∃ b, b = leB l := ⟨_, rfl⟩
  rw [← hb] at HD ⊢
  clear hb
  cases b
  · go_wp2
    go_ret
    exact ⟨ret_b (by rw [HD.out]; rfl), HB.out⟩
  · obtain ⟨b, hb⟩ : ∃ b, b = decide (now < l.un) := ⟨_, rfl⟩
    have HBB := Lib.hid hb
    clear hb
    go_wp2
    go_ret
    exact ⟨ret_b (by rw [HD.out]; simp), HB.out⟩
set_option maxHeartbeats 1000000 in
theorem wCheck_any (v : Wi) (w : World) : Calls Try.prog 71 #[v.val] w fun e w' => e = .returned (.int .i64 (wiE v)) ∧ Below w.heap.size w w' := by
  unfold Wi.val
  have HD : Hid (wiE v = if (tmB v.ep && tmB v.un && (decide (v.ho = -1) || stB v.ho)) then 0 else 3) := Lib.hid rfl
  go_enter Try.func71, Try.ntmps71
  go_wp2_with fail
  refine (wtime_any _ _).mono ?_
  rintro e w1 ⟨rfl, rfl⟩
  have HB := Lib.hid ((Below.refl w.heap.size w).alloc (Nat.le_refl _) (.cells #[.int .i64 v.ep, .int .i64 v.ho, .int .i64 v.un] 32))
  obtain ⟨b, hb⟩ : ∃ b, b = tmB v.ep := ⟨_, rfl⟩
  rw [← hb] at HD ⊢
  clear hb
  cases b
  · go_wp2_with fail
    go_ret
    exact ⟨ret_i (by rw [HD.out]; rfl), HB.out⟩
  · go_wp2_with fail
    refine (wtime_any _ _).mono ?_
    rintro e w1 ⟨rfl, rfl⟩
    obtain ⟨b, hb⟩ : ∃ b, b = tmB v.un := ⟨_, rfl⟩
    rw [← hb] at HD ⊢
    clear hb
    cases b
    · go_wp2_with fail
      go_ret
      exact ⟨ret_i (by rw [HD.out]; rfl), HB.out⟩
    · by_cases hho : v.ho = -1
      · have HH := Lib.hid hho
        have hbne : (v.ho != -1) = false := by rw [hho]; rfl
        clear hho
        go_wp2_with fail
        go_ret
        exact ⟨ret_i (by rw [HD.out, HH.out]; rfl), HB.out⟩
      · have HH := Lib.hid hho
        have hbne : (v.ho != -1) = true := bne_iff_ne.2 hho
        clear hho
        go_wp2_with fail
        refine (wsite_any _ _).mono ?_
        rintro e w1 ⟨rfl, rfl⟩
        obtain ⟨b, hb⟩ : ∃ b, b = stB v.ho := ⟨_, rfl⟩
        rw [← hb] at HD ⊢
        clear hb
        cases b
        · go_wp2_with fail
          go_ret
          exact ⟨ret_i (by rw [HD.out, decide_eq_false HH.out]; rfl), HB.out⟩
        · go_wp2_with fail
          go_ret
          exact ⟨ret_i (by rw [HD.out, decide_eq_false HH.out]; rfl), HB.out⟩
end Go.Proofs.Ytcdifegjlllbfaa

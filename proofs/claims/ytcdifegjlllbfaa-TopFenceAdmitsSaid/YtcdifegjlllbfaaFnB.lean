/- The walks through in, site, order and the closures over fences. Conditions: the captured variables lie in memory. -/
import Derived.Test.YtcdifegjlllbfaaFnA
set_option linter.unusedVariables false
set_option linter.unusedSimpArgs false
namespace Go.Proofs.Ytcdifegjlllbfaa
open Go.RowKit

theorem ret_b {a b : Bool} (h : a = b) : Ending.returned (.bool a) = .returned (.bool b) := by rw [h]
theorem in_any (n low : Int) (w : World) : Calls Try.prog 53 #[.int .i64 n, .int .i64 low] w fun e w' => e = .returned (.bool (inB n low)) ∧ w = w' := by
  by_cases h1 : low ≤ n
  · by_cases h2 : n ≤ 1073741824
    · have hf : inB n low = true := by simp [inB, h1, h2]
      have HF := Lib.hid hf
      clear hf
      go_enter Try.func53, Try.ntmps53
      go_wp2
      go_ret
      exact ⟨ret_b HF.out.symm, rfl⟩
    · have hf : inB n low = false := by simp [inB, h1, h2]
      have HF := Lib.hid hf
      clear hf
      go_enter Try.func53, Try.ntmps53
      go_wp2
      go_ret
      exact ⟨ret_b HF.out.symm, rfl⟩
  · have hf : inB n low = false := by simp [inB, h1]
    have HF := Lib.hid hf
    clear hf
    go_enter Try.func53, Try.ntmps53
    go_wp2
    go_ret
    exact ⟨ret_b HF.out.symm, rfl⟩
theorem site_any (n : Int) (w : World) : Calls Try.prog 54 #[.int .i64 n] w fun e w' => e = .returned (.bool (siteB n)) ∧ w = w' := by
  by_cases h1 : 0 ≤ n
  · by_cases h2 : n < 4
    · have hf : siteB n = true := by simp [siteB, h1, h2]
      have HF := Lib.hid hf
      clear hf
      go_enter Try.func54, Try.ntmps54
      go_wp2
      go_ret
      exact ⟨ret_b HF.out.symm, rfl⟩
    · have hf : siteB n = false := by simp [siteB, h1]; omega
      have HF := Lib.hid hf
      clear hf
      go_enter Try.func54, Try.ntmps54
      go_wp2
      go_ret
      exact ⟨ret_b HF.out.symm, rfl⟩
  · have hf : siteB n = false := by simp [siteB, h1]
    have HF := Lib.hid hf
    clear hf
    go_enter Try.func54, Try.ntmps54
    go_wp2
    go_ret
    exact ⟨ret_b HF.out.symm, rfl⟩

/-- order's closure. -/
theorem order1_any (g : Nat) (f : Fe) (w : World) (h : Blk w g 37 f.cells) : Calls Try.prog 78 #[.pointer (some ⟨g, 0, none⟩)] w fun e w' => e = .returned (.bool (ordB f)) ∧ Below w.heap.size w w' := by
  have c0 : w.cell? ⟨g, 0, none⟩ = some (.int .i64 f.ep) := h.cell 0
  have c1 : w.cell? ⟨g, 1, none⟩ = some (.int .i64 f.ow) := h.cell 1
  have HD : Hid (ordB f = (inB f.ep 0 && siteB f.ow)) := Lib.hid rfl
  clear h
  go_enter Try.func78, Try.ntmps78
  go_wp2_with fail
  refine (in_any _ _ _).mono ?_
  rintro e w1 ⟨rfl, rfl⟩
  obtain ⟨b, hb⟩ : ∃ b, b = inB f.ep 0 := ⟨_, rfl⟩
  rw [← hb] at HD ⊢
  clear hb
  cases b
  · go_wp2
    go_ret
    exact ⟨ret_b (by rw [HD.out]; rfl), Below.refl _ _⟩
  · go_wp2_with fail
    refine (site_any _ _).mono ?_
    rintro e w1 ⟨rfl, rfl⟩
    obtain ⟨b, hb⟩ : ∃ b, b = siteB f.ow := ⟨_, rfl⟩
    rw [← hb] at HD ⊢
    clear hb
    go_wp2
    go_ret
    exact ⟨ret_b (by rw [HD.out]; simp), Below.refl _ _⟩
/-- order. -/
theorem order_any (f : Fe) (w : World) : Calls Try.prog 45 #[f.val] w fun e w' => ∃ g, e = .returned (.agg #[.func (.func 78) #[] #[.pointer (some ⟨g, 0, none⟩)], .int .i64 2]) ∧ Blk w' g 37 f.cells ∧ Below w.heap.size w w' := by
  have HX : Hid (∀ o, Blk ((w.alloc (.cells f.cells 37)).alloc o) w.heap.size 37 f.cells) := Lib.hid fun o => (Blk.new w 37 f.cells).alloc o
  unfold Fe.val
  go_enter Try.func45, Try.ntmps45
  go_wp2_with fail
  exact bodyPost_ret (v := .agg #[.func (.func 78) #[] #[.pointer (some ⟨w.heap.size, 0, none⟩)], .int .i64 2]) (by simp [results, Try.results45, go_sem]) rfl ⟨_, rfl, HX.out _, ((Below.refl _ w).alloc (Nat.le_refl _) _).alloc (by simp) _⟩
theorem at78 (args : Array Value) (W : World) : (callFunc 78 args).run Try.prog W = .ok (.enter 78 args) W := by kernel_rfl
theorem at46 (args : Array Value) (W : World) : (callFunc 46 args).run Try.prog W = .ok (.enter 46 args) W := by kernel_rfl
/-- A rule's slice of fences, whose captured blocks lie. -/
theorem Answers.nil (w : World) : Answers w [] := fun i hi => absurd hi (by simp)
theorem Answers.cons {w : World} {r : Rl} {l : List Rl} (h1 : ∀ args W, (callFunc r.f args).run Try.prog W = .ok (.enter r.f args) W) (h2 : ∀ W : World, Below w.heap.size w W → Calls Try.prog r.f r.lb W fun e W' => e = .returned (.bool r.b) ∧ Below W.heap.size W W') (h : Answers w l) : Answers w (r :: l) := by
  intro i hi
  cases i with
  | zero => exact ⟨h1, h2⟩
  | succ i => exact h i (by simpa using hi)
theorem Answers.below {w w' : World} {l : List Rl} (h : Answers w l) (hb : Below w.heap.size w w') : Answers w' l := fun i hi => ⟨(h i hi).1, fun W hW => (h i hi).2 W (hb.trans (hW.mono hb.size))⟩
/-- order's rule. -/
def ordR (g : Nat) (f : Fe) : Rl := ⟨78, #[.pointer (some ⟨g, 0, none⟩)], 2, ordB f⟩
theorem ordR_answers {w : World} {g : Nat} {f : Fe} {l : List Rl} (h : Blk w g 37 f.cells) (hl : Answers w l) : Answers w (ordR g f :: l) :=
  Answers.cons at78 (fun W hW => order1_any g f W (h.below hW h.lt)) hl
/-- The rules lie. -/
theorem rules {w : World} {l : List Rl} (cs : Array Value) (hc : cs = (eR.flat l).toArray) (h : l.length ≤ 100) : RdR (w.alloc (.cells cs 101)) (some ⟨w.heap.size, 0, none⟩) l := RdL.boxes w l 101 cs hc (by omega)
theorem firstE_ord (g : Nat) (f : Fe) (l : List Rl) : firstE (ordR g f :: l) = if ordB f then firstE l else 2 := rfl
theorem chk_first (g : Nat) (f : Fe) : firstE [ordR g f] = chkF f := rfl
/-- Check. -/
theorem Check_any (f : Fe) (w : World) : Calls Try.prog 19 #[f.val] w fun e w' => e = .returned (.int .i64 (chkF f)) ∧ Below w.heap.size w w' := by
  go_enter Try.func19, Try.ntmps19
  unfold Fe.val
  go_wp2_with fail
  refine (order_any f _).mono ?_
  rintro e w1 ⟨g, rfl, hk, hb⟩
  have HK := Lib.hid hk
  have HB := Lib.hid (((Below.refl _ w).alloc (Nat.le_refl _) (.cells f.cells 37)).trans (hb.mono (by simp)))
  clear hk hb
  go_wp2_with fail
  refine (first_any _ _ [ordR g f] _ (rules _ rfl (by simp)) (ordR_answers (HK.out.alloc _) (Answers.nil _))).mono ?_
  rintro e w2 ⟨rfl, hb⟩
  have HB2 := Lib.hid ((HB.out.alloc HB.out.size _).trans (hb.mono (HB.out.alloc HB.out.size _).size))
  rw [chk_first]
  clear HB HK hb
  go_wp2
  go_ret
  exact ⟨rfl, HB2.out⟩
end Go.Proofs.Ytcdifegjlllbfaa

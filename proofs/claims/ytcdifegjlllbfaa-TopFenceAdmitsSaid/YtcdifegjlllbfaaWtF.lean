/- The walks through the witness's renew, acquire and release. Conditions: the request lies in a block, small times. -/
import Derived.Test.YtcdifegjlllbfaaWtE
import Derived.Deep.QuietTactic
import Derived.BigQuiet
import Derived.RegionTactic
import Derived.BigRegion
set_option linter.unusedVariables false
set_option linter.unusedSimpArgs false
namespace Go.Proofs.Ytcdifegjlllbfaa
open Go.RowKit
/-- The witness after a message, and what it answers. -/
def renW (r : Rq) : Rq := if ownB r then ⟨⟨r.w.ep, r.w.ho, max r.w.un (r.now + r.term)⟩, r.now, r.term, r.m⟩ else r
def renA (r : Rq) : List Mg := if ownB r then [ansM r 16 r.term] else [ansM r 12 0]
def acqB (r : Rq) : Bool := decide (r.w.ep < r.m.ep) && (!heldB r || decide (r.w.ho = r.m.fr))
def acqR (r : Rq) : Rq := ⟨⟨r.m.ep, r.m.fr, r.now + r.term⟩, r.now, r.term, r.m⟩
def acqW (r : Rq) : Rq := if acqB r then acqR r else renW r
def acqA (r : Rq) : List Mg := if acqB r then [ansM (acqR r) 16 r.term] else renA r
def relB (r : Rq) : Bool := decide (r.m.ep = r.w.ep) && decide (r.m.fr = r.w.ho)
def relW (r : Rq) : Rq := if relB r then ⟨⟨r.w.ep, -1, 0⟩, r.now, r.term, r.m⟩ else r
set_option maxHeartbeats 1000000 in
theorem wrenew_any (g : Nat) (r : Rq) (w : World) (h : Blk w g 121 r.cells) (hn0 : 0 ≤ r.now) (hn1 : r.now ≤ 1000) (ht0 : 1 ≤ r.term) (ht1 : r.term ≤ 12) : Calls Try.prog 75 #[.pointer (some ⟨g, 0, none⟩)] w fun e w' => ∃ A, e = .returned (.slice A (renA r).length (renA r).length) ∧ RdN (g + 1) w' A (renA r) ∧ Blk w' g 121 (renW r).cells ∧ Below g w w' := by
  have HB : Hid (∀ n, Blk (w.drewN n) g 121 r.cells) := Lib.hid fun n => h.drewN n
  have HL : Hid (g < w.heap.size) := Lib.hid h.lt
  have HB0 := Lib.hid h
  have c2 : w.cell? ⟨g, 2, none⟩ = some (.int .i64 r.w.un) := h.cell 2
  have c3 : w.cell? ⟨g, 3, none⟩ = some (.int .i64 r.now) := h.cell 3
  have c4 : w.cell? ⟨g, 4, none⟩ = some (.int .i64 r.term) := h.cell 4
  have f2 := h.frozen 2
  clear h
  go_enter Try.func75, Try.ntmps75
  go_wp2_with fail
  refine (own_any _ r _ HB0.out).mono ?_
  rintro e w1 ⟨rfl, n, rfl⟩
  obtain ⟨b, hb⟩ : ∃ b, b = ownB r := ⟨_, rfl⟩
  have HO := Lib.hid hb
  rw [← hb]
  clear hb
  cases b
  · have HE : Hid (renW r = r) := Lib.hid (by unfold renW; rw [← HO.out]; rfl)
    have HF : Hid (renA r = [ansM r 12 0]) := Lib.hid (by unfold renA; rw [← HO.out]; rfl)
    go_wp2_with fail
    refine (refuse_any _ r _ (HB.out _)).mono ?_
    rintro e w2 ⟨A, rfl, hr, hb⟩
    have HR := Lib.hid (hr.low (B' := g + 1) (HB.out n).lt)
    have HK : Hid (Blk w2 g 121 r.cells) := Lib.hid ((HB.out n).below hb (HB.out n).lt)
    have HW : Hid (Below g w w2) := Lib.hid ((drewN_below w n g).trans (hb.mono (Nat.le_of_lt (HB.out n).lt)))
    clear hr hb
    go_wp2
    go_ret
    rw [HE.out, HF.out]
    exact ⟨A, rfl, HR.out, HK.out, HW.out⟩
  · have HF : Hid (renA r = [ansM r 16 r.term]) := Lib.hid (by unfold renA; rw [← HO.out]; rfl)
    by_cases h6 : r.w.un < r.now + r.term
    · have HE : Hid (renW r = ⟨⟨r.w.ep, r.w.ho, r.now + r.term⟩, r.now, r.term, r.m⟩) := Lib.hid (by unfold renW; rw [← HO.out, Int.max_eq_right (by omega)]; rfl)
      go_wp2_with fail
      go_region
      all_goals go_wp2_with fail
      refine (grant_any _ (⟨⟨r.w.ep, r.w.ho, r.now + r.term⟩, r.now, r.term, r.m⟩ : Rq) _ (((HB.out _).set_ 2 (.int .i64 (r.now + r.term)) : Blk _ g 121 (Rq.cells ⟨⟨r.w.ep, r.w.ho, r.now + r.term⟩, r.now, r.term, r.m⟩)))).mono ?_
      rintro e w2 ⟨A, rfl, hr, hb⟩
      have HR := Lib.hid (hr.low (B' := g + 1) ((Blk.lt (((HB.out _).set_ 2 (.int .i64 (r.now + r.term)) : Blk _ g 121 (Rq.cells ⟨⟨r.w.ep, r.w.ho, r.now + r.term⟩, r.now, r.term, r.m⟩))))))
      have HK : Hid (Blk w2 g 121 (⟨⟨r.w.ep, r.w.ho, r.now + r.term⟩, r.now, r.term, r.m⟩ : Rq).cells) := Lib.hid (Blk.below (((HB.out _).set_ 2 (.int .i64 (r.now + r.term)) : Blk _ g 121 (Rq.cells ⟨⟨r.w.ep, r.w.ho, r.now + r.term⟩, r.now, r.term, r.m⟩))) hb (Blk.lt (((HB.out _).set_ 2 (.int .i64 (r.now + r.term)) : Blk _ g 121 (Rq.cells ⟨⟨r.w.ep, r.w.ho, r.now + r.term⟩, r.now, r.term, r.m⟩)))))
      have HW : Hid (Below g w w2) := Lib.hid (((drewN_below w _ g).setCell (Nat.le_refl _) _).trans (hb.mono (Nat.le_of_lt (Blk.lt (((HB.out _).set_ 2 (.int .i64 (r.now + r.term)) : Blk _ g 121 (Rq.cells ⟨⟨r.w.ep, r.w.ho, r.now + r.term⟩, r.now, r.term, r.m⟩)))))))
      clear hr hb
      go_wp2
      go_ret
      rw [HE.out, HF.out]
      exact ⟨A, rfl, HR.out, HK.out, HW.out⟩
    · have HE : Hid (renW r = r) := Lib.hid (by unfold renW; rw [← HO.out, Int.max_eq_left (by omega)]; rfl)
      go_wp2_with fail
      go_region
      all_goals go_wp2_with fail
      refine (grant_any _ r _ (((HB.out _).set_ 2 (.int .i64 r.w.un) : Blk _ g 121 r.cells))).mono ?_
      rintro e w2 ⟨A, rfl, hr, hb⟩
      have HR := Lib.hid (hr.low (B' := g + 1) ((Blk.lt (((HB.out _).set_ 2 (.int .i64 r.w.un) : Blk _ g 121 r.cells)))))
      have HK : Hid (Blk w2 g 121 r.cells) := Lib.hid (Blk.below (((HB.out _).set_ 2 (.int .i64 r.w.un) : Blk _ g 121 r.cells)) hb (Blk.lt (((HB.out _).set_ 2 (.int .i64 r.w.un) : Blk _ g 121 r.cells))))
      have HW : Hid (Below g w w2) := Lib.hid (((drewN_below w _ g).setCell (Nat.le_refl _) _).trans (hb.mono (Nat.le_of_lt (Blk.lt (((HB.out _).set_ 2 (.int .i64 r.w.un) : Blk _ g 121 r.cells))))))
      clear hr hb
      go_wp2
      go_ret
      rw [HE.out, HF.out]
      exact ⟨A, rfl, HR.out, HK.out, HW.out⟩
set_option maxHeartbeats 1000000 in
theorem wacquire_any (g : Nat) (r : Rq) (w : World) (h : Blk w g 121 r.cells) (hn0 : 0 ≤ r.now) (hn1 : r.now ≤ 1000) (ht0 : 1 ≤ r.term) (ht1 : r.term ≤ 12) : Calls Try.prog 74 #[.pointer (some ⟨g, 0, none⟩)] w fun e w' => ∃ A, e = .returned (.slice A (acqA r).length (acqA r).length) ∧ RdN (g + 1) w' A (acqA r) ∧ Blk w' g 121 (acqW r).cells ∧ Below g w w' := by
  have HB : Hid (∀ n, Blk (w.drewN n) g 121 r.cells) := Lib.hid fun n => h.drewN n
  have HL : Hid (g < w.heap.size) := Lib.hid h.lt
  have c0 : w.cell? ⟨g, 0, none⟩ = some (.int .i64 r.w.ep) := h.cell 0
  have c1 : w.cell? ⟨g, 1, none⟩ = some (.int .i64 r.w.ho) := h.cell 1
  have c2 : w.cell? ⟨g, 2, none⟩ = some (.int .i64 r.w.un) := h.cell 2
  have c3 : w.cell? ⟨g, 3, none⟩ = some (.int .i64 r.now) := h.cell 3
  have c4 : w.cell? ⟨g, 4, none⟩ = some (.int .i64 r.term) := h.cell 4
  have c6 : w.cell? ⟨g, 6, none⟩ = some (.int .i64 r.m.fr) := h.cell 6
  have c10 : w.cell? ⟨g, 10, none⟩ = some (.int .i64 r.m.ep) := h.cell 10
  have f0 := h.frozen 0
  have f1 := h.frozen 1
  have f2 := h.frozen 2
  clear h
  by_cases h1 : r.w.ep < r.m.ep
  · have hd1 : decide (r.w.ep < r.m.ep) = true := by simpa using h1
    obtain ⟨b, hb⟩ : ∃ b, b = heldB r := ⟨_, rfl⟩
    cases b
    · have HH := Lib.hid hb.symm
      have HA : Hid (acqB r = true) := Lib.hid (by unfold acqB; rw [← hb]; simp [h1])
      clear hb
      go_enter Try.func74, Try.ntmps74
      go_wp2
      go_quiet ((go_at_call 80; refine (Calls.quiet_of (held_any _ r _ (HB.out _))).mono ?_; rw [HH.out]; exact fun _ _ h => h))
      go_wp2_with fail
      go_region
      go_wp2_with fail
      refine (grant_any _ (acqR r) _ (((((HB.out _).set_ 0 (.int .i64 r.m.ep)).set_ 1 (.int .i64 r.m.fr)).set_ 2 (.int .i64 (r.now + r.term)) : Blk _ g 121 (acqR r).cells))).mono ?_
      rintro e w2 ⟨A, rfl, hr, hb⟩
      have HR := Lib.hid (hr.low (B' := g + 1) ((Blk.lt (((((HB.out _).set_ 0 (.int .i64 r.m.ep)).set_ 1 (.int .i64 r.m.fr)).set_ 2 (.int .i64 (r.now + r.term)) : Blk _ g 121 (acqR r).cells)))))
      have HK : Hid (Blk w2 g 121 (acqR r).cells) := Lib.hid (Blk.below (((((HB.out _).set_ 0 (.int .i64 r.m.ep)).set_ 1 (.int .i64 r.m.fr)).set_ 2 (.int .i64 (r.now + r.term)) : Blk _ g 121 (acqR r).cells)) hb (Blk.lt (((((HB.out _).set_ 0 (.int .i64 r.m.ep)).set_ 1 (.int .i64 r.m.fr)).set_ 2 (.int .i64 (r.now + r.term)) : Blk _ g 121 (acqR r).cells))))
      have HW : Hid (Below g w w2) := Lib.hid (((((drewN_below w _ g).setCell (Nat.le_refl _) _).setCell (Nat.le_refl _) _).setCell (Nat.le_refl _) _).trans (hb.mono (Nat.le_of_lt (Blk.lt (((((HB.out _).set_ 0 (.int .i64 r.m.ep)).set_ 1 (.int .i64 r.m.fr)).set_ 2 (.int .i64 (r.now + r.term)) : Blk _ g 121 (acqR r).cells))))))
      have HE : Hid (acqW r = acqR r) := Lib.hid (by unfold acqW; rw [HA.out]; rfl)
      have HF : Hid (acqA r = [ansM (acqR r) 16 r.term]) := Lib.hid (by unfold acqA; rw [HA.out]; rfl)
      clear hr hb
      go_wp2
      go_ret
      rw [HE.out, HF.out]
      exact ⟨A, rfl, HR.out, HK.out, HW.out⟩
    · have HH := Lib.hid hb.symm
      by_cases h2 : r.w.ho = r.m.fr
      · have hbf : (r.w.ho == r.m.fr) = true := by simp [h2]
        have HA : Hid (acqB r = true) := Lib.hid (by unfold acqB; simp [h1, h2])
        clear hb h2
        go_enter Try.func74, Try.ntmps74
        go_wp2
        go_quiet ((go_at_call 80; refine (Calls.quiet_of (held_any _ r _ (HB.out _))).mono ?_; rw [HH.out]; exact fun _ _ h => h))
        go_wp2_with fail
        go_region
        go_wp2_with fail
        refine (grant_any _ (acqR r) _ (((((HB.out _).set_ 0 (.int .i64 r.m.ep)).set_ 1 (.int .i64 r.m.fr)).set_ 2 (.int .i64 (r.now + r.term)) : Blk _ g 121 (acqR r).cells))).mono ?_
        rintro e w2 ⟨A, rfl, hr, hb⟩
        have HR := Lib.hid (hr.low (B' := g + 1) ((Blk.lt (((((HB.out _).set_ 0 (.int .i64 r.m.ep)).set_ 1 (.int .i64 r.m.fr)).set_ 2 (.int .i64 (r.now + r.term)) : Blk _ g 121 (acqR r).cells)))))
        have HK : Hid (Blk w2 g 121 (acqR r).cells) := Lib.hid (Blk.below (((((HB.out _).set_ 0 (.int .i64 r.m.ep)).set_ 1 (.int .i64 r.m.fr)).set_ 2 (.int .i64 (r.now + r.term)) : Blk _ g 121 (acqR r).cells)) hb (Blk.lt (((((HB.out _).set_ 0 (.int .i64 r.m.ep)).set_ 1 (.int .i64 r.m.fr)).set_ 2 (.int .i64 (r.now + r.term)) : Blk _ g 121 (acqR r).cells))))
        have HW : Hid (Below g w w2) := Lib.hid (((((drewN_below w _ g).setCell (Nat.le_refl _) _).setCell (Nat.le_refl _) _).setCell (Nat.le_refl _) _).trans (hb.mono (Nat.le_of_lt (Blk.lt (((((HB.out _).set_ 0 (.int .i64 r.m.ep)).set_ 1 (.int .i64 r.m.fr)).set_ 2 (.int .i64 (r.now + r.term)) : Blk _ g 121 (acqR r).cells))))))
        have HE : Hid (acqW r = acqR r) := Lib.hid (by unfold acqW; rw [HA.out]; rfl)
        have HF : Hid (acqA r = [ansM (acqR r) 16 r.term]) := Lib.hid (by unfold acqA; rw [HA.out]; rfl)
        clear hr hb
        go_wp2
        go_ret
        rw [HE.out, HF.out]
        exact ⟨A, rfl, HR.out, HK.out, HW.out⟩
      · have hbf : (r.w.ho == r.m.fr) = false := by simp [h2]
        have HA : Hid (acqB r = false) := Lib.hid (by unfold acqB; rw [← hb]; simp [h2])
        clear hb h2
        go_enter Try.func74, Try.ntmps74
        go_wp2
        go_quiet ((go_at_call 80; refine (Calls.quiet_of (held_any _ r _ (HB.out _))).mono ?_; rw [HH.out]; exact fun _ _ h => h))
        go_wp2_with fail
        refine (wrenew_any _ r _ (HB.out _) hn0 hn1 ht0 ht1).mono ?_
        rintro e w2 ⟨A, rfl, hr, hk, hb⟩
        have HR := Lib.hid hr
        have HK := Lib.hid hk
        have HW : Hid (Below g w w2) := Lib.hid ((drewN_below w _ g).trans hb)
        have HE : Hid (acqW r = renW r) := Lib.hid (by unfold acqW; rw [HA.out]; rfl)
        have HF : Hid (acqA r = renA r) := Lib.hid (by unfold acqA; rw [HA.out]; rfl)
        clear hr hb hk
        go_wp2
        go_ret
        rw [HE.out, HF.out]
        exact ⟨A, rfl, HR.out, HK.out, HW.out⟩
  · have hd1 : decide (r.w.ep < r.m.ep) = false := by simpa using h1
    have HA : Hid (acqB r = false) := Lib.hid (by unfold acqB; simp [h1])
    go_enter Try.func74, Try.ntmps74
    go_wp2
    go_quiet (fail)
    go_wp2_with fail
    refine (wrenew_any _ r _ (HB.out _) hn0 hn1 ht0 ht1).mono ?_
    rintro e w2 ⟨A, rfl, hr, hk, hb⟩
    have HR := Lib.hid hr
    have HK := Lib.hid hk
    have HW : Hid (Below g w w2) := Lib.hid ((drewN_below w _ g).trans hb)
    have HE : Hid (acqW r = renW r) := Lib.hid (by unfold acqW; rw [HA.out]; rfl)
    have HF : Hid (acqA r = renA r) := Lib.hid (by unfold acqA; rw [HA.out]; rfl)
    clear hr hb hk
    go_wp2
    go_ret
    rw [HE.out, HF.out]
    exact ⟨A, rfl, HR.out, HK.out, HW.out⟩
set_option maxHeartbeats 1000000 in
theorem wrelease_any (g : Nat) (r : Rq) (w : World) (h : Blk w g 121 r.cells) : Calls Try.prog 76 #[.pointer (some ⟨g, 0, none⟩)] w fun e w' => e = .returned (.slice none 0 0) ∧ Blk w' g 121 (relW r).cells ∧ Below g w w' := by
  have HB : Hid (∀ n, Blk (w.drewN n) g 121 r.cells) := Lib.hid fun n => h.drewN n
  have HL : Hid (g < w.heap.size) := Lib.hid h.lt
  have c0 : w.cell? ⟨g, 0, none⟩ = some (.int .i64 r.w.ep) := h.cell 0
  have c1 : w.cell? ⟨g, 1, none⟩ = some (.int .i64 r.w.ho) := h.cell 1
  have c2 : w.cell? ⟨g, 2, none⟩ = some (.int .i64 r.w.un) := h.cell 2
  have c6 : w.cell? ⟨g, 6, none⟩ = some (.int .i64 r.m.fr) := h.cell 6
  have c10 : w.cell? ⟨g, 10, none⟩ = some (.int .i64 r.m.ep) := h.cell 10
  have f1 := h.frozen 1
  have f2 := h.frozen 2
  clear h
  by_cases h1 : r.m.ep = r.w.ep
  · have hbe : (r.m.ep == r.w.ep) = true := by simp [h1]
    by_cases h2 : r.m.fr = r.w.ho
    · have hbf : (r.m.fr == r.w.ho) = true := by simp [h2]
      have HE : Hid (relW r = ⟨⟨r.w.ep, -1, 0⟩, r.now, r.term, r.m⟩) := Lib.hid (by unfold relW relB; simp [h1, h2])
      clear h1 h2
      go_enter Try.func76, Try.ntmps76
      go_wp2
      go_quiet (fail)
      go_wp2
      go_ret
      rw [HE.out]
      exact ⟨rfl, (((HB.out _).set_ 1 (.int .i64 (-1))).set_ 2 (.int .i64 0) : Blk _ g 121 (Rq.cells ⟨⟨r.w.ep, -1, 0⟩, r.now, r.term, r.m⟩)), (((drewN_below w _ g).setCell (Nat.le_refl _) _).setCell (Nat.le_refl _) _)⟩
    · have hbf : (r.m.fr == r.w.ho) = false := by simp [h2]
      have HE : Hid (relW r = r) := Lib.hid (by unfold relW relB; simp [h2])
      clear h1 h2
      go_enter Try.func76, Try.ntmps76
      go_wp2
      go_quiet (fail)
      go_wp2
      go_ret
      rw [HE.out]
      exact ⟨rfl, HB.out _, drewN_below w _ g⟩
  · have hbe : (r.m.ep == r.w.ep) = false := by simp [h1]
    have HE : Hid (relW r = r) := Lib.hid (by unfold relW relB; simp [h1])
    clear h1
    go_enter Try.func76, Try.ntmps76
    go_wp2
    go_quiet (fail)
    go_wp2
    go_ret
    rw [HE.out]
    exact ⟨rfl, HB.out _, drewN_below w _ g⟩
end Go.Proofs.Ytcdifegjlllbfaa

/- The walks through the witness's held, own, answer, grant and refuse. Conditions: the request lies in a block. -/
import Derived.Test.YtcdifegjlllbfaaWtB
import Derived.Deep.QuietTactic
import Derived.BigQuiet
import Derived.RegionTactic
import Derived.BigRegion
set_option linter.unusedVariables false
set_option linter.unusedSimpArgs false
namespace Go.Proofs.Ytcdifegjlllbfaa
open Go.RowKit
/-- A request at the witness. -/
structure Rq where
  w : Wi
  now : Int
  term : Int
  m : Mg
def Rq.cells (r : Rq) : Array Value := #[.int .i64 r.w.ep, .int .i64 r.w.ho, .int .i64 r.w.un, .int .i64 r.now, .int .i64 r.term, .int .i64 r.m.ki, .int .i64 r.m.fr, .int .i64 r.m.to, .int .i64 r.m.nu, .int .i64 r.m.va, .int .i64 r.m.ep, .slice none 0 0, .slice none 0 0]
def heldB (r : Rq) : Bool := decide (r.w.ho ≠ -1) && decide (r.now < r.w.un)
def ownB (r : Rq) : Bool := decide (r.m.ep = r.w.ep) && decide (r.w.ho = r.m.fr) && heldB r
theorem drewN_below (w : World) (n B : Nat) : Below B w (w.drewN n) := ⟨rfl, rfl, rfl, Nat.le_refl _, fun _ _ => rfl⟩
theorem Blk.drewN {w : World} {g : Nat} {t : TypeId} {cs : Array Value} (h : Blk w g t cs) (n : Nat) : Blk (w.drewN n) g t cs := h.below (drewN_below w n _) h.lt
theorem held_any (g : Nat) (r : Rq) (w : World) (h : Blk w g 121 r.cells) : Calls Try.prog 80 #[.pointer (some ⟨g, 0, none⟩)] w fun e w' => e = .returned (.bool (heldB r)) ∧ ∃ n, w' = w.drewN n := by
  have c1 : w.cell? ⟨g, 1, none⟩ = some (.int .i64 r.w.ho) := h.cell 1
  have c2 : w.cell? ⟨g, 2, none⟩ = some (.int .i64 r.w.un) := h.cell 2
  have c3 : w.cell? ⟨g, 3, none⟩ = some (.int .i64 r.now) := h.cell 3
  clear h
  by_cases h1 : r.w.ho = -1
  · have HE : Hid (heldB r = false) := Lib.hid (by simp [heldB, h1])
    have hbe : (r.w.ho != -1) = false := by simp [h1]
    clear h1
    go_enter Try.func80, Try.ntmps80
    go_wp2
    go_quiet (fail)
    go_wp2
    go_ret
    exact ⟨ret_b HE.out.symm, _, rfl⟩
  · have hbe : (r.w.ho != -1) = true := by simp [h1]
    by_cases h2 : r.now < r.w.un
    · have HE : Hid (heldB r = true) := Lib.hid (by simp [heldB, h1, h2])
      clear h1
      go_enter Try.func80, Try.ntmps80
      go_wp2
      go_quiet (fail)
      go_wp2
      go_ret
      exact ⟨ret_b HE.out.symm, _, rfl⟩
    · have HE : Hid (heldB r = false) := Lib.hid (by simp [heldB, h1, h2])
      clear h1
      go_enter Try.func80, Try.ntmps80
      go_wp2
      go_quiet (fail)
      go_wp2
      go_ret
      exact ⟨ret_b (by rw [HE.out]; exact decide_eq_false (by omega)), _, rfl⟩
theorem own_any (g : Nat) (r : Rq) (w : World) (h : Blk w g 121 r.cells) : Calls Try.prog 82 #[.pointer (some ⟨g, 0, none⟩)] w fun e w' => e = .returned (.bool (ownB r)) ∧ ∃ n, w' = w.drewN n := by
  have HB : Hid (∀ n, Blk (w.drewN n) g 121 r.cells) := Lib.hid fun n => h.drewN n
  have c0 : w.cell? ⟨g, 0, none⟩ = some (.int .i64 r.w.ep) := h.cell 0
  have c1 : w.cell? ⟨g, 1, none⟩ = some (.int .i64 r.w.ho) := h.cell 1
  have c6 : w.cell? ⟨g, 6, none⟩ = some (.int .i64 r.m.fr) := h.cell 6
  have c10 : w.cell? ⟨g, 10, none⟩ = some (.int .i64 r.m.ep) := h.cell 10
  clear h
  by_cases h1 : r.m.ep = r.w.ep
  · have hbe : (r.m.ep == r.w.ep) = true := by simp [h1]
    by_cases h2 : r.w.ho = r.m.fr
    · have hbf : (r.w.ho == r.m.fr) = true := by simp [h2]
      have HE : Hid (ownB r = heldB r) := Lib.hid (by simp [ownB, h1, h2])
      clear h1 h2
      go_enter Try.func82, Try.ntmps82
      go_wp2
      go_quiet ((go_at_call 80; exact Calls.quiet_of (held_any _ r _ (HB.out _))))
      go_wp2
      go_ret
      exact ⟨ret_b HE.out.symm, _, rfl⟩
    · have hbf : (r.w.ho == r.m.fr) = false := by simp [h2]
      have HE : Hid (ownB r = false) := Lib.hid (by simp [ownB, h2])
      clear h1 h2
      go_enter Try.func82, Try.ntmps82
      go_wp2
      go_quiet (fail)
      go_wp2
      go_ret
      exact ⟨ret_b HE.out.symm, _, rfl⟩
  · have hbe : (r.m.ep == r.w.ep) = false := by simp [h1]
    have HE : Hid (ownB r = false) := Lib.hid (by simp [ownB, h1])
    clear h1
    go_enter Try.func82, Try.ntmps82
    go_wp2
    go_quiet (fail)
    go_wp2
    go_ret
    exact ⟨ret_b HE.out.symm, _, rfl⟩
def eMg : Enc Mg := ⟨8, by decide, fun m => [.int .i64 m.ki, .int .i64 m.fr, .int .i64 m.to, .int .i64 m.nu, .int .i64 m.va, .int .i64 m.ep, .slice none 0 0, .slice none 0 0], fun _ => rfl, by intro x u hu; simp at hu; rcases hu with rfl | rfl | rfl | rfl | rfl | rfl | rfl <;> rfl⟩
/-- A slice of messages that is read, its block from B on. -/
def RdN (B : Nat) (w : World) (A : Option Addr) (l : List Mg) : Prop := RdL eMg w A l ∧ ∀ a, A = some a → B ≤ a.block
theorem RdN.low {B B' : Nat} {w : World} {A : Option Addr} {l : List Mg} (h : RdN B w A l) (hb : B' ≤ B) : RdN B' w A l := ⟨h.1, fun a e => Nat.le_trans hb (h.2 a e)⟩
theorem RdN.far {B : Nat} {w : World} {A : Option Addr} {l : List Mg} (h : RdN B w A l) {g j : Nat} (hp : g < B) (u : Value) : RdN B (w.setCell ⟨g, j, none⟩ u) A l := by
  refine ⟨⟨h.1.1, fun hn => ?_⟩, h.2⟩
  obtain ⟨ad, e, hc⟩ := h.1.2 hn
  refine ⟨ad, e, fun i v hv => ?_⟩
  have hB := h.2 ad e
  rw [← hc i v hv]
  exact World.cell?_of_block (Below.heap_setCell w ⟨g, j, none⟩ u _ (by rw [add_block]; show ad.block ≠ g; omega))
def ansM (r : Rq) (kind v : Int) : Mg := ⟨kind, 4, r.m.fr, r.m.nu, v, r.w.ep⟩
set_option maxHeartbeats 1000000 in
theorem answer_any (g : Nat) (r : Rq) (kind v : Int) (w : World) (h : Blk w g 121 r.cells) : Calls Try.prog 84 #[.pointer (some ⟨g, 0, none⟩), .int .i64 kind, .int .i64 v] w fun e w' => ∃ A, e = .returned (.slice A 1 1) ∧ RdN w.heap.size w' A [ansM r kind v] ∧ Below w.heap.size w w' := by
  have c0 : w.cell? ⟨g, 0, none⟩ = some (.int .i64 r.w.ep) := h.cell 0
  have c6 : w.cell? ⟨g, 6, none⟩ = some (.int .i64 r.m.fr) := h.cell 6
  have c8 : w.cell? ⟨g, 8, none⟩ = some (.int .i64 r.m.nu) := h.cell 8
  clear h
  go_enter Try.func84, Try.ntmps84
  go_wp2
  go_region
  all_goals go_wp2
  go_ret
  exact ⟨_, rfl, ⟨(RdL.boxes w [ansM r kind v] 85 _ rfl (by simp)).below ((Below.refl _ _).drew), fun a e => by cases e; exact Nat.le_refl _⟩, ((Below.refl _ _).alloc (Nat.le_refl _) _).drew⟩
theorem grant_any (g : Nat) (r : Rq) (w : World) (h : Blk w g 121 r.cells) : Calls Try.prog 81 #[.pointer (some ⟨g, 0, none⟩)] w fun e w' => ∃ A, e = .returned (.slice A 1 1) ∧ RdN w.heap.size w' A [ansM r 16 r.term] ∧ Below w.heap.size w w' := by
  have HB := Lib.hid h
  have c4 : w.cell? ⟨g, 4, none⟩ = some (.int .i64 r.term) := h.cell 4
  clear h
  go_enter Try.func81, Try.ntmps81
  go_wp2_with fail
  refine (answer_any _ r _ _ _ HB.out).mono ?_
  rintro e w1 ⟨A, rfl, hr, hb⟩
  have HR := Lib.hid hr
  have HW := Lib.hid hb
  clear hr hb
  go_wp2
  go_ret
  exact ⟨_, rfl, HR.out, HW.out⟩
theorem refuse_any (g : Nat) (r : Rq) (w : World) (h : Blk w g 121 r.cells) : Calls Try.prog 83 #[.pointer (some ⟨g, 0, none⟩)] w fun e w' => ∃ A, e = .returned (.slice A 1 1) ∧ RdN w.heap.size w' A [ansM r 12 0] ∧ Below w.heap.size w w' := by
  have HB := Lib.hid h
  clear h
  go_enter Try.func83, Try.ntmps83
  go_wp2_with fail
  refine (answer_any _ r _ _ _ HB.out).mono ?_
  rintro e w1 ⟨A, rfl, hr, hb⟩
  have HR := Lib.hid hr
  have HW := Lib.hid hb
  clear hr hb
  go_wp2
  go_ret
  exact ⟨_, rfl, HR.out, HW.out⟩
end Go.Proofs.Ytcdifegjlllbfaa

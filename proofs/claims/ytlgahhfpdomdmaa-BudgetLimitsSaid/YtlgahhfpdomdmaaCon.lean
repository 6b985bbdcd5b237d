/- The contracts of Advance, Available, Take at budgets in order. No condition. -/
import Derived.Test.YtlgahhfpdomdmaaUsd
import Derived.Test.YtlgahhfpdomdmaaPlB
set_option linter.unusedVariables false
set_option linter.unusedSimpArgs false
namespace Go.Proofs.Ytlgahhfpdomdmaa
open Go.RowKit

/-- Advance of a budget in order. -/
theorem Adv_ok (t : Int) (A : Option Addr) (n c : Nat) (l : List Bk) (now : Int) (w : World) (hl : RdB w A l) (hn : l.length = n) (hb : BudOk t l) (h0 : t ≤ now) (h1 : now ≤ 1073741824) :
    Calls Try.prog 17 #[.agg #[.int .i64 t, .slice A n c], .int .i64 now] w fun e w' => ∃ A2 c2, e = .returned (.tuple #[.agg #[.int .i64 now, .slice A2 n c2], .int .i64 0]) ∧ OwB w' w.heap.size (.slice A2 n c2) (l.map (Bk.later (now - t))) ∧ Below w.heap.size w w' := by
  subst hn
  have ha := adv_zero hb h0 h1
  refine (Advance_any t A c l now w hl (by have := hb.len; omega)).mono ?_
  rintro e w2 ⟨v, rfl, hv, hbl⟩
  rw [ha.2.2] at hv
  rw [ha.1, ha.2.1]
  obtain ⟨A2, c2, rfl, _, _, _⟩ := OwL.rd hv
  rw [List.length_map] at hv ⊢
  exact ⟨A2, c2, rfl, hv, hbl⟩
/-- Available of a budget in order. -/
theorem Avl_ok (t : Int) (A : Option Addr) (n c : Nat) (l : List Bk) (k : Nat) (w : World) (hl : RdB w A l) (hn : l.length = n) (hb : BudOk t l) (hk : k < n) :
    Calls Try.prog 19 #[.agg #[.int .i64 t, .slice A n c], .int .i64 k] w fun e w' => e = .returned (.tuple #[.int .i64 (availL l k), .int .i64 0]) ∧ Below w.heap.size w w' := by
  subst hn
  have h := Available_any t A c l k w hl
  rw [avl_ok hb hk, find_ok hb hk] at h
  exact h
/-- Take of a budget in order. -/
theorem Tak_ok (t : Int) (A : Option Addr) (N c : Nat) (l : List Bk) (k : Nat) (n : Int) (w : World) (hl : RdB w A l) (hn : l.length = N) (hb : l.length ≤ 4096) :
    Calls Try.prog 21 #[.agg #[.int .i64 t, .slice A N c], .int .i64 k, .int .i64 n] w fun e w' => ∃ A2 c2, e = .returned (.tuple #[.agg #[.int .i64 (takT t l k n), .slice A2 (takL t l k n).length c2], .int .i64 (takE t l k n)]) ∧ OwB w' w.heap.size (.slice A2 (takL t l k n).length c2) (takL t l k n) ∧ Below w.heap.size w w' := by
  subst hn
  refine (Take_any t A c l k n w hl hb).mono ?_
  rintro e w2 ⟨v, rfl, hv, hbl⟩
  obtain ⟨A2, c2, rfl, _, _, _⟩ := OwL.rd hv
  exact ⟨A2, c2, rfl, hv, hbl⟩
/-- Stores into a budget's box. -/
theorem OwB.box {w : World} {base g : Nat} {v : Value} {l : List Bk} {cs : Array Value} (h : OwB w base v l) (hb : Blk w g 24 cs) (a b : Value) : OwB ((w.setCell ⟨g, 0, none⟩ a).setCell ⟨g, 1, none⟩ b) base v l := by
  have h1 := OwL.far (p := ⟨g, 0, none⟩) h (OwL.apart h hb (by decide)) a
  exact OwL.far (p := ⟨g, 1, none⟩) h1 (OwL.apart h1 (hb.set_ 0 a) (by decide)) b
theorem Blk.box {w : World} {g g' : Nat} {t : TypeId} {cs : Array Value} (h : Blk w g t cs) (hne : g ≠ g') (a b : Value) : Blk ((w.setCell ⟨g', 0, none⟩ a).setCell ⟨g', 1, none⟩ b) g t cs := (h.far (p := ⟨g', 0, none⟩) hne a).far (p := ⟨g', 1, none⟩) hne b
theorem Blk.boxed {w : World} {g : Nat} {x y a b : Value} (h : Blk w g 24 #[x, y]) : Blk ((w.setCell ⟨g, 0, none⟩ a).setCell ⟨g, 1, none⟩ b) g 24 #[a, b] := (h.set_ 0 a).set_ 1 b
end Go.Proofs.Ytlgahhfpdomdmaa

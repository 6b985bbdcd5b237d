/- The walk through the reference Same: two budgets are equal. Condition: the slices lie in memory as lists. -/
import Derived.Test.YtlgahhfpdomdmaaSpec
import Derived.Laws.StructEq
import Derived.KernelRfl
import Derived.WalkKit
import Derived.Deep.QuietTactic
import Derived.BigQuiet
import Derived.Deep.Draws
import Derived.Lib.Hide
import Derived.WalkSmall
set_option linter.unusedVariables false
set_option linter.unusedSimpArgs false
namespace Go.Proofs.Ytlgahhfpdomdmaa
open Go.RowKit
instance : DecidableEq Bk := fun x y => decidable_of_iff (x.par = y.par ∧ x.rate = y.rate ∧ x.burst = y.burst ∧ x.tok = y.tok) (by cases x; cases y; simp)
theorem stood64 : Try.prog.stoodInHeld 64 = false := by kernel_rfl
theorem eqIn64 (x y : Bk) (d : Nat) (w : World) : (Op.equalIn (d + 1 + 1) 64 (.agg x.cells.toArray) (.agg y.cells.toArray)).run Try.prog w = .ok (decide (x = y)) w := by
  rw [run_equalIn_struct w (d + 1) 64 _ _ (by unfold Program.fieldsOf; rw [Try.underlying64]) stood64]
  unfold Program.fieldsOf
  rw [Try.underlying64]
  obtain ⟨p, r, b, t⟩ := x
  obtain ⟨p', r', b', t'⟩ := y
  have hu := Try.underlying3
  simp [Op.eqFields, Bk.cells, go_sem]
  by_cases h1 : p = p' <;> by_cases h2 : r = r' <;> by_cases h3 : b = b' <;> by_cases h4 : t = t' <;> simp [h1, h2, h3, h4]
theorem run_neqB (x y : Bk) (w : World) : (binOp .neq 64 (.agg x.cells.toArray) (.agg y.cells.toArray)).run Try.prog w = .ok (.bool (!decide (x = y))) w := by
  simp only [binOp]
  simp [Op.equal, Op.maxDepth, eqIn64 x y 9998 w]

def sameB (t : Int) (l : List Bk) (t' : Int) (l' : List Bk) : Bool := decide (t = t' ∧ l = l')

set_option maxHeartbeats 1000000 in
theorem Same_any (t : Int) (A : Option Addr) (c : Nat) (l : List Bk) (t' : Int) (A' : Option Addr) (c' : Nat) (l' : List Bk) (w : World) (hl : RdB w A l) (hl' : RdB w A' l') :
    Calls Try.prog 14 #[.agg #[.int .i64 t, .slice A l.length c], .agg #[.int .i64 t', .slice A' l'.length c']] w fun e w' => e = .returned (.bool (sameB t l t' l')) ∧ Below w.heap.size w w' := by
  have hlen := hl.1
  have hlen' := hl'.1
  have HL := Lib.hid hl
  have HL' := Lib.hid hl'
  clear hl hl'
  have bel : Below w.heap.size w ((w.alloc (.cells #[.int .i64 t, .slice A l.length c] 24)).alloc (.cells #[.int .i64 t', .slice A' l'.length c'] 24)) := ((Below.refl _ _).alloc (Nat.le_refl _) _).alloc (by simp) _
  have BEL := Lib.hid bel
  clear bel
  by_cases ht : t = t'
  · by_cases hn : l.length = l'.length
    · have hb1 : (t != t') = false := by simp [ht]
      have hb2 : ((l.length : Int) != (l'.length : Int)) = false := by simp [hn]
      have HT := Lib.hid ht
      have HN := Lib.hid hn
      clear ht hn
      go_enter Try.func14, Try.ntmps14
      go_wp2
      have hk1 := (Blk.new w 24 #[.int .i64 t, .slice A l.length c]).alloc (.cells #[.int .i64 t', .slice A' l'.length c'] 24)
      have hk2 : Blk ((w.alloc (.cells #[.int .i64 t, .slice A l.length c] 24)).alloc (.cells #[.int .i64 t', .slice A' l'.length c'] 24)) (w.heap.size + 1) 24 #[.int .i64 t', .slice A' l'.length c'] := by simpa using Blk.new (w.alloc (.cells #[.int .i64 t, .slice A l.length c] 24)) 24 #[.int .i64 t', .slice A' l'.length c']
      have GK1 := Lib.hid hk1
      have GK2 := Lib.hid hk2
      clear hk1 hk2
      go_loopw [5] (fun i wr => ∃ k : Nat, k ≤ l.length ∧ i = .int .i64 k ∧ Hid (∀ j (h : j < l.length) (h' : j < l'.length), j < k → l[j] = l'[j]) ∧ Hid (Blk wr w.heap.size 24 #[.int .i64 t, .slice A l.length c]) ∧ Hid (Blk wr (w.heap.size + 1) 24 #[.int .i64 t', .slice A' l'.length c']) ∧ Hid (Below w.heap.size w wr)) (fun i _ => l.length - (intOf i).toNat)
      case atStart => exact ⟨0, Nat.zero_le _, rfl, Lib.hid (fun j _ _ h => absurd h (by omega)), GK1, GK2, BEL⟩
      case round =>
        obtain ⟨k, hk, rfl, HE, HK1, HK2, HB⟩ := hrel
        clear GK1 GK2
        have k1 : wr.cell? ⟨w.heap.size, 1, none⟩ = some (.slice A l.length c) := HK1.out.cell 1
        have k2 : wr.cell? ⟨w.heap.size + 1, 1, none⟩ = some (.slice A' l'.length c') := HK2.out.cell 1
        by_cases hlt : k < l.length
        · have hlt' : k < l'.length := by have := HN.out; omega
          obtain ⟨ad, rfl, c0, c1, c2, c3⟩ := RdB.at_ (RdL.below HL.out HB.out) hlt
          obtain ⟨ad', rfl, d0, d1, d2, d3⟩ := RdB.at_ (RdL.below HL'.out HB.out) hlt'
          have hne : ∀ w, (binOp .neq 64 (.agg #[.int .i64 (l[k]).par, .int .i64 (l[k]).rate, .int .i64 (l[k]).burst, .int .i64 (l[k]).tok]) (.agg #[.int .i64 (l'[k]).par, .int .i64 (l'[k]).rate, .int .i64 (l'[k]).burst, .int .i64 (l'[k]).tok])).run Try.prog w = .ok (.bool (!decide (l[k] = l'[k]))) w := run_neqB l[k] l'[k]
          by_cases he : l[k] = l'[k]
          · have hd : decide (l[k] = l'[k]) = true := by simp [he]
            have HE2 := Lib.hid he
            clear he
            go_wp2
            go_quiet (fail)
            go_wp2
            go_roundw
            case rel =>
              refine ⟨k + 1, by omega, by go_num, Lib.hid ?_, HK1, HK2, Lib.hid (below_drewN HB.out _)⟩
              intro j h h' hj
              by_cases hjk : j = k
              · subst hjk; exact HE2.out
              · exact HE.out j h h' (by omega)
            case measure => simp [intOf]; omega
          · have hd : decide (l[k] = l'[k]) = false := by simp [he]
            have hs : sameB t l t' l' = false := by
              unfold sameB
              simp only [decide_eq_false_iff_not]
              rintro ⟨_, rfl⟩
              exact he rfl
            have HS := Lib.hid hs
            clear he hs
            go_wp2
            go_quiet (fail)
            go_wp2
            go_ret
            exact ⟨by rw [HS.out]; rfl, below_drewN HB.out _⟩
        · have hk0 : k = l.length := by omega
          have hs : sameB t l t' l' = true := by
            unfold sameB
            simp only [decide_eq_true_eq]
            refine ⟨HT.out, List.ext_getElem HN.out fun i h h' => HE.out i h h' (by omega)⟩
          have HS := Lib.hid hs
          clear hs hk0
          go_wp2
          go_ret
          exact ⟨by rw [HS.out]; rfl, HB.out⟩
    · have hb1 : (t != t') = false := by simp [ht]
      have hb2 : ((l.length : Int) != (l'.length : Int)) = true := by simp; omega
      have hs : sameB t l t' l' = false := by
        unfold sameB
        simp only [decide_eq_false_iff_not]
        rintro ⟨_, rfl⟩
        exact hn rfl
      have HS := Lib.hid hs
      clear hs hn ht
      go_enter Try.func14, Try.ntmps14
      go_wp2
      go_ret
      exact ⟨by rw [HS.out]; rfl, BEL.out⟩
  · have hb1 : (t != t') = true := by simp [ht]
    have hs : sameB t l t' l' = false := by
      unfold sameB
      simp only [decide_eq_false_iff_not]
      rintro ⟨h, _⟩
      exact ht h
    have HS := Lib.hid hs
    clear hs ht
    go_enter Try.func14, Try.ntmps14
    go_wp2
    go_ret
    exact ⟨by rw [HS.out]; rfl, BEL.out⟩
end Go.Proofs.Ytlgahhfpdomdmaa

/- Handed slices of arrays of bytes and of steps, opened. No condition. -/
import Derived.Test.YtcdifegjlllbfaaOpE
import Derived.Test.YtcdifegjlllbfaaGwn
set_option linter.unusedVariables false
set_option linter.unusedSimpArgs false
namespace Go.Proofs.Ytcdifegjlllbfaa
open Go.ChangeShapes Go.WideShapes Go.Deep Go.RowKit
section
variable {H : Type} {enc : TypeId × Value → H} {w : World} {base : Nat} {spare : Nat → Bool} {held : Bool}
theorem byte_in {n : Int} (h : (Lit.int .u8 n).wf = true) : 0 ≤ n ∧ n ≤ 255 := by
  simpa [Lit.wf, IntKind.min, IntKind.max, IntKind.signed, IntKind.bits] using h
theorem open_rows {P : Program} {α : Type} (E : Enc α) (ok : α → Prop) {t e : TypeId} {fuel : Nat} {cs : List Value} {x : DataW H × List MemPlace} (ht : P.underlying t = some (.slice e)) (hC : P.cellsOf e = E.size)
    (hx : ∀ (cs' : List Value) (m : Nat) (y : DataW H × List MemPlace), cs'.length = E.size → DataW.trod enc P w base spare held m e cs' = some y → ∃ x : α, ok x ∧ ∀ (j : Nat) (u : Value), (E.cells x)[j]? = some u → cs'[j]? = some u)
    (h : DataW.trod enc P w base spare held fuel t cs = some x) : ∃ (A : Option Addr) (l : List α) (c : Nat), cs = [.slice A l.length c] ∧ l.length ≤ c ∧ c ≤ maxLen ∧ RdL E w A l ∧ (∀ x ∈ l, ok x) := by
  rcases open_slice ht h with ⟨rfl, _⟩ | ⟨a, len, cap, m, n, D, Pl, hcs, hb, hl, hm, hmm, _, hi⟩
  · exact ⟨none, [], 0, rfl, Nat.le_refl _, by unfold maxLen; omega, RdL.nil _ _ _, by simp⟩
  · have hat : ∀ i, i < len → ∃ x : α, ok x ∧ ∀ j u, (E.cells x)[j]? = some u → w.cell? (a.add (i * E.size + j)) = some u := by
      intro i hil
      have him : i < m := by rw [hmm]; split <;> omega
      obtain ⟨cs', hc, ht'⟩ := hi i him
      rw [hC] at hc
      obtain ⟨_, hcl, hat⟩ := World.cells?_some hc
      obtain ⟨x, ox, hxc⟩ := hx cs' _ _ hcl ht'
      refine ⟨x, ox, fun j u hu => ?_⟩
      have hj : j < E.size := by rw [← E.len x]; exact (List.getElem?_eq_some_iff.1 hu).1
      have := hat j (by omega)
      rw [← Go.Deep.add_add, this, hxc j u hu]
    let g : (i : Nat) → i < len → α := fun i hi => Classical.choose (hat i hi)
    have hg : ∀ i hi, ok (g i hi) ∧ ∀ j u, (E.cells (g i hi))[j]? = some u → w.cell? (a.add (i * E.size + j)) = some u := fun i hi => Classical.choose_spec (hat i hi)
    let l : List α := List.ofFn fun i : Fin len => g i.1 i.2
    have hll : l.length = len := by simp [l]
    have hlk : ∀ k (hk : k < l.length), l[k] = g k (by omega) := fun k hk => by simp [l]
    refine ⟨some a, l, cap, by rw [hll]; exact hcs, by omega, hm, RdL.make (by unfold maxLen at hm; omega) fun k hk j u hu => ?_, fun x hx => ?_⟩
    · rw [hlk k hk] at hu
      exact (hg k (by omega)).2 j u hu
    · obtain ⟨k, hk, rfl⟩ := List.getElem_of_mem hx
      rw [hlk k hk]
      exact (hg k (by omega)).1
set_option maxRecDepth 100000 in
theorem open_pairs {r : Reach} {b0 : Nat} {v : Value} {d : DataW H} {p : List MemPlace} (hv : Value.okWide Try.prog w r b0 77 v) (h : DataW.Trod enc Try.prog w base spare held 77 v d p) :
    ∃ (A : Option Addr) (l : List P8) (c : Nat), v = .slice A l.length c ∧ RdE w A l ∧ ∀ x ∈ l, x.Ok := by
  obtain ⟨a, n, c, rfl⟩ := okWide_slice Try.underlying77 hv
  obtain ⟨fuel, hf⟩ := h
  have c5 : Try.prog.cellsOf 5 = 1 := by kernel_rfl
  obtain ⟨A, l, c, e1, _, _, hr, hok⟩ := open_rows eE P8.Ok Try.underlying77 (by kernel_rfl) (fun cs' m y hl ht => by
    obtain ⟨ys, m', _, _, _, hyl, hg⟩ := DataW.trod_array Try.underlying115 ht
    match cs', hl with
    | [u0, u1], _ =>
      have g0 := hg 0 (by omega)
      have g1 := hg 1 (by omega)
      rw [c5] at g0 g1
      replace g0 : DataW.trod enc Try.prog w base spare held m' 5 [u0] = ys[0]? := g0
      replace g1 : DataW.trod enc Try.prog w base spare held m' 5 [u1] = ys[1]? := g1
      rw [List.getElem?_eq_getElem (by omega)] at g0 g1
      obtain ⟨n0, a0, _, b0⟩ := DataW.trod_int Try.underlying5 g0
      obtain ⟨n1, a1, _, b1⟩ := DataW.trod_int Try.underlying5 g1
      injection a0 with a0
      injection a1 with a1
      exact ⟨⟨n0, n1⟩, ⟨byte_in b0, byte_in b1⟩, fun j u hu => by rw [a0, a1]; exact hu⟩) hf
  simp only [Value.cells, List.cons.injEq, and_true] at e1
  exact ⟨A, l, _, e1, hr, hok⟩
end
end Go.Proofs.Ytcdifegjlllbfaa

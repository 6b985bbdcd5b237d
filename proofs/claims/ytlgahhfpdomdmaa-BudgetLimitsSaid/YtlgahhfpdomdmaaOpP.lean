/- Handed plans, uses and small arrays of bytes, opened. No condition. -/
import Derived.Test.YtlgahhfpdomdmaaOpB
import Derived.Test.YtlgahhfpdomdmaaPlan
set_option linter.unusedVariables false
set_option linter.unusedSimpArgs false
namespace Go.Proofs.Ytlgahhfpdomdmaa
open Go.ChangeShapes Go.WideShapes Go.Deep Go.RowKit
section
variable {H : Type} {enc : TypeId × Value → H} {w : World} {base : Nat} {spare : Nat → Bool} {held : Bool}
theorem byte_in {n : Int} (h : (Lit.int .u8 n).wf = true) : 0 ≤ n ∧ n ≤ 255 := by
  simpa [Lit.wf, IntKind.min, IntKind.max, IntKind.signed, IntKind.bits] using h
theorem open_plans {r : Reach} {b0 : Nat} {v : Value} {d : DataW H} {p : List MemPlace} (hv : Value.okWide Try.prog w r b0 47 v) (h : DataW.Trod enc Try.prog w base spare held 47 v d p) :
    ∃ (A : Option Addr) (l : List Pl) (c : Nat), v = .slice A l.length c ∧ RdP w A l ∧ ∀ x ∈ l, x.Ok := by
  obtain ⟨a, n, c, rfl⟩ := okWide_slice Try.underlying47 hv
  obtain ⟨fuel, hf⟩ := h
  obtain ⟨A, l, c, e1, _, _, hr, hok⟩ := open_list eP Pl.Ok Try.underlying47 Try.underlying58 (by kernel_rfl) (by kernel_rfl) rfl (fun g hg => by
    obtain ⟨_, _, g0⟩ := hg 0 _ rfl
    obtain ⟨_, _, g1⟩ := hg 1 _ rfl
    obtain ⟨_, _, g2⟩ := hg 2 _ rfl
    obtain ⟨n0, a0, _, b0⟩ := DataW.trod_int Try.underlying5 g0
    obtain ⟨n1, a1, _, b1⟩ := DataW.trod_int Try.underlying5 g1
    obtain ⟨n2, a2, _, b2⟩ := DataW.trod_int Try.underlying5 g2
    injection a0 with a0
    injection a1 with a1
    injection a2 with a2
    refine ⟨⟨n0, n1, n2⟩, ⟨byte_in b0, byte_in b1, byte_in b2⟩, fun j u hu => ?_⟩
    have hj : j < 3 := (List.getElem?_eq_some_iff.1 hu).1
    rcases j with _ | _ | _ | j
    · rw [a0]; exact (Option.some.inj hu).symm
    · rw [a1]; exact (Option.some.inj hu).symm
    · rw [a2]; exact (Option.some.inj hu).symm
    · omega) hf
  simp only [Value.cells, List.cons.injEq, and_true] at e1
  exact ⟨A, l, _, e1, hr, hok⟩
theorem open_uses {r : Reach} {b0 : Nat} {v : Value} {d : DataW H} {p : List MemPlace} (hv : Value.okWide Try.prog w r b0 48 v) (h : DataW.Trod enc Try.prog w base spare held 48 v d p) :
    ∃ (A : Option Addr) (l : List Us) (c : Nat), v = .slice A l.length c ∧ RdU w A l ∧ ∀ x ∈ l, x.Ok := by
  obtain ⟨a, n, c, rfl⟩ := okWide_slice Try.underlying48 hv
  obtain ⟨fuel, hf⟩ := h
  obtain ⟨A, l, c, e1, _, _, hr, hok⟩ := open_list eU Us.Ok Try.underlying48 Try.underlying82 (by kernel_rfl) (by kernel_rfl) rfl (fun g hg => by
    obtain ⟨_, _, g0⟩ := hg 0 _ rfl
    obtain ⟨_, _, g1⟩ := hg 1 _ rfl
    obtain ⟨_, _, g2⟩ := hg 2 _ rfl
    obtain ⟨n0, a0, _, b0⟩ := DataW.trod_int Try.underlying5 g0
    obtain ⟨n1, a1, _, b1⟩ := DataW.trod_int Try.underlying5 g1
    obtain ⟨n2, a2, _, b2⟩ := DataW.trod_int Try.underlying5 g2
    injection a0 with a0
    injection a1 with a1
    injection a2 with a2
    refine ⟨⟨n0, n1, n2⟩, ⟨byte_in b0, byte_in b1, byte_in b2⟩, fun j u hu => ?_⟩
    have hj : j < 3 := (List.getElem?_eq_some_iff.1 hu).1
    rcases j with _ | _ | _ | j
    · rw [a0]; exact (Option.some.inj hu).symm
    · rw [a1]; exact (Option.some.inj hu).symm
    · rw [a2]; exact (Option.some.inj hu).symm
    · omega) hf
  simp only [Value.cells, List.cons.injEq, and_true] at e1
  exact ⟨A, l, _, e1, hr, hok⟩
/-- An array of bytes. -/
theorem open_bytes {t : TypeId} {n : Nat} (ht : Try.prog.underlying t = some (.array n 5)) (hc : Try.prog.cellsOf t = n) {r : Reach} {b0 : Nat} {v : Value} {d : DataW H} {p : List MemPlace} (hv : Value.okWide Try.prog w r b0 t v) (h : DataW.Trod enc Try.prog w base spare held t v d p) :
    ∃ xs : List Int, xs.length = n ∧ v = .agg (xs.map (Value.int .u8)).toArray ∧ ∀ x ∈ xs, 0 ≤ x ∧ x ≤ 255 := by
  obtain ⟨cs, rfl, hsz⟩ : ∃ cs : Array Value, v = .agg cs ∧ cs.size = n := by
    simp only [Value.okWide, ht] at hv
    obtain ⟨cs, h1, h2, _⟩ := hv
    exact ⟨cs, h1, by rw [h2, hc]⟩
  obtain ⟨fuel, hf⟩ := h
  obtain ⟨ys, m, _, _, _, hl, hg⟩ := DataW.trod_array ht hf
  have c5 : Try.prog.cellsOf 5 = 1 := by kernel_rfl
  simp only [Value.cells, c5, Nat.mul_one] at hg
  have hat : ∀ i (hi : i < cs.size), ∃ x : Int, cs[i] = .int .u8 x ∧ 0 ≤ x ∧ x ≤ 255 := fun i hi => by
    have h1 := hg i (by omega)
    have hone : (cs.toList.drop i).take 1 = [cs[i]] := by
      rw [List.drop_eq_getElem_cons (by simpa using hi)]
      simp
    rw [hone, List.getElem?_eq_getElem (by omega)] at h1
    obtain ⟨x, a, _, b⟩ := DataW.trod_int Try.underlying5 h1
    injection a with a
    exact ⟨x, a, byte_in b⟩
  refine ⟨List.ofFn fun i : Fin cs.size => Classical.choose (hat i.1 i.2), by simp [hsz], ?_, fun x hx => ?_⟩
  · congr 1
    apply Array.ext
    · simp
    · intro i h1 h2
      simp only [List.getElem_toArray, List.getElem_map, List.getElem_ofFn]
      exact (Classical.choose_spec (hat i h1)).1
  · obtain ⟨i, hi, rfl⟩ := List.getElem_of_mem hx
    rw [List.getElem_ofFn]
    exact (Classical.choose_spec (hat _ _)).2
theorem open_two {r : Reach} {b0 : Nat} {v : Value} {d : DataW H} {p : List MemPlace} (hv : Value.okWide Try.prog w r b0 60 v) (h : DataW.Trod enc Try.prog w base spare held 60 v d p) :
    ∃ x0 x1 : Int, v = .agg #[.int .u8 x0, .int .u8 x1] ∧ (0 ≤ x0 ∧ x0 ≤ 255) ∧ (0 ≤ x1 ∧ x1 ≤ 255) := by
  obtain ⟨xs, hl, rfl, hb⟩ := open_bytes (n := 2) (by kernel_rfl) (by kernel_rfl) hv h
  match xs, hl with
  | [x0, x1], _ => exact ⟨x0, x1, rfl, hb x0 (by simp), hb x1 (by simp)⟩
theorem open_three {r : Reach} {b0 : Nat} {v : Value} {d : DataW H} {p : List MemPlace} (hv : Value.okWide Try.prog w r b0 49 v) (h : DataW.Trod enc Try.prog w base spare held 49 v d p) :
    ∃ x0 x1 x2 : Int, v = .agg #[.int .u8 x0, .int .u8 x1, .int .u8 x2] ∧ (0 ≤ x0 ∧ x0 ≤ 255) ∧ (0 ≤ x1 ∧ x1 ≤ 255) ∧ (0 ≤ x2 ∧ x2 ≤ 255) := by
  obtain ⟨xs, hl, rfl, hb⟩ := open_bytes (n := 3) (by kernel_rfl) (by kernel_rfl) hv h
  match xs, hl with
  | [x0, x1, x2], _ => exact ⟨x0, x1, x2, rfl, hb x0 (by simp), hb x1 (by simp), hb x2 (by simp)⟩
theorem open_four {r : Reach} {b0 : Nat} {v : Value} {d : DataW H} {p : List MemPlace} (hv : Value.okWide Try.prog w r b0 62 v) (h : DataW.Trod enc Try.prog w base spare held 62 v d p) :
    ∃ x0 x1 x2 x3 : Int, v = .agg #[.int .u8 x0, .int .u8 x1, .int .u8 x2, .int .u8 x3] ∧ (0 ≤ x0 ∧ x0 ≤ 255) ∧ (0 ≤ x1 ∧ x1 ≤ 255) ∧ (0 ≤ x2 ∧ x2 ≤ 255) ∧ (0 ≤ x3 ∧ x3 ≤ 255) := by
  obtain ⟨xs, hl, rfl, hb⟩ := open_bytes (n := 4) (by kernel_rfl) (by kernel_rfl) hv h
  match xs, hl with
  | [x0, x1, x2, x3], _ => exact ⟨x0, x1, x2, x3, rfl, hb x0 (by simp), hb x1 (by simp), hb x2 (by simp), hb x3 (by simp)⟩
end
end Go.Proofs.Ytlgahhfpdomdmaa

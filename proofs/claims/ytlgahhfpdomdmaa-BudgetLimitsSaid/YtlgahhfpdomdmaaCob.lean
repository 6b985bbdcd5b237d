/- The contracts of built, used, When, with the time under a name. No condition. -/
import Derived.Test.YtlgahhfpdomdmaaCon
import Derived.Test.YtlgahhfpdomdmaaKnw
set_option linter.unusedVariables false
set_option linter.unusedSimpArgs false
namespace Go.Proofs.Ytlgahhfpdomdmaa
open Go.RowKit

/-- built, the time under a name. -/
theorem built_op (A : Option Addr) (c : Nat) (l : List Pl) (w : World) (hl : RdP w A l) (hok : ∀ x ∈ l, x.Ok) (h8 : l.length ≤ 8) :
    Calls Try.prog 25 #[.slice A l.length c] w fun e w' => ∃ (T : Int) (A1 : Option Addr) (c1 : Nat) (L : List Bk), e = .returned (.tuple #[.agg #[.int .i64 T, .slice A1 l.length c1], .bool true]) ∧ 0 ≤ T ∧ T ≤ 0 ∧ Hid (L = builtL l) ∧ Hid (OwB w' w.heap.size (.slice A1 l.length c1) L) ∧ Below w.heap.size w w' := by
  refine (built_any A c l w hl hok h8).mono ?_
  rintro e w1 ⟨v, rfl, hv, hb⟩
  obtain ⟨A1, c1, rfl, _, _, _⟩ := OwL.rd hv
  rw [builtL_length] at hv ⊢
  exact ⟨0, A1, c1, _, rfl, Int.le_refl _, Int.le_refl _, Lib.hid rfl, Lib.hid hv, hb⟩
/-- used of what was built. -/
theorem used_op (T : Int) (base : Nat) (A : Option Addr) (n c : Nat) (p : List Pl) (L : List Bk) (A' : Option Addr) (c' : Nat) (us : List Us) (w : World) (hl : OwB w base (.slice A n c) L) (hbase : base ≤ w.heap.size)
    (hL : L = builtL p) (hn : p.length = n) (h8 : n ≤ 8) (hl0 : 0 < n) (ht0 : 0 ≤ T) (ht : T ≤ 0) (hu : RdU w A' us) (huo : ∀ u ∈ us, u.Ok) :
    Calls Try.prog 26 #[.agg #[.int .i64 T, .slice A n c], .slice A' us.length c'] w fun e w' => ∃ (T2 : Int) (A2 : Option Addr) (c2 : Nat) (vt : Value) (L2 : List Bk), e = .returned (.tuple #[.agg #[.int .i64 T2, .slice A2 n c2], vt, .bool true]) ∧
      0 ≤ T2 ∧ T2 ≤ 100 ∧ Hid (BudOk T2 L2) ∧ Hid (L2.length = n) ∧ Hid (SamePar L2 (builtL p)) ∧ Hid (OwB w' base (.slice A2 n c2) L2) ∧ Below w.heap.size w w' := by
  have hT : T = 0 := by omega
  subst hL hT hn
  have hok := builtL_ok h8
  have hc := used_any 0 base A c (builtL p) A' c' us w (by rw [builtL_length]; exact hl) hbase hok (by rw [builtL_length]; exact hl0) (by omega) hu huo
  rw [builtL_length] at hc
  refine hc.mono ?_
  rintro e w2 ⟨v, vt, rfl, hv, _, hb⟩
  have h1 : (us.take 20).length ≤ 20 := by simp; omega
  have hrun := runU_ok (us.take 20) ⟨0, builtL p, []⟩ hok (by show 0 < (builtL p).length; rw [builtL_length]; exact hl0) (by show (0 : Int) + 5 * _ ≤ _; omega)
  have hsame := same_run (us.take 20) ⟨0, builtL p, []⟩
  obtain ⟨s, hs⟩ : ∃ s, s = runU ⟨0, builtL p, []⟩ (us.take 20) := ⟨_, rfl⟩
  rw [← hs] at hrun hsame hv ⊢
  have hlenr : s.l.length = p.length := hsame.1.trans (builtL_length p)
  obtain ⟨hbo, t0, t1⟩ := hrun
  replace t0 : 0 ≤ s.t := t0
  replace t1 : s.t ≤ 0 + 5 * ((us.take 20).length : Int) := t1
  obtain ⟨A2, c2, rfl, _, _, _⟩ := OwL.rd hv
  rw [hlenr] at hv ⊢
  exact ⟨s.t, A2, c2, vt, s.l, rfl, t0, by omega, Lib.hid hbo, Lib.hid hlenr, Lib.hid hsame, Lib.hid hv, hb⟩
/-- Advance of a budget in order, under a name. -/
theorem Adv_op (t : Int) (A : Option Addr) (n c : Nat) (l : List Bk) (now : Int) (w : World) {base : Nat} (hl : OwB w base (.slice A n c) l) (hb : BudOk t l) (h0 : t ≤ now) (h1 : now ≤ 1073741824) :
    Calls Try.prog 17 #[.agg #[.int .i64 t, .slice A n c], .int .i64 now] w fun e w' => ∃ A2 c2 l2, e = .returned (.tuple #[.agg #[.int .i64 now, .slice A2 n c2], .int .i64 0]) ∧ Hid (l2 = l.map (Bk.later (now - t))) ∧ Hid (BudOk now l2) ∧ Hid (OwB w' w.heap.size (.slice A2 n c2) l2) ∧ Below w.heap.size w w' := by
  obtain ⟨A', c', e, _, _, hr⟩ := OwL.rd hl
  injection e with e1 e2 e3
  subst e1 e2 e3
  refine (Adv_ok t A l.length c l now w hr rfl hb h0 h1).mono ?_
  rintro e w2 ⟨A2, c2, rfl, hv, hbl⟩
  have hk := hb.later (d := now - t) (by omega) (by omega)
  rw [show t + (now - t) = now by omega] at hk
  exact ⟨A2, c2, _, rfl, Lib.hid rfl, Lib.hid hk, Lib.hid hv, hbl⟩
/-- Available of a budget in order. -/
theorem Avl_op (t : Int) (A : Option Addr) (n c : Nat) (l : List Bk) (k : Int) (w : World) {base : Nat} (hl : OwB w base (.slice A n c) l) (hb : BudOk t l) (hk0 : 0 ≤ k) (hk : k < n) :
    Calls Try.prog 19 #[.agg #[.int .i64 t, .slice A n c], .int .i64 k] w fun e w' => ∃ m : Int, e = .returned (.tuple #[.int .i64 m, .int .i64 0]) ∧ Hid (m = availL l k.toNat) ∧ 0 ≤ m ∧ m ≤ 1073741824 ∧ Below w.heap.size w w' := by
  obtain ⟨A', c', e, _, _, hr⟩ := OwL.rd hl
  injection e with e1 e2 e3
  subst e1 e2 e3
  obtain ⟨k, rfl⟩ := Int.eq_ofNat_of_zero_le hk0
  refine (Avl_ok t A l.length c l k w hr rfl hb (by omega)).mono ?_
  rintro e w2 ⟨rfl, hbl⟩
  exact ⟨_, rfl, Lib.hid rfl, availL_nonneg hb (by omega), availL_le hb (by omega), hbl⟩
/-- When of a budget in order. -/
theorem Whn_op (t : Int) (A : Option Addr) (n c : Nat) (l : List Bk) (k N : Int) (w : World) {base : Nat} (hl : OwB w base (.slice A n c) l) (hb : BudOk t l) (hk0 : 0 ≤ k) (hk : k < n) (hN0 : 0 ≤ N) (hN : N ≤ 1000) :
    Calls Try.prog 23 #[.agg #[.int .i64 t, .slice A n c], .int .i64 k, .int .i64 N] w fun e w' => ∃ tt E : Int, e = .returned (.tuple #[.int .i64 tt, .int .i64 E]) ∧ Hid (tt = whnT t l k N) ∧ Hid (E = whnE t l k N) ∧ Below w.heap.size w w' := by
  obtain ⟨A', c', e, _, _, hr⟩ := OwL.rd hl
  injection e with e1 e2 e3
  subst e1 e2 e3
  refine (When_any t A c l k N w hr (by omega)).mono ?_
  rintro e w2 ⟨rfl, hbl⟩
  exact ⟨_, _, rfl, Lib.hid rfl, Lib.hid rfl, hbl⟩
theorem takL_length_le (t : Int) (l : List Bk) (k n : Int) : (takL t l k n).length ≤ l.length := by
  unfold takL
  split
  · rw [takeM_length]; exact Nat.le_refl _
  · simp
/-- Take, each part under a name. -/
theorem Tak_op (t : Int) (A : Option Addr) (N c : Nat) (l : List Bk) (k n : Int) (w : World) {base : Nat} (hl : OwB w base (.slice A N c) l) (hb : l.length ≤ 4096) :
    Calls Try.prog 21 #[.agg #[.int .i64 t, .slice A N c], .int .i64 k, .int .i64 n] w fun e w' => ∃ (t2 : Int) (A2 : Option Addr) (n2 c2 : Nat) (l2 : List Bk) (E : Int), e = .returned (.tuple #[.agg #[.int .i64 t2, .slice A2 n2 c2], .int .i64 E]) ∧
      Hid (t2 = takT t l k n) ∧ Hid (l2 = takL t l k n) ∧ Hid (E = takE t l k n) ∧ Hid (l2.length = n2) ∧ Hid (l2.length ≤ 4096) ∧ Hid (OwB w' w.heap.size (.slice A2 n2 c2) l2) ∧ Below w.heap.size w w' := by
  obtain ⟨A', c', e, _, _, hr⟩ := OwL.rd hl
  injection e with e1 e2 e3
  subst e1 e2 e3
  refine (Take_any t A c l k n w hr hb).mono ?_
  rintro e w2 ⟨v, rfl, hv, hbl⟩
  obtain ⟨A2, c2, rfl, _, _, _⟩ := OwL.rd hv
  exact ⟨_, A2, _, c2, _, _, rfl, Lib.hid rfl, Lib.hid rfl, Lib.hid rfl, Lib.hid rfl, Lib.hid (Nat.le_trans (takL_length_le t l k n) hb), Lib.hid hv, hbl⟩
/-- What two takes leave at a bucket. -/
theorem two_tok {t : Int} {l L0 : List Bk} (h : BudOk t l) (hp : SamePar l L0) {i k : Nat} (hi : i < l.length) (hk : k < l.length) {n m : Int} (hn : 0 ≤ n) (hm : 0 ≤ m) (h2 : two t l i k n m) {l2 : List Bk} (hl2 : l2 = takL (takT t l i n) (takL t l i n) k m) {j : Nat} (hj : j < l.length) (hj' : j < l2.length) :
    l2[j].tok = l[j].tok - (if j ∈ pathL L0 i then n else 0) - (if j ∈ pathL L0 k then m else 0) := by
  have he := (two_eq h hi hk hn hm h2).2
  rw [← hl2] at he
  rw [← tokAt_of hj', he, takeM_tok (by rw [takeM_length]; exact hj), takeM_tok hj, tokAt_of hj, pathL_same hp, pathL_same hp]
end Go.Proofs.Ytlgahhfpdomdmaa

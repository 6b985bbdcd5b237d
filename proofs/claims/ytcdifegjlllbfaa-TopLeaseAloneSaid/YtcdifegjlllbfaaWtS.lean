/- The run of leases in memory: a block and three slices that it owns. Plain lemmas; no condition. -/
import Derived.Test.YtcdifegjlllbfaaWtH
import Derived.Test.YtcdifegjlllbfaaWtC
import Derived.Test.YtcdifegjlllbfaaWtD
import Derived.Test.YtcdifegjlllbfaaFnC
import Derived.Deep.RegionHeld3
import Derived.IntWalk
set_option linter.unusedVariables false
set_option linter.unusedSimpArgs false
namespace Go.Proofs.Ytcdifegjlllbfaa
open Go.RowKit
/-- A request with the time at which it was sent. -/
structure Rs where
  sent : Int
  m : Mg
structure St where
  now : Int
  term : Int
  margin : Int
  w : Wi
  ls : List Le
  rq : List Rs
  an : List Mg
  f : Fe
def eLe : Enc Le := ⟨3, by decide, fun l => [.int .i64 l.si, .int .i64 l.ep, .int .i64 l.un], fun _ => rfl, by intro x u hu; simp at hu; rcases hu with rfl | rfl | rfl <;> rfl⟩
def eRs : Enc Rs := ⟨9, by decide, fun r => [.int .i64 r.sent, .int .i64 r.m.ki, .int .i64 r.m.fr, .int .i64 r.m.to, .int .i64 r.m.nu, .int .i64 r.m.va, .int .i64 r.m.ep, .slice none 0 0, .slice none 0 0], fun _ => rfl, by intro x u hu; simp at hu; rcases hu with rfl | rfl | rfl | rfl | rfl | rfl | rfl | rfl <;> rfl⟩
def St.cells (s : St) (vL vR vA : Value) : Array Value := #[.int .i64 s.now, .int .i64 s.term, .int .i64 s.margin, .int .i64 s.w.ep, .int .i64 s.w.ho, .int .i64 s.w.un, vL, vR, vA, .int .i64 s.f.ep, .int .i64 s.f.ow, .bool s.f.cl]
theorem info41 : (Try.prog.info? 41).map (fun i => (i.zero, i.size, i.bytes)) = some (some (.agg #[.int .i64 0, .int .i64 0, .int .i64 0]), 3, 24) := by kernel_rfl
theorem info85 : (Try.prog.info? 85).map (fun i => (i.zero, i.size, i.bytes)) = some (some (.agg #[.int .i64 0, .int .i64 0, .int .i64 0, .int .i64 0, .int .i64 0, .int .i64 0, .slice none 0 0, .slice none 0 0]), 8, 96) := by kernel_rfl
theorem info93 : (Try.prog.info? 93).map (fun i => (i.zero, i.size, i.bytes)) = some (some (.agg #[.int .i64 0, .int .i64 0, .int .i64 0, .int .i64 0, .int .i64 0, .int .i64 0, .int .i64 0, .slice none 0 0, .slice none 0 0]), 9, 104) := by kernel_rfl
/-- The types of a run's blocks. -/
def RunT (t : TypeId) : Prop := t = 39 ∨ t = 41 ∨ t = 85 ∨ t = 93
def TypedAt (w : World) (b : Nat) : Prop := ∃ cs t f, w.heap[b]? = some (.cells cs t f) ∧ RunT t
theorem TypedAt.set {w : World} {b : Nat} (h : TypedAt w b) (p : Addr) (u : Value) : TypedAt (w.setCell p u) b := by
  obtain ⟨cs, t, f, h1, h2⟩ := h
  unfold TypedAt
  simp only [World.setCell, Array.getElem?_modify]
  split
  · rw [h1]; exact ⟨_, _, _, rfl, h2⟩
  · rw [h1]; exact ⟨_, _, _, rfl, h2⟩
theorem Blk.typed {w : World} {g : Nat} {t : TypeId} {cs : Array Value} (h : Blk w g t cs) (ht : RunT t) : TypedAt w g := ⟨_, _, _, h, ht⟩
theorem OwL.typed {α : Type} {E : Enc α} {e : TypeId} {w : World} {base : Nat} {v : Value} {l : List α} (h : OwL E e w base v l) (ht : RunT e) : ∀ k, v.ownBlock = some k → TypedAt w k := by
  intro k hk
  rcases h.2 with ⟨rfl, _⟩ | ⟨g2, cap2, cur, rfl, _, hh, _⟩
  · simp [Value.ownBlock] at hk
  · have e2 : g2 = k := by simpa [Value.ownBlock] using hk
    subst e2
    exact ⟨_, _, _, hh, ht⟩
/-- Below B nothing has turned, and no block anywhere whose type is none of a run's. -/
structure Bw (B : Nat) (a w : World) : Prop where
  low : Below B a w
  keep : ∀ (k : Nat) (o : Obj), a.heap[k]? = some o → (∀ cs t f, o = .cells cs t f → ¬ RunT t) → w.heap[k]? = some o
theorem Bw.refl (B : Nat) (w : World) : Bw B w w := ⟨Below.refl _ _, fun _ _ h _ => h⟩
theorem Bw.trans {B : Nat} {a b c : World} (h : Bw B a b) (k : Bw B b c) : Bw B a c := ⟨h.low.trans k.low, fun i o e n => k.keep i o (h.keep i o e n) n⟩
theorem Bw.size {B : Nat} {a b : World} (h : Bw B a b) : a.heap.size ≤ b.heap.size := h.low.size
theorem Bw.of {B : Nat} {a b : World} (h : Below a.heap.size a b) (hB : B ≤ a.heap.size) : Bw B a b := ⟨h.mono hB, fun k o e _ => (h.block k (Array.getElem?_eq_some_iff.1 e).1).trans e⟩
theorem Bw.drew {B : Nat} {a w : World} (h : Bw B a w) : Bw B a w.drew := ⟨h.low.drew, h.keep⟩
theorem Bw.alloc {B : Nat} {a w : World} (h : Bw B a w) (hB : B ≤ w.heap.size) (o : Obj) : Bw B a (w.alloc o) := h.trans (Bw.of ((Below.refl _ _).alloc (Nat.le_refl _) o) hB)
theorem Bw.setCell {B : Nat} {a w : World} (h : Bw B a w) {p : Addr} (hp : B ≤ p.block) (ht : TypedAt w p.block) (u : Value) : Bw B a (w.setCell p u) := by
  refine ⟨h.low.setCell hp u, fun k o e n => ?_⟩
  have h1 := h.keep k o e n
  refine (Below.heap_setCell w p u k fun e2 => ?_).trans h1
  obtain ⟨cs, t, f, h2, h3⟩ := ht
  rw [← e2, h1] at h2
  injection h2 with h2
  exact n cs t f h2 h3
theorem Bw.grown {B : Nat} {a w w' : World} {row : Option Nat} (h : Bw B a w) (hg : w.grownBy w' row) (hB : B ≤ w.heap.size) (hr : ∀ k, row = some k → B ≤ k) (hc : ∀ k, row = some k → TypedAt w k) : Bw B a w' := by
  refine ⟨h.low.grown hg hB hr, fun k o e n => ?_⟩
  have h1 := h.keep k o e n
  refine (hg.block k (Array.getElem?_eq_some_iff.1 h1).1 fun e2 => ?_).trans h1
  obtain ⟨cs, t, f, h2, h3⟩ := hc k e2.symm
  rw [h1] at h2
  injection h2 with h2
  exact n cs t f h2 h3
theorem t39 : RunT 39 := .inl rfl
theorem t41 : RunT 41 := .inr (.inl rfl)
theorem t85 : RunT 85 := .inr (.inr (.inl rfl))
theorem t93 : RunT 93 := .inr (.inr (.inr rfl))
/-- Three stores into a block of the run. -/
theorem Bw.set3 {B : Nat} {a w : World} (h : Bw B a w) {g i j k : Nat} (hp : B ≤ g) (ht : TypedAt w g) (u v x : Value) : Bw B a (((w.setCell ⟨g, i, none⟩ u).setCell ⟨g, j, none⟩ v).setCell ⟨g, k, none⟩ x) :=
  ((h.setCell (p := ⟨g, i, none⟩) hp ht u).setCell (p := ⟨g, j, none⟩) hp (ht.set _ _) v).setCell (p := ⟨g, k, none⟩) hp ((ht.set _ _).set _ _) x
/-- The run lies: its block, and the slices of leases, requests and answers. -/
structure Lie (B : Nat) (W : World) (g : Nat) (s : St) (vL vR vA : Value) : Prop where
  blk : Blk W g 39 (s.cells vL vR vA)
  low : B ≤ g
  ol : OwL eLe 41 W B vL s.ls
  or_ : OwL eRs 93 W B vR s.rq
  oa : OwL eMg 85 W B vA s.an
def Lies (B : Nat) (W : World) (g : Nat) (s : St) : Prop := ∃ vL vR vA, Lie B W g s vL vR vA
section
variable {B g : Nat} {W W' : World} {s : St} {vL vR vA : Value}
theorem Lie.below (h : Lie B W g s vL vR vA) (hb : Below W.heap.size W W') : Lie B W' g s vL vR vA :=
  ⟨h.blk.below hb h.blk.lt, h.low, h.ol.below hb, h.or_.below hb, h.oa.below hb⟩
theorem Lie.lt (h : Lie B W g s vL vR vA) : g < W.heap.size := h.blk.lt
theorem Lie.base (h : Lie B W g s vL vR vA) : B ≤ W.heap.size := Nat.le_trans h.low (Nat.le_of_lt h.lt)
theorem Lie.up (h : Lie B W g s vL vR vA) (hb : Below W.heap.size W W') : Bw B W W' := Bw.of hb h.base
end
theorem OwL.rd_ {α : Type} {E : Enc α} {e : TypeId} {w : World} {base n c : Nat} {A : Option Addr} {l : List α} (h : OwL E e w base (.slice A n c) l) : RdL E w A l := by
  obtain ⟨A', c', e', _, _, hr⟩ := OwL.rd h
  injection e' with e1 e2 e3
  subst e1
  exact hr
theorem OwL.apart_ {α β : Type} {E : Enc α} {F : Enc β} {e f : TypeId} {w : World} {base base' : Nat} {v u : Value} {l : List α} {m : List β} (h : OwL E e w base v l) (h' : OwL F f w base' u m) (hne : e ≠ f) : ∀ k, v.ownBlock = some k → some k ≠ u.ownBlock := by
  intro k hk hk'
  rcases h.2 with ⟨rfl, _⟩ | ⟨g2, cap2, cur, rfl, _, hh, _⟩
  · simp [Value.ownBlock] at hk
  · have e2 : g2 = k := by simpa [Value.ownBlock] using hk
    subst e2
    rcases h'.2 with ⟨rfl, _⟩ | ⟨g3, cap3, cur3, rfl, _, hh', _⟩
    · simp [Value.ownBlock] at hk'
    · have e3 : g2 = g3 := by simpa [Value.ownBlock] using hk'
      subst e3
      rw [hh] at hh'
      injection hh' with hh'
      injection hh' with _ h2
      exact hne h2
/-- append(v, xs...) at a step of a region that draws its order. -/
theorem step_append_ {α : Type} {E : Enc α} {P : Program} {w : World} {ops : Array Oper} {o : Oper} {a : Act} {K : Act → World → Prop} {Q : Exit → Act → World → Prop} {F : Prop} (hgd : o.guard = none) (s x : Operand) (t : TypeId)
    (ho : o.op = .call { callee := .builtin .append, args := #[s, x], argTypes := #[t, t] })
    (base : Nat) (e : TypeId) (i : TypeInfo) (z : Value) (bytes : Nat) (ht : P.underlying t = some (.slice e)) (hi : P.info? e = some i) (hz : i.zero = some z)
    (hsize : i.size = E.size) (hby : i.bytes = bytes) (hzs : z.cells.size = E.size)
    (v : Value) (l : List α) (hs : a.eval s = v) (hown : OwL E e w base v l)
    (A : Option Addr) (c : Nat) (m : List α) (hx : a.eval x = .slice A m.length c) (hr : RdL E w A m) (hA : A = none → m = [])
    (h63 : l.length + m.length ≤ maxLen) (hbytes : (l.length + m.length) * bytes ≤ 140737488355328) (hbase : base ≤ w.heap.size)
    (h : ∀ v' w', OwL E e w' base v' (l ++ m) → w.grownBy w' v.ownBlock → (v'.ownBlock = v.ownBlock ∨ v'.ownBlock = some w.heap.size) → K (a.put o.dst v') w') :
    if Region.wanted o (yielded ops a.tmps) = true then Oper.wp P o a w K Q else F := by
  have hw : Region.wanted o (yielded ops a.tmps) = true := by simp [Region.wanted, hgd]
  rw [if_pos hw]
  exact wp_append_all w s x t ho base e i z bytes ht hi hz hsize hby hzs v l hs hown A c m hx hr hA h63 hbytes hbase h
end Go.Proofs.Ytcdifegjlllbfaa

/- Lists of structs in memory: a slice that holds a list of elements, each some cells long; read, own, append, clone, store. Plain lemmas over any program; no condition. -/
import Derived.Below
import Derived.Laws.OwnMore
import Derived.Deep.AppendLies
import Derived.Deep.Draws
import Derived.Maps.AppendAt
import Derived.RegionTactic
import Derived.OwnWalk
import Derived.Lib.Hide
import Derived.Laws.Rows
namespace Go.Proofs.Ytcdifegjlllbfaa
open Go.RowKit

/-- How an element of type α lies in cells. -/
structure Enc (α : Type) where
  size : Nat
  pos : 0 < size
  cells : α → List Value
  len : ∀ x, (cells x).length = size
  one : ∀ x u, u ∈ cells x → u.oneCell' = true
section
variable {α : Type} {E : Enc α} {w w' : World} {A : Option Addr} {l : List α}
def Enc.flat (E : Enc α) (l : List α) : List Value := l.flatMap E.cells
theorem Enc.flat_nil : E.flat [] = [] := rfl
theorem Enc.flat_cons (x : α) (l : List α) : E.flat (x :: l) = E.cells x ++ E.flat l := by simp [Enc.flat]
theorem Enc.flat_append (l m : List α) : E.flat (l ++ m) = E.flat l ++ E.flat m := by simp [Enc.flat]
theorem Enc.flat_length (l : List α) : (E.flat l).length = l.length * E.size := by
  induction l with
  | nil => simp [Enc.flat]
  | cons x l ih => rw [flat_cons, List.length_append, E.len, ih, List.length_cons, Nat.add_mul, Nat.one_mul, Nat.add_comm]
theorem Enc.flat_one (l : List α) : ∀ u ∈ E.flat l, u.oneCell' = true := by
  intro u hu
  obtain ⟨x, _, hx⟩ := List.mem_flatMap.1 hu
  exact E.one x u hx
theorem Enc.flat_get {k j : Nat} (hk : k < l.length) (hj : j < E.size) : (E.flat l)[k * E.size + j]? = (E.cells l[k])[j]? := by
  induction l generalizing k with
  | nil => simp at hk
  | cons x l ih =>
    rw [flat_cons]
    cases k with
    | zero => rw [Nat.zero_mul, Nat.zero_add, List.getElem?_append_left (by rw [E.len]; exact hj)]; rfl
    | succ k =>
      rw [List.getElem?_append_right (by rw [E.len, Nat.add_mul]; omega), E.len, show (k + 1) * E.size + j - E.size = k * E.size + j by rw [Nat.add_mul]; omega]
      exact ih (by simpa using hk)
theorem Enc.flat_set {k j : Nat} (hk : k < l.length) (hj : j < E.size) {x : α} {u : Value} (hx : E.cells x = (E.cells l[k]).set j u) : E.flat (l.set k x) = (E.flat l).set (k * E.size + j) u := by
  induction l generalizing k with
  | nil => simp at hk
  | cons y l ih =>
    cases k with
    | zero => rw [List.set_cons_zero, flat_cons, flat_cons, hx, Nat.zero_mul, Nat.zero_add, List.set_append_left _ _ (by rw [E.len]; exact hj)]; rfl
    | succ k =>
      rw [List.set_cons_succ, flat_cons, flat_cons, List.set_append_right _ _ (by rw [E.len, Nat.add_mul]; omega), E.len, show (k + 1) * E.size + j - E.size = k * E.size + j by rw [Nat.add_mul]; omega]
      rw [ih (by simpa using hk) hx]

theorem add_field (ad : Addr) (m j : Nat) (hj : 0 < j) : ad.add (m + j) = ⟨(ad.add m).block, (ad.add m).off + j, none⟩ := by
  unfold Addr.add
  by_cases hm : m = 0
  · subst hm
    simp [Nat.ne_of_gt hj]
  · simp [hm, Nat.add_assoc]
theorem add_block (a : Addr) (n : Nat) : (a.add n).block = a.block := by unfold Addr.add; split <;> rfl
theorem add_plain (g j : Nat) : (⟨g, 0, none⟩ : Addr).add j = ⟨g, j, none⟩ := by unfold Addr.add; split <;> simp_all

/-- The slice value with address A holds the list l. -/
def RdL (E : Enc α) (w : World) (A : Option Addr) (l : List α) : Prop :=
  l.length ≤ 9223372036854775807 ∧ (0 < l.length → ∃ ad, A = some ad ∧ ∀ j u, (E.flat l)[j]? = some u → w.cell? (ad.add j) = some u)
theorem RdL.nil (E : Enc α) (w : World) (A : Option Addr) : RdL E w A [] := ⟨by simp, fun h => absurd h (by simp)⟩
theorem RdL.below (h : RdL E w A l) (hb : Below w.heap.size w w') : RdL E w' A l :=
  ⟨h.1, fun hn => by
    obtain ⟨ad, e, hc⟩ := h.2 hn
    exact ⟨ad, e, fun j u hu => (hb.cell (World.block_lt_of_cell? w _ (hc j u hu))).trans (hc j u hu)⟩⟩
theorem RdL.at_ (h : RdL E w A l) {k : Nat} (hk : k < l.length) : ∃ ad, A = some ad ∧ ∀ j u, (E.cells l[k])[j]? = some u → w.cell? (ad.add (k * E.size + j)) = some u := by
  obtain ⟨ad, e, hc⟩ := h.2 (by omega)
  refine ⟨ad, e, fun j u hu => hc _ u ?_⟩
  have hj : j < E.size := by rw [← E.len l[k]]; exact (List.getElem?_eq_some_iff.1 hu).1
  rw [Enc.flat_get hk hj]; exact hu
theorem RdL.none_ (h : RdL E w none l) : l = [] := by
  rcases Nat.eq_zero_or_pos l.length with h0 | h0
  · exact List.eq_nil_of_length_eq_zero h0
  · obtain ⟨ad, e, _⟩ := h.2 h0; cases e
theorem RdL.alloc (h : RdL E w A l) (o : Obj) : RdL E (w.alloc o) A l := h.below ((Below.refl _ _).alloc (Nat.le_refl _) _)

/-- The slice value v owns the list l: a block from base on. -/
def OwL (E : Enc α) (e : TypeId) (w : World) (base : Nat) (v : Value) (l : List α) : Prop := w.ownsRow base e E.size v l.length (E.flat l)
variable {e : TypeId} {base : Nat} {v : Value}
theorem OwL.nil (E : Enc α) (e : TypeId) (w : World) (base : Nat) : OwL E e w base (.slice none 0 0) [] := ⟨by simp [Enc.flat], .inl ⟨rfl, rfl⟩⟩
theorem OwL.lt (h : OwL E e w base v l) : ∀ k, v.ownBlock = some k → base ≤ k ∧ k < w.heap.size := World.ownsRow.lt h
theorem OwL.rd (h : OwL E e w base v l) : ∃ A c, v = .slice A l.length c ∧ l.length ≤ c ∧ c ≤ maxLen ∧ RdL E w A l := by
  rcases h.2 with ⟨rfl, h0⟩ | ⟨g, cap, cur, rfl, _, _, h1, h2, _⟩
  · have : l = [] := List.eq_nil_of_length_eq_zero h0
    subst this
    exact ⟨none, 0, rfl, Nat.le_refl _, by unfold maxLen; omega, RdL.nil _ _ _⟩
  · exact ⟨_, cap, rfl, h1, h2, by unfold maxLen at h2; omega, fun _ => ⟨_, rfl, World.ownsRow.cells h rfl⟩⟩
/-- The same, the block in sight. -/
theorem OwL.at_ (h : OwL E e w base v l) (hn : 0 < l.length) : ∃ g cap, v = .slice (some ⟨g, 0, none⟩) l.length cap ∧ base ≤ g ∧ g < w.heap.size ∧ l.length ≤ cap ∧ cap ≤ maxLen := by
  rcases h.2 with ⟨rfl, h0⟩ | ⟨g, cap, cur, rfl, hb, hg, h1, h2, _⟩
  · omega
  · exact ⟨g, cap, rfl, hb, (Array.getElem?_eq_some_iff.1 hg).1, h1, h2⟩
theorem OwL.keep (h : OwL E e w base v l) (hk : ∀ k, v.ownBlock = some k → w'.heap[k]? = w.heap[k]?) : OwL E e w' base v l := by
  refine ⟨h.1, ?_⟩
  rcases h.2 with h2 | ⟨g, cap, cur, rfl, hg, hh, r⟩
  · exact .inl h2
  · exact .inr ⟨g, cap, cur, rfl, hg, (hk g (by simp [Value.ownBlock])).trans hh, r⟩
theorem OwL.below (h : OwL E e w base v l) (hb : Below w.heap.size w w') : OwL E e w' base v l := h.keep fun k hk => hb.block k (h.lt k hk).2
theorem OwL.alloc (h : OwL E e w base v l) (o : Obj) : OwL E e (w.alloc o) base v l := h.below ((Below.refl _ _).alloc (Nat.le_refl _) _)
theorem OwL.grown (h : OwL E e w base v l) {row : Option Nat} (hg : w.grownBy w' row) (hne : ∀ k, v.ownBlock = some k → some k ≠ row) : OwL E e w' base v l := h.keep fun k hk => hg.block k (h.lt k hk).2 (hne k hk)
theorem OwL.far (h : OwL E e w base v l) {p : Addr} (hp : ∀ k, v.ownBlock = some k → k ≠ p.block) (u : Value) : OwL E e (w.setCell p u) base v l := h.keep fun k hk => Below.heap_setCell w p u k (hp k hk)
theorem OwL.lower {base' : Nat} (h : OwL E e w base v l) (hb : base' ≤ base) : OwL E e w base' v l := by
  refine ⟨h.1, ?_⟩
  rcases h.2 with h2 | ⟨g, cap, cur, rfl, hg, hh, r⟩
  · exact .inl h2
  · exact .inr ⟨g, cap, cur, rfl, Nat.le_trans hb hg, hh, r⟩
theorem OwL.len_ {a : Addr} {n cap : Nat} (h : OwL E e w base (.slice (some a) n cap) l) : n = l.length := by
  rcases h.2 with ⟨h2, _⟩ | ⟨g, cap, cur, h2, _⟩
  · cases h2
  · injection h2
/-- A cell of an element. -/
theorem OwL.cell {g n cap : Nat} (h : OwL E e w base (.slice (some ⟨g, 0, none⟩) n cap) l) {k j : Nat} (hk : k < l.length) (hj : j < E.size) : w.cell? ⟨g, k * E.size + j, none⟩ = (E.cells l[k])[j]? := by
  obtain rfl := h.len_
  have hlt : k * E.size + j < l.length * E.size := by
    have : (k + 1) * E.size ≤ l.length * E.size := Nat.mul_le_mul_right _ hk
    rw [Nat.add_mul] at this
    omega
  have := World.ownsRow.cellAt h (k * E.size + j) hlt
  rw [this, Enc.flat_get hk hj]
theorem OwL.frozen {g n cap : Nat} (h : OwL E e w base (.slice (some ⟨g, 0, none⟩) n cap) l) (j : Nat) : w.frozen? ⟨g, j, none⟩ = false := by
  obtain rfl := h.len_
  exact World.ownsRow.frozenAt h j
/-- A store into a cell of an element. -/
theorem OwL.stored {g n cap : Nat} (h : OwL E e w base (.slice (some ⟨g, 0, none⟩) n cap) l) {k j : Nat} (hk : k < l.length) (hj : j < E.size) {x : α} {u : Value} (hx : E.cells x = (E.cells l[k]).set j u) :
    OwL E e (w.setCell ⟨g, k * E.size + j, none⟩ u) base (.slice (some ⟨g, 0, none⟩) n cap) (l.set k x) := by
  obtain rfl := h.len_
  have := World.ownsRow.stored h (k * E.size + j) u
  unfold OwL
  rw [List.length_set, Enc.flat_set hk hj hx]
  exact this.1
end

section
variable {α : Type} {E : Enc α} {P : Program} (w : World)

theorem run_append_of_nil (base : Nat) (t ty e : TypeId) (i : TypeInfo) (size : Nat) (ht : P.underlying t = some (.slice e)) (hi : P.info? e = some i)
    (v : Value) (n : Nat) (xs : List Value) (hown : w.ownsRow base e size v n xs) (c : Nat) : (Builtin.append_ #[t, t] ty #[v, .slice none 0 c]).run P w = .ok v w := by
  rcases hown.2 with ⟨rfl, rfl⟩ | ⟨g, cap, cur, rfl, _, _, hnc, _⟩
  · simp [Builtin.append_, run_underlying ht, sizeOf, typeInfo, hi, Builtin.lenOf, Builtin.firstCells]
  · simp [Builtin.append_, run_underlying ht, sizeOf, typeInfo, hi, Builtin.lenOf, Builtin.firstCells, hnc, storeCells]

/-- append(v, xs...): v owned, xs any slice that holds a list. -/
theorem run_append_all (base : Nat) (t ty e : TypeId) (i : TypeInfo) (z : Value) (bytes : Nat) (ht : P.underlying t = some (.slice e)) (hi : P.info? e = some i) (hz : i.zero = some z)
    (hsize : i.size = E.size) (hby : i.bytes = bytes) (hzs : z.cells.size = E.size)
    (v : Value) (l : List α) (hown : OwL E e w base v l) (A : Option Addr) (c : Nat) (m : List α) (hr : RdL E w A m) (hA : A = none → m = [])
    (h63 : l.length + m.length ≤ maxLen) (hbytes : (l.length + m.length) * bytes ≤ 140737488355328) (hbase : base ≤ w.heap.size) :
    ∃ v' w', (Builtin.append_ #[t, t] ty #[v, .slice A m.length c]).run P w = .ok v' w' ∧ OwL E e w' base v' (l ++ m) ∧ w.grownBy w' v.ownBlock ∧
      (v'.ownBlock = v.ownBlock ∨ v'.ownBlock = some w.heap.size) := by
  rcases A with _ | ad
  · have hm : m = [] := hA rfl
    subst hm
    exact ⟨v, w, run_append_of_nil w base t ty e i _ ht hi v _ _ hown c, by simpa using hown, World.grownBy.refl w _, .inl rfl⟩
  · have hcells : ∀ j u, (E.flat m)[j]? = some u → w.cell? (ad.add j) = some u := by
      intro j u hu
      rcases Nat.eq_zero_or_pos m.length with h0 | h0
      · have hn : m = [] := List.eq_nil_of_length_eq_zero h0
        subst hn
        simp [Enc.flat] at hu
      · obtain ⟨ad', h, hc⟩ := hr.2 h0
        injection h with h
        subst h
        exact hc j u hu
    obtain ⟨v', w', hrun, h2, h3, _, h5⟩ := run_append_own_at (P := P) w base t ty e i z E.size bytes ht hi hz hsize hby hzs E.pos v l.length (E.flat l) hown ad m.length c (E.flat m) (Enc.flat_length m) hcells (Enc.flat_one m) h63 hbytes hbase
    exact ⟨v', w', hrun, by unfold OwL; rw [List.length_append, Enc.flat_append]; exact h2, h3, h5⟩

theorem wp_append_all {o : Oper} {a : Act} {K : Act → World → Prop} {Q : Exit → Act → World → Prop} (s x : Operand) (t : TypeId)
    (ho : o.op = .call { callee := .builtin .append, args := #[s, x], argTypes := #[t, t] })
    (base : Nat) (e : TypeId) (i : TypeInfo) (z : Value) (bytes : Nat) (ht : P.underlying t = some (.slice e)) (hi : P.info? e = some i) (hz : i.zero = some z)
    (hsize : i.size = E.size) (hby : i.bytes = bytes) (hzs : z.cells.size = E.size)
    (v : Value) (l : List α) (hs : a.eval s = v) (hown : OwL E e w base v l)
    (A : Option Addr) (c : Nat) (m : List α) (hx : a.eval x = .slice A m.length c) (hr : RdL E w A m) (hA : A = none → m = [])
    (h63 : l.length + m.length ≤ maxLen) (hbytes : (l.length + m.length) * bytes ≤ 140737488355328) (hbase : base ≤ w.heap.size)
    (h : ∀ v' w', OwL E e w' base v' (l ++ m) → w.grownBy w' v.ownBlock → (v'.ownBlock = v.ownBlock ∨ v'.ownBlock = some w.heap.size) → K (a.put o.dst v') w') : o.wp P a w K Q := by
  obtain ⟨v', w', hrun, h2, h3, h4⟩ := run_append_all (E := E) (P := P) w base t o.type e i z bytes ht hi hz hsize hby hzs v l hown A c m hr hA h63 hbytes hbase
  unfold Oper.wp execOp
  simp only [ho, resolve, invoke, builtin, Sem.run_bind, Sem.run_pure, Result.andThen_ok, List.map_toArray, List.map_cons, List.map_nil, hs, hx, hrun]
  exact h v' w' h2 h3 h4

theorem wpList_append_all {ops : Array Oper} {rest : List Oper} {o : Oper} {a : Act} {Q : Exit → Act → World → Prop} (hgd : o.guard = none) (s x : Operand) (t : TypeId)
    (ho : o.op = .call { callee := .builtin .append, args := #[s, x], argTypes := #[t, t] })
    (base : Nat) (e : TypeId) (i : TypeInfo) (z : Value) (bytes : Nat) (ht : P.underlying t = some (.slice e)) (hi : P.info? e = some i) (hz : i.zero = some z)
    (hsize : i.size = E.size) (hby : i.bytes = bytes) (hzs : z.cells.size = E.size)
    (v : Value) (l : List α) (hs : a.eval s = v) (hown : OwL E e w base v l)
    (A : Option Addr) (c : Nat) (m : List α) (hx : a.eval x = .slice A m.length c) (hr : RdL E w A m) (hA : A = none → m = [])
    (h63 : l.length + m.length ≤ maxLen) (hbytes : (l.length + m.length) * bytes ≤ 140737488355328) (hbase : base ≤ w.heap.size)
    (h : ∀ v' w', OwL E e w' base v' (l ++ m) → w.grownBy w' v.ownBlock → (v'.ownBlock = v.ownBlock ∨ v'.ownBlock = some w.heap.size) → wpList P ops Q rest (a.put o.dst v') w') : wpList P ops Q (o :: rest) a w :=
  wpList_plain hgd fun _ hK => wp_append_all w s x t ho base e i z bytes ht hi hz hsize hby hzs v l hs hown A c m hx hr hA h63 hbytes hbase fun v' w' h2 h3 h4 => hK _ _ (h v' w' h2 h3 h4)

/-- A block that was just laid holds the one element. -/
theorem RdL.box (x : α) (e : TypeId) (h : 1 ≤ 9223372036854775807 := by omega) : RdL E (w.alloc (.cells (E.cells x).toArray e)) (some ⟨w.heap.size, 0, none⟩) [x] :=
  ⟨h, fun _ => ⟨_, rfl, by simpa [Enc.flat] using World.news_of_block (cs := (E.cells x).toArray) (t := e) (fr := (0, 0)) (heap_alloc_new w (.cells (E.cells x).toArray e))⟩⟩
end
/-- An empty slice literal owns nothing. -/
theorem OwL.empty {α : Type} (E : Enc α) (e : TypeId) (w : World) (base : Nat) (hb : base ≤ w.heap.size) : OwL E e (w.alloc (.cells #[] e)) base (.slice (some ⟨w.heap.size, 0, none⟩) 0 0) [] := by
  have := World.ownsRow_made (e := e) (size := E.size) (base := base) w #[] 0 hb (by unfold maxLen; omega) (by simp)
  exact this

/-- A block that is known whole. -/
def Blk (w : World) (g : Nat) (t : TypeId) (cs : Array Value) : Prop := w.heap[g]? = some (.cells cs t (0, 0))
section
variable {w w' : World} {g : Nat} {t : TypeId} {cs : Array Value}
theorem Blk.lt (h : Blk w g t cs) : g < w.heap.size := (Array.getElem?_eq_some_iff.1 h).1
theorem Blk.cell (h : Blk w g t cs) (i : Nat) : w.cell? ⟨g, i, none⟩ = cs[i]? := cell_of_row w g i cs t (0, 0) h
theorem Blk.frozen (h : Blk w g t cs) (i : Nat) : w.frozen? ⟨g, i, none⟩ = false := by
  unfold Blk at h
  simp [World.frozen?, h]
theorem Blk.new (w : World) (t : TypeId) (cs : Array Value) : Blk (w.alloc (.cells cs t)) w.heap.size t cs := heap_alloc_new w _
theorem Blk.alloc (h : Blk w g t cs) (o : Obj) : Blk (w.alloc o) g t cs := (Below.heap_alloc w o g h.lt).trans h
theorem Blk.set_ (h : Blk w g t cs) (i : Nat) (u : Value) : Blk (w.setCell ⟨g, i, none⟩ u) g t (cs.setIfInBounds i u) := by
  unfold Blk at h ⊢
  simp [World.setCell, Array.getElem?_modify, h]
theorem Blk.far (h : Blk w g t cs) {p : Addr} (hp : g ≠ p.block) (u : Value) : Blk (w.setCell p u) g t cs := (Below.heap_setCell w p u g hp).trans h
theorem Blk.below {B : Nat} (h : Blk w g t cs) (hb : Below B w w') (hg : g < B) : Blk w' g t cs := (hb.block g hg).trans h
theorem Blk.grown {row : Option Nat} (h : Blk w g t cs) (hb : w.grownBy w' row) (hg : some g ≠ row) : Blk w' g t cs := (hb.block g h.lt hg).trans h
theorem Blk.ne_ {g' : Nat} {t' : TypeId} {cs' : Array Value} (h : Blk w g t cs) (h' : Blk w g' t' cs') (hne : t ≠ t') : g ≠ g' := by
  rintro rfl
  unfold Blk at h h'
  rw [h] at h'
  injection h' with h'
  injection h' with _ ht
  exact hne ht
end

/-- A block of another type is not the owned one. -/
theorem OwL.ne_blk {α : Type} {E : Enc α} {e t : TypeId} {w : World} {base g g' n cap : Nat} {l : List α} {cs : Array Value} (h : OwL E e w base (.slice (some ⟨g, 0, none⟩) n cap) l) (h' : Blk w g' t cs) (hne : t ≠ e) : g' ≠ g := by
  rcases h.2 with ⟨h2, _⟩ | ⟨g2, cap2, cur, h2, _, hh, _⟩
  · cases h2
  · injection h2 with h2
    injection h2 with h2
    injection h2 with h2
    subst h2
    rintro rfl
    unfold Blk at h'
    rw [hh] at h'
    injection h' with h'
    injection h' with _ ht
    exact hne ht.symm
theorem OwL.apart {α : Type} {E : Enc α} {e t : TypeId} {w : World} {base g' : Nat} {v : Value} {l : List α} {cs : Array Value} (h : OwL E e w base v l) (h' : Blk w g' t cs) (hne : t ≠ e) : ∀ k, v.ownBlock = some k → k ≠ g' := by
  intro k hk
  rcases h.2 with ⟨rfl, _⟩ | ⟨g2, cap2, cur, rfl, _, hh, _⟩
  · simp [Value.ownBlock] at hk
  · have : g2 = k := by simpa [Value.ownBlock] using hk
    subst this
    rintro rfl
    unfold Blk at h'
    rw [hh] at h'
    injection h' with h'
    injection h' with _ ht
    exact hne ht.symm

end Go.Proofs.Ytcdifegjlllbfaa

/- The walk through CheckLineage. Condition: the slice lies in memory as a list. -/
import Derived.Test.YtcdifegjlllbfaaChA
set_option linter.unusedVariables false
set_option linter.unusedSimpArgs false
namespace Go.Proofs.Ytcdifegjlllbfaa
open Go.RowKit Go.Shelf
attribute [local go_sem] Oper.semAt_some

theorem grown_two (W : World) (a b : Obj) : W.grownBy ((W.alloc a).alloc b) none :=
  ⟨rfl, rfl, rfl, by simp; omega, fun k hk _ => (heap_alloc_lt _ b (by simp; omega)).trans (heap_alloc_lt W a hk)⟩
theorem putD {W : World} {g : Nat} {t : TypeId} {cs : Array Value} {D : Nat} {o : Obj} (h : Blk W g t cs) (hne : g ≠ D) : Blk (W.putObj D o) g t cs := (World.putObj_heap_other hne).trans h
/-- The first k spans are in order. -/
def PreOk (l : List Sp) (k : Nat) : Prop := ∀ j, j < k → SpOk (prevS l j) (spAt l j)
theorem PreOk.zero (l : List Sp) : PreOk l 0 := fun j hj => absurd hj (by omega)
theorem PreOk.succ {l : List Sp} {k : Nat} (h : PreOk l k) (h' : SpOk (prevS l k) (spAt l k)) : PreOk l (k + 1) := fun j hj => by
  by_cases e : j = k
  · subst e; exact h'
  · exact h j (by omega)
theorem PreOk.to {l : List Sp} {k : Nat} (h : PreOk l k) : 0 ≤ (prevS l k).to ∧ (prevS l k).to ≤ 1073741824 := by
  cases k with
  | zero => exact ⟨Int.le_refl 0, by show (0 : Int) ≤ _; omega⟩
  | succ k => have := h k (by omega); exact ⟨Int.le_trans (by decide) this.t0, this.t1⟩
theorem PreOk.chk {l : List Sp} {k : Nat} (h : PreOk l k) (hk : k ≤ l.length) : chkL l = linE (prevS l k) (l.drop k) := by
  induction k with
  | zero => rfl
  | succ k ih =>
    rw [ih (fun j hj => h j (by omega)) (by omega), linE_drop (by omega), ← spAt_eq (by omega), if_pos (spErr_zero.2 (h k (by omega)))]
theorem PreOk.all {l : List Sp} (h : PreOk l l.length) : chkL l = 0 := by
  rw [h.chk (Nat.le_refl _), List.drop_eq_nil_of_le (Nat.le_refl _)]; rfl
theorem PreOk.stop {l : List Sp} {k : Nat} (h : PreOk l k) (hk : k < l.length) (he : spErr (prevS l k) (spAt l k) ≠ 0) : chkL l = spErr (prevS l k) (spAt l k) := by
  rw [h.chk (by omega), linE_drop hk, ← spAt_eq hk, if_neg he]
theorem Lin.pre {l : List Sp} (h : Lin l) {k : Nat} (hk : k ≤ l.length) : PreOk l k := fun j hj => by rw [spAt_eq (by omega)]; exact h j (by omega)

set_option maxRecDepth 100000 in
set_option maxHeartbeats 2000000 in
theorem Chk_any (A : Option Addr) (c : Nat) (l : List Sp) (w : World) (hl : RdS w A l) :
    Calls Try.prog 28 #[.slice A l.length c] w fun e w' => e = .returned (.int .i64 (chkL l)) ∧ Below w.heap.size w w' := by
  have hlen := hl.1
  have HL := Lib.hid hl
  clear hl
  refine calls_of_wp_marks Try.func28 rfl ?_
  simp only [Try.ntmps28, List.size_toArray, List.length_cons, List.length_nil, Nat.reduceAdd, Nat.reduceSub, Array.replicate_succ, Array.replicate_zero, List.push_toArray, List.append_toArray, List.nil_append, List.cons_append]
  go_wp2_with fail
  refine (begins_any _ _ _ _).mono ?_
  rintro e w1 ⟨rfl, rfl⟩
  go_wp2_with fail
  have hb0 : Below w.heap.size w ((w.alloc (.cells #[.int .i64 0] 45)).alloc (.cells #[.slice A l.length c] 60)) := ((Below.refl _ w).alloc (Nat.le_refl _) _).alloc (by simp) _
  have hsz : ((w.alloc (.cells #[.int .i64 0] 45)).alloc (.cells #[.slice A l.length c] 60)).heap.size = w.heap.size + 2 := by simp
  have k0 : Blk ((w.alloc (.cells #[.int .i64 0] 45)).alloc (.cells #[.slice A l.length c] 60)) w.heap.size 45 #[.int .i64 0] := (Blk.new w 45 _).alloc _
  have k1 : Blk ((w.alloc (.cells #[.int .i64 0] 45)).alloc (.cells #[.slice A l.length c] 60)) (w.heap.size + 1) 60 #[.slice A l.length c] := by simpa using Blk.new (w.alloc (.cells #[.int .i64 0] 45)) 60 #[.slice A l.length c]
  refine wp_rangeCells (gf := 79) (lb := #[.pointer (some ⟨w.heap.size + 1, 0, none⟩)]) rfl (by intro args w; kernel_rfl)
    (begins1_seq (w.heap.size + 1) A l c _ hlen) (Below.refl _ _) (fun _ => rfl)
    (fun k W => PreOk l k ∧ Blk W (w.heap.size + 1) 60 #[.slice A l.length c] ∧ Blk W w.heap.size 45 #[.int .i64 0] ∧ Below w.heap.size w W)
    (fun k W => Blk W w.heap.size 45 #[.int .i64 (chkL l)] ∧ Below w.heap.size w W) ?_ ?_ ?_ ⟨PreOk.zero l, k1, k0, hb0⟩
    (fun k W => { tmps := #[.slice A l.length c, undef, .pointer (some ⟨w.heap.size, 0, none⟩), .pointer (some ⟨W.heap.size, 0, none⟩), .pointer (some ⟨W.heap.size + 1, 0, none⟩), undef, .slice A l.length c, .func (.func 79) #[] #[.pointer (some ⟨w.heap.size + 1, 0, none⟩)], (prevS l k).val, (spAt l k).val, undef, undef, undef, undef, undef, undef, undef, undef, undef, undef, undef, undef, undef], defers := [] })
    (fun k W => (W.alloc (.cells (prevS l k).cells 107)).alloc (.cells (spAt l k).cells 107)) ?_ ?assign ?body ?done ?stop
  · rintro k X Y row ⟨h1, h2, h3, h4⟩ hg hr
    rw [hsz] at hr
    exact ⟨h1, h2.grown hg (fun e => by have := hr _ e.symm; omega), h3.grown hg (fun e => by have := hr _ e.symm; omega), h4.grown hg h4.size (fun r e => by have := hr r e; omega)⟩
  · rintro k X Y row ⟨h3, h4⟩ hg hr
    rw [hsz] at hr
    exact ⟨h3.grown hg (fun e => by have := hr _ e.symm; omega), h4.grown hg h4.size (fun r e => by have := hr r e; omega)⟩
  · rintro k X ⟨h1, h2, h3, h4⟩
    exact ⟨h2.cell 0, RdL.below HL.out h4⟩
  · intro k W
    exact grown_two _ _ _
  case assign =>
    intro lp k W K hK
    dsimp only [Sp.val, Sp.cells] at hK ⊢
    gi_wp2
    exact hK
  case body =>
    rintro lp k X W hk ⟨h1, h2, h3, h4⟩ ⟨_, w2, w3, w4⟩ hbig hW hsW _
    rw [hsz] at hbig ⊢
    rw [World.size_alloc, World.size_alloc, World.size_alloc] at hsW
    have bp : Blk W (X.heap.size + 1) 107 (prevS l k).cells := (hW _ (by omega)).trans (by
      have h1 : Blk ((X.alloc (.cells (spAt l k).cells 107)).alloc (.cells (prevS l k).cells 107)) (X.heap.size + 1) 107 (prevS l k).cells := by simpa using Blk.new (X.alloc (.cells (spAt l k).cells 107)) 107 (prevS l k).cells
      exact h1.alloc _)
    have bx : Blk W (X.heap.size + 1 + 1) 107 (spAt l k).cells := (hW _ (by omega)).trans (by
      have h1 := Blk.new ((X.alloc (.cells (spAt l k).cells 107)).alloc (.cells (prevS l k).cells 107)) 107 (spAt l k).cells
      rw [World.size_alloc, World.size_alloc] at h1
      exact h1)
    rw [World.size_alloc]
    have hto := h1.to
    have e0 : W.cell? ⟨w.heap.size, 0, none⟩ = some (.int .i64 0) := w3.cell 0
    have ze0 := w3.frozen 0
    have H1 := Lib.hid h1
    have H2 := Lib.hid w2
    have H3 := Lib.hid w3
    have H4 := Lib.hid w4
    have BP := Lib.hid bp
    have BX := Lib.hid bx
    have HTO := Lib.hid hto
    have HSW := Lib.hid hsW
    have hs1 : X.heap.size + 1 + 1 < W.heap.size := by omega
    have hs2 : w.heap.size < W.heap.size := by omega
    clear hsW
    clear h1 h2 h3 h4 w2 w3 w4 bp bx hW hto hb0 k0 k1
    gi_wp2
    refine ⟨trivial, ?_⟩
    refine (CallsIn.inRound lp (callsIn_wide.2 (first_any _ _ (linL (X.heap.size + 1 + 1) (X.heap.size + 1) (spAt l k) (prevS l k)) _ (rules _ rfl (by simp [linL])) (linL_answers (BX.out.alloc _) (BP.out.alloc _) HTO.out.1 HTO.out.2)))).mono ?_
    rintro e wx ⟨rfl, hbx⟩
    rw [linL_first]
    obtain ⟨E, hE⟩ : ∃ E, E = spErr (prevS l k) (spAt l k) := ⟨_, rfl⟩
    have HE := Lib.hid hE
    rw [← hE]
    clear hE
    have hbw : ∀ r, r < W.heap.size → wx.heap[r]? = W.heap[r]? := fun r hr => (hbx.block r (by simp; omega)).trans (heap_alloc_lt _ _ hr)
    have HBW := Lib.hid hbw
    have HBE := Lib.hid (H4.out.trans (((Below.refl _ W).alloc (Nat.le_refl _) (.cells (eR.flat (linL (X.heap.size + 1 + 1) (X.heap.size + 1) (spAt l k) (prevS l k))).toArray 101)).trans (hbx.mono (by simp)) |>.mono H4.out.size))
    have e0 : wx.cell? ⟨w.heap.size, 0, none⟩ = some (.int .i64 0) := (show Blk wx w.heap.size 45 #[.int .i64 0] from (hbw _ hs2).trans H3.out).cell 0
    have ze0 := (show Blk wx w.heap.size 45 #[.int .i64 0] from (hbw _ hs2).trans H3.out).frozen 0
    clear hbw hbx
    by_cases h : E = 0
    · have hok := spErr_zero.1 (HE.out.symm.trans h)
      have HOK := Lib.hid hok
      subst h
      clear hok
      gi_wp2
      refine ⟨⟨H1.out.succ HOK.out, (HBW.out _ (by omega)).trans H2.out, (HBW.out _ hs2).trans H3.out, HBE.out⟩, fun r hr => HBW.out r (by omega)⟩
    · have hne : (E != 0) = true := bne_iff_ne.2 h
      have HNE := Lib.hid h
      clear h
      gi_wp2
      refine ⟨⟨?_, HBE.out.setCell (Nat.le_refl _) _⟩, fun r hr => (Below.heap_setCell _ _ _ _ (by show r ≠ w.heap.size; omega)).trans (HBW.out r (by omega))⟩
      rw [H1.out.stop hk (by rw [← HE.out]; exact HNE.out), ← HE.out]
      exact (show Blk wx w.heap.size 45 #[.int .i64 0] from (HBW.out _ hs2).trans H3.out).set_ 0 _
  case done =>
    rintro W ⟨h1, h2, h3, h4⟩ hD
    rw [hsz] at hD
    have e0 : W.cell? ⟨w.heap.size, 0, none⟩ = some (.int .i64 0) := h3.cell 0
    have ze0 := h3.frozen 0
    have H1 := Lib.hid h1
    have H3 := Lib.hid h3
    have H4 := Lib.hid h4
    have HD := Lib.hid hD
    rw [hsz]
    clear h1 h2 h3 h4 hD hb0 k0 k1
    go_wp2
    have hK3 : (W.setCell ⟨w.heap.size, 0, none⟩ (.int .i64 0)).heap[w.heap.size + 2]? = some (.deferred (some [])) := (Below.heap_setCell _ _ _ _ (by show w.heap.size + 2 ≠ w.heap.size; omega)).trans HD.out
    have q0 := putD (D := w.heap.size + 2) (o := .deferred none) (H3.out.set_ 0 (.int .i64 0)) (by omega)
    have q1 := q0.cell 0
    exact bodyM_mark (v := .int .i64 0) hK3 rfl (by simp [results, Try.results28, go_sem, q1]) ⟨by rw [H1.out.all], (H4.out.setCell (Nat.le_refl _) _).grown (grownBy_putObj' _ _ _) (H4.out.setCell (p := ⟨w.heap.size, 0, none⟩) (Nat.le_refl _) (.int .i64 0)).size (fun r e => by cases e; omega)⟩
  case stop =>
    rintro k W hk ⟨h3, h4⟩ hD
    rw [hsz] at hD
    rw [hsz]
    have H3 := Lib.hid h3
    have H4 := Lib.hid h4
    have HD := Lib.hid hD
    clear h3 h4 hD hb0 k0 k1
    go_wp2
    have q0 := putD (D := w.heap.size + 2) (o := .deferred none) H3.out (by omega)
    have q1 := q0.cell 0
    exact bodyM_mark (v := .int .i64 (chkL l)) HD.out rfl (by simp [results, Try.results28, go_sem, q1]) ⟨rfl, H4.out.grown (grownBy_putObj' _ _ _) H4.out.size (fun r e => by cases e; omega)⟩
end Go.Proofs.Ytcdifegjlllbfaa

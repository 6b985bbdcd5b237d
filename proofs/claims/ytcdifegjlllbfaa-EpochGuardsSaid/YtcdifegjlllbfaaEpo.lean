/- The walk through EpochOf. Condition: the slice lies in memory as a list. -/
import Derived.Test.YtcdifegjlllbfaaChB
set_option linter.unusedVariables false
set_option linter.unusedSimpArgs false
namespace Go.Proofs.Ytcdifegjlllbfaa
open Go.RowKit Go.Shelf
attribute [local go_sem] Oper.semAt_some

/-- None of the first k spans has the cycle. -/
def NoneOf (l : List Sp) (c : Int) (k : Nat) : Prop := ∀ j, j < k → hasB c (spAt l j) = false
theorem NoneOf.find {l : List Sp} {c : Int} {k : Nat} (h : NoneOf l c k) (hk : k ≤ l.length) : findS l c = findS (l.drop k) c := by
  induction k with
  | zero => rfl
  | succ k ih =>
    rw [ih (fun j hj => h j (by omega)) (by omega)]
    unfold findS
    rw [List.drop_eq_getElem_cons (by omega), List.find?_cons, ← spAt_eq (by omega), h k (by omega)]
theorem NoneOf.all {l : List Sp} {c : Int} (h : NoneOf l c l.length) : findS l c = none := by
  rw [h.find (Nat.le_refl _), List.drop_eq_nil_of_le (Nat.le_refl _)]; rfl
theorem NoneOf.stop {l : List Sp} {c : Int} {k : Nat} (h : NoneOf l c k) (hk : k < l.length) (hb : hasB c (spAt l k) = true) : findS l c = some (spAt l k) := by
  rw [h.find (by omega)]
  unfold findS
  rw [List.drop_eq_getElem_cons hk, List.find?_cons, ← spAt_eq hk, hb]

/-- Two results in boxes, at the end. -/
theorem epoEnd {W w : World} {g h D : Nat} {t t' : TypeId} {x y u v : Value} (hg : Blk W g t #[x]) (hh : Blk W h t' #[y]) (hD : W.heap[D]? = some (.deferred (some []))) (hne : g ≠ h) (hlt : g < D ∧ h < D) (hb : Below w.heap.size w W) (hw : w.heap.size ≤ g ∧ w.heap.size ≤ h) :
    Blk (((W.setCell ⟨g, 0, none⟩ u).setCell ⟨h, 0, none⟩ v).putObj D (.deferred none)) g t #[u] ∧ Blk (((W.setCell ⟨g, 0, none⟩ u).setCell ⟨h, 0, none⟩ v).putObj D (.deferred none)) h t' #[v] ∧
      ((W.setCell ⟨g, 0, none⟩ u).setCell ⟨h, 0, none⟩ v).heap[D]? = some (.deferred (some [])) ∧ Below w.heap.size w (((W.setCell ⟨g, 0, none⟩ u).setCell ⟨h, 0, none⟩ v).putObj D (.deferred none)) := by
  have h1 := (hb.setCell (p := ⟨g, 0, none⟩) hw.1 u).setCell (p := ⟨h, 0, none⟩) hw.2 v
  refine ⟨putD ((hg.set_ 0 u).far (p := ⟨h, 0, none⟩) hne v) (by omega), putD ((hh.far (p := ⟨g, 0, none⟩) (fun e => hne e.symm) u).set_ 0 v) (by omega), ?_, h1.grown (grownBy_putObj' _ _ _) h1.size (fun r e => by cases e; omega)⟩
  exact (Below.heap_setCell _ _ _ _ (by show D ≠ h; omega)).trans ((Below.heap_setCell _ _ _ _ (by show D ≠ g; omega)).trans hD)

set_option maxRecDepth 100000 in
set_option maxHeartbeats 2000000 in
theorem Epo_any (A : Option Addr) (cp : Nat) (l : List Sp) (c : Int) (w : World) (hl : RdS w A l) :
    Calls Try.prog 26 #[.slice A l.length cp, .int .i64 c] w fun e w' => e = .returned (.tuple #[.int .i64 (epoV l c), .bool (epoB l c)]) ∧ Below w.heap.size w w' := by
  have hlen := hl.1
  have HL := Lib.hid hl
  clear hl
  refine calls_of_wp_marks Try.func26 rfl ?_
  simp only [Try.ntmps26, List.size_toArray, List.length_cons, List.length_nil, Nat.reduceAdd, Nat.reduceSub, Array.replicate_succ, Array.replicate_zero, List.push_toArray, List.append_toArray, List.nil_append, List.cons_append]
  go_wp2_with fail
  refine (Chk_any _ _ _ _ (((HL.out.alloc _).alloc _).alloc _)).mono ?_
  rintro e w1 ⟨rfl, hb⟩
  have HK := Lib.hid (((((Known.start w).alloc 3 #[.int .i64 c]).alloc 3 #[.int .i64 0]).alloc 4 #[.bool false]).below hb)
  have HC : Hid (Blk w1 w.heap.size 3 #[.int .i64 c]) := Lib.hid (HK.out.blk 2 rfl)
  have HV : Hid (Blk w1 (w.heap.size + 1) 3 #[.int .i64 0]) := Lib.hid (by have := HK.out.blk 1 rfl; simpa using this)
  have HB : Hid (Blk w1 (w.heap.size + 1 + 1) 4 #[.bool false]) := Lib.hid (by have := HK.out.blk 0 rfl; simpa using this)
  have v0 : w1.cell? ⟨w.heap.size + 1, 0, none⟩ = some (.int .i64 0) := HV.out.cell 0
  have b0 : w1.cell? ⟨w.heap.size + 1 + 1, 0, none⟩ = some (.bool false) := HB.out.cell 0
  have zv0 := HV.out.frozen 0
  have zb0 := HB.out.frozen 0
  have hs1 : w.heap.size + 1 + 1 < w1.heap.size := HB.out.lt
  clear hb
  obtain ⟨E, hE⟩ : ∃ E, E = chkL l := ⟨_, rfl⟩
  have HE := Lib.hid hE
  rw [← hE]
  clear hE
  by_cases h : E = 0
  · have HVB : Hid (epoV l c = ((findS l c).map Sp.ep).getD 0 ∧ epoB l c = (findS l c).isSome) := Lib.hid ⟨by unfold epoV; rw [← HE.out, if_pos h], by unfold epoB; rw [← HE.out, if_pos h]⟩
    subst h
    go_wp2_with fail
    refine (begins_any _ _ _ _).mono ?_
    rintro e w2 ⟨rfl, rfl⟩
    go_wp2_with fail
    have HB0 := Lib.hid HK.out.low
    have hsz : (w1.alloc (.cells #[.slice A l.length cp] 60)).heap.size = w1.heap.size + 1 := World.size_alloc _ _
    have hlst : ∀ X, Below w1.heap.size w1 X → RdS X A l := fun X hX => RdL.below HL.out (HB0.out.trans (hX.mono HB0.out.size))
    have HLST := Lib.hid hlst
    clear hlst v0 b0 zv0 zb0
    refine wp_rangeCells (gf := 79) (lb := #[.pointer (some ⟨w1.heap.size, 0, none⟩)]) rfl (by intro args w; kernel_rfl)
      (begins1_seq w1.heap.size A l cp _ hlen) (Below.refl _ _) (fun _ => rfl)
      (fun k W => NoneOf l c k ∧ Blk W w1.heap.size 60 #[.slice A l.length cp] ∧ Below w1.heap.size w1 W)
      (fun k W => findS l c = some (spAt l k) ∧ Blk W (w.heap.size + 1) 3 #[.int .i64 (spAt l k).ep] ∧ Blk W (w.heap.size + 1 + 1) 4 #[.bool true] ∧ Below w.heap.size w W) ?_ ?_ ?_ ⟨fun j hj => absurd hj (by omega), Blk.new w1 60 _, (Below.refl _ _).alloc (Nat.le_refl _) _⟩
      (fun k W => { tmps := #[.slice A l.length cp, .int .i64 c, undef, .pointer (some ⟨w.heap.size, 0, none⟩), .pointer (some ⟨w.heap.size + 1, 0, none⟩), .pointer (some ⟨w.heap.size + 1 + 1, 0, none⟩), undef, .pointer (some ⟨W.heap.size, 0, none⟩), .slice A l.length cp, .int .i64 0, .bool false, .slice A l.length cp, .func (.func 79) #[] #[.pointer (some ⟨w1.heap.size, 0, none⟩)], (prevS l k).val, (spAt l k).val, undef, undef, undef, undef, undef, undef, undef, undef, undef, undef, undef, undef], defers := [] })
      (fun k W => W.alloc (.cells (spAt l k).cells 107)) (fun k W => World.grownBy_alloc _ _ _) ?assign ?body ?done ?stop
    · rintro k X Y row ⟨h1, h2, h3⟩ hg hr
      rw [hsz] at hr
      exact ⟨h1, h2.grown hg (fun e => by have := hr _ e.symm; omega), h3.grown hg h3.size (fun r e => by have := hr r e; omega)⟩
    · rintro k X Y row ⟨h1, h2, h3, h4⟩ hg hr
      rw [hsz] at hr
      exact ⟨h1, h2.grown hg (fun e => by have := hr _ e.symm; omega), h3.grown hg (fun e => by have := hr _ e.symm; omega), h4.grown hg h4.size (fun r e => by have := hr r e; omega)⟩
    · rintro k X ⟨h1, h2, h3⟩
      exact ⟨h2.cell 0, HLST.out _ h3⟩
    case assign =>
      intro lp k W K hK
      dsimp only [Sp.val, Sp.cells] at hK ⊢
      gi_wp2
      exact hK
    case body =>
      rintro lp k X W hk ⟨h1, h2, h3⟩ ⟨_, w2, w3⟩ hbig hW hsW _
      rw [hsz] at hbig ⊢
      rw [World.size_alloc, World.size_alloc] at hsW
      have bx : Blk W (X.heap.size + 1) 107 (spAt l k).cells := (hW _ (by omega)).trans (by
        have h1 := Blk.new (X.alloc (.cells (spAt l k).cells 107)) 107 (spAt l k).cells
        rw [World.size_alloc] at h1
        exact h1)
      rw [World.size_alloc]
      have hVW := HV.out.below w3 HV.out.lt
      have hBW := HB.out.below w3 HB.out.lt
      have c0 : W.cell? ⟨w.heap.size, 0, none⟩ = some (.int .i64 c) := (HC.out.below w3 HC.out.lt).cell 0
      have v0 : W.cell? ⟨w.heap.size + 1, 0, none⟩ = some (.int .i64 0) := hVW.cell 0
      have b0 : W.cell? ⟨w.heap.size + 1 + 1, 0, none⟩ = some (.bool false) := hBW.cell 0
      have zv0 := hVW.frozen 0
      have zb0 := hBW.frozen 0
      have H1 := Lib.hid h1
      have H2 := Lib.hid w2
      have H3 := Lib.hid w3
      have HVW := Lib.hid hVW
      have HBW := Lib.hid hBW
      have HSW := Lib.hid hsW
      obtain ⟨x, hx⟩ : ∃ x, x = spAt l k := ⟨_, rfl⟩
      have HX := Lib.hid hx
      have x0 : W.cell? ⟨X.heap.size + 1, 0, none⟩ = some (.int .i64 (spAt l k).ep) := bx.cell 0
      have x1 : W.cell? ⟨X.heap.size + 1, 1, none⟩ = some (.int .i64 (spAt l k).fr) := bx.cell 1
      have x2 : W.cell? ⟨X.heap.size + 1, 2, none⟩ = some (.int .i64 (spAt l k).to) := bx.cell 2
      rw [← hx] at x0 x1 x2
      clear h1 h2 h3 w2 w3 bx hW hsW hVW hBW hx
      by_cases hh : x.fr ≤ c ∧ c ≤ x.to
      · obtain ⟨hh1, hh2⟩ := hh
        have HHB : Hid (hasB c (spAt l k) = true) := Lib.hid (by rw [← HX.out]; simp [hasB, hh1, hh2])
        gi_wp2
        refine ⟨⟨H1.out.stop hk HHB.out, ?_, ?_, ?_⟩, fun r hr => ?_⟩
        · rw [← HX.out]
          exact (HVW.out.set_ 0 _).far (p := ⟨w.heap.size + 1 + 1, 0, none⟩) (by simp) _
        · exact (HBW.out.far (p := ⟨w.heap.size + 1, 0, none⟩) (by simp) _).set_ 0 _
        · exact ((HB0.out.trans (H3.out.mono HB0.out.size)).setCell (by show w.heap.size ≤ w.heap.size + 1; omega) _).setCell (by show w.heap.size ≤ w.heap.size + 1 + 1; omega) _
        · exact (Below.heap_setCell _ _ _ _ (by show r ≠ w.heap.size + 1 + 1; omega)).trans (Below.heap_setCell _ _ _ _ (by show r ≠ w.heap.size + 1; omega))
      · have HHB : Hid (NoneOf l c (k + 1)) := Lib.hid fun j hj => by
          by_cases e : j = k
          · subst e; rw [← HX.out]; simp only [hasB, Bool.and_eq_false_iff, decide_eq_false_iff_not]; omega
          · exact H1.out j (by omega)
        by_cases hh1 : x.fr ≤ c
        all_goals
          gi_wp2
          all_goals exact ⟨⟨HHB.out, H2.out, H3.out⟩, fun r hr => rfl⟩
    case done =>
      rintro W ⟨h1, h2, h3⟩ hD
      rw [hsz] at hD ⊢
      have hVW := HV.out.below h3 HV.out.lt
      have hBW := HB.out.below h3 HB.out.lt
      have v0 : W.cell? ⟨w.heap.size + 1, 0, none⟩ = some (.int .i64 0) := hVW.cell 0
      have b0 : W.cell? ⟨w.heap.size + 1 + 1, 0, none⟩ = some (.bool false) := hBW.cell 0
      have zv0 := hVW.frozen 0
      have zb0 := hBW.frozen 0
      have HF : Hid (epoV l c = 0 ∧ epoB l c = false) := Lib.hid ⟨by rw [HVB.out.1, h1.all]; rfl, by rw [HVB.out.2, h1.all]; rfl⟩
      have H4 := Lib.hid (HB0.out.trans (h3.mono HB0.out.size))
      have HVW := Lib.hid hVW
      have HBW := Lib.hid hBW
      have HD := Lib.hid hD
      clear h1 h2 h3 hVW hBW hD
      go_wp2
      rw [HF.out.1, HF.out.2]
      have q := epoEnd (u := .int .i64 0) (v := .bool false) HVW.out HBW.out HD.out (by omega) (by omega) H4.out (by omega)
      have q0 := q.1.cell 0
      have q1 := q.2.1.cell 0
      exact bodyM_mark (v := .tuple #[.int .i64 0, .bool false]) q.2.2.1 rfl (by simp [results, Try.results26, go_sem, q0, q1]) ⟨rfl, q.2.2.2⟩
    case stop =>
      rintro k W hk ⟨h1, h2, h3, h4⟩ hD
      rw [hsz] at hD ⊢
      have HF : Hid (epoV l c = (spAt l k).ep ∧ epoB l c = true) := Lib.hid ⟨by rw [HVB.out.1, h1]; rfl, by rw [HVB.out.2, h1]; rfl⟩
      have H2 := Lib.hid h2
      have H3 := Lib.hid h3
      have H4 := Lib.hid h4
      have HD := Lib.hid hD
      clear h1 h2 h3 h4 hD
      go_wp2
      rw [HF.out.1, HF.out.2]
      have q0 := (putD (D := w1.heap.size + 1) (o := .deferred none) H2.out (by omega)).cell 0
      have q1 := (putD (D := w1.heap.size + 1) (o := .deferred none) H3.out (by omega)).cell 0
      exact bodyM_mark (v := .tuple #[.int .i64 (spAt l k).ep, .bool true]) HD.out rfl (by simp [results, Try.results26, go_sem, q0, q1]) ⟨rfl, H4.out.grown (grownBy_putObj' _ _ _) H4.out.size (fun r e => by cases e; omega)⟩
  · have hne : (E != 0) = true := bne_iff_ne.2 h
    have HVB : Hid (epoV l c = 0 ∧ epoB l c = false) := Lib.hid ⟨by unfold epoV; rw [← HE.out, if_neg h], by unfold epoB; rw [← HE.out, if_neg h]⟩
    clear h
    go_wp2
    rw [HVB.out.1, HVB.out.2]
    have q0 := ((HV.out.set_ 0 (.int .i64 0)).far (p := ⟨w.heap.size + 1 + 1, 0, none⟩) (by simp) (.bool false)).cell 0
    have q1 := ((HB.out.far (p := ⟨w.heap.size + 1, 0, none⟩) (by simp) (.int .i64 0)).set_ 0 (.bool false)).cell 0
    exact bodyM_ret (v := .tuple #[.int .i64 0, .bool false]) (by simp [results, Try.results26, go_sem, q0, q1]) rfl ⟨rfl, (HK.out.low.setCell (by show w.heap.size ≤ w.heap.size + 1; omega) _).setCell (by show w.heap.size ≤ w.heap.size + 1 + 1; omega) _⟩
end Go.Proofs.Ytcdifegjlllbfaa

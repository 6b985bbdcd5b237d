/- The walk through Truncate. Condition: the slice lies in memory as a list of at most 4096 spans. -/
import Derived.Test.YtcdifegjlllbfaaEpo
import Derived.OwnWalkIn
set_option linter.unusedVariables false
set_option linter.unusedSimpArgs false
namespace Go.Proofs.Ytcdifegjlllbfaa
open Go.RowKit Go.Shelf
attribute [local go_sem] Oper.semAt_some

/-- append(v, xs...) inside a round. -/
theorem wpListIn_append_all {α : Type} {E : Enc α} {F : Fence} {n : Nat} {P : Program} (w : World) {ops : Array Oper} {rest : List Oper} {o : Oper} {a : Act} {Q : Exit → Act → World → Prop} (hgd : o.guard = none) (s x : Operand) (t : TypeId)
    (ho : o.op = .call { callee := .builtin .append, args := #[s, x], argTypes := #[t, t] })
    (base : Nat) (e : TypeId) (i : TypeInfo) (z : Value) (bytes : Nat) (ht : P.underlying t = some (.slice e)) (hi : P.info? e = some i) (hz : i.zero = some z)
    (hsize : i.size = E.size) (hby : i.bytes = bytes) (hzs : z.cells.size = E.size)
    (v : Value) (l : List α) (hs : a.eval s = v) (hown : OwL E e w base v l)
    (A : Option Addr) (c : Nat) (m : List α) (hx : a.eval x = .slice A m.length c) (hr : RdL E w A m) (hA : A = none → m = [])
    (h63 : l.length + m.length ≤ maxLen) (hbytes : (l.length + m.length) * bytes ≤ 140737488355328) (hbase : base ≤ w.heap.size)
    (h : ∀ v' w', OwL E e w' base v' (l ++ m) → w.grownBy w' v.ownBlock → (v'.ownBlock = v.ownBlock ∨ v'.ownBlock = some w.heap.size) → wpListIn F n P ops Q rest (a.put o.dst v') w') : wpListIn F n P ops Q (o :: rest) a w :=
  wpListIn_plain hgd fun K hK => by
    obtain ⟨v', w', hrun, h2, h3, h4⟩ := run_append_all (E := E) (P := P) w base t o.type e i z bytes ht hi hz hsize hby hzs v l hown A c m hr hA h63 hbytes hbase
    unfold Oper.wpIn
    refine ⟨by simp [Oper.about, ho, resolve, Target.leads, Sem.run_pure], ?_⟩
    rw [Oper.semAt_plain F _ _ (by rw [ho]; intro c hc; cases hc)]
    simp [execOp, ho, resolve, invoke, builtin, hs, hx, hrun, Result.andThen]
    exact hK _ _ (h v' w' h2 h3 h4)

/-- What has come of the first k spans. -/
def truK (l : List Sp) (c : Int) (k : Nat) : List Sp := (l.take k).filterMap (cutS c)
theorem truK_succ {l : List Sp} {c : Int} {k : Nat} (hk : k < l.length) : truK l c (k + 1) = truK l c k ++ (cutS c (spAt l k)).toList := by
  unfold truK
  rw [List.take_succ_eq_append_getElem hk, List.filterMap_append, spAt_eq hk]
  congr 1
theorem truK_all (l : List Sp) (c : Int) : truK l c l.length = l.filterMap (cutS c) := by unfold truK; rw [List.take_length]
theorem truK_length (l : List Sp) (c : Int) (k : Nat) : (truK l c k).length ≤ k := Nat.le_trans (List.length_filterMap_le _ _) (by simp; omega)

set_option maxRecDepth 100000 in
set_option maxHeartbeats 2000000 in
theorem Tru_any (A : Option Addr) (cp : Nat) (l : List Sp) (c : Int) (w : World) (hl : RdS w A l) (h4096 : l.length ≤ 4096) :
    Calls Try.prog 31 #[.slice A l.length cp, .int .i64 c] w fun e w' => ∃ v, e = .returned v ∧ OwS w' w.heap.size v (truL l c) ∧ Below w.heap.size w w' := by
  have hlen := hl.1
  have HL := Lib.hid hl
  clear hl
  obtain ⟨i0, hi, hz0, hz1, hz2⟩ := info_parts info107
  refine calls_of_wp_marks Try.func31 rfl ?_
  simp only [Try.ntmps31, List.size_toArray, List.length_cons, List.length_nil, Nat.reduceAdd, Nat.reduceSub, Array.replicate_succ, Array.replicate_zero, List.push_toArray, List.append_toArray, List.nil_append, List.cons_append]
  go_wp2_with fail
  refine (Chk_any _ _ _ _ ((HL.out.alloc _).alloc _)).mono ?_
  rintro e w1 ⟨rfl, hb⟩
  have HK := Lib.hid ((((Known.start w).alloc 3 #[.int .i64 c]).alloc 60 #[.slice none 0 0]).below hb)
  have HC : Hid (Blk w1 w.heap.size 3 #[.int .i64 c]) := Lib.hid (HK.out.blk 1 rfl)
  have HO : Hid (Blk w1 (w.heap.size + 1) 60 #[.slice none 0 0]) := Lib.hid (by have := HK.out.blk 0 rfl; simpa using this)
  have hs1 : w.heap.size + 1 < w1.heap.size := HO.out.lt
  clear hb
  obtain ⟨E, hE⟩ : ∃ E, E = chkL l := ⟨_, rfl⟩
  have HE := Lib.hid hE
  rw [← hE]
  clear hE
  by_cases h : E = 0
  · have HT : Hid (truL l c = l.filterMap (cutS c)) := Lib.hid (by unfold truL; rw [← HE.out, if_pos h])
    subst h
    go_wp2_with fail
    refine (begins_any _ _ _ _).mono ?_
    rintro e w2 ⟨rfl, rfl⟩
    go_wp2_with fail
    have HB0 := Lib.hid HK.out.low
    have hsz : (w1.alloc (.cells #[.slice A l.length cp] 60)).heap.size = w1.heap.size + 1 := World.size_alloc _ _
    have hlst : ∀ X, Below w.heap.size w X → RdS X A l := fun X hX => RdL.below HL.out hX
    have HLST := Lib.hid hlst
    have hbx := Below.alloc (Below.refl w1.heap.size w1) (Nat.le_refl _) (.cells #[.slice A l.length cp] 60)
    clear hlst
    refine wp_rangeCells (gf := 79) (lb := #[.pointer (some ⟨w1.heap.size, 0, none⟩)]) rfl (by intro args w; kernel_rfl)
      (begins1_seq w1.heap.size A l cp _ hlen) (Below.refl _ _) (fun _ => rfl)
      (fun k W => ∃ v, Blk W (w.heap.size + 1) 60 #[v] ∧ OwS W w.heap.size v (truK l c k) ∧ (∀ q, v.ownBlock = some q → w1.heap.size + 3 < q) ∧ Blk W w.heap.size 3 #[.int .i64 c] ∧ Blk W w1.heap.size 60 #[.slice A l.length cp] ∧ Below w.heap.size w W)
      (fun k W => False) ?_ (fun k X Y row h => h.elim) ?_ ⟨.slice none 0 0, HO.out.alloc _, OwL.nil _ _ _ _, (fun q h => by cases h), HC.out.alloc _, Blk.new w1 60 _, HB0.out.alloc HB0.out.size _⟩
      (fun k W => { tmps := #[.slice A l.length cp, .int .i64 c, undef, .pointer (some ⟨w.heap.size, 0, none⟩), .slice none 0 0, .pointer (some ⟨w.heap.size + 1, 0, none⟩), undef, .pointer (some ⟨W.heap.size, 0, none⟩), .slice A l.length cp, .int .i64 0, .bool false, .slice A l.length cp, .func (.func 79) #[] #[.pointer (some ⟨w1.heap.size, 0, none⟩)], (prevS l k).val, (spAt l k).val, undef, undef, undef, undef, undef, undef, undef, undef, undef, undef, undef, undef, undef, undef], defers := [] })
      (fun k W => W.alloc (.cells (spAt l k).cells 107)) (fun k W => World.grownBy_alloc _ _ _) ?assign ?body ?done (fun k W hk h => h.elim)
    · rintro k X Y row ⟨v, h1, h2, h3, h4, h5, h6⟩ hg hr
      rw [hsz] at hr
      exact ⟨v, h1.grown hg (fun e => by have := hr _ e.symm; omega), h2.grown hg (fun q hq e => by have := hr q e.symm; have := h3 q hq; omega), h3, h4.grown hg (fun e => by have := hr _ e.symm; omega), h5.grown hg (fun e => by have := hr _ e.symm; omega), h6.grown hg h6.size (fun r e => by have := hr r e; omega)⟩
    · rintro k X ⟨v, h1, h2, h3, h4, h5, h6⟩
      exact ⟨h5.cell 0, HLST.out _ h6⟩
    case assign =>
      intro lp k W K hK
      dsimp only [Sp.val, Sp.cells] at hK ⊢
      gi_wp2
      exact hK
    case body =>
      rintro lp k X W hk ⟨v', y1, y2, _⟩ ⟨v, w1', w2, w3, w4, w5, w6⟩ hbig hW hsW hlow
      have hvv : v = v' := by
        have h1 := (hlow _ (by omega) (by rw [hsz]; omega)).symm.trans w1'
        unfold Blk at y1
        rw [y1] at h1
        injection h1 with h1
        injection h1 with h1
        injection h1 with h1
        injection h1 with h1
        exact h1.symm
      have hvX : ∀ q, v.ownBlock = some q → q < X.heap.size := fun q hq => (OwL.lt y2 q (by rw [← hvv]; exact hq)).2
      have HVX := Lib.hid hvX
      clear hvX hvv y1 y2 hlow
      rw [hsz] at hbig ⊢
      rw [World.size_alloc, World.size_alloc] at hsW
      have bx : Blk W (X.heap.size + 1) 107 (spAt l k).cells := (hW _ (by omega)).trans (by
        have h1 := Blk.new (X.alloc (.cells (spAt l k).cells 107)) 107 (spAt l k).cells
        rw [World.size_alloc] at h1
        exact h1)
      rw [World.size_alloc]
      have c0 : W.cell? ⟨w.heap.size, 0, none⟩ = some (.int .i64 c) := w4.cell 0
      have o0 : W.cell? ⟨w.heap.size + 1, 0, none⟩ = some v := w1'.cell 0
      have zo0 := w1'.frozen 0
      have H1 := Lib.hid w1'
      have H2 := Lib.hid w2
      have H3 := Lib.hid w3
      have H4 := Lib.hid w4
      have H5 := Lib.hid w5
      have H6 := Lib.hid w6
      have BX := Lib.hid bx
      have HSW := Lib.hid hsW
      have hs2 : w.heap.size + 1 < X.heap.size + 1 := by omega
      have hs3 : X.heap.size + 1 < W.heap.size := by omega
      have htk := truK_succ (c := c) hk
      obtain ⟨x, hx⟩ : ∃ x, x = spAt l k := ⟨_, rfl⟩
      rw [← hx] at htk
      have HTK := Lib.hid htk
      have x0 : W.cell? ⟨X.heap.size + 1, 0, none⟩ = some (.int .i64 (spAt l k).ep) := bx.cell 0
      have x1 : W.cell? ⟨X.heap.size + 1, 1, none⟩ = some (.int .i64 (spAt l k).fr) := bx.cell 1
      have x2 : W.cell? ⟨X.heap.size + 1, 2, none⟩ = some (.int .i64 (spAt l k).to) := bx.cell 2
      have zx2 := bx.frozen 2
      rw [← hx] at x0 x1 x2 BX
      clear w1' w2 w3 w4 w5 w6 bx hW hsW htk hx
      by_cases hh : x.fr ≤ c
      · obtain ⟨A1, c1, rfl, _, _, _⟩ := OwL.rd H2.out
        have hm : (x.to ≤ c ∧ min x.to c = x.to) ∨ (c < x.to ∧ min x.to c = c) := by omega
        have HCT : Hid (truK l c (k + 1) = truK l c k ++ [⟨x.ep, x.fr, min x.to c⟩]) := Lib.hid (by rw [HTK.out, show cutS c x = some ⟨x.ep, x.fr, min x.to c⟩ from if_pos hh]; rfl)
        have hx9 : (truK l c k).length + 1 ≤ 4096 := by have := truK_length l c k; omega
        have HX9 := Lib.hid hx9
        clear hx9
        rcases hm with ⟨hm1, hm2⟩ | ⟨hm1, hm2⟩
        all_goals
          rw [hm2] at HCT
          clear hm2
          have hne : ∀ q, (Value.slice A1 (truK l c k).length c1).ownBlock = some q → q ≠ X.heap.size + 1 := fun q hq e => by have := HVX.out q hq; omega
          have HOA : ∀ u o, Hid (OwS ((W.setCell ⟨X.heap.size + 1, 2, none⟩ u).alloc o) w.heap.size (.slice A1 (truK l c k).length c1) (truK l c k)) := fun u o => Lib.hid ((H2.out.far (p := ⟨X.heap.size + 1, 2, none⟩) hne u).alloc o)
          have HBN : ∀ u m, Hid (RdS ((W.setCell ⟨X.heap.size + 1, 2, none⟩ u).alloc (.cells #[.int .i64 x.ep, .int .i64 x.fr, .int .i64 m] 107)) (some ⟨W.heap.size, 0, none⟩) [⟨x.ep, x.fr, m⟩]) := fun u m => Lib.hid (by have := RdL.box (E := eS) (W.setCell ⟨X.heap.size + 1, 2, none⟩ u) ⟨x.ep, x.fr, m⟩ 107; rw [show (W.setCell ⟨X.heap.size + 1, 2, none⟩ u).heap.size = W.heap.size by simp [World.setCell]] at this; exact this)
          have HK1 : ∀ m, Hid ((truK l c k).length + [(⟨x.ep, x.fr, m⟩ : Sp)].length ≤ maxLen) := fun m => Lib.hid (by have := HX9.out; simp only [maxLen, List.length_singleton]; omega)
          have HK2 : ∀ m, Hid (((truK l c k).length + [(⟨x.ep, x.fr, m⟩ : Sp)].length) * 24 ≤ 140737488355328) := fun m => Lib.hid (by have := HX9.out; simp only [List.length_singleton]; omega)
          have HBS : ∀ u o, Hid (w.heap.size ≤ ((W.setCell ⟨X.heap.size + 1, 2, none⟩ u).alloc o).heap.size) := fun u o => Lib.hid (by simp [World.setCell]; omega)
          have HFA : ∀ u o w9, Hid (((W.setCell ⟨X.heap.size + 1, 2, none⟩ u).alloc o).grownBy w9 (Value.slice A1 (truK l c k).length c1).ownBlock → (Blk w9 (w.heap.size + 1) 60 #[.slice A1 (truK l c k).length c1] ∧ Blk w9 w.heap.size 3 #[.int .i64 c] ∧ Blk w9 w1.heap.size 60 #[.slice A l.length cp] ∧ Below w.heap.size w w9 ∧ W.heap.size ≤ w9.heap.size ∧ ∀ r, (w1.heap.size + 1 ≤ r ∧ r ≤ w1.heap.size + 1 + 2) ∨ r = X.heap.size → w9.heap[r]? = W.heap[r]?)) := by
            refine fun u o w9 => Lib.hid fun hg => ?_
            have hq : ∀ q, (Value.slice A1 (truK l c k).length c1).ownBlock = some q → w1.heap.size + 3 < q ∧ q < X.heap.size := fun q hq => ⟨H3.out q hq, HVX.out q hq⟩
            have hk : ∀ r, r < W.heap.size → r ≠ X.heap.size + 1 → (∀ q, (Value.slice A1 (truK l c k).length c1).ownBlock = some q → q ≠ r) → w9.heap[r]? = W.heap[r]? := fun r h1 h2 h3 => (hg.block r (by simp [World.setCell]; omega) (fun e => h3 r e.symm rfl)).trans ((heap_alloc_lt _ _ (by simp [World.setCell]; omega)).trans (Below.heap_setCell _ _ _ _ h2))
            have hb6 := (H6.out.setCell (p := ⟨X.heap.size + 1, 2, none⟩) (by show w.heap.size ≤ X.heap.size + 1; omega) u)
            refine ⟨(hk _ (by omega) (by omega) (fun q h => by have := hq q h; omega)).trans H1.out, (hk _ (by omega) (by omega) (fun q h => by have := hq q h; omega)).trans H4.out, (hk _ (by omega) (by omega) (fun q h => by have := hq q h; omega)).trans H5.out, (hb6.alloc hb6.size o).grown hg (hb6.alloc hb6.size o).size (fun q h => by have := hq q h; omega), by have := hg.size; simp [World.setCell] at this; omega, fun r hr => hk r (by omega) (by omega) (fun q h => by have := hq q h; omega)⟩
          gi_wp2_with (gi_at_builtin; refine wpListIn_append_all (E := eS) _ rfl (.tmp 24) (.tmp 26) 60 rfl w.heap.size 107 i0 _ 24 Try.underlying60 hi hz0 hz1 hz2 rfl (.slice A1 (truK l c k).length c1) (truK l c k) rfl (HOA _ _).out (some ⟨W.heap.size, 0, none⟩) 1 [⟨x.ep, x.fr, _⟩] rfl (HBN _ _).out (by simp) (HK1 _).out (HK2 _).out (HBS _ _).out ?_; intro v1 w9 hown hg hat; obtain ⟨A5, c5, rfl, _, _, _⟩ := OwL.rd hown; obtain ⟨p1, p2, p3, p4, p5, p6⟩ := (HFA _ _ w9).out hg; have P1 := Lib.hid p1; have P2 := Lib.hid p2; have P3 := Lib.hid p3; have P4 := Lib.hid p4; have P6 := Lib.hid p6; have HOW := Lib.hid hown; have HAT := Lib.hid hat; have o1 : w9.cell? ⟨w.heap.size + 1, 0, none⟩ = some (.slice A1 (truK l c k).length c1) := P1.out.cell 0; have zo1 := P1.out.frozen 0; clear hg hown hat p1 p2 p3 p4 p6)
          have hlen5 : ∀ y : Sp, (truK l c k ++ [y]).length = (truK l c k).length + 1 := fun y => by simp
          have hown := HOW.out
          have hat := HAT.out
          rw [hlen5] at hown hat
          refine ⟨⟨_, P1.out.set_ 0 _, ?_, ?_, P2.out.far (p := ⟨w.heap.size + 1, 0, none⟩) (by simp) _, P3.out.far (p := ⟨w.heap.size + 1, 0, none⟩) (by simp; omega) _, P4.out.setCell (by show w.heap.size ≤ w.heap.size + 1; omega) _⟩, fun r hr => (Below.heap_setCell _ _ _ _ (by show r ≠ w.heap.size + 1; omega)).trans (P6.out r hr)⟩
          · rw [HCT.out]
            exact OwL.far (p := ⟨w.heap.size + 1, 0, none⟩) hown (OwL.apart hown P1.out (by decide)) _
          · intro q hq
            rcases hat with h | h
            · exact H3.out q (h.symm.trans hq)
            · rw [h] at hq
              simp [World.setCell] at hq
              omega
      · have HCT : Hid (truK l c (k + 1) = truK l c k) := Lib.hid (by rw [HTK.out, show cutS c x = none from if_neg hh]; simp)
        gi_wp2
        exact ⟨⟨v, H1.out, by rw [HCT.out]; exact H2.out, H3.out, H4.out, H5.out, H6.out⟩, fun r hr => rfl⟩
    case done =>
      rintro W ⟨v, h1, h2, h3, h4, h5, h6⟩ hD
      rw [hsz] at hD ⊢
      have o0 : W.cell? ⟨w.heap.size + 1, 0, none⟩ = some v := h1.cell 0
      have H1 := Lib.hid h1
      have H2 := Lib.hid h2
      have H3 := Lib.hid h3
      have H6 := Lib.hid h6
      have HD := Lib.hid hD
      clear h1 h2 h3 h4 h5 h6 hD
      go_wp2
      exact bodyM_mark (v := v) HD.out rfl (by simp [results, Try.results31, go_sem]) ⟨v, rfl, by rw [HT.out, ← truK_all]; exact H2.out.grown (grownBy_putObj' _ _ _) (fun q hq e => by have := H3.out q hq; cases e; omega), H6.out.grown (grownBy_putObj' _ _ _) H6.out.size (fun r e => by cases e; omega)⟩
  · have hne : (E != 0) = true := bne_iff_ne.2 h
    have HT : Hid (truL l c = []) := Lib.hid (by unfold truL; rw [← HE.out, if_neg h])
    clear h
    go_wp2
    rw [HT.out]
    exact bodyM_ret (v := .slice none 0 0) (by simp [results, Try.results31, go_sem]) rfl ⟨_, rfl, OwL.nil _ _ _ _, HK.out.low⟩
end Go.Proofs.Ytcdifegjlllbfaa

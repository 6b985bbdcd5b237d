/- The walks through tail, Clone, the closures of Extend, and Extend. Condition: the slice lies in memory as a list of at most 4096 spans. -/
import Derived.Test.YtcdifegjlllbfaaTru
import Derived.WalkSpells
import Derived.Deep.AppendLies
set_option linter.unusedVariables false
set_option linter.unusedSimpArgs false
namespace Go.Proofs.Ytcdifegjlllbfaa
open Go.RowKit

theorem tailS_at {l : List Sp} (h : 0 < l.length) : tailS l = l[l.length - 1] := by
  unfold tailS
  rw [List.getLast?_eq_getElem?, List.getElem?_eq_getElem (by omega)]
  rfl
theorem tail_to {l : List Sp} (h : Lin l) : 0 ≤ (tailS l).to ∧ (tailS l).to ≤ 1073741824 := by
  by_cases h0 : 0 < l.length
  · rw [tailS_at h0]
    have := h (l.length - 1) (by omega)
    exact ⟨Int.le_trans (by decide) this.t0, this.t1⟩
  · have : l = [] := List.eq_nil_of_length_eq_zero (by omega)
    subst this
    decide
theorem set_last {l : List Sp} (h : 0 < l.length) {y : Sp} : l.dropLast ++ [y] = l.set (l.length - 1) y := by
  apply List.ext_getElem
  · simp; omega
  · intro i h1 h2
    rw [List.getElem_set]
    by_cases hi : i < l.length - 1
    · rw [if_neg (by omega), List.getElem_append_left (by simpa using hi)]
      simp
    · have : l.length - 1 = i := by simp at h1; omega
      rw [if_pos this, List.getElem_append_right (by simp; omega)]
      simp
theorem tail_any (A : Option Addr) (c : Nat) (l : List Sp) (w : World) (hl : RdS w A l) :
    Calls Try.prog 63 #[.slice A l.length c] w fun e w' => e = .returned (tailS l).val ∧ Below w.heap.size w w' := by
  have hlen := hl.1
  have HB1 : Hid (∀ o, Below w.heap.size w (w.alloc o)) := Lib.hid fun o => (Below.refl _ w).alloc (Nat.le_refl _) o
  by_cases h : l.length = 0
  · have hz0 : ((l.length : Int) == 0) = true := by simp [h]
    have HT : Hid (tailS l = sp0) := Lib.hid (by rw [List.eq_nil_of_length_eq_zero h]; rfl)
    have HZ := Lib.hid h
    clear hl h
    go_enter Try.func63, Try.ntmps63
    go_wp2
    rw [HT.out]
    exact bodyPost_ret (v := .agg #[.int .i64 0, .int .i64 0, .int .i64 0]) (by simp [results, Try.results63, go_sem]) rfl ⟨rfl, HB1.out _⟩
  · have hz0 : ((l.length : Int) == 0) = false := beq_eq_false_iff_ne.2 (by omega)
    have HT := Lib.hid (tailS_at (l := l) (by omega))
    obtain ⟨ad, rfl, f0, f1, f2⟩ := RdS.at_ hl (show l.length - 1 < l.length by omega)
    obtain ⟨x, hx⟩ : ∃ x, x = l[l.length - 1] := ⟨_, rfl⟩
    rw [← hx] at f0 f1 f2 HT
    have hi : (((l.length : Int) - 1).toNat) = l.length - 1 := by omega
    have hw : IntKind.i64.wrap ((l.length : Int) - 1) = (l.length : Int) - 1 := IntWalk.i64_in _ (by omega)
    have h1 : (1 : Int) ≤ l.length := by omega
    have h1' : 0 ≤ (l.length : Int) - 1 := by omega
    have hba : Below w.heap.size w (w.alloc (.cells #[.int .i64 0, .int .i64 0, .int .i64 0] 107)) := (Below.refl _ w).alloc (Nat.le_refl _) _
    replace f0 := cell_later hba f0
    replace f1 := cell_later hba f1
    replace f2 := cell_later hba f2
    clear hl hx h hba
    go_enter Try.func63, Try.ntmps63
    go_wp2
    rw [HT.out]
    exact bodyPost_ret (v := x.val) (by simp [results, Try.results63, go_sem, Sp.val, Sp.cells]) rfl ⟨rfl, HB1.out _⟩
theorem CloneS_any (A : Option Addr) (c : Nat) (l : List Sp) (w : World) (hl : RdS w A l) (hlen : l.length ≤ 4096) :
    Calls Try.prog 67 #[.slice A l.length c] w fun e w' => ∃ v, e = .returned v ∧ OwS w' w.heap.size v l ∧ Below w.heap.size w w' := by
  cases A with
  | none =>
    obtain rfl := RdL.none_ hl
    have hn := fun wx : World => Lib.run_eql_slice_nil (P := Try.prog) wx 60 107 none 0 c 0 0 Try.underlying60
    go_enter Try.func67, Try.ntmps67
    go_wp2
    go_ret
    exact ⟨_, rfl, OwL.nil _ _ _ _, Below.refl _ _⟩
  | some ad =>
    have HL := Lib.hid hl
    clear hl
    obtain ⟨i0, hi, hz0, hz1, hz2⟩ := info_parts info107
    have hn := fun wx : World => Lib.run_eql_slice_nil (P := Try.prog) wx 60 107 (some ad) l.length c 0 0 Try.underlying60
    go_enter Try.func67, Try.ntmps67
    go_wp2_with (at_builtin; refine wpList_append_all (E := eS) _ rfl (.tmp 5) (.tmp 6) _ rfl w.heap.size 107 i0 _ 24 Try.underlying60 hi hz0 hz1 hz2 rfl (.slice (some ⟨w.heap.size, 0, none⟩) 0 0) [] rfl (OwL.empty _ _ _ _ (Nat.le_refl _)) (some ad) c l rfl (RdL.alloc HL.out _) (by simp) (by simp only [maxLen, List.length_nil]; omega) (by simp only [List.length_nil]; omega) (by simp) ?_; intro v1 w1 hown hg hat)
    go_ret
    exact ⟨_, rfl, by simpa using hown, ((Below.refl _ _).alloc (Nat.le_refl _) _).grown hg (by simp) (by intro k hk; simp [Value.ownBlock] at hk; omega)⟩

theorem at64 (args : Array Value) (W : World) : (callFunc 64 args).run Try.prog W = .ok (.enter 64 args) W := by kernel_rfl
theorem at65 (args : Array Value) (W : World) : (callFunc 65 args).run Try.prog W = .ok (.enter 65 args) W := by kernel_rfl
theorem at66 (args : Array Value) (W : World) : (callFunc 66 args).run Try.prog W = .ok (.enter 66 args) W := by kernel_rfl
theorem ext1_any (a b : Nat) (n c : Int) (w : World) (ha : Blk w a 3 #[.int .i64 n]) (hb : Blk w b 3 #[.int .i64 c]) : Calls Try.prog 64 #[.pointer (some ⟨a, 0, none⟩), .pointer (some ⟨b, 0, none⟩)] w fun e w' => e = .returned (.bool (inB n 1 && inB c 1)) ∧ Below w.heap.size w w' := by
  have c0 : w.cell? ⟨a, 0, none⟩ = some (.int .i64 n) := ha.cell 0
  have c1 : w.cell? ⟨b, 0, none⟩ = some (.int .i64 c) := hb.cell 0
  clear ha hb
  obtain ⟨v, hv⟩ : ∃ v, v = (inB n 1 && inB c 1) := ⟨_, rfl⟩
  have HD := Lib.hid hv
  rw [← hv]
  clear hv
  go_enter Try.func64, Try.ntmps64
  go_wp2_with fail
  refine (in_any _ _ _).mono ?_
  rintro e w1 ⟨rfl, rfl⟩
  obtain ⟨b, hb⟩ : ∃ b, b = inB n 1 := ⟨_, rfl⟩
  rw [← hb] at HD ⊢
  clear hb
  cases b
  · go_wp2
    go_ret
    exact ⟨ret_b (by rw [HD.out]; rfl), Below.refl _ _⟩
  · go_wp2_with fail
    refine (in_any _ _ _).mono ?_
    rintro e w1 ⟨rfl, rfl⟩
    obtain ⟨b, hb⟩ : ∃ b, b = inB c 1 := ⟨_, rfl⟩
    rw [← hb] at HD ⊢
    clear hb
    go_wp2
    go_ret
    exact ⟨ret_b (by rw [HD.out]; simp), Below.refl _ _⟩
theorem ext2_any (a g : Nat) (x : Sp) (n : Int) (w : World) (ha : Blk w a 3 #[.int .i64 n]) (hg : Blk w g 107 x.cells) : Calls Try.prog 65 #[.pointer (some ⟨a, 0, none⟩), .pointer (some ⟨g, 0, none⟩)] w fun e w' => e = .returned (.bool (decide (x.ep ≤ n))) ∧ Below w.heap.size w w' := by
  have c0 : w.cell? ⟨a, 0, none⟩ = some (.int .i64 n) := ha.cell 0
  have c1 : w.cell? ⟨g, 0, none⟩ = some (.int .i64 x.ep) := hg.cell 0
  clear ha hg
  go_enter Try.func65, Try.ntmps65
  go_wp2
  go_ret
  exact ⟨ret_b (by first | rfl | (rw [Bool.eq_iff_iff]; simp; done)), Below.refl _ _⟩
theorem ext3_any (a g : Nat) (x : Sp) (n : Int) (w : World) (ha : Blk w a 3 #[.int .i64 n]) (hg : Blk w g 107 x.cells) : Calls Try.prog 66 #[.pointer (some ⟨a, 0, none⟩), .pointer (some ⟨g, 0, none⟩)] w fun e w' => e = .returned (.bool (decide (x.to < n))) ∧ Below w.heap.size w w' := by
  have c0 : w.cell? ⟨a, 0, none⟩ = some (.int .i64 n) := ha.cell 0
  have c1 : w.cell? ⟨g, 2, none⟩ = some (.int .i64 x.to) := hg.cell 2
  clear ha hg
  go_enter Try.func66, Try.ntmps66
  go_wp2
  go_ret
  exact ⟨ret_b (by first | rfl | (rw [Bool.eq_iff_iff]; simp; done)), Below.refl _ _⟩
def extR (a b g : Nat) (n c : Int) (x : Sp) : List Rl := [⟨64, #[ptr a, ptr b], 2, inB n 1 && inB c 1⟩, ⟨65, #[ptr a, ptr g], 13, decide (x.ep ≤ n)⟩, ⟨66, #[ptr b, ptr g], 8, decide (x.to < c)⟩]
theorem extR_answers {w : World} {a b g : Nat} {n c : Int} {x : Sp} (ha : Blk w a 3 #[.int .i64 n]) (hb : Blk w b 3 #[.int .i64 c]) (hg : Blk w g 107 x.cells) : Answers w (extR a b g n c x) :=
  Answers.cons at64 (fun W hW => ext1_any a b n c W (ha.below hW ha.lt) (hb.below hW hb.lt)) (Answers.cons at65 (fun W hW => ext2_any a g x n W (ha.below hW ha.lt) (hg.below hW hg.lt)) (Answers.cons at66 (fun W hW => ext3_any b g x c W (hb.below hW hb.lt) (hg.below hW hg.lt)) (Answers.nil _)))
theorem rules_at {w : World} {g : Nat} (hg : w.heap.size = g) {l : List Rl} (cs : Array Value) (hc : cs = (eR.flat l).toArray) (h : l.length ≤ 100) : RdR (w.alloc (.cells cs 101)) (some ⟨g, 0, none⟩) l := by subst hg; exact rules cs hc h
def extF (n c : Int) (x : Sp) : Int := if inB n 1 && inB c 1 then (if x.ep ≤ n then (if x.to < c then 0 else 8) else 13) else 2
theorem extR_first {a b g : Nat} {n c : Int} {x : Sp} : firstE (extR a b g n c x) = extF n c x := by
  simp only [extR, firstE, extF, decide_eq_true_eq]
/-- Extend: what is handed back. -/
def ExtPost (w : World) (l : List Sp) (n c : Int) (e : Ending) (w' : World) : Prop := ∃ v, e = .returned (.tuple #[v, .int .i64 (extE l n c)]) ∧ OwS w' w.heap.size v (extL l n c) ∧ Below w.heap.size w w'
theorem ext_err {w w' : World} {l : List Sp} {n c E : Int} (h : extE l n c = E) (h0 : E ≠ 0) (hb : Below w.heap.size w w') : ExtPost w l n c (.returned (.tuple #[.slice none 0 0, .int .i64 E])) w' :=
  ⟨_, by rw [h], by unfold extL; rw [h, if_neg h0]; exact OwL.nil _ _ _ _, hb⟩
set_option maxRecDepth 100000 in
set_option maxHeartbeats 2000000 in
theorem Ext_any (A : Option Addr) (cp : Nat) (l : List Sp) (n c : Int) (w : World) (hl : RdS w A l) (h4096 : l.length ≤ 4096) :
    Calls Try.prog 33 #[.slice A l.length cp, .int .i64 n, .int .i64 c] w (ExtPost w l n c) := by
  have HL := Lib.hid hl
  clear hl
  have HD : Hid (extE l n c = if chkL l = 0 then extF n c (tailS l) else chkL l) := Lib.hid rfl
  obtain ⟨i0, hi, hz0, hz1, hz2⟩ := info_parts info107
  go_enter Try.func33, Try.ntmps33
  go_wp2_with fail
  refine (Chk_any _ _ _ _ ((HL.out.alloc _).alloc _)).mono ?_
  rintro e w1 ⟨rfl, hb⟩
  have HK := Lib.hid ((((Known.start w).alloc 3 #[.int .i64 n]).alloc 3 #[.int .i64 c]).below hb)
  clear hb
  obtain ⟨E, hE⟩ : ∃ E, E = chkL l := ⟨_, rfl⟩
  have HE := Lib.hid hE
  rw [← hE] at HD ⊢
  clear hE
  by_cases h : E = 0
  · rw [if_pos h] at HD
    have HE0 := Lib.hid h
    subst h
    go_wp2_with fail
    refine (tail_any _ _ _ _ (RdL.below HL.out HK.out.low)).mono ?_
    rintro e w2 ⟨rfl, hb⟩
    have HK2 := Lib.hid ((HK.out.below hb).alloc 107 (tailS l).cells)
    obtain ⟨x, hx⟩ : ∃ x, x = tailS l := ⟨_, rfl⟩
    have HX := Lib.hid hx
    rw [← hx] at HD HK2 ⊢
    clear hx hb HK
    unfold Sp.val Sp.cells
    have HN : Hid (Blk (w2.alloc (.cells x.cells 107)) w.heap.size 3 #[.int .i64 n]) := Lib.hid (HK2.out.blk 2 rfl)
    have HC : Hid (Blk (w2.alloc (.cells x.cells 107)) (w.heap.size + 1) 3 #[.int .i64 c]) := Lib.hid (by have := HK2.out.blk 1 rfl; simpa using this)
    have HT : Hid (Blk (w2.alloc (.cells x.cells 107)) w2.heap.size 107 x.cells) := Lib.hid (HK2.out.blk 0 rfl)
    go_wp2_with fail
    refine (first_any _ _ (extR w.heap.size (w.heap.size + 1) w2.heap.size n c x) _ (rules_at (World.size_alloc _ _) _ rfl (by simp [extR])) (extR_answers (HN.out.alloc _) (HC.out.alloc _) (HT.out.alloc _))).mono ?_
    rintro e w3 ⟨rfl, hb⟩
    rw [extR_first]
    have hk3 := (HK2.out.low.alloc HK2.out.low.size (.cells (eR.flat (extR w.heap.size (w.heap.size + 1) w2.heap.size n c x)).toArray 101)).trans (hb.mono (HK2.out.low.alloc HK2.out.low.size _).size)
    have HB3 := Lib.hid hk3
    have HN3 := Lib.hid ((HN.out.alloc _).below hb (HN.out.alloc _).lt)
    have HC3 := Lib.hid ((HC.out.alloc _).below hb (HC.out.alloc _).lt)
    have HT3 := Lib.hid ((HT.out.alloc _).below hb (HT.out.alloc _).lt)
    clear hb hk3 HN HC HT HK2
    obtain ⟨F, hF⟩ : ∃ F, F = extF n c x := ⟨_, rfl⟩
    have HF := Lib.hid hF
    rw [← hF] at HD ⊢
    clear hF
    by_cases h2 : F = 0
    · have HD0 : Hid (extE l n c = 0) := Lib.hid (by rw [HD.out, h2])
      subst h2
      clear HD
      go_wp2_with fail
      refine (CloneS_any _ _ _ _ (RdL.below HL.out HB3.out) h4096).mono ?_
      rintro e w4 ⟨v, rfl, hv, hb⟩
      have HEL : Hid (extL l n c = extM l n c) := Lib.hid (by unfold extL; rw [HD0.out, if_pos rfl])
      have hx0 : 0 ≤ x.to ∧ x.to ≤ 1073741824 := by rw [HX.out]; exact tail_to (chkL_zero.1 HE.out.symm)
      obtain ⟨hx0, hx1⟩ := hx0
      have HB4 := Lib.hid (HB3.out.trans (hb.mono HB3.out.size))
      have HN4 := HN3.out.below hb HN3.out.lt
      have HC4 := HC3.out.below hb HC3.out.lt
      have HT4 := HT3.out.below hb HT3.out.lt
      have c0 : w4.cell? ⟨w.heap.size, 0, none⟩ = some (.int .i64 n) := HN4.cell 0
      have c1 : w4.cell? ⟨w.heap.size + 1, 0, none⟩ = some (.int .i64 c) := HC4.cell 0
      have t0 : w4.cell? ⟨w2.heap.size, 0, none⟩ = some (.int .i64 x.ep) := HT4.cell 0
      have t2 : w4.cell? ⟨w2.heap.size, 2, none⟩ = some (.int .i64 x.to) := HT4.cell 2
      have HV := Lib.hid (OwL.lower hv (base' := w.heap.size) HB3.out.size)
      have hs4 : w.heap.size ≤ w4.heap.size := HB4.out.size
      clear hb HN4 HC4 HT4 HN3 HC3 HT3 hv HB3
      by_cases hnl : 0 < l.length ∧ n = x.ep
      · obtain ⟨hl0, hne⟩ := hnl
        have hb1 : (n == x.ep) = true := by simp [hne]
        have HM : Hid (extM l n c = l.set (l.length - 1) ⟨x.ep, x.fr, c⟩) := Lib.hid (by unfold extM; rw [if_pos ⟨fun e => by rw [e] at hl0; simp at hl0, hne.trans (by rw [HX.out])⟩, HX.out]; exact set_last hl0)
        obtain ⟨g, cap, rfl, hg0, hg1, hg2⟩ := OwL.at_ HV.out hl0
        have hz := OwL.frozen HV.out ((l.length - 1) * 3 + 2)
        have hc2 : w4.cell? ⟨g, (l.length - 1) * 3 + 2, none⟩ = some (.int .i64 l[l.length - 1].to) := OwL.cell HV.out (show l.length - 1 < l.length by omega) (j := 2) (by decide)
        have hw : IntKind.i64.wrap ((l.length : Int) - 1) = (l.length : Int) - 1 := IntWalk.i64_in _ (by omega)
        have h1' : 0 ≤ (l.length : Int) - 1 := by omega
        have h1 : (1 : Int) ≤ l.length := by omega
        have hi' : (((l.length : Int) - 1).toNat) = l.length - 1 := by omega
        have hd0 : decide (0 < l.length) = true := by simpa using hl0
        have HST : Hid (OwS (w4.setCell ⟨g, (l.length - 1) * 3 + 2, none⟩ (.int .i64 c)) w.heap.size (.slice (some ⟨g, 0, none⟩) l.length cap) (l.set (l.length - 1) ⟨x.ep, x.fr, c⟩)) := Lib.hid (by
          have hxl : l[l.length - 1] = x := by rw [HX.out]; exact (tailS_at hl0).symm
          exact OwL.stored (E := eS) HV.out (show l.length - 1 < l.length by omega) (j := 2) (by decide) (x := ⟨x.ep, x.fr, c⟩) (u := .int .i64 c) (by rw [hxl]; rfl))
        have HG0 := Lib.hid hg0
        clear hne hg0
        go_wp2
        go_ret2
        exact ⟨.slice (some ⟨g, 0, none⟩) l.length cap, by rw [HD0.out]; rfl, by rw [HEL.out, HM.out]; simpa using HST.out, HB4.out.setCell (p := ⟨g, (l.length - 1) * 3 + 2, none⟩) HG0.out _⟩
      · have HM : Hid (extM l n c = l ++ [⟨n, x.to + 1, c⟩]) := Lib.hid (by unfold extM; rw [if_neg (fun h => hnl ⟨List.length_pos_iff.2 h.1, h.2.trans (by rw [HX.out])⟩), HX.out])
        have hor : l.length = 0 ∨ (0 < l.length ∧ n ≠ x.ep) := by
          by_cases h : l.length = 0
          · exact .inl h
          · exact .inr ⟨by omega, fun h2 => hnl ⟨by omega, h2⟩⟩
        clear hnl
        obtain ⟨A1, cc, rfl, _, _, _⟩ := OwL.rd HV.out
        have HBN : Hid (RdS (w4.alloc (.cells #[.int .i64 n, .int .i64 (x.to + 1), .int .i64 c] 107)) (some ⟨w4.heap.size, 0, none⟩) [⟨n, x.to + 1, c⟩]) := Lib.hid (RdL.box (E := eS) w4 ⟨n, x.to + 1, c⟩ 107)
        have HK1 : Hid (l.length + [(⟨n, x.to + 1, c⟩ : Sp)].length ≤ maxLen) := Lib.hid (by simp only [maxLen, List.length_singleton]; omega)
        have HK2 : Hid ((l.length + [(⟨n, x.to + 1, c⟩ : Sp)].length) * 24 ≤ 140737488355328) := Lib.hid (by simp only [List.length_singleton]; omega)
        have HBS : Hid (w.heap.size ≤ (w4.alloc (.cells #[.int .i64 n, .int .i64 (x.to + 1), .int .i64 c] 107)).heap.size) := Lib.hid (by simp; omega)
        have HLT : Hid (∀ q, (Value.slice A1 l.length cc).ownBlock = some q → w.heap.size ≤ q) := Lib.hid fun q hq => (OwL.lt HV.out q hq).1
        rcases hor with h | ⟨h, hne⟩
        · have hd0 : decide (0 < l.length) = false := by simp [h]
          have HZ := Lib.hid h
          clear h
          go_wp2_with (at_builtin; refine wpList_append_all (E := eS) _ rfl (.tmp 49) (.tmp 56) 60 rfl w.heap.size 107 i0 _ 24 Try.underlying60 hi hz0 hz1 hz2 rfl (.slice A1 l.length cc) l rfl (HV.out.alloc _) (some ⟨w4.heap.size, 0, none⟩) 1 [⟨n, x.to + 1, c⟩] rfl HBN.out (by simp) HK1.out HK2.out HBS.out ?_; intro v1 w9 hown hg hat)
          go_ret2
          exact ⟨v1, by rw [HD0.out]; rfl, by rw [HEL.out, HM.out]; exact hown, (HB4.out.alloc hs4 _).grown hg HBS.out HLT.out⟩
        · have hd0 : decide (0 < l.length) = true := by simpa using h
          have hb1 : (n == x.ep) = false := beq_eq_false_iff_ne.2 hne
          go_wp2_with (at_builtin; refine wpList_append_all (E := eS) _ rfl (.tmp 49) (.tmp 56) 60 rfl w.heap.size 107 i0 _ 24 Try.underlying60 hi hz0 hz1 hz2 rfl (.slice A1 l.length cc) l rfl (HV.out.alloc _) (some ⟨w4.heap.size, 0, none⟩) 1 [⟨n, x.to + 1, c⟩] rfl HBN.out (by simp) HK1.out HK2.out HBS.out ?_; intro v1 w9 hown hg hat)
          go_ret2
          exact ⟨v1, by rw [HD0.out]; rfl, by rw [HEL.out, HM.out]; exact hown, (HB4.out.alloc hs4 _).grown hg HBS.out HLT.out⟩
    · have hne : (F != 0) = true := bne_iff_ne.2 h2
      have H2 := Lib.hid h2
      clear h2
      go_wp2
      go_ret2
      exact ext_err HD.out H2.out HB3.out
  · rw [if_neg h] at HD
    have hne : (E != 0) = true := bne_iff_ne.2 h
    have H2 := Lib.hid h
    clear h
    go_wp2
    go_ret2
    exact ext_err HD.out H2.out HK.out.low
end Go.Proofs.Ytcdifegjlllbfaa

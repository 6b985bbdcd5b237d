/- The walks through the reference's EpochOf, Truncate, End, Extend. Condition: the slice lies in memory as a list (of at most 4096 spans where one is made). -/
import Derived.Test.YtcdifegjlllbfaaRfS
import Derived.Deep.RegionHeld3
set_option linter.unusedVariables false
set_option linter.unusedSimpArgs false
namespace Go.Proofs.Ytcdifegjlllbfaa
open Go.RowKit

/-- append(v, xs...) at a step of a region that draws its order. -/
theorem step_append_all {α : Type} {E : Enc α} {P : Program} {w : World} {ops : Array Oper} {o : Oper} {a : Act} {K : Act → World → Prop} {Q : Exit → Act → World → Prop} {F : Prop} (hgd : o.guard = none) (s x : Operand) (t : TypeId)
    (ho : o.op = .call { callee := .builtin .append, args := #[s, x], argTypes := #[t, t] })
    (base : Nat) (e : TypeId) (i : TypeInfo) (z : Value) (bytes : Nat) (ht : P.underlying t = some (.slice e)) (hi : P.info? e = some i) (hz : i.zero = some z)
    (hsize : i.size = E.size) (hby : i.bytes = bytes) (hzs : z.cells.size = E.size)
    (v : Value) (l : List α) (hs : a.eval s = v) (hown : OwL E e w base v l)
    (A : Option Addr) (c : Nat) (m : List α) (hx : a.eval x = .slice A m.length c) (hr : RdL E w A m) (hA : A = none → m = [])
    (h63 : l.length + m.length ≤ maxLen) (hbytes : (l.length + m.length) * bytes ≤ 140737488355328) (hbase : base ≤ w.heap.size)
    (h : ∀ v' w', OwL E e w' base v' (l ++ m) → w.grownBy w' v.ownBlock → (v'.ownBlock = v.ownBlock ∨ v'.ownBlock = some w.heap.size) → K (a.put o.dst v') w') :
    if Region.wanted o (yielded ops a.tmps) = true then Oper.wp P o a w K Q else F := by
  have hw : Region.wanted o (yielded ops a.tmps) = true := by simp [Region.wanted, hgd]
  rw [if_pos hw]
  exact wp_append_all w s x t ho base e i z bytes ht hi hz hsize hby hzs v l hs hown A c m hx hr hA h63 hbytes hbase h

set_option maxRecDepth 100000 in
set_option maxHeartbeats 2000000 in
theorem rEpo_any (A : Option Addr) (cp : Nat) (l : List Sp) (c : Int) (w : World) (hl : RdS w A l) :
    Calls Try.prog 27 #[.slice A l.length cp, .int .i64 c] w fun e w' => e = .returned (.tuple #[.int .i64 (epoV l c), .bool (epoB l c)]) ∧ Below w.heap.size w w' := by
  have hlen := hl.1
  have HL := Lib.hid hl
  clear hl
  go_enter Try.func27, Try.ntmps27
  go_wp2_with fail
  refine (rChk_any _ _ _ _ HL.out).mono ?_
  rintro e w1 ⟨rfl, hb⟩
  have HB1 := Lib.hid hb
  clear hb
  obtain ⟨E, hE⟩ : ∃ E, E = chkL l := ⟨_, rfl⟩
  have HE := Lib.hid hE
  rw [← hE]
  clear hE
  by_cases h : E = 0
  · have HVB : Hid (epoV l c = ((findS l c).map Sp.ep).getD 0 ∧ epoB l c = (findS l c).isSome) := Lib.hid ⟨by unfold epoV; rw [← HE.out, if_pos h], by unfold epoB; rw [← HE.out, if_pos h]⟩
    subst h
    go_wp2
    go_loopw [6] (fun i wr => ∃ k : Nat, k ≤ l.length ∧ i = .int .i64 k ∧ Hid (NoneOf l c k) ∧ Hid (Below w.heap.size w wr)) (fun i _ => l.length - (intOf i).toNat)
    case atStart => exact ⟨0, Nat.zero_le _, rfl, Lib.hid (fun j hj => absurd hj (by omega)), HB1⟩
    case round =>
      obtain ⟨k, hk, rfl, HN, HB⟩ := hrel
      by_cases hlt : k < l.length
      · obtain ⟨ad, rfl, c0, c1, c2⟩ := RdS.at_ (RdL.below HL.out HB.out) hlt
        have hx : l[k] = spAt l k := (spAt_eq hlt).symm
        obtain ⟨x, hx2⟩ : ∃ x, x = l[k] := ⟨_, rfl⟩
        rw [← hx2] at c0 c1 c2 hx
        have HX := Lib.hid hx
        clear hx hx2
        by_cases hh : x.fr ≤ c ∧ c ≤ x.to
        · obtain ⟨hh1, hh2⟩ := hh
          have HF : Hid (epoV l c = x.ep ∧ epoB l c = true) := Lib.hid (by
            have := HN.out.stop hlt (by rw [← HX.out]; simp [hasB, hh1, hh2])
            rw [HVB.out.1, HVB.out.2, this, ← HX.out]
            exact ⟨rfl, rfl⟩)
          go_wp2
          go_ret2
          exact ⟨by rw [HF.out.1, HF.out.2]; rfl, HB.out⟩
        · have HHB : Hid (NoneOf l c (k + 1)) := Lib.hid fun j hj => by
            by_cases e : j = k
            · subst e; rw [← HX.out]; simp only [hasB, Bool.and_eq_false_iff, decide_eq_false_iff_not]; omega
            · exact HN.out j (by omega)
          by_cases hh1 : x.fr ≤ c
          · have hh2 : ¬ c ≤ x.to := fun h => hh ⟨hh1, h⟩
            clear hh
            go_wp2
            go_roundw
            case rel => exact ⟨k + 1, by omega, by go_num, HHB, HB⟩
            case measure => simp [intOf]; omega
          · clear hh
            go_wp2
            go_roundw
            case rel => exact ⟨k + 1, by omega, by go_num, HHB, HB⟩
            case measure => simp [intOf]; omega
      · have hk0 : k = l.length := by omega
        subst hk0
        have HF : Hid (epoV l c = 0 ∧ epoB l c = false) := Lib.hid (by rw [HVB.out.1, HVB.out.2, HN.out.all]; exact ⟨rfl, rfl⟩)
        go_wp2
        go_ret2
        exact ⟨by rw [HF.out.1, HF.out.2]; rfl, HB.out⟩
  · have hne : (E != 0) = true := bne_iff_ne.2 h
    have HVB : Hid (epoV l c = 0 ∧ epoB l c = false) := Lib.hid ⟨by unfold epoV; rw [← HE.out, if_neg h], by unfold epoB; rw [← HE.out, if_neg h]⟩
    clear h
    go_wp2
    go_ret2
    exact ⟨by rw [HVB.out.1, HVB.out.2]; rfl, HB1.out⟩

set_option maxRecDepth 100000 in
set_option maxHeartbeats 2000000 in
theorem rTru_any (A : Option Addr) (cp : Nat) (l : List Sp) (c : Int) (w : World) (hl : RdS w A l) (h4096 : l.length ≤ 4096) :
    Calls Try.prog 32 #[.slice A l.length cp, .int .i64 c] w fun e w' => ∃ v, e = .returned v ∧ OwS w' w.heap.size v (truL l c) ∧ Below w.heap.size w w' := by
  have HL := Lib.hid hl
  clear hl
  obtain ⟨i0, hi, hz0, hz1, hz2⟩ := info_parts info107
  go_enter Try.func32, Try.ntmps32
  go_wp2_with fail
  refine (rChk_any _ _ _ _ HL.out).mono ?_
  rintro e w1 ⟨rfl, hb⟩
  have HB1 := Lib.hid hb
  clear hb
  obtain ⟨E, hE⟩ : ∃ E, E = chkL l := ⟨_, rfl⟩
  have HE := Lib.hid hE
  rw [← hE]
  clear hE
  by_cases h : E = 0
  · have HT : Hid (truL l c = l.filterMap (cutS c)) := Lib.hid (by unfold truL; rw [← HE.out, if_pos h])
    subst h
    go_wp2
    go_loopw [5, 6] (fun v i wr => ∃ k : Nat, k ≤ l.length ∧ i = .int .i64 k ∧ Hid (OwS wr w.heap.size v (truK l c k)) ∧ Hid (Below w.heap.size w wr)) (fun _ i _ => l.length - (intOf i).toNat)
    case atStart => exact ⟨0, Nat.zero_le _, rfl, Lib.hid (OwL.nil _ _ _ _), HB1⟩
    case round =>
      rename_i v
      obtain ⟨k, hk, rfl, HV, HB⟩ := hrel
      by_cases hlt : k < l.length
      · obtain ⟨ad, rfl, c0, c1, c2⟩ := RdS.at_ (RdL.below HL.out HB.out) hlt
        have htk := truK_succ (c := c) hlt
        rw [spAt_eq hlt] at htk
        obtain ⟨x, hx⟩ : ∃ x, x = l[k] := ⟨_, rfl⟩
        rw [← hx] at c0 c1 c2 htk
        have HTK := Lib.hid htk
        have HXE := Lib.hid hx
        clear hx htk
        by_cases hh : x.fr ≤ c
        · obtain ⟨A1, cc, rfl, _, _, _⟩ := OwL.rd HV.out
          obtain ⟨m, hm⟩ : ∃ m, m = min x.to c := ⟨_, rfl⟩
          have HCT : Hid (truK l c (k + 1) = truK l c k ++ [⟨x.ep, x.fr, m⟩]) := Lib.hid (by rw [HTK.out, hm, show cutS c x = some ⟨x.ep, x.fr, min x.to c⟩ from if_pos hh]; rfl)
          have hx9 : (truK l c k).length + 1 ≤ 4096 := by have := truK_length l c k; omega
          have HX9 := Lib.hid hx9
          have hor : x.to ≤ c ∧ m = x.to ∨ c < x.to ∧ m = c := by omega
          clear hm hx9
          rcases hor with ⟨hm1, hm2⟩ | ⟨hm1, hm2⟩
          all_goals
            rw [hm2] at HCT
            clear hm2 m
            have HKK : Hid (∀ m, (truK l c k).length + [(⟨x.ep, x.fr, m⟩ : Sp)].length ≤ maxLen ∧ ((truK l c k).length + [(⟨x.ep, x.fr, m⟩ : Sp)].length) * 24 ≤ 140737488355328) := Lib.hid fun m => ⟨by have := HX9.out; simp only [maxLen, List.length_singleton]; omega, by have := HX9.out; simp only [List.length_singleton]; omega⟩
            have HVA : Hid (∀ m, OwS (wr.alloc (.cells #[.int .i64 x.ep, .int .i64 x.fr, .int .i64 m] 107)).drew w.heap.size (.slice A1 (truK l c k).length cc) (truK l c k)) := Lib.hid fun m => (show OwS (wr.alloc (.cells #[.int .i64 x.ep, .int .i64 x.fr, .int .i64 m] 107)) w.heap.size _ _ from HV.out.alloc _)
            have HBX : Hid (∀ m, RdS (wr.alloc (.cells #[.int .i64 x.ep, .int .i64 x.fr, .int .i64 m] 107)).drew (some ⟨wr.heap.size, 0, none⟩) [⟨x.ep, x.fr, m⟩]) := Lib.hid fun m => (show RdS (wr.alloc (.cells #[.int .i64 x.ep, .int .i64 x.fr, .int .i64 m] 107)) (some ⟨wr.heap.size, 0, none⟩) [⟨x.ep, x.fr, m⟩] from RdL.box (E := eS) wr ⟨x.ep, x.fr, m⟩ 107)
            have HBS : Hid (∀ m, w.heap.size ≤ (wr.alloc (.cells #[.int .i64 x.ep, .int .i64 x.fr, .int .i64 m] 107)).drew.heap.size) := Lib.hid fun m => (show w.heap.size ≤ (wr.alloc _).heap.size by have := HB.out.size; simp; omega)
            have HFA : Hid (∀ m v1 w9, OwS w9 w.heap.size v1 (truK l c k ++ [⟨x.ep, x.fr, m⟩]) → (wr.alloc (.cells #[.int .i64 x.ep, .int .i64 x.fr, .int .i64 m] 107)).drew.grownBy w9 (Value.slice A1 (truK l c k).length cc).ownBlock → Below w.heap.size w w9) := Lib.hid fun m v1 w9 hown hg => (HB.out.alloc HB.out.size _).drew.grown hg (HBS.out m) (fun q h => (OwL.lt HV.out q h).1)
            have HFC : Hid (∀ w9, Below w.heap.size w w9 → w9.cell? (ad.add (k * 3)) = some (.int .i64 x.ep) ∧ w9.cell? ⟨(ad.add (k * 3)).block, (ad.add (k * 3)).off + 1, none⟩ = some (.int .i64 x.fr) ∧ w9.cell? ⟨(ad.add (k * 3)).block, (ad.add (k * 3)).off + 2, none⟩ = some (.int .i64 x.to)) := by
              refine Lib.hid fun w9 hb => ?_
              obtain ⟨ad', e, g0, g1, g2⟩ := RdS.at_ (RdL.below HL.out hb) hlt
              injection e with e
              subst e
              rw [HXE.out]
              exact ⟨g0, g1, g2⟩
            have had : (ad.add (k * 3)).block < wr.heap.size := World.block_lt_of_cell? wr _ c0
            have e0 := fun o => cell_later ((Below.refl _ wr).alloc (Nat.le_refl _) o) c0
            have e1 := fun o => cell_later ((Below.refl _ wr).alloc (Nat.le_refl _) o) c1
            have e2 := fun o => cell_later ((Below.refl _ wr).alloc (Nat.le_refl _) o) c2
            go_wp2
            go_region_held3 (fun w' => w'.cell? (ad.add (k * 3)) = some (.int .i64 x.ep) ∧ w'.cell? ⟨(ad.add (k * 3)).block, (ad.add (k * 3)).off + 1, none⟩ = some (.int .i64 x.fr) ∧ w'.cell? ⟨(ad.add (k * 3)).block, (ad.add (k * 3)).off + 2, none⟩ = some (.int .i64 x.to)) (first | exact ⟨c0, c1, c2⟩ | exact ⟨e0 _, e1 _, e2 _⟩ | exact hk2 | go_keep)
              ((refine step_append_all (E := eS) (by rfl) (.tmp 23) (.tmp 42) 60 (by rfl) w.heap.size 107 i0 _ 24 Try.underlying60 hi hz0 hz1 hz2 (by rfl) (.slice A1 (truK l c k).length cc) (truK l c k) (by rfl) (HVA.out _) (some ⟨wr.heap.size, 0, none⟩) 1 [⟨x.ep, x.fr, _⟩] (by rfl) (HBX.out _) (by simp) (HKK.out _).1 (HKK.out _).2 (HBS.out _) ?_; intro v1 w9 hown hg hat; have hbk := HFA.out _ v1 w9 hown hg; have hk2 := HFC.out w9 hbk))
            go_wp2
            go_roundw
            case rel => exact ⟨k + 1, by omega, by go_num, Lib.hid (by rw [HCT.out]; first | exact hown | (rw [if_neg (by omega)] at hown; exact hown) | (rw [if_pos (by omega)] at hown; exact hown)), Lib.hid hbk⟩
            case measure => simp [intOf]; omega
        · have HCT : Hid (truK l c (k + 1) = truK l c k) := Lib.hid (by rw [HTK.out, show cutS c x = none from if_neg hh]; simp)
          go_wp2
          go_roundw
          case rel => exact ⟨k + 1, by omega, by go_num, by rw [HCT.out]; exact HV, HB⟩
          case measure => simp [intOf]; omega
      · have hk0 : k = l.length := by omega
        subst hk0
        have HF : Hid (truL l c = truK l c l.length) := Lib.hid (by rw [HT.out, truK_all])
        go_wp2
        go_ret
        exact ⟨_, rfl, by rw [HF.out]; exact HV.out, HB.out⟩
  · have hne : (E != 0) = true := bne_iff_ne.2 h
    have HT : Hid (truL l c = []) := Lib.hid (by unfold truL; rw [← HE.out, if_neg h])
    clear h
    go_wp2
    rw [HT.out]
    go_ret
    exact ⟨_, rfl, OwL.nil _ _ _ _, HB1.out⟩
end Go.Proofs.Ytcdifegjlllbfaa

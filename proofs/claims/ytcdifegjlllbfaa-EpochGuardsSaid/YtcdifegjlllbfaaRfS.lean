/- The walks through the reference's Same, CheckLineage, EpochOf. Condition: the slices lie in memory as lists. -/
import Derived.Test.YtcdifegjlllbfaaExt
import Derived.Laws.StructEq
import Derived.KernelRfl
import Derived.Deep.Draws
import Derived.WalkSmall
set_option linter.unusedVariables false
set_option linter.unusedSimpArgs false
namespace Go.Proofs.Ytcdifegjlllbfaa
open Go.RowKit
theorem stood107 : Try.prog.stoodInHeld 107 = false := by kernel_rfl
theorem eqIn107 (x y : Sp) (d : Nat) (w : World) : (Op.equalIn (d + 1 + 1) 107 (.agg x.cells) (.agg y.cells)).run Try.prog w = .ok (decide (x = y)) w := by
  rw [run_equalIn_struct w (d + 1) 107 _ _ (by unfold Program.fieldsOf; rw [Try.underlying107]) stood107]
  unfold Program.fieldsOf
  rw [Try.underlying107]
  obtain ⟨p, r, b⟩ := x
  obtain ⟨p', r', b'⟩ := y
  have hu := Try.underlying3
  simp [Op.eqFields, Sp.cells, go_sem]
  by_cases h1 : p = p' <;> by_cases h2 : r = r' <;> by_cases h3 : b = b' <;> simp [h1, h2, h3]
theorem run_neqS (x y : Sp) (w : World) : (binOp .neq 107 (.agg x.cells) (.agg y.cells)).run Try.prog w = .ok (.bool (!decide (x = y))) w := by
  simp only [binOp]
  simp [Op.equal, Op.maxDepth, eqIn107 x y 9998 w]

def sameS (l l' : List Sp) : Bool := decide (l = l')
theorem sameS_self (l : List Sp) : sameS l l = true := by simp [sameS]
set_option maxHeartbeats 1000000 in
theorem SameS_any (A : Option Addr) (c : Nat) (l : List Sp) (A' : Option Addr) (c' : Nat) (l' : List Sp) (w : World) (hl : RdS w A l) (hl' : RdS w A' l') :
    Calls Try.prog 30 #[.slice A l.length c, .slice A' l'.length c'] w fun e w' => e = .returned (.bool (sameS l l')) ∧ Below w.heap.size w w' := by
  have hlen := hl.1
  have hlen' := hl'.1
  have HL := Lib.hid hl
  have HL' := Lib.hid hl'
  clear hl hl'
  by_cases hn : l.length = l'.length
  · have hb2 : ((l.length : Int) != (l'.length : Int)) = false := by simp [hn]
    have HN := Lib.hid hn
    clear hn
    go_enter Try.func30, Try.ntmps30
    go_wp2
    go_loopw [5] (fun i wr => ∃ k : Nat, k ≤ l.length ∧ i = .int .i64 k ∧ Hid (∀ j (h : j < l.length) (h' : j < l'.length), j < k → l[j] = l'[j]) ∧ Hid (Below w.heap.size w wr)) (fun i _ => l.length - (intOf i).toNat)
    case atStart => exact ⟨0, Nat.zero_le _, rfl, Lib.hid (fun j _ _ h => absurd h (by omega)), Lib.hid (Below.refl _ _)⟩
    case round =>
      obtain ⟨k, hk, rfl, HE, HB⟩ := hrel
      by_cases hlt : k < l.length
      · have hlt' : k < l'.length := by have := HN.out; omega
        obtain ⟨ad, rfl, c0, c1, c2⟩ := RdS.at_ (RdL.below HL.out HB.out) hlt
        obtain ⟨ad', rfl, d0, d1, d2⟩ := RdS.at_ (RdL.below HL'.out HB.out) hlt'
        have hne : ∀ w, (binOp .neq 107 (.agg #[.int .i64 (l[k]).ep, .int .i64 (l[k]).fr, .int .i64 (l[k]).to]) (.agg #[.int .i64 (l'[k]).ep, .int .i64 (l'[k]).fr, .int .i64 (l'[k]).to])).run Try.prog w = .ok (.bool (!decide (l[k] = l'[k]))) w := run_neqS l[k] l'[k]
        by_cases he : l[k] = l'[k]
        · have hd : decide (l[k] = l'[k]) = true := by simp [he]
          have HE2 := Lib.hid he
          clear he
          go_wp2
          go_quiet (fail)
          go_wp2
          go_roundw
          case rel =>
            refine ⟨k + 1, by omega, by go_num, Lib.hid ?_, Lib.hid (below_drewN HB.out _)⟩
            intro j h h' hj
            by_cases hjk : j = k
            · subst hjk; exact HE2.out
            · exact HE.out j h h' (by omega)
          case measure => simp [intOf]; omega
        · have hd : decide (l[k] = l'[k]) = false := by simp [he]
          have hs : sameS l l' = false := by
            unfold sameS
            simp only [decide_eq_false_iff_not]
            rintro rfl
            exact he rfl
          have HS := Lib.hid hs
          clear he hs
          go_wp2
          go_quiet (fail)
          go_wp2
          go_ret
          exact ⟨by rw [HS.out]; rfl, below_drewN HB.out _⟩
      · have hk0 : k = l.length := by omega
        have hs : sameS l l' = true := by
          unfold sameS
          simp only [decide_eq_true_eq]
          exact List.ext_getElem HN.out fun i h h' => HE.out i h h' (by omega)
        have HS := Lib.hid hs
        clear hs hk0
        go_wp2
        go_ret
        exact ⟨by rw [HS.out]; rfl, HB.out⟩
  · have hb2 : ((l.length : Int) != (l'.length : Int)) = true := by simp; omega
    have hs : sameS l l' = false := by
      unfold sameS
      simp only [decide_eq_false_iff_not]
      rintro rfl
      exact hn rfl
    have HS := Lib.hid hs
    clear hs hn
    go_enter Try.func30, Try.ntmps30
    go_wp2
    go_ret
    exact ⟨by rw [HS.out]; rfl, Below.refl _ _⟩

theorem prevS_eq {l : List Sp} {k : Nat} (h : 0 < k) (hk : k - 1 < l.length) : prevS l k = l[k - 1] := by
  obtain ⟨j, rfl⟩ : ∃ j, k = j + 1 := ⟨k - 1, by omega⟩
  exact spAt_eq (by simpa using hk)
set_option maxRecDepth 100000 in
set_option maxHeartbeats 4000000 in
theorem rChk_any (A : Option Addr) (c : Nat) (l : List Sp) (w : World) (hl : RdS w A l) :
    Calls Try.prog 29 #[.slice A l.length c] w fun e w' => e = .returned (.int .i64 (chkL l)) ∧ Below w.heap.size w w' := by
  have hlen := hl.1
  have HL := Lib.hid hl
  clear hl
  go_enter Try.func29, Try.ntmps29
  go_wp2
  go_loopw [3] (fun i wr => ∃ k : Nat, k ≤ l.length ∧ i = .int .i64 k ∧ Hid (PreOk l k) ∧ Hid (Below w.heap.size w wr)) (fun i _ => l.length - (intOf i).toNat)
  case atStart => exact ⟨0, Nat.zero_le _, rfl, Lib.hid (PreOk.zero l), Lib.hid (Below.refl _ _)⟩
  case round =>
    obtain ⟨k, hk, rfl, HP, HB⟩ := hrel
    by_cases hlt : k < l.length
    · obtain ⟨ad, rfl, c0, c1, c2⟩ := RdS.at_ (RdL.below HL.out HB.out) hlt
      have hto := HP.out.to
      obtain ⟨q, hq⟩ : ∃ q, q = prevS l k := ⟨_, rfl⟩
      rw [← hq] at hto
      obtain ⟨q0, q1⟩ := hto
      have HQ := Lib.hid hq
      have HBA := Lib.hid (HB.out.alloc HB.out.size (.cells #[.int .i64 l[k].ep, .int .i64 l[k].fr, .int .i64 l[k].to] 107))
      have HOK : Hid (∀ x, x = l[k] → spErr q x = 0 → PreOk l (k + 1)) := Lib.hid fun x hx h => HP.out.succ (by rw [← HQ.out, spAt_eq hlt, ← hx]; exact spErr_zero.1 h)
      have HNO : Hid (∀ x E, x = l[k] → spErr q x = E → E ≠ 0 → chkL l = E) := Lib.hid fun x E hx h h0 => by
        have := HP.out.stop hlt (by rw [← HQ.out, spAt_eq hlt, ← hx, h]; exact h0)
        rw [this, ← HQ.out, spAt_eq hlt, ← hx, h]
      have hprev : 0 < k → (wr.alloc (.cells #[.int .i64 l[k].ep, .int .i64 l[k].fr, .int .i64 l[k].to] 107)).cell? ⟨(ad.add ((k - 1) * 3)).block, (ad.add ((k - 1) * 3)).off + 2, none⟩ = some (.int .i64 q.to) ∧ (wr.alloc (.cells #[.int .i64 l[k].ep, .int .i64 l[k].fr, .int .i64 l[k].to] 107)).cell? (ad.add ((k - 1) * 3)) = some (.int .i64 q.ep) := fun h0 => by
        obtain ⟨ad2, e2, d0, _, d2⟩ := RdS.at_ (RdL.below HL.out HB.out) (show k - 1 < l.length by omega)
        cases e2
        rw [← prevS_eq h0 (by omega), ← hq] at d0 d2
        exact ⟨cell_later ((Below.refl _ _).alloc (Nat.le_refl _) _) d2, cell_later ((Below.refl _ _).alloc (Nat.le_refl _) _) d0⟩
      have HPV := Lib.hid hprev
      obtain ⟨x, hx⟩ : ∃ x, x = l[k] := ⟨_, rfl⟩
      rw [← hx] at c0 c1 c2 HBA HPV HOK HNO
      clear hq hx hprev
      by_cases hr : (1 ≤ x.ep ∧ x.ep ≤ 1073741824) ∧ (1 ≤ x.fr ∧ x.fr ≤ 1073741824) ∧ (1 ≤ x.to ∧ x.to ≤ 1073741824)
      · obtain ⟨⟨e0, e1⟩, ⟨f0, f1⟩, ⟨t0, t1⟩⟩ := hr
        have HE : Hid (spErr q x = if x.fr ≤ x.to then (if x.fr = q.to + 1 then (if q.ep < x.ep then 0 else 13) else 15) else 3) := Lib.hid (if_pos ⟨⟨e0, e1⟩, ⟨f0, f1⟩, t0, t1⟩)
        by_cases hft : x.fr ≤ x.to
        · have HE2 : Hid (spErr q x = (if x.fr = q.to + 1 then (if q.ep < x.ep then 0 else 13) else 15)) := Lib.hid (by rw [HE.out, if_pos hft])
          clear HE
          by_cases hk0 : k = 0
          · have hq : q = sp0 := by rw [HQ.out, hk0]; rfl
            have HQ2 := Lib.hid hq
            have hd0 : decide (0 < k) = false := by simp [hk0]
            have HK0 := Lib.hid hk0
            clear hq hk0 HPV
            by_cases hg : x.fr = 1
            · have hb : (x.fr != 1) = false := by simp [hg]
              have HF : Hid (PreOk l (k + 1)) := Lib.hid (HOK.out x rfl (by rw [HE2.out, HQ2.out, if_pos (by rw [hg]; rfl), if_pos (by show (0 : Int) < x.ep; omega)]))
              have HG := Lib.hid hg
              clear hg HNO HOK HE2 HQ HQ2
              go_wp2
              go_roundw
              case rel => exact ⟨k + 1, by omega, by go_num, HF, HBA⟩
              case measure => simp [intOf]; omega
            · have hb : (x.fr != 1) = true := by simp [hg]
              have HF : Hid (chkL l = 15) := Lib.hid (HNO.out x 15 rfl (by rw [HE2.out, HQ2.out, if_neg (by show ¬ x.fr = 0 + 1; omega)]) (by decide))
              clear hg HNO HOK HE2 HQ HQ2
              go_wp2
              go_ret
              exact ⟨ret_i HF.out.symm, HBA.out⟩
          · have hd0 : decide (0 < k) = true := by simp; omega
            obtain ⟨p2, p0⟩ := HPV.out (by omega)
            have hi' : (((k : Int) - 1).toNat) = k - 1 := by omega
            have h1' : 0 ≤ (k : Int) - 1 := by omega
            have h1 : (1 : Int) ≤ k := by omega
            have hkl' : (k : Int) - 1 < l.length := by omega
            have hw : IntKind.i64.wrap ((k : Int) - 1) = (k : Int) - 1 := IntWalk.i64_in _ (by omega)
            have hw2 : IntKind.i64.wrap (q.to + 1) = q.to + 1 := IntWalk.i64_in _ (by omega)
            clear hk0 HPV
            by_cases hg : x.fr = q.to + 1
            · have hb : (x.fr != q.to + 1) = false := by simp [hg]
              have HG := Lib.hid hg
              by_cases he : q.ep < x.ep
              · have HF : Hid (PreOk l (k + 1)) := Lib.hid (HOK.out x rfl (by rw [HE2.out, if_pos hg, if_pos he]))
                clear hg HNO HOK HE2 HQ
                go_wp2
                go_quiet (fail)
                go_wp2
                go_roundw
                case rel => exact ⟨k + 1, by omega, by go_num, HF, Lib.hid (below_drewN HBA.out _)⟩
                case measure => simp [intOf]; omega
              · have HF : Hid (chkL l = 13) := Lib.hid (HNO.out x 13 rfl (by rw [HE2.out, if_pos hg, if_neg he]) (by decide))
                clear hg HNO HOK HE2 HQ
                go_wp2
                go_quiet (fail)
                go_wp2
                go_ret
                exact ⟨ret_i HF.out.symm, below_drewN HBA.out _⟩
            · have hb : (x.fr != q.to + 1) = true := by simp [hg]
              have HF : Hid (chkL l = 15) := Lib.hid (HNO.out x 15 rfl (by rw [HE2.out, if_neg hg]) (by decide))
              clear hg HNO HOK HE2 HQ
              go_wp2
              go_quiet (fail)
              go_wp2
              go_ret
              exact ⟨ret_i HF.out.symm, below_drewN HBA.out _⟩
        · have HF : Hid (chkL l = 3) := Lib.hid (HNO.out x 3 rfl (by rw [HE.out, if_neg hft]) (by decide))
          clear HNO HOK HE HQ HPV
          go_wp2
          go_ret
          exact ⟨ret_i HF.out.symm, HBA.out⟩
      · have HF : Hid (chkL l = 2) := Lib.hid (HNO.out x 2 rfl (if_neg hr) (by decide))
        have hor : x.ep < 1 ∨ (1 ≤ x.ep ∧ 1073741824 < x.ep) ∨ (1 ≤ x.ep ∧ x.ep ≤ 1073741824 ∧ x.fr < 1) ∨ (1 ≤ x.ep ∧ x.ep ≤ 1073741824 ∧ 1 ≤ x.fr ∧ 1073741824 < x.fr) ∨ (1 ≤ x.ep ∧ x.ep ≤ 1073741824 ∧ 1 ≤ x.fr ∧ x.fr ≤ 1073741824 ∧ x.to < 1) ∨ (1 ≤ x.ep ∧ x.ep ≤ 1073741824 ∧ 1 ≤ x.fr ∧ x.fr ≤ 1073741824 ∧ 1 ≤ x.to ∧ 1073741824 < x.to) := by omega
        clear hr HNO HOK HQ HPV
        rcases hor with h1 | ⟨h1, h2⟩ | ⟨h1, h2, h3⟩ | ⟨h1, h2, h3, h4⟩ | ⟨h1, h2, h3, h4, h5⟩ | ⟨h1, h2, h3, h4, h5, h6⟩
        all_goals
          go_wp2
          go_ret
          exact ⟨ret_i HF.out.symm, HBA.out⟩
    · have hk0 : k = l.length := by omega
      subst hk0
      have HF := Lib.hid HP.out.all
      go_wp2
      go_ret
      exact ⟨ret_i HF.out.symm, HB.out⟩
end Go.Proofs.Ytcdifegjlllbfaa

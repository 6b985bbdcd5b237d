/- The walk through the law's grown. Conditions: the lineage is in order and lies in memory, the steps are bytes. -/
import Derived.Test.YtcdifegjlllbfaaGro
import Derived.Test.YtcdifegjlllbfaaAw
set_option linter.unusedVariables false
set_option linter.unusedSimpArgs false
namespace Go.Proofs.Ytcdifegjlllbfaa
open Go.RowKit

def eE : Enc P8 := { size := 2, pos := by omega, cells := fun x => [.int .u8 x.a, .int .u8 x.b], len := fun _ => rfl, one := fun x u hu => by simp at hu; rcases hu with rfl | rfl <;> rfl }
def eI : Enc Int := { size := 1, pos := by omega, cells := fun x => [.int .i64 x], len := fun _ => rfl, one := fun x u hu => by simp at hu; rw [hu]; rfl }
abbrev RdE := RdL eE
abbrev RdI := RdL eI
abbrev OwI := OwL eI 3
def P8.Ok (x : P8) : Prop := (0 ≤ x.a ∧ x.a ≤ 255) ∧ (0 ≤ x.b ∧ x.b ≤ 255)
theorem RdE.at_ {w : World} {A : Option Addr} {l : List P8} (h : RdE w A l) {k : Nat} (hk : k < l.length) : ∃ ad, A = some ad ∧ w.cell? (ad.add (k * 2)) = some (.int .u8 l[k].a) ∧ w.cell? ⟨(ad.add (k * 2)).block, (ad.add (k * 2)).off + 1, none⟩ = some (.int .u8 l[k].b) := by
  obtain ⟨ad, e, hc⟩ := RdL.at_ h hk
  replace hc : ∀ j u, [Value.int .u8 l[k].a, .int .u8 l[k].b][j]? = some u → w.cell? (ad.add (k * 2 + j)) = some u := hc
  exact ⟨ad, e, hc 0 _ rfl, by rw [← add_field _ _ 1 (by omega)]; exact hc 1 _ rfl⟩
theorem RdI.at_ {w : World} {A : Option Addr} {l : List Int} (h : RdI w A l) {k : Nat} (hk : k < l.length) : ∃ ad, A = some ad ∧ w.cell? (ad.add k) = some (.int .i64 l[k]) := by
  obtain ⟨ad, e, hc⟩ := RdL.at_ h hk
  replace hc : ∀ j u, [Value.int .i64 l[k]][j]? = some u → w.cell? (ad.add (k * 1 + j)) = some u := hc
  exact ⟨ad, e, by have := hc 0 _ rfl; simpa using this⟩
theorem info3 : (Try.prog.info? 3).map (fun i => (i.zero, i.size, i.bytes)) = some (some (.int .i64 0), 1, 8) := by kernel_rfl
def gst (l : List Sp) : GSt := ⟨(tailS l).ep, (tailS l).to, l, []⟩
theorem gst_ok {l : List Sp} (h : Lin l) : GOk (gst l) := ⟨h, rfl, rfl⟩
/-- What grown hands back. -/
def GwnPost (w : World) (l : List Sp) (ps : List P8) (e : Ending) (w' : World) : Prop :=
  ∃ (A2 : Option Addr) (c2 : Nat) (ve : Value), e = .returned (.tuple #[.slice A2 (growth (gst l) (ps.take 20)).l.length c2, ve, .bool true]) ∧ RdS w' A2 (growth (gst l) (ps.take 20)).l ∧ OwI w' w.heap.size ve (growth (gst l) (ps.take 20)).ep ∧ Below w.heap.size w w'
theorem ep_length (ps : List P8) : ∀ s : GSt, (growth s ps).ep.length ≤ s.ep.length + 4 * ps.length := by
  induction ps with
  | nil => intro s; simp [growth]
  | cons p ps ih =>
    intro s
    have e : growth s (p :: ps) = growth (s.step p) ps := rfl
    have h := ih (s.step p)
    have h2 : (s.step p).ep.length ≤ s.ep.length + 4 := by
      show (s.ep ++ List.replicate (1 + p.b % 4).toNat (s.n' p)).length ≤ _
      rw [List.length_append, List.length_replicate]; omega
    rw [e]
    simp only [List.length_cons]
    omega

theorem OwL.apart2 {α β : Type} {E : Enc α} {F : Enc β} {e f : TypeId} {w : World} {base base' : Nat} {v u : Value} {l : List α} {m : List β} (h : OwL E e w base v l) (h' : OwL F f w base' u m) (hne : e ≠ f) : ∀ k, v.ownBlock = some k → some k ≠ u.ownBlock := by
  intro k hk hk'
  rcases h.2 with ⟨rfl, _⟩ | ⟨g2, cap2, cur, rfl, _, hh, _⟩
  · simp [Value.ownBlock] at hk
  · have e2 : g2 = k := by simpa [Value.ownBlock] using hk
    subst e2
    rcases h'.2 with ⟨rfl, _⟩ | ⟨g3, cap3, cur3, rfl, _, hh', _⟩
    · simp [Value.ownBlock] at hk'
    · have e3 : g3 = g2 := by simpa [Value.ownBlock] using hk'.symm
      subst e3
      rw [hh] at hh'
      injection hh' with hh'
      injection hh' with _ ht
      exact hne ht
set_option maxRecDepth 100000 in
set_option maxHeartbeats 4000000 in
theorem grown_any (A : Option Addr) (c : Nat) (l : List Sp) (A' : Option Addr) (c' : Nat) (ps : List P8) (w : World) (hl : RdS w A l) (hlin : Lin l) (hlen : l.length ≤ 1000) (hn : (tailS l).ep ≤ 1000) (hcy : (tailS l).to ≤ 1000)
    (hp : RdE w A' ps) (hpo : ∀ x ∈ ps, x.Ok) :
    Calls Try.prog 35 #[.slice A l.length c, .slice A' ps.length c'] w (GwnPost w l ps) := by
  have hlenp := hp.1
  have hgk := growth_ok
  have HL := Lib.hid hl
  have HP := Lib.hid hp
  have HLIN := Lib.hid hlin
  have hnn := (lin_tail_to l hlin).2
  have hcc := (lin_tail_to l hlin).1
  have HG : Hid (∀ k, k ≤ 20 → k ≤ ps.length → GOk (growth (gst l) (ps.take k)) ∧ (growth (gst l) (ps.take k)).n ≤ 1060 ∧ 0 ≤ (growth (gst l) (ps.take k)).cyc ∧ (growth (gst l) (ps.take k)).cyc ≤ 1080 ∧ 0 ≤ (growth (gst l) (ps.take k)).n ∧ (growth (gst l) (ps.take k)).l.length ≤ 1020 ∧ (growth (gst l) (ps.take k)).ep.length ≤ 80) := by
    refine Lib.hid fun k h1 h2 => ?_
    have ht : (ps.take k).length = k := by simp; omega
    have e1 : (gst l).n = (tailS l).ep := rfl
    have e2 : (gst l).cyc = (tailS l).to := rfl
    have e3 : (gst l).l = l := rfl
    obtain ⟨g1, g2, g3, g4, g5, g6⟩ := growth_ok (ps.take k) (gst l) (gst_ok hlin) (by omega) (by omega) (by omega) (by omega)
    have g7 := ep_length (ps.take k) (gst l)
    have e4 : (gst l).ep.length = 0 := rfl
    rw [ht] at g2 g4 g6 g7
    rw [e3] at g6
    exact ⟨g1, by omega, by omega, by omega, g5, by omega, by omega⟩
  clear hl hp hlin hgk
  obtain ⟨i0, hi, hy0, hy1, hy2⟩ := info_parts info3
  have HFIN : Hid (∀ wr A1 c1 ve k, (k = ps.length ∨ k = 20) → k ≤ ps.length → k ≤ 20 → RdS wr A1 (growth (gst l) (ps.take k)).l → OwI wr w.heap.size ve (growth (gst l) (ps.take k)).ep → Below w.heap.size w wr → GwnPost w l ps (.returned (.tuple #[.slice A1 (growth (gst l) (ps.take k)).l.length c1, ve, .bool true])) wr) := by
    refine Lib.hid fun wr A1 c1 ve k h0 h1 h2 h3 h4 h5 => ?_
    have ht : ps.take 20 = ps.take k := by
      rcases h0 with h0 | h0
      · rw [List.take_of_length_le (show ps.length ≤ 20 by omega), List.take_of_length_le (show ps.length ≤ k by omega)]
      · rw [h0]
    unfold GwnPost
    rw [ht]
    exact ⟨A1, c1, ve, rfl, h3, h4, h5⟩
  by_cases hz : l.length = 0
  case' pos =>
    have hz0 : decide (0 < l.length) = false := by simp [hz]
    have hl0 : l = [] := List.eq_nil_of_length_eq_zero hz
    have HE7 : Hid (Value.int .i64 0 = Value.int .i64 (gst l).n) := Lib.hid (by rw [hl0]; rfl)
    have HE8 : Hid (Value.int .i64 0 = Value.int .i64 (gst l).cyc) := Lib.hid (by rw [hl0]; rfl)
    have HB0 : ∀ n : Nat, Hid (Below w.heap.size w w) := fun _ => Lib.hid (Below.refl _ _)
    have HL0 : ∀ n : Nat, Hid (RdS w A l) := fun _ => HL
    have nq : Nat := 0
    have hzz := Lib.hid hz
    clear hz hl0
    go_enter Try.func35, Try.ntmps35
    go_wp2_with fail
  case' neg =>
    have hz0 : decide (0 < l.length) = true := by simp; omega
    obtain ⟨ad, rfl, f0, f1, f2⟩ := RdS.at_ HL.out (show l.length - 1 < l.length by omega)
    have HT := Lib.hid (tailS_at (l := l) (by omega))
    obtain ⟨x, hx⟩ : ∃ x, x = l[l.length - 1] := ⟨_, rfl⟩
    rw [← hx] at f0 f1 f2 HT
    have HE7 : Hid (Value.int .i64 x.ep = Value.int .i64 (gst l).n) := Lib.hid (by rw [← HT.out]; rfl)
    have HE8 : Hid (Value.int .i64 x.to = Value.int .i64 (gst l).cyc) := Lib.hid (by rw [← HT.out]; rfl)
    have HB0 : ∀ n : Nat, Hid (Below w.heap.size w (w.drewN n)) := fun n => Lib.hid (below_drewN (Below.refl _ _) n)
    have HL0 : ∀ n : Nat, Hid (RdS (w.drewN n) (some ad) l) := fun n => Lib.hid (RdL.below HL.out (HB0 n).out)
    have hi' : (((l.length : Int) - 1).toNat) = l.length - 1 := by omega
    have hw : IntKind.i64.wrap ((l.length : Int) - 1) = (l.length : Int) - 1 := IntWalk.i64_in _ (by omega)
    have h1 : (1 : Int) ≤ l.length := by omega
    have h1' : 0 ≤ (l.length : Int) - 1 := by omega
    have h2' : (l.length : Int) - 1 < l.length := by omega
    clear hx hz
    go_enter Try.func35, Try.ntmps35
    go_wp2
    go_quiet (fail)
    go_wp2_with fail
  all_goals
    go_loopw [0, 7, 8, 9, 10] (fun v0 v7 v8 v9 i wr => ∃ (k : Nat) (A1 : Option Addr) (c1 : Nat), k ≤ ps.length ∧ k ≤ 20 ∧ i = .int .i64 k ∧ v0 = .slice A1 (growth (gst l) (ps.take k)).l.length c1 ∧ v7 = .int .i64 (growth (gst l) (ps.take k)).n ∧ v8 = .int .i64 (growth (gst l) (ps.take k)).cyc ∧ Hid (RdS wr A1 (growth (gst l) (ps.take k)).l) ∧ Hid (OwI wr w.heap.size v9 (growth (gst l) (ps.take k)).ep) ∧ Hid (Below w.heap.size w wr)) (fun _ _ _ _ i _ => ps.length - (intOf i).toNat)
    case atStart => exact ⟨0, _, c, Nat.zero_le _, by omega, rfl, rfl, HE7.out, HE8.out, HL0 nq, Lib.hid (OwL.nil _ _ _ _), HB0 nq⟩
    case round =>
      obtain ⟨k, A1, c1, hk, hk20, rfl, rfl, rfl, rfl, HR, HO, HW⟩ := hrel
      by_cases hlt : k < ps.length ∧ k < 20
      · obtain ⟨hlt, hlt2⟩ := hlt
        have hd20 : decide ((k : Int) < 20) = true := by simp; omega
        obtain ⟨hgk, b0, b1, b2, b3, b4, b5⟩ := HG.out k hk20 hk
        obtain ⟨s, hs⟩ : ∃ s, s = growth (gst l) (ps.take k) := ⟨_, rfl⟩
        have hstep : growth (gst l) (ps.take (k + 1)) = s.step ps[k] := by rw [List.take_succ_eq_append_getElem hlt, growth_snoc, ← hs]
        rw [← hs] at HR HO hgk b0 b1 b2 b3 b4 b5 ⊢
        obtain ⟨⟨u0, u1⟩, ⟨u2, u3⟩⟩ := hpo ps[k] (List.getElem_mem hlt)
        obtain ⟨ad', rfl, f0', f1'⟩ := RdE.at_ (RdL.below HP.out HW.out) hlt
        obtain ⟨x', hx'⟩ : ∃ x', x' = ps[k] := ⟨_, rfl⟩
        rw [← hx'] at hstep u0 u1 u2 u3 f0' f1'
        have m3 : IntKind.u8.wrap (x'.a.tmod 3) = x'.a % 3 := by rw [Int.tmod_eq_emod_of_nonneg u0]; exact IntWalk.u8_in _ (by omega)
        have m4 : IntKind.u8.wrap (x'.b.tmod 4) = x'.b % 4 := by rw [Int.tmod_eq_emod_of_nonneg u2]; exact IntWalk.u8_in _ (by omega)
        have m3' : IntKind.i64.wrap (x'.a % 3) = x'.a % 3 := IntWalk.i64_in _ (by omega)
        have m4' : IntKind.i64.wrap (x'.b % 4) = x'.b % 4 := IntWalk.i64_in _ (by omega)
        have m5 : IntKind.i64.wrap (s.n + x'.a % 3) = s.n + x'.a % 3 := IntWalk.i64_in _ (by omega)
        have m6 : IntKind.i64.wrap (s.cyc + 1) = s.cyc + 1 := IntWalk.i64_in _ (by omega)
        have m7 : IntKind.i64.wrap (s.cyc + 1 + x'.b % 4) = s.cyc + 1 + x'.b % 4 := IntWalk.i64_in _ (by omega)
        clear hs hx'
        have HST := Lib.hid hstep
        have HGK := Lib.hid hgk
        clear hstep hgk
        go_wp2_with fail
        all_goals
          have HX : Hid (extE s.l (s.n' x') (s.cyc + 1 + x'.b % 4) = 0 ∧ extL s.l (s.n' x') (s.cyc + 1 + x'.b % 4) = (s.step x').l) := Lib.hid (by
            have hx : extE s.l (s.n' x') (s.cyc + 1 + x'.b % 4) = 0 := (HGK.out.ext (by omega) (by omega) x').zero
            exact ⟨hx, by unfold extL; rw [hx, if_pos rfl]; rfl⟩)
          have HN : Hid (s.n' x' = s.n + x'.a % 3 ∧ 1 ≤ s.n + x'.a % 3 ∨ s.n' x' = 1 ∧ ¬ 1 ≤ s.n + x'.a % 3) := Lib.hid (by unfold GSt.n'; omega)
          first
            | replace HN : Hid (s.n' x' = s.n + x'.a % 3) := Lib.hid (by have := HN.out; omega)
            | replace HN : Hid (s.n' x' = 1) := Lib.hid (by have := HN.out; omega)
          rw [HN.out] at HX
          refine (Ext_any _ _ _ _ _ _ HR.out (by omega)).mono ?_
          rintro e w2 ⟨v, rfl, hv, hb⟩
          rw [HX.out.1]
          rw [HX.out.2] at hv
          obtain ⟨A2, c2, rfl, _, _, _⟩ := OwL.rd hv
          have HV := Lib.hid (OwL.lower hv HW.out.size)
          have HW2 := Lib.hid (HW.out.trans (hb.mono HW.out.size))
          have HO2 := Lib.hid (OwL.below HO.out hb)
          clear hv hb
          go_wp2
          go_loopw [8, 9] (fun v8 v9 wq => ∃ j : Nat, (j : Int) ≤ 1 + x'.b % 4 ∧ v8 = .int .i64 (s.cyc + j) ∧ Hid (OwI wq w.heap.size v9 (s.ep ++ List.replicate j (s.n' x'))) ∧ Hid (OwS wq w.heap.size (.slice A2 (s.step x').l.length c2) (s.step x').l) ∧ Hid (Below w.heap.size w wq)) (fun v8 _ _ => (s.cyc + 1 + x'.b % 4 - intOf v8).toNat)
          case atStart => exact ⟨0, by omega, by simp, Lib.hid (by simpa using HO2.out), HV, HW2⟩
          case round =>
            obtain ⟨j, hj, rfl, HJ, HVJ, HWJ⟩ := hrel
            obtain ⟨L, hL⟩ : ∃ L, L = s.ep ++ List.replicate j (s.n' x') := ⟨_, rfl⟩
            have HLL := Lib.hid hL
            have hLl : L.length ≤ 4000 := by rw [hL]; simp; omega
            have HLN := Lib.hid hLl
            rw [← hL] at HJ
            clear hL
            obtain ⟨A3, c3, rfl, _, _, _⟩ := OwL.rd HJ.out
            by_cases hjt : s.cyc + j < s.cyc + 1 + x'.b % 4
            · have HKK : Hid (∀ m : Int, L.length + [m].length ≤ maxLen ∧ (L.length + [m].length) * 8 ≤ 140737488355328) := Lib.hid fun m => ⟨by have := HLN.out; simp only [maxLen, List.length_singleton]; omega, by have := HLN.out; simp only [List.length_singleton]; omega⟩
              have HBX : Hid (∀ m : Int, RdI (wr.alloc (.cells #[.int .i64 m] 3)) (some ⟨wr.heap.size, 0, none⟩) [m]) := Lib.hid fun m => RdL.box (E := eI) wr m 3
              have HVA : Hid (∀ m : Int, OwI (wr.alloc (.cells #[.int .i64 m] 3)) w.heap.size (.slice A3 L.length c3) L) := Lib.hid fun m => HJ.out.alloc _
              have HBS : Hid (∀ m : Int, w.heap.size ≤ (wr.alloc (.cells #[.int .i64 m] 3)).heap.size) := Lib.hid fun m => by have := HWJ.out.size; simp; omega
              have HFA : Hid (∀ (m : Int) v1 w9, OwI w9 w.heap.size v1 (L ++ [m]) → (wr.alloc (.cells #[.int .i64 m] 3)).grownBy w9 (Value.slice A3 L.length c3).ownBlock → Below w.heap.size w w9 ∧ OwS w9 w.heap.size (.slice A2 (s.step x').l.length c2) (s.step x').l) := Lib.hid fun m v1 w9 hown hg => ⟨(HWJ.out.alloc HWJ.out.size _).grown hg (HBS.out m) (fun q h => (OwL.lt HJ.out q h).1), (HVJ.out.alloc _).grown hg (OwL.apart2 (HVJ.out.alloc _) (HVA.out m) (by decide))⟩
              have m8 : IntKind.i64.wrap (s.cyc + j + 1) = s.cyc + j + 1 := IntWalk.i64_in _ (by omega)
              go_wp2_with (at_builtin; refine wpList_append_all (E := eI) _ rfl (.tmp 76) (.tmp 78) 78 rfl w.heap.size 3 i0 _ 8 Try.underlying78 hi hy0 hy1 hy2 rfl (.slice A3 L.length c3) L rfl (HVA.out _) (some ⟨wr.heap.size, 0, none⟩) 1 [_] rfl (HBX.out _) (by simp) (HKK.out _).1 (HKK.out _).2 (HBS.out _) ?_; intro v1 w9 hown hg hat)
              go_roundw
              case rel =>
                obtain ⟨g1, g2⟩ := HFA.out _ v1 w9 hown hg
                exact ⟨j + 1, by omega, by rw [show ((j + 1 : Nat) : Int) = (j : Int) + 1 by omega, ← Int.add_assoc], Lib.hid (by rw [List.replicate_succ', ← List.append_assoc, ← HLL.out, HN.out]; exact hown), Lib.hid g2, Lib.hid g1⟩
              case measure => simp [intOf]; omega
            · have hj2 : (j : Int) = 1 + x'.b % 4 := by omega
              have HJN : Hid (L = (s.step x').ep) := Lib.hid (by rw [HLL.out]; show _ = s.ep ++ List.replicate (1 + x'.b % 4).toNat (s.n' x'); rw [show (1 + x'.b % 4).toNat = j by omega])
              have HC : Hid (s.cyc + j = (s.step x').cyc) := Lib.hid (by show _ = s.cyc + 1 + x'.b % 4; omega)
              have m9 : IntKind.i64.wrap ((k : Int) + 1) = k + 1 := IntWalk.i64_in _ (by omega)
              go_wp2
              go_roundw
              case rel => exact ⟨k + 1, A2, c2, by omega, by omega, by go_num, by rw [HST.out], by rw [HST.out]; exact congrArg _ HN.out.symm, by rw [HST.out, ← HC.out], Lib.hid (by rw [HST.out]; exact OwL.rdA HVJ.out), Lib.hid (by rw [HST.out, ← HJN.out]; exact HJ.out), HWJ⟩
              case measure => simp [intOf]; omega
      · have HK0 : Hid (k = ps.length ∨ k = 20) := Lib.hid (by omega)
        obtain ⟨L, hL⟩ : ∃ L, L = (growth (gst l) (ps.take k)).l.length := ⟨_, rfl⟩
        by_cases hlt1 : k < ps.length
        · have hd20 : decide ((k : Int) < 20) = false := by simp; omega
          go_wp2
          go_ret3
          exact HFIN.out _ _ _ _ k HK0.out hk hk20 HR.out HO.out HW.out
        · have hkk : k = ps.length := by omega
          go_wp2
          go_ret3
          exact HFIN.out _ _ _ _ k HK0.out hk hk20 HR.out HO.out HW.out
end Go.Proofs.Ytcdifegjlllbfaa

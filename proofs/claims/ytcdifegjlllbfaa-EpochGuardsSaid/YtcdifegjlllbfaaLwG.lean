/- The walk through the law EpochGuards. Condition: the steps lie in memory as a list. -/
import Derived.Test.YtcdifegjlllbfaaStp
import Derived.Deep.DeepCutAuto
import Derived.Deep.RegionHeld3
set_option linter.unusedVariables false
set_option linter.unusedSimpArgs false
namespace Go.Proofs.Ytcdifegjlllbfaa
open Go.RowKit
theorem new00 : newF 0 0 = ⟨0, 0, false⟩ ∧ chkF ⟨0, 0, false⟩ = 0 := by decide +kernel
/-- What holds of a fence and the epochs that are over. -/
structure GInv (f : Fe) (ov : List Bool) : Prop where
  len : ov.length = 40
  e0 : 0 ≤ f.ep
  e1 : f.ep ≤ 31
  o0 : 0 ≤ f.ow
  o1 : f.ow ≤ 3
  ov : ∀ (n : Nat) (h : n < ov.length), ov[n] = true → (n : Int) < f.ep ∨ ((n : Int) = f.ep ∧ f.cl = true)
theorem GInv.ord {f : Fe} {ov : List Bool} (h : GInv f ov) : ordB f = true := by
  have h0 := h.e0
  have h1 := h.e1
  have h2 := h.o0
  have h3 := h.o1
  simp only [ordB, inB, siteB, Bool.and_eq_true, decide_eq_true_eq]
  omega
theorem GInv.set {f : Fe} {ov : List Bool} (h : GInv f ov) {n : Nat} (hn : (n : Int) < f.ep ∨ ((n : Int) = f.ep ∧ f.cl = true)) : GInv f (ov.set n true) := by
  refine ⟨by rw [List.length_set]; exact h.len, h.e0, h.e1, h.o0, h.o1, fun m hm ht => ?_⟩
  by_cases he : n = m
  · subst he; exact hn
  · rw [List.getElem_set_ne he] at ht
    exact h.ov m (by rw [List.length_set] at hm; exact hm) ht
def ovA (ov : List Bool) : Array Value := (ov.map Value.bool).toArray
theorem ovA_at {ov : List Bool} {n : Nat} (h : n < ov.length) : (ovA ov)[n]? = some (.bool ov[n]) := by
  simp [ovA, List.getElem?_eq_getElem h]
theorem ovA_set (ov : List Bool) (n : Nat) : (ovA ov).setIfInBounds n (.bool true) = ovA (ov.set n true) := by
  simp [ovA, List.map_set]
def hitsN (f : Fe) (n : Nat) : Int := if f.cl = false ∧ f.ep < n then 1 else 0
def hitsS (f : Fe) (n s : Nat) : Int := if f.cl = false ∧ (f.ep < n ∨ f.ep = n ∧ f.ow < s) then 1 else 0
theorem hits0 (f : Fe) (n : Nat) (h : 0 ≤ f.ow) : hitsS f n 0 = hitsN f n := by unfold hitsS hitsN; congr 1; simp; omega
theorem hits4 (f : Fe) (n : Nat) (h : f.ow ≤ 3) : hitsS f n 4 = hitsN f (n + 1) := by unfold hitsS hitsN; congr 1; simp; omega
theorem hits_le (f : Fe) (n : Nat) : 0 ≤ hitsN f n ∧ hitsN f n ≤ 1 := by unfold hitsN; split <;> omega
theorem hits_yes {f : Fe} {n s : Nat} (hc : f.cl = false) (hn : f.ep = n) (hs : f.ow = s) : hitsS f n s = 0 ∧ hitsS f n (s + 1) = 1 := by
  unfold hitsS
  rw [if_neg (by omega), if_pos (by refine ⟨hc, ?_⟩; omega)]
  exact ⟨rfl, rfl⟩
theorem hits_no {f : Fe} {n s : Nat} (h : ¬ (f.cl = false ∧ f.ep = n ∧ f.ow = s)) : hitsS f n (s + 1) = hitsS f n s := by
  unfold hitsS
  by_cases hc : f.cl = false
  · have h' : ¬ (f.ep = n ∧ f.ow = s) := fun h2 => h ⟨hc, h2⟩
    have e : (f.ep < n ∨ f.ep = n ∧ f.ow < ((s + 1 : Nat) : Int)) ↔ (f.ep < n ∨ f.ep = n ∧ f.ow < s) := by omega
    simp only [e]
  · rw [if_neg (fun x => hc x.1), if_neg (fun x => hc x.1)]
theorem adm_yes {f : Fe} {ov : List Bool} (h : GInv f ov) {n s : Nat} (hc : f.cl = false) (hn : f.ep = n) (hs : f.ow = s) : admE f n s = 0 := by
  unfold admE
  rw [if_pos h.ord, if_pos (by omega), if_pos hn.symm, if_pos ⟨hc, hs.symm⟩]
theorem adm_no {f : Fe} {ov : List Bool} (h : GInv f ov) {n s : Nat} (hno : ¬ (f.cl = false ∧ f.ep = n ∧ f.ow = s)) : admE f n s ≠ 0 := by
  unfold admE
  rw [if_pos h.ord]
  split
  · split
    · rename_i h2
      rw [if_neg (fun x => hno ⟨x.1, h2.symm, x.2.symm⟩)]
      omega
    · omega
  · omega
theorem shut_yes {f : Fe} {ov : List Bool} (h : GInv f ov) {n : Int} (h0 : f.ep ≤ n) (h1 : n ≤ 31) : shuE f n = 0 ∧ shuF f n = ⟨n, f.ow, true⟩ := by
  have he := h.e0
  have e : shuE f n = 0 := by
    unfold shuE
    rw [if_pos h.ord, if_pos (by simp only [inB, decide_eq_true_eq]; omega), if_pos h0]
  exact ⟨e, by unfold shuF; rw [if_pos e]⟩
theorem shut_no {f : Fe} {n : Int} (h0 : ¬ f.ep ≤ n) : shuE f n ≠ 0 ∧ shuF f n = fe0 := by
  have e : shuE f n ≠ 0 := by
    unfold shuE
    rw [if_neg h0]
    split <;> (first | omega | (split <;> omega))
  exact ⟨e, by unfold shuF; rw [if_neg e]⟩
theorem raise_yes {f : Fe} {ov : List Bool} (h : GInv f ov) {n p : Int} (h0 : f.ep < n) (h1 : n ≤ 31) (p0 : 0 ≤ p) (p1 : p ≤ 3) : raiE f n p = 0 ∧ raiF f n p = ⟨n, p, false⟩ := by
  have he := h.e0
  have e : raiE f n p = 0 := by
    unfold raiE
    rw [if_pos h.ord, if_pos (by simp only [inB, siteB, Bool.and_eq_true, decide_eq_true_eq]; omega), if_pos h0]
  exact ⟨e, by unfold raiF; rw [if_pos e]⟩
theorem raise_no {f : Fe} {n p : Int} (h0 : ¬ f.ep < n) : raiE f n p ≠ 0 ∧ raiF f n p = fe0 := by
  have e : raiE f n p ≠ 0 := by
    unfold raiE
    rw [if_neg h0]
    split <;> (first | omega | (split <;> omega))
  exact ⟨e, by unfold raiF; rw [if_neg e]⟩
theorem GInv.shut {f : Fe} {ov : List Bool} (h : GInv f ov) {n : Int} (h0 : f.ep ≤ n) (h1 : n ≤ 31) : GInv ⟨n, f.ow, true⟩ (ov.set n.toNat true) := by
  have he := h.e0
  have hi : GInv ⟨n, f.ow, true⟩ ov := ⟨h.len, by show 0 ≤ n; omega, h1, h.o0, h.o1, fun m hm ht => by
    have := h.ov m hm ht
    show (m : Int) < n ∨ (m : Int) = n ∧ true = true
    simp
    omega⟩
  exact hi.set (.inr ⟨by show (n.toNat : Int) = n; omega, rfl⟩)
theorem GInv.raise {f : Fe} {ov : List Bool} (h : GInv f ov) {n p : Int} (h0 : f.ep < n) (h1 : n ≤ 31) (p0 : 0 ≤ p) (p1 : p ≤ 3) : GInv ⟨n, p, false⟩ ov := by
  have he := h.e0
  exact ⟨h.len, by show 0 ≤ n; omega, h1, p0, p1, fun m hm ht => by
    have := h.ov m hm ht
    show (m : Int) < n ∨ (m : Int) = n ∧ false = true
    left
    omega⟩
theorem adm_self {f : Fe} {ov : List Bool} (h : GInv f ov) (hc : f.cl = false) : admE f f.ep f.ow = 0 := by
  unfold admE
  rw [if_pos h.ord, if_pos (Int.le_refl _), if_pos rfl, if_pos ⟨hc, rfl⟩]
theorem far3 {w : World} {p : Addr} {g' : Nat} {v a b c : Value} (hne : p.block ≠ g') (h : w.cell? p = some v) : (((w.setCell ⟨g', 0, none⟩ a).setCell ⟨g', 1, none⟩ b).setCell ⟨g', 2, none⟩ c).cell? p = some v :=
  (World.cell?_setCell_other _ _ _ _ (fun e => hne (congrArg Addr.block e).symm)).trans ((World.cell?_setCell_other _ _ _ _ (fun e => hne (congrArg Addr.block e).symm)).trans ((World.cell?_setCell_other _ _ _ _ (fun e => hne (congrArg Addr.block e).symm)).trans h))
theorem ginv0 : GInv ⟨0, 0, false⟩ (List.replicate 40 false) := ⟨by simp, by simp, by simp, by simp, by simp, fun n h ht => by rw [List.getElem_replicate] at ht; cases ht⟩
set_option maxRecDepth 100000 in
set_option maxHeartbeats 4000000 in
theorem EpochGuards_any (A : Option Addr) (c : Nat) (l : List Stp) (w : World) (hl : RdT w A l) (ho : ∀ x ∈ l, x.Ok) : Calls Try.prog 9 #[.slice A l.length c] w fun e w' => e = .returned (.bool true) ∧ Below w.heap.size w w' := by
  have hlen := hl.1
  have HL := Lib.hid hl
  have HO := Lib.hid ho
  clear hl ho
  by_cases h30 : 30 < l.length
  · go_enter Try.func9, Try.ntmps9
    go_wp2_with fail
    refine (awake_any _).mono ?_
    rintro e w1 ⟨rfl, hb⟩
    go_wp2
    go_ret
    exact ⟨rfl, hb⟩
  go_enter Try.func9, Try.ntmps9
  go_wp2_with fail
  refine (New_any _ _ _).mono ?_
  rintro e w1 ⟨rfl, hb⟩
  rw [new00.1, new00.2]
  unfold Fe.val
  have K1 := Lib.hid hb
  clear hb
  go_wp2_with fail
  have GB : Hid (Blk ((w1.alloc (.cells #[.int .i64 0, .int .i64 0, .bool false] 37)).alloc (.cells (ovA (List.replicate 40 false)) 73)) w1.heap.size 37 (⟨0, 0, false⟩ : Fe).cells) := Lib.hid ((Blk.new w1 37 _).alloc _)
  have GO : Hid (Blk ((w1.alloc (.cells #[.int .i64 0, .int .i64 0, .bool false] 37)).alloc (.cells (ovA (List.replicate 40 false)) 73)) (w1.heap.size + 1) 73 (ovA (List.replicate 40 false))) := Lib.hid (by simpa using Blk.new (w1.alloc (.cells #[.int .i64 0, .int .i64 0, .bool false] 37)) 73 (ovA (List.replicate 40 false)))
  have hsz1 : w.heap.size ≤ w1.heap.size := K1.out.size
  go_loopw [6] (fun v6 wr => ∃ (k : Nat) (f : Fe) (ov : List Bool), k ≤ l.length ∧ v6 = .int .i64 k ∧ Hid (GInv f ov) ∧ Hid (Blk wr w1.heap.size 37 f.cells) ∧ Hid (Blk wr (w1.heap.size + 1) 73 (ovA ov)) ∧ Hid (Below w.heap.size w wr)) (fun v6 _ => l.length + 1 - (intOf v6).toNat)
  case atStart => exact ⟨0, _, _, Nat.zero_le _, rfl, Lib.hid ginv0, GB, GO, Lib.hid ((K1.out.alloc hsz1 _).alloc (by simp; omega) _)⟩
  case round =>
    obtain ⟨k, f, ov, hk, rfl, HI, HF, HV, HB⟩ := hrel
    clear GB GO
    go_wp2
    go_loopw [7, 8] (fun v7 v8 wr => ∃ (n : Nat) (ov : List Bool), n ≤ 40 ∧ v7 = .int .i64 (hitsN f n) ∧ v8 = .int .i64 n ∧ Hid (GInv f ov) ∧ Hid (Blk wr w1.heap.size 37 f.cells) ∧ Hid (Blk wr (w1.heap.size + 1) 73 (ovA ov)) ∧ Hid (Below w.heap.size w wr)) (fun _ v8 _ => 40 - (intOf v8).toNat)
    case atStart => exact ⟨0, ov, by omega, by rw [show hitsN f 0 = 0 from if_neg (by have := HI.out.e0; omega)], rfl, HI, HF, HV, HB⟩
    case round =>
      obtain ⟨n, ov2, hn, rfl, rfl, HI2, HF2, HV2, HB2⟩ := hrel
      clear HI HF HV HB
      by_cases hn40 : n < 40
      · have hd40 : decide ((n : Int) < 40) = true := by simp; omega
        go_wp2
        go_loopw [7, 9] (fun v7 v9 wr => ∃ (s : Nat), s ≤ 4 ∧ v7 = .int .i64 (hitsS f n s) ∧ v9 = .int .i64 s ∧ Hid (Blk wr w1.heap.size 37 f.cells) ∧ Hid (Blk wr (w1.heap.size + 1) 73 (ovA ov2)) ∧ Hid (Below w.heap.size w wr)) (fun _ v9 _ => 4 - (intOf v9).toNat)
        case atStart => exact ⟨0, by omega, by rw [hits0 _ _ HI2.out.o0], rfl, HF2, HV2, HB2⟩
        case round =>
          obtain ⟨s, hs, rfl, rfl, HF3, HV3, HB3⟩ := hrel
          clear HF2 HV2 HB2
          have c0 : wr.cell? ⟨w1.heap.size, 0, none⟩ = some (.int .i64 f.ep) := HF3.out.cell 0
          have c1 : wr.cell? ⟨w1.heap.size, 1, none⟩ = some (.int .i64 f.ow) := HF3.out.cell 1
          have c2 : wr.cell? ⟨w1.heap.size, 2, none⟩ = some (.bool f.cl) := HF3.out.cell 2
          have hlen2 := HI2.out.len
          by_cases hs4 : s < 4
          · have hd4 : decide ((s : Int) < 4) = true := by simp; omega
            by_cases hyes : f.cl = false ∧ f.ep = n ∧ f.ow = s
            · obtain ⟨hy1, hy2, hy3⟩ := hyes
              have HA := Lib.hid (adm_yes HI2.out hy1 hy2 hy3)
              have HH := Lib.hid (hits_yes hy1 hy2 hy3)
              have hn2 : n < ov2.length := by omega
              have hov : ov2[n] = false := by
                cases hx : ov2[n] with
                | false => rfl
                | true => have := HI2.out.ov n hn2 hx; rw [hy1] at this; simp at this; omega
              have HOV : Hid ((ovA ov2)[n]? = some (.bool false)) := Lib.hid (by rw [ovA_at hn2, hov])
              rw [HH.out.1]
              clear hov
              clear hy1 hy2 hy3
              go_wp2_with fail
              refine (Admit_any f _ _ _).mono ?_
              rintro e w4 ⟨rfl, hb⟩
              rw [HA.out]
              have HF4 := Lib.hid (HF3.out.below hb HF3.out.lt)
              have HV4 := Lib.hid (HV3.out.below hb HV3.out.lt)
              have HB4 := Lib.hid (HB3.out.trans (hb.mono HB3.out.size))
              clear hb c0 c1 c2
              have d0 : w4.cell? ⟨w1.heap.size + 1, n, none⟩ = some (.bool false) := by rw [HV4.out.cell n, HOV.out]
              go_wp2
              go_roundw
              case rel => exact ⟨s + 1, by omega, by rw [HH.out.2], by go_num, HF4, HV4, HB4⟩
              case measure => simp [intOf]; omega
            · have HA := Lib.hid (adm_no HI2.out hyes)
              have HH := Lib.hid (hits_no hyes)
              obtain ⟨E, hE⟩ : ∃ E, E = admE f n s := ⟨_, rfl⟩
              rw [← hE] at HA
              have HE := Lib.hid hE
              have hne : (E != 0) = true := bne_iff_ne.2 HA.out
              clear hyes hE
              go_wp2_with fail
              refine (Admit_any f _ _ _).mono ?_
              rintro e w4 ⟨rfl, hb⟩
              rw [← HE.out]
              have HF4 := Lib.hid (HF3.out.below hb HF3.out.lt)
              have HV4 := Lib.hid (HV3.out.below hb HV3.out.lt)
              have HB4 := Lib.hid (HB3.out.trans (hb.mono HB3.out.size))
              clear hb c0 c1 c2
              go_wp2
              go_roundw
              case rel => exact ⟨s + 1, by omega, by rw [HH.out], by go_num, HF4, HV4, HB4⟩
              case measure => simp [intOf]; omega
          · have hd4 : decide ((s : Int) < 4) = false := by simp; omega
            have hs44 : s = 4 := by omega
            subst hs44
            have HH := Lib.hid (hits4 f n HI2.out.o1)
            have hn2 : n < ov2.length := by omega
            have d0 : wr.cell? ⟨w1.heap.size + 1, n, none⟩ = some (.bool ov2[n]) := by rw [HV3.out.cell n, ovA_at hn2]
            have y0 : wr.frozen? ⟨w1.heap.size + 1, n, none⟩ = false := HV3.out.frozen n
            by_cases hlt : (n : Int) < f.ep
            · go_wp2
              go_roundw
              case rel => exact ⟨n + 1, ov2.set n true, by omega, by rw [HH.out], by go_num, Lib.hid (HI2.out.set (.inl hlt)), Lib.hid (HF3.out.far (p := ⟨w1.heap.size + 1, n, none⟩) (by simp) _), Lib.hid (by have := HV3.out.set_ n (.bool true); rw [ovA_set] at this; exact this), Lib.hid (HB3.out.setCell (p := ⟨w1.heap.size + 1, n, none⟩) (by show w.heap.size ≤ w1.heap.size + 1; omega) _)⟩
              case measure => simp [intOf]; omega
            · go_wp2
              go_roundw
              case rel => exact ⟨n + 1, ov2, by omega, by rw [HH.out], by go_num, HI2, HF3, HV3, HB3⟩
              case measure => simp [intOf]; omega
      · have hd40 : decide ((n : Int) < 40) = false := by simp; omega
        obtain ⟨hh0, hh1⟩ := hits_le f n
        obtain ⟨H, hH⟩ : ∃ H, H = hitsN f n := ⟨_, rfl⟩
        rw [← hH] at hh0 hh1 ⊢
        clear hH
        by_cases hkl : k = l.length
        · subst hkl
          go_wp2_with fail
          refine (awake_any _).mono ?_
          rintro e w4 ⟨rfl, hb⟩
          have HB4 := Lib.hid (HB2.out.trans (hb.mono HB2.out.size))
          clear hb
          go_wp2
          go_ret
          exact ⟨rfl, HB4.out⟩
        · have hkl2 : k < l.length := by omega
          have hne : ¬ (k : Int) = l.length := by omega
          obtain ⟨⟨u0, u1⟩, ⟨u2, u3⟩⟩ := HO.out l[k] (List.getElem_mem hkl2)
          obtain ⟨ad, rfl, s0, s1, s2⟩ := RdT.at_ (RdL.below HL.out HB2.out) hkl2
          obtain ⟨x, hx⟩ : ∃ x, x = l[k] := ⟨_, rfl⟩
          rw [← hx] at s0 s1 s2 u0 u1 u2 u3
          have m3 : IntKind.u8.wrap (x.a.tmod 32) = x.a % 32 := by rw [Int.tmod_eq_emod_of_nonneg u0]; exact IntWalk.u8_in _ (by omega)
          have m4 : IntKind.u8.wrap (x.b.tmod 4) = x.b % 4 := by rw [Int.tmod_eq_emod_of_nonneg u2]; exact IntWalk.u8_in _ (by omega)
          have m3' : IntKind.i64.wrap (x.a % 32) = x.a % 32 := IntWalk.i64_in _ (by omega)
          have m4' : IntKind.i64.wrap (x.b % 4) = x.b % 4 := IntWalk.i64_in _ (by omega)
          clear hx
          have c0 : wr.cell? ⟨w1.heap.size, 0, none⟩ = some (.int .i64 f.ep) := HF2.out.cell 0
          have c1 : wr.cell? ⟨w1.heap.size, 1, none⟩ = some (.int .i64 f.ow) := HF2.out.cell 1
          have c2 : wr.cell? ⟨w1.heap.size, 2, none⟩ = some (.bool f.cl) := HF2.out.cell 2
          by_cases hsh : x.c = true
          · go_wp2_with fail
            obtain ⟨N, hN⟩ : ∃ N, N = x.a % 32 := ⟨_, rfl⟩
            have hN0 : 0 ≤ N ∧ N ≤ 31 := by omega
            obtain ⟨hN0, hN1⟩ := hN0
            rw [← hN]
            clear hN m3 m3' m4 m4'
            by_cases hup : f.ep ≤ N
            · obtain ⟨z1, z2⟩ := shut_yes HI2.out hup hN1
              have HZ := Lib.hid z1
              have HZ2 := Lib.hid z2
              have HI3 := Lib.hid (HI2.out.shut hup hN1)
              clear z1 z2 hup
              refine (Shut_any f _ _).mono ?_
              rintro e w4 ⟨rfl, hb⟩
              rw [HZ.out, HZ2.out]
              unfold Fe.val
              have HF4 := Lib.hid ((HF2.out.below hb HF2.out.lt).alloc (.cells #[.int .i64 N, .int .i64 f.ow, .bool true] 37))
              have HV4 := Lib.hid ((HV2.out.below hb HV2.out.lt).alloc (.cells #[.int .i64 N, .int .i64 f.ow, .bool true] 37))
              have HB4 := Lib.hid ((HB2.out.trans (hb.mono HB2.out.size)).alloc (HB2.out.trans (hb.mono HB2.out.size)).size (.cells #[.int .i64 N, .int .i64 f.ow, .bool true] 37))
              have HX := Blk.new w4 37 #[.int .i64 N, .int .i64 f.ow, .bool true]
              have d0 : (w4.alloc (.cells #[.int .i64 N, .int .i64 f.ow, .bool true] 37)).cell? ⟨w4.heap.size, 0, none⟩ = some (.int .i64 N) := HX.cell 0
              have d1 : (w4.alloc (.cells #[.int .i64 N, .int .i64 f.ow, .bool true] 37)).cell? ⟨w4.heap.size, 1, none⟩ = some (.int .i64 f.ow) := HX.cell 1
              have d2 : (w4.alloc (.cells #[.int .i64 N, .int .i64 f.ow, .bool true] 37)).cell? ⟨w4.heap.size, 2, none⟩ = some (.bool true) := HX.cell 2
              have y0 := HF4.out.frozen 0
              have y1 := HF4.out.frozen 1
              have y2 := HF4.out.frozen 2
              have y3 := HV4.out.frozen N.toNat
              have q0 : (w4.alloc (.cells #[.int .i64 N, .int .i64 f.ow, .bool true] 37)).cell? ⟨w1.heap.size, 0, none⟩ = some (.int .i64 f.ep) := HF4.out.cell 0
              have q1 : (w4.alloc (.cells #[.int .i64 N, .int .i64 f.ow, .bool true] 37)).cell? ⟨w1.heap.size, 1, none⟩ = some (.int .i64 f.ow) := HF4.out.cell 1
              have q2 : (w4.alloc (.cells #[.int .i64 N, .int .i64 f.ow, .bool true] 37)).cell? ⟨w1.heap.size, 2, none⟩ = some (.bool f.cl) := HF4.out.cell 2
              have hn2 : N.toNat < ov2.length := by have := HI2.out.len; omega
              have q3 : (w4.alloc (.cells #[.int .i64 N, .int .i64 f.ow, .bool true] 37)).cell? ⟨w1.heap.size + 1, N.toNat, none⟩ = some (.bool ov2[N.toNat]) := by rw [HV4.out.cell N.toNat, ovA_at hn2]
              clear HX hb c0 c1 c2
              go_wp2
              go_roundw
              case rel => exact ⟨k + 1, ⟨N, f.ow, true⟩, ov2.set N.toNat true, by omega, by go_num, HI3, Lib.hid ((((HF4.out.set_ 0 (.int .i64 N)).set_ 1 (.int .i64 f.ow)).set_ 2 (.bool true)).far (p := ⟨w1.heap.size + 1, N.toNat, none⟩) (by simp) _), Lib.hid (by have := ((((HV4.out.far (p := ⟨w1.heap.size, 0, none⟩) (by simp) (.int .i64 N)).far (p := ⟨w1.heap.size, 1, none⟩) (by simp) (.int .i64 f.ow)).far (p := ⟨w1.heap.size, 2, none⟩) (by simp) (.bool true)).set_ N.toNat (.bool true)); rw [ovA_set] at this; exact this), Lib.hid ((((HB4.out.setCell (p := ⟨w1.heap.size, 0, none⟩) hsz1 _).setCell (p := ⟨w1.heap.size, 1, none⟩) hsz1 _).setCell (p := ⟨w1.heap.size, 2, none⟩) hsz1 _).setCell (p := ⟨w1.heap.size + 1, N.toNat, none⟩) (by show w.heap.size ≤ w1.heap.size + 1; omega) _)⟩
              case measure => simp [intOf]; omega
            · obtain ⟨z1, z2⟩ := shut_no hup
              obtain ⟨E, hE⟩ : ∃ E, E = shuE f N := ⟨_, rfl⟩
              rw [← hE] at z1
              have HE := Lib.hid hE
              have HZ2 := Lib.hid z2
              have hne : (E == 0) = false := beq_eq_false_iff_ne.2 z1
              clear z1 z2 hE
              refine (Shut_any f _ _).mono ?_
              rintro e w4 ⟨rfl, hb⟩
              rw [HZ2.out, ← HE.out]
              have HF4 := Lib.hid ((HF2.out.below hb HF2.out.lt).alloc (.cells fe0.cells 37))
              have HV4 := Lib.hid ((HV2.out.below hb HV2.out.lt).alloc (.cells fe0.cells 37))
              have HB4 := Lib.hid ((HB2.out.trans (hb.mono HB2.out.size)).alloc (HB2.out.trans (hb.mono HB2.out.size)).size (.cells fe0.cells 37))
              unfold Fe.val fe0
              clear hb c0 c1 c2
              go_wp2
              go_roundw
              case rel => exact ⟨k + 1, f, ov2, by omega, by go_num, HI2, HF4, HV4, HB4⟩
              case measure => simp [intOf]; omega
          · have hsh2 : x.c = false := by simpa using hsh
            go_wp2_with fail
            obtain ⟨N, hN⟩ : ∃ N, N = x.a % 32 := ⟨_, rfl⟩
            have hN0 : 0 ≤ N ∧ N ≤ 31 := by omega
            obtain ⟨hN0, hN1⟩ := hN0
            rw [← hN]
            clear hN m3 m3'
            obtain ⟨R, hR⟩ : ∃ R, R = raiF f N (x.b % 4) := ⟨_, rfl⟩
            obtain ⟨E, hE⟩ : ∃ E, E = raiE f N (x.b % 4) := ⟨_, rfl⟩
            have HCA : Hid (∀ W, Calls Try.prog 22 #[.agg #[.int .i64 f.ep, .int .i64 f.ow, .bool f.cl], .int .i64 N, .int .i64 (x.b % 4)] W fun e w' => e = .returned (.tuple #[.agg #[.int .i64 R.ep, .int .i64 R.ow, .bool R.cl], .int .i64 E]) ∧ Below W.heap.size W w') := Lib.hid fun W => by
              have := Raise_any f N (x.b % 4) W
              rw [← hR, ← hE] at this
              exact this
            have HRR := Lib.hid hR
            have HEE := Lib.hid hE
            clear hR hE
            have hadb : (ad.add (k * 3)).block < wr.heap.size := World.block_lt_of_cell? wr _ s0
            have hgb : w1.heap.size + 1 < wr.heap.size := HV2.out.lt
            have hadw : (ad.add (k * 3)).block < w.heap.size := by
              obtain ⟨ad', e', s', _, _⟩ := RdT.at_ HL.out hkl2
              injection e' with e'
              subst e'
              exact World.block_lt_of_cell? w _ s'
            have HS1 := Lib.hid s1
            have HP4 : Hid (IntKind.i64.wrap (x.b.tmod 4) = x.b % 4) := Lib.hid (by rw [Int.tmod_eq_emod_of_nonneg u2]; exact m4')
            clear s0 s2 m4 m4'
            go_cut [13, 14] (fun v13 v14 wc => ∃ B : Nat, v13 = .pointer (some ⟨B, 0, none⟩) ∧ v14 = .int .i64 E ∧ wr.heap.size ≤ B ∧ Hid (Blk wc B 37 R.cells) ∧ Hid (Below wr.heap.size wr wc))
            case first =>
              have hbz := (Below.refl wr.heap.size wr).alloc (Nat.le_refl _) (.cells #[.int .i64 0, .int .i64 0, .bool false] 37)
              have kd0 := cell_later hbz c0
              have kd1 := cell_later hbz c1
              have kd2 := cell_later hbz c2
              have kds := cell_later hbz s1
              have HBZ := Lib.hid hbz
              clear hbz
              go_region_held3 (fun w' => w'.cell? ⟨w1.heap.size, 0, none⟩ = some (.int .i64 f.ep) ∧ w'.cell? ⟨w1.heap.size, 1, none⟩ = some (.int .i64 f.ow) ∧ w'.cell? ⟨w1.heap.size, 2, none⟩ = some (.bool f.cl) ∧ w'.cell? ⟨(ad.add (k * 3)).block, (ad.add (k * 3)).off + 1, none⟩ = some (.int .u8 x.b)) (first | exact ⟨c0, c1, c2, s1⟩ | exact ⟨kd0, kd1, kd2, kds⟩ | exact ⟨hk0, hk1, hk2, hk3⟩ | exact ⟨far3 (by show w1.heap.size ≠ wr.heap.size; omega) hk0, far3 (by show w1.heap.size ≠ wr.heap.size; omega) hk1, far3 (by show w1.heap.size ≠ wr.heap.size; omega) hk2, far3 (by show (ad.add (k * 3)).block ≠ wr.heap.size; omega) hk3⟩ | go_keep)
                (first | (go_at_call 22; rw [HP4.out]; refine (HCA.out _).mono ?_; rintro e w2 ⟨rfl, hb⟩; have hk0 : w2.cell? ⟨w1.heap.size, 0, none⟩ = some (.int .i64 f.ep) := cell_later hb kd0; have hk1 : w2.cell? ⟨w1.heap.size, 1, none⟩ = some (.int .i64 f.ow) := cell_later hb kd1; have hk2 : w2.cell? ⟨w1.heap.size, 2, none⟩ = some (.bool f.cl) := cell_later hb kd2; have hk3 : w2.cell? ⟨(ad.add (k * 3)).block, (ad.add (k * 3)).off + 1, none⟩ = some (.int .u8 x.b) := cell_later hb kds; have hbk : Blk w2 wr.heap.size 37 #[.int .i64 0, .int .i64 0, .bool false] := (show Blk (wr.alloc (.cells #[.int .i64 0, .int .i64 0, .bool false] 37)).drew _ _ _ from Blk.new wr 37 _).below hb (by simp); have y0 := hbk.frozen 0; have y1 := hbk.frozen 1; have y2 := hbk.frozen 2; have z0 : w2.cell? ⟨wr.heap.size, 0, none⟩ = some (.int .i64 0) := hbk.cell 0; have z1 : w2.cell? ⟨wr.heap.size, 1, none⟩ = some (.int .i64 0) := hbk.cell 1; have z2 : w2.cell? ⟨wr.heap.size, 2, none⟩ = some (.bool false) := hbk.cell 2) | (go_at_call 22; rw [HP4.out]; refine (HCA.out _).mono ?_; rintro e w2 ⟨rfl, hb⟩; have hk0 : w2.cell? ⟨w1.heap.size, 0, none⟩ = some (.int .i64 f.ep) := cell_later hb c0; have hk1 : w2.cell? ⟨w1.heap.size, 1, none⟩ = some (.int .i64 f.ow) := cell_later hb c1; have hk2 : w2.cell? ⟨w1.heap.size, 2, none⟩ = some (.bool f.cl) := cell_later hb c2; have hk3 : w2.cell? ⟨(ad.add (k * 3)).block, (ad.add (k * 3)).off + 1, none⟩ = some (.int .u8 x.b) := cell_later hb s1))
              · go_wp2
                go_meet
                case rel =>
                  have hbw : Below wr.heap.size wr w2 := (Below.refl _ wr).drew.trans hb
                  exact ⟨_, rfl, rfl, hbw.size, Lib.hid (Blk.new _ _ _), Lib.hid (hbw.alloc hbw.size _)⟩
              · go_wp2
                go_meet
                case rel =>
                  have hbw : Below wr.heap.size wr w2 := ((Below.refl _ wr).alloc (Nat.le_refl _) _).drew.trans (hb.mono (by simp))
                  exact ⟨_, rfl, rfl, Nat.le_refl _, Lib.hid (((hbk.set_ 0 _).set_ 1 _).set_ 2 _), Lib.hid (((hbw.setCell (p := ⟨wr.heap.size, 0, none⟩) (Nat.le_refl _) _).setCell (p := ⟨wr.heap.size, 1, none⟩) (Nat.le_refl _) _).setCell (p := ⟨wr.heap.size, 2, none⟩) (Nat.le_refl _) _)⟩
            case rest =>
              obtain ⟨B, rfl, rfl, hB, HX, HW⟩ := hcut
              clear HCA
              have HFc := Lib.hid (HF2.out.below HW.out HF2.out.lt)
              have HVc := Lib.hid (HV2.out.below HW.out HV2.out.lt)
              have HBc := Lib.hid (HB2.out.trans (HW.out.mono HB2.out.size))
              by_cases hup : f.ep < N
              · obtain ⟨z1, z2⟩ := raise_yes HI2.out hup hN1 (show 0 ≤ x.b % 4 by omega) (show x.b % 4 ≤ 3 by omega)
                have HI3 := Lib.hid (HI2.out.raise hup hN1 (show 0 ≤ x.b % 4 by omega) (show x.b % 4 ≤ 3 by omega))
                have hR : R = ⟨N, x.b % 4, false⟩ := HRR.out.trans z2
                have hE : E = 0 := HEE.out.trans z1
                clear HRR HEE z1 z2 c0 c1 c2
                subst hR hE
                have HAD : Hid (admE ⟨N, x.b % 4, false⟩ N (x.b % 4) = 0) := Lib.hid (adm_self HI3.out rfl)
                have d0 : wc.cell? ⟨B, 0, none⟩ = some (.int .i64 N) := HX.out.cell 0
                have d1 : wc.cell? ⟨B, 1, none⟩ = some (.int .i64 (x.b % 4)) := HX.out.cell 1
                have d2 : wc.cell? ⟨B, 2, none⟩ = some (.bool false) := HX.out.cell 2
                have y0 := HFc.out.frozen 0
                have y1 := HFc.out.frozen 1
                have y2 := HFc.out.frozen 2
                have q0 : wc.cell? ⟨w1.heap.size, 0, none⟩ = some (.int .i64 f.ep) := HFc.out.cell 0
                have q1 : wc.cell? ⟨w1.heap.size, 1, none⟩ = some (.int .i64 f.ow) := HFc.out.cell 1
                have q2 : wc.cell? ⟨w1.heap.size, 2, none⟩ = some (.bool f.cl) := HFc.out.cell 2
                clear s1 hup
                go_wp2_with fail
                obtain ⟨W5, hW5⟩ : ∃ W5 : World, W5 = (((wc.setCell ⟨w1.heap.size, 0, none⟩ (.int .i64 N)).setCell ⟨w1.heap.size, 1, none⟩ (.int .i64 (x.b % 4))).setCell ⟨w1.heap.size, 2, none⟩ (.bool false)) := ⟨_, rfl⟩
                have e3 : W5.cell? ⟨(ad.add (k * 3)).block, (ad.add (k * 3)).off + 1, none⟩ = some (.int .u8 x.b) := by rw [hW5]; exact far3 (by show (ad.add (k * 3)).block ≠ w1.heap.size; omega) (cell_later HW.out HS1.out)
                have HF5 : Hid (Blk W5 w1.heap.size 37 (⟨N, x.b % 4, false⟩ : Fe).cells) := Lib.hid (by rw [hW5]; exact ((HFc.out.set_ 0 _).set_ 1 _).set_ 2 _)
                have HV5 : Hid (Blk W5 (w1.heap.size + 1) 73 (ovA ov2)) := Lib.hid (by rw [hW5]; exact ((HVc.out.far (p := ⟨w1.heap.size, 0, none⟩) (by simp) _).far (p := ⟨w1.heap.size, 1, none⟩) (by simp) _).far (p := ⟨w1.heap.size, 2, none⟩) (by simp) _)
                have HB5 : Hid (Below w.heap.size w W5) := Lib.hid (by rw [hW5]; exact ((HBc.out.setCell (p := ⟨w1.heap.size, 0, none⟩) hsz1 _).setCell (p := ⟨w1.heap.size, 1, none⟩) hsz1 _).setCell (p := ⟨w1.heap.size, 2, none⟩) hsz1 _)
                rw [← hW5]
                clear hW5 d0 d1 d2 y0 y1 y2 q0 q1 q2
                have e0 : W5.cell? ⟨w1.heap.size, 0, none⟩ = some (.int .i64 N) := HF5.out.cell 0
                have e1 : W5.cell? ⟨w1.heap.size, 1, none⟩ = some (.int .i64 (x.b % 4)) := HF5.out.cell 1
                have e2 : W5.cell? ⟨w1.heap.size, 2, none⟩ = some (.bool false) := HF5.out.cell 2
                go_region_held3 (fun w' => w'.cell? ⟨w1.heap.size, 0, none⟩ = some (.int .i64 N) ∧ w'.cell? ⟨w1.heap.size, 1, none⟩ = some (.int .i64 (x.b % 4)) ∧ w'.cell? ⟨w1.heap.size, 2, none⟩ = some (.bool false) ∧ w'.cell? ⟨(ad.add (k * 3)).block, (ad.add (k * 3)).off + 1, none⟩ = some (.int .u8 x.b)) (first | exact ⟨e0, e1, e2, e3⟩ | exact hk | go_keep)
                  ((go_at_call 15; rw [HP4.out]; refine (Admit_any ⟨N, x.b % 4, false⟩ _ _ _).mono ?_; rintro e w6 ⟨rfl, hb⟩; rw [HAD.out]; replace hb : Below W5.heap.size W5 w6 := ⟨hb.os, hb.tape, hb.output, hb.size, hb.block⟩; have hk : w6.cell? ⟨w1.heap.size, 0, none⟩ = some (.int .i64 N) ∧ w6.cell? ⟨w1.heap.size, 1, none⟩ = some (.int .i64 (x.b % 4)) ∧ w6.cell? ⟨w1.heap.size, 2, none⟩ = some (.bool false) ∧ w6.cell? ⟨(ad.add (k * 3)).block, (ad.add (k * 3)).off + 1, none⟩ = some (.int .u8 x.b) := ⟨cell_later hb e0, cell_later hb e1, cell_later hb e2, cell_later hb e3⟩))
                have HF6 := Lib.hid (HF5.out.below hb HF5.out.lt)
                have HV6 := Lib.hid (HV5.out.below hb HV5.out.lt)
                have HB6 := Lib.hid (HB5.out.trans (hb.mono HB5.out.size))
                clear hb hk e0 e1 e2 e3
                go_wp2
                go_roundw
                case rel => exact ⟨k + 1, ⟨N, x.b % 4, false⟩, ov2, by omega, by go_num, HI3, HF6, HV6, HB6⟩
                case measure => simp [intOf]; omega
              · obtain ⟨z1, z2⟩ := raise_no (p := x.b % 4) hup
                rw [← HEE.out] at z1
                have hne : (E == 0) = false := beq_eq_false_iff_ne.2 z1
                have H0 := Lib.hid z1
                clear z1 z2 c0 c1 c2 s1 hup
                go_wp2
                go_roundw
                case rel => exact ⟨k + 1, f, ov2, by omega, by go_num, HI2, HFc, HVc, HBc⟩
                case measure => simp [intOf]; omega
end Go.Proofs.Ytcdifegjlllbfaa

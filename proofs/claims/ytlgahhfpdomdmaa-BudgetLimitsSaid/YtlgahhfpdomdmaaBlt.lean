/- The walks through the law's below and built: the buckets of a plan. Conditions: the slice lies in memory as a list of at most 8 plans. -/
import Derived.Test.YtlgahhfpdomdmaaPlan
set_option linter.unusedVariables false
set_option linter.unusedSimpArgs false
namespace Go.Proofs.Ytlgahhfpdomdmaa
open Go.RowKit

/-- below: a bucket's path passes another. -/
theorem pathL_of_neg (l : List Bk) {i : Int} (h : i < 0) : pathL l i = [] := pathL_neg h
set_option maxHeartbeats 1000000 in
theorem below_any (A : Option Addr) (c : Nat) (l : List Pl) (k a : Nat) (w : World) (hl : RdP w A l) (hok : ∀ x ∈ l, x.Ok) (hk : k < l.length) (h8 : l.length ≤ 8) :
    Calls Try.prog 27 #[.slice A l.length c, .int .i64 k, .int .i64 a] w fun e w' => e = .returned (.bool (decide (a ∈ pathL (builtL l) k))) ∧ Below w.heap.size w w' := by
  have HL := Lib.hid hl
  have HU := Lib.hid (builtL_ok h8).up
  clear hl
  go_enter Try.func27, Try.ntmps27
  go_wp2
  go_loopw [1] (fun b wr => ∃ (q : Int), -1 ≤ q ∧ q < l.length ∧ b = .int .i64 q ∧ Hid (decide (a ∈ pathL (builtL l) k) = decide (a ∈ pathL (builtL l) q)) ∧ Hid (Below w.heap.size w wr)) (fun b _ => (intOf b + 1).toNat)
  case atStart => exact ⟨k, by omega, by omega, rfl, Lib.hid rfl, Lib.hid (Below.refl _ _)⟩
  case round =>
    obtain ⟨q, hq0, hq1, rfl, HE, HB⟩ := hrel
    by_cases hneg : q < 0
    · go_wp2
      go_ret
      refine ⟨?_, HB.out⟩
      rw [HE.out, pathL_neg hneg]
      simp
    · obtain ⟨j, rfl⟩ := Int.eq_ofNat_of_zero_le (show 0 ≤ q by omega)
      have hj : j < l.length := by omega
      have hjb : j < (builtL l).length := by rw [builtL_length]; exact hj
      have hs := pathL_step HU.out hjb
      rw [builtL_at hj] at hs
      have HS := Lib.hid hs
      obtain ⟨ad, rfl, f0, _, _⟩ := RdP.at_ (RdL.below HL.out HB.out) hj
      obtain ⟨⟨x0, x1⟩, _, _⟩ := hok l[j] (List.getElem_mem hj)
      have m0 := Int.emod_nonneg l[j].par (show (j : Int) + 1 ≠ 0 by omega)
      have m1 := Int.emod_lt_of_pos l[j].par (show 0 < (j : Int) + 1 by omega)
      have mt : l[j].par.tmod ((j : Int) + 1) = l[j].par % ((j : Int) + 1) := Int.tmod_eq_emod_of_nonneg x0
      clear hs
      by_cases he : j = a
      · have hb : ((j : Int) == (a : Int)) = true := by simp [he]
        have hin : decide (a ∈ pathL (builtL l) k) = true := by
          rw [HE.out, HS.out]
          exact decide_eq_true (List.mem_cons.2 (.inl he.symm))
        have HIN := Lib.hid hin
        clear hin
        go_wp2
        go_ret
        exact ⟨by rw [HIN.out]; rfl, HB.out⟩
      · have hb : ((j : Int) == (a : Int)) = false := by simp; omega
        have hne : a ≠ j := fun h => he h.symm
        go_wp2
        go_roundw
        case rel =>
          refine ⟨l[j].par % ((j : Int) + 1) - 1, by omega, by omega, rfl, Lib.hid ?_, HB⟩
          rw [HE.out, HS.out]
          simp [hne]
        case measure => simp [intOf]; omega

theorem OwL.rdA' {α : Type} {E : Enc α} {e : TypeId} {w : World} {base n c : Nat} {A : Option Addr} {l : List α} (h : OwL E e w base (.slice A n c) l) : RdL E w A l := OwL.rdA h
/-- append(v, xs...) at a step of a region that draws its order. -/
theorem step_append_all {α : Type} {E : Enc α} {P : Program} {w : World} {ops : Array Oper} {o : Oper} {a : Act} {K : Act → World → Prop} {Q : Exit → Act → World → Prop} {F : Prop} (hgd : o.guard = none) (s x : Operand) (t : TypeId)
    (ho : o.op = .call { callee := .builtin .append, args := #[s, x], argTypes := #[t, t] })
    (base : Nat) (e : TypeId) (i : TypeInfo) (z : Value) (bytes : Nat) (ht : P.underlying t = some (.slice e)) (hi : P.info? e = some i) (hz : i.zero = some z)
    (hsize : i.size = E.size) (hby : i.bytes = bytes) (hzs : z.cells.size = E.size)
    (v : Value) (l : List α) (hs : a.eval s = v) (hown : OwL E e w base v l)
    (A : Option Addr) (c : Nat) (m : List α) (hx : a.eval x = .slice A m.length c) (hr : RdL E w A m) (hA : A = none → m = [])
    (h63 : l.length + m.length ≤ maxLen) (hbytes : (l.length + m.length) * bytes ≤ 140737488355328) (hbase : base ≤ w.heap.size)
    (h : ∀ v' w', OwL E e w' base v' (l ++ m) → w.grownBy w' v.ownBlock → (v'.ownBlock = v.ownBlock ∨ v'.ownBlock = some w.heap.size) → K (a.put o.dst v') w') :
    if Region.wanted o (yielded ops a.tmps) = true then Oper.wp P o a w K Q else F := by
  have hw : Region.wanted o (yielded ops a.tmps) = true := by simp [Region.wanted, hgd]
  rw [if_pos hw]
  exact wp_append_all w s x t ho base e i z bytes ht hi hz hsize hby hzs v l hs hown A c m hx hr hA h63 hbytes hbase h

set_option maxHeartbeats 2000000 in
theorem built_any (A : Option Addr) (c : Nat) (l : List Pl) (w : World) (hl : RdP w A l) (hok : ∀ x ∈ l, x.Ok) (h8 : l.length ≤ 8) :
    Calls Try.prog 25 #[.slice A l.length c] w fun e w' => ∃ v, e = .returned (.tuple #[.agg #[.int .i64 0, v], .bool true]) ∧ OwB w' w.heap.size v (builtL l) ∧ Below w.heap.size w w' := by
  have HL := Lib.hid hl
  clear hl
  obtain ⟨i0, hi, hz0, hz1, hz2⟩ := info_parts info64
  go_enter Try.func25, Try.ntmps25
  go_wp2
  have GR := Lib.hid (Blk.new w 24 #[.int .i64 0, .slice none 0 0])
  go_loopw [4, 5] (fun v i wr => ∃ (k : Nat), k ≤ l.length ∧ i = .int .i64 k ∧ Hid (OwB wr w.heap.size v (emptyL (l.take k))) ∧ Hid (Blk wr w.heap.size 24 #[.int .i64 0, .slice none 0 0]) ∧ Hid (Below w.heap.size w wr)) (fun _ i _ => l.length - (intOf i).toNat)
  case atStart => exact ⟨0, Nat.zero_le _, rfl, Lib.hid (OwL.nil _ _ _ _), GR, Lib.hid ((Below.refl _ _).alloc (Nat.le_refl _) _)⟩
  case round =>
    rename_i v
    obtain ⟨k, hk, rfl, HV, HR, HB⟩ := hrel
    clear GR
    have hlk : (emptyL (l.take k)).length = k := by rw [emptyL_length]; simp; omega
    obtain ⟨A1, c1, e, _, _, _⟩ := OwL.rd HV.out
    rw [hlk] at e
    subst e
    have HLK := Lib.hid hlk
    clear hlk
    by_cases hlt : k < l.length
    · obtain ⟨ad, rfl, f0, f1, f2⟩ := RdP.at_ (RdL.below HL.out HB.out) hlt
      obtain ⟨⟨x0, x1⟩, ⟨x2, x3⟩, ⟨x4, x5⟩⟩ := hok l[k] (List.getElem_mem hlt)
      have m0 := Int.emod_nonneg l[k].par (show (k : Int) + 1 ≠ 0 by omega)
      have m1 := Int.emod_lt_of_pos l[k].par (show 0 < (k : Int) + 1 by omega)
      have mt : l[k].par.tmod ((k : Int) + 1) = l[k].par % ((k : Int) + 1) := Int.tmod_eq_emod_of_nonneg x0
      have mt2 : l[k].rate.tmod 20 = l[k].rate % 20 := Int.tmod_eq_emod_of_nonneg x2
      have mt3 : l[k].burst.tmod 60 = l[k].burst % 60 := Int.tmod_eq_emod_of_nonneg x4
      have hd8 : decide ((k : Int) < 8) = true := by simp; omega
      go_wp2
      have hw1 : IntKind.i64.wrap ((k : Int) + 1) = (k : Int) + 1 := IntWalk.i64_in _ (by omega)
      have hne1 : ¬ ((k : Int) + 1 = 0) := by omega
      have hne2 : ((k : Int) + 1 == 0) = false := by simp; omega
      have hw2 : IntKind.i64.wrap (l[k].par.tmod ((k : Int) + 1)) = l[k].par % ((k : Int) + 1) := by rw [mt]; exact IntWalk.i64_in _ (by omega)
      have hw3 : IntKind.i64.wrap (l[k].par % ((k : Int) + 1) - 1) = l[k].par % ((k : Int) + 1) - 1 := IntWalk.i64_in _ (by omega)
      have hw4 : IntKind.u8.wrap (l[k].rate.tmod 20) = l[k].rate % 20 := by rw [mt2]; exact IntWalk.u8_in _ (by omega)
      have hw5 : IntKind.u8.wrap (l[k].burst.tmod 60) = l[k].burst % 60 := by rw [mt3]; exact IntWalk.u8_in _ (by omega)
      have hw6 : IntKind.i64.wrap l[k].par = l[k].par := IntWalk.i64_in _ (by omega)
      have hw7 : IntKind.i64.wrap (l[k].rate % 20) = l[k].rate % 20 := IntWalk.i64_in _ (by omega)
      have hw8 : IntKind.i64.wrap (l[k].burst % 60) = l[k].burst % 60 := IntWalk.i64_in _ (by omega)
      let bx : Obj := .cells #[.int .i64 (l[k].par % ((k : Int) + 1) - 1), .int .i64 (l[k].rate % 20), .int .i64 (l[k].burst % 60), .int .i64 0] 64
      have HVA : Hid (OwB (wr.alloc bx).drew w.heap.size (.slice A1 k c1) (emptyL (l.take k))) := Lib.hid (show OwB (wr.alloc bx) w.heap.size (.slice A1 k c1) (emptyL (l.take k)) from HV.out.alloc _)
      have HBX : Hid (RdB (wr.alloc bx).drew (some ⟨wr.heap.size, 0, none⟩) [plB k l[k]]) := Lib.hid (show RdB (wr.alloc bx) (some ⟨wr.heap.size, 0, none⟩) [plB k l[k]] from RdL.box (E := eB) wr (plB k l[k]) 64)
      have HK1 : Hid ((emptyL (l.take k)).length + [plB k l[k]].length ≤ maxLen) := Lib.hid (by rw [HLK.out]; simp only [maxLen, List.length_singleton]; omega)
      have HK2 : Hid (((emptyL (l.take k)).length + [plB k l[k]].length) * 32 ≤ 140737488355328) := Lib.hid (by rw [HLK.out]; simp only [List.length_singleton]; omega)
      have HBS : Hid (w.heap.size ≤ (wr.alloc bx).drew.heap.size) := Lib.hid (show w.heap.size ≤ (wr.alloc bx).heap.size by have := HB.out.size; simp; omega)
      have had : (ad.add (k * 3)).block < wr.heap.size := World.block_lt_of_cell? wr _ f0
      have e0 : (wr.alloc bx).cell? (ad.add (k * 3)) = some (.int .u8 l[k].par) := cell_later ((Below.refl _ _).alloc (Nat.le_refl _) bx) f0
      have e1 : (wr.alloc bx).cell? ⟨(ad.add (k * 3)).block, (ad.add (k * 3)).off + 1, none⟩ = some (.int .u8 l[k].rate) := cell_later ((Below.refl _ _).alloc (Nat.le_refl _) bx) f1
      have e2 : (wr.alloc bx).cell? ⟨(ad.add (k * 3)).block, (ad.add (k * 3)).off + 2, none⟩ = some (.int .u8 l[k].burst) := cell_later ((Below.refl _ _).alloc (Nat.le_refl _) bx) f2
      have HFA : Hid (∀ v1 w1, OwB w1 w.heap.size v1 (emptyL (l.take k) ++ [plB k l[k]]) → (wr.alloc bx).drew.grownBy w1 (Value.slice A1 k c1).ownBlock → Below w.heap.size w w1 ∧ Blk w1 w.heap.size 24 #[.int .i64 0, .slice none 0 0]) := by
        refine Lib.hid fun v1 w1 hown hg => ?_
        have hne : ∀ q, (Value.slice A1 k c1).ownBlock = some q → q ≠ w.heap.size := OwL.apart HV.out HR.out (by decide)
        have hlt1 : ∀ q, (Value.slice A1 k c1).ownBlock = some q → w.heap.size ≤ q := fun q h => (OwL.lt HV.out q h).1
        exact ⟨(HB.out.alloc HB.out.size bx).drew.grown hg HBS.out hlt1, (show Blk (wr.alloc bx).drew _ _ _ from HR.out.alloc bx).grown hg (fun h => hne _ h.symm rfl)⟩
      have HFC : Hid (∀ w1, Below w.heap.size w w1 → w1.cell? (ad.add (k * 3)) = some (.int .u8 l[k].par) ∧ w1.cell? ⟨(ad.add (k * 3)).block, (ad.add (k * 3)).off + 1, none⟩ = some (.int .u8 l[k].rate) ∧ w1.cell? ⟨(ad.add (k * 3)).block, (ad.add (k * 3)).off + 2, none⟩ = some (.int .u8 l[k].burst)) := by
        refine Lib.hid fun w1 hb => ?_
        obtain ⟨ad', e, g0, g1, g2⟩ := RdP.at_ (RdL.below HL.out hb) hlt
        injection e with e
        subst e
        exact ⟨g0, g1, g2⟩
      go_region_held3 (fun w' => w'.cell? (ad.add (k * 3)) = some (.int .u8 l[k].par) ∧ w'.cell? ⟨(ad.add (k * 3)).block, (ad.add (k * 3)).off + 1, none⟩ = some (.int .u8 l[k].rate) ∧ w'.cell? ⟨(ad.add (k * 3)).block, (ad.add (k * 3)).off + 2, none⟩ = some (.int .u8 l[k].burst)) (first | exact ⟨f0, f1, f2⟩ | exact ⟨e0, e1, e2⟩ | exact hk2 | go_keep)
        ((refine step_append_all (E := eB) (by rfl) (.tmp 18) (.tmp 44) 22 (by rfl) w.heap.size 64 i0 _ 32 Try.underlying22 hi hz0 hz1 hz2 (by rfl) (.slice A1 k c1) (emptyL (l.take k)) (by rfl) HVA.out (some ⟨wr.heap.size, 0, none⟩) 1 [plB k l[k]] (by rfl) HBX.out (by simp) HK1.out HK2.out HBS.out ?_; intro v1 w1 hown hg hat; have hbk := HFA.out v1 w1 hown hg; have hk2 := HFC.out w1 hbk.1))
      go_wp2
      go_roundw
      case rel =>
        exact ⟨k + 1, by omega, by go_num, Lib.hid (by rw [emptyL_take hlt]; exact hown), Lib.hid hbk.2, Lib.hid hbk.1⟩
      case measure => simp [intOf]; omega
    · obtain rfl : k = l.length := by omega
      have hv := HV.out
      rw [List.take_length] at hv
      have hrd := OwL.rdA' hv
      have hnew := New_any A1 c1 (emptyL l) wr hrd (by rw [emptyL_length]; omega)
      rw [emptyL_length] at hnew
      have HN := Lib.hid hnew
      have HCZ := Lib.hid (chk_zero.2 (builtL_ok h8))
      clear hv hrd hnew
      go_wp2_with fail
      refine HN.out.mono ?_
      rintro e w2 ⟨v, rfl, hv, hb⟩
      rw [show (emptyL l).map Bk.full = builtL l from rfl, if_pos HCZ.out] at hv
      rw [show (emptyL l).map Bk.full = builtL l from rfl, HCZ.out]
      obtain ⟨A2, c2, rfl, _, _, _⟩ := OwL.rd hv
      rw [builtL_length]
      have hr := HR.out.below hb HR.out.lt
      have r0 : w2.cell? ⟨w.heap.size, 0, none⟩ = some (.int .i64 0) := hr.cell 0
      have r1 : w2.cell? ⟨w.heap.size, 1, none⟩ = some (.slice none 0 0) := hr.cell 1
      have z0 := hr.frozen 0
      have z1 := hr.frozen 1
      have hs : w.heap.size < w2.heap.size := hr.lt
      have HV2 := Lib.hid hv
      have HR2 := Lib.hid hr
      have HB2 := Lib.hid (HB.out.trans (hb.mono HB.out.size))
      have HBS := Lib.hid HB.out.size
      rw [builtL_length] at HV2
      clear hv hr hb HN HV HR HB
      go_wp2
      go_region
      all_goals
        go_wp2
        refine bodyPost_ret (v := .tuple #[.agg #[.int .i64 0, .slice A2 l.length c2], .bool true]) (by simp [results, Try.results25, go_sem, r0, r1, hs]) rfl ⟨_, rfl, ?_, ?_⟩
        · have h1 := OwL.far (p := ⟨w.heap.size, 0, none⟩) HV2.out (OwL.apart HV2.out HR2.out (by decide)) (.int .i64 0)
          have h2 := HR2.out.set_ 0 (.int .i64 0)
          have h3 := OwL.far (p := ⟨w.heap.size, 1, none⟩) h1 (OwL.apart h1 h2 (by decide)) (.slice A2 l.length c2)
          exact ((h3.lower HBS.out).alloc _)
        · exact (((HB2.out.setCell (p := ⟨w.heap.size, 0, none⟩) (Nat.le_refl _) _).setCell (p := ⟨w.heap.size, 1, none⟩) (Nat.le_refl _) _).alloc (by simpa [World.setCell] using HB2.out.size) _).drew
end Go.Proofs.Ytlgahhfpdomdmaa

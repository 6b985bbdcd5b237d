/- The iterator over a path (budget.path), by its contract, and the walk through budget.available: the least tokens on the path. Condition: each parent lies before its child. -/
import Derived.Test.YtlgahhfpdomdmaaSpec
import Derived.Test.YtlgahhfpdomdmaaRng
set_option linter.unusedVariables false
set_option linter.unusedSimpArgs false
namespace Go.Proofs.Ytlgahhfpdomdmaa
open Go.RowKit Go.Shelf
attribute [local go_sem] Oper.semAt_some

theorem path_in (F : Fence) (n : Nat) (h36 : F.fn 36) (hro : F.round = none) (A : Option Addr) (len cap : Nat) (k : Int) (w : World) :
    CallsIn F n Try.prog 36 #[.slice A len cap, .int .i64 k] w fun e w' => e = .returned (.func (.func 39) #[] #[.pointer (some ⟨w.heap.size + 1, 0, none⟩), .pointer (some ⟨w.heap.size, 0, none⟩)]) ∧ (w.alloc (.cells #[.slice A len cap] 22)).alloc (.cells #[.int .i64 k] 3) = w' := by
  refine callsIn_of_wp Try.func36 rfl h36 ?_ hro
  simp only [Try.ntmps36, List.size_toArray, List.length_cons, List.length_nil, Nat.reduceAdd, Nat.reduceSub, Array.replicate_succ, Array.replicate_zero, List.push_toArray, List.append_toArray, List.nil_append, List.cons_append]
  gi_wp2
  go_ret
  exact ⟨rfl, rfl⟩

/-- A bucket's number. -/
abbrev Ix (l : List Bk) := { i : Nat // i < l.length }
def ixs {l : List Bk} (pre : List (Ix l)) : List Nat := pre.map (·.1)
theorem ixs_nil {l : List Bk} : ixs ([] : List (Ix l)) = [] := rfl
theorem ixs_snoc {l : List Bk} (pre : List (Ix l)) (x : Ix l) : ixs (pre ++ [x]) = ixs pre ++ [x.1] := by simp [ixs]
theorem ixs_length {l : List Bk} (pre : List (Ix l)) : (ixs pre).length = pre.length := by simp [ixs]

set_option maxRecDepth 100000 in
set_option maxHeartbeats 2000000 in
theorem path1_in (F : Fence) (n : Nat) (h39 : F.fn 39) (hro : F.round = none) (hn : 1 ≤ n) (l : Nat) (bs : List Bk) (hu : Up bs) (k0 : Nat) (hk0 : k0 < bs.length) (Bn Bl : Nat) (ad : Addr) (cap : Nat) (J Jx : List (Ix bs) → World → Prop)
    (hY : ∀ pre x W, J pre W → pre.length < (pathL bs k0).length → YieldAt F (n - 1) Try.prog l #[.pointer (some (ad.add (x.1 * 4)))] W fun e W' =>
      (e = .returned (.bool true) ∧ J (pre ++ [x]) W' ∧ KeepsC (fun p => p = ⟨Bl, 0, none⟩ ∨ ∃ j, j < bs.length ∧ p = ad.add (j * 4)) W W') ∨ (e = .returned (.bool false) ∧ Jx (pre ++ [x]) W'))
    (W : World) (hBn : W.cell? ⟨Bn, 0, none⟩ = some (.int .i64 k0)) (hBl : W.cell? ⟨Bl, 0, none⟩ = some (.slice (some ad) bs.length cap)) (hc : ∀ j (hj : j < bs.length), W.cell? (ad.add (j * 4)) = some (.int .i64 (bs[j]).par)) (h0 : J [] W) (hlen : bs.length ≤ 9223372036854775807) :
    CallsIn F n Try.prog 39 #[.func (.yield l) #[] #[], .pointer (some ⟨Bn, 0, none⟩), .pointer (some ⟨Bl, 0, none⟩)] W fun e W' => (∃ v, e = .returned v) ∧
      ((∃ xs : List (Ix bs), ixs xs = pathL bs k0 ∧ J xs W') ∨ (∃ pre : List (Ix bs), ixs pre <+: pathL bs k0 ∧ Jx pre W')) := by
  refine callsIn_of_wp Try.func39 rfl h39 ?_ hro
  simp only [Try.ntmps39, List.size_toArray, List.length_cons, List.length_nil, Nat.reduceAdd, Nat.reduceSub, Array.replicate_succ, Array.replicate_zero, List.push_toArray, List.append_toArray, List.nil_append, List.cons_append]
  gi_wp2
  gi_loopw [4] (fun i wr => ∃ (c : Int) (pre : List (Ix bs)), -1 ≤ c ∧ c < bs.length ∧ i = .int .i64 c ∧ J pre wr ∧ Hid (ixs pre ++ pathL bs c = pathL bs k0) ∧ Hid (wr.cell? ⟨Bl, 0, none⟩ = some (.slice (some ad) bs.length cap) ∧ ∀ j (hj : j < bs.length), wr.cell? (ad.add (j * 4)) = some (.int .i64 (bs[j]).par)))
    (fun i _ => (intOf i + 1).toNat)
  case atStart => exact ⟨k0, [], by omega, by omega, rfl, h0, Lib.hid (by simp [ixs_nil]), Lib.hid ⟨hBl, hc⟩⟩
  case round =>
    obtain ⟨c, pre, hc0, hc1, rfl, hJs, HP, HC⟩ := hrel
    by_cases hneg : c < 0
    · gi_wp2
      go_end0
      refine ⟨⟨_, rfl⟩, .inl ⟨pre, ?_, hJs⟩⟩
      have := HP.out
      rwa [pathL_neg hneg, List.append_nil] at this
    · obtain ⟨k, rfl⟩ := Int.eq_ofNat_of_zero_le (show 0 ≤ c by omega)
      have hk : k < bs.length := by omega
      have hp := hu k hk
      have hp0 := hp.1
      have hp1 := hp.2
      have hl1 : pre.length < (pathL bs k0).length := by rw [← HP.out, pathL_step hu hk]; simp [ixs_length]
      obtain ⟨fn, tmps, assign, body, hy, hR⟩ := hY pre ⟨k, hk⟩ wr hJs hl1
      dsimp only at hy
      have hb := HC.out.1
      have HS := Lib.hid (pathL_step hu hk)
      clear hBn hBl hc hl1 hp
      gi_wp2
      refine hR.mono ?_
      rintro e W3 (⟨rfl, hJ3, hk3⟩ | ⟨rfl, hJx3⟩)
      · have hb3 := hk3 _ _ (.inl rfl) hb
        have hc3 := hk3 _ _ (.inr ⟨k, hk, rfl⟩) (HC.out.2 k hk)
        clear hb
        gi_wp2
        go_roundw
        case rel =>
          refine ⟨(bs[k]).par, pre ++ [⟨k, hk⟩], hp0, by omega, rfl, hJ3, Lib.hid ?_, Lib.hid ⟨hb3, fun j hj => hk3 _ _ (.inr ⟨j, hj, rfl⟩) (HC.out.2 j hj)⟩⟩
          rw [← HP.out, HS.out, ixs_snoc]; simp
        case measure => simp [intOf]; omega
      · gi_wp2
        refine bodyPost_ret (results_none rfl _ _ _) rfl ?_
        refine ⟨⟨_, rfl⟩, .inr ⟨pre ++ [⟨k, hk⟩], ?_, hJx3⟩⟩
        rw [← HP.out, HS.out, ixs_snoc]; simp

/-- The cells that the walk along a path reads. -/
def PathS (n Bl : Nat) (ad : Addr) : Addr → Prop := fun p => p = ⟨Bl, 0, none⟩ ∨ ∃ j, j < n ∧ p = ad.add (j * 4)
theorem PathS.ne {n Bl : Nat} {ad : Addr} {w : World} (hBl : Bl ≠ w.heap.size) (hb : 0 < n → ad.block < w.heap.size) : ∀ p, PathS n Bl ad p → p ≠ ⟨w.heap.size, 0, none⟩ := by
  rintro p (rfl | ⟨j, hj, rfl⟩) e
  · injection e; contradiction
  · have := hb (by omega)
    have h2 := add_block ad (j * 4)
    rw [e] at h2
    simp at h2
    omega
theorem path_stops (F : Fence) (n : Nat) (h39 : F.fn 39) (hro : F.round = none) (hn : 1 ≤ n) (bs : List Bk) (hu : Up bs) (k0 : Nat) (hk0 : k0 < bs.length) (Bn Bl : Nat) (ad : Addr) (cap : Nat) (w : World)
    (hBn : w.cell? ⟨Bn, 0, none⟩ = some (.int .i64 k0)) (hBl : w.cell? ⟨Bl, 0, none⟩ = some (.slice (some ad) bs.length cap)) (hc : ∀ j (hj : j < bs.length), w.cell? (ad.add (j * 4)) = some (.int .i64 (bs[j]).par)) (hlen : bs.length ≤ 9223372036854775807) :
    SeqStopsK F n Try.prog 39 #[.pointer (some ⟨Bn, 0, none⟩), .pointer (some ⟨Bl, 0, none⟩)] (fun x : Ix bs => #[Value.pointer (some (ad.add (x.1 * 4)))]) (KeepsC (PathS bs.length Bl ad)) (fun xs => ixs xs = pathL bs k0) (fun pre => ixs pre <+: pathL bs k0) (pathL bs k0).length w := fun l J Jx W hW _ _ hY h0 =>
  path1_in F n h39 hro hn l bs hu k0 hk0 Bn Bl ad cap J Jx hY W ((hW.cell (World.block_lt_of_cell? w _ hBn)).trans hBn) ((hW.cell (World.block_lt_of_cell? w _ hBl)).trans hBl) (fun j hj => (hW.cell (World.block_lt_of_cell? w _ (hc j hj))).trans (hc j hj)) h0 hlen

theorem available_in (F : Fence) (n : Nat) (h33 : F.fn 33) (h36 : F.fn 36) (h39 : F.fn 39) (hro : F.round = none) (hn : 3 ≤ n) (A : Option Addr) (cap : Nat) (l : List Bk) (hu : Up l) (k : Nat) (hk : k < l.length) (w : World) (hl : RdB w A l) :
    CallsIn F n Try.prog 33 #[.slice A l.length cap, .int .i64 k] w fun e w' => e = .returned (.int .i64 (availL l k)) ∧ Below w.heap.size w w' := by
  have h1 : 1 ≤ n := by omega
  have hlen := hl.1
  obtain ⟨ad, rfl, c0, c1, c2, c3⟩ := RdB.at_ hl hk
  have HL := Lib.hid hl
  clear hl c1 c2
  refine callsIn_of_wp_marks Try.func33 rfl h33 ?_ hro
  simp only [Try.ntmps33, List.size_toArray, List.length_cons, List.length_nil, Nat.reduceAdd, Nat.reduceSub, Array.replicate_succ, Array.replicate_zero, List.push_toArray, List.append_toArray, List.nil_append, List.cons_append]
  gi_wp2_with (gi_at_call 36; refine (path_in F (n - 1) h36 hro _ _ _ _ _).mono ?_; rintro e w' ⟨rfl, rfl⟩)
  have hk0 := hk
  have hcs : ∀ j (hj : j < l.length), w.cell? (ad.add (j * 4)) = some (.int .i64 (l[j]).par) := fun j hj => by
    obtain ⟨ad', e, hc, _⟩ := RdB.at_ HL.out hj
    cases e; exact hc
  have hts : ∀ j (hj : j < l.length), w.cell? ⟨(ad.add (j * 4)).block, (ad.add (j * 4)).off + 3, none⟩ = some (.int .i64 (l[j]).tok) := fun j hj => by
    obtain ⟨ad', e, _, _, _, hc⟩ := RdB.at_ HL.out hj
    cases e; exact hc
  have hadb : ad.block < w.heap.size := by have := World.block_lt_of_cell? w _ (hcs k hk); rwa [add_block] at this
  have HCS := Lib.hid hcs
  have HTS := Lib.hid hts
  have bN : Boxed (w.alloc (.cells #[.int .i64 l[k].tok] 3)) w.heap.size 3 (.int .i64 l[k].tok) := Boxed.new w 3 _
  have bL := Boxed.new (w.alloc (.cells #[.int .i64 l[k].tok] 3)) 22 (.slice (some ad) l.length cap)
  have bK := Boxed.new ((w.alloc (.cells #[.int .i64 l[k].tok] 3)).alloc (.cells #[.slice (some ad) l.length cap] 22)) 3 (.int .i64 (k : Int))
  rw [World.size_alloc] at bL bK
  rw [World.size_alloc] at bK
  have hB0 : Below w.heap.size w (((w.alloc (.cells #[.int .i64 l[k].tok] 3)).alloc (.cells #[.slice (some ad) l.length cap] 22)).alloc (.cells #[.int .i64 (k : Int)] 3)) := (((Below.refl _ w).alloc (Nat.le_refl _) _).alloc (by simp) _).alloc (by simp; omega) _
  have htk : tokAt l k = l[k].tok := by simp [tokAt, hk]
  have HTK := Lib.hid htk
  clear htk hcs hts c0 c3
  refine wpIn_rangeFunc_ownG hro h1 (gf := 39) (lb := #[.pointer (some ⟨w.heap.size + 1 + 1, 0, none⟩), .pointer (some ⟨w.heap.size + 1, 0, none⟩)]) rfl h39 (enters_of Try.func39 (by kernel_rfl) rfl)
    (path_stops F (n - 1) h39 hro (by omega) l hu k hk0 (w.heap.size + 1 + 1) (w.heap.size + 1) ad cap _ bK.cell (bL.alloc _).cell (fun j hj => (hB0.cell (World.block_lt_of_cell? w _ (HCS.out j hj))).trans (HCS.out j hj)) hlen) keepsC_t keepsC_b (Below.refl _ _) (fun _ => rfl)
    (fun pre W => (W.cell? ⟨w.heap.size, 0, none⟩ = some (.int .i64 (leastT l (tokAt l k) (ixs pre))) ∧ W.frozen? ⟨w.heap.size, 0, none⟩ = false) ∧ Below w.heap.size w W)
    (fun _ _ _ => False)
    (OwnFrom.and (Own.from (fun s A B row hs hg hr => ⟨cell_kept hs.1 hg hr, (frozen_kept hs.1 hg hr).trans hs.2⟩) _) (ownFrom_below (Nat.le_refl _) (by simp; omega)))
    (fun _ _ _ _ _ hs _ _ => hs)
    ⟨⟨by rw [HTK.out]; exact ((bN.alloc _).alloc _).cell, ((bN.alloc _).alloc _).frozen⟩, hB0⟩
    (fun x => { tmps := #[.slice (some ad) l.length cap, .int .i64 (k : Int), undef, undef, .int .i64 0, .pointer (some ⟨w.heap.size, 0, none⟩), .pointer (some (ad.add (x.1 * 4))), .slice (some ad) l.length cap, .int .i64 (k : Int), .pointer (some (ad.add (k * 4))), .pointer (some ⟨(ad.add (k * 4)).block, (ad.add (k * 4)).off + 3, none⟩), .int .i64 l[k].tok, .slice (some ad) l.length cap, .int .i64 (k : Int), .func (.func 39) #[] #[.pointer (some ⟨w.heap.size + 1 + 1, 0, none⟩), .pointer (some ⟨w.heap.size + 1, 0, none⟩)], .pointer (some (ad.add (x.1 * 4))), undef, undef, undef, undef, undef, undef, undef], defers := [] }) ?assign ?body ?done ?stop
  case assign =>
    intro l x W K hK
    gi_wp2
    exact hK
  case body =>
    rintro lp pre x W ⟨⟨hc, hf⟩, hB⟩ _
    have hx : W.cell? ⟨(ad.add (x.1 * 4)).block, (ad.add (x.1 * 4)).off + 3, none⟩ = some (.int .i64 (l[x.1]'x.2).tok) := (hB.cell (World.block_lt_of_cell? w _ (HTS.out x.1 x.2))).trans (HTS.out x.1 x.2)
    have hmix : Try.prog.follows .mixedOrders = true := by kernel_rfl
    gi_wp2
    gi_region_with_o (fail)
    all_goals gi_wp2
    all_goals (try go_bits)
    all_goals
      have hls : leastT l (tokAt l k) (ixs (pre ++ [x])) = min (leastT l (tokAt l k) (ixs pre)) (l[x.1]'x.2).tok := by rw [ixs_snoc]; simp [leastT, tokAt, x.2]
      refine ⟨((KeepsOthers.setCell _ _ _).trans (KeepsOthers.drew _)).from _, KeepsC.setCell W (PathS.ne (by omega) (fun _ => hadb)) _, ⟨?_, ?_⟩, (hB.setCell (p := ⟨w.heap.size, 0, none⟩) (Nat.le_refl _) _).drew⟩
      · rw [hls, World.cell?_drew]
        refine (World.cell?_setCell_same' _ _ _ (by rw [hc]; rfl)).trans ?_
        congr 2
        omega
      · exact (World.frozen?_setCell _ _ _ _).trans hf
  case done =>
    rintro D ys W hD hys ⟨⟨hc, _⟩, hB⟩ hK
    gi_wp2
    refine ⟨by simp, .inl ⟨_, _, rfl, run_takeDeferred hK, ?_⟩⟩
    exact ⟨_, results_tmp rfl _ _ _, rfl, hB.trans (belowK_b (w := w) (Nat.le_refl _) W D _ _ (by simp at hD; omega) hK rfl rfl)⟩
  case stop =>
    rintro D c pre W _ _ h _
    exact h.elim
end Go.Proofs.Ytlgahhfpdomdmaa

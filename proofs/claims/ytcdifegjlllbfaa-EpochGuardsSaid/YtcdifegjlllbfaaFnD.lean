/- The walks through the reference's functions on fences. No condition. -/
import Derived.Test.YtcdifegjlllbfaaFnC
set_option linter.unusedVariables false
set_option linter.unusedSimpArgs false
namespace Go.Proofs.Ytcdifegjlllbfaa
open Go.RowKit

theorem rtime_any (n : Int) (w : World) : Calls Try.prog 49 #[.int .i64 n] w fun e w' => e = .returned (.bool (inB n 0)) ∧ w = w' := by
  by_cases h1 : 0 ≤ n
  · by_cases h2 : n ≤ 1073741824
    · have HF : Hid (inB n 0 = true) := Lib.hid (by simp [inB, h1, h2])
      go_enter Try.func49, Try.ntmps49
      go_wp2
      go_ret
      exact ⟨ret_b HF.out.symm, rfl⟩
    · have HF : Hid (inB n 0 = false) := Lib.hid (by simp [inB, h1, h2])
      go_enter Try.func49, Try.ntmps49
      go_wp2
      go_ret
      exact ⟨ret_b HF.out.symm, rfl⟩
  · have HF : Hid (inB n 0 = false) := Lib.hid (by simp [inB, h1])
    go_enter Try.func49, Try.ntmps49
    go_wp2
    go_ret
    exact ⟨ret_b HF.out.symm, rfl⟩
theorem rsite_any (n : Int) (w : World) : Calls Try.prog 50 #[.int .i64 n] w fun e w' => e = .returned (.bool (siteB n)) ∧ w = w' := by
  by_cases h1 : 0 ≤ n
  · by_cases h2 : n < 4
    · have HF : Hid (siteB n = true) := Lib.hid (by simp [siteB, h1, h2])
      go_enter Try.func50, Try.ntmps50
      go_wp2
      go_ret
      exact ⟨ret_b HF.out.symm, rfl⟩
    · have HF : Hid (siteB n = false) := Lib.hid (by simp [siteB, h1]; omega)
      go_enter Try.func50, Try.ntmps50
      go_wp2
      go_ret
      exact ⟨ret_b HF.out.symm, rfl⟩
  · have HF : Hid (siteB n = false) := Lib.hid (by simp [siteB, h1])
    go_enter Try.func50, Try.ntmps50
    go_wp2
    go_ret
    exact ⟨ret_b HF.out.symm, rfl⟩
/-- A test of a time and a site. -/
theorem rCheck_any (f : Fe) (w : World) : Calls Try.prog 20 #[f.val] w fun e w' => e = .returned (.int .i64 (chkF f)) ∧ Below w.heap.size w w' := by
  have HD : Hid (chkF f = if (inB f.ep 0 && siteB f.ow) then 0 else 2) := Lib.hid rfl
  go_enter Try.func20, Try.ntmps20
  unfold Fe.val
  go_wp2_with fail
  refine (rtime_any _ _).mono ?_
  rintro e w1 ⟨rfl, rfl⟩
  obtain ⟨b, hb⟩ : ∃ b, b = inB f.ep 0 := ⟨_, rfl⟩
  rw [← hb] at HD ⊢
  clear hb
  cases b
  · go_wp2
    go_ret
    exact ⟨ret_i (by rw [HD.out]; rfl), (Below.refl _ w).alloc (Nat.le_refl _) _⟩
  · go_wp2_with fail
    refine (rsite_any _ _).mono ?_
    rintro e w1 ⟨rfl, rfl⟩
    obtain ⟨b, hb⟩ : ∃ b, b = siteB f.ow := ⟨_, rfl⟩
    rw [← hb] at HD ⊢
    clear hb
    cases b
    all_goals
      go_wp2
      go_ret
      exact ⟨ret_i (by rw [HD.out]; rfl), (Below.refl _ w).alloc (Nat.le_refl _) _⟩
theorem chkF_cases (f : Fe) : (ordB f = true ∧ chkF f = 0) ∨ (ordB f = false ∧ chkF f = 2) := by
  unfold chkF
  cases h : ordB f
  · exact .inr ⟨rfl, rfl⟩
  · exact .inl ⟨rfl, rfl⟩
theorem rAdmit_any (f : Fe) (n p : Int) (w : World) : Calls Try.prog 21 #[f.val, .int .i64 n, .int .i64 p] w fun e w' => e = .returned (.int .i64 (admE f n p)) ∧ Below w.heap.size w w' := by
  have HD : Hid (admE f n p = if ordB f then (if f.ep ≤ n then (if n = f.ep then (if f.cl = false ∧ p = f.ow then 0 else 14) else 1) else 13) else 2) := Lib.hid rfl
  go_enter Try.func21, Try.ntmps21
  unfold Fe.val
  go_wp2_with fail
  refine (rCheck_any f _).mono ?_
  rintro e w1 ⟨rfl, hb⟩
  have HK := Lib.hid (((Known.start w).alloc 37 f.cells).below hb)
  have c0 : w1.cell? ⟨w.heap.size, 0, none⟩ = some (.int .i64 f.ep) := (HK.out.blk 0 rfl).cell 0
  have c1 : w1.cell? ⟨w.heap.size, 1, none⟩ = some (.int .i64 f.ow) := (HK.out.blk 0 rfl).cell 1
  have c2 : w1.cell? ⟨w.heap.size, 2, none⟩ = some (.bool f.cl) := (HK.out.blk 0 rfl).cell 2
  clear hb
  rcases chkF_cases f with ⟨ho, hc⟩ | ⟨ho, hc⟩
  · rw [ho] at HD
    rw [hc]
    clear ho hc
    obtain ⟨ep, ow, cl⟩ := f
    simp only at c0 c1 c2 HD ⊢
    by_cases h1 : n < ep
    · have HF : Hid (admE ⟨ep, ow, cl⟩ n p = 13) := Lib.hid (by rw [HD.out, if_pos trivial, if_neg (by omega)])
      go_wp2
      go_ret
      exact ⟨ret_i HF.out.symm, HK.out.low⟩
    · by_cases h2 : ep < n
      · have HF : Hid (admE ⟨ep, ow, cl⟩ n p = 1) := Lib.hid (by rw [HD.out, if_pos trivial, if_pos (by omega), if_neg (by omega)])
        go_wp2
        go_ret
        exact ⟨ret_i HF.out.symm, HK.out.low⟩
      · cases cl
        · by_cases h3 : p = ow
          · have HF : Hid (admE ⟨ep, ow, false⟩ n p = 0) := Lib.hid (by rw [HD.out, if_pos trivial, if_pos (by omega), if_pos (by omega), if_pos ⟨rfl, h3⟩])
            have hb3 : (p != ow) = false := by simp [h3]
            have H3 := Lib.hid h3
            clear h3
            go_wp2
            go_ret
            exact ⟨ret_i HF.out.symm, HK.out.low⟩
          · have HF : Hid (admE ⟨ep, ow, false⟩ n p = 14) := Lib.hid (by rw [HD.out, if_pos trivial, if_pos (by omega), if_pos (by omega), if_neg (fun h => h3 h.2)])
            have hb3 : (p != ow) = true := by simp [h3]
            go_wp2
            go_ret
            exact ⟨ret_i HF.out.symm, HK.out.low⟩
        · have HF : Hid (admE ⟨ep, ow, true⟩ n p = 14) := Lib.hid (by rw [HD.out, if_pos trivial, if_pos (by omega), if_pos (by omega), if_neg (by simp)])
          go_wp2
          go_ret
          exact ⟨ret_i HF.out.symm, HK.out.low⟩
  · have HF : Hid (admE f n p = 2) := Lib.hid (by rw [HD.out, ho]; rfl)
    rw [hc]
    clear ho hc HD
    go_wp2
    go_ret
    exact ⟨ret_i HF.out.symm, HK.out.low⟩
theorem rRaise_any (f : Fe) (n p : Int) (w : World) : Calls Try.prog 23 #[f.val, .int .i64 n, .int .i64 p] w fun e w' => e = .returned (.tuple #[(raiF f n p).val, .int .i64 (raiE f n p)]) ∧ Below w.heap.size w w' := by
  have HD : Hid (raiE f n p = if ordB f then (if inB n 0 && siteB p then (if f.ep < n then 0 else 13) else 2) else 2) := Lib.hid rfl
  have HG : Hid (∀ E, E ≠ 0 → raiE f n p = E → raiF f n p = fe0 ∧ raiE f n p = E) := Lib.hid fun E h0 hE => ⟨by unfold raiF; rw [hE, if_neg h0], hE⟩
  go_enter Try.func23, Try.ntmps23
  unfold Fe.val
  go_wp2_with fail
  refine (rCheck_any f _).mono ?_
  rintro e w1 ⟨rfl, hb⟩
  have HK := Lib.hid ((((Known.start w).alloc 37 f.cells).alloc 37 #[.int .i64 0, .int .i64 0, .bool false]).below hb)
  have c0 : w1.cell? ⟨w.heap.size, 0, none⟩ = some (.int .i64 f.ep) := (HK.out.blk 1 rfl).cell 0
  have hR : Blk w1 (w.heap.size + 1) 37 #[.int .i64 0, .int .i64 0, .bool false] := by have := HK.out.blk 0 rfl; simpa using this
  have r0 : w1.cell? ⟨w.heap.size + 1, 0, none⟩ = some (.int .i64 0) := hR.cell 0
  have r1 : w1.cell? ⟨w.heap.size + 1, 1, none⟩ = some (.int .i64 0) := hR.cell 1
  have r2 : w1.cell? ⟨w.heap.size + 1, 2, none⟩ = some (.bool false) := hR.cell 2
  have z0 := hR.frozen 0
  have z1 := hR.frozen 1
  have z2 := hR.frozen 2
  clear hR hb
  have HB3 : Hid (∀ u v x, Below w.heap.size w (((w1.setCell ⟨w.heap.size + 1, 0, none⟩ u).setCell ⟨w.heap.size + 1, 1, none⟩ v).setCell ⟨w.heap.size + 1, 2, none⟩ x)) := Lib.hid fun u v x => ((HK.out.low.setCell (by show w.heap.size ≤ w.heap.size + 1; omega) u).setCell (by show w.heap.size ≤ w.heap.size + 1; omega) v).setCell (by show w.heap.size ≤ w.heap.size + 1; omega) x
  rcases chkF_cases f with ⟨ho, hc⟩ | ⟨ho, hc⟩
  · rw [ho] at HD
    rw [hc]
    clear ho hc
    go_wp2_with fail
    refine (rtime_any _ _).mono ?_
    rintro e w2 ⟨rfl, rfl⟩
    obtain ⟨b, hb⟩ : ∃ b, b = inB n 0 := ⟨_, rfl⟩
    rw [← hb] at HD ⊢
    clear hb
    cases b
    · have HF := Lib.hid (HG.out 2 (by decide) (by rw [HD.out]; rfl))
      go_wp2
      rw [HF.out.1, HF.out.2]
      exact bodyPost_ret (v := .tuple #[.agg #[.int .i64 0, .int .i64 0, .bool false], .int .i64 2]) (by simp [results, Try.results23, go_sem, r0, r1, r2]) rfl ⟨rfl, HB3.out _ _ _⟩
    · go_wp2_with fail
      refine (rsite_any _ _).mono ?_
      rintro e w2 ⟨rfl, rfl⟩
      obtain ⟨b, hb⟩ : ∃ b, b = siteB p := ⟨_, rfl⟩
      rw [← hb] at HD ⊢
      clear hb
      cases b
      · have HF := Lib.hid (HG.out 2 (by decide) (by rw [HD.out]; rfl))
        go_wp2
        rw [HF.out.1, HF.out.2]
        exact bodyPost_ret (v := .tuple #[.agg #[.int .i64 0, .int .i64 0, .bool false], .int .i64 2]) (by simp [results, Try.results23, go_sem, r0, r1, r2]) rfl ⟨rfl, HB3.out _ _ _⟩
      · by_cases h : n ≤ f.ep
        · have HF := Lib.hid (HG.out 13 (by decide) (by rw [HD.out, if_pos trivial, if_pos (by decide), if_neg (by omega)]))
          go_wp2
          rw [HF.out.1, HF.out.2]
          exact bodyPost_ret (v := .tuple #[.agg #[.int .i64 0, .int .i64 0, .bool false], .int .i64 13]) (by simp [results, Try.results23, go_sem, r0, r1, r2]) rfl ⟨rfl, HB3.out _ _ _⟩
        · have he : raiE f n p = 0 := by rw [HD.out, if_pos trivial, if_pos (by decide), if_pos (by omega)]
          have HF : Hid (raiF f n p = ⟨n, p, false⟩ ∧ raiE f n p = 0) := Lib.hid ⟨by unfold raiF; rw [he, if_pos rfl], he⟩
          clear he
          go_wp2
          rw [HF.out.1, HF.out.2]
          exact bodyPost_ret (v := .tuple #[.agg #[.int .i64 n, .int .i64 p, .bool false], .int .i64 0]) (by simp [results, Try.results23, go_sem, r0, r1, r2]) rfl ⟨rfl, HB3.out _ _ _⟩
  · have HF := Lib.hid (HG.out 2 (by decide) (by rw [HD.out, ho]; rfl))
    rw [hc]
    clear ho hc HD
    go_wp2
    rw [HF.out.1, HF.out.2]
    exact bodyPost_ret (v := .tuple #[.agg #[.int .i64 0, .int .i64 0, .bool false], .int .i64 2]) (by simp [results, Try.results23, go_sem, r0, r1, r2]) rfl ⟨rfl, HB3.out _ _ _⟩
theorem rShut_any (f : Fe) (n : Int) (w : World) : Calls Try.prog 25 #[f.val, .int .i64 n] w fun e w' => e = .returned (.tuple #[(shuF f n).val, .int .i64 (shuE f n)]) ∧ Below w.heap.size w w' := by
  have HD : Hid (shuE f n = if ordB f then (if inB n 0 then (if f.ep ≤ n then 0 else 13) else 2) else 2) := Lib.hid rfl
  have HG : Hid (∀ E, E ≠ 0 → shuE f n = E → shuF f n = fe0 ∧ shuE f n = E) := Lib.hid fun E h0 hE => ⟨by unfold shuF; rw [hE, if_neg h0], hE⟩
  go_enter Try.func25, Try.ntmps25
  unfold Fe.val
  go_wp2_with fail
  refine (rCheck_any f _).mono ?_
  rintro e w1 ⟨rfl, hb⟩
  have HK := Lib.hid ((((Known.start w).alloc 37 f.cells).alloc 37 #[.int .i64 0, .int .i64 0, .bool false]).below hb)
  have c0 : w1.cell? ⟨w.heap.size, 0, none⟩ = some (.int .i64 f.ep) := (HK.out.blk 1 rfl).cell 0
  have c1 : w1.cell? ⟨w.heap.size, 1, none⟩ = some (.int .i64 f.ow) := (HK.out.blk 1 rfl).cell 1
  have hR : Blk w1 (w.heap.size + 1) 37 #[.int .i64 0, .int .i64 0, .bool false] := by have := HK.out.blk 0 rfl; simpa using this
  have r0 : w1.cell? ⟨w.heap.size + 1, 0, none⟩ = some (.int .i64 0) := hR.cell 0
  have r1 : w1.cell? ⟨w.heap.size + 1, 1, none⟩ = some (.int .i64 0) := hR.cell 1
  have r2 : w1.cell? ⟨w.heap.size + 1, 2, none⟩ = some (.bool false) := hR.cell 2
  have z0 := hR.frozen 0
  have z1 := hR.frozen 1
  have z2 := hR.frozen 2
  clear hR hb
  have HB3 : Hid (∀ u v x, Below w.heap.size w (((w1.setCell ⟨w.heap.size + 1, 0, none⟩ u).setCell ⟨w.heap.size + 1, 1, none⟩ v).setCell ⟨w.heap.size + 1, 2, none⟩ x)) := Lib.hid fun u v x => ((HK.out.low.setCell (by show w.heap.size ≤ w.heap.size + 1; omega) u).setCell (by show w.heap.size ≤ w.heap.size + 1; omega) v).setCell (by show w.heap.size ≤ w.heap.size + 1; omega) x
  rcases chkF_cases f with ⟨ho, hc⟩ | ⟨ho, hc⟩
  · rw [ho] at HD
    rw [hc]
    clear ho hc
    go_wp2_with fail
    refine (rtime_any _ _).mono ?_
    rintro e w2 ⟨rfl, rfl⟩
    obtain ⟨b, hb⟩ : ∃ b, b = inB n 0 := ⟨_, rfl⟩
    rw [← hb] at HD ⊢
    clear hb
    cases b
    · have HF := Lib.hid (HG.out 2 (by decide) (by rw [HD.out]; rfl))
      go_wp2
      rw [HF.out.1, HF.out.2]
      exact bodyPost_ret (v := .tuple #[.agg #[.int .i64 0, .int .i64 0, .bool false], .int .i64 2]) (by simp [results, Try.results25, go_sem, r0, r1, r2]) rfl ⟨rfl, HB3.out _ _ _⟩
    · by_cases h : n < f.ep
      · have HF := Lib.hid (HG.out 13 (by decide) (by rw [HD.out, if_pos trivial, if_pos rfl, if_neg (by omega)]))
        go_wp2
        rw [HF.out.1, HF.out.2]
        exact bodyPost_ret (v := .tuple #[.agg #[.int .i64 0, .int .i64 0, .bool false], .int .i64 13]) (by simp [results, Try.results25, go_sem, r0, r1, r2]) rfl ⟨rfl, HB3.out _ _ _⟩
      · have he : shuE f n = 0 := by rw [HD.out, if_pos trivial, if_pos rfl, if_pos (by omega)]
        have HF : Hid (shuF f n = ⟨n, f.ow, true⟩ ∧ shuE f n = 0) := Lib.hid ⟨by unfold shuF; rw [he, if_pos rfl], he⟩
        clear he
        go_wp2
        rw [HF.out.1, HF.out.2]
        exact bodyPost_ret (v := .tuple #[.agg #[.int .i64 n, .int .i64 f.ow, .bool true], .int .i64 0]) (by simp [results, Try.results25, go_sem, r0, r1, r2]) rfl ⟨rfl, HB3.out _ _ _⟩
  · have HF := Lib.hid (HG.out 2 (by decide) (by rw [HD.out, ho]; rfl))
    rw [hc]
    clear ho hc HD
    go_wp2
    rw [HF.out.1, HF.out.2]
    exact bodyPost_ret (v := .tuple #[.agg #[.int .i64 0, .int .i64 0, .bool false], .int .i64 2]) (by simp [results, Try.results25, go_sem, r0, r1, r2]) rfl ⟨rfl, HB3.out _ _ _⟩
theorem rNew_any (n p : Int) (w : World) : Calls Try.prog 17 #[.int .i64 n, .int .i64 p] w fun e w' => e = .returned (.tuple #[(newF n p).val, .int .i64 (chkF ⟨n, p, false⟩)]) ∧ Below w.heap.size w w' := by
  have HD : Hid (chkF ⟨n, p, false⟩ = if (inB n 0 && siteB p) then 0 else 2) := Lib.hid rfl
  have HG : Hid (∀ E, E ≠ 0 → chkF ⟨n, p, false⟩ = E → newF n p = fe0 ∧ chkF ⟨n, p, false⟩ = E) := Lib.hid fun E h0 hE => ⟨by unfold newF; rw [hE, if_neg h0], hE⟩
  have HB3 : Hid (∀ u v x, Below w.heap.size w ((((w.alloc (.cells #[.int .i64 0, .int .i64 0, .bool false] 37)).setCell ⟨w.heap.size, 0, none⟩ u).setCell ⟨w.heap.size, 1, none⟩ v).setCell ⟨w.heap.size, 2, none⟩ x)) := Lib.hid fun u v x => ((((Below.refl _ w).alloc (Nat.le_refl _) _).setCell (Nat.le_refl _) u).setCell (Nat.le_refl _) v).setCell (Nat.le_refl _) x
  have HB4 : Hid (∀ o, Below w.heap.size w (w.alloc o)) := Lib.hid fun o => (Below.refl _ w).alloc (Nat.le_refl _) o
  go_enter Try.func17, Try.ntmps17
  go_wp2_with fail
  refine (rtime_any _ _).mono ?_
  rintro e w2 ⟨rfl, rfl⟩
  obtain ⟨b, hb⟩ : ∃ b, b = inB n 0 := ⟨_, rfl⟩
  rw [← hb] at HD ⊢
  clear hb
  cases b
  · have HF := Lib.hid (HG.out 2 (by decide) (by rw [HD.out]; rfl))
    go_wp2
    rw [HF.out.1, HF.out.2]
    exact bodyPost_ret (v := .tuple #[.agg #[.int .i64 0, .int .i64 0, .bool false], .int .i64 2]) (by simp [results, Try.results17, go_sem]) rfl ⟨rfl, HB4.out _⟩
  · go_wp2_with fail
    refine (rsite_any _ _).mono ?_
    rintro e w2 ⟨rfl, rfl⟩
    obtain ⟨b, hb⟩ : ∃ b, b = siteB p := ⟨_, rfl⟩
    rw [← hb] at HD ⊢
    clear hb
    cases b
    · have HF := Lib.hid (HG.out 2 (by decide) (by rw [HD.out]; rfl))
      go_wp2
      rw [HF.out.1, HF.out.2]
      exact bodyPost_ret (v := .tuple #[.agg #[.int .i64 0, .int .i64 0, .bool false], .int .i64 2]) (by simp [results, Try.results17, go_sem]) rfl ⟨rfl, HB4.out _⟩
    · have he : chkF ⟨n, p, false⟩ = 0 := by rw [HD.out]; rfl
      have HF : Hid (newF n p = ⟨n, p, false⟩ ∧ chkF ⟨n, p, false⟩ = 0) := Lib.hid ⟨by unfold newF; rw [he, if_pos rfl], he⟩
      clear he
      go_wp2
      rw [HF.out.1, HF.out.2]
      exact bodyPost_ret (v := .tuple #[.agg #[.int .i64 n, .int .i64 p, .bool false], .int .i64 0]) (by simp [results, Try.results17, go_sem]) rfl ⟨rfl, HB4.out _⟩
end Go.Proofs.Ytcdifegjlllbfaa

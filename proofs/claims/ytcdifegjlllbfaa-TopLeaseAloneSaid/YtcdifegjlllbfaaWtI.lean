/- The walk through the run's send. Conditions: the run lies, at most a thousand requests. -/
import Derived.Test.YtcdifegjlllbfaaWtS
import Derived.Deep.RegionLaw
set_option linter.unusedVariables false
set_option linter.unusedSimpArgs false
namespace Go.Proofs.Ytcdifegjlllbfaa
open Go.RowKit
def numM (m : Mg) (n : Int) : Mg := ⟨m.ki, m.fr, m.to, n, m.va, m.ep⟩
def sendS (s : St) (m : Mg) : St := { s with rq := s.rq ++ [⟨s.now, numM m s.rq.length⟩] }
theorem send_end {B g : Nat} {W w1 : World} {s : St} {vL vR vA : Value} {A1 : Option Addr} {c1 : Nat} (m : Mg) (hl : B ≤ g) (hb : Bw B W w1) (hk : Blk w1 g 39 (s.cells vL vR vA)) (ol : OwL eLe 41 w1 B vL s.ls) (oa : OwL eMg 85 w1 B vA s.an)
    (ho : OwL eRs 93 w1 B (.slice A1 (s.rq ++ [(⟨s.now, numM m s.rq.length⟩ : Rs)]).length c1) (s.rq ++ [⟨s.now, numM m s.rq.length⟩])) :
    (∃ v, Lie B (w1.setCell ⟨g, 7, none⟩ (.slice A1 (s.rq.length + 1) c1)) g (sendS s m) vL v vA) ∧ Bw B W (w1.setCell ⟨g, 7, none⟩ (.slice A1 (s.rq.length + 1) c1)) := by
  rw [List.length_append, List.length_singleton] at ho
  exact ⟨⟨_, ⟨(hk.set_ 7 (.slice A1 (s.rq.length + 1) c1) : Blk _ g 39 ((sendS s m).cells vL (.slice A1 (s.rq.length + 1) c1) vA)), hl, ol.far (p := ⟨g, 7, none⟩) (OwL.apart ol hk (by decide)) _, ho.far (p := ⟨g, 7, none⟩) (OwL.apart ho hk (by decide)) _, oa.far (p := ⟨g, 7, none⟩) (OwL.apart oa hk (by decide)) _⟩⟩, hb.setCell (p := ⟨g, 7, none⟩) hl (hk.typed t39) _⟩
set_option maxRecDepth 10000 in
set_option maxHeartbeats 2000000 in
theorem send_any {B g : Nat} {W : World} {s : St} {vL vR vA : Value} (m : Mg) (h : Lie B W g s vL vR vA) (hn : s.rq.length ≤ 1000) :
    Calls Try.prog 37 #[.pointer (some ⟨g, 0, none⟩), m.val] W fun e w' => e = .returned (.tuple #[]) ∧ (∃ v, Lie B w' g (sendS s m) vL v vA) ∧ Bw B W w' := by
  obtain ⟨AR, cR, rfl, hc1, hc2, hrd⟩ := OwL.rd h.or_
  obtain ⟨i0, hi, hz0, hz1, hz2⟩ := info_parts info93
  have c0 : W.cell? ⟨g, 0, none⟩ = some (.int .i64 s.now) := h.blk.cell 0
  have c7 : W.cell? ⟨g, 7, none⟩ = some (.slice AR s.rq.length cR) := h.blk.cell 7
  have f7 := h.blk.frozen 7
  have hgl : g < W.heap.size := h.lt
  let bx : Obj := .cells (numM m s.rq.length).cells 85
  let by9 : Obj := .cells #[.int .i64 s.now, .int .i64 m.ki, .int .i64 m.fr, .int .i64 m.to, .int .i64 (s.rq.length : Int), .int .i64 m.va, .int .i64 m.ep, .slice none 0 0, .slice none 0 0] 93
  have b1 : Below W.heap.size W (W.alloc bx) := (Below.refl _ _).alloc (Nat.le_refl _) bx
  have b2 : Below W.heap.size W ((W.alloc bx).alloc by9) := b1.alloc (by simp) by9
  have hL1 : Blk (W.alloc bx) W.heap.size 85 (numM m s.rq.length).cells := Blk.new W 85 _
  have hL2 : Blk ((W.alloc bx).alloc by9) W.heap.size 85 (numM m s.rq.length).cells := hL1.alloc by9
  have hH2 : Lie B ((W.alloc bx).alloc by9) g s vL (.slice AR s.rq.length cR) vA := h.below b2
  have hS1 : (fun w' => w'.cell? ⟨g, 0, none⟩ = some (.int .i64 s.now) ∧ w'.cell? ⟨g, 7, none⟩ = some (.slice AR s.rq.length cR) ∧ w'.cell? ⟨W.heap.size, 0, none⟩ = some (.int .i64 m.ki) ∧ w'.cell? ⟨W.heap.size, 1, none⟩ = some (.int .i64 m.fr) ∧ w'.cell? ⟨W.heap.size, 2, none⟩ = some (.int .i64 m.to) ∧ w'.cell? ⟨W.heap.size, 3, none⟩ = some (.int .i64 (s.rq.length : Int)) ∧ w'.cell? ⟨W.heap.size, 4, none⟩ = some (.int .i64 m.va) ∧ w'.cell? ⟨W.heap.size, 5, none⟩ = some (.int .i64 m.ep) ∧ w'.cell? ⟨W.heap.size, 6, none⟩ = some (.slice none 0 0) ∧ w'.cell? ⟨W.heap.size, 7, none⟩ = some (.slice none 0 0)) (W.alloc bx) := ⟨(h.below b1).blk.cell 0, (h.below b1).blk.cell 7, hL1.cell 0, hL1.cell 1, hL1.cell 2, hL1.cell 3, hL1.cell 4, hL1.cell 5, hL1.cell 6, hL1.cell 7⟩
  have hS2 : (fun w' => w'.cell? ⟨g, 0, none⟩ = some (.int .i64 s.now) ∧ w'.cell? ⟨g, 7, none⟩ = some (.slice AR s.rq.length cR) ∧ w'.cell? ⟨W.heap.size, 0, none⟩ = some (.int .i64 m.ki) ∧ w'.cell? ⟨W.heap.size, 1, none⟩ = some (.int .i64 m.fr) ∧ w'.cell? ⟨W.heap.size, 2, none⟩ = some (.int .i64 m.to) ∧ w'.cell? ⟨W.heap.size, 3, none⟩ = some (.int .i64 (s.rq.length : Int)) ∧ w'.cell? ⟨W.heap.size, 4, none⟩ = some (.int .i64 m.va) ∧ w'.cell? ⟨W.heap.size, 5, none⟩ = some (.int .i64 m.ep) ∧ w'.cell? ⟨W.heap.size, 6, none⟩ = some (.slice none 0 0) ∧ w'.cell? ⟨W.heap.size, 7, none⟩ = some (.slice none 0 0)) ((W.alloc bx).alloc by9) := ⟨hH2.blk.cell 0, hH2.blk.cell 7, hL2.cell 0, hL2.cell 1, hL2.cell 2, hL2.cell 3, hL2.cell 4, hL2.cell 5, hL2.cell 6, hL2.cell 7⟩
  have HS1 := Lib.hid hS1
  have HS2 := Lib.hid hS2
  have HVA : Hid (OwL eRs 93 ((W.alloc bx).alloc by9).drew B (.slice AR s.rq.length cR) s.rq) := Lib.hid (show OwL eRs 93 ((W.alloc bx).alloc by9) B (.slice AR s.rq.length cR) s.rq from hH2.or_)
  have HBX : Hid (RdL eRs ((W.alloc bx).alloc by9).drew (some ⟨W.heap.size + 1, 0, none⟩) [⟨s.now, numM m s.rq.length⟩]) := Lib.hid (by
    have := RdL.box (E := eRs) (w := W.alloc bx) ⟨s.now, numM m s.rq.length⟩ 93
    rw [show (W.alloc bx).heap.size = W.heap.size + 1 by simp] at this
    exact this)
  have HK1 : Hid (s.rq.length + ([⟨s.now, numM m s.rq.length⟩] : List Rs).length ≤ maxLen) := Lib.hid (by simp only [maxLen, List.length_singleton]; omega)
  have HK2 : Hid ((s.rq.length + ([⟨s.now, numM m s.rq.length⟩] : List Rs).length) * 104 ≤ 140737488355328) := Lib.hid (by simp only [List.length_singleton]; omega)
  have HBS : Hid (B ≤ ((W.alloc bx).alloc by9).drew.heap.size) := Lib.hid (show B ≤ ((W.alloc bx).alloc by9).heap.size from hH2.base)
  have HFA : Hid (∀ v1 w1, OwL eRs 93 w1 B v1 (s.rq ++ [⟨s.now, numM m s.rq.length⟩]) → ((W.alloc bx).alloc by9).drew.grownBy w1 (Value.slice AR s.rq.length cR).ownBlock → Bw B W w1 ∧ Blk w1 g 39 (s.cells vL (.slice AR s.rq.length cR) vA) ∧ OwL eLe 41 w1 B vL s.ls ∧ OwL eMg 85 w1 B vA s.an ∧ (fun w' => w'.cell? ⟨g, 0, none⟩ = some (.int .i64 s.now) ∧ w'.cell? ⟨g, 7, none⟩ = some (.slice AR s.rq.length cR) ∧ w'.cell? ⟨W.heap.size, 0, none⟩ = some (.int .i64 m.ki) ∧ w'.cell? ⟨W.heap.size, 1, none⟩ = some (.int .i64 m.fr) ∧ w'.cell? ⟨W.heap.size, 2, none⟩ = some (.int .i64 m.to) ∧ w'.cell? ⟨W.heap.size, 3, none⟩ = some (.int .i64 (s.rq.length : Int)) ∧ w'.cell? ⟨W.heap.size, 4, none⟩ = some (.int .i64 m.va) ∧ w'.cell? ⟨W.heap.size, 5, none⟩ = some (.int .i64 m.ep) ∧ w'.cell? ⟨W.heap.size, 6, none⟩ = some (.slice none 0 0) ∧ w'.cell? ⟨W.heap.size, 7, none⟩ = some (.slice none 0 0)) w1) := by
    refine Lib.hid fun v1 w1 hown hg => ?_
    have a1 : ∀ q, (Value.slice AR s.rq.length cR).ownBlock = some q → q ≠ g := OwL.apart hH2.or_ hH2.blk (by decide)
    have a2 := OwL.apart_ hH2.ol hH2.or_ (by decide)
    have a3 := OwL.apart_ hH2.oa hH2.or_ (by decide)
    have a4 : ∀ q, (Value.slice AR s.rq.length cR).ownBlock = some q → q ≠ W.heap.size := OwL.apart hH2.or_ hL2 (by decide)
    have hlt1 : ∀ q, (Value.slice AR s.rq.length cR).ownBlock = some q → B ≤ q := fun q h => (OwL.lt hH2.or_ q h).1
    have k1 : Blk w1 g 39 (s.cells vL (.slice AR s.rq.length cR) vA) := (show Blk ((W.alloc bx).alloc by9).drew _ _ _ from hH2.blk).grown hg (fun h => a1 _ h.symm rfl)
    have k2 : Blk w1 W.heap.size 85 (numM m s.rq.length).cells := (show Blk ((W.alloc bx).alloc by9).drew _ _ _ from hL2).grown hg (fun h => a4 _ h.symm rfl)
    refine ⟨((h.up b2).drew).grown hg HBS.out hlt1 (hH2.or_.typed t93), k1, (show OwL eLe 41 ((W.alloc bx).alloc by9).drew B vL s.ls from hH2.ol).grown hg a2, (show OwL eMg 85 ((W.alloc bx).alloc by9).drew B vA s.an from hH2.oa).grown hg a3, k1.cell 0, k1.cell 7, k2.cell 0, k2.cell 1, k2.cell 2, k2.cell 3, k2.cell 4, k2.cell 5, k2.cell 6, k2.cell 7⟩
  have HLO := Lib.hid h.low
  clear h hrd hc1 hc2 hL1 hL2 hH2 hS1 hS2 b1 b2
  go_enter Try.func37, Try.ntmps37
  unfold Mg.val
  go_wp2
  go_region_law
    ((refine step_append_ (E := eRs) (by rfl) (.tmp 14) (.tmp 21) 34 (by rfl) B 93 i0 _ 104 Try.underlying34 hi hz0 hz1 hz2 (by rfl) (.slice AR s.rq.length cR) s.rq (by rfl) HVA.out (some ⟨W.heap.size + 1, 0, none⟩) 1 [⟨s.now, numM m s.rq.length⟩] (by rfl) HBX.out (by simp) HK1.out HK2.out HBS.out ?_; intro v1 w1 hown hg hat; have hbk := HFA.out v1 w1 hown hg; have hk2 := hbk.2.2.2.2; have hz7 := hbk.2.1.frozen 7; have hq7 := hk2.2.1; obtain ⟨A1, c1, rfl, _, _, _⟩ := OwL.rd hown))
  all_goals go_wp2
  all_goals go_end0
  all_goals exact ⟨rfl, send_end m HLO.out hbk.1 hbk.2.1 hbk.2.2.1 hbk.2.2.2.1 hown⟩
end Go.Proofs.Ytcdifegjlllbfaa

/- What the run's learn and the pick of a message compute; the run's bounds. Plain lemmas; no condition. -/
import Derived.Test.YtcdifegjlllbfaaWtJ
set_option linter.unusedVariables false
set_option linter.unusedSimpArgs false
namespace Go.Proofs.Ytcdifegjlllbfaa
open Go.RowKit
/-- The bounds of a run. -/
structure Ok (s : St) : Prop where
  n0 : 0 ≤ s.now
  n1 : s.now ≤ 900
  t0 : 1 ≤ s.term
  t1 : s.term ≤ 12
  m0 : 0 ≤ s.margin
  m1 : s.margin ≤ 3
  wi : wiB s.w = true
  l3 : s.ls.length = 3
  ls : ∀ i (h : i < s.ls.length), s.ls[i].si = i ∧ leB s.ls[i] = true
  rn : s.rq.length ≤ 900
  an : s.an.length ≤ 900
  rq : ∀ r ∈ s.rq, 0 ≤ r.sent ∧ r.sent ≤ 1000 ∧ 0 ≤ r.m.fr ∧ r.m.fr < 3 ∧ tmB r.m.ep = true ∧ (r.m.ki = 15 ∨ r.m.ki = 17 ∨ r.m.ki = 18)
  ans : ∀ m ∈ s.an, (m.ki = 16 ∧ m.va = s.term ∨ m.ki = 12 ∧ m.va = 0) ∧ tmB m.ep = true ∧ 0 ≤ m.nu ∧ m.nu < s.rq.length ∧ 0 ≤ m.to ∧ m.to < 3
def pk (n : Nat) (which : Int) : Nat := n - 1 - (which % (n : Int)).toNat
theorem pk_lt {n : Nat} (which : Int) (h : 0 < n) : pk n which < n := by unfold pk; omega
theorem pk_eq {n : Nat} (which : Int) (h : 0 < n) : ((pk n which : Nat) : Int) = (n : Int) - 1 - which % (n : Int) := by
  have h1 := Int.emod_nonneg which (show (n : Int) ≠ 0 by omega)
  have h2 := Int.emod_lt_of_pos which (show (0 : Int) < n by omega)
  unfold pk
  omega
theorem rem_bd (x : Int) {n : Nat} (h : 0 < n) : -(n : Int) < x.tmod n ∧ x.tmod n < n := by
  have h1 := Int.emod_nonneg x (show (n : Int) ≠ 0 by omega)
  have h2 := Int.emod_lt_of_pos x (show (0 : Int) < n by omega)
  rw [Int.tmod_eq_emod]
  split <;> simp <;> omega
theorem rem_pos (x : Int) {n : Nat} (h : 0 < n) : (x.tmod n + n).tmod n = x % n := by
  have h0 := rem_bd x h
  have h1 := Int.emod_nonneg x (show (n : Int) ≠ 0 by omega)
  have h2 := Int.emod_lt_of_pos x (show (0 : Int) < n by omega)
  rw [Int.tmod_eq_emod_of_nonneg (by omega), Int.tmod_eq_emod]
  split
  · simp
  · rename_i hn
    have e : ((n : Int).natAbs : Int) = n := by simp
    simp only [Int.sub_add_cancel, e]
    exact Int.emod_emod_of_dvd _ (Int.dvd_refl _)
def mgAt (l : List Mg) (k : Nat) : Mg := l[k]?.getD mg0
def rs0 : Rs := ⟨0, mg0⟩
def rsAt (l : List Rs) (k : Nat) : Rs := l[k]?.getD rs0
theorem mgAt_eq {l : List Mg} {k : Nat} (h : k < l.length) : mgAt l k = l[k] := by unfold mgAt; rw [List.getElem?_eq_getElem h]; rfl
theorem rsAt_eq {l : List Rs} {k : Nat} (h : k < l.length) : rsAt l k = l[k] := by unfold rsAt; rw [List.getElem?_eq_getElem h]; rfl
def lrnM (s : St) (m : Mg) : St := { s with ls := s.ls.set m.to.toNat (learnL (leAt s.ls m.to.toNat) (rsAt s.rq m.nu.toNat).sent s.term s.margin m) }
def lrnS (s : St) (which : Int) : St := if s.an.length = 0 then s else lrnM s (mgAt s.an (pk s.an.length which))
theorem RdL.mg {w : World} {A : Option Addr} {l : List Mg} (h : RdL eMg w A l) {k : Nat} (hk : k < l.length) : ∃ ad, A = some ad ∧ w.cell? (ad.add (k * 8)) = some (.int .i64 l[k].ki) ∧ w.cell? ⟨(ad.add (k * 8)).block, (ad.add (k * 8)).off + 1, none⟩ = some (.int .i64 l[k].fr) ∧ w.cell? ⟨(ad.add (k * 8)).block, (ad.add (k * 8)).off + 2, none⟩ = some (.int .i64 l[k].to) ∧ w.cell? ⟨(ad.add (k * 8)).block, (ad.add (k * 8)).off + 3, none⟩ = some (.int .i64 l[k].nu)
    ∧ w.cell? ⟨(ad.add (k * 8)).block, (ad.add (k * 8)).off + 4, none⟩ = some (.int .i64 l[k].va) ∧ w.cell? ⟨(ad.add (k * 8)).block, (ad.add (k * 8)).off + 5, none⟩ = some (.int .i64 l[k].ep) ∧ w.cell? ⟨(ad.add (k * 8)).block, (ad.add (k * 8)).off + 6, none⟩ = some (.slice none 0 0) ∧ w.cell? ⟨(ad.add (k * 8)).block, (ad.add (k * 8)).off + 7, none⟩ = some (.slice none 0 0) := by
  obtain ⟨ad, e, hc⟩ := RdL.at_ h hk
  replace hc : ∀ j u, [Value.int .i64 l[k].ki, .int .i64 l[k].fr, .int .i64 l[k].to, .int .i64 l[k].nu, .int .i64 l[k].va, .int .i64 l[k].ep, .slice none 0 0, .slice none 0 0][j]? = some u → w.cell? (ad.add (k * 8 + j)) = some u := hc
  refine ⟨ad, e, hc 0 _ rfl, ?_, ?_, ?_, ?_, ?_, ?_, ?_⟩
  all_goals rw [← add_field _ _ _ (by omega)]
  · exact hc 1 _ rfl
  · exact hc 2 _ rfl
  · exact hc 3 _ rfl
  · exact hc 4 _ rfl
  · exact hc 5 _ rfl
  · exact hc 6 _ rfl
  · exact hc 7 _ rfl
theorem RdL.rs {w : World} {A : Option Addr} {l : List Rs} (h : RdL eRs w A l) {k : Nat} (hk : k < l.length) : ∃ ad, A = some ad ∧ w.cell? (ad.add (k * 9)) = some (.int .i64 l[k].sent) ∧ w.cell? ⟨(ad.add (k * 9)).block, (ad.add (k * 9)).off + 1, none⟩ = some (.int .i64 l[k].m.ki) ∧ w.cell? ⟨(ad.add (k * 9)).block, (ad.add (k * 9)).off + 2, none⟩ = some (.int .i64 l[k].m.fr) ∧ w.cell? ⟨(ad.add (k * 9)).block, (ad.add (k * 9)).off + 3, none⟩ = some (.int .i64 l[k].m.to) ∧ w.cell? ⟨(ad.add (k * 9)).block, (ad.add (k * 9)).off + 4, none⟩ = some (.int .i64 l[k].m.nu)
    ∧ w.cell? ⟨(ad.add (k * 9)).block, (ad.add (k * 9)).off + 5, none⟩ = some (.int .i64 l[k].m.va) ∧ w.cell? ⟨(ad.add (k * 9)).block, (ad.add (k * 9)).off + 6, none⟩ = some (.int .i64 l[k].m.ep) ∧ w.cell? ⟨(ad.add (k * 9)).block, (ad.add (k * 9)).off + 7, none⟩ = some (.slice none 0 0) ∧ w.cell? ⟨(ad.add (k * 9)).block, (ad.add (k * 9)).off + 8, none⟩ = some (.slice none 0 0) := by
  obtain ⟨ad, e, hc⟩ := RdL.at_ h hk
  replace hc : ∀ j u, [Value.int .i64 l[k].sent, .int .i64 l[k].m.ki, .int .i64 l[k].m.fr, .int .i64 l[k].m.to, .int .i64 l[k].m.nu, .int .i64 l[k].m.va, .int .i64 l[k].m.ep, .slice none 0 0, .slice none 0 0][j]? = some u → w.cell? (ad.add (k * 9 + j)) = some u := hc
  refine ⟨ad, e, hc 0 _ rfl, ?_, ?_, ?_, ?_, ?_, ?_, ?_, ?_⟩
  all_goals rw [← add_field _ _ _ (by omega)]
  · exact hc 1 _ rfl
  · exact hc 2 _ rfl
  · exact hc 3 _ rfl
  · exact hc 4 _ rfl
  · exact hc 5 _ rfl
  · exact hc 6 _ rfl
  · exact hc 7 _ rfl
  · exact hc 8 _ rfl
/-- A lease is stored. -/
theorem Lie.lease {B g gL n c : Nat} {W : World} {s : St} {vR vA : Value} (h : Lie B W g s (.slice (some ⟨gL, 0, none⟩) n c) vR vA) {k : Nat} (hk : k < s.ls.length) (y : Le) :
    Lie B (((W.setCell ⟨gL, k * 3, none⟩ (.int .i64 y.si)).setCell ⟨gL, k * 3 + 1, none⟩ (.int .i64 y.ep)).setCell ⟨gL, k * 3 + 2, none⟩ (.int .i64 y.un)) g { s with ls := s.ls.set k y } (.slice (some ⟨gL, 0, none⟩) n c) vR vA := by
  have a1 : g ≠ gL := fun e => OwL.apart h.ol h.blk (by decide) gL rfl e.symm
  have a2 : ∀ k, vR.ownBlock = some k → k ≠ gL := fun k hk e => OwL.apart_ h.or_ h.ol (by decide) k hk (by rw [e]; rfl)
  have a3 : ∀ k, vA.ownBlock = some k → k ≠ gL := fun k hk e => OwL.apart_ h.oa h.ol (by decide) k hk (by rw [e]; rfl)
  have o1 := OwL.stored (E := eLe) h.ol (k := k) (j := 0) hk (by decide) (x := ⟨y.si, s.ls[k].ep, s.ls[k].un⟩) (u := .int .i64 y.si) rfl
  have o2 := OwL.stored (E := eLe) o1 (k := k) (j := 1) (by simpa using hk) (by decide) (x := ⟨y.si, y.ep, s.ls[k].un⟩) (u := .int .i64 y.ep) (by simp [eLe])
  have o3 := OwL.stored (E := eLe) o2 (k := k) (j := 2) (by simpa using hk) (by decide) (x := y) (u := .int .i64 y.un) (by simp [eLe])
  rw [List.set_set, List.set_set] at o3
  exact ⟨((h.blk.far (p := ⟨gL, k * 3, none⟩) a1 _).far (p := ⟨gL, k * 3 + 1, none⟩) a1 _).far (p := ⟨gL, k * 3 + 2, none⟩) a1 _, h.low, o3,
    ((h.or_.far (p := ⟨gL, k * 3, none⟩) a2 _).far (p := ⟨gL, k * 3 + 1, none⟩) a2 _).far (p := ⟨gL, k * 3 + 2, none⟩) a2 _,
    ((h.oa.far (p := ⟨gL, k * 3, none⟩) a3 _).far (p := ⟨gL, k * 3 + 1, none⟩) a3 _).far (p := ⟨gL, k * 3 + 2, none⟩) a3 _⟩
end Go.Proofs.Ytcdifegjlllbfaa

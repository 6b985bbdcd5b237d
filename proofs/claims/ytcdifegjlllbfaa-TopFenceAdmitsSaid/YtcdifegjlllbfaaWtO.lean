/- What a step of the run computes. Plain lemmas; no condition. -/
import Derived.Test.YtcdifegjlllbfaaWtM
import Derived.Test.YtcdifegjlllbfaaWtL
set_option linter.unusedVariables false
set_option linter.unusedSimpArgs false
namespace Go.Proofs.Ytcdifegjlllbfaa
open Go.RowKit
/-- A step. -/
structure Sp3 where
  ki : Int
  si : Int
  wh : Int
def Sp3.val (x : Sp3) : Value := .agg #[.int .i64 x.ki, .int .i64 x.si, .int .i64 x.wh]
def Sp3.i (x : Sp3) : Nat := (x.si % 3).toNat
theorem Sp3.i_lt (x : Sp3) : x.i < 3 := by unfold Sp3.i; omega
theorem Sp3.i_eq (x : Sp3) : ((x.i : Nat) : Int) = x.si % 3 := by unfold Sp3.i; omega
theorem rem3 (x : Int) : -3 < x.tmod 3 ∧ x.tmod 3 < 3 ∧ (x.tmod 3 + 3).tmod 3 = x % 3 := by
  have h1 := rem_bd x (n := 3) (by omega)
  have h2 := rem_pos x (n := 3) (by omega)
  exact ⟨h1.1, h1.2, h2⟩
theorem rem7 (x : Int) : -7 < x.tmod 7 ∧ x.tmod 7 < 7 ∧ (x.tmod 7 + 7).tmod 7 = x % 7 := by
  have h1 := rem_bd x (n := 7) (by omega)
  have h2 := rem_pos x (n := 7) (by omega)
  exact ⟨h1.1, h1.2, h2⟩
def rqOf (s : St) (m : Mg) : Rq := ⟨s.w, s.now, s.term, m⟩
def askS (s : St) (x : Sp3) : St :=
  if askE (leAt s.ls x.i) (max 1 (leAt s.ls x.i).ep + x.wh % 3) = 0 then sendS s (askM (leAt s.ls x.i) (max 1 (leAt s.ls x.i).ep + x.wh % 3)) else s
def renS (s : St) (x : Sp3) : St := if renE (leAt s.ls x.i) = 0 then sendS s (renM (leAt s.ls x.i)) else s
def givS (s : St) (x : Sp3) : St := sendS { s with ls := s.ls.set x.i (givL (leAt s.ls x.i)) } (givM (leAt s.ls x.i))
def hanM (s : St) (m : Mg) : St := { s with w := (handR (rqOf s m)).w, an := s.an ++ handA (rqOf s m) }
def hanS (s : St) (x : Sp3) : St := if s.rq.length = 0 then s else hanM s (rsAt s.rq (pk s.rq.length x.wh)).m
def timS (s : St) (x : Sp3) : St := { s with now := s.now + x.wh % 7 }
def stepS (s : St) (x : Sp3) : St :=
  if x.ki = 0 then askS s x else if x.ki = 1 then renS s x else if x.ki = 2 then givS s x else if x.ki = 3 then hanS s x else if x.ki = 4 then lrnS s x.wh else if x.ki = 5 then wriS s x.i else timS s x
def stepB (s : St) (x : Sp3) : Bool := if x.ki = 5 then wriB s x.i else true
end Go.Proofs.Ytcdifegjlllbfaa

/- The walks through first, in, site, order and their closures. Conditions: the rules lie in memory as a list, and each closure answers as its rule says. -/
import Derived.Test.YtcdifegjlllbfaaFen
import Derived.LoopTactic
import Derived.Deep.QuietTactic
import Derived.BigQuiet
import Derived.Outline
import Derived.Laws.EntriesVeiled
set_option linter.unusedVariables false
set_option linter.unusedSimpArgs false
namespace Go.Proofs.Ytcdifegjlllbfaa
open Go.RowKit

/-- Each closure answers as its rule says, in every world above. -/
def Answers (w : World) (l : List Rl) : Prop := ∀ i (hi : i < l.length), (∀ args W, (callFunc l[i].f args).run Try.prog W = .ok (.enter l[i].f args) W) ∧ ∀ W : World, Below w.heap.size w W → Calls Try.prog l[i].f l[i].lb W fun e W' => e = .returned (.bool l[i].b) ∧ Below W.heap.size W W'

set_option maxHeartbeats 1000000 in
theorem first_any (A : Option Addr) (c : Nat) (l : List Rl) (w : World) (hr : RdR w A l) (h : Answers w l) :
    Calls Try.prog 44 #[.slice A l.length c] w fun e w' => e = .returned (.int .i64 (firstE l)) ∧ Below w.heap.size w w' := by
  have hlen := hr.1
  have HR := Lib.hid hr
  have HA := Lib.hid h
  clear hr h
  go_enter Try.func44, Try.ntmps44
  go_wp2
  go_loopw [7] (fun i wr => ∃ k : Nat, k ≤ l.length ∧ i = .int .i64 k ∧ Hid (firstE l = firstE (l.drop k)) ∧ Hid (Below w.heap.size w wr)) (fun i _ => l.length - (intOf i).toNat)
  case atStart => exact ⟨0, Nat.zero_le _, rfl, Lib.hid (by simp), Lib.hid (Below.refl _ _)⟩
  case round =>
    obtain ⟨k, hk, rfl, HE, HB⟩ := hrel
    by_cases hlt : k < l.length
    · obtain ⟨ad, rfl, c0, c1⟩ := RdR.at_ (RdL.below HR.out HB.out) hlt
      have hs := firstE_drop hlt
      obtain ⟨hcf, hcall⟩ := HA.out k hlt
      obtain ⟨r, hre⟩ : ∃ r, r = l[k] := ⟨_, rfl⟩
      rw [← hre] at c0 c1 hs hcall hcf
      have HC := Lib.hid hcall
      have HS := Lib.hid hs
      clear hcall hs hre
      go_wp2_with fail
      refine (HC.out _ ((HB.out.alloc HB.out.size _))).mono ?_
      rintro e w2 ⟨rfl, hb⟩
      have HX := Lib.hid ((Blk.new wr 101 #[.func (.func r.f) #[] r.lb, .int .i64 r.e]).below hb (by simp))
      have x1 : w2.cell? ⟨wr.heap.size, 1, none⟩ = some (.int .i64 r.e) := HX.out.cell 1
      have HB2 := Lib.hid ((HB.out.alloc HB.out.size (.cells #[.func (.func r.f) #[] r.lb, .int .i64 r.e] 101)).trans (hb.mono (HB.out.alloc HB.out.size (.cells #[.func (.func r.f) #[] r.lb, .int .i64 r.e] 101)).size))
      clear hb HC HB HX c0 c1
      obtain ⟨b, hbb⟩ : ∃ b, b = r.b := ⟨_, rfl⟩
      have HBB := Lib.hid hbb
      rw [← hbb]
      clear hbb hcf
      cases b
      · go_wp2
        go_ret
        exact ⟨ret_i (by rw [HE.out, HS.out, ← HBB.out]; rfl), HB2.out⟩
      · go_wp2
        go_roundw
        case rel => exact ⟨k + 1, by omega, by go_num, Lib.hid (by rw [HE.out, HS.out, ← HBB.out]; rfl), HB2⟩
        case measure => simp [intOf]; omega
    · have hz : l.drop k = [] := List.drop_eq_nil_of_le (by omega)
      have HE2 : Hid (firstE l = 0) := Lib.hid (by rw [HE.out, hz]; rfl)
      clear hz
      go_wp2
      go_ret
      exact ⟨ret_i HE2.out.symm, HB.out⟩
end Go.Proofs.Ytcdifegjlllbfaa

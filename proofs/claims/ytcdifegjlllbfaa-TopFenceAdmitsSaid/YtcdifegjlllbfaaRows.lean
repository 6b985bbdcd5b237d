/-
  No cell of these rows narrows 'for every input' (looked for: loops, veiled, ifaces, maps, wideKeys, modest, calm, conditions, laid).
  DERIVED. THE GIVEN ROWS OF THIS SEAT. 9 by the template 'for every input the law returns true; each argument reads behind the call as it read before'; 0 by the template 'total and deterministic' (their statements: YtcdifegjlllbfaaTotals.lean).
  GIVEN WITH THE SEED: the statements are not yours to turn. If you find one false, say at which input.
  Laid BY PROGRAM, IN A SANDBOX (cutbox-rows.mjs): the forced cells as the released guide's own fill.sh prints them over the translation 4d91e3a7de130c53… (all of the seat's roots in one cut). By AI agents, Wed Nov 11 2026. No macro, syntax, notation, axiom, sorry.
-/
import Derived.Test.YtcdifegjlllbfaaChecked
import GoSem.Claim
import GoSem.ClaimJoined
import GoSem.ClaimMapViews
import Derived.JoinedTies
import Derived.KernelRfl
namespace Go.Proofs.Ytcdifegjlllbfaa
/- THE CELL 'sum', in the pinned program and in every row, IS THE sha256 OF THE DUMP (.gsa) THAT YtcdifegjlllbfaaProg.lean LOADS. Nothing in Lean hashes anything: it is a label: what it is worth is what the hold of that sum in a sandbox is worth. -/
noncomputable def Try.pinned : Pinned := { name := "ytcdifegjlllbfaa", sum := "4d91e3a7de130c53db5eb74c2eb3e36fd593caee2669a88fb418cb2e5cc12699", checked := Try.checked }
namespace Rows
def none {H : Type} : Left H := { results := [], args := [] }

/-- 'standbytop.TopLeaseAlone': WHATEVER THE INPUT: true; the input reads as it did. -/
def topLeaseAloneSpec : ChangeSpec := { name := "topLeaseAlone", fn := fun _ => fun
  | [d1, d2, d3] => { results := [.lit (.bool true)], args := [d1, d2, d3] }
  | _ => none }
def topLeaseAloneRow : OpenClaim := { program := "ytcdifegjlllbfaa", sum := "4d91e3a7de130c53db5eb74c2eb3e36fd593caee2669a88fb418cb2e5cc12699", func := "standby/standbytop.TopLeaseAlone", spec := "topLeaseAlone", unfollowed := true, recurses := true, apart := false }
def TopLeaseAloneSaid : Prop := topLeaseAloneRow.holds Try.pinned (OpenSpec.ofChange topLeaseAloneSpec)

/-- ITS FALSE NEIGHBOUR: 'it returns false'. Refute it at one input. -/
def topLeaseAloneWrong : ChangeSpec := { name := "topLeaseAlone", fn := fun _ => fun
  | [d1, d2, d3] => { results := [.lit (.bool false)], args := [d1, d2, d3] }
  | _ => none }
def TopLeaseAloneWrongFalsely : Prop := topLeaseAloneRow.holds Try.pinned (OpenSpec.ofChange topLeaseAloneWrong)

/-- 'standbytop.TopFenceAdmits': WHATEVER THE INPUT: true; the input reads as it did. -/
def topFenceAdmitsSpec : ChangeSpec := { name := "topFenceAdmits", fn := fun _ => fun
  | [d1, d2, d3] => { results := [.lit (.bool true)], args := [d1, d2, d3] }
  | _ => none }
def topFenceAdmitsRow : OpenClaim := { program := "ytcdifegjlllbfaa", sum := "4d91e3a7de130c53db5eb74c2eb3e36fd593caee2669a88fb418cb2e5cc12699", func := "standby/standbytop.TopFenceAdmits", spec := "topFenceAdmits", unfollowed := true, recurses := true, apart := false }
def TopFenceAdmitsSaid : Prop := topFenceAdmitsRow.holds Try.pinned (OpenSpec.ofChange topFenceAdmitsSpec)

/-- ITS FALSE NEIGHBOUR: 'it returns false'. Refute it at one input. -/
def topFenceAdmitsWrong : ChangeSpec := { name := "topFenceAdmits", fn := fun _ => fun
  | [d1, d2, d3] => { results := [.lit (.bool false)], args := [d1, d2, d3] }
  | _ => none }
def TopFenceAdmitsWrongFalsely : Prop := topFenceAdmitsRow.holds Try.pinned (OpenSpec.ofChange topFenceAdmitsWrong)

/-- 'standbylaw49.EpochAdmits': WHATEVER THE INPUT: true; the input reads as it did. -/
def epochAdmitsSpec : ChangeSpec := { name := "epochAdmits", fn := fun _ => fun
  | [d1, d2, d3] => { results := [.lit (.bool true)], args := [d1, d2, d3] }
  | _ => none }
def epochAdmitsRow : OpenClaim := { program := "ytcdifegjlllbfaa", sum := "4d91e3a7de130c53db5eb74c2eb3e36fd593caee2669a88fb418cb2e5cc12699", func := "standby/standbylaw49.EpochAdmits", spec := "epochAdmits", unfollowed := true, recurses := true, apart := false }
def EpochAdmitsSaid : Prop := epochAdmitsRow.holds Try.pinned (OpenSpec.ofChange epochAdmitsSpec)

/-- ITS FALSE NEIGHBOUR: 'it returns false'. Refute it at one input. -/
def epochAdmitsWrong : ChangeSpec := { name := "epochAdmits", fn := fun _ => fun
  | [d1, d2, d3] => { results := [.lit (.bool false)], args := [d1, d2, d3] }
  | _ => none }
def EpochAdmitsWrongFalsely : Prop := epochAdmitsRow.holds Try.pinned (OpenSpec.ofChange epochAdmitsWrong)

/-- 'standbylaw49.EpochRaises': WHATEVER THE INPUT: true; the input reads as it did. -/
def epochRaisesSpec : ChangeSpec := { name := "epochRaises", fn := fun _ => fun
  | [d1, d2, d3] => { results := [.lit (.bool true)], args := [d1, d2, d3] }
  | _ => none }
def epochRaisesRow : OpenClaim := { program := "ytcdifegjlllbfaa", sum := "4d91e3a7de130c53db5eb74c2eb3e36fd593caee2669a88fb418cb2e5cc12699", func := "standby/standbylaw49.EpochRaises", spec := "epochRaises", unfollowed := true, recurses := true, apart := false }
def EpochRaisesSaid : Prop := epochRaisesRow.holds Try.pinned (OpenSpec.ofChange epochRaisesSpec)

/-- ITS FALSE NEIGHBOUR: 'it returns false'. Refute it at one input. -/
def epochRaisesWrong : ChangeSpec := { name := "epochRaises", fn := fun _ => fun
  | [d1, d2, d3] => { results := [.lit (.bool false)], args := [d1, d2, d3] }
  | _ => none }
def EpochRaisesWrongFalsely : Prop := epochRaisesRow.holds Try.pinned (OpenSpec.ofChange epochRaisesWrong)

/-- 'standbylaw49.EpochChecks': WHATEVER THE INPUT: true; the input reads as it did. -/
def epochChecksSpec : ChangeSpec := { name := "epochChecks", fn := fun _ => fun
  | [d1, d2] => { results := [.lit (.bool true)], args := [d1, d2] }
  | _ => none }
def epochChecksRow : OpenClaim := { program := "ytcdifegjlllbfaa", sum := "4d91e3a7de130c53db5eb74c2eb3e36fd593caee2669a88fb418cb2e5cc12699", func := "standby/standbylaw49.EpochChecks", spec := "epochChecks", unfollowed := true, recurses := true, apart := false }
def EpochChecksSaid : Prop := epochChecksRow.holds Try.pinned (OpenSpec.ofChange epochChecksSpec)

/-- ITS FALSE NEIGHBOUR: 'it returns false'. Refute it at one input. -/
def epochChecksWrong : ChangeSpec := { name := "epochChecks", fn := fun _ => fun
  | [d1, d2] => { results := [.lit (.bool false)], args := [d1, d2] }
  | _ => none }
def EpochChecksWrongFalsely : Prop := epochChecksRow.holds Try.pinned (OpenSpec.ofChange epochChecksWrong)

/-- 'standbylaw49.EpochExtends': WHATEVER THE INPUT: true; the input reads as it did. -/
def epochExtendsSpec : ChangeSpec := { name := "epochExtends", fn := fun _ => fun
  | [d1, d2, d3] => { results := [.lit (.bool true)], args := [d1, d2, d3] }
  | _ => none }
def epochExtendsRow : OpenClaim := { program := "ytcdifegjlllbfaa", sum := "4d91e3a7de130c53db5eb74c2eb3e36fd593caee2669a88fb418cb2e5cc12699", func := "standby/standbylaw49.EpochExtends", spec := "epochExtends", unfollowed := true, recurses := true, apart := false }
def EpochExtendsSaid : Prop := epochExtendsRow.holds Try.pinned (OpenSpec.ofChange epochExtendsSpec)

/-- ITS FALSE NEIGHBOUR: 'it returns false'. Refute it at one input. -/
def epochExtendsWrong : ChangeSpec := { name := "epochExtends", fn := fun _ => fun
  | [d1, d2, d3] => { results := [.lit (.bool false)], args := [d1, d2, d3] }
  | _ => none }
def EpochExtendsWrongFalsely : Prop := epochExtendsRow.holds Try.pinned (OpenSpec.ofChange epochExtendsWrong)

/-- 'standbylaw49.EpochGuards': WHATEVER THE INPUT: true; the input reads as it did. -/
def epochGuardsSpec : ChangeSpec := { name := "epochGuards", fn := fun _ => fun
  | [d] => { results := [.lit (.bool true)], args := [d] }
  | _ => none }
def epochGuardsRow : OpenClaim := { program := "ytcdifegjlllbfaa", sum := "4d91e3a7de130c53db5eb74c2eb3e36fd593caee2669a88fb418cb2e5cc12699", func := "standby/standbylaw49.EpochGuards", spec := "epochGuards", unfollowed := true, recurses := true, apart := false }
def EpochGuardsSaid : Prop := epochGuardsRow.holds Try.pinned (OpenSpec.ofChange epochGuardsSpec)

/-- ITS FALSE NEIGHBOUR: 'it returns false'. Refute it at one input. -/
def epochGuardsWrong : ChangeSpec := { name := "epochGuards", fn := fun _ => fun
  | [d] => { results := [.lit (.bool false)], args := [d] }
  | _ => none }
def EpochGuardsWrongFalsely : Prop := epochGuardsRow.holds Try.pinned (OpenSpec.ofChange epochGuardsWrong)

/-- 'standbylaw49.EpochRemembers': WHATEVER THE INPUT: true; the input reads as it did. -/
def epochRemembersSpec : ChangeSpec := { name := "epochRemembers", fn := fun _ => fun
  | [d] => { results := [.lit (.bool true)], args := [d] }
  | _ => none }
def epochRemembersRow : OpenClaim := { program := "ytcdifegjlllbfaa", sum := "4d91e3a7de130c53db5eb74c2eb3e36fd593caee2669a88fb418cb2e5cc12699", func := "standby/standbylaw49.EpochRemembers", spec := "epochRemembers", unfollowed := true, recurses := true, apart := false }
def EpochRemembersSaid : Prop := epochRemembersRow.holds Try.pinned (OpenSpec.ofChange epochRemembersSpec)

/-- ITS FALSE NEIGHBOUR: 'it returns false'. Refute it at one input. -/
def epochRemembersWrong : ChangeSpec := { name := "epochRemembers", fn := fun _ => fun
  | [d] => { results := [.lit (.bool false)], args := [d] }
  | _ => none }
def EpochRemembersWrongFalsely : Prop := epochRemembersRow.holds Try.pinned (OpenSpec.ofChange epochRemembersWrong)

/-- 'standbylaw49.EpochForks': WHATEVER THE INPUT: true; the input reads as it did. -/
def epochForksSpec : ChangeSpec := { name := "epochForks", fn := fun _ => fun
  | [d1, d2, d3] => { results := [.lit (.bool true)], args := [d1, d2, d3] }
  | _ => none }
def epochForksRow : OpenClaim := { program := "ytcdifegjlllbfaa", sum := "4d91e3a7de130c53db5eb74c2eb3e36fd593caee2669a88fb418cb2e5cc12699", func := "standby/standbylaw49.EpochForks", spec := "epochForks", unfollowed := true, recurses := true, apart := false }
def EpochForksSaid : Prop := epochForksRow.holds Try.pinned (OpenSpec.ofChange epochForksSpec)

/-- ITS FALSE NEIGHBOUR: 'it returns false'. Refute it at one input. -/
def epochForksWrong : ChangeSpec := { name := "epochForks", fn := fun _ => fun
  | [d1, d2, d3] => { results := [.lit (.bool false)], args := [d1, d2, d3] }
  | _ => none }
def EpochForksWrongFalsely : Prop := epochForksRow.holds Try.pinned (OpenSpec.ofChange epochForksWrong)

/- THE SECOND FORM. 'bulk': how many values and letters a reading holds, each counted each time it is reached (what is shared counts as often as it is met; a slice's spare places count too). A statement '..UptoSaid' is the law's where the arguments, and the package variables that the reading takes, are together of bulk at most 1048576: NARROWER than '..Said'. Prove '..Said' where nothing that the law and all that it calls make is longer than what came in: it says more and counts as full. Else prove '..UptoSaid'. A law counts once. -/
mutual
def uptoBulk {H : Type} : DataW H → Nat
  | .lit (.string bytes) => bytes.length + 1
  | .lit _ => 1
  | .nil => 1
  | .ptr d => uptoBulk d + 1
  | .slice elems spare => uptoBulkAll elems + uptoBulkAll spare + 1
  | .agg parts => uptoBulkAll parts + 1
  | .iface _ d => uptoBulk d + 1
  | .map entries => uptoBulkEntries entries + 1
  | .held _ => 1
def uptoBulkAll {H : Type} : List (DataW H) → Nat
  | [] => 0
  | d :: r => uptoBulk d + uptoBulkAll r
def uptoBulkEntries {H : Type} : List (Lit × DataW H) → Nat
  | [] => 0
  | x :: r => uptoBulkEntry x + uptoBulkEntries r
def uptoBulkEntry {H : Type} : Lit × DataW H → Nat
  | (.string bytes, d) => bytes.length + uptoBulk d + 1
  | (_, d) => uptoBulk d + 1
 end
def uptoSmall : (H : Type) → List (DataW H) → Bool := fun _ ds => decide (uptoBulkAll ds ≤ 1048576)
def OpenSpec.upto (s : _root_.Go.ChangeSpec) : _root_.Go.OpenSpec := { _root_.Go.OpenSpec.ofChange s with cond := some uptoSmall }

/-- 'standbytop.TopLeaseAlone', WHERE WHAT IT READS IS OF BULK AT MOST 1048576: true; the input reads as it did. -/
def topLeaseAloneUptoRow : OpenClaim := { program := "ytcdifegjlllbfaa", sum := "4d91e3a7de130c53db5eb74c2eb3e36fd593caee2669a88fb418cb2e5cc12699", func := "standby/standbytop.TopLeaseAlone", spec := "topLeaseAlone", unfollowed := true, recurses := true, apart := false, narrowed := true }
def TopLeaseAloneUptoSaid : Prop := topLeaseAloneUptoRow.holds Try.pinned (OpenSpec.upto topLeaseAloneSpec)

/-- 'standbytop.TopFenceAdmits', WHERE WHAT IT READS IS OF BULK AT MOST 1048576: true; the input reads as it did. -/
def topFenceAdmitsUptoRow : OpenClaim := { program := "ytcdifegjlllbfaa", sum := "4d91e3a7de130c53db5eb74c2eb3e36fd593caee2669a88fb418cb2e5cc12699", func := "standby/standbytop.TopFenceAdmits", spec := "topFenceAdmits", unfollowed := true, recurses := true, apart := false, narrowed := true }
def TopFenceAdmitsUptoSaid : Prop := topFenceAdmitsUptoRow.holds Try.pinned (OpenSpec.upto topFenceAdmitsSpec)

/-- 'standbylaw49.EpochAdmits', WHERE WHAT IT READS IS OF BULK AT MOST 1048576: true; the input reads as it did. -/
def epochAdmitsUptoRow : OpenClaim := { program := "ytcdifegjlllbfaa", sum := "4d91e3a7de130c53db5eb74c2eb3e36fd593caee2669a88fb418cb2e5cc12699", func := "standby/standbylaw49.EpochAdmits", spec := "epochAdmits", unfollowed := true, recurses := true, apart := false, narrowed := true }
def EpochAdmitsUptoSaid : Prop := epochAdmitsUptoRow.holds Try.pinned (OpenSpec.upto epochAdmitsSpec)

/-- 'standbylaw49.EpochRaises', WHERE WHAT IT READS IS OF BULK AT MOST 1048576: true; the input reads as it did. -/
def epochRaisesUptoRow : OpenClaim := { program := "ytcdifegjlllbfaa", sum := "4d91e3a7de130c53db5eb74c2eb3e36fd593caee2669a88fb418cb2e5cc12699", func := "standby/standbylaw49.EpochRaises", spec := "epochRaises", unfollowed := true, recurses := true, apart := false, narrowed := true }
def EpochRaisesUptoSaid : Prop := epochRaisesUptoRow.holds Try.pinned (OpenSpec.upto epochRaisesSpec)

/-- 'standbylaw49.EpochChecks', WHERE WHAT IT READS IS OF BULK AT MOST 1048576: true; the input reads as it did. -/
def epochChecksUptoRow : OpenClaim := { program := "ytcdifegjlllbfaa", sum := "4d91e3a7de130c53db5eb74c2eb3e36fd593caee2669a88fb418cb2e5cc12699", func := "standby/standbylaw49.EpochChecks", spec := "epochChecks", unfollowed := true, recurses := true, apart := false, narrowed := true }
def EpochChecksUptoSaid : Prop := epochChecksUptoRow.holds Try.pinned (OpenSpec.upto epochChecksSpec)

/-- 'standbylaw49.EpochExtends', WHERE WHAT IT READS IS OF BULK AT MOST 1048576: true; the input reads as it did. -/
def epochExtendsUptoRow : OpenClaim := { program := "ytcdifegjlllbfaa", sum := "4d91e3a7de130c53db5eb74c2eb3e36fd593caee2669a88fb418cb2e5cc12699", func := "standby/standbylaw49.EpochExtends", spec := "epochExtends", unfollowed := true, recurses := true, apart := false, narrowed := true }
def EpochExtendsUptoSaid : Prop := epochExtendsUptoRow.holds Try.pinned (OpenSpec.upto epochExtendsSpec)

/-- 'standbylaw49.EpochGuards', WHERE WHAT IT READS IS OF BULK AT MOST 1048576: true; the input reads as it did. -/
def epochGuardsUptoRow : OpenClaim := { program := "ytcdifegjlllbfaa", sum := "4d91e3a7de130c53db5eb74c2eb3e36fd593caee2669a88fb418cb2e5cc12699", func := "standby/standbylaw49.EpochGuards", spec := "epochGuards", unfollowed := true, recurses := true, apart := false, narrowed := true }
def EpochGuardsUptoSaid : Prop := epochGuardsUptoRow.holds Try.pinned (OpenSpec.upto epochGuardsSpec)

/-- 'standbylaw49.EpochRemembers', WHERE WHAT IT READS IS OF BULK AT MOST 1048576: true; the input reads as it did. -/
def epochRemembersUptoRow : OpenClaim := { program := "ytcdifegjlllbfaa", sum := "4d91e3a7de130c53db5eb74c2eb3e36fd593caee2669a88fb418cb2e5cc12699", func := "standby/standbylaw49.EpochRemembers", spec := "epochRemembers", unfollowed := true, recurses := true, apart := false, narrowed := true }
def EpochRemembersUptoSaid : Prop := epochRemembersUptoRow.holds Try.pinned (OpenSpec.upto epochRemembersSpec)

/-- 'standbylaw49.EpochForks', WHERE WHAT IT READS IS OF BULK AT MOST 1048576: true; the input reads as it did. -/
def epochForksUptoRow : OpenClaim := { program := "ytcdifegjlllbfaa", sum := "4d91e3a7de130c53db5eb74c2eb3e36fd593caee2669a88fb418cb2e5cc12699", func := "standby/standbylaw49.EpochForks", spec := "epochForks", unfollowed := true, recurses := true, apart := false, narrowed := true }
def EpochForksUptoSaid : Prop := epochForksUptoRow.holds Try.pinned (OpenSpec.upto epochForksSpec)

end Rows
end Go.Proofs.Ytcdifegjlllbfaa

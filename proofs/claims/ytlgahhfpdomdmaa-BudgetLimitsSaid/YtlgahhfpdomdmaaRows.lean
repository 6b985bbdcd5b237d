/-
  No cell of these rows narrows 'for every input' (looked for: loops, veiled, ifaces, maps, wideKeys, modest, calm, conditions, laid).
  DERIVED. THE GIVEN ROWS OF THIS SEAT. 8 by the template 'for every input the law returns true; each argument reads behind the call as it read before'; 0 by the template 'total and deterministic' (their statements: YtlgahhfpdomdmaaTotals.lean).
  GIVEN WITH THE SEED: the statements are not yours to turn. If you find one false, say at which input.
  Laid BY PROGRAM, IN A SANDBOX (cutbox-rows.mjs): the forced cells as the released guide's own fill.sh prints them over the translation 7f6c8c869dcb61a3… (all of the seat's roots in one cut). By AI agents, Wed Nov 11 2026. No macro, syntax, notation, axiom, sorry.
-/
import Derived.Test.YtlgahhfpdomdmaaChecked
import GoSem.Claim
import GoSem.ClaimJoined
import GoSem.ClaimMapViews
import Derived.JoinedTies
import Derived.KernelRfl
namespace Go.Proofs.Ytlgahhfpdomdmaa
/- THE CELL 'sum', in the pinned program and in every row, IS THE sha256 OF THE DUMP (.gsa) THAT YtlgahhfpdomdmaaProg.lean LOADS. Nothing in Lean hashes anything: it is a label: what it is worth is what the hold of that sum in a sandbox is worth. -/
noncomputable def Try.pinned : Pinned := { name := "ytlgahhfpdomdmaa", sum := "7f6c8c869dcb61a3cdaef28342519c37135e1a0cca8ec49297cf879c4991fe1e", checked := Try.checked }
namespace Rows
def none {H : Type} : Left H := { results := [], args := [] }

/-- 'standbylaw30.BudgetChecks': WHATEVER THE INPUT: true; the input reads as it did. -/
def budgetChecksSpec : ChangeSpec := { name := "budgetChecks", fn := fun _ => fun
  | [d] => { results := [.lit (.bool true)], args := [d] }
  | _ => none }
def budgetChecksRow : OpenClaim := { program := "ytlgahhfpdomdmaa", sum := "7f6c8c869dcb61a3cdaef28342519c37135e1a0cca8ec49297cf879c4991fe1e", func := "standby/standbylaw30.BudgetChecks", spec := "budgetChecks", unfollowed := true, recurses := true, apart := false }
def BudgetChecksSaid : Prop := budgetChecksRow.holds Try.pinned (OpenSpec.ofChange budgetChecksSpec)

/-- ITS FALSE NEIGHBOUR: 'it returns false'. Refute it at one input. -/
def budgetChecksWrong : ChangeSpec := { name := "budgetChecks", fn := fun _ => fun
  | [d] => { results := [.lit (.bool false)], args := [d] }
  | _ => none }
def BudgetChecksWrongFalsely : Prop := budgetChecksRow.holds Try.pinned (OpenSpec.ofChange budgetChecksWrong)

/-- 'standbylaw30.BudgetAdvances': WHATEVER THE INPUT: true; the input reads as it did. -/
def budgetAdvancesSpec : ChangeSpec := { name := "budgetAdvances", fn := fun _ => fun
  | [d1, d2] => { results := [.lit (.bool true)], args := [d1, d2] }
  | _ => none }
def budgetAdvancesRow : OpenClaim := { program := "ytlgahhfpdomdmaa", sum := "7f6c8c869dcb61a3cdaef28342519c37135e1a0cca8ec49297cf879c4991fe1e", func := "standby/standbylaw30.BudgetAdvances", spec := "budgetAdvances", unfollowed := true, recurses := true, apart := false }
def BudgetAdvancesSaid : Prop := budgetAdvancesRow.holds Try.pinned (OpenSpec.ofChange budgetAdvancesSpec)

/-- ITS FALSE NEIGHBOUR: 'it returns false'. Refute it at one input. -/
def budgetAdvancesWrong : ChangeSpec := { name := "budgetAdvances", fn := fun _ => fun
  | [d1, d2] => { results := [.lit (.bool false)], args := [d1, d2] }
  | _ => none }
def BudgetAdvancesWrongFalsely : Prop := budgetAdvancesRow.holds Try.pinned (OpenSpec.ofChange budgetAdvancesWrong)

/-- 'standbylaw30.BudgetTakes': WHATEVER THE INPUT: true; the input reads as it did. -/
def budgetTakesSpec : ChangeSpec := { name := "budgetTakes", fn := fun _ => fun
  | [d1, d2, d3] => { results := [.lit (.bool true)], args := [d1, d2, d3] }
  | _ => none }
def budgetTakesRow : OpenClaim := { program := "ytlgahhfpdomdmaa", sum := "7f6c8c869dcb61a3cdaef28342519c37135e1a0cca8ec49297cf879c4991fe1e", func := "standby/standbylaw30.BudgetTakes", spec := "budgetTakes", unfollowed := true, recurses := true, apart := false }
def BudgetTakesSaid : Prop := budgetTakesRow.holds Try.pinned (OpenSpec.ofChange budgetTakesSpec)

/-- ITS FALSE NEIGHBOUR: 'it returns false'. Refute it at one input. -/
def budgetTakesWrong : ChangeSpec := { name := "budgetTakes", fn := fun _ => fun
  | [d1, d2, d3] => { results := [.lit (.bool false)], args := [d1, d2, d3] }
  | _ => none }
def BudgetTakesWrongFalsely : Prop := budgetTakesRow.holds Try.pinned (OpenSpec.ofChange budgetTakesWrong)

/-- 'standbylaw30.BudgetWaits': WHATEVER THE INPUT: true; the input reads as it did. -/
def budgetWaitsSpec : ChangeSpec := { name := "budgetWaits", fn := fun _ => fun
  | [d1, d2, d3] => { results := [.lit (.bool true)], args := [d1, d2, d3] }
  | _ => none }
def budgetWaitsRow : OpenClaim := { program := "ytlgahhfpdomdmaa", sum := "7f6c8c869dcb61a3cdaef28342519c37135e1a0cca8ec49297cf879c4991fe1e", func := "standby/standbylaw30.BudgetWaits", spec := "budgetWaits", unfollowed := true, recurses := true, apart := false }
def BudgetWaitsSaid : Prop := budgetWaitsRow.holds Try.pinned (OpenSpec.ofChange budgetWaitsSpec)

/-- ITS FALSE NEIGHBOUR: 'it returns false'. Refute it at one input. -/
def budgetWaitsWrong : ChangeSpec := { name := "budgetWaits", fn := fun _ => fun
  | [d1, d2, d3] => { results := [.lit (.bool false)], args := [d1, d2, d3] }
  | _ => none }
def BudgetWaitsWrongFalsely : Prop := budgetWaitsRow.holds Try.pinned (OpenSpec.ofChange budgetWaitsWrong)

/-- 'standbylaw30.BudgetLimits': WHATEVER THE INPUT: true; the input reads as it did. -/
def budgetLimitsSpec : ChangeSpec := { name := "budgetLimits", fn := fun _ => fun
  | [d1, d2, d3] => { results := [.lit (.bool true)], args := [d1, d2, d3] }
  | _ => none }
def budgetLimitsRow : OpenClaim := { program := "ytlgahhfpdomdmaa", sum := "7f6c8c869dcb61a3cdaef28342519c37135e1a0cca8ec49297cf879c4991fe1e", func := "standby/standbylaw30.BudgetLimits", spec := "budgetLimits", unfollowed := true, recurses := true, apart := false }
def BudgetLimitsSaid : Prop := budgetLimitsRow.holds Try.pinned (OpenSpec.ofChange budgetLimitsSpec)

/-- ITS FALSE NEIGHBOUR: 'it returns false'. Refute it at one input. -/
def budgetLimitsWrong : ChangeSpec := { name := "budgetLimits", fn := fun _ => fun
  | [d1, d2, d3] => { results := [.lit (.bool false)], args := [d1, d2, d3] }
  | _ => none }
def BudgetLimitsWrongFalsely : Prop := budgetLimitsRow.holds Try.pinned (OpenSpec.ofChange budgetLimitsWrong)

/-- 'standbylaw30.BudgetFirst': WHATEVER THE INPUT: true; the input reads as it did. -/
def budgetFirstSpec : ChangeSpec := { name := "budgetFirst", fn := fun _ => fun
  | [d1, d2, d3] => { results := [.lit (.bool true)], args := [d1, d2, d3] }
  | _ => none }
def budgetFirstRow : OpenClaim := { program := "ytlgahhfpdomdmaa", sum := "7f6c8c869dcb61a3cdaef28342519c37135e1a0cca8ec49297cf879c4991fe1e", func := "standby/standbylaw30.BudgetFirst", spec := "budgetFirst", unfollowed := true, recurses := true, apart := false }
def BudgetFirstSaid : Prop := budgetFirstRow.holds Try.pinned (OpenSpec.ofChange budgetFirstSpec)

/-- ITS FALSE NEIGHBOUR: 'it returns false'. Refute it at one input. -/
def budgetFirstWrong : ChangeSpec := { name := "budgetFirst", fn := fun _ => fun
  | [d1, d2, d3] => { results := [.lit (.bool false)], args := [d1, d2, d3] }
  | _ => none }
def BudgetFirstWrongFalsely : Prop := budgetFirstRow.holds Try.pinned (OpenSpec.ofChange budgetFirstWrong)

/-- 'standbylaw30.BudgetSteps': WHATEVER THE INPUT: true; the input reads as it did. -/
def budgetStepsSpec : ChangeSpec := { name := "budgetSteps", fn := fun _ => fun
  | [d1, d2, d3] => { results := [.lit (.bool true)], args := [d1, d2, d3] }
  | _ => none }
def budgetStepsRow : OpenClaim := { program := "ytlgahhfpdomdmaa", sum := "7f6c8c869dcb61a3cdaef28342519c37135e1a0cca8ec49297cf879c4991fe1e", func := "standby/standbylaw30.BudgetSteps", spec := "budgetSteps", unfollowed := true, recurses := true, apart := false }
def BudgetStepsSaid : Prop := budgetStepsRow.holds Try.pinned (OpenSpec.ofChange budgetStepsSpec)

/-- ITS FALSE NEIGHBOUR: 'it returns false'. Refute it at one input. -/
def budgetStepsWrong : ChangeSpec := { name := "budgetSteps", fn := fun _ => fun
  | [d1, d2, d3] => { results := [.lit (.bool false)], args := [d1, d2, d3] }
  | _ => none }
def BudgetStepsWrongFalsely : Prop := budgetStepsRow.holds Try.pinned (OpenSpec.ofChange budgetStepsWrong)

/-- 'standbylaw30.BudgetSwaps': WHATEVER THE INPUT: true; the input reads as it did. -/
def budgetSwapsSpec : ChangeSpec := { name := "budgetSwaps", fn := fun _ => fun
  | [d1, d2, d3] => { results := [.lit (.bool true)], args := [d1, d2, d3] }
  | _ => none }
def budgetSwapsRow : OpenClaim := { program := "ytlgahhfpdomdmaa", sum := "7f6c8c869dcb61a3cdaef28342519c37135e1a0cca8ec49297cf879c4991fe1e", func := "standby/standbylaw30.BudgetSwaps", spec := "budgetSwaps", unfollowed := true, recurses := true, apart := false }
def BudgetSwapsSaid : Prop := budgetSwapsRow.holds Try.pinned (OpenSpec.ofChange budgetSwapsSpec)

/-- ITS FALSE NEIGHBOUR: 'it returns false'. Refute it at one input. -/
def budgetSwapsWrong : ChangeSpec := { name := "budgetSwaps", fn := fun _ => fun
  | [d1, d2, d3] => { results := [.lit (.bool false)], args := [d1, d2, d3] }
  | _ => none }
def BudgetSwapsWrongFalsely : Prop := budgetSwapsRow.holds Try.pinned (OpenSpec.ofChange budgetSwapsWrong)

/- THE SECOND FORM. 'bulk': how many values and letters a reading holds, each counted each time it is reached (what is shared counts as often as it is met; a slice's spare places count too). A statement '..UptoSaid' is the law's where the arguments, and the package variables that the reading takes, are together of bulk at most 1048576: NARROWER than '..Said'. Prove '..Said' where nothing that the law and all that it calls make is longer than what came in: it says more and counts as full. Else prove '..UptoSaid'. A law counts once. -/
mutual
def uptoBulk {H : Type} : DataW H → Nat
  | .lit (.string bytes) => bytes.length + 1
  | .lit _ => 1
  | .nil => 1
  | .ptr d => uptoBulk d + 1
  | .slice elems spare => uptoBulkAll elems + uptoBulkAll spare + 1
  | .agg parts => uptoBulkAll parts + 1
  | .iface _ d => uptoBulk d + 1
  | .map entries => uptoBulkEntries entries + 1
  | .held _ => 1
def uptoBulkAll {H : Type} : List (DataW H) → Nat
  | [] => 0
  | d :: r => uptoBulk d + uptoBulkAll r
def uptoBulkEntries {H : Type} : List (Lit × DataW H) → Nat
  | [] => 0
  | x :: r => uptoBulkEntry x + uptoBulkEntries r
def uptoBulkEntry {H : Type} : Lit × DataW H → Nat
  | (.string bytes, d) => bytes.length + uptoBulk d + 1
  | (_, d) => uptoBulk d + 1
 end
def uptoSmall : (H : Type) → List (DataW H) → Bool := fun _ ds => decide (uptoBulkAll ds ≤ 1048576)
def OpenSpec.upto (s : _root_.Go.ChangeSpec) : _root_.Go.OpenSpec := { _root_.Go.OpenSpec.ofChange s with cond := some uptoSmall }

/-- 'standbylaw30.BudgetChecks', WHERE WHAT IT READS IS OF BULK AT MOST 1048576: true; the input reads as it did. -/
def budgetChecksUptoRow : OpenClaim := { program := "ytlgahhfpdomdmaa", sum := "7f6c8c869dcb61a3cdaef28342519c37135e1a0cca8ec49297cf879c4991fe1e", func := "standby/standbylaw30.BudgetChecks", spec := "budgetChecks", unfollowed := true, recurses := true, apart := false, narrowed := true }
def BudgetChecksUptoSaid : Prop := budgetChecksUptoRow.holds Try.pinned (OpenSpec.upto budgetChecksSpec)

/-- 'standbylaw30.BudgetAdvances', WHERE WHAT IT READS IS OF BULK AT MOST 1048576: true; the input reads as it did. -/
def budgetAdvancesUptoRow : OpenClaim := { program := "ytlgahhfpdomdmaa", sum := "7f6c8c869dcb61a3cdaef28342519c37135e1a0cca8ec49297cf879c4991fe1e", func := "standby/standbylaw30.BudgetAdvances", spec := "budgetAdvances", unfollowed := true, recurses := true, apart := false, narrowed := true }
def BudgetAdvancesUptoSaid : Prop := budgetAdvancesUptoRow.holds Try.pinned (OpenSpec.upto budgetAdvancesSpec)

/-- 'standbylaw30.BudgetTakes', WHERE WHAT IT READS IS OF BULK AT MOST 1048576: true; the input reads as it did. -/
def budgetTakesUptoRow : OpenClaim := { program := "ytlgahhfpdomdmaa", sum := "7f6c8c869dcb61a3cdaef28342519c37135e1a0cca8ec49297cf879c4991fe1e", func := "standby/standbylaw30.BudgetTakes", spec := "budgetTakes", unfollowed := true, recurses := true, apart := false, narrowed := true }
def BudgetTakesUptoSaid : Prop := budgetTakesUptoRow.holds Try.pinned (OpenSpec.upto budgetTakesSpec)

/-- 'standbylaw30.BudgetWaits', WHERE WHAT IT READS IS OF BULK AT MOST 1048576: true; the input reads as it did. -/
def budgetWaitsUptoRow : OpenClaim := { program := "ytlgahhfpdomdmaa", sum := "7f6c8c869dcb61a3cdaef28342519c37135e1a0cca8ec49297cf879c4991fe1e", func := "standby/standbylaw30.BudgetWaits", spec := "budgetWaits", unfollowed := true, recurses := true, apart := false, narrowed := true }
def BudgetWaitsUptoSaid : Prop := budgetWaitsUptoRow.holds Try.pinned (OpenSpec.upto budgetWaitsSpec)

/-- 'standbylaw30.BudgetLimits', WHERE WHAT IT READS IS OF BULK AT MOST 1048576: true; the input reads as it did. -/
def budgetLimitsUptoRow : OpenClaim := { program := "ytlgahhfpdomdmaa", sum := "7f6c8c869dcb61a3cdaef28342519c37135e1a0cca8ec49297cf879c4991fe1e", func := "standby/standbylaw30.BudgetLimits", spec := "budgetLimits", unfollowed := true, recurses := true, apart := false, narrowed := true }
def BudgetLimitsUptoSaid : Prop := budgetLimitsUptoRow.holds Try.pinned (OpenSpec.upto budgetLimitsSpec)

/-- 'standbylaw30.BudgetFirst', WHERE WHAT IT READS IS OF BULK AT MOST 1048576: true; the input reads as it did. -/
def budgetFirstUptoRow : OpenClaim := { program := "ytlgahhfpdomdmaa", sum := "7f6c8c869dcb61a3cdaef28342519c37135e1a0cca8ec49297cf879c4991fe1e", func := "standby/standbylaw30.BudgetFirst", spec := "budgetFirst", unfollowed := true, recurses := true, apart := false, narrowed := true }
def BudgetFirstUptoSaid : Prop := budgetFirstUptoRow.holds Try.pinned (OpenSpec.upto budgetFirstSpec)

/-- 'standbylaw30.BudgetSteps', WHERE WHAT IT READS IS OF BULK AT MOST 1048576: true; the input reads as it did. -/
def budgetStepsUptoRow : OpenClaim := { program := "ytlgahhfpdomdmaa", sum := "7f6c8c869dcb61a3cdaef28342519c37135e1a0cca8ec49297cf879c4991fe1e", func := "standby/standbylaw30.BudgetSteps", spec := "budgetSteps", unfollowed := true, recurses := true, apart := false, narrowed := true }
def BudgetStepsUptoSaid : Prop := budgetStepsUptoRow.holds Try.pinned (OpenSpec.upto budgetStepsSpec)

/-- 'standbylaw30.BudgetSwaps', WHERE WHAT IT READS IS OF BULK AT MOST 1048576: true; the input reads as it did. -/
def budgetSwapsUptoRow : OpenClaim := { program := "ytlgahhfpdomdmaa", sum := "7f6c8c869dcb61a3cdaef28342519c37135e1a0cca8ec49297cf879c4991fe1e", func := "standby/standbylaw30.BudgetSwaps", spec := "budgetSwaps", unfollowed := true, recurses := true, apart := false, narrowed := true }
def BudgetSwapsUptoSaid : Prop := budgetSwapsUptoRow.holds Try.pinned (OpenSpec.upto budgetSwapsSpec)

end Rows
end Go.Proofs.Ytlgahhfpdomdmaa

/-
  No cell of these rows narrows 'for every input' (looked for: loops, veiled, ifaces, maps, wideKeys, modest, calm, conditions, laid).
  DERIVED. THE GIVEN ROWS OF THIS SEAT. 13 by the template 'for every input the law returns true; each argument reads behind the call as it read before'; 0 by the template 'total and deterministic' (their statements: YtndfcbcmeeemfaaTotals.lean).
  GIVEN WITH THE SEED: the statements are not yours to turn. If you find one false, say at which input.
  Laid BY PROGRAM, IN A SANDBOX (cutbox-rows.mjs): the forced cells as the released guide's own fill.sh prints them over the translation 6d9ef3a08862c4ea… (all of the seat's roots in one cut). By AI agents, Wed Nov 11 2026. No macro, syntax, notation, axiom, sorry.
-/
import Derived.Test.YtndfcbcmeeemfaaChecked
import GoSem.Claim
import GoSem.ClaimJoined
import GoSem.ClaimMapViews
import Derived.JoinedTies
import Derived.KernelRfl
namespace Go.Proofs.Ytndfcbcmeeemfaa
/- THE CELL 'sum', in the pinned program and in every row, IS THE sha256 OF THE DUMP (.gsa) THAT YtndfcbcmeeemfaaProg.lean LOADS. Nothing in Lean hashes anything: it is a label: what it is worth is what the hold of that sum in a sandbox is worth. -/
noncomputable def Try.pinned : Pinned := { name := "ytndfcbcmeeemfaa", sum := "6d9ef3a08862c4eaec2e9ea1a0d1a2bf2d133aad806a048ef098f9f6508b076a", checked := Try.checked }
namespace Rows
def none {H : Type} : Left H := { results := [], args := [] }

/-- 'burgeonlaw01.WordCas': WHATEVER THE INPUT: true; the input reads as it did. -/
def wordCasSpec : ChangeSpec := { name := "wordCas", fn := fun _ => fun
  | [d1, d2, d3] => { results := [.lit (.bool true)], args := [d1, d2, d3] }
  | _ => none }
def wordCasRow : OpenClaim := { program := "ytndfcbcmeeemfaa", sum := "6d9ef3a08862c4eaec2e9ea1a0d1a2bf2d133aad806a048ef098f9f6508b076a", func := "burgeon/burgeonlaw01.WordCas", spec := "wordCas", unfollowed := true, recurses := true, apart := false }
def WordCasSaid : Prop := wordCasRow.holds Try.pinned (OpenSpec.ofChange wordCasSpec)

/-- ITS FALSE NEIGHBOUR: 'it returns false'. Refute it at one input. -/
def wordCasWrong : ChangeSpec := { name := "wordCas", fn := fun _ => fun
  | [d1, d2, d3] => { results := [.lit (.bool false)], args := [d1, d2, d3] }
  | _ => none }
def WordCasWrongFalsely : Prop := wordCasRow.holds Try.pinned (OpenSpec.ofChange wordCasWrong)

/-- 'burgeonlaw01.WordSwaps': WHATEVER THE INPUT: true; the input reads as it did. -/
def wordSwapsSpec : ChangeSpec := { name := "wordSwaps", fn := fun _ => fun
  | [d1, d2, d3] => { results := [.lit (.bool true)], args := [d1, d2, d3] }
  | _ => none }
def wordSwapsRow : OpenClaim := { program := "ytndfcbcmeeemfaa", sum := "6d9ef3a08862c4eaec2e9ea1a0d1a2bf2d133aad806a048ef098f9f6508b076a", func := "burgeon/burgeonlaw01.WordSwaps", spec := "wordSwaps", unfollowed := true, recurses := true, apart := false }
def WordSwapsSaid : Prop := wordSwapsRow.holds Try.pinned (OpenSpec.ofChange wordSwapsSpec)

/-- ITS FALSE NEIGHBOUR: 'it returns false'. Refute it at one input. -/
def wordSwapsWrong : ChangeSpec := { name := "wordSwaps", fn := fun _ => fun
  | [d1, d2, d3] => { results := [.lit (.bool false)], args := [d1, d2, d3] }
  | _ => none }
def WordSwapsWrongFalsely : Prop := wordSwapsRow.holds Try.pinned (OpenSpec.ofChange wordSwapsWrong)

/-- 'burgeonlaw01.WordWrites': WHATEVER THE INPUT: true; the input reads as it did. -/
def wordWritesSpec : ChangeSpec := { name := "wordWrites", fn := fun _ => fun
  | [d1, d2] => { results := [.lit (.bool true)], args := [d1, d2] }
  | _ => none }
def wordWritesRow : OpenClaim := { program := "ytndfcbcmeeemfaa", sum := "6d9ef3a08862c4eaec2e9ea1a0d1a2bf2d133aad806a048ef098f9f6508b076a", func := "burgeon/burgeonlaw01.WordWrites", spec := "wordWrites", unfollowed := true, recurses := true, apart := false }
def WordWritesSaid : Prop := wordWritesRow.holds Try.pinned (OpenSpec.ofChange wordWritesSpec)

/-- ITS FALSE NEIGHBOUR: 'it returns false'. Refute it at one input. -/
def wordWritesWrong : ChangeSpec := { name := "wordWrites", fn := fun _ => fun
  | [d1, d2] => { results := [.lit (.bool false)], args := [d1, d2] }
  | _ => none }
def WordWritesWrongFalsely : Prop := wordWritesRow.holds Try.pinned (OpenSpec.ofChange wordWritesWrong)

/-- 'burgeonlaw01.WordCalls': WHATEVER THE INPUT: true; the input reads as it did. -/
def wordCallsSpec : ChangeSpec := { name := "wordCalls", fn := fun _ => fun
  | [d1, d2] => { results := [.lit (.bool true)], args := [d1, d2] }
  | _ => none }
def wordCallsRow : OpenClaim := { program := "ytndfcbcmeeemfaa", sum := "6d9ef3a08862c4eaec2e9ea1a0d1a2bf2d133aad806a048ef098f9f6508b076a", func := "burgeon/burgeonlaw01.WordCalls", spec := "wordCalls", unfollowed := true, recurses := true, apart := false }
def WordCallsSaid : Prop := wordCallsRow.holds Try.pinned (OpenSpec.ofChange wordCallsSpec)

/-- ITS FALSE NEIGHBOUR: 'it returns false'. Refute it at one input. -/
def wordCallsWrong : ChangeSpec := { name := "wordCalls", fn := fun _ => fun
  | [d1, d2] => { results := [.lit (.bool false)], args := [d1, d2] }
  | _ => none }
def WordCallsWrongFalsely : Prop := wordCallsRow.holds Try.pinned (OpenSpec.ofChange wordCallsWrong)

/-- 'burgeonlaw01.WordApart': WHATEVER THE INPUT: true; the input reads as it did. -/
def wordApartSpec : ChangeSpec := { name := "wordApart", fn := fun _ => fun
  | [d1, d2] => { results := [.lit (.bool true)], args := [d1, d2] }
  | _ => none }
def wordApartRow : OpenClaim := { program := "ytndfcbcmeeemfaa", sum := "6d9ef3a08862c4eaec2e9ea1a0d1a2bf2d133aad806a048ef098f9f6508b076a", func := "burgeon/burgeonlaw01.WordApart", spec := "wordApart", unfollowed := true, recurses := true, apart := false }
def WordApartSaid : Prop := wordApartRow.holds Try.pinned (OpenSpec.ofChange wordApartSpec)

/-- ITS FALSE NEIGHBOUR: 'it returns false'. Refute it at one input. -/
def wordApartWrong : ChangeSpec := { name := "wordApart", fn := fun _ => fun
  | [d1, d2] => { results := [.lit (.bool false)], args := [d1, d2] }
  | _ => none }
def WordApartWrongFalsely : Prop := wordApartRow.holds Try.pinned (OpenSpec.ofChange wordApartWrong)

/-- 'burgeonlaw01.WordDoes': WHATEVER THE INPUT: true; the input reads as it did. -/
def wordDoesSpec : ChangeSpec := { name := "wordDoes", fn := fun _ => fun
  | [d1, d2] => { results := [.lit (.bool true)], args := [d1, d2] }
  | _ => none }
def wordDoesRow : OpenClaim := { program := "ytndfcbcmeeemfaa", sum := "6d9ef3a08862c4eaec2e9ea1a0d1a2bf2d133aad806a048ef098f9f6508b076a", func := "burgeon/burgeonlaw01.WordDoes", spec := "wordDoes", unfollowed := true, recurses := true, apart := false }
def WordDoesSaid : Prop := wordDoesRow.holds Try.pinned (OpenSpec.ofChange wordDoesSpec)

/-- ITS FALSE NEIGHBOUR: 'it returns false'. Refute it at one input. -/
def wordDoesWrong : ChangeSpec := { name := "wordDoes", fn := fun _ => fun
  | [d1, d2] => { results := [.lit (.bool false)], args := [d1, d2] }
  | _ => none }
def WordDoesWrongFalsely : Prop := wordDoesRow.holds Try.pinned (OpenSpec.ofChange wordDoesWrong)

/-- 'burgeonlaw02.MachineRuns': WHATEVER THE INPUT: true; the input reads as it did. -/
def machineRunsSpec : ChangeSpec := { name := "machineRuns", fn := fun _ => fun
  | [d1, d2, d3] => { results := [.lit (.bool true)], args := [d1, d2, d3] }
  | _ => none }
def machineRunsRow : OpenClaim := { program := "ytndfcbcmeeemfaa", sum := "6d9ef3a08862c4eaec2e9ea1a0d1a2bf2d133aad806a048ef098f9f6508b076a", func := "burgeon/burgeonlaw02.MachineRuns", spec := "machineRuns", unfollowed := true, recurses := true, apart := false }
def MachineRunsSaid : Prop := machineRunsRow.holds Try.pinned (OpenSpec.ofChange machineRunsSpec)

/-- ITS FALSE NEIGHBOUR: 'it returns false'. Refute it at one input. -/
def machineRunsWrong : ChangeSpec := { name := "machineRuns", fn := fun _ => fun
  | [d1, d2, d3] => { results := [.lit (.bool false)], args := [d1, d2, d3] }
  | _ => none }
def MachineRunsWrongFalsely : Prop := machineRunsRow.holds Try.pinned (OpenSpec.ofChange machineRunsWrong)

/-- 'burgeonlaw02.MachineAdds': WHATEVER THE INPUT: true; the input reads as it did. -/
def machineAddsSpec : ChangeSpec := { name := "machineAdds", fn := fun _ => fun
  | [d1, d2] => { results := [.lit (.bool true)], args := [d1, d2] }
  | _ => none }
def machineAddsRow : OpenClaim := { program := "ytndfcbcmeeemfaa", sum := "6d9ef3a08862c4eaec2e9ea1a0d1a2bf2d133aad806a048ef098f9f6508b076a", func := "burgeon/burgeonlaw02.MachineAdds", spec := "machineAdds", unfollowed := true, recurses := true, apart := false }
def MachineAddsSaid : Prop := machineAddsRow.holds Try.pinned (OpenSpec.ofChange machineAddsSpec)

/-- ITS FALSE NEIGHBOUR: 'it returns false'. Refute it at one input. -/
def machineAddsWrong : ChangeSpec := { name := "machineAdds", fn := fun _ => fun
  | [d1, d2] => { results := [.lit (.bool false)], args := [d1, d2] }
  | _ => none }
def MachineAddsWrongFalsely : Prop := machineAddsRow.holds Try.pinned (OpenSpec.ofChange machineAddsWrong)

/-- 'burgeonlaw02.MachineApart': WHATEVER THE INPUT: true; the input reads as it did. -/
def machineApartSpec : ChangeSpec := { name := "machineApart", fn := fun _ => fun
  | [d1, d2, d3] => { results := [.lit (.bool true)], args := [d1, d2, d3] }
  | _ => none }
def machineApartRow : OpenClaim := { program := "ytndfcbcmeeemfaa", sum := "6d9ef3a08862c4eaec2e9ea1a0d1a2bf2d133aad806a048ef098f9f6508b076a", func := "burgeon/burgeonlaw02.MachineApart", spec := "machineApart", unfollowed := true, recurses := true, apart := false }
def MachineApartSaid : Prop := machineApartRow.holds Try.pinned (OpenSpec.ofChange machineApartSpec)

/-- ITS FALSE NEIGHBOUR: 'it returns false'. Refute it at one input. -/
def machineApartWrong : ChangeSpec := { name := "machineApart", fn := fun _ => fun
  | [d1, d2, d3] => { results := [.lit (.bool false)], args := [d1, d2, d3] }
  | _ => none }
def MachineApartWrongFalsely : Prop := machineApartRow.holds Try.pinned (OpenSpec.ofChange machineApartWrong)

/-- 'burgeonlaw02.MachineEnds': WHATEVER THE INPUT: true; the input reads as it did. -/
def machineEndsSpec : ChangeSpec := { name := "machineEnds", fn := fun _ => fun
  | [d1, d2] => { results := [.lit (.bool true)], args := [d1, d2] }
  | _ => none }
def machineEndsRow : OpenClaim := { program := "ytndfcbcmeeemfaa", sum := "6d9ef3a08862c4eaec2e9ea1a0d1a2bf2d133aad806a048ef098f9f6508b076a", func := "burgeon/burgeonlaw02.MachineEnds", spec := "machineEnds", unfollowed := true, recurses := true, apart := false }
def MachineEndsSaid : Prop := machineEndsRow.holds Try.pinned (OpenSpec.ofChange machineEndsSpec)

/-- ITS FALSE NEIGHBOUR: 'it returns false'. Refute it at one input. -/
def machineEndsWrong : ChangeSpec := { name := "machineEnds", fn := fun _ => fun
  | [d1, d2] => { results := [.lit (.bool false)], args := [d1, d2] }
  | _ => none }
def MachineEndsWrongFalsely : Prop := machineEndsRow.holds Try.pinned (OpenSpec.ofChange machineEndsWrong)

/-- 'burgeonlaw02.MachineLocks': WHATEVER THE INPUT: true; the input reads as it did. -/
def machineLocksSpec : ChangeSpec := { name := "machineLocks", fn := fun _ => fun
  | [d1, d2] => { results := [.lit (.bool true)], args := [d1, d2] }
  | _ => none }
def machineLocksRow : OpenClaim := { program := "ytndfcbcmeeemfaa", sum := "6d9ef3a08862c4eaec2e9ea1a0d1a2bf2d133aad806a048ef098f9f6508b076a", func := "burgeon/burgeonlaw02.MachineLocks", spec := "machineLocks", unfollowed := true, recurses := true, apart := false }
def MachineLocksSaid : Prop := machineLocksRow.holds Try.pinned (OpenSpec.ofChange machineLocksSpec)

/-- ITS FALSE NEIGHBOUR: 'it returns false'. Refute it at one input. -/
def machineLocksWrong : ChangeSpec := { name := "machineLocks", fn := fun _ => fun
  | [d1, d2] => { results := [.lit (.bool false)], args := [d1, d2] }
  | _ => none }
def MachineLocksWrongFalsely : Prop := machineLocksRow.holds Try.pinned (OpenSpec.ofChange machineLocksWrong)

/-- 'burgeonlaw02.MachineParts': WHATEVER THE INPUT: true; the input reads as it did. -/
def machinePartsSpec : ChangeSpec := { name := "machineParts", fn := fun _ => fun
  | [d1, d2, d3] => { results := [.lit (.bool true)], args := [d1, d2, d3] }
  | _ => none }
def machinePartsRow : OpenClaim := { program := "ytndfcbcmeeemfaa", sum := "6d9ef3a08862c4eaec2e9ea1a0d1a2bf2d133aad806a048ef098f9f6508b076a", func := "burgeon/burgeonlaw02.MachineParts", spec := "machineParts", unfollowed := true, recurses := true, apart := false }
def MachinePartsSaid : Prop := machinePartsRow.holds Try.pinned (OpenSpec.ofChange machinePartsSpec)

/-- ITS FALSE NEIGHBOUR: 'it returns false'. Refute it at one input. -/
def machinePartsWrong : ChangeSpec := { name := "machineParts", fn := fun _ => fun
  | [d1, d2, d3] => { results := [.lit (.bool false)], args := [d1, d2, d3] }
  | _ => none }
def MachinePartsWrongFalsely : Prop := machinePartsRow.holds Try.pinned (OpenSpec.ofChange machinePartsWrong)

/-- 'burgeonlaw02.MachineSteps': WHATEVER THE INPUT: true; the input reads as it did. -/
def machineStepsSpec : ChangeSpec := { name := "machineSteps", fn := fun _ => fun
  | [d1, d2, d3] => { results := [.lit (.bool true)], args := [d1, d2, d3] }
  | _ => none }
def machineStepsRow : OpenClaim := { program := "ytndfcbcmeeemfaa", sum := "6d9ef3a08862c4eaec2e9ea1a0d1a2bf2d133aad806a048ef098f9f6508b076a", func := "burgeon/burgeonlaw02.MachineSteps", spec := "machineSteps", unfollowed := true, recurses := true, apart := false }
def MachineStepsSaid : Prop := machineStepsRow.holds Try.pinned (OpenSpec.ofChange machineStepsSpec)

/-- ITS FALSE NEIGHBOUR: 'it returns false'. Refute it at one input. -/
def machineStepsWrong : ChangeSpec := { name := "machineSteps", fn := fun _ => fun
  | [d1, d2, d3] => { results := [.lit (.bool false)], args := [d1, d2, d3] }
  | _ => none }
def MachineStepsWrongFalsely : Prop := machineStepsRow.holds Try.pinned (OpenSpec.ofChange machineStepsWrong)

/- THE SECOND FORM. 'bulk': how many values and letters a reading holds, each counted each time it is reached (what is shared counts as often as it is met; a slice's spare places count too). A statement '..UptoSaid' is the law's where the arguments, and the package variables that the reading takes, are together of bulk at most 1048576: NARROWER than '..Said'. Prove '..Said' where nothing that the law and all that it calls make is longer than what came in: it says more and counts as full. Else prove '..UptoSaid'. A law counts once. -/
mutual
def uptoBulk {H : Type} : DataW H → Nat
  | .lit (.string bytes) => bytes.length + 1
  | .lit _ => 1
  | .nil => 1
  | .ptr d => uptoBulk d + 1
  | .slice elems spare => uptoBulkAll elems + uptoBulkAll spare + 1
  | .agg parts => uptoBulkAll parts + 1
  | .iface _ d => uptoBulk d + 1
  | .map entries => uptoBulkEntries entries + 1
  | .held _ => 1
def uptoBulkAll {H : Type} : List (DataW H) → Nat
  | [] => 0
  | d :: r => uptoBulk d + uptoBulkAll r
def uptoBulkEntries {H : Type} : List (Lit × DataW H) → Nat
  | [] => 0
  | x :: r => uptoBulkEntry x + uptoBulkEntries r
def uptoBulkEntry {H : Type} : Lit × DataW H → Nat
  | (.string bytes, d) => bytes.length + uptoBulk d + 1
  | (_, d) => uptoBulk d + 1
 end
def uptoSmall : (H : Type) → List (DataW H) → Bool := fun _ ds => decide (uptoBulkAll ds ≤ 1048576)
def OpenSpec.upto (s : _root_.Go.ChangeSpec) : _root_.Go.OpenSpec := { _root_.Go.OpenSpec.ofChange s with cond := some uptoSmall }

/-- 'burgeonlaw01.WordCas', WHERE WHAT IT READS IS OF BULK AT MOST 1048576: true; the input reads as it did. -/
def wordCasUptoRow : OpenClaim := { program := "ytndfcbcmeeemfaa", sum := "6d9ef3a08862c4eaec2e9ea1a0d1a2bf2d133aad806a048ef098f9f6508b076a", func := "burgeon/burgeonlaw01.WordCas", spec := "wordCas", unfollowed := true, recurses := true, apart := false, narrowed := true }
def WordCasUptoSaid : Prop := wordCasUptoRow.holds Try.pinned (OpenSpec.upto wordCasSpec)

/-- 'burgeonlaw01.WordSwaps', WHERE WHAT IT READS IS OF BULK AT MOST 1048576: true; the input reads as it did. -/
def wordSwapsUptoRow : OpenClaim := { program := "ytndfcbcmeeemfaa", sum := "6d9ef3a08862c4eaec2e9ea1a0d1a2bf2d133aad806a048ef098f9f6508b076a", func := "burgeon/burgeonlaw01.WordSwaps", spec := "wordSwaps", unfollowed := true, recurses := true, apart := false, narrowed := true }
def WordSwapsUptoSaid : Prop := wordSwapsUptoRow.holds Try.pinned (OpenSpec.upto wordSwapsSpec)

/-- 'burgeonlaw01.WordWrites', WHERE WHAT IT READS IS OF BULK AT MOST 1048576: true; the input reads as it did. -/
def wordWritesUptoRow : OpenClaim := { program := "ytndfcbcmeeemfaa", sum := "6d9ef3a08862c4eaec2e9ea1a0d1a2bf2d133aad806a048ef098f9f6508b076a", func := "burgeon/burgeonlaw01.WordWrites", spec := "wordWrites", unfollowed := true, recurses := true, apart := false, narrowed := true }
def WordWritesUptoSaid : Prop := wordWritesUptoRow.holds Try.pinned (OpenSpec.upto wordWritesSpec)

/-- 'burgeonlaw01.WordCalls', WHERE WHAT IT READS IS OF BULK AT MOST 1048576: true; the input reads as it did. -/
def wordCallsUptoRow : OpenClaim := { program := "ytndfcbcmeeemfaa", sum := "6d9ef3a08862c4eaec2e9ea1a0d1a2bf2d133aad806a048ef098f9f6508b076a", func := "burgeon/burgeonlaw01.WordCalls", spec := "wordCalls", unfollowed := true, recurses := true, apart := false, narrowed := true }
def WordCallsUptoSaid : Prop := wordCallsUptoRow.holds Try.pinned (OpenSpec.upto wordCallsSpec)

/-- 'burgeonlaw01.WordApart', WHERE WHAT IT READS IS OF BULK AT MOST 1048576: true; the input reads as it did. -/
def wordApartUptoRow : OpenClaim := { program := "ytndfcbcmeeemfaa", sum := "6d9ef3a08862c4eaec2e9ea1a0d1a2bf2d133aad806a048ef098f9f6508b076a", func := "burgeon/burgeonlaw01.WordApart", spec := "wordApart", unfollowed := true, recurses := true, apart := false, narrowed := true }
def WordApartUptoSaid : Prop := wordApartUptoRow.holds Try.pinned (OpenSpec.upto wordApartSpec)

/-- 'burgeonlaw01.WordDoes', WHERE WHAT IT READS IS OF BULK AT MOST 1048576: true; the input reads as it did. -/
def wordDoesUptoRow : OpenClaim := { program := "ytndfcbcmeeemfaa", sum := "6d9ef3a08862c4eaec2e9ea1a0d1a2bf2d133aad806a048ef098f9f6508b076a", func := "burgeon/burgeonlaw01.WordDoes", spec := "wordDoes", unfollowed := true, recurses := true, apart := false, narrowed := true }
def WordDoesUptoSaid : Prop := wordDoesUptoRow.holds Try.pinned (OpenSpec.upto wordDoesSpec)

/-- 'burgeonlaw02.MachineRuns', WHERE WHAT IT READS IS OF BULK AT MOST 1048576: true; the input reads as it did. -/
def machineRunsUptoRow : OpenClaim := { program := "ytndfcbcmeeemfaa", sum := "6d9ef3a08862c4eaec2e9ea1a0d1a2bf2d133aad806a048ef098f9f6508b076a", func := "burgeon/burgeonlaw02.MachineRuns", spec := "machineRuns", unfollowed := true, recurses := true, apart := false, narrowed := true }
def MachineRunsUptoSaid : Prop := machineRunsUptoRow.holds Try.pinned (OpenSpec.upto machineRunsSpec)

/-- 'burgeonlaw02.MachineAdds', WHERE WHAT IT READS IS OF BULK AT MOST 1048576: true; the input reads as it did. -/
def machineAddsUptoRow : OpenClaim := { program := "ytndfcbcmeeemfaa", sum := "6d9ef3a08862c4eaec2e9ea1a0d1a2bf2d133aad806a048ef098f9f6508b076a", func := "burgeon/burgeonlaw02.MachineAdds", spec := "machineAdds", unfollowed := true, recurses := true, apart := false, narrowed := true }
def MachineAddsUptoSaid : Prop := machineAddsUptoRow.holds Try.pinned (OpenSpec.upto machineAddsSpec)

/-- 'burgeonlaw02.MachineApart', WHERE WHAT IT READS IS OF BULK AT MOST 1048576: true; the input reads as it did. -/
def machineApartUptoRow : OpenClaim := { program := "ytndfcbcmeeemfaa", sum := "6d9ef3a08862c4eaec2e9ea1a0d1a2bf2d133aad806a048ef098f9f6508b076a", func := "burgeon/burgeonlaw02.MachineApart", spec := "machineApart", unfollowed := true, recurses := true, apart := false, narrowed := true }
def MachineApartUptoSaid : Prop := machineApartUptoRow.holds Try.pinned (OpenSpec.upto machineApartSpec)

/-- 'burgeonlaw02.MachineEnds', WHERE WHAT IT READS IS OF BULK AT MOST 1048576: true; the input reads as it did. -/
def machineEndsUptoRow : OpenClaim := { program := "ytndfcbcmeeemfaa", sum := "6d9ef3a08862c4eaec2e9ea1a0d1a2bf2d133aad806a048ef098f9f6508b076a", func := "burgeon/burgeonlaw02.MachineEnds", spec := "machineEnds", unfollowed := true, recurses := true, apart := false, narrowed := true }
def MachineEndsUptoSaid : Prop := machineEndsUptoRow.holds Try.pinned (OpenSpec.upto machineEndsSpec)

/-- 'burgeonlaw02.MachineLocks', WHERE WHAT IT READS IS OF BULK AT MOST 1048576: true; the input reads as it did. -/
def machineLocksUptoRow : OpenClaim := { program := "ytndfcbcmeeemfaa", sum := "6d9ef3a08862c4eaec2e9ea1a0d1a2bf2d133aad806a048ef098f9f6508b076a", func := "burgeon/burgeonlaw02.MachineLocks", spec := "machineLocks", unfollowed := true, recurses := true, apart := false, narrowed := true }
def MachineLocksUptoSaid : Prop := machineLocksUptoRow.holds Try.pinned (OpenSpec.upto machineLocksSpec)

/-- 'burgeonlaw02.MachineParts', WHERE WHAT IT READS IS OF BULK AT MOST 1048576: true; the input reads as it did. -/
def machinePartsUptoRow : OpenClaim := { program := "ytndfcbcmeeemfaa", sum := "6d9ef3a08862c4eaec2e9ea1a0d1a2bf2d133aad806a048ef098f9f6508b076a", func := "burgeon/burgeonlaw02.MachineParts", spec := "machineParts", unfollowed := true, recurses := true, apart := false, narrowed := true }
def MachinePartsUptoSaid : Prop := machinePartsUptoRow.holds Try.pinned (OpenSpec.upto machinePartsSpec)

/-- 'burgeonlaw02.MachineSteps', WHERE WHAT IT READS IS OF BULK AT MOST 1048576: true; the input reads as it did. -/
def machineStepsUptoRow : OpenClaim := { program := "ytndfcbcmeeemfaa", sum := "6d9ef3a08862c4eaec2e9ea1a0d1a2bf2d133aad806a048ef098f9f6508b076a", func := "burgeon/burgeonlaw02.MachineSteps", spec := "machineSteps", unfollowed := true, recurses := true, apart := false, narrowed := true }
def MachineStepsUptoSaid : Prop := machineStepsUptoRow.holds Try.pinned (OpenSpec.upto machineStepsSpec)

end Rows
end Go.Proofs.Ytndfcbcmeeemfaa

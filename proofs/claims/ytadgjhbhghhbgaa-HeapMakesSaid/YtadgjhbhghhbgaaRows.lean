/-
  No cell of these rows narrows 'for every input' (looked for: loops, veiled, ifaces, maps, wideKeys, modest, calm, conditions, laid).
  DERIVED. THE GIVEN ROWS OF THIS SEAT. 8 by the template 'for every input the law returns true; each argument reads behind the call as it read before'; 0 by the template 'total and deterministic' (their statements: YtadgjhbhghhbgaaTotals.lean).
  GIVEN WITH THE SEED: the statements are not yours to turn. If you find one false, say at which input.
  Laid BY PROGRAM, IN A SANDBOX (cutbox-rows.mjs): the forced cells as the released guide's own fill.sh prints them over the translation ce4d037f92ad5550… (all of the seat's roots in one cut). By AI agents, Wed Nov 11 2026. No macro, syntax, notation, axiom, sorry.
-/
import Derived.Test.YtadgjhbhghhbgaaChecked
import GoSem.Claim
import GoSem.ClaimJoined
import GoSem.ClaimMapViews
import Derived.JoinedTies
import Derived.KernelRfl
namespace Go.Proofs.Ytadgjhbhghhbgaa
/- THE CELL 'sum', in the pinned program and in every row, IS THE sha256 OF THE DUMP (.gsa) THAT YtadgjhbhghhbgaaProg.lean LOADS. Nothing in Lean hashes anything: it is a label: what it is worth is what the hold of that sum in a sandbox is worth. -/
noncomputable def Try.pinned : Pinned := { name := "ytadgjhbhghhbgaa", sum := "ce4d037f92ad55502bc6731293d583d669619ac03a54004c999a228596861447", checked := Try.checked }
namespace Rows
def none {H : Type} : Left H := { results := [], args := [] }

/-- 'burgeonlaw17.TableSnaps': WHATEVER THE INPUT: true; the input reads as it did. -/
def tableSnapsSpec : ChangeSpec := { name := "tableSnaps", fn := fun _ => fun
  | [d1, d2] => { results := [.lit (.bool true)], args := [d1, d2] }
  | _ => none }
def tableSnapsRow : OpenClaim := { program := "ytadgjhbhghhbgaa", sum := "ce4d037f92ad55502bc6731293d583d669619ac03a54004c999a228596861447", func := "burgeon/burgeonlaw17.TableSnaps", spec := "tableSnaps", apart := false }
def TableSnapsSaid : Prop := tableSnapsRow.holds Try.pinned (OpenSpec.ofChange tableSnapsSpec)

/-- ITS FALSE NEIGHBOUR: 'it returns false'. Refute it at one input. -/
def tableSnapsWrong : ChangeSpec := { name := "tableSnaps", fn := fun _ => fun
  | [d1, d2] => { results := [.lit (.bool false)], args := [d1, d2] }
  | _ => none }
def TableSnapsWrongFalsely : Prop := tableSnapsRow.holds Try.pinned (OpenSpec.ofChange tableSnapsWrong)

/-- 'burgeonlaw17.TablePushes': WHATEVER THE INPUT: true; the input reads as it did. -/
def tablePushesSpec : ChangeSpec := { name := "tablePushes", fn := fun _ => fun
  | [d1, d2, d3] => { results := [.lit (.bool true)], args := [d1, d2, d3] }
  | _ => none }
def tablePushesRow : OpenClaim := { program := "ytadgjhbhghhbgaa", sum := "ce4d037f92ad55502bc6731293d583d669619ac03a54004c999a228596861447", func := "burgeon/burgeonlaw17.TablePushes", spec := "tablePushes", unfollowed := true, recurses := true, apart := false }
def TablePushesSaid : Prop := tablePushesRow.holds Try.pinned (OpenSpec.ofChange tablePushesSpec)

/-- ITS FALSE NEIGHBOUR: 'it returns false'. Refute it at one input. -/
def tablePushesWrong : ChangeSpec := { name := "tablePushes", fn := fun _ => fun
  | [d1, d2, d3] => { results := [.lit (.bool false)], args := [d1, d2, d3] }
  | _ => none }
def TablePushesWrongFalsely : Prop := tablePushesRow.holds Try.pinned (OpenSpec.ofChange tablePushesWrong)

/-- 'burgeonlaw12.HeapSorts': WHATEVER THE INPUT: true; the input reads as it did. -/
def heapSortsSpec : ChangeSpec := { name := "heapSorts", fn := fun _ => fun
  | [d] => { results := [.lit (.bool true)], args := [d] }
  | _ => none }
def heapSortsRow : OpenClaim := { program := "ytadgjhbhghhbgaa", sum := "ce4d037f92ad55502bc6731293d583d669619ac03a54004c999a228596861447", func := "burgeon/burgeonlaw12.HeapSorts", spec := "heapSorts", unfollowed := true, recurses := true, apart := false }
def HeapSortsSaid : Prop := heapSortsRow.holds Try.pinned (OpenSpec.ofChange heapSortsSpec)

/-- ITS FALSE NEIGHBOUR: 'it returns false'. Refute it at one input. -/
def heapSortsWrong : ChangeSpec := { name := "heapSorts", fn := fun _ => fun
  | [d] => { results := [.lit (.bool false)], args := [d] }
  | _ => none }
def HeapSortsWrongFalsely : Prop := heapSortsRow.holds Try.pinned (OpenSpec.ofChange heapSortsWrong)

/-- 'burgeonlaw12.HeapMakes': WHATEVER THE INPUT: true; the input reads as it did. -/
def heapMakesSpec : ChangeSpec := { name := "heapMakes", fn := fun _ => fun
  | [d1, d2, d3, d4] => { results := [.lit (.bool true)], args := [d1, d2, d3, d4] }
  | _ => none }
def heapMakesRow : OpenClaim := { program := "ytadgjhbhghhbgaa", sum := "ce4d037f92ad55502bc6731293d583d669619ac03a54004c999a228596861447", func := "burgeon/burgeonlaw12.HeapMakes", spec := "heapMakes", unfollowed := true, recurses := true, apart := false }
def HeapMakesSaid : Prop := heapMakesRow.holds Try.pinned (OpenSpec.ofChange heapMakesSpec)

/-- ITS FALSE NEIGHBOUR: 'it returns false'. Refute it at one input. -/
def heapMakesWrong : ChangeSpec := { name := "heapMakes", fn := fun _ => fun
  | [d1, d2, d3, d4] => { results := [.lit (.bool false)], args := [d1, d2, d3, d4] }
  | _ => none }
def HeapMakesWrongFalsely : Prop := heapMakesRow.holds Try.pinned (OpenSpec.ofChange heapMakesWrong)

/-- 'burgeonlaw12.HeapMelds': WHATEVER THE INPUT: true; the input reads as it did. -/
def heapMeldsSpec : ChangeSpec := { name := "heapMelds", fn := fun _ => fun
  | [d1, d2] => { results := [.lit (.bool true)], args := [d1, d2] }
  | _ => none }
def heapMeldsRow : OpenClaim := { program := "ytadgjhbhghhbgaa", sum := "ce4d037f92ad55502bc6731293d583d669619ac03a54004c999a228596861447", func := "burgeon/burgeonlaw12.HeapMelds", spec := "heapMelds", unfollowed := true, recurses := true, apart := false }
def HeapMeldsSaid : Prop := heapMeldsRow.holds Try.pinned (OpenSpec.ofChange heapMeldsSpec)

/-- ITS FALSE NEIGHBOUR: 'it returns false'. Refute it at one input. -/
def heapMeldsWrong : ChangeSpec := { name := "heapMelds", fn := fun _ => fun
  | [d1, d2] => { results := [.lit (.bool false)], args := [d1, d2] }
  | _ => none }
def HeapMeldsWrongFalsely : Prop := heapMeldsRow.holds Try.pinned (OpenSpec.ofChange heapMeldsWrong)

/-- 'burgeonlaw12.HeapLeast': WHATEVER THE INPUT: true; the input reads as it did. -/
def heapLeastSpec : ChangeSpec := { name := "heapLeast", fn := fun _ => fun
  | [d1, d2] => { results := [.lit (.bool true)], args := [d1, d2] }
  | _ => none }
def heapLeastRow : OpenClaim := { program := "ytadgjhbhghhbgaa", sum := "ce4d037f92ad55502bc6731293d583d669619ac03a54004c999a228596861447", func := "burgeon/burgeonlaw12.HeapLeast", spec := "heapLeast", unfollowed := true, recurses := true, apart := false }
def HeapLeastSaid : Prop := heapLeastRow.holds Try.pinned (OpenSpec.ofChange heapLeastSpec)

/-- ITS FALSE NEIGHBOUR: 'it returns false'. Refute it at one input. -/
def heapLeastWrong : ChangeSpec := { name := "heapLeast", fn := fun _ => fun
  | [d1, d2] => { results := [.lit (.bool false)], args := [d1, d2] }
  | _ => none }
def HeapLeastWrongFalsely : Prop := heapLeastRow.holds Try.pinned (OpenSpec.ofChange heapLeastWrong)

/-- 'burgeonlaw12.HeapOlder': WHATEVER THE INPUT: true; the input reads as it did. -/
def heapOlderSpec : ChangeSpec := { name := "heapOlder", fn := fun _ => fun
  | [d1, d2] => { results := [.lit (.bool true)], args := [d1, d2] }
  | _ => none }
def heapOlderRow : OpenClaim := { program := "ytadgjhbhghhbgaa", sum := "ce4d037f92ad55502bc6731293d583d669619ac03a54004c999a228596861447", func := "burgeon/burgeonlaw12.HeapOlder", spec := "heapOlder", unfollowed := true, recurses := true, apart := false }
def HeapOlderSaid : Prop := heapOlderRow.holds Try.pinned (OpenSpec.ofChange heapOlderSpec)

/-- ITS FALSE NEIGHBOUR: 'it returns false'. Refute it at one input. -/
def heapOlderWrong : ChangeSpec := { name := "heapOlder", fn := fun _ => fun
  | [d1, d2] => { results := [.lit (.bool false)], args := [d1, d2] }
  | _ => none }
def HeapOlderWrongFalsely : Prop := heapOlderRow.holds Try.pinned (OpenSpec.ofChange heapOlderWrong)

/-- 'burgeonlaw12.HeapTells': WHATEVER THE INPUT: true; the input reads as it did. -/
def heapTellsSpec : ChangeSpec := { name := "heapTells", fn := fun _ => fun
  | [d1, d2] => { results := [.lit (.bool true)], args := [d1, d2] }
  | _ => none }
def heapTellsRow : OpenClaim := { program := "ytadgjhbhghhbgaa", sum := "ce4d037f92ad55502bc6731293d583d669619ac03a54004c999a228596861447", func := "burgeon/burgeonlaw12.HeapTells", spec := "heapTells", unfollowed := true, recurses := true, apart := false }
def HeapTellsSaid : Prop := heapTellsRow.holds Try.pinned (OpenSpec.ofChange heapTellsSpec)

/-- ITS FALSE NEIGHBOUR: 'it returns false'. Refute it at one input. -/
def heapTellsWrong : ChangeSpec := { name := "heapTells", fn := fun _ => fun
  | [d1, d2] => { results := [.lit (.bool false)], args := [d1, d2] }
  | _ => none }
def HeapTellsWrongFalsely : Prop := heapTellsRow.holds Try.pinned (OpenSpec.ofChange heapTellsWrong)

/- THE SECOND FORM. 'bulk': how many values and letters a reading holds, each counted each time it is reached (what is shared counts as often as it is met; a slice's spare places count too). A statement '..UptoSaid' is the law's where the arguments, and the package variables that the reading takes, are together of bulk at most 1048576: NARROWER than '..Said'. Prove '..Said' where nothing that the law and all that it calls make is longer than what came in: it says more and counts as full. Else prove '..UptoSaid'. A law counts once. -/
mutual
def uptoBulk {H : Type} : DataW H → Nat
  | .lit (.string bytes) => bytes.length + 1
  | .lit _ => 1
  | .nil => 1
  | .ptr d => uptoBulk d + 1
  | .slice elems spare => uptoBulkAll elems + uptoBulkAll spare + 1
  | .agg parts => uptoBulkAll parts + 1
  | .iface _ d => uptoBulk d + 1
  | .map entries => uptoBulkEntries entries + 1
  | .held _ => 1
def uptoBulkAll {H : Type} : List (DataW H) → Nat
  | [] => 0
  | d :: r => uptoBulk d + uptoBulkAll r
def uptoBulkEntries {H : Type} : List (Lit × DataW H) → Nat
  | [] => 0
  | x :: r => uptoBulkEntry x + uptoBulkEntries r
def uptoBulkEntry {H : Type} : Lit × DataW H → Nat
  | (.string bytes, d) => bytes.length + uptoBulk d + 1
  | (_, d) => uptoBulk d + 1
 end
def uptoSmall : (H : Type) → List (DataW H) → Bool := fun _ ds => decide (uptoBulkAll ds ≤ 1048576)
def OpenSpec.upto (s : _root_.Go.ChangeSpec) : _root_.Go.OpenSpec := { _root_.Go.OpenSpec.ofChange s with cond := some uptoSmall }

/-- 'burgeonlaw17.TableSnaps', WHERE WHAT IT READS IS OF BULK AT MOST 1048576: true; the input reads as it did. -/
def tableSnapsUptoRow : OpenClaim := { program := "ytadgjhbhghhbgaa", sum := "ce4d037f92ad55502bc6731293d583d669619ac03a54004c999a228596861447", func := "burgeon/burgeonlaw17.TableSnaps", spec := "tableSnaps", apart := false, narrowed := true }
def TableSnapsUptoSaid : Prop := tableSnapsUptoRow.holds Try.pinned (OpenSpec.upto tableSnapsSpec)

/-- 'burgeonlaw17.TablePushes', WHERE WHAT IT READS IS OF BULK AT MOST 1048576: true; the input reads as it did. -/
def tablePushesUptoRow : OpenClaim := { program := "ytadgjhbhghhbgaa", sum := "ce4d037f92ad55502bc6731293d583d669619ac03a54004c999a228596861447", func := "burgeon/burgeonlaw17.TablePushes", spec := "tablePushes", unfollowed := true, recurses := true, apart := false, narrowed := true }
def TablePushesUptoSaid : Prop := tablePushesUptoRow.holds Try.pinned (OpenSpec.upto tablePushesSpec)

/-- 'burgeonlaw12.HeapSorts', WHERE WHAT IT READS IS OF BULK AT MOST 1048576: true; the input reads as it did. -/
def heapSortsUptoRow : OpenClaim := { program := "ytadgjhbhghhbgaa", sum := "ce4d037f92ad55502bc6731293d583d669619ac03a54004c999a228596861447", func := "burgeon/burgeonlaw12.HeapSorts", spec := "heapSorts", unfollowed := true, recurses := true, apart := false, narrowed := true }
def HeapSortsUptoSaid : Prop := heapSortsUptoRow.holds Try.pinned (OpenSpec.upto heapSortsSpec)

/-- 'burgeonlaw12.HeapMakes', WHERE WHAT IT READS IS OF BULK AT MOST 1048576: true; the input reads as it did. -/
def heapMakesUptoRow : OpenClaim := { program := "ytadgjhbhghhbgaa", sum := "ce4d037f92ad55502bc6731293d583d669619ac03a54004c999a228596861447", func := "burgeon/burgeonlaw12.HeapMakes", spec := "heapMakes", unfollowed := true, recurses := true, apart := false, narrowed := true }
def HeapMakesUptoSaid : Prop := heapMakesUptoRow.holds Try.pinned (OpenSpec.upto heapMakesSpec)

/-- 'burgeonlaw12.HeapMelds', WHERE WHAT IT READS IS OF BULK AT MOST 1048576: true; the input reads as it did. -/
def heapMeldsUptoRow : OpenClaim := { program := "ytadgjhbhghhbgaa", sum := "ce4d037f92ad55502bc6731293d583d669619ac03a54004c999a228596861447", func := "burgeon/burgeonlaw12.HeapMelds", spec := "heapMelds", unfollowed := true, recurses := true, apart := false, narrowed := true }
def HeapMeldsUptoSaid : Prop := heapMeldsUptoRow.holds Try.pinned (OpenSpec.upto heapMeldsSpec)

/-- 'burgeonlaw12.HeapLeast', WHERE WHAT IT READS IS OF BULK AT MOST 1048576: true; the input reads as it did. -/
def heapLeastUptoRow : OpenClaim := { program := "ytadgjhbhghhbgaa", sum := "ce4d037f92ad55502bc6731293d583d669619ac03a54004c999a228596861447", func := "burgeon/burgeonlaw12.HeapLeast", spec := "heapLeast", unfollowed := true, recurses := true, apart := false, narrowed := true }
def HeapLeastUptoSaid : Prop := heapLeastUptoRow.holds Try.pinned (OpenSpec.upto heapLeastSpec)

/-- 'burgeonlaw12.HeapOlder', WHERE WHAT IT READS IS OF BULK AT MOST 1048576: true; the input reads as it did. -/
def heapOlderUptoRow : OpenClaim := { program := "ytadgjhbhghhbgaa", sum := "ce4d037f92ad55502bc6731293d583d669619ac03a54004c999a228596861447", func := "burgeon/burgeonlaw12.HeapOlder", spec := "heapOlder", unfollowed := true, recurses := true, apart := false, narrowed := true }
def HeapOlderUptoSaid : Prop := heapOlderUptoRow.holds Try.pinned (OpenSpec.upto heapOlderSpec)

/-- 'burgeonlaw12.HeapTells', WHERE WHAT IT READS IS OF BULK AT MOST 1048576: true; the input reads as it did. -/
def heapTellsUptoRow : OpenClaim := { program := "ytadgjhbhghhbgaa", sum := "ce4d037f92ad55502bc6731293d583d669619ac03a54004c999a228596861447", func := "burgeon/burgeonlaw12.HeapTells", spec := "heapTells", unfollowed := true, recurses := true, apart := false, narrowed := true }
def HeapTellsUptoSaid : Prop := heapTellsUptoRow.holds Try.pinned (OpenSpec.upto heapTellsSpec)

end Rows
end Go.Proofs.Ytadgjhbhghhbgaa

/-
  No cell of these rows narrows 'for every input' (looked for: loops, veiled, ifaces, maps, wideKeys, modest, calm, conditions, laid).
  DERIVED. THE GIVEN ROWS OF THIS SEAT. 6 by the template 'for every input the law returns true; each argument reads behind the call as it read before'; 0 by the template 'total and deterministic' (their statements: YtifopbkhflpbfaaTotals.lean).
  GIVEN WITH THE SEED: the statements are not yours to turn. If you find one false, say at which input.
  Laid BY PROGRAM, IN A SANDBOX (cutbox-rows.mjs): the forced cells as the released guide's own fill.sh prints them over the translation 2471b72148973373… (all of the seat's roots in one cut). By AI agents, Wed Nov 11 2026. No macro, syntax, notation, axiom, sorry.
-/
import Derived.Test.YtifopbkhflpbfaaChecked
import GoSem.Claim
import GoSem.ClaimJoined
import GoSem.ClaimMapViews
import Derived.JoinedTies
import Derived.KernelRfl
namespace Go.Proofs.Ytifopbkhflpbfaa
/- THE CELL 'sum', in the pinned program and in every row, IS THE sha256 OF THE DUMP (.gsa) THAT YtifopbkhflpbfaaProg.lean LOADS. Nothing in Lean hashes anything: it is a label: what it is worth is what the hold of that sum in a sandbox is worth. -/
noncomputable def Try.pinned : Pinned := { name := "ytifopbkhflpbfaa", sum := "2471b72148973373c5bce7337ab7ced2b49d296fa9794e7b1ea0dd8215a705af", checked := Try.checked }
namespace Rows
def none {H : Type} : Left H := { results := [], args := [] }

/-- 'mailboatlaw26.ReachMatrices': WHATEVER THE INPUT: true; the input reads as it did. -/
def reachMatricesSpec : ChangeSpec := { name := "reachMatrices", fn := fun _ => fun
  | [d1, d2, d3, d4] => { results := [.lit (.bool true)], args := [d1, d2, d3, d4] }
  | _ => none }
def reachMatricesRow : OpenClaim := { program := "ytifopbkhflpbfaa", sum := "2471b72148973373c5bce7337ab7ced2b49d296fa9794e7b1ea0dd8215a705af", func := "mailboat/mailboatlaw26.ReachMatrices", spec := "reachMatrices", unfollowed := true, recurses := true, apart := false }
def ReachMatricesSaid : Prop := reachMatricesRow.holds Try.pinned (OpenSpec.ofChange reachMatricesSpec)

/-- ITS FALSE NEIGHBOUR: 'it returns false'. Refute it at one input. -/
def reachMatricesWrong : ChangeSpec := { name := "reachMatrices", fn := fun _ => fun
  | [d1, d2, d3, d4] => { results := [.lit (.bool false)], args := [d1, d2, d3, d4] }
  | _ => none }
def ReachMatricesWrongFalsely : Prop := reachMatricesRow.holds Try.pinned (OpenSpec.ofChange reachMatricesWrong)

/-- 'mailboatlaw26.ReachValues': WHATEVER THE INPUT: true; the input reads as it did. -/
def reachValuesSpec : ChangeSpec := { name := "reachValues", fn := fun _ => fun
  | [d1, d2, d3, d4, d5] => { results := [.lit (.bool true)], args := [d1, d2, d3, d4, d5] }
  | _ => none }
def reachValuesRow : OpenClaim := { program := "ytifopbkhflpbfaa", sum := "2471b72148973373c5bce7337ab7ced2b49d296fa9794e7b1ea0dd8215a705af", func := "mailboat/mailboatlaw26.ReachValues", spec := "reachValues", unfollowed := true, recurses := true, apart := false }
def ReachValuesSaid : Prop := reachValuesRow.holds Try.pinned (OpenSpec.ofChange reachValuesSpec)

/-- ITS FALSE NEIGHBOUR: 'it returns false'. Refute it at one input. -/
def reachValuesWrong : ChangeSpec := { name := "reachValues", fn := fun _ => fun
  | [d1, d2, d3, d4, d5] => { results := [.lit (.bool false)], args := [d1, d2, d3, d4, d5] }
  | _ => none }
def ReachValuesWrongFalsely : Prop := reachValuesRow.holds Try.pinned (OpenSpec.ofChange reachValuesWrong)

/-- 'mailboatlaw26.ReachWindows': WHATEVER THE INPUT: true; the input reads as it did. -/
def reachWindowsSpec : ChangeSpec := { name := "reachWindows", fn := fun _ => fun
  | [d1, d2, d3, d4, d5, d6, d7, d8] => { results := [.lit (.bool true)], args := [d1, d2, d3, d4, d5, d6, d7, d8] }
  | _ => none }
def reachWindowsRow : OpenClaim := { program := "ytifopbkhflpbfaa", sum := "2471b72148973373c5bce7337ab7ced2b49d296fa9794e7b1ea0dd8215a705af", func := "mailboat/mailboatlaw26.ReachWindows", spec := "reachWindows", unfollowed := true, recurses := true, apart := false }
def ReachWindowsSaid : Prop := reachWindowsRow.holds Try.pinned (OpenSpec.ofChange reachWindowsSpec)

/-- ITS FALSE NEIGHBOUR: 'it returns false'. Refute it at one input. -/
def reachWindowsWrong : ChangeSpec := { name := "reachWindows", fn := fun _ => fun
  | [d1, d2, d3, d4, d5, d6, d7, d8] => { results := [.lit (.bool false)], args := [d1, d2, d3, d4, d5, d6, d7, d8] }
  | _ => none }
def ReachWindowsWrongFalsely : Prop := reachWindowsRow.holds Try.pinned (OpenSpec.ofChange reachWindowsWrong)

/-- 'mailboatlaw26.ReachHubs': WHATEVER THE INPUT: true; the input reads as it did. -/
def reachHubsSpec : ChangeSpec := { name := "reachHubs", fn := fun _ => fun
  | [d1, d2, d3, d4] => { results := [.lit (.bool true)], args := [d1, d2, d3, d4] }
  | _ => none }
def reachHubsRow : OpenClaim := { program := "ytifopbkhflpbfaa", sum := "2471b72148973373c5bce7337ab7ced2b49d296fa9794e7b1ea0dd8215a705af", func := "mailboat/mailboatlaw26.ReachHubs", spec := "reachHubs", unfollowed := true, recurses := true, apart := false }
def ReachHubsSaid : Prop := reachHubsRow.holds Try.pinned (OpenSpec.ofChange reachHubsSpec)

/-- ITS FALSE NEIGHBOUR: 'it returns false'. Refute it at one input. -/
def reachHubsWrong : ChangeSpec := { name := "reachHubs", fn := fun _ => fun
  | [d1, d2, d3, d4] => { results := [.lit (.bool false)], args := [d1, d2, d3, d4] }
  | _ => none }
def ReachHubsWrongFalsely : Prop := reachHubsRow.holds Try.pinned (OpenSpec.ofChange reachHubsWrong)

/-- 'mailboatlaw26.ReachFastest': WHATEVER THE INPUT: true; the input reads as it did. -/
def reachFastestSpec : ChangeSpec := { name := "reachFastest", fn := fun _ => fun
  | [d1, d2, d3, d4, d5] => { results := [.lit (.bool true)], args := [d1, d2, d3, d4, d5] }
  | _ => none }
def reachFastestRow : OpenClaim := { program := "ytifopbkhflpbfaa", sum := "2471b72148973373c5bce7337ab7ced2b49d296fa9794e7b1ea0dd8215a705af", func := "mailboat/mailboatlaw26.ReachFastest", spec := "reachFastest", unfollowed := true, recurses := true, apart := false }
def ReachFastestSaid : Prop := reachFastestRow.holds Try.pinned (OpenSpec.ofChange reachFastestSpec)

/-- ITS FALSE NEIGHBOUR: 'it returns false'. Refute it at one input. -/
def reachFastestWrong : ChangeSpec := { name := "reachFastest", fn := fun _ => fun
  | [d1, d2, d3, d4, d5] => { results := [.lit (.bool false)], args := [d1, d2, d3, d4, d5] }
  | _ => none }
def ReachFastestWrongFalsely : Prop := reachFastestRow.holds Try.pinned (OpenSpec.ofChange reachFastestWrong)

/-- 'mailboatlaw26.ReachCounts': WHATEVER THE INPUT: true; the input reads as it did. -/
def reachCountsSpec : ChangeSpec := { name := "reachCounts", fn := fun _ => fun
  | [d1, d2, d3, d4] => { results := [.lit (.bool true)], args := [d1, d2, d3, d4] }
  | _ => none }
def reachCountsRow : OpenClaim := { program := "ytifopbkhflpbfaa", sum := "2471b72148973373c5bce7337ab7ced2b49d296fa9794e7b1ea0dd8215a705af", func := "mailboat/mailboatlaw26.ReachCounts", spec := "reachCounts", unfollowed := true, recurses := true, apart := false }
def ReachCountsSaid : Prop := reachCountsRow.holds Try.pinned (OpenSpec.ofChange reachCountsSpec)

/-- ITS FALSE NEIGHBOUR: 'it returns false'. Refute it at one input. -/
def reachCountsWrong : ChangeSpec := { name := "reachCounts", fn := fun _ => fun
  | [d1, d2, d3, d4] => { results := [.lit (.bool false)], args := [d1, d2, d3, d4] }
  | _ => none }
def ReachCountsWrongFalsely : Prop := reachCountsRow.holds Try.pinned (OpenSpec.ofChange reachCountsWrong)

/- THE SECOND FORM. 'bulk': how many values and letters a reading holds, each counted each time it is reached (what is shared counts as often as it is met; a slice's spare places count too). A statement '..UptoSaid' is the law's where the arguments, and the package variables that the reading takes, are together of bulk at most 1048576: NARROWER than '..Said'. Prove '..Said' where nothing that the law and all that it calls make is longer than what came in: it says more and counts as full. Else prove '..UptoSaid'. A law counts once. -/
mutual
def uptoBulk {H : Type} : DataW H → Nat
  | .lit (.string bytes) => bytes.length + 1
  | .lit _ => 1
  | .nil => 1
  | .ptr d => uptoBulk d + 1
  | .slice elems spare => uptoBulkAll elems + uptoBulkAll spare + 1
  | .agg parts => uptoBulkAll parts + 1
  | .iface _ d => uptoBulk d + 1
  | .map entries => uptoBulkEntries entries + 1
  | .held _ => 1
def uptoBulkAll {H : Type} : List (DataW H) → Nat
  | [] => 0
  | d :: r => uptoBulk d + uptoBulkAll r
def uptoBulkEntries {H : Type} : List (Lit × DataW H) → Nat
  | [] => 0
  | x :: r => uptoBulkEntry x + uptoBulkEntries r
def uptoBulkEntry {H : Type} : Lit × DataW H → Nat
  | (.string bytes, d) => bytes.length + uptoBulk d + 1
  | (_, d) => uptoBulk d + 1
 end
def uptoSmall : (H : Type) → List (DataW H) → Bool := fun _ ds => decide (uptoBulkAll ds ≤ 1048576)
def OpenSpec.upto (s : _root_.Go.ChangeSpec) : _root_.Go.OpenSpec := { _root_.Go.OpenSpec.ofChange s with cond := some uptoSmall }

/-- 'mailboatlaw26.ReachMatrices', WHERE WHAT IT READS IS OF BULK AT MOST 1048576: true; the input reads as it did. -/
def reachMatricesUptoRow : OpenClaim := { program := "ytifopbkhflpbfaa", sum := "2471b72148973373c5bce7337ab7ced2b49d296fa9794e7b1ea0dd8215a705af", func := "mailboat/mailboatlaw26.ReachMatrices", spec := "reachMatrices", unfollowed := true, recurses := true, apart := false, narrowed := true }
def ReachMatricesUptoSaid : Prop := reachMatricesUptoRow.holds Try.pinned (OpenSpec.upto reachMatricesSpec)

/-- 'mailboatlaw26.ReachValues', WHERE WHAT IT READS IS OF BULK AT MOST 1048576: true; the input reads as it did. -/
def reachValuesUptoRow : OpenClaim := { program := "ytifopbkhflpbfaa", sum := "2471b72148973373c5bce7337ab7ced2b49d296fa9794e7b1ea0dd8215a705af", func := "mailboat/mailboatlaw26.ReachValues", spec := "reachValues", unfollowed := true, recurses := true, apart := false, narrowed := true }
def ReachValuesUptoSaid : Prop := reachValuesUptoRow.holds Try.pinned (OpenSpec.upto reachValuesSpec)

/-- 'mailboatlaw26.ReachWindows', WHERE WHAT IT READS IS OF BULK AT MOST 1048576: true; the input reads as it did. -/
def reachWindowsUptoRow : OpenClaim := { program := "ytifopbkhflpbfaa", sum := "2471b72148973373c5bce7337ab7ced2b49d296fa9794e7b1ea0dd8215a705af", func := "mailboat/mailboatlaw26.ReachWindows", spec := "reachWindows", unfollowed := true, recurses := true, apart := false, narrowed := true }
def ReachWindowsUptoSaid : Prop := reachWindowsUptoRow.holds Try.pinned (OpenSpec.upto reachWindowsSpec)

/-- 'mailboatlaw26.ReachHubs', WHERE WHAT IT READS IS OF BULK AT MOST 1048576: true; the input reads as it did. -/
def reachHubsUptoRow : OpenClaim := { program := "ytifopbkhflpbfaa", sum := "2471b72148973373c5bce7337ab7ced2b49d296fa9794e7b1ea0dd8215a705af", func := "mailboat/mailboatlaw26.ReachHubs", spec := "reachHubs", unfollowed := true, recurses := true, apart := false, narrowed := true }
def ReachHubsUptoSaid : Prop := reachHubsUptoRow.holds Try.pinned (OpenSpec.upto reachHubsSpec)

/-- 'mailboatlaw26.ReachFastest', WHERE WHAT IT READS IS OF BULK AT MOST 1048576: true; the input reads as it did. -/
def reachFastestUptoRow : OpenClaim := { program := "ytifopbkhflpbfaa", sum := "2471b72148973373c5bce7337ab7ced2b49d296fa9794e7b1ea0dd8215a705af", func := "mailboat/mailboatlaw26.ReachFastest", spec := "reachFastest", unfollowed := true, recurses := true, apart := false, narrowed := true }
def ReachFastestUptoSaid : Prop := reachFastestUptoRow.holds Try.pinned (OpenSpec.upto reachFastestSpec)

/-- 'mailboatlaw26.ReachCounts', WHERE WHAT IT READS IS OF BULK AT MOST 1048576: true; the input reads as it did. -/
def reachCountsUptoRow : OpenClaim := { program := "ytifopbkhflpbfaa", sum := "2471b72148973373c5bce7337ab7ced2b49d296fa9794e7b1ea0dd8215a705af", func := "mailboat/mailboatlaw26.ReachCounts", spec := "reachCounts", unfollowed := true, recurses := true, apart := false, narrowed := true }
def ReachCountsUptoSaid : Prop := reachCountsUptoRow.holds Try.pinned (OpenSpec.upto reachCountsSpec)

end Rows
end Go.Proofs.Ytifopbkhflpbfaa

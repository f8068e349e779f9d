/-
  No cell of these rows narrows 'for every input' (looked for: loops, veiled, ifaces, maps, wideKeys, modest, calm, conditions, laid).
  DERIVED. THE GIVEN ROWS OF THIS SEAT. 5 by the template 'for every input the law returns true; each argument reads behind the call as it read before'; 0 by the template 'total and deterministic' (their statements: YtbgdglcnminbaaaTotals.lean).
  GIVEN WITH THE SEED: the statements are not yours to turn. If you find one false, say at which input.
  Laid BY PROGRAM, IN A SANDBOX (cutbox-rows.mjs): the forced cells as the released guide's own fill.sh prints them over the translation dff5354eebc5deaa… (all of the seat's roots in one cut). By AI agents, Wed Nov 11 2026. No macro, syntax, notation, axiom, sorry.
-/
import Derived.Test.YtbgdglcnminbaaaChecked
import GoSem.Claim
import GoSem.ClaimJoined
import GoSem.ClaimMapViews
import Derived.JoinedTies
import Derived.KernelRfl
namespace Go.Proofs.Ytbgdglcnminbaaa
/- THE CELL 'sum', in the pinned program and in every row, IS THE sha256 OF THE DUMP (.gsa) THAT YtbgdglcnminbaaaProg.lean LOADS. Nothing in Lean hashes anything: it is a label: what it is worth is what the hold of that sum in a sandbox is worth. -/
noncomputable def Try.pinned : Pinned := { name := "ytbgdglcnminbaaa", sum := "dff5354eebc5deaa150b7bbdc09bb3bc0687344dc8b42f875c7dde19a7b3b16b", checked := Try.checked }
namespace Rows
def none {H : Type} : Left H := { results := [], args := [] }

/-- 'mailboatlaw35.MulticastPrefix': WHATEVER THE INPUT: true; the input reads as it did. -/
def multicastPrefixSpec : ChangeSpec := { name := "multicastPrefix", fn := fun _ => fun
  | [d1, d2, d3, d4] => { results := [.lit (.bool true)], args := [d1, d2, d3, d4] }
  | _ => none }
def multicastPrefixRow : OpenClaim := { program := "ytbgdglcnminbaaa", sum := "dff5354eebc5deaa150b7bbdc09bb3bc0687344dc8b42f875c7dde19a7b3b16b", func := "mailboat/mailboatlaw35.MulticastPrefix", spec := "multicastPrefix", unfollowed := true, recurses := true, apart := false }
def MulticastPrefixSaid : Prop := multicastPrefixRow.holds Try.pinned (OpenSpec.ofChange multicastPrefixSpec)

/-- ITS FALSE NEIGHBOUR: 'it returns false'. Refute it at one input. -/
def multicastPrefixWrong : ChangeSpec := { name := "multicastPrefix", fn := fun _ => fun
  | [d1, d2, d3, d4] => { results := [.lit (.bool false)], args := [d1, d2, d3, d4] }
  | _ => none }
def MulticastPrefixWrongFalsely : Prop := multicastPrefixRow.holds Try.pinned (OpenSpec.ofChange multicastPrefixWrong)

/-- 'mailboatlaw35.MulticastEarliest': WHATEVER THE INPUT: true; the input reads as it did. -/
def multicastEarliestSpec : ChangeSpec := { name := "multicastEarliest", fn := fun _ => fun
  | [d1, d2, d3] => { results := [.lit (.bool true)], args := [d1, d2, d3] }
  | _ => none }
def multicastEarliestRow : OpenClaim := { program := "ytbgdglcnminbaaa", sum := "dff5354eebc5deaa150b7bbdc09bb3bc0687344dc8b42f875c7dde19a7b3b16b", func := "mailboat/mailboatlaw35.MulticastEarliest", spec := "multicastEarliest", unfollowed := true, recurses := true, apart := false }
def MulticastEarliestSaid : Prop := multicastEarliestRow.holds Try.pinned (OpenSpec.ofChange multicastEarliestSpec)

/-- ITS FALSE NEIGHBOUR: 'it returns false'. Refute it at one input. -/
def multicastEarliestWrong : ChangeSpec := { name := "multicastEarliest", fn := fun _ => fun
  | [d1, d2, d3] => { results := [.lit (.bool false)], args := [d1, d2, d3] }
  | _ => none }
def MulticastEarliestWrongFalsely : Prop := multicastEarliestRow.holds Try.pinned (OpenSpec.ofChange multicastEarliestWrong)

/-- 'mailboatlaw35.MulticastTrees': WHATEVER THE INPUT: true; the input reads as it did. -/
def multicastTreesSpec : ChangeSpec := { name := "multicastTrees", fn := fun _ => fun
  | [d1, d2, d3] => { results := [.lit (.bool true)], args := [d1, d2, d3] }
  | _ => none }
def multicastTreesRow : OpenClaim := { program := "ytbgdglcnminbaaa", sum := "dff5354eebc5deaa150b7bbdc09bb3bc0687344dc8b42f875c7dde19a7b3b16b", func := "mailboat/mailboatlaw35.MulticastTrees", spec := "multicastTrees", unfollowed := true, recurses := true, apart := false }
def MulticastTreesSaid : Prop := multicastTreesRow.holds Try.pinned (OpenSpec.ofChange multicastTreesSpec)

/-- ITS FALSE NEIGHBOUR: 'it returns false'. Refute it at one input. -/
def multicastTreesWrong : ChangeSpec := { name := "multicastTrees", fn := fun _ => fun
  | [d1, d2, d3] => { results := [.lit (.bool false)], args := [d1, d2, d3] }
  | _ => none }
def MulticastTreesWrongFalsely : Prop := multicastTreesRow.holds Try.pinned (OpenSpec.ofChange multicastTreesWrong)

/-- 'mailboatlaw35.MulticastPruned': WHATEVER THE INPUT: true; the input reads as it did. -/
def multicastPrunedSpec : ChangeSpec := { name := "multicastPruned", fn := fun _ => fun
  | [d1, d2, d3, d4] => { results := [.lit (.bool true)], args := [d1, d2, d3, d4] }
  | _ => none }
def multicastPrunedRow : OpenClaim := { program := "ytbgdglcnminbaaa", sum := "dff5354eebc5deaa150b7bbdc09bb3bc0687344dc8b42f875c7dde19a7b3b16b", func := "mailboat/mailboatlaw35.MulticastPruned", spec := "multicastPruned", unfollowed := true, recurses := true, apart := false }
def MulticastPrunedSaid : Prop := multicastPrunedRow.holds Try.pinned (OpenSpec.ofChange multicastPrunedSpec)

/-- ITS FALSE NEIGHBOUR: 'it returns false'. Refute it at one input. -/
def multicastPrunedWrong : ChangeSpec := { name := "multicastPruned", fn := fun _ => fun
  | [d1, d2, d3, d4] => { results := [.lit (.bool false)], args := [d1, d2, d3, d4] }
  | _ => none }
def MulticastPrunedWrongFalsely : Prop := multicastPrunedRow.holds Try.pinned (OpenSpec.ofChange multicastPrunedWrong)

/-- 'mailboatlaw35.MulticastPaths': WHATEVER THE INPUT: true; the input reads as it did. -/
def multicastPathsSpec : ChangeSpec := { name := "multicastPaths", fn := fun _ => fun
  | [d1, d2, d3, d4] => { results := [.lit (.bool true)], args := [d1, d2, d3, d4] }
  | _ => none }
def multicastPathsRow : OpenClaim := { program := "ytbgdglcnminbaaa", sum := "dff5354eebc5deaa150b7bbdc09bb3bc0687344dc8b42f875c7dde19a7b3b16b", func := "mailboat/mailboatlaw35.MulticastPaths", spec := "multicastPaths", unfollowed := true, recurses := true, apart := false }
def MulticastPathsSaid : Prop := multicastPathsRow.holds Try.pinned (OpenSpec.ofChange multicastPathsSpec)

/-- ITS FALSE NEIGHBOUR: 'it returns false'. Refute it at one input. -/
def multicastPathsWrong : ChangeSpec := { name := "multicastPaths", fn := fun _ => fun
  | [d1, d2, d3, d4] => { results := [.lit (.bool false)], args := [d1, d2, d3, d4] }
  | _ => none }
def MulticastPathsWrongFalsely : Prop := multicastPathsRow.holds Try.pinned (OpenSpec.ofChange multicastPathsWrong)

/- THE SECOND FORM. 'bulk': how many values and letters a reading holds, each counted each time it is reached (what is shared counts as often as it is met; a slice's spare places count too). A statement '..UptoSaid' is the law's where the arguments, and the package variables that the reading takes, are together of bulk at most 1048576: NARROWER than '..Said'. Prove '..Said' where nothing that the law and all that it calls make is longer than what came in: it says more and counts as full. Else prove '..UptoSaid'. A law counts once. -/
mutual
def uptoBulk {H : Type} : DataW H → Nat
  | .lit (.string bytes) => bytes.length + 1
  | .lit _ => 1
  | .nil => 1
  | .ptr d => uptoBulk d + 1
  | .slice elems spare => uptoBulkAll elems + uptoBulkAll spare + 1
  | .agg parts => uptoBulkAll parts + 1
  | .iface _ d => uptoBulk d + 1
  | .map entries => uptoBulkEntries entries + 1
  | .held _ => 1
def uptoBulkAll {H : Type} : List (DataW H) → Nat
  | [] => 0
  | d :: r => uptoBulk d + uptoBulkAll r
def uptoBulkEntries {H : Type} : List (Lit × DataW H) → Nat
  | [] => 0
  | x :: r => uptoBulkEntry x + uptoBulkEntries r
def uptoBulkEntry {H : Type} : Lit × DataW H → Nat
  | (.string bytes, d) => bytes.length + uptoBulk d + 1
  | (_, d) => uptoBulk d + 1
 end
def uptoSmall : (H : Type) → List (DataW H) → Bool := fun _ ds => decide (uptoBulkAll ds ≤ 1048576)
def OpenSpec.upto (s : _root_.Go.ChangeSpec) : _root_.Go.OpenSpec := { _root_.Go.OpenSpec.ofChange s with cond := some uptoSmall }

/-- 'mailboatlaw35.MulticastPrefix', WHERE WHAT IT READS IS OF BULK AT MOST 1048576: true; the input reads as it did. -/
def multicastPrefixUptoRow : OpenClaim := { program := "ytbgdglcnminbaaa", sum := "dff5354eebc5deaa150b7bbdc09bb3bc0687344dc8b42f875c7dde19a7b3b16b", func := "mailboat/mailboatlaw35.MulticastPrefix", spec := "multicastPrefix", unfollowed := true, recurses := true, apart := false, narrowed := true }
def MulticastPrefixUptoSaid : Prop := multicastPrefixUptoRow.holds Try.pinned (OpenSpec.upto multicastPrefixSpec)

/-- 'mailboatlaw35.MulticastEarliest', WHERE WHAT IT READS IS OF BULK AT MOST 1048576: true; the input reads as it did. -/
def multicastEarliestUptoRow : OpenClaim := { program := "ytbgdglcnminbaaa", sum := "dff5354eebc5deaa150b7bbdc09bb3bc0687344dc8b42f875c7dde19a7b3b16b", func := "mailboat/mailboatlaw35.MulticastEarliest", spec := "multicastEarliest", unfollowed := true, recurses := true, apart := false, narrowed := true }
def MulticastEarliestUptoSaid : Prop := multicastEarliestUptoRow.holds Try.pinned (OpenSpec.upto multicastEarliestSpec)

/-- 'mailboatlaw35.MulticastTrees', WHERE WHAT IT READS IS OF BULK AT MOST 1048576: true; the input reads as it did. -/
def multicastTreesUptoRow : OpenClaim := { program := "ytbgdglcnminbaaa", sum := "dff5354eebc5deaa150b7bbdc09bb3bc0687344dc8b42f875c7dde19a7b3b16b", func := "mailboat/mailboatlaw35.MulticastTrees", spec := "multicastTrees", unfollowed := true, recurses := true, apart := false, narrowed := true }
def MulticastTreesUptoSaid : Prop := multicastTreesUptoRow.holds Try.pinned (OpenSpec.upto multicastTreesSpec)

/-- 'mailboatlaw35.MulticastPruned', WHERE WHAT IT READS IS OF BULK AT MOST 1048576: true; the input reads as it did. -/
def multicastPrunedUptoRow : OpenClaim := { program := "ytbgdglcnminbaaa", sum := "dff5354eebc5deaa150b7bbdc09bb3bc0687344dc8b42f875c7dde19a7b3b16b", func := "mailboat/mailboatlaw35.MulticastPruned", spec := "multicastPruned", unfollowed := true, recurses := true, apart := false, narrowed := true }
def MulticastPrunedUptoSaid : Prop := multicastPrunedUptoRow.holds Try.pinned (OpenSpec.upto multicastPrunedSpec)

/-- 'mailboatlaw35.MulticastPaths', WHERE WHAT IT READS IS OF BULK AT MOST 1048576: true; the input reads as it did. -/
def multicastPathsUptoRow : OpenClaim := { program := "ytbgdglcnminbaaa", sum := "dff5354eebc5deaa150b7bbdc09bb3bc0687344dc8b42f875c7dde19a7b3b16b", func := "mailboat/mailboatlaw35.MulticastPaths", spec := "multicastPaths", unfollowed := true, recurses := true, apart := false, narrowed := true }
def MulticastPathsUptoSaid : Prop := multicastPathsUptoRow.holds Try.pinned (OpenSpec.upto multicastPathsSpec)

end Rows
end Go.Proofs.Ytbgdglcnminbaaa

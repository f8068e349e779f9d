/-
  No cell of these rows narrows 'for every input' (looked for: loops, veiled, ifaces, maps, wideKeys, modest, calm, conditions, laid).
  DERIVED. THE GIVEN ROWS OF THIS SEAT. 7 by the template 'for every input the law returns true; each argument reads behind the call as it read before'; 0 by the template 'total and deterministic' (their statements: YtmpekjbhaekmpaaTotals.lean).
  GIVEN WITH THE SEED: the statements are not yours to turn. If you find one false, say at which input.
  Laid BY PROGRAM, IN A SANDBOX (cutbox-rows.mjs): the forced cells as the released guide's own fill.sh prints them over the translation f6315fd7ab97c3bc… (all of the seat's roots in one cut). By AI agents, Wed Nov 11 2026. No macro, syntax, notation, axiom, sorry.
-/
import Derived.Test.YtmpekjbhaekmpaaChecked
import GoSem.Claim
import GoSem.ClaimJoined
import GoSem.ClaimMapViews
import Derived.JoinedTies
import Derived.KernelRfl
namespace Go.Proofs.Ytmpekjbhaekmpaa
/- THE CELL 'sum', in the pinned program and in every row, IS THE sha256 OF THE DUMP (.gsa) THAT YtmpekjbhaekmpaaProg.lean LOADS. Nothing in Lean hashes anything: it is a label: what it is worth is what the hold of that sum in a sandbox is worth. -/
noncomputable def Try.pinned : Pinned := { name := "ytmpekjbhaekmpaa", sum := "f6315fd7ab97c3bc57cedcf6646ffc2fd0f89a114e3fd1de208106897f43bbf8", checked := Try.checked }
namespace Rows
def none {H : Type} : Left H := { results := [], args := [] }

/-- 'mailboatlaw25.LatestTimes': WHATEVER THE INPUT: true; the input reads as it did. -/
def latestTimesSpec : ChangeSpec := { name := "latestTimes", fn := fun _ => fun
  | [d1, d2, d3, d4] => { results := [.lit (.bool true)], args := [d1, d2, d3, d4] }
  | _ => none }
def latestTimesRow : OpenClaim := { program := "ytmpekjbhaekmpaa", sum := "f6315fd7ab97c3bc57cedcf6646ffc2fd0f89a114e3fd1de208106897f43bbf8", func := "mailboat/mailboatlaw25.LatestTimes", spec := "latestTimes", unfollowed := true, recurses := true, apart := false }
def LatestTimesSaid : Prop := latestTimesRow.holds Try.pinned (OpenSpec.ofChange latestTimesSpec)

/-- ITS FALSE NEIGHBOUR: 'it returns false'. Refute it at one input. -/
def latestTimesWrong : ChangeSpec := { name := "latestTimes", fn := fun _ => fun
  | [d1, d2, d3, d4] => { results := [.lit (.bool false)], args := [d1, d2, d3, d4] }
  | _ => none }
def LatestTimesWrongFalsely : Prop := latestTimesRow.holds Try.pinned (OpenSpec.ofChange latestTimesWrong)

/-- 'mailboatlaw25.LatestJourneys': WHATEVER THE INPUT: true; the input reads as it did. -/
def latestJourneysSpec : ChangeSpec := { name := "latestJourneys", fn := fun _ => fun
  | [d1, d2] => { results := [.lit (.bool true)], args := [d1, d2] }
  | _ => none }
def latestJourneysRow : OpenClaim := { program := "ytmpekjbhaekmpaa", sum := "f6315fd7ab97c3bc57cedcf6646ffc2fd0f89a114e3fd1de208106897f43bbf8", func := "mailboat/mailboatlaw25.LatestJourneys", spec := "latestJourneys", unfollowed := true, recurses := true, apart := false }
def LatestJourneysSaid : Prop := latestJourneysRow.holds Try.pinned (OpenSpec.ofChange latestJourneysSpec)

/-- ITS FALSE NEIGHBOUR: 'it returns false'. Refute it at one input. -/
def latestJourneysWrong : ChangeSpec := { name := "latestJourneys", fn := fun _ => fun
  | [d1, d2] => { results := [.lit (.bool false)], args := [d1, d2] }
  | _ => none }
def LatestJourneysWrongFalsely : Prop := latestJourneysRow.holds Try.pinned (OpenSpec.ofChange latestJourneysWrong)

/-- 'mailboatlaw25.LatestSuffixes': WHATEVER THE INPUT: true; the input reads as it did. -/
def latestSuffixesSpec : ChangeSpec := { name := "latestSuffixes", fn := fun _ => fun
  | [d1, d2] => { results := [.lit (.bool true)], args := [d1, d2] }
  | _ => none }
def latestSuffixesRow : OpenClaim := { program := "ytmpekjbhaekmpaa", sum := "f6315fd7ab97c3bc57cedcf6646ffc2fd0f89a114e3fd1de208106897f43bbf8", func := "mailboat/mailboatlaw25.LatestSuffixes", spec := "latestSuffixes", unfollowed := true, recurses := true, apart := false }
def LatestSuffixesSaid : Prop := latestSuffixesRow.holds Try.pinned (OpenSpec.ofChange latestSuffixesSpec)

/-- ITS FALSE NEIGHBOUR: 'it returns false'. Refute it at one input. -/
def latestSuffixesWrong : ChangeSpec := { name := "latestSuffixes", fn := fun _ => fun
  | [d1, d2] => { results := [.lit (.bool false)], args := [d1, d2] }
  | _ => none }
def LatestSuffixesWrongFalsely : Prop := latestSuffixesRow.holds Try.pinned (OpenSpec.ofChange latestSuffixesWrong)

/-- 'mailboatlaw25.LatestSlack': WHATEVER THE INPUT: true; the input reads as it did. -/
def latestSlackSpec : ChangeSpec := { name := "latestSlack", fn := fun _ => fun
  | [d1, d2, d3] => { results := [.lit (.bool true)], args := [d1, d2, d3] }
  | _ => none }
def latestSlackRow : OpenClaim := { program := "ytmpekjbhaekmpaa", sum := "f6315fd7ab97c3bc57cedcf6646ffc2fd0f89a114e3fd1de208106897f43bbf8", func := "mailboat/mailboatlaw25.LatestSlack", spec := "latestSlack", unfollowed := true, recurses := true, apart := false }
def LatestSlackSaid : Prop := latestSlackRow.holds Try.pinned (OpenSpec.ofChange latestSlackSpec)

/-- ITS FALSE NEIGHBOUR: 'it returns false'. Refute it at one input. -/
def latestSlackWrong : ChangeSpec := { name := "latestSlack", fn := fun _ => fun
  | [d1, d2, d3] => { results := [.lit (.bool false)], args := [d1, d2, d3] }
  | _ => none }
def LatestSlackWrongFalsely : Prop := latestSlackRow.holds Try.pinned (OpenSpec.ofChange latestSlackWrong)

/-- 'mailboatlaw25.LatestSufficient': WHATEVER THE INPUT: true; the input reads as it did. -/
def latestSufficientSpec : ChangeSpec := { name := "latestSufficient", fn := fun _ => fun
  | [d1, d2] => { results := [.lit (.bool true)], args := [d1, d2] }
  | _ => none }
def latestSufficientRow : OpenClaim := { program := "ytmpekjbhaekmpaa", sum := "f6315fd7ab97c3bc57cedcf6646ffc2fd0f89a114e3fd1de208106897f43bbf8", func := "mailboat/mailboatlaw25.LatestSufficient", spec := "latestSufficient", unfollowed := true, recurses := true, apart := false }
def LatestSufficientSaid : Prop := latestSufficientRow.holds Try.pinned (OpenSpec.ofChange latestSufficientSpec)

/-- ITS FALSE NEIGHBOUR: 'it returns false'. Refute it at one input. -/
def latestSufficientWrong : ChangeSpec := { name := "latestSufficient", fn := fun _ => fun
  | [d1, d2] => { results := [.lit (.bool false)], args := [d1, d2] }
  | _ => none }
def LatestSufficientWrongFalsely : Prop := latestSufficientRow.holds Try.pinned (OpenSpec.ofChange latestSufficientWrong)

/-- 'mailboatlaw25.LatestMonotone': WHATEVER THE INPUT: true; the input reads as it did. -/
def latestMonotoneSpec : ChangeSpec := { name := "latestMonotone", fn := fun _ => fun
  | [d1, d2, d3, d4, d5] => { results := [.lit (.bool true)], args := [d1, d2, d3, d4, d5] }
  | _ => none }
def latestMonotoneRow : OpenClaim := { program := "ytmpekjbhaekmpaa", sum := "f6315fd7ab97c3bc57cedcf6646ffc2fd0f89a114e3fd1de208106897f43bbf8", func := "mailboat/mailboatlaw25.LatestMonotone", spec := "latestMonotone", unfollowed := true, recurses := true, apart := false }
def LatestMonotoneSaid : Prop := latestMonotoneRow.holds Try.pinned (OpenSpec.ofChange latestMonotoneSpec)

/-- ITS FALSE NEIGHBOUR: 'it returns false'. Refute it at one input. -/
def latestMonotoneWrong : ChangeSpec := { name := "latestMonotone", fn := fun _ => fun
  | [d1, d2, d3, d4, d5] => { results := [.lit (.bool false)], args := [d1, d2, d3, d4, d5] }
  | _ => none }
def LatestMonotoneWrongFalsely : Prop := latestMonotoneRow.holds Try.pinned (OpenSpec.ofChange latestMonotoneWrong)

/-- 'mailboatlaw25.LatestNecessary': WHATEVER THE INPUT: true; the input reads as it did. -/
def latestNecessarySpec : ChangeSpec := { name := "latestNecessary", fn := fun _ => fun
  | [d1, d2, d3] => { results := [.lit (.bool true)], args := [d1, d2, d3] }
  | _ => none }
def latestNecessaryRow : OpenClaim := { program := "ytmpekjbhaekmpaa", sum := "f6315fd7ab97c3bc57cedcf6646ffc2fd0f89a114e3fd1de208106897f43bbf8", func := "mailboat/mailboatlaw25.LatestNecessary", spec := "latestNecessary", unfollowed := true, recurses := true, apart := false }
def LatestNecessarySaid : Prop := latestNecessaryRow.holds Try.pinned (OpenSpec.ofChange latestNecessarySpec)

/-- ITS FALSE NEIGHBOUR: 'it returns false'. Refute it at one input. -/
def latestNecessaryWrong : ChangeSpec := { name := "latestNecessary", fn := fun _ => fun
  | [d1, d2, d3] => { results := [.lit (.bool false)], args := [d1, d2, d3] }
  | _ => none }
def LatestNecessaryWrongFalsely : Prop := latestNecessaryRow.holds Try.pinned (OpenSpec.ofChange latestNecessaryWrong)

/- THE SECOND FORM. 'bulk': how many values and letters a reading holds, each counted each time it is reached (what is shared counts as often as it is met; a slice's spare places count too). A statement '..UptoSaid' is the law's where the arguments, and the package variables that the reading takes, are together of bulk at most 1048576: NARROWER than '..Said'. Prove '..Said' where nothing that the law and all that it calls make is longer than what came in: it says more and counts as full. Else prove '..UptoSaid'. A law counts once. -/
mutual
def uptoBulk {H : Type} : DataW H → Nat
  | .lit (.string bytes) => bytes.length + 1
  | .lit _ => 1
  | .nil => 1
  | .ptr d => uptoBulk d + 1
  | .slice elems spare => uptoBulkAll elems + uptoBulkAll spare + 1
  | .agg parts => uptoBulkAll parts + 1
  | .iface _ d => uptoBulk d + 1
  | .map entries => uptoBulkEntries entries + 1
  | .held _ => 1
def uptoBulkAll {H : Type} : List (DataW H) → Nat
  | [] => 0
  | d :: r => uptoBulk d + uptoBulkAll r
def uptoBulkEntries {H : Type} : List (Lit × DataW H) → Nat
  | [] => 0
  | x :: r => uptoBulkEntry x + uptoBulkEntries r
def uptoBulkEntry {H : Type} : Lit × DataW H → Nat
  | (.string bytes, d) => bytes.length + uptoBulk d + 1
  | (_, d) => uptoBulk d + 1
 end
def uptoSmall : (H : Type) → List (DataW H) → Bool := fun _ ds => decide (uptoBulkAll ds ≤ 1048576)
def OpenSpec.upto (s : _root_.Go.ChangeSpec) : _root_.Go.OpenSpec := { _root_.Go.OpenSpec.ofChange s with cond := some uptoSmall }

/-- 'mailboatlaw25.LatestTimes', WHERE WHAT IT READS IS OF BULK AT MOST 1048576: true; the input reads as it did. -/
def latestTimesUptoRow : OpenClaim := { program := "ytmpekjbhaekmpaa", sum := "f6315fd7ab97c3bc57cedcf6646ffc2fd0f89a114e3fd1de208106897f43bbf8", func := "mailboat/mailboatlaw25.LatestTimes", spec := "latestTimes", unfollowed := true, recurses := true, apart := false, narrowed := true }
def LatestTimesUptoSaid : Prop := latestTimesUptoRow.holds Try.pinned (OpenSpec.upto latestTimesSpec)

/-- 'mailboatlaw25.LatestJourneys', WHERE WHAT IT READS IS OF BULK AT MOST 1048576: true; the input reads as it did. -/
def latestJourneysUptoRow : OpenClaim := { program := "ytmpekjbhaekmpaa", sum := "f6315fd7ab97c3bc57cedcf6646ffc2fd0f89a114e3fd1de208106897f43bbf8", func := "mailboat/mailboatlaw25.LatestJourneys", spec := "latestJourneys", unfollowed := true, recurses := true, apart := false, narrowed := true }
def LatestJourneysUptoSaid : Prop := latestJourneysUptoRow.holds Try.pinned (OpenSpec.upto latestJourneysSpec)

/-- 'mailboatlaw25.LatestSuffixes', WHERE WHAT IT READS IS OF BULK AT MOST 1048576: true; the input reads as it did. -/
def latestSuffixesUptoRow : OpenClaim := { program := "ytmpekjbhaekmpaa", sum := "f6315fd7ab97c3bc57cedcf6646ffc2fd0f89a114e3fd1de208106897f43bbf8", func := "mailboat/mailboatlaw25.LatestSuffixes", spec := "latestSuffixes", unfollowed := true, recurses := true, apart := false, narrowed := true }
def LatestSuffixesUptoSaid : Prop := latestSuffixesUptoRow.holds Try.pinned (OpenSpec.upto latestSuffixesSpec)

/-- 'mailboatlaw25.LatestSlack', WHERE WHAT IT READS IS OF BULK AT MOST 1048576: true; the input reads as it did. -/
def latestSlackUptoRow : OpenClaim := { program := "ytmpekjbhaekmpaa", sum := "f6315fd7ab97c3bc57cedcf6646ffc2fd0f89a114e3fd1de208106897f43bbf8", func := "mailboat/mailboatlaw25.LatestSlack", spec := "latestSlack", unfollowed := true, recurses := true, apart := false, narrowed := true }
def LatestSlackUptoSaid : Prop := latestSlackUptoRow.holds Try.pinned (OpenSpec.upto latestSlackSpec)

/-- 'mailboatlaw25.LatestSufficient', WHERE WHAT IT READS IS OF BULK AT MOST 1048576: true; the input reads as it did. -/
def latestSufficientUptoRow : OpenClaim := { program := "ytmpekjbhaekmpaa", sum := "f6315fd7ab97c3bc57cedcf6646ffc2fd0f89a114e3fd1de208106897f43bbf8", func := "mailboat/mailboatlaw25.LatestSufficient", spec := "latestSufficient", unfollowed := true, recurses := true, apart := false, narrowed := true }
def LatestSufficientUptoSaid : Prop := latestSufficientUptoRow.holds Try.pinned (OpenSpec.upto latestSufficientSpec)

/-- 'mailboatlaw25.LatestMonotone', WHERE WHAT IT READS IS OF BULK AT MOST 1048576: true; the input reads as it did. -/
def latestMonotoneUptoRow : OpenClaim := { program := "ytmpekjbhaekmpaa", sum := "f6315fd7ab97c3bc57cedcf6646ffc2fd0f89a114e3fd1de208106897f43bbf8", func := "mailboat/mailboatlaw25.LatestMonotone", spec := "latestMonotone", unfollowed := true, recurses := true, apart := false, narrowed := true }
def LatestMonotoneUptoSaid : Prop := latestMonotoneUptoRow.holds Try.pinned (OpenSpec.upto latestMonotoneSpec)

/-- 'mailboatlaw25.LatestNecessary', WHERE WHAT IT READS IS OF BULK AT MOST 1048576: true; the input reads as it did. -/
def latestNecessaryUptoRow : OpenClaim := { program := "ytmpekjbhaekmpaa", sum := "f6315fd7ab97c3bc57cedcf6646ffc2fd0f89a114e3fd1de208106897f43bbf8", func := "mailboat/mailboatlaw25.LatestNecessary", spec := "latestNecessary", unfollowed := true, recurses := true, apart := false, narrowed := true }
def LatestNecessaryUptoSaid : Prop := latestNecessaryUptoRow.holds Try.pinned (OpenSpec.upto latestNecessarySpec)

end Rows
end Go.Proofs.Ytmpekjbhaekmpaa

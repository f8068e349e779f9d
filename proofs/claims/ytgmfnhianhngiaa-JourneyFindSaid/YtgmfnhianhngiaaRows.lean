/-
  No cell of these rows narrows 'for every input' (looked for: loops, veiled, ifaces, maps, wideKeys, modest, calm, conditions, laid).
  DERIVED. THE GIVEN ROWS OF THIS SEAT. 7 by the template 'for every input the law returns true; each argument reads behind the call as it read before'; 0 by the template 'total and deterministic' (their statements: YtgmfnhianhngiaaTotals.lean).
  GIVEN WITH THE SEED: the statements are not yours to turn. If you find one false, say at which input.
  Laid BY PROGRAM, IN A SANDBOX (cutbox-rows.mjs): the forced cells as the released guide's own fill.sh prints them over the translation d9130a87f1706c86… (all of the seat's roots in one cut). By AI agents, Wed Nov 11 2026. No macro, syntax, notation, axiom, sorry.
-/
import Derived.Test.YtgmfnhianhngiaaChecked
import GoSem.Claim
import GoSem.ClaimJoined
import GoSem.ClaimMapViews
import Derived.JoinedTies
import Derived.KernelRfl
namespace Go.Proofs.Ytgmfnhianhngiaa
/- THE CELL 'sum', in the pinned program and in every row, IS THE sha256 OF THE DUMP (.gsa) THAT YtgmfnhianhngiaaProg.lean LOADS. Nothing in Lean hashes anything: it is a label: what it is worth is what the hold of that sum in a sandbox is worth. -/
noncomputable def Try.pinned : Pinned := { name := "ytgmfnhianhngiaa", sum := "d9130a87f1706c86d21471353c96cb2a4a8fbc90064aaff35a2bedb24aa7fe12", checked := Try.checked }
namespace Rows
def none {H : Type} : Left H := { results := [], args := [] }

/-- 'mailboatlaw24.JourneyForemost': WHATEVER THE INPUT: true; the input reads as it did. -/
def journeyForemostSpec : ChangeSpec := { name := "journeyForemost", fn := fun _ => fun
  | [d1, d2, d3, d4] => { results := [.lit (.bool true)], args := [d1, d2, d3, d4] }
  | _ => none }
def journeyForemostRow : OpenClaim := { program := "ytgmfnhianhngiaa", sum := "d9130a87f1706c86d21471353c96cb2a4a8fbc90064aaff35a2bedb24aa7fe12", func := "mailboat/mailboatlaw24.JourneyForemost", spec := "journeyForemost", unfollowed := true, recurses := true, apart := false }
def JourneyForemostSaid : Prop := journeyForemostRow.holds Try.pinned (OpenSpec.ofChange journeyForemostSpec)

/-- ITS FALSE NEIGHBOUR: 'it returns false'. Refute it at one input. -/
def journeyForemostWrong : ChangeSpec := { name := "journeyForemost", fn := fun _ => fun
  | [d1, d2, d3, d4] => { results := [.lit (.bool false)], args := [d1, d2, d3, d4] }
  | _ => none }
def JourneyForemostWrongFalsely : Prop := journeyForemostRow.holds Try.pinned (OpenSpec.ofChange journeyForemostWrong)

/-- 'mailboatlaw24.JourneyMonotone': WHATEVER THE INPUT: true; the input reads as it did. -/
def journeyMonotoneSpec : ChangeSpec := { name := "journeyMonotone", fn := fun _ => fun
  | [d1, d2, d3, d4, d5] => { results := [.lit (.bool true)], args := [d1, d2, d3, d4, d5] }
  | _ => none }
def journeyMonotoneRow : OpenClaim := { program := "ytgmfnhianhngiaa", sum := "d9130a87f1706c86d21471353c96cb2a4a8fbc90064aaff35a2bedb24aa7fe12", func := "mailboat/mailboatlaw24.JourneyMonotone", spec := "journeyMonotone", unfollowed := true, recurses := true, apart := false }
def JourneyMonotoneSaid : Prop := journeyMonotoneRow.holds Try.pinned (OpenSpec.ofChange journeyMonotoneSpec)

/-- ITS FALSE NEIGHBOUR: 'it returns false'. Refute it at one input. -/
def journeyMonotoneWrong : ChangeSpec := { name := "journeyMonotone", fn := fun _ => fun
  | [d1, d2, d3, d4, d5] => { results := [.lit (.bool false)], args := [d1, d2, d3, d4, d5] }
  | _ => none }
def JourneyMonotoneWrongFalsely : Prop := journeyMonotoneRow.holds Try.pinned (OpenSpec.ofChange journeyMonotoneWrong)

/-- 'mailboatlaw24.JourneyLabels': WHATEVER THE INPUT: true; the input reads as it did. -/
def journeyLabelsSpec : ChangeSpec := { name := "journeyLabels", fn := fun _ => fun
  | [d1, d2] => { results := [.lit (.bool true)], args := [d1, d2] }
  | _ => none }
def journeyLabelsRow : OpenClaim := { program := "ytgmfnhianhngiaa", sum := "d9130a87f1706c86d21471353c96cb2a4a8fbc90064aaff35a2bedb24aa7fe12", func := "mailboat/mailboatlaw24.JourneyLabels", spec := "journeyLabels", unfollowed := true, recurses := true, apart := false }
def JourneyLabelsSaid : Prop := journeyLabelsRow.holds Try.pinned (OpenSpec.ofChange journeyLabelsSpec)

/-- ITS FALSE NEIGHBOUR: 'it returns false'. Refute it at one input. -/
def journeyLabelsWrong : ChangeSpec := { name := "journeyLabels", fn := fun _ => fun
  | [d1, d2] => { results := [.lit (.bool false)], args := [d1, d2] }
  | _ => none }
def JourneyLabelsWrongFalsely : Prop := journeyLabelsRow.holds Try.pinned (OpenSpec.ofChange journeyLabelsWrong)

/-- 'mailboatlaw24.JourneyHops': WHATEVER THE INPUT: true; the input reads as it did. -/
def journeyHopsSpec : ChangeSpec := { name := "journeyHops", fn := fun _ => fun
  | [d1, d2] => { results := [.lit (.bool true)], args := [d1, d2] }
  | _ => none }
def journeyHopsRow : OpenClaim := { program := "ytgmfnhianhngiaa", sum := "d9130a87f1706c86d21471353c96cb2a4a8fbc90064aaff35a2bedb24aa7fe12", func := "mailboat/mailboatlaw24.JourneyHops", spec := "journeyHops", unfollowed := true, recurses := true, apart := false }
def JourneyHopsSaid : Prop := journeyHopsRow.holds Try.pinned (OpenSpec.ofChange journeyHopsSpec)

/-- ITS FALSE NEIGHBOUR: 'it returns false'. Refute it at one input. -/
def journeyHopsWrong : ChangeSpec := { name := "journeyHops", fn := fun _ => fun
  | [d1, d2] => { results := [.lit (.bool false)], args := [d1, d2] }
  | _ => none }
def JourneyHopsWrongFalsely : Prop := journeyHopsRow.holds Try.pinned (OpenSpec.ofChange journeyHopsWrong)

/-- 'mailboatlaw24.JourneyFind': WHATEVER THE INPUT: true; the input reads as it did. -/
def journeyFindSpec : ChangeSpec := { name := "journeyFind", fn := fun _ => fun
  | [d1, d2, d3] => { results := [.lit (.bool true)], args := [d1, d2, d3] }
  | _ => none }
def journeyFindRow : OpenClaim := { program := "ytgmfnhianhngiaa", sum := "d9130a87f1706c86d21471353c96cb2a4a8fbc90064aaff35a2bedb24aa7fe12", func := "mailboat/mailboatlaw24.JourneyFind", spec := "journeyFind", unfollowed := true, recurses := true, apart := false }
def JourneyFindSaid : Prop := journeyFindRow.holds Try.pinned (OpenSpec.ofChange journeyFindSpec)

/-- ITS FALSE NEIGHBOUR: 'it returns false'. Refute it at one input. -/
def journeyFindWrong : ChangeSpec := { name := "journeyFind", fn := fun _ => fun
  | [d1, d2, d3] => { results := [.lit (.bool false)], args := [d1, d2, d3] }
  | _ => none }
def JourneyFindWrongFalsely : Prop := journeyFindRow.holds Try.pinned (OpenSpec.ofChange journeyFindWrong)

/-- 'mailboatlaw24.JourneyValid': WHATEVER THE INPUT: true; the input reads as it did. -/
def journeyValidSpec : ChangeSpec := { name := "journeyValid", fn := fun _ => fun
  | [d1, d2] => { results := [.lit (.bool true)], args := [d1, d2] }
  | _ => none }
def journeyValidRow : OpenClaim := { program := "ytgmfnhianhngiaa", sum := "d9130a87f1706c86d21471353c96cb2a4a8fbc90064aaff35a2bedb24aa7fe12", func := "mailboat/mailboatlaw24.JourneyValid", spec := "journeyValid", unfollowed := true, recurses := true, apart := false }
def JourneyValidSaid : Prop := journeyValidRow.holds Try.pinned (OpenSpec.ofChange journeyValidSpec)

/-- ITS FALSE NEIGHBOUR: 'it returns false'. Refute it at one input. -/
def journeyValidWrong : ChangeSpec := { name := "journeyValid", fn := fun _ => fun
  | [d1, d2] => { results := [.lit (.bool false)], args := [d1, d2] }
  | _ => none }
def JourneyValidWrongFalsely : Prop := journeyValidRow.holds Try.pinned (OpenSpec.ofChange journeyValidWrong)

/-- 'mailboatlaw24.JourneyLeast': WHATEVER THE INPUT: true; the input reads as it did. -/
def journeyLeastSpec : ChangeSpec := { name := "journeyLeast", fn := fun _ => fun
  | [d1, d2, d3] => { results := [.lit (.bool true)], args := [d1, d2, d3] }
  | _ => none }
def journeyLeastRow : OpenClaim := { program := "ytgmfnhianhngiaa", sum := "d9130a87f1706c86d21471353c96cb2a4a8fbc90064aaff35a2bedb24aa7fe12", func := "mailboat/mailboatlaw24.JourneyLeast", spec := "journeyLeast", unfollowed := true, recurses := true, apart := false }
def JourneyLeastSaid : Prop := journeyLeastRow.holds Try.pinned (OpenSpec.ofChange journeyLeastSpec)

/-- ITS FALSE NEIGHBOUR: 'it returns false'. Refute it at one input. -/
def journeyLeastWrong : ChangeSpec := { name := "journeyLeast", fn := fun _ => fun
  | [d1, d2, d3] => { results := [.lit (.bool false)], args := [d1, d2, d3] }
  | _ => none }
def JourneyLeastWrongFalsely : Prop := journeyLeastRow.holds Try.pinned (OpenSpec.ofChange journeyLeastWrong)

/- THE SECOND FORM. 'bulk': how many values and letters a reading holds, each counted each time it is reached (what is shared counts as often as it is met; a slice's spare places count too). A statement '..UptoSaid' is the law's where the arguments, and the package variables that the reading takes, are together of bulk at most 1048576: NARROWER than '..Said'. Prove '..Said' where nothing that the law and all that it calls make is longer than what came in: it says more and counts as full. Else prove '..UptoSaid'. A law counts once. -/
mutual
def uptoBulk {H : Type} : DataW H → Nat
  | .lit (.string bytes) => bytes.length + 1
  | .lit _ => 1
  | .nil => 1
  | .ptr d => uptoBulk d + 1
  | .slice elems spare => uptoBulkAll elems + uptoBulkAll spare + 1
  | .agg parts => uptoBulkAll parts + 1
  | .iface _ d => uptoBulk d + 1
  | .map entries => uptoBulkEntries entries + 1
  | .held _ => 1
def uptoBulkAll {H : Type} : List (DataW H) → Nat
  | [] => 0
  | d :: r => uptoBulk d + uptoBulkAll r
def uptoBulkEntries {H : Type} : List (Lit × DataW H) → Nat
  | [] => 0
  | x :: r => uptoBulkEntry x + uptoBulkEntries r
def uptoBulkEntry {H : Type} : Lit × DataW H → Nat
  | (.string bytes, d) => bytes.length + uptoBulk d + 1
  | (_, d) => uptoBulk d + 1
 end
def uptoSmall : (H : Type) → List (DataW H) → Bool := fun _ ds => decide (uptoBulkAll ds ≤ 1048576)
def OpenSpec.upto (s : _root_.Go.ChangeSpec) : _root_.Go.OpenSpec := { _root_.Go.OpenSpec.ofChange s with cond := some uptoSmall }

/-- 'mailboatlaw24.JourneyForemost', WHERE WHAT IT READS IS OF BULK AT MOST 1048576: true; the input reads as it did. -/
def journeyForemostUptoRow : OpenClaim := { program := "ytgmfnhianhngiaa", sum := "d9130a87f1706c86d21471353c96cb2a4a8fbc90064aaff35a2bedb24aa7fe12", func := "mailboat/mailboatlaw24.JourneyForemost", spec := "journeyForemost", unfollowed := true, recurses := true, apart := false, narrowed := true }
def JourneyForemostUptoSaid : Prop := journeyForemostUptoRow.holds Try.pinned (OpenSpec.upto journeyForemostSpec)

/-- 'mailboatlaw24.JourneyMonotone', WHERE WHAT IT READS IS OF BULK AT MOST 1048576: true; the input reads as it did. -/
def journeyMonotoneUptoRow : OpenClaim := { program := "ytgmfnhianhngiaa", sum := "d9130a87f1706c86d21471353c96cb2a4a8fbc90064aaff35a2bedb24aa7fe12", func := "mailboat/mailboatlaw24.JourneyMonotone", spec := "journeyMonotone", unfollowed := true, recurses := true, apart := false, narrowed := true }
def JourneyMonotoneUptoSaid : Prop := journeyMonotoneUptoRow.holds Try.pinned (OpenSpec.upto journeyMonotoneSpec)

/-- 'mailboatlaw24.JourneyLabels', WHERE WHAT IT READS IS OF BULK AT MOST 1048576: true; the input reads as it did. -/
def journeyLabelsUptoRow : OpenClaim := { program := "ytgmfnhianhngiaa", sum := "d9130a87f1706c86d21471353c96cb2a4a8fbc90064aaff35a2bedb24aa7fe12", func := "mailboat/mailboatlaw24.JourneyLabels", spec := "journeyLabels", unfollowed := true, recurses := true, apart := false, narrowed := true }
def JourneyLabelsUptoSaid : Prop := journeyLabelsUptoRow.holds Try.pinned (OpenSpec.upto journeyLabelsSpec)

/-- 'mailboatlaw24.JourneyHops', WHERE WHAT IT READS IS OF BULK AT MOST 1048576: true; the input reads as it did. -/
def journeyHopsUptoRow : OpenClaim := { program := "ytgmfnhianhngiaa", sum := "d9130a87f1706c86d21471353c96cb2a4a8fbc90064aaff35a2bedb24aa7fe12", func := "mailboat/mailboatlaw24.JourneyHops", spec := "journeyHops", unfollowed := true, recurses := true, apart := false, narrowed := true }
def JourneyHopsUptoSaid : Prop := journeyHopsUptoRow.holds Try.pinned (OpenSpec.upto journeyHopsSpec)

/-- 'mailboatlaw24.JourneyFind', WHERE WHAT IT READS IS OF BULK AT MOST 1048576: true; the input reads as it did. -/
def journeyFindUptoRow : OpenClaim := { program := "ytgmfnhianhngiaa", sum := "d9130a87f1706c86d21471353c96cb2a4a8fbc90064aaff35a2bedb24aa7fe12", func := "mailboat/mailboatlaw24.JourneyFind", spec := "journeyFind", unfollowed := true, recurses := true, apart := false, narrowed := true }
def JourneyFindUptoSaid : Prop := journeyFindUptoRow.holds Try.pinned (OpenSpec.upto journeyFindSpec)

/-- 'mailboatlaw24.JourneyValid', WHERE WHAT IT READS IS OF BULK AT MOST 1048576: true; the input reads as it did. -/
def journeyValidUptoRow : OpenClaim := { program := "ytgmfnhianhngiaa", sum := "d9130a87f1706c86d21471353c96cb2a4a8fbc90064aaff35a2bedb24aa7fe12", func := "mailboat/mailboatlaw24.JourneyValid", spec := "journeyValid", unfollowed := true, recurses := true, apart := false, narrowed := true }
def JourneyValidUptoSaid : Prop := journeyValidUptoRow.holds Try.pinned (OpenSpec.upto journeyValidSpec)

/-- 'mailboatlaw24.JourneyLeast', WHERE WHAT IT READS IS OF BULK AT MOST 1048576: true; the input reads as it did. -/
def journeyLeastUptoRow : OpenClaim := { program := "ytgmfnhianhngiaa", sum := "d9130a87f1706c86d21471353c96cb2a4a8fbc90064aaff35a2bedb24aa7fe12", func := "mailboat/mailboatlaw24.JourneyLeast", spec := "journeyLeast", unfollowed := true, recurses := true, apart := false, narrowed := true }
def JourneyLeastUptoSaid : Prop := journeyLeastUptoRow.holds Try.pinned (OpenSpec.upto journeyLeastSpec)

end Rows
end Go.Proofs.Ytgmfnhianhngiaa

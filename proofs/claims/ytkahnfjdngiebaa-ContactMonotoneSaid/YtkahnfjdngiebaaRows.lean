/-
  No cell of these rows narrows 'for every input' (looked for: loops, veiled, ifaces, maps, wideKeys, modest, calm, conditions, laid).
  DERIVED. THE GIVEN ROWS OF THIS SEAT. 8 by the template 'for every input the law returns true; each argument reads behind the call as it read before'; 0 by the template 'total and deterministic' (their statements: YtkahnfjdngiebaaTotals.lean).
  GIVEN WITH THE SEED: the statements are not yours to turn. If you find one false, say at which input.
  Laid BY PROGRAM, IN A SANDBOX (cutbox-rows.mjs): the forced cells as the released guide's own fill.sh prints them over the translation 5d13218bf493f4d5… (all of the seat's roots in one cut). By AI agents, Wed Nov 11 2026. No macro, syntax, notation, axiom, sorry.
-/
import Derived.Test.YtkahnfjdngiebaaChecked
import GoSem.Claim
import GoSem.ClaimJoined
import GoSem.ClaimMapViews
import Derived.JoinedTies
import Derived.KernelRfl
namespace Go.Proofs.Ytkahnfjdngiebaa
/- THE CELL 'sum', in the pinned program and in every row, IS THE sha256 OF THE DUMP (.gsa) THAT YtkahnfjdngiebaaProg.lean LOADS. Nothing in Lean hashes anything: it is a label: what it is worth is what the hold of that sum in a sandbox is worth. -/
noncomputable def Try.pinned : Pinned := { name := "ytkahnfjdngiebaa", sum := "5d13218bf493f4d5698c3d9e28d019b569eaca1f9237a206fd30b3ab72f1fbb2", checked := Try.checked }
namespace Rows
def none {H : Type} : Left H := { results := [], args := [] }

/-- 'mailboatlaw21.ContactSizes': WHATEVER THE INPUT: true; the input reads as it did. -/
def contactSizesSpec : ChangeSpec := { name := "contactSizes", fn := fun _ => fun
  | [d1, d2] => { results := [.lit (.bool true)], args := [d1, d2] }
  | _ => none }
def contactSizesRow : OpenClaim := { program := "ytkahnfjdngiebaa", sum := "5d13218bf493f4d5698c3d9e28d019b569eaca1f9237a206fd30b3ab72f1fbb2", func := "mailboat/mailboatlaw21.ContactSizes", spec := "contactSizes", unfollowed := true, recurses := true, apart := false }
def ContactSizesSaid : Prop := contactSizesRow.holds Try.pinned (OpenSpec.ofChange contactSizesSpec)

/-- ITS FALSE NEIGHBOUR: 'it returns false'. Refute it at one input. -/
def contactSizesWrong : ChangeSpec := { name := "contactSizes", fn := fun _ => fun
  | [d1, d2] => { results := [.lit (.bool false)], args := [d1, d2] }
  | _ => none }
def ContactSizesWrongFalsely : Prop := contactSizesRow.holds Try.pinned (OpenSpec.ofChange contactSizesWrong)

/-- 'mailboatlaw21.ContactMonotone': WHATEVER THE INPUT: true; the input reads as it did. -/
def contactMonotoneSpec : ChangeSpec := { name := "contactMonotone", fn := fun _ => fun
  | [d1, d2, d3, d4, d5] => { results := [.lit (.bool true)], args := [d1, d2, d3, d4, d5] }
  | _ => none }
def contactMonotoneRow : OpenClaim := { program := "ytkahnfjdngiebaa", sum := "5d13218bf493f4d5698c3d9e28d019b569eaca1f9237a206fd30b3ab72f1fbb2", func := "mailboat/mailboatlaw21.ContactMonotone", spec := "contactMonotone", unfollowed := true, recurses := true, apart := false }
def ContactMonotoneSaid : Prop := contactMonotoneRow.holds Try.pinned (OpenSpec.ofChange contactMonotoneSpec)

/-- ITS FALSE NEIGHBOUR: 'it returns false'. Refute it at one input. -/
def contactMonotoneWrong : ChangeSpec := { name := "contactMonotone", fn := fun _ => fun
  | [d1, d2, d3, d4, d5] => { results := [.lit (.bool false)], args := [d1, d2, d3, d4, d5] }
  | _ => none }
def ContactMonotoneWrongFalsely : Prop := contactMonotoneRow.holds Try.pinned (OpenSpec.ofChange contactMonotoneWrong)

/-- 'mailboatlaw21.ContactVolume': WHATEVER THE INPUT: true; the input reads as it did. -/
def contactVolumeSpec : ChangeSpec := { name := "contactVolume", fn := fun _ => fun
  | [d1, d2] => { results := [.lit (.bool true)], args := [d1, d2] }
  | _ => none }
def contactVolumeRow : OpenClaim := { program := "ytkahnfjdngiebaa", sum := "5d13218bf493f4d5698c3d9e28d019b569eaca1f9237a206fd30b3ab72f1fbb2", func := "mailboat/mailboatlaw21.ContactVolume", spec := "contactVolume", unfollowed := true, recurses := true, apart := false }
def ContactVolumeSaid : Prop := contactVolumeRow.holds Try.pinned (OpenSpec.ofChange contactVolumeSpec)

/-- ITS FALSE NEIGHBOUR: 'it returns false'. Refute it at one input. -/
def contactVolumeWrong : ChangeSpec := { name := "contactVolume", fn := fun _ => fun
  | [d1, d2] => { results := [.lit (.bool false)], args := [d1, d2] }
  | _ => none }
def ContactVolumeWrongFalsely : Prop := contactVolumeRow.holds Try.pinned (OpenSpec.ofChange contactVolumeWrong)

/-- 'mailboatlaw21.ContactFirst': WHATEVER THE INPUT: true; the input reads as it did. -/
def contactFirstSpec : ChangeSpec := { name := "contactFirst", fn := fun _ => fun
  | [d1, d2, d3, d4] => { results := [.lit (.bool true)], args := [d1, d2, d3, d4] }
  | _ => none }
def contactFirstRow : OpenClaim := { program := "ytkahnfjdngiebaa", sum := "5d13218bf493f4d5698c3d9e28d019b569eaca1f9237a206fd30b3ab72f1fbb2", func := "mailboat/mailboatlaw21.ContactFirst", spec := "contactFirst", unfollowed := true, recurses := true, apart := false }
def ContactFirstSaid : Prop := contactFirstRow.holds Try.pinned (OpenSpec.ofChange contactFirstSpec)

/-- ITS FALSE NEIGHBOUR: 'it returns false'. Refute it at one input. -/
def contactFirstWrong : ChangeSpec := { name := "contactFirst", fn := fun _ => fun
  | [d1, d2, d3, d4] => { results := [.lit (.bool false)], args := [d1, d2, d3, d4] }
  | _ => none }
def ContactFirstWrongFalsely : Prop := contactFirstRow.holds Try.pinned (OpenSpec.ofChange contactFirstWrong)

/-- 'mailboatlaw21.ContactParts': WHATEVER THE INPUT: true; the input reads as it did. -/
def contactPartsSpec : ChangeSpec := { name := "contactParts", fn := fun _ => fun
  | [d1, d2, d3] => { results := [.lit (.bool true)], args := [d1, d2, d3] }
  | _ => none }
def contactPartsRow : OpenClaim := { program := "ytkahnfjdngiebaa", sum := "5d13218bf493f4d5698c3d9e28d019b569eaca1f9237a206fd30b3ab72f1fbb2", func := "mailboat/mailboatlaw21.ContactParts", spec := "contactParts", unfollowed := true, recurses := true, apart := false }
def ContactPartsSaid : Prop := contactPartsRow.holds Try.pinned (OpenSpec.ofChange contactPartsSpec)

/-- ITS FALSE NEIGHBOUR: 'it returns false'. Refute it at one input. -/
def contactPartsWrong : ChangeSpec := { name := "contactParts", fn := fun _ => fun
  | [d1, d2, d3] => { results := [.lit (.bool false)], args := [d1, d2, d3] }
  | _ => none }
def ContactPartsWrongFalsely : Prop := contactPartsRow.holds Try.pinned (OpenSpec.ofChange contactPartsWrong)

/-- 'mailboatlaw21.ContactArrivals': WHATEVER THE INPUT: true; the input reads as it did. -/
def contactArrivalsSpec : ChangeSpec := { name := "contactArrivals", fn := fun _ => fun
  | [d1, d2, d3] => { results := [.lit (.bool true)], args := [d1, d2, d3] }
  | _ => none }
def contactArrivalsRow : OpenClaim := { program := "ytkahnfjdngiebaa", sum := "5d13218bf493f4d5698c3d9e28d019b569eaca1f9237a206fd30b3ab72f1fbb2", func := "mailboat/mailboatlaw21.ContactArrivals", spec := "contactArrivals", unfollowed := true, recurses := true, apart := false }
def ContactArrivalsSaid : Prop := contactArrivalsRow.holds Try.pinned (OpenSpec.ofChange contactArrivalsSpec)

/-- ITS FALSE NEIGHBOUR: 'it returns false'. Refute it at one input. -/
def contactArrivalsWrong : ChangeSpec := { name := "contactArrivals", fn := fun _ => fun
  | [d1, d2, d3] => { results := [.lit (.bool false)], args := [d1, d2, d3] }
  | _ => none }
def ContactArrivalsWrongFalsely : Prop := contactArrivalsRow.holds Try.pinned (OpenSpec.ofChange contactArrivalsWrong)

/-- 'mailboatlaw21.ContactTimes': WHATEVER THE INPUT: true; the input reads as it did. -/
def contactTimesSpec : ChangeSpec := { name := "contactTimes", fn := fun _ => fun
  | [d1, d2, d3, d4] => { results := [.lit (.bool true)], args := [d1, d2, d3, d4] }
  | _ => none }
def contactTimesRow : OpenClaim := { program := "ytkahnfjdngiebaa", sum := "5d13218bf493f4d5698c3d9e28d019b569eaca1f9237a206fd30b3ab72f1fbb2", func := "mailboat/mailboatlaw21.ContactTimes", spec := "contactTimes", unfollowed := true, recurses := true, apart := false }
def ContactTimesSaid : Prop := contactTimesRow.holds Try.pinned (OpenSpec.ofChange contactTimesSpec)

/-- ITS FALSE NEIGHBOUR: 'it returns false'. Refute it at one input. -/
def contactTimesWrong : ChangeSpec := { name := "contactTimes", fn := fun _ => fun
  | [d1, d2, d3, d4] => { results := [.lit (.bool false)], args := [d1, d2, d3, d4] }
  | _ => none }
def ContactTimesWrongFalsely : Prop := contactTimesRow.holds Try.pinned (OpenSpec.ofChange contactTimesWrong)

/-- 'mailboatlaw21.ContactOverlaps': WHATEVER THE INPUT: true; the input reads as it did. -/
def contactOverlapsSpec : ChangeSpec := { name := "contactOverlaps", fn := fun _ => fun
  | [d1, d2] => { results := [.lit (.bool true)], args := [d1, d2] }
  | _ => none }
def contactOverlapsRow : OpenClaim := { program := "ytkahnfjdngiebaa", sum := "5d13218bf493f4d5698c3d9e28d019b569eaca1f9237a206fd30b3ab72f1fbb2", func := "mailboat/mailboatlaw21.ContactOverlaps", spec := "contactOverlaps", unfollowed := true, recurses := true, apart := false }
def ContactOverlapsSaid : Prop := contactOverlapsRow.holds Try.pinned (OpenSpec.ofChange contactOverlapsSpec)

/-- ITS FALSE NEIGHBOUR: 'it returns false'. Refute it at one input. -/
def contactOverlapsWrong : ChangeSpec := { name := "contactOverlaps", fn := fun _ => fun
  | [d1, d2] => { results := [.lit (.bool false)], args := [d1, d2] }
  | _ => none }
def ContactOverlapsWrongFalsely : Prop := contactOverlapsRow.holds Try.pinned (OpenSpec.ofChange contactOverlapsWrong)

/- THE SECOND FORM. 'bulk': how many values and letters a reading holds, each counted each time it is reached (what is shared counts as often as it is met; a slice's spare places count too). A statement '..UptoSaid' is the law's where the arguments, and the package variables that the reading takes, are together of bulk at most 1048576: NARROWER than '..Said'. Prove '..Said' where nothing that the law and all that it calls make is longer than what came in: it says more and counts as full. Else prove '..UptoSaid'. A law counts once. -/
mutual
def uptoBulk {H : Type} : DataW H → Nat
  | .lit (.string bytes) => bytes.length + 1
  | .lit _ => 1
  | .nil => 1
  | .ptr d => uptoBulk d + 1
  | .slice elems spare => uptoBulkAll elems + uptoBulkAll spare + 1
  | .agg parts => uptoBulkAll parts + 1
  | .iface _ d => uptoBulk d + 1
  | .map entries => uptoBulkEntries entries + 1
  | .held _ => 1
def uptoBulkAll {H : Type} : List (DataW H) → Nat
  | [] => 0
  | d :: r => uptoBulk d + uptoBulkAll r
def uptoBulkEntries {H : Type} : List (Lit × DataW H) → Nat
  | [] => 0
  | x :: r => uptoBulkEntry x + uptoBulkEntries r
def uptoBulkEntry {H : Type} : Lit × DataW H → Nat
  | (.string bytes, d) => bytes.length + uptoBulk d + 1
  | (_, d) => uptoBulk d + 1
 end
def uptoSmall : (H : Type) → List (DataW H) → Bool := fun _ ds => decide (uptoBulkAll ds ≤ 1048576)
def OpenSpec.upto (s : _root_.Go.ChangeSpec) : _root_.Go.OpenSpec := { _root_.Go.OpenSpec.ofChange s with cond := some uptoSmall }

/-- 'mailboatlaw21.ContactSizes', WHERE WHAT IT READS IS OF BULK AT MOST 1048576: true; the input reads as it did. -/
def contactSizesUptoRow : OpenClaim := { program := "ytkahnfjdngiebaa", sum := "5d13218bf493f4d5698c3d9e28d019b569eaca1f9237a206fd30b3ab72f1fbb2", func := "mailboat/mailboatlaw21.ContactSizes", spec := "contactSizes", unfollowed := true, recurses := true, apart := false, narrowed := true }
def ContactSizesUptoSaid : Prop := contactSizesUptoRow.holds Try.pinned (OpenSpec.upto contactSizesSpec)

/-- 'mailboatlaw21.ContactMonotone', WHERE WHAT IT READS IS OF BULK AT MOST 1048576: true; the input reads as it did. -/
def contactMonotoneUptoRow : OpenClaim := { program := "ytkahnfjdngiebaa", sum := "5d13218bf493f4d5698c3d9e28d019b569eaca1f9237a206fd30b3ab72f1fbb2", func := "mailboat/mailboatlaw21.ContactMonotone", spec := "contactMonotone", unfollowed := true, recurses := true, apart := false, narrowed := true }
def ContactMonotoneUptoSaid : Prop := contactMonotoneUptoRow.holds Try.pinned (OpenSpec.upto contactMonotoneSpec)

/-- 'mailboatlaw21.ContactVolume', WHERE WHAT IT READS IS OF BULK AT MOST 1048576: true; the input reads as it did. -/
def contactVolumeUptoRow : OpenClaim := { program := "ytkahnfjdngiebaa", sum := "5d13218bf493f4d5698c3d9e28d019b569eaca1f9237a206fd30b3ab72f1fbb2", func := "mailboat/mailboatlaw21.ContactVolume", spec := "contactVolume", unfollowed := true, recurses := true, apart := false, narrowed := true }
def ContactVolumeUptoSaid : Prop := contactVolumeUptoRow.holds Try.pinned (OpenSpec.upto contactVolumeSpec)

/-- 'mailboatlaw21.ContactFirst', WHERE WHAT IT READS IS OF BULK AT MOST 1048576: true; the input reads as it did. -/
def contactFirstUptoRow : OpenClaim := { program := "ytkahnfjdngiebaa", sum := "5d13218bf493f4d5698c3d9e28d019b569eaca1f9237a206fd30b3ab72f1fbb2", func := "mailboat/mailboatlaw21.ContactFirst", spec := "contactFirst", unfollowed := true, recurses := true, apart := false, narrowed := true }
def ContactFirstUptoSaid : Prop := contactFirstUptoRow.holds Try.pinned (OpenSpec.upto contactFirstSpec)

/-- 'mailboatlaw21.ContactParts', WHERE WHAT IT READS IS OF BULK AT MOST 1048576: true; the input reads as it did. -/
def contactPartsUptoRow : OpenClaim := { program := "ytkahnfjdngiebaa", sum := "5d13218bf493f4d5698c3d9e28d019b569eaca1f9237a206fd30b3ab72f1fbb2", func := "mailboat/mailboatlaw21.ContactParts", spec := "contactParts", unfollowed := true, recurses := true, apart := false, narrowed := true }
def ContactPartsUptoSaid : Prop := contactPartsUptoRow.holds Try.pinned (OpenSpec.upto contactPartsSpec)

/-- 'mailboatlaw21.ContactArrivals', WHERE WHAT IT READS IS OF BULK AT MOST 1048576: true; the input reads as it did. -/
def contactArrivalsUptoRow : OpenClaim := { program := "ytkahnfjdngiebaa", sum := "5d13218bf493f4d5698c3d9e28d019b569eaca1f9237a206fd30b3ab72f1fbb2", func := "mailboat/mailboatlaw21.ContactArrivals", spec := "contactArrivals", unfollowed := true, recurses := true, apart := false, narrowed := true }
def ContactArrivalsUptoSaid : Prop := contactArrivalsUptoRow.holds Try.pinned (OpenSpec.upto contactArrivalsSpec)

/-- 'mailboatlaw21.ContactTimes', WHERE WHAT IT READS IS OF BULK AT MOST 1048576: true; the input reads as it did. -/
def contactTimesUptoRow : OpenClaim := { program := "ytkahnfjdngiebaa", sum := "5d13218bf493f4d5698c3d9e28d019b569eaca1f9237a206fd30b3ab72f1fbb2", func := "mailboat/mailboatlaw21.ContactTimes", spec := "contactTimes", unfollowed := true, recurses := true, apart := false, narrowed := true }
def ContactTimesUptoSaid : Prop := contactTimesUptoRow.holds Try.pinned (OpenSpec.upto contactTimesSpec)

/-- 'mailboatlaw21.ContactOverlaps', WHERE WHAT IT READS IS OF BULK AT MOST 1048576: true; the input reads as it did. -/
def contactOverlapsUptoRow : OpenClaim := { program := "ytkahnfjdngiebaa", sum := "5d13218bf493f4d5698c3d9e28d019b569eaca1f9237a206fd30b3ab72f1fbb2", func := "mailboat/mailboatlaw21.ContactOverlaps", spec := "contactOverlaps", unfollowed := true, recurses := true, apart := false, narrowed := true }
def ContactOverlapsUptoSaid : Prop := contactOverlapsUptoRow.holds Try.pinned (OpenSpec.upto contactOverlapsSpec)

end Rows
end Go.Proofs.Ytkahnfjdngiebaa

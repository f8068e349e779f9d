/-
  No cell of these rows narrows 'for every input' (looked for: loops, veiled, ifaces, maps, wideKeys, modest, calm, conditions, laid).
  DERIVED. THE GIVEN ROWS OF THIS SEAT. 5 by the template 'for every input the law returns true; each argument reads behind the call as it read before'; 0 by the template 'total and deterministic' (their statements: YtemkpimngbbpkaaGreatTotals.lean).
  GIVEN WITH THE SEED: the statements are not yours to turn. If you find one false, say at which input.
  Laid BY PROGRAM, IN A SANDBOX (cutbox-rows.mjs): the forced cells as the released guide's own fill.sh prints them over the translation 1ec4d0bd86fc8ee8… (all of the seat's roots in one cut). By AI agents, Wed Nov 11 2026. No macro, syntax, notation, axiom, sorry.
-/
import Derived.Test.YtemkpimngbbpkaaGreatChecked
import GoSem.Claim
import GoSem.ClaimJoined
import GoSem.ClaimMapViews
import Derived.JoinedTies
import Derived.KernelRfl
namespace Go.Proofs.YtemkpimngbbpkaaGreat
/- THE CELL 'sum', in the pinned program and in every row, IS THE sha256 OF THE DUMP (.gsa) THAT YtemkpimngbbpkaaGreatProg.lean LOADS. Nothing in Lean hashes anything: it is a label: what it is worth is what the hold of that sum in a sandbox is worth. -/
noncomputable def Tryz.pinned : Pinned := { name := "ytemkpimngbbpkaagreat", sum := "1ec4d0bd86fc8ee8870d546dc5965cf4d69efa3668a381541861bec2e1d5991b", checked := Tryz.checked }
namespace Rows
def none {H : Type} : Left H := { results := [], args := [] }

/-- 'mailboattop.TopReplays': WHATEVER THE INPUT: true; the input reads as it did. -/
def topReplaysSpec : ChangeSpec := { name := "topReplays", fn := fun _ => fun
  | [d1, d2, d3] => { results := [.lit (.bool true)], args := [d1, d2, d3] }
  | _ => none }
def topReplaysRow : OpenClaim := { program := "ytemkpimngbbpkaagreat", sum := "1ec4d0bd86fc8ee8870d546dc5965cf4d69efa3668a381541861bec2e1d5991b", func := "mailboat/mailboattop.TopReplays", spec := "topReplays", unfollowed := true, recurses := true, plainKeys := false, apart := false }
def TopReplaysSaid : Prop := topReplaysRow.holds Tryz.pinned (OpenSpec.ofChange topReplaysSpec)

/-- ITS FALSE NEIGHBOUR: 'it returns false'. Refute it at one input. -/
def topReplaysWrong : ChangeSpec := { name := "topReplays", fn := fun _ => fun
  | [d1, d2, d3] => { results := [.lit (.bool false)], args := [d1, d2, d3] }
  | _ => none }
def TopReplaysWrongFalsely : Prop := topReplaysRow.holds Tryz.pinned (OpenSpec.ofChange topReplaysWrong)

/-- 'mailboattop.TopMerged': WHATEVER THE INPUT: true; the input reads as it did. -/
def topMergedSpec : ChangeSpec := { name := "topMerged", fn := fun _ => fun
  | [d] => { results := [.lit (.bool true)], args := [d] }
  | _ => none }
def topMergedRow : OpenClaim := { program := "ytemkpimngbbpkaagreat", sum := "1ec4d0bd86fc8ee8870d546dc5965cf4d69efa3668a381541861bec2e1d5991b", func := "mailboat/mailboattop.TopMerged", spec := "topMerged", unfollowed := true, recurses := true, plainKeys := false, apart := false }
def TopMergedSaid : Prop := topMergedRow.holds Tryz.pinned (OpenSpec.ofChange topMergedSpec)

/-- ITS FALSE NEIGHBOUR: 'it returns false'. Refute it at one input. -/
def topMergedWrong : ChangeSpec := { name := "topMerged", fn := fun _ => fun
  | [d] => { results := [.lit (.bool false)], args := [d] }
  | _ => none }
def TopMergedWrongFalsely : Prop := topMergedRow.holds Tryz.pinned (OpenSpec.ofChange topMergedWrong)

/-- 'mailboattop.TopConverges': WHATEVER THE INPUT: true; the input reads as it did. -/
def topConvergesSpec : ChangeSpec := { name := "topConverges", fn := fun _ => fun
  | [d] => { results := [.lit (.bool true)], args := [d] }
  | _ => none }
def topConvergesRow : OpenClaim := { program := "ytemkpimngbbpkaagreat", sum := "1ec4d0bd86fc8ee8870d546dc5965cf4d69efa3668a381541861bec2e1d5991b", func := "mailboat/mailboattop.TopConverges", spec := "topConverges", unfollowed := true, recurses := true, plainKeys := false, apart := false }
def TopConvergesSaid : Prop := topConvergesRow.holds Tryz.pinned (OpenSpec.ofChange topConvergesSpec)

/-- ITS FALSE NEIGHBOUR: 'it returns false'. Refute it at one input. -/
def topConvergesWrong : ChangeSpec := { name := "topConverges", fn := fun _ => fun
  | [d] => { results := [.lit (.bool false)], args := [d] }
  | _ => none }
def TopConvergesWrongFalsely : Prop := topConvergesRow.holds Tryz.pinned (OpenSpec.ofChange topConvergesWrong)

/-- 'mailboattop.TopTrees': WHATEVER THE INPUT: true; the input reads as it did. -/
def topTreesSpec : ChangeSpec := { name := "topTrees", fn := fun _ => fun
  | [d1, d2, d3] => { results := [.lit (.bool true)], args := [d1, d2, d3] }
  | _ => none }
def topTreesRow : OpenClaim := { program := "ytemkpimngbbpkaagreat", sum := "1ec4d0bd86fc8ee8870d546dc5965cf4d69efa3668a381541861bec2e1d5991b", func := "mailboat/mailboattop.TopTrees", spec := "topTrees", inPlace := ["slices.overlaps[mailboat/api.Booking]"], unfollowed := true, recurses := true, plainKeys := false, apart := false }
def TopTreesSaid : Prop := topTreesRow.holds Tryz.pinned (OpenSpec.ofChange topTreesSpec)

/-- ITS FALSE NEIGHBOUR: 'it returns false'. Refute it at one input. -/
def topTreesWrong : ChangeSpec := { name := "topTrees", fn := fun _ => fun
  | [d1, d2, d3] => { results := [.lit (.bool false)], args := [d1, d2, d3] }
  | _ => none }
def TopTreesWrongFalsely : Prop := topTreesRow.holds Tryz.pinned (OpenSpec.ofChange topTreesWrong)

/-- 'mailboattop.TopSigned': WHATEVER THE INPUT: true; the input reads as it did. -/
def topSignedSpec : ChangeSpec := { name := "topSigned", fn := fun _ => fun
  | [d1, d2, d3, d4, d5] => { results := [.lit (.bool true)], args := [d1, d2, d3, d4, d5] }
  | _ => none }
def topSignedRow : OpenClaim := { program := "ytemkpimngbbpkaagreat", sum := "1ec4d0bd86fc8ee8870d546dc5965cf4d69efa3668a381541861bec2e1d5991b", func := "mailboat/mailboattop.TopSigned", spec := "topSigned", unfollowed := true, recurses := true, plainKeys := false, apart := false }
def TopSignedSaid : Prop := topSignedRow.holds Tryz.pinned (OpenSpec.ofChange topSignedSpec)

/-- ITS FALSE NEIGHBOUR: 'it returns false'. Refute it at one input. -/
def topSignedWrong : ChangeSpec := { name := "topSigned", fn := fun _ => fun
  | [d1, d2, d3, d4, d5] => { results := [.lit (.bool false)], args := [d1, d2, d3, d4, d5] }
  | _ => none }
def TopSignedWrongFalsely : Prop := topSignedRow.holds Tryz.pinned (OpenSpec.ofChange topSignedWrong)

/- THE SECOND FORM. 'bulk': how many values and letters a reading holds, each counted each time it is reached (what is shared counts as often as it is met; a slice's spare places count too). A statement '..UptoSaid' is the law's where the arguments, and the package variables that the reading takes, are together of bulk at most 1048576: NARROWER than '..Said'. Prove '..Said' where nothing that the law and all that it calls make is longer than what came in: it says more and counts as full. Else prove '..UptoSaid'. A law counts once. -/
mutual
def uptoBulk {H : Type} : DataW H → Nat
  | .lit (.string bytes) => bytes.length + 1
  | .lit _ => 1
  | .nil => 1
  | .ptr d => uptoBulk d + 1
  | .slice elems spare => uptoBulkAll elems + uptoBulkAll spare + 1
  | .agg parts => uptoBulkAll parts + 1
  | .iface _ d => uptoBulk d + 1
  | .map entries => uptoBulkEntries entries + 1
  | .held _ => 1
def uptoBulkAll {H : Type} : List (DataW H) → Nat
  | [] => 0
  | d :: r => uptoBulk d + uptoBulkAll r
def uptoBulkEntries {H : Type} : List (Lit × DataW H) → Nat
  | [] => 0
  | x :: r => uptoBulkEntry x + uptoBulkEntries r
def uptoBulkEntry {H : Type} : Lit × DataW H → Nat
  | (.string bytes, d) => bytes.length + uptoBulk d + 1
  | (_, d) => uptoBulk d + 1
 end
def uptoSmall : (H : Type) → List (DataW H) → Bool := fun _ ds => decide (uptoBulkAll ds ≤ 1048576)
def OpenSpec.upto (s : _root_.Go.ChangeSpec) : _root_.Go.OpenSpec := { _root_.Go.OpenSpec.ofChange s with cond := some uptoSmall }

/-- 'mailboattop.TopReplays', WHERE WHAT IT READS IS OF BULK AT MOST 1048576: true; the input reads as it did. -/
def topReplaysUptoRow : OpenClaim := { program := "ytemkpimngbbpkaagreat", sum := "1ec4d0bd86fc8ee8870d546dc5965cf4d69efa3668a381541861bec2e1d5991b", func := "mailboat/mailboattop.TopReplays", spec := "topReplays", unfollowed := true, recurses := true, plainKeys := false, apart := false, narrowed := true }
def TopReplaysUptoSaid : Prop := topReplaysUptoRow.holds Tryz.pinned (OpenSpec.upto topReplaysSpec)

/-- 'mailboattop.TopMerged', WHERE WHAT IT READS IS OF BULK AT MOST 1048576: true; the input reads as it did. -/
def topMergedUptoRow : OpenClaim := { program := "ytemkpimngbbpkaagreat", sum := "1ec4d0bd86fc8ee8870d546dc5965cf4d69efa3668a381541861bec2e1d5991b", func := "mailboat/mailboattop.TopMerged", spec := "topMerged", unfollowed := true, recurses := true, plainKeys := false, apart := false, narrowed := true }
def TopMergedUptoSaid : Prop := topMergedUptoRow.holds Tryz.pinned (OpenSpec.upto topMergedSpec)

/-- 'mailboattop.TopConverges', WHERE WHAT IT READS IS OF BULK AT MOST 1048576: true; the input reads as it did. -/
def topConvergesUptoRow : OpenClaim := { program := "ytemkpimngbbpkaagreat", sum := "1ec4d0bd86fc8ee8870d546dc5965cf4d69efa3668a381541861bec2e1d5991b", func := "mailboat/mailboattop.TopConverges", spec := "topConverges", unfollowed := true, recurses := true, plainKeys := false, apart := false, narrowed := true }
def TopConvergesUptoSaid : Prop := topConvergesUptoRow.holds Tryz.pinned (OpenSpec.upto topConvergesSpec)

/-- 'mailboattop.TopTrees', WHERE WHAT IT READS IS OF BULK AT MOST 1048576: true; the input reads as it did. -/
def topTreesUptoRow : OpenClaim := { program := "ytemkpimngbbpkaagreat", sum := "1ec4d0bd86fc8ee8870d546dc5965cf4d69efa3668a381541861bec2e1d5991b", func := "mailboat/mailboattop.TopTrees", spec := "topTrees", inPlace := ["slices.overlaps[mailboat/api.Booking]"], unfollowed := true, recurses := true, plainKeys := false, apart := false, narrowed := true }
def TopTreesUptoSaid : Prop := topTreesUptoRow.holds Tryz.pinned (OpenSpec.upto topTreesSpec)

/-- 'mailboattop.TopSigned', WHERE WHAT IT READS IS OF BULK AT MOST 1048576: true; the input reads as it did. -/
def topSignedUptoRow : OpenClaim := { program := "ytemkpimngbbpkaagreat", sum := "1ec4d0bd86fc8ee8870d546dc5965cf4d69efa3668a381541861bec2e1d5991b", func := "mailboat/mailboattop.TopSigned", spec := "topSigned", unfollowed := true, recurses := true, plainKeys := false, apart := false, narrowed := true }
def TopSignedUptoSaid : Prop := topSignedUptoRow.holds Tryz.pinned (OpenSpec.upto topSignedSpec)

end Rows
end Go.Proofs.YtemkpimngbbpkaaGreat

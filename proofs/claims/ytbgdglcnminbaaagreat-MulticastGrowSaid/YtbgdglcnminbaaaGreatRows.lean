/-
  No cell of these rows narrows 'for every input' (looked for: loops, veiled, ifaces, maps, wideKeys, modest, calm, conditions, laid).
  DERIVED. THE GIVEN ROWS OF THIS SEAT. 2 by the template 'for every input the law returns true; each argument reads behind the call as it read before'; 0 by the template 'total and deterministic' (their statements: YtbgdglcnminbaaaGreatTotals.lean).
  GIVEN WITH THE SEED: the statements are not yours to turn. If you find one false, say at which input.
  Laid BY PROGRAM, IN A SANDBOX (cutbox-rows.mjs): the forced cells as the released guide's own fill.sh prints them over the translation d6d0d668017522a5… (all of the seat's roots in one cut). By AI agents, Wed Nov 11 2026. No macro, syntax, notation, axiom, sorry.
-/
import Derived.Test.YtbgdglcnminbaaaGreatChecked
import GoSem.Claim
import GoSem.ClaimJoined
import GoSem.ClaimMapViews
import Derived.JoinedTies
import Derived.KernelRfl
namespace Go.Proofs.YtbgdglcnminbaaaGreat
/- THE CELL 'sum', in the pinned program and in every row, IS THE sha256 OF THE DUMP (.gsa) THAT YtbgdglcnminbaaaGreatProg.lean LOADS. Nothing in Lean hashes anything: it is a label: what it is worth is what the hold of that sum in a sandbox is worth. -/
noncomputable def Tryz.pinned : Pinned := { name := "ytbgdglcnminbaaagreat", sum := "d6d0d668017522a5f90f56c54bb1820ad6bd69d4dadc857ac5935f1cff675483", checked := Tryz.checked }
namespace Rows
def none {H : Type} : Left H := { results := [], args := [] }

/-- 'mailboatlaw35.MulticastGrow': WHATEVER THE INPUT: true; the input reads as it did. -/
def multicastGrowSpec : ChangeSpec := { name := "multicastGrow", fn := fun _ => fun
  | [d1, d2, d3] => { results := [.lit (.bool true)], args := [d1, d2, d3] }
  | _ => none }
def multicastGrowRow : OpenClaim := { program := "ytbgdglcnminbaaagreat", sum := "d6d0d668017522a5f90f56c54bb1820ad6bd69d4dadc857ac5935f1cff675483", func := "mailboat/mailboatlaw35.MulticastGrow", spec := "multicastGrow", unfollowed := true, recurses := true, apart := false }
def MulticastGrowSaid : Prop := multicastGrowRow.holds Tryz.pinned (OpenSpec.ofChange multicastGrowSpec)

/-- ITS FALSE NEIGHBOUR: 'it returns false'. Refute it at one input. -/
def multicastGrowWrong : ChangeSpec := { name := "multicastGrow", fn := fun _ => fun
  | [d1, d2, d3] => { results := [.lit (.bool false)], args := [d1, d2, d3] }
  | _ => none }
def MulticastGrowWrongFalsely : Prop := multicastGrowRow.holds Tryz.pinned (OpenSpec.ofChange multicastGrowWrong)

/-- 'mailboatlaw35.MulticastCheck': WHATEVER THE INPUT: true; the input reads as it did. -/
def multicastCheckSpec : ChangeSpec := { name := "multicastCheck", fn := fun _ => fun
  | [d1, d2, d3, d4, d5] => { results := [.lit (.bool true)], args := [d1, d2, d3, d4, d5] }
  | _ => none }
def multicastCheckRow : OpenClaim := { program := "ytbgdglcnminbaaagreat", sum := "d6d0d668017522a5f90f56c54bb1820ad6bd69d4dadc857ac5935f1cff675483", func := "mailboat/mailboatlaw35.MulticastCheck", spec := "multicastCheck", unfollowed := true, recurses := true, apart := false }
def MulticastCheckSaid : Prop := multicastCheckRow.holds Tryz.pinned (OpenSpec.ofChange multicastCheckSpec)

/-- ITS FALSE NEIGHBOUR: 'it returns false'. Refute it at one input. -/
def multicastCheckWrong : ChangeSpec := { name := "multicastCheck", fn := fun _ => fun
  | [d1, d2, d3, d4, d5] => { results := [.lit (.bool false)], args := [d1, d2, d3, d4, d5] }
  | _ => none }
def MulticastCheckWrongFalsely : Prop := multicastCheckRow.holds Tryz.pinned (OpenSpec.ofChange multicastCheckWrong)

/- THE SECOND FORM. 'bulk': how many values and letters a reading holds, each counted each time it is reached (what is shared counts as often as it is met; a slice's spare places count too). A statement '..UptoSaid' is the law's where the arguments, and the package variables that the reading takes, are together of bulk at most 1048576: NARROWER than '..Said'. Prove '..Said' where nothing that the law and all that it calls make is longer than what came in: it says more and counts as full. Else prove '..UptoSaid'. A law counts once. -/
mutual
def uptoBulk {H : Type} : DataW H → Nat
  | .lit (.string bytes) => bytes.length + 1
  | .lit _ => 1
  | .nil => 1
  | .ptr d => uptoBulk d + 1
  | .slice elems spare => uptoBulkAll elems + uptoBulkAll spare + 1
  | .agg parts => uptoBulkAll parts + 1
  | .iface _ d => uptoBulk d + 1
  | .map entries => uptoBulkEntries entries + 1
  | .held _ => 1
def uptoBulkAll {H : Type} : List (DataW H) → Nat
  | [] => 0
  | d :: r => uptoBulk d + uptoBulkAll r
def uptoBulkEntries {H : Type} : List (Lit × DataW H) → Nat
  | [] => 0
  | x :: r => uptoBulkEntry x + uptoBulkEntries r
def uptoBulkEntry {H : Type} : Lit × DataW H → Nat
  | (.string bytes, d) => bytes.length + uptoBulk d + 1
  | (_, d) => uptoBulk d + 1
 end
def uptoSmall : (H : Type) → List (DataW H) → Bool := fun _ ds => decide (uptoBulkAll ds ≤ 1048576)
def OpenSpec.upto (s : _root_.Go.ChangeSpec) : _root_.Go.OpenSpec := { _root_.Go.OpenSpec.ofChange s with cond := some uptoSmall }

/-- 'mailboatlaw35.MulticastGrow', WHERE WHAT IT READS IS OF BULK AT MOST 1048576: true; the input reads as it did. -/
def multicastGrowUptoRow : OpenClaim := { program := "ytbgdglcnminbaaagreat", sum := "d6d0d668017522a5f90f56c54bb1820ad6bd69d4dadc857ac5935f1cff675483", func := "mailboat/mailboatlaw35.MulticastGrow", spec := "multicastGrow", unfollowed := true, recurses := true, apart := false, narrowed := true }
def MulticastGrowUptoSaid : Prop := multicastGrowUptoRow.holds Tryz.pinned (OpenSpec.upto multicastGrowSpec)

/-- 'mailboatlaw35.MulticastCheck', WHERE WHAT IT READS IS OF BULK AT MOST 1048576: true; the input reads as it did. -/
def multicastCheckUptoRow : OpenClaim := { program := "ytbgdglcnminbaaagreat", sum := "d6d0d668017522a5f90f56c54bb1820ad6bd69d4dadc857ac5935f1cff675483", func := "mailboat/mailboatlaw35.MulticastCheck", spec := "multicastCheck", unfollowed := true, recurses := true, apart := false, narrowed := true }
def MulticastCheckUptoSaid : Prop := multicastCheckUptoRow.holds Tryz.pinned (OpenSpec.upto multicastCheckSpec)

end Rows
end Go.Proofs.YtbgdglcnminbaaaGreat

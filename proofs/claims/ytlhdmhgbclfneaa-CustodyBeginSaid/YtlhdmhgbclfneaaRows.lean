/-
  No cell of these rows narrows 'for every input' (looked for: loops, veiled, ifaces, maps, wideKeys, modest, calm, conditions, laid).
  DERIVED. THE GIVEN ROWS OF THIS SEAT. 6 by the template 'for every input the law returns true; each argument reads behind the call as it read before'; 0 by the template 'total and deterministic' (their statements: YtlhdmhgbclfneaaTotals.lean).
  GIVEN WITH THE SEED: the statements are not yours to turn. If you find one false, say at which input.
  Laid BY PROGRAM, IN A SANDBOX (cutbox-rows.mjs): the forced cells as the released guide's own fill.sh prints them over the translation aa5015cea03fb499… (all of the seat's roots in one cut). By AI agents, Wed Nov 11 2026. No macro, syntax, notation, axiom, sorry.
-/
import Derived.Test.YtlhdmhgbclfneaaChecked
import GoSem.Claim
import GoSem.ClaimJoined
import GoSem.ClaimMapViews
import Derived.JoinedTies
import Derived.KernelRfl
namespace Go.Proofs.Ytlhdmhgbclfneaa
/- THE CELL 'sum', in the pinned program and in every row, IS THE sha256 OF THE DUMP (.gsa) THAT YtlhdmhgbclfneaaProg.lean LOADS. Nothing in Lean hashes anything: it is a label: what it is worth is what the hold of that sum in a sandbox is worth. -/
noncomputable def Try.pinned : Pinned := { name := "ytlhdmhgbclfneaa", sum := "aa5015cea03fb49949a9ab1bf1387ff0abc4404ec041ac162f9e32446103db5e", checked := Try.checked }
namespace Rows
def none {H : Type} : Left H := { results := [], args := [] }

/-- 'mailboatlaw44.CustodyBegin': WHATEVER THE INPUT: true; the input reads as it did. -/
def custodyBeginSpec : ChangeSpec := { name := "custodyBegin", fn := fun _ => fun
  | [d1, d2] => { results := [.lit (.bool true)], args := [d1, d2] }
  | _ => none }
def custodyBeginRow : OpenClaim := { program := "ytlhdmhgbclfneaa", sum := "aa5015cea03fb49949a9ab1bf1387ff0abc4404ec041ac162f9e32446103db5e", func := "mailboat/mailboatlaw44.CustodyBegin", spec := "custodyBegin", unfollowed := true, recurses := true, apart := false }
def CustodyBeginSaid : Prop := custodyBeginRow.holds Try.pinned (OpenSpec.ofChange custodyBeginSpec)

/-- ITS FALSE NEIGHBOUR: 'it returns false'. Refute it at one input. -/
def custodyBeginWrong : ChangeSpec := { name := "custodyBegin", fn := fun _ => fun
  | [d1, d2] => { results := [.lit (.bool false)], args := [d1, d2] }
  | _ => none }
def CustodyBeginWrongFalsely : Prop := custodyBeginRow.holds Try.pinned (OpenSpec.ofChange custodyBeginWrong)

/-- 'mailboatlaw44.CustodyAnswers': WHATEVER THE INPUT: true; the input reads as it did. -/
def custodyAnswersSpec : ChangeSpec := { name := "custodyAnswers", fn := fun _ => fun
  | [d1, d2, d3] => { results := [.lit (.bool true)], args := [d1, d2, d3] }
  | _ => none }
def custodyAnswersRow : OpenClaim := { program := "ytlhdmhgbclfneaa", sum := "aa5015cea03fb49949a9ab1bf1387ff0abc4404ec041ac162f9e32446103db5e", func := "mailboat/mailboatlaw44.CustodyAnswers", spec := "custodyAnswers", unfollowed := true, recurses := true, apart := false }
def CustodyAnswersSaid : Prop := custodyAnswersRow.holds Try.pinned (OpenSpec.ofChange custodyAnswersSpec)

/-- ITS FALSE NEIGHBOUR: 'it returns false'. Refute it at one input. -/
def custodyAnswersWrong : ChangeSpec := { name := "custodyAnswers", fn := fun _ => fun
  | [d1, d2, d3] => { results := [.lit (.bool false)], args := [d1, d2, d3] }
  | _ => none }
def CustodyAnswersWrongFalsely : Prop := custodyAnswersRow.holds Try.pinned (OpenSpec.ofChange custodyAnswersWrong)

/-- 'mailboatlaw44.CustodyDelays': WHATEVER THE INPUT: true; the input reads as it did. -/
def custodyDelaysSpec : ChangeSpec := { name := "custodyDelays", fn := fun _ => fun
  | [d1, d2] => { results := [.lit (.bool true)], args := [d1, d2] }
  | _ => none }
def custodyDelaysRow : OpenClaim := { program := "ytlhdmhgbclfneaa", sum := "aa5015cea03fb49949a9ab1bf1387ff0abc4404ec041ac162f9e32446103db5e", func := "mailboat/mailboatlaw44.CustodyDelays", spec := "custodyDelays", unfollowed := true, recurses := true, apart := false }
def CustodyDelaysSaid : Prop := custodyDelaysRow.holds Try.pinned (OpenSpec.ofChange custodyDelaysSpec)

/-- ITS FALSE NEIGHBOUR: 'it returns false'. Refute it at one input. -/
def custodyDelaysWrong : ChangeSpec := { name := "custodyDelays", fn := fun _ => fun
  | [d1, d2] => { results := [.lit (.bool false)], args := [d1, d2] }
  | _ => none }
def CustodyDelaysWrongFalsely : Prop := custodyDelaysRow.holds Try.pinned (OpenSpec.ofChange custodyDelaysWrong)

/-- 'mailboatlaw44.CustodySignal': WHATEVER THE INPUT: true; the input reads as it did. -/
def custodySignalSpec : ChangeSpec := { name := "custodySignal", fn := fun _ => fun
  | [d1, d2, d3, d4] => { results := [.lit (.bool true)], args := [d1, d2, d3, d4] }
  | _ => none }
def custodySignalRow : OpenClaim := { program := "ytlhdmhgbclfneaa", sum := "aa5015cea03fb49949a9ab1bf1387ff0abc4404ec041ac162f9e32446103db5e", func := "mailboat/mailboatlaw44.CustodySignal", spec := "custodySignal", unfollowed := true, recurses := true, apart := false }
def CustodySignalSaid : Prop := custodySignalRow.holds Try.pinned (OpenSpec.ofChange custodySignalSpec)

/-- ITS FALSE NEIGHBOUR: 'it returns false'. Refute it at one input. -/
def custodySignalWrong : ChangeSpec := { name := "custodySignal", fn := fun _ => fun
  | [d1, d2, d3, d4] => { results := [.lit (.bool false)], args := [d1, d2, d3, d4] }
  | _ => none }
def CustodySignalWrongFalsely : Prop := custodySignalRow.holds Try.pinned (OpenSpec.ofChange custodySignalWrong)

/-- 'mailboatlaw44.CustodyAccepted': WHATEVER THE INPUT: true; the input reads as it did. -/
def custodyAcceptedSpec : ChangeSpec := { name := "custodyAccepted", fn := fun _ => fun
  | [d1, d2] => { results := [.lit (.bool true)], args := [d1, d2] }
  | _ => none }
def custodyAcceptedRow : OpenClaim := { program := "ytlhdmhgbclfneaa", sum := "aa5015cea03fb49949a9ab1bf1387ff0abc4404ec041ac162f9e32446103db5e", func := "mailboat/mailboatlaw44.CustodyAccepted", spec := "custodyAccepted", unfollowed := true, recurses := true, apart := false }
def CustodyAcceptedSaid : Prop := custodyAcceptedRow.holds Try.pinned (OpenSpec.ofChange custodyAcceptedSpec)

/-- ITS FALSE NEIGHBOUR: 'it returns false'. Refute it at one input. -/
def custodyAcceptedWrong : ChangeSpec := { name := "custodyAccepted", fn := fun _ => fun
  | [d1, d2] => { results := [.lit (.bool false)], args := [d1, d2] }
  | _ => none }
def CustodyAcceptedWrongFalsely : Prop := custodyAcceptedRow.holds Try.pinned (OpenSpec.ofChange custodyAcceptedWrong)

/-- 'mailboatlaw44.CustodyLists': WHATEVER THE INPUT: true; the input reads as it did. -/
def custodyListsSpec : ChangeSpec := { name := "custodyLists", fn := fun _ => fun
  | [d1, d2, d3, d4] => { results := [.lit (.bool true)], args := [d1, d2, d3, d4] }
  | _ => none }
def custodyListsRow : OpenClaim := { program := "ytlhdmhgbclfneaa", sum := "aa5015cea03fb49949a9ab1bf1387ff0abc4404ec041ac162f9e32446103db5e", func := "mailboat/mailboatlaw44.CustodyLists", spec := "custodyLists", unfollowed := true, recurses := true, apart := false }
def CustodyListsSaid : Prop := custodyListsRow.holds Try.pinned (OpenSpec.ofChange custodyListsSpec)

/-- ITS FALSE NEIGHBOUR: 'it returns false'. Refute it at one input. -/
def custodyListsWrong : ChangeSpec := { name := "custodyLists", fn := fun _ => fun
  | [d1, d2, d3, d4] => { results := [.lit (.bool false)], args := [d1, d2, d3, d4] }
  | _ => none }
def CustodyListsWrongFalsely : Prop := custodyListsRow.holds Try.pinned (OpenSpec.ofChange custodyListsWrong)

/- THE SECOND FORM. 'bulk': how many values and letters a reading holds, each counted each time it is reached (what is shared counts as often as it is met; a slice's spare places count too). A statement '..UptoSaid' is the law's where the arguments, and the package variables that the reading takes, are together of bulk at most 1048576: NARROWER than '..Said'. Prove '..Said' where nothing that the law and all that it calls make is longer than what came in: it says more and counts as full. Else prove '..UptoSaid'. A law counts once. -/
mutual
def uptoBulk {H : Type} : DataW H → Nat
  | .lit (.string bytes) => bytes.length + 1
  | .lit _ => 1
  | .nil => 1
  | .ptr d => uptoBulk d + 1
  | .slice elems spare => uptoBulkAll elems + uptoBulkAll spare + 1
  | .agg parts => uptoBulkAll parts + 1
  | .iface _ d => uptoBulk d + 1
  | .map entries => uptoBulkEntries entries + 1
  | .held _ => 1
def uptoBulkAll {H : Type} : List (DataW H) → Nat
  | [] => 0
  | d :: r => uptoBulk d + uptoBulkAll r
def uptoBulkEntries {H : Type} : List (Lit × DataW H) → Nat
  | [] => 0
  | x :: r => uptoBulkEntry x + uptoBulkEntries r
def uptoBulkEntry {H : Type} : Lit × DataW H → Nat
  | (.string bytes, d) => bytes.length + uptoBulk d + 1
  | (_, d) => uptoBulk d + 1
 end
def uptoSmall : (H : Type) → List (DataW H) → Bool := fun _ ds => decide (uptoBulkAll ds ≤ 1048576)
def OpenSpec.upto (s : _root_.Go.ChangeSpec) : _root_.Go.OpenSpec := { _root_.Go.OpenSpec.ofChange s with cond := some uptoSmall }

/-- 'mailboatlaw44.CustodyBegin', WHERE WHAT IT READS IS OF BULK AT MOST 1048576: true; the input reads as it did. -/
def custodyBeginUptoRow : OpenClaim := { program := "ytlhdmhgbclfneaa", sum := "aa5015cea03fb49949a9ab1bf1387ff0abc4404ec041ac162f9e32446103db5e", func := "mailboat/mailboatlaw44.CustodyBegin", spec := "custodyBegin", unfollowed := true, recurses := true, apart := false, narrowed := true }
def CustodyBeginUptoSaid : Prop := custodyBeginUptoRow.holds Try.pinned (OpenSpec.upto custodyBeginSpec)

/-- 'mailboatlaw44.CustodyAnswers', WHERE WHAT IT READS IS OF BULK AT MOST 1048576: true; the input reads as it did. -/
def custodyAnswersUptoRow : OpenClaim := { program := "ytlhdmhgbclfneaa", sum := "aa5015cea03fb49949a9ab1bf1387ff0abc4404ec041ac162f9e32446103db5e", func := "mailboat/mailboatlaw44.CustodyAnswers", spec := "custodyAnswers", unfollowed := true, recurses := true, apart := false, narrowed := true }
def CustodyAnswersUptoSaid : Prop := custodyAnswersUptoRow.holds Try.pinned (OpenSpec.upto custodyAnswersSpec)

/-- 'mailboatlaw44.CustodyDelays', WHERE WHAT IT READS IS OF BULK AT MOST 1048576: true; the input reads as it did. -/
def custodyDelaysUptoRow : OpenClaim := { program := "ytlhdmhgbclfneaa", sum := "aa5015cea03fb49949a9ab1bf1387ff0abc4404ec041ac162f9e32446103db5e", func := "mailboat/mailboatlaw44.CustodyDelays", spec := "custodyDelays", unfollowed := true, recurses := true, apart := false, narrowed := true }
def CustodyDelaysUptoSaid : Prop := custodyDelaysUptoRow.holds Try.pinned (OpenSpec.upto custodyDelaysSpec)

/-- 'mailboatlaw44.CustodySignal', WHERE WHAT IT READS IS OF BULK AT MOST 1048576: true; the input reads as it did. -/
def custodySignalUptoRow : OpenClaim := { program := "ytlhdmhgbclfneaa", sum := "aa5015cea03fb49949a9ab1bf1387ff0abc4404ec041ac162f9e32446103db5e", func := "mailboat/mailboatlaw44.CustodySignal", spec := "custodySignal", unfollowed := true, recurses := true, apart := false, narrowed := true }
def CustodySignalUptoSaid : Prop := custodySignalUptoRow.holds Try.pinned (OpenSpec.upto custodySignalSpec)

/-- 'mailboatlaw44.CustodyAccepted', WHERE WHAT IT READS IS OF BULK AT MOST 1048576: true; the input reads as it did. -/
def custodyAcceptedUptoRow : OpenClaim := { program := "ytlhdmhgbclfneaa", sum := "aa5015cea03fb49949a9ab1bf1387ff0abc4404ec041ac162f9e32446103db5e", func := "mailboat/mailboatlaw44.CustodyAccepted", spec := "custodyAccepted", unfollowed := true, recurses := true, apart := false, narrowed := true }
def CustodyAcceptedUptoSaid : Prop := custodyAcceptedUptoRow.holds Try.pinned (OpenSpec.upto custodyAcceptedSpec)

/-- 'mailboatlaw44.CustodyLists', WHERE WHAT IT READS IS OF BULK AT MOST 1048576: true; the input reads as it did. -/
def custodyListsUptoRow : OpenClaim := { program := "ytlhdmhgbclfneaa", sum := "aa5015cea03fb49949a9ab1bf1387ff0abc4404ec041ac162f9e32446103db5e", func := "mailboat/mailboatlaw44.CustodyLists", spec := "custodyLists", unfollowed := true, recurses := true, apart := false, narrowed := true }
def CustodyListsUptoSaid : Prop := custodyListsUptoRow.holds Try.pinned (OpenSpec.upto custodyListsSpec)

end Rows
end Go.Proofs.Ytlhdmhgbclfneaa

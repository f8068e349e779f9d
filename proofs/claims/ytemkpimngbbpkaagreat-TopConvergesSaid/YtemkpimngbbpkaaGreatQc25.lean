/- Layer 28 (storage): holds as plain data; what a node stores, walked. · What plans, contacts and requests that come in read as. · What lists of branches and of numbers that come in read as. · What tables that come in read as. -/
import Derived.Maps.OwnSet
import Derived.Maps.OwnOps
import Derived.Sort.OwnSortedInts
import Derived.Laws.EntriesVeiled
import Derived.Test.YtemkpimngbbpkaaGreatRows
import Derived.Test.YtemkpimngbbpkaaGreatQc02
import Derived.Test.YtemkpimngbbpkaaGreatQc03
import Derived.Test.YtemkpimngbbpkaaGreatQc23
import Derived.Test.YtemkpimngbbpkaaGreatQc24
namespace Go.Proofs.YtemkpimngbbpkaaGreat
set_option linter.unusedVariables false
set_option linter.unusedSimpArgs false
open Go.RowKit Go.Shelf Go.Maps
attribute [local go_sem] Oper.semAt_some
structure Hd where
 nod : Int
 fr : Int
 til : Int
 siz : Int
 tic : Int
end Go.Proofs.YtemkpimngbbpkaaGreat
namespace Go.Proofs.YtemkpimngbbpkaaGreat
set_option linter.unusedVariables false
set_option linter.unusedSimpArgs false
open Go.ChangeShapes Go.WideShapes Go.ChangeAt Go.RowKit Go.Deep
theorem row_own : ownKnob Tryz.prog.godebug = none := by kernel_rfl
theorem row_laid : laidOutB Tryz.prog = true := by kernel_rfl
theorem wf_bd {z : Int} (h : (Lit.int .i64 z).wf = true) : -9223372036854775808 <= z /\ z <= 9223372036854775807 := by
 simp [Lit.wf, IntKind.min, IntKind.max, IntKind.bits, IntKind.signed] at h; omega
def I64 (z : Int) : Prop := -9223372036854775808 <= z /\ z <= 9223372036854775807
structure Con.Wf (c : Con) : Prop where
 src : I64 c.src
 dst : I64 c.dst
 st : I64 c.st
 en : I64 c.en
 rate : I64 c.rate
 rng : I64 c.rng
 loss : I64 c.loss
set_option maxRecDepth 100000 in
theorem flat_con : flatK Tryz.prog 4 61 = some (List.replicate 7 .i64) := by kernel_rfl
set_option maxRecDepth 100000 in
theorem dec_con (cs : List Value) (h : CKs (List.replicate 7 .i64) cs) : ∃ x : Con, cs = ECon.cells x /\ x.Wf := by
 obtain ⟨zs, hl, rfl, hw⟩ := CKs.ints h
 match zs, hl with
 | [a, b, c, d, e, f, g], _ => exact ⟨⟨a, b, c, d, e, f, g⟩, rfl, ⟨wf_bd (hw _ (by simp)), wf_bd (hw _ (by simp)), wf_bd (hw _ (by simp)), wf_bd (hw _ (by simp)), wf_bd (hw _ (by simp)), wf_bd (hw _ (by simp)), wf_bd (hw _ (by simp))⟩⟩
section
variable {H : Type} {enc : TypeId × Value -> H} {w : World} {base : Nat} {spare : Nat -> Bool} {held : Bool} {r : Reach} {b0 : Nat} {v : Value} {d : DataW H} {p : List MemPlace}
end
end Go.Proofs.YtemkpimngbbpkaaGreat
namespace Go.Proofs.YtemkpimngbbpkaaGreat
set_option linter.unusedVariables false
set_option linter.unusedSimpArgs false
open Go.ChangeShapes Go.WideShapes Go.ChangeAt Go.RowKit Go.Deep
section
variable {H : Type} {enc : TypeId × Value -> H} {w : World} {base : Nat} {spare : Nat -> Bool} {held : Bool} {r : Reach} {b0 : Nat} {v : Value} {d : DataW H} {p : List MemPlace}
end
end Go.Proofs.YtemkpimngbbpkaaGreat
namespace Go.Proofs.YtemkpimngbbpkaaGreat
set_option linter.unusedVariables false
set_option linter.unusedSimpArgs false
open Go.ChangeShapes Go.WideShapes Go.ChangeAt Go.RowKit Go.Deep
section
variable {H : Type} {enc : TypeId × Value -> H} {w : World} {base : Nat} {spare : Nat -> Bool} {held : Bool} {r : Reach} {b0 : Nat} {v : Value} {d : DataW H} {p : List MemPlace}
end
end Go.Proofs.YtemkpimngbbpkaaGreat

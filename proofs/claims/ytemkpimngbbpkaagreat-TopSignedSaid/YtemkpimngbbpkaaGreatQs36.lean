/- Security: Protect at any bundle; the example. -/
import Derived.Test.YtemkpimngbbpkaaGreatQs35
namespace Go.Proofs.YtemkpimngbbpkaaGreat
set_option linter.unusedVariables false
set_option linter.unusedSimpArgs false
open Go.RowKit Go.Shelf
theorem prot_any (b : Bu) (A : Option Addr) (cap : Nat) (node : Int) (key : Bts) (w : World) (hR : Rd EBl w A b.blocks) :
 Calls Tryz.prog 12 #[.agg (b.cells A cap), .int .i64 node, strV key] w fun e w' => ProtR b node key e w' /\ Ext w w' := by
 by_cases h0 : allE b node key = 0
 ·cases hf : findS (sigs b.auth.data) (nby node).toNat with
  | none => exact prot_main b A cap node key w hR h0 hf
  | some t => exact prot_early b A cap node key w hR (.inr (by rw [hf]; rfl))
 ·exact prot_early b A cap node key w hR (.inl h0)
theorem ex_prot : protE exBu 1 exKey = 0 := by decide +kernel
theorem ex_ver : verE (protB exBu 1 exKey) 1 exKey = 0 := prot_ver ex_prot
theorem ex_ver2 : verE (protB exBu 1 exKey) 1 exKey2 = 22 := by decide +kernel
end Go.Proofs.YtemkpimngbbpkaaGreat

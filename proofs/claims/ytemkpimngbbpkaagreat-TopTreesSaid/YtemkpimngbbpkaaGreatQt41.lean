/- Update: Contacts. · Update: gaps; a function value that answers of a change. · Update: slices.Compact at changes. · Update: Merge. · Update: merging histories of three nodes. · Update: Known. · Update: Put of a change that is not valid. · Update: Remove. -/
import Derived.BigQuiet
import Derived.Laws.StructEq
import Derived.Test.YtemkpimngbbpkaaGreatQt05
import Derived.Test.YtemkpimngbbpkaaGreatQt36
import Derived.Test.YtemkpimngbbpkaaGreatQt37
import Derived.Test.YtemkpimngbbpkaaGreatQt39
import Derived.Test.YtemkpimngbbpkaaGreatQt40
namespace Go.Proofs.YtemkpimngbbpkaaGreat
set_option linter.unusedVariables false
set_option linter.unusedSimpArgs false
section
open Go.RowKit Go.Shelf Go.Sort
attribute [local go_sem] Oper.semAt_some
set_option maxRecDepth 100000 in
set_option maxHeartbeats 16000000 in
theorem Contacts_any (n : Int) (A : Option Addr) (cc : Nat) (l : List Chg) (w : World) (hR : Rd EChg w A l) (h0 : hChk n l = 0) :
 Calls Tryz.prog 18 #[.agg #[.int .i64 n, .slice A l.length cc]] w fun e w' => Ext w w' /\ ∃ cs, ContS l cs /\ ((64 < cs.length /\ e = .returned (.tuple #[.slice none 0 0, .int .i64 4])) ∨ (cs.length <= 64 /\ ∃ u ts, e = .returned (.tuple #[u, .int .i64 0]) /\ ts.Perm cs /\ Owns ECon w' w.heap.size 61 u ts)) := by
 obtain ⟨hn, hl, hok⟩ := hChk_ok h0
 have hK := fun y hy => (Chg.ok_con (hok y hy) hn.2).1
 have g0 := fun w h => hCheck_any n A cc l w h
 rw [h0] at g0
 have g1 := fun w h => contacts_any n A cc l w h hl hK
 clear h0 hok hK
 obtain ⟨W1, hW1, hB1, hk1, hl1⟩ := box1 w #[.int .i64 n, .slice A l.length cc] 56
 have e1 := hk1.cell
 have e2 := hk1.lt
 go_enter Tryz.func18, Tryz.ntmps18
 go_wp2_with fail
 clear hW1
 refine (g0 _ (hR.ext hB1)).mono ?_
 rintro e w2 ⟨rfl, hb2⟩
 have hE2 := hB1.trans hb2
 have kh2 := hk1.ext hb2
 clear e1 e2
 have e1 := kh2.cell
 have e2 := kh2.lt
 go_wp2_with fail
 refine (g1 _ (hR.ext hE2)).mono ?_
 rintro e w3 ⟨u, cs, rfl, hS, ho3, hb3⟩
 have hE3 := hE2.trans hb3
 have z2 := hE2.size
 have z3 := hb3.size
 obtain ⟨A3, c3, rfl, hR3⟩ := ho3.form
 by_cases h64 : (64 : Int) < cs.length
 ·have hd : decide ((64 : Int) < cs.length) = true := decide_eq_true h64
  go_wp2
  go_ret2
  exact ⟨hE3, cs, hS, .inl ⟨by omega, rfl⟩⟩
 ·have hd : decide ((64 : Int) < cs.length) = false := decide_eq_false h64
  have g2 := sortCon_all w2.heap.size _ cs w3 ho3 (by omega)
  go_wp2_with fail
  refine g2.mono ?_
  rintro e w4 ⟨rfl, ts, hp, hs, ho4, hg4⟩
  have hE4 := ext_grown hE3 ho3 z2 hg4
  go_wp2
  go_ret2
  exact ⟨hE4, cs, hS, .inr ⟨by omega, _, ts, rfl, hp, ho4.mono z2⟩⟩
end
section
open Go.RowKit Go.Shelf Go.Sort
attribute [local go_sem] Oper.semAt_some
end
section
open Go.RowKit Go.Shelf
attribute [local go_sem] Oper.semAt_some
end
section
open Go.RowKit Go.Shelf Go.Sort
attribute [local go_sem] Oper.semAt_some
end
section
open Go.RowKit Go.Shelf
end
section
open Go.RowKit Go.Shelf Go.Sort
attribute [local go_sem] Oper.semAt_some
end
section
open Go.RowKit Go.Shelf Go.Sort
attribute [local go_sem] Oper.semAt_some
end
section
open Go.RowKit Go.Shelf Go.Sort
attribute [local go_sem] Oper.semAt_some
end
end Go.Proofs.YtemkpimngbbpkaaGreat

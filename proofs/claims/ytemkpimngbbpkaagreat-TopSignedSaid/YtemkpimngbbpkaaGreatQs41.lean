/- Layer 13's reference: Great: that they answer. -/
import Derived.Test.YtemkpimngbbpkaaGreatQs28
namespace Go.Proofs.YtemkpimngbbpkaaGreat
set_option linter.unusedVariables false
set_option linter.unusedSimpArgs false
open Go.RowKit Go.Shelf
attribute [local go_sem] Oper.semAt_some
set_option maxRecDepth 100000 in
set_option maxHeartbeats 16000000 in
theorem great3_any (b : Bu) (A : Option Addr) (cap : Nat) (w : World) (hR : Rd EBl w A b.blocks) :
 Calls Tryz.prog 9 #[.agg (b.cells A cap)] w fun e w' => RetB e /\ Ext w w' := by
 obtain ⟨src, cr, seq, off, tot, dk, dn, life, prio, f, bl, pay⟩ := b
 unfold Bu.cells at *
 dsimp only at *
 obtain ⟨sv, hsv, -⟩ := strV_str pay
 rw [hsv] at *
 clear hsv
 have hs0 : 0 <= (sv.size : Int) := by omega
 obtain ⟨W, hW, hB, hk, hlt⟩ := box1 w #[.int .i64 src, .int .i64 cr, .int .i64 seq, .int .i64 off, .int .i64 tot, .int .i64 dk, .int .i64 dn, .int .i64 life, .int .i64 prio, .int .i64 f, .slice A bl.length cap, .string sv] 29
 have hc := hk.cell
 by_cases h1 : 12 < bl.length
 ·go_enter Tryz.func9, Tryz.ntmps9
  go_wp2
  go_ret
  exact ⟨⟨_, rfl⟩, hB⟩
 have hln : bl.length <= 12 := by omega
 by_cases h2 : 4106 < (sv.size : Int)
 ·go_enter Tryz.func9, Tryz.ntmps9
  go_wp2
  go_ret
  exact ⟨⟨_, rfl⟩, hB⟩
 by_cases h3 : 200 < (sv.size : Int) /\ (sv.size : Int) <= 4096
 ·obtain ⟨h3, h4⟩ := h3
  go_enter Tryz.func9, Tryz.ntmps9
  go_wp2
  go_ret
  exact ⟨⟨_, rfl⟩, hB⟩
 have key : ((sv.size : Int) <= 200) ∨ (200 < (sv.size : Int) /\ 4096 < (sv.size : Int)) := by omega
 clear h3
 rcases key with h3 | ⟨h3, h4⟩
 all_goals
  go_enter Tryz.func9, Tryz.ntmps9
  go_wp2_with fail
  go_loopg [3] bl.length (fun n v wr => ∃ k : Nat, k + n = bl.length /\ v = .int .i64 k /\ wr = W)
  case atStart => exact ⟨0, by omega, by go_num, rfl⟩
  case round =>
   obtain ⟨k, hkn, rfl, rfl⟩ := hrel
   have Hkn := Lib.hid hkn
   by_cases hlt2 : k < bl.length
   ·obtain ⟨b, o, rfl, hb, c0, c1, c2⟩ := (hR.ext hB).bl hlt2
    obtain ⟨sd, hsd, -⟩ := strV_str bl[k].data
    rw [hsd] at c2
    clear hsd
    by_cases k2 : 1034 < (sd.size : Int)
    ·go_wp2
     go_ret
     exact ⟨⟨_, rfl⟩, hB⟩
    by_cases k3 : (sd.size : Int) <= 200
    ·go_wp2
     go_roundg (gk - 1)
     case measure => have := Hkn.out; omega
     case rel => exact ⟨k + 1, by have := Hkn.out; omega, by go_num, rfl⟩
    by_cases k4 : (sd.size : Int) <= 1024
    ·go_wp2
     go_ret
     exact ⟨⟨_, rfl⟩, hB⟩
    ·go_wp2
     go_roundg (gk - 1)
     case measure => have := Hkn.out; omega
     case rel => exact ⟨k + 1, by have := Hkn.out; omega, by go_num, rfl⟩
   ·go_wp2
    go_ret
    exact ⟨⟨_, rfl⟩, hB⟩
end Go.Proofs.YtemkpimngbbpkaaGreat

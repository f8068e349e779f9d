/- Layer 44 (custody): the closures. -/
import Derived.Test.YtlhdmhgbclfneaaCusW9
import Derived.Shelf.Abstract
namespace Go.Proofs.Ytlhdmhgbclfneaa
set_option linter.unusedVariables false
open Go.RowKit Go.Shelf

set_option maxHeartbeats 1000000 in
theorem pred_id {w0 : World} {g : Nat} {y : Bid} (h : Blk w0 g 24 y.arr) : Pred w0 27 #[.pointer (some ⟨g, 0, none⟩)] (fun o => idEq o.id y) where
  enters := enters_of Try.func27 (by kernel_rfl) rfl
  says := fun x w hw => by
    have hk := h.ext hw
    simp only [Bid.arr] at hk
    have hc := hk.cell
    have hlt := hk.lt
    have he := run_eql_id x.id y
    show Calls Try.prog 27 #[_, _] w _
    go_enter Try.func27, Try.ntmps27
    go_wp2
    go_ret
    exact ⟨rfl, (Ext.refl _).alloc _⟩

set_option maxHeartbeats 1000000 in
theorem pred_id2 {w0 : World} {g : Nat} {y : Bid} (h : Blk w0 g 24 y.arr) : Pred w0 37 #[.pointer (some ⟨g, 0, none⟩)] (fun o => idEq o.id y) where
  enters := enters_of Try.func37 (by kernel_rfl) rfl
  says := fun x w hw => by
    have hk := h.ext hw
    simp only [Bid.arr] at hk
    have hc := hk.cell
    have hlt := hk.lt
    have he := run_eql_id x.id y
    show Calls Try.prog 37 #[_, _] w _
    go_enter Try.func37, Try.ntmps37
    go_wp2
    go_ret
    exact ⟨rfl, (Ext.refl _).alloc _⟩

set_option maxHeartbeats 1000000 in
theorem pred_due {w0 : World} {g : Nat} {t : Int} (h : Blk w0 g 3 #[.int .i64 t]) : Pred w0 38 #[.pointer (some ⟨g, 0, none⟩)] (fun o => decide (o.due ≤ t)) where
  enters := enters_of Try.func38 (by kernel_rfl) rfl
  says := fun x w hw => by
    have hk := h.ext hw
    have hc := hk.cell
    have hlt := hk.lt
    show Calls Try.prog 38 #[_, _] w _
    go_enter Try.func38, Try.ntmps38
    go_wp2
    go_ret
    exact ⟨rfl, (Ext.refl _).alloc _⟩

set_option maxHeartbeats 1000000 in
theorem pred_acc {w0 : World} {g : Nat} {y : Off} (h : Blk w0 g 26 y.cells.toArray) : Pred w0 23 #[.pointer (some ⟨g, 0, none⟩)] (fun o => idEq o.id y.id) where
  enters := enters_of Try.func23 (by kernel_rfl) rfl
  says := fun x w hw => by
    have hk := h.ext hw
    simp only [Off.cells] at hk
    have hc := hk.cell
    have hlt := hk.lt
    have he := run_eql_id x.id y.id
    show Calls Try.prog 23 #[_, _] w _
    go_enter Try.func23, Try.ntmps23
    go_wp2
    go_ret
    exact ⟨rfl, (Ext.refl _).alloc _⟩

set_option maxHeartbeats 1000000 in
theorem pred_key {w0 : World} {g : Nat} {y : Off} (h : Blk w0 g 26 y.cells.toArray) : Pred w0 30 #[.pointer (some ⟨g, 0, none⟩)] (fun o => keyEq o y) where
  enters := enters_of Try.func30 (by kernel_rfl) rfl
  says := fun x w hw => by
    have hk := h.ext hw
    simp only [Off.cells] at hk
    have he := run_eql_key x y
    show Calls Try.prog 30 #[_, _] w _
    go_enter Try.func30, Try.ntmps30
    go_wp2_with fail
    obtain ⟨W, hW, hB, hkb, hltW⟩ := box1 w x.cells.toArray 26
    simp only [Off.cells] at hW hkb
    rw [hW]
    clear hW
    have hc := hkb.cell
    have hc2 := (hk.ext hB).cell
    have hlt2 := (hk.ext hB).lt
    have hN := Near.refl W
    have hq := quiet_near hN
    refine wp_region_quiet_below (by kernel_rfl) (by kernel_rfl) ?_
    repeat (first | go_big_quiet_skip | (go_big_quiet_want; go_big_quiet_op; first | go_big_quiet_on | (apply Exists.intro; refine ⟨fun _ => ?_, ?_⟩; (focus (first | (go_at_call 31; exact Calls.regrown_of (keyOf_any _ _)))); go_big_quiet_on)))
    refine wpQuiet_nil ?_
    intro w1 hw1
    clear hq
    replace hw1 := quiet_ext hw1
    replace hN := hN.step hw1
    have hC := hN.2
    go_wp2
    go_ret
    exact ⟨rfl, hB.trans hN.1⟩

set_option maxHeartbeats 1000000 in
theorem pred_lt {w0 : World} {g : Nat} {y : Off} (h : Blk w0 g 26 y.cells.toArray) : Pred w0 32 #[.pointer (some ⟨g, 0, none⟩)] (fun o => o.lt y) where
  enters := enters_of Try.func32 (by kernel_rfl) rfl
  says := fun x w hw => by
    have hk := h.ext hw
    simp only [Off.cells] at hk
    show Calls Try.prog 32 #[_, _] w _
    go_enter Try.func32, Try.ntmps32
    go_wp2_with fail
    obtain ⟨W, hW, hB, hkb, hltW⟩ := box1 w x.cells.toArray 26
    simp only [Off.cells] at hW hkb
    rw [hW]
    clear hW
    have hc := hkb.cell
    have hc2 := (hk.ext hB).cell
    have hlt2 := (hk.ext hB).lt
    have hN := Near.refl W
    have hq := quiet_near hN
    refine wp_region_quiet_below (by kernel_rfl) (by kernel_rfl) ?_
    repeat (first | go_big_quiet_skip | (go_big_quiet_want; go_big_quiet_op; first | go_big_quiet_on | (apply Exists.intro; refine ⟨fun _ => ?_, ?_⟩; (focus (first | (go_at_call 31; exact Calls.regrown_of (keyOf_any _ _)) | (go_at_call 33; exact Calls.regrown_of (compare_any _ _ _)))); go_big_quiet_on)))
    refine wpQuiet_nil ?_
    intro w1 hw1
    clear hq
    replace hw1 := quiet_ext hw1
    replace hN := hN.step hw1
    have hC := hN.2
    go_wp2
    go_ret
    exact ⟨rfl, hB.trans hN.1⟩

set_option maxHeartbeats 1000000 in
theorem pred_key2 {w0 : World} {g g2 : Nat} {y : Bid} {c : Int} (h : Blk w0 g 24 y.arr) (h2 : Blk w0 g2 3 #[.int .i64 c]) : Pred w0 36 #[.pointer (some ⟨g, 0, none⟩), .pointer (some ⟨g2, 0, none⟩)] (fun o => keyEq o ⟨y, c, 0, 0⟩) where
  enters := enters_of Try.func36 (by kernel_rfl) rfl
  says := fun x w hw => by
    have hk := h.ext hw
    have hk2 := h2.ext hw
    simp only [Bid.arr] at hk
    have he := run_eql_key x ⟨y, c, 0, 0⟩
    show Calls Try.prog 36 #[_, _, _] w _
    go_enter Try.func36, Try.ntmps36
    go_wp2_with fail
    obtain ⟨W, hW, hB, hkb, hltW⟩ := box1 w x.cells.toArray 26
    simp only [Off.cells] at hW hkb
    rw [hW]
    clear hW
    have hc := hkb.cell
    have hc2 := (hk.ext hB).cell
    have hlt2 := (hk.ext hB).lt
    have hc3 := (hk2.ext hB).cell
    have hlt3 := (hk2.ext hB).lt
    have hN := Near.refl W
    have hq := quiet_near hN
    refine wp_region_quiet_below (by kernel_rfl) (by kernel_rfl) ?_
    repeat (first | go_big_quiet_skip | (go_big_quiet_want; go_big_quiet_op; first | go_big_quiet_on | (apply Exists.intro; refine ⟨fun _ => ?_, ?_⟩; (focus (first | (go_at_call 31; exact Calls.regrown_of (keyOf_any _ _)))); go_big_quiet_on)))
    refine wpQuiet_nil ?_
    intro w1 hw1
    clear hq
    replace hw1 := quiet_ext hw1
    replace hN := hN.step hw1
    have hC := hN.2
    go_wp2
    go_ret
    exact ⟨rfl, hB.trans hN.1⟩

end Go.Proofs.Ytlhdmhgbclfneaa

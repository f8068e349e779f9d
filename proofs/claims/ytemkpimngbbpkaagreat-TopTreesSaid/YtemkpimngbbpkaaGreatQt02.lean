/- Layer 21 (contact): the walks, first part. · Layer 21 (contact): the sum over the segments, by the iterator. · Layer 21 (contact): the walks, second part. · Layer 21 (contact): the walks, third part: the reference's functions, Volume and Overlap. · Layer 22 (plan): the walks of Check. · Layer 22 (plan): the walk of the reference's Check, and of Great. · Layer 35 (multicast): branches, bookings, holds as plain data. · Layer 35 (multicast): the walks of the two CheckRequest. · Layer 35 (multicast): times, start, the members. · Layer 26 (reach): the walks of valid (with ContainsFunc at numbers), of the law's fine, and of the reference's check and Great. -/
import Derived.Test.YtemkpimngbbpkaaGreatRows
import Derived.RangeFuncNested
import Derived.RangeFuncBound
import Derived.RangeFuncCalls
import Derived.RangeFuncLeaves
import Derived.Shelf.Abstract
import Derived.Shelf.RegionOpen
import Derived.OwnWalkIn
import Derived.TacticsInMore
import Derived.LoopNIn
import Derived.LoopIn
import Derived.Laws.ResultCell
import Derived.Test.YtemkpimngbbpkaaGreatQt01
namespace Go.Proofs.YtemkpimngbbpkaaGreat
set_option linter.unusedVariables false
set_option linter.unusedSimpArgs false
section
open Go.RowKit
set_option maxHeartbeats 400000 in
theorem within_any (n lo hi : Int) (w : World) :
 Calls Tryz.prog 151 #[.int .i64 n, .int .i64 lo, .int .i64 hi] w fun e w' => e = .returned (.bool (inB n lo hi)) /\ w = w' := by
 by_cases h1 : lo <= n
 ·by_cases h2 : n <= hi
  all_goals
   go_enter Tryz.func151, Tryz.ntmps151
   go_wp2
   go_ret
   exact ⟨by simp [inB]; omega, rfl⟩
 ·go_enter Tryz.func151, Tryz.ntmps151
  go_wp2
  go_ret
  exact ⟨by simp [inB]; omega, rfl⟩
set_option maxHeartbeats 400000 in
theorem check_any (c : Con) (w : World) :
 Calls Tryz.prog 69 #[c.val] w fun e w' => e = .returned (.int .i64 c.check) /\ Ext w w' := by
 have hB : Ext w (w.alloc (.cells c.cells 61)) := (Ext.refl _).alloc _
 unfold Con.val
 unfold Con.cells at hB
 go_enter Tryz.func69, Tryz.ntmps69
 go_wp2_with (go_at_call 151; refine (within_any _ _ _ _).mono ?_; rintro e w' ⟨rfl, rfl⟩)
 all_goals go_ret
 all_goals refine ⟨?_, hB⟩
 all_goals simp only [Con.check, Con.inr, Con.tim]
 all_goals simp_all
 all_goals (simp only [inB, decide_eq_true_eq, wrap64] at *; omega)
set_option maxHeartbeats 400000 in
theorem arg_any (c : Con) (n : Int) (w : World) :
 Calls Tryz.prog 259 #[c.val, .int .i64 n] w fun e w' => e = .returned (.int .i64 (c.arg n)) /\ Ext w w' := by
 by_cases h0 : c.check = 0
 all_goals
  unfold Con.val
  go_enter Tryz.func259, Tryz.ntmps259
  go_wp2_with fail
  obtain ⟨W, hW, hB, hk, hlt⟩ := box1 w c.cells 61
  simp only [Con.cells] at hW hk
  rw [hW]
  clear hW
  have hc := hk.cell
  have hN := Near.refl W
  go_wp2_with (first | (go_at_call 69; refine (check_any c _).mono ?_; rintro e w1 ⟨rfl, hb⟩; replace hN := hN.step hb; have hC := hN.2) | (go_at_call 151; refine (within_any _ _ _ _).mono ?_; rintro e w1 ⟨rfl, rfl⟩))
  all_goals go_ret
  all_goals refine ⟨?_, hB.trans hN.1⟩
  all_goals (simp_all [Con.arg])
set_option maxHeartbeats 400000 in
theorem ticks_any (c : Con) (n : Int) (w : World) (hr : 1 <= c.rate /\ c.rate <= 1000) (hn : 0 <= n /\ n <= 65536) :
 Calls Tryz.prog 307 #[c.val, .int .i64 n] w fun e w' => e = .returned (.int .i64 (c.ticks n)) /\ Ext w w' := by
 unfold Con.val
 go_enter Tryz.func307, Tryz.ntmps307
 go_wp2
 go_ret
 exact ⟨by rfl, (Ext.refl _).alloc _⟩
end
section
open Go.RowKit Go.Shelf
attribute [local go_sem] Oper.semAt_some
abbrev Seg := { x : Int // 1 <= x /\ x <= 16 }
def segVals (l : List Seg) : List Int := l.map (·.1)
theorem segVals_snoc (l : List Seg) (x : Seg) : segVals (l ++ [x]) = segVals l ++ [x.1] := by simp [segVals]
def segsOf (size : Int) : List Int := List.replicate (size / 16).toNat 16 ++ (if size % 16 > 0 then [size % 16] else [])
theorem seg_full (n : Nat) (size left : Int) (pre : List Seg) (h0 : 0 <= size) (h1 : left + 16 * (n : Int) = size) (h2 : 0 <= left /\ left < 16) (hp : segVals pre = List.replicate n 16) :
 segVals pre ++ (if left > 0 then [left] else []) = segsOf size := by
 have e1 : (size / 16).toNat = n := by omega
 have e2 : size % 16 = left := by omega
 rw [hp, segsOf, e1, e2]
def SegRel (size : Int) (J : List Seg -> World -> Prop) (p : Value) (wr : World) : Prop :=
 ∃ (pre : List Seg) (left : Int), p = .int .i64 left /\ left <= size /\ -16 <= left /\ ((0 <= left /\ left + 16 * (pre.length : Int) = size /\ segVals pre = List.replicate pre.length 16) ∨ (left < 0 /\ segVals pre = segsOf size)) /\ J pre wr
set_option maxHeartbeats 1000000 in
theorem seg_iter (l Bn n₀ : Nat) (size : Int) (hs : 0 <= size /\ size <= 65536) (J Jx : List Seg -> World -> Prop)
 (hY : ∀ pre x W, J pre W -> pre.length < 65536 -> YieldAt Fence.wide 3 Tryz.prog l #[.int .i64 x.1] W fun e W' =>
  (e = .returned (.bool true) /\ J (pre ++ [x]) W' /\ Below n₀ W W') ∨ (e = .returned (.bool false) /\ Jx (pre ++ [x]) W'))
 (W : World) (hBn : W.cell? ⟨Bn, 0, none⟩ = some (.int .i64 size)) (h0 : J [] W) :
 CallsIn Fence.wide 4 Tryz.prog 338 #[.func (.yield l) #[] #[], .pointer (some ⟨Bn, 0, none⟩)] W fun e W' => (∃ v, e = .returned v) /\
  ((∃ ys : List Seg, segVals ys = segsOf size /\ J ys W') ∨ (∃ pre : List Seg, True /\ Jx pre W')) := by
 refine callsIn_of_wp Tryz.func338 rfl trivial ?_ rfl
 simp only [Tryz.ntmps338, List.size_toArray, List.length_cons, List.length_nil, Nat.reduceAdd, Nat.reduceSub, Array.replicate_succ, Array.replicate_zero, List.push_toArray, List.append_toArray, List.nil_append, List.cons_append]
 gi_wp2
 gi_loopw [3] (fun p wr => SegRel size J p wr) (fun p _ => (intOf p + 16).toNat)
 case atStart => exact ⟨[], size, rfl, Int.le_refl _, by omega, .inl ⟨hs.1, by simp, rfl⟩, h0⟩
 case round =>
  obtain ⟨pre, left, rfl, hle, hge, hcase, hJs⟩ := hrel
  by_cases hl : 0 < left
  ·obtain ⟨h1, h2, h3⟩ : 0 <= left /\ left + 16 * (pre.length : Int) = size /\ segVals pre = List.replicate pre.length 16 := by
    rcases hcase with h | h
    ·exact h
    ·omega
   have hlen : pre.length < 65536 := by omega
   have H2 := Lib.hid h2
   have H3 := Lib.hid h3
   clear hcase h2 h3
   by_cases h16 : 16 < left
   ·obtain ⟨fn, tmps, assign, body, hy, hR⟩ := hY pre ⟨16, by omega, by omega⟩ wr hJs hlen
    gi_wp2
    refine hR.mono ?_
    rintro e W3 (⟨rfl, hJ3, hk3⟩ | ⟨rfl, hJx3⟩)
    ·gi_wp2
     go_roundw
     case rel => exact ⟨pre ++ [⟨16, by omega, by omega⟩], left - 16, rfl, by omega, by omega, .inl ⟨by omega, by have := H2.out; simp; omega, by rw [segVals_snoc, H3.out]; simp [List.replicate_succ']⟩, hJ3⟩
     case measure => simp [intOf]; omega
    ·gi_wp2
     refine bodyPost_ret (results_none rfl _ _ _) rfl ?_
     exact ⟨⟨_, rfl⟩, .inr ⟨_, trivial, hJx3⟩⟩
   ·obtain ⟨fn, tmps, assign, body, hy, hR⟩ := hY pre ⟨left, by omega, by omega⟩ wr hJs hlen
    gi_wp2
    refine hR.mono ?_
    rintro e W3 (⟨rfl, hJ3, hk3⟩ | ⟨rfl, hJx3⟩)
    ·gi_wp2
     go_roundw
     case rel =>
      refine ⟨pre ++ [⟨left, by omega, by omega⟩], left - 16, rfl, by omega, by omega, ?_, hJ3⟩
      by_cases e16 : left = 16
      ·exact .inl ⟨by omega, by have := H2.out; simp; omega, by rw [segVals_snoc, H3.out, List.length_append, List.length_singleton, List.replicate_succ', List.append_cancel_left_eq]; simpa using e16⟩
      ·refine .inr ⟨by omega, ?_⟩
       have := seg_full pre.length size left pre hs.1 H2.out ⟨by omega, by omega⟩ H3.out
       rw [if_pos hl] at this
       rw [segVals_snoc]; exact this
     case measure => simp [intOf]; omega
    ·gi_wp2
     refine bodyPost_ret (results_none rfl _ _ _) rfl ?_
     exact ⟨⟨_, rfl⟩, .inr ⟨_, trivial, hJx3⟩⟩
  ·have HC := Lib.hid hcase
   clear hcase
   gi_wp2
   go_end0
   refine ⟨⟨_, rfl⟩, .inl ⟨pre, ?_, hJs⟩⟩
   rcases HC.out with ⟨h1, h2, h3⟩ | ⟨h1, h2⟩
   ·have := seg_full pre.length size left pre hs.1 h2 ⟨by omega, by omega⟩ h3
    rw [if_neg (by omega), List.append_nil] at this
    exact this
   ·exact h2
def Con.sum (c : Con) (l : List Int) : Int := (l.map c.ticks).sum
theorem Con.sum_snoc (c : Con) (l : List Int) (x : Int) : c.sum (l ++ [x]) = c.sum l + c.ticks x := by simp [Con.sum]
theorem Con.sum_segs (c : Con) (n : Int) (hn : 0 <= n) : c.sum (segsOf n) = c.pass n := by
 unfold Con.sum segsOf Con.pass
 have h : ((n / 16).toNat : Int) = n / 16 := by omega
 split <;> simp [h]
theorem Con.sum_bd (c : Con) (hr : 1 <= c.rate) : ∀ l : List Seg, 0 <= c.sum (segVals l) /\ c.sum (segVals l) <= 24 * l.length
 | [] => by simp [Con.sum, segVals]
 | x :: l => by
   have h := Con.sum_bd c hr l
   have t := Con.ticks_bd (c := c) (n := x.1) hr (by have := x.2; omega)
   have := x.2
   simp only [Con.sum, segVals, List.map_cons, List.sum_cons, List.length_cons] at *
   omega
theorem seg_stops (Bn n₀ : Nat) (size : Int) (hs : 0 <= size /\ size <= 65536) (w : World) (hn : n₀ <= w.heap.size) (hBn : w.cell? ⟨Bn, 0, none⟩ = some (.int .i64 size)) :
 SeqStopsK Fence.wide 4 Tryz.prog 338 #[.pointer (some ⟨Bn, 0, none⟩)] (fun x : Seg => #[.int .i64 x.1]) (Below n₀) (fun ys => segVals ys = segsOf size) (fun _ => True) 65536 w :=
 fun l J Jx W hW _ _ hY h0 => seg_iter l Bn n₀ size hs J Jx hY W ((Ext.cell_some hW hBn)) h0
set_option maxHeartbeats 400000 in
theorem segments_any (n : Int) (w : World) :
 Calls Tryz.prog 331 #[.int .i64 n] w fun e w' => e = .returned (.func (.func 338) #[] #[.pointer (some ⟨w.heap.size, 0, none⟩)]) /\ w' = w.alloc (.cells #[.int .i64 n] 3) := by
 go_enter Tryz.func331, Tryz.ntmps331
 go_wp2
 go_ret
 exact ⟨rfl, rfl⟩
set_option maxHeartbeats 2000000 in
theorem pass_any (c : Con) (n : Int) (w : World) (hr : 1 <= c.rate /\ c.rate <= 1000) (hn : 1 <= n /\ n <= 65536) :
 Calls Tryz.prog 306 #[c.val, .int .i64 n] w fun e w' => e = .returned (.int .i64 (c.pass n)) /\ Ext w w' := by
 refine (callsIn_wide (n := 5)).1 ?_
 refine callsIn_of_wp_marks Tryz.func306 rfl trivial ?_ rfl
 unfold Con.val
 simp only [Tryz.ntmps306, List.size_toArray, List.length_cons, List.length_nil, Nat.reduceAdd, Nat.reduceSub, Array.replicate_succ, Array.replicate_zero, List.push_toArray, List.append_toArray, List.nil_append, List.cons_append]
 gi_wp2
 refine ⟨trivial, ?_⟩
 refine (callsIn_wide.2 (segments_any n _)).mono ?_
 rintro e w' ⟨rfl, rfl⟩
 obtain ⟨W, hW, hB, hk0, hk1, hk2, hz⟩ : ∃ W, ((w.alloc (.cells c.cells 61)).alloc (.cells #[.int .i64 0] 3)).alloc (.cells #[.int .i64 n] 3) = W /\ Ext w W /\ Blk W w.heap.size 61 c.cells /\ Blk W (w.heap.size + 1) 3 #[.int .i64 0] /\ Blk W (w.heap.size + 2) 3 #[.int .i64 n] /\ W.heap.size = w.heap.size + 3 := by
  refine ⟨_, rfl, (((Ext.refl w).alloc _).alloc _).alloc _, ?_, ?_, ?_, by simp⟩
  ·exact ((Blk.new w _ _).ext ((Ext.refl _).alloc _)).ext ((Ext.refl _).alloc _)
  ·have := (Blk.new (w.alloc (.cells c.cells 61)) 3 #[.int .i64 0]).ext ((Ext.refl _).alloc (.cells #[.int .i64 n] 3))
   simpa using this
  ·have := Blk.new ((w.alloc (.cells c.cells 61)).alloc (.cells #[.int .i64 0] 3)) 3 #[.int .i64 n]
   simpa using this
 simp only [Con.cells] at hW hk0
 rw [hW]
 clear hW
 simp only [World.size_alloc]
 have hz' := Lib.hid hz
 clear hz
 gi_wp2
 refine wpIn_rangeFunc_ownF rfl (by omega) (gf := 338) (lb := #[.pointer (some ⟨w.heap.size + 2, 0, none⟩)]) rfl trivial (enters_of Tryz.func338 (by kernel_rfl) rfl)
  (seg_stops (w.heap.size + 2) w.heap.size n ⟨by omega, hn.2⟩ W hB.size (hk2.cell 0)) belowK_t (belowK_b hB.size) (Below.refl _ _) (fun _ => rfl)
  (fun pre W' => (Blk W' (w.heap.size + 1) 3 #[.int .i64 (c.sum (segVals pre))] /\ Blk W' w.heap.size 61 c.cells) /\ Below w.heap.size w W')
  (fun _ _ _ => False)
  (OwnFrom.and (OwnFrom.and (Own.from (blk_own _ _ (fun pre => #[.int .i64 (c.sum (segVals pre))])) _) (Own.from (blk_own _ _ (fun _ => c.cells)) _)) (ownFrom_below (Nat.le_refl _) hB.size))
  (fun _ _ _ _ _ hs _ _ => hs)
  ⟨⟨hk1, hk0⟩, hB⟩
  (fun x => { tmps := #[.agg #[.int .i64 c.src, .int .i64 c.dst, .int .i64 c.st, .int .i64 c.en, .int .i64 c.rate, .int .i64 c.rng, .int .i64 c.loss], .int .i64 n, .pointer (some ⟨w.heap.size, 0, none⟩), undef, .int .i64 0, .pointer (some ⟨w.heap.size + 1, 0, none⟩), .int .i64 x.1, .int .i64 n, .func (.func 338) #[] #[.pointer (some ⟨w.heap.size + 2, 0, none⟩)], .int .i64 x.1, undef, undef, undef, undef, undef, undef], defers := [] }) ?assign ?body ?done ?stop
 case assign =>
  intro l x W K hK
  gi_wp2
  exact hK
 case body =>
  rintro l pre x W2 ⟨⟨hs, hcn⟩, hB2⟩ hlen
  have sb := Con.sum_bd c hr.1 pre
  have hs0 := hs.cell
  have hs1 := hs.frozen
  simp only [Con.cells] at hcn
  have hc0 := hcn.cell
  have hx := x.2
  have tb := Con.ticks_bd (c := c) (n := x.1) hr.1 (by omega)
  have h13 : 1 <= 5 - 1 - 1 := by omega
  gi_wp2
  have hT : ∀ W', CallsIn (Fence.wide.inRound l) 2 Tryz.prog 307 #[c.val, .int .i64 x.1] W' (fun e w1 => e = .returned (.int .i64 (c.ticks x.1)) /\ Ext W' w1) := fun W' => CallsIn.inRound l (callsIn_wide.2 (ticks_any c _ _ hr (by omega)))
  unfold Con.val at hT
  have hfn : ∀ k, Fence.wide.fn k := fun _ => trivial
  have hmix : Tryz.prog.follows .mixedOrders = true := by kernel_rfl
  gi_region_with_o (gi_at_call 307; refine (hT _).mono ?_; rintro e w1 ⟨rfl, hb⟩; have hsb := Blk.ext (w := W2.drew) hs hb; have hcb := Blk.ext (w := W2.drew) hcn hb; have hsb0 := hsb.cell; have hsb1 := hsb.frozen)
  all_goals
   refine ⟨((KeepsOthers.drew W2).trans hb.keeps).trans (KeepsOthers.setCell _ _ _), ?_, ⟨?_, ?_⟩, ?_⟩
   ·exact (((Below.refl _ W2).drew).trans (hb.below (by have := hB2.size; simpa using this))).setCell (by simp) _
   ·have h := Blk.set0 hsb (.int .i64 (c.sum (segVals (pre ++ [x]))))
    rw [segVals_snoc, Con.sum_snoc] at h ⊢
    first | exact h | (rw [IntWalk.i64_in _ (by omega)]; exact h)
   ·exact hcb.far (by simp) _
   ·exact ((hB2.drew).trans (hb.below (by have := hB2.size; simpa using this))).setCell (by simp) _
 case done =>
  rintro D ys W3 hD hS ⟨⟨hs, _⟩, hB3⟩ hK
  have hs0 := hs.cell
  gi_wp2
  refine ⟨by simp, .inl ⟨_, _, rfl, run_takeDeferred hK, ?_⟩⟩
  refine ⟨_, results_tmp rfl _ _ _, ?_, hB3.trans (belowK_b (w := w) (Nat.le_refl _) W3 D _ _ (by have := hB.size; omega) hK rfl rfl)⟩
  refine ret_i64 ?_
  try rw [hS]
  exact Con.sum_segs c n (by omega)
 case stop =>
  rintro D cc pre W3 _ _ h _
  exact h.elim
end
section
open Go.RowKit
set_option maxHeartbeats 1000000 in
theorem dur_any (c : Con) (n : Int) (w : World) (h : c.Ok) (hn : 1 <= n /\ n <= 65536) :
 Calls Tryz.prog 260 #[c.val, .int .i64 n] w fun e w' => e = .returned (.int .i64 (c.dur n)) /\ Ext w w' := by
 obtain ⟨h1, h2, h3, h4, h5, h6, h7, h8, h9, h10, h11, h12, h13, h14⟩ := h
 have p := Con.pass_bd (c := c) h5 hn.1 hn.2
 have t := Con.ticks_bd (c := c) (n := 16) h5 (by omega)
 have x := Con.extra_bd (c := c) h5 h7 h8 h9 h10
 unfold Con.val
 go_enter Tryz.func260, Tryz.ntmps260
 go_wp2_with fail
 obtain ⟨W, hW, hB, hk, hlt⟩ := box1 w c.cells 61
 simp only [Con.cells] at hW hk
 rw [hW]
 clear hW
 have hc := hk.cell
 have hN := Near.refl W
 go_region_held3 (fun w' => Ext W w' /\ ∀ b o, b < W.heap.size -> w'.cell? ⟨b, o, none⟩ = W.cell? ⟨b, o, none⟩) (first | exact hN.drew | exact Near.step (by assumption) hb)
  (first | (go_at_call 306; refine (pass_any c _ _ ⟨h5, h6⟩ hn).mono ?_; rintro e w1 ⟨rfl, hb⟩) | (go_at_call 307; refine (ticks_any c _ _ ⟨h5, h6⟩ (by omega)).mono ?_; rintro e w1 ⟨rfl, hb⟩))
 all_goals (obtain ⟨hE, hC⟩ := ‹Ext W _ /\ _›; replace hN : Near W _ := ⟨hE, hC⟩)
 go_wp2
 go_ret
 refine ⟨ret_i64 ?_, hB.trans hN.1⟩
 go_unwrap
 rfl
set_option maxHeartbeats 1000000 in
theorem fits_any (c : Con) (b n : Int) (w : World) (h : c.Ok) (hn : 1 <= n /\ n <= 65536) :
 Calls Tryz.prog 323 #[c.val, .int .i64 b, .int .i64 n] w fun e w' => e = .returned (.bool (c.fitsB b n)) /\ Ext w w' := by
 have d := Con.dur_bd h hn.1 hn.2
 have ⟨h1, h2, h3, h4, h5, h6, h7, h8, h9, h10, h11, h12, h13, h14⟩ := h
 by_cases hs : c.st <= b
 ·have hd : decide (c.st <= b) = true := by simpa using hs
  unfold Con.val
  go_enter Tryz.func323, Tryz.ntmps323
  go_wp2_with fail
  obtain ⟨W, hW, hB, hk, hlt⟩ := box1 w c.cells 61
  simp only [Con.cells] at hW hk
  rw [hW]
  clear hW
  have hc := hk.cell
  have hN := Near.refl W
  have hq := quiet_near hN
  refine wp_region_quiet_below (by kernel_rfl) (by kernel_rfl) ?_
  repeat (first | go_big_quiet_skip | (go_big_quiet_want; go_big_quiet_op; first | go_big_quiet_on | (apply Exists.intro; refine ⟨fun _ => ?_, ?_⟩; (focus (first | (go_at_call 260; exact Calls.regrown_of (dur_any c _ _ h hn)))); go_big_quiet_on)))
  refine wpQuiet_nil ?_
  intro w1 hw1
  clear hq
  replace hw1 := quiet_ext hw1
  replace hN := hN.step hw1
  have hC := hN.2
  go_wp2
  go_ret
  refine ⟨ret_bool ?_, hB.trans hN.1⟩
  try go_unwrap
  simp [Con.fitsB]; omega
 ·have hd : decide (c.st <= b) = false := by simpa using hs
  unfold Con.val
  go_enter Tryz.func323, Tryz.ntmps323
  go_wp2_with fail
  obtain ⟨W, hW, hB, hk, hlt⟩ := box1 w c.cells 61
  simp only [Con.cells] at hW hk
  rw [hW]
  clear hW
  have hc := hk.cell
  have hN := Near.refl W
  have hq := quiet_near hN
  refine wp_region_quiet_below (by kernel_rfl) (by kernel_rfl) ?_
  repeat (first | go_big_quiet_skip | (go_big_quiet_want; go_big_quiet_op; first | go_big_quiet_on | (apply Exists.intro; refine ⟨fun _ => ?_, ?_⟩; (focus (first | fail)); go_big_quiet_on)))
  refine wpQuiet_nil ?_
  intro w1 hw1
  clear hq
  replace hw1 := quiet_ext hw1
  replace hN := hN.step hw1
  have hC := hN.2
  go_wp2
  go_ret
  refine ⟨ret_bool ?_, hB.trans hN.1⟩
  simp [Con.fitsB]; omega
set_option maxHeartbeats 1000000 in
theorem Fits_any (c : Con) (b n : Int) (w : World) :
 Calls Tryz.prog 324 #[c.val, .int .i64 b, .int .i64 n] w fun e w' => e = .returned (.bool (c.fitsR b n)) /\ Ext w w' := by
 by_cases ha : c.arg n = 0
 all_goals
  unfold Con.val
  go_enter Tryz.func324, Tryz.ntmps324
  go_wp2_with fail
  obtain ⟨W, hW, hB, hk, hlt⟩ := box1 w c.cells 61
  simp only [Con.cells] at hW hk
  rw [hW]
  clear hW
  have hc := hk.cell
  have hN := Near.refl W
  go_wp2_with (first | (go_at_call 259; refine (arg_any c _ _).mono ?_; rintro e w1 ⟨rfl, hb⟩; replace hN := hN.step hb; have hC := hN.2) | (go_at_call 323; refine (fits_any c _ _ _ (Con.arg_ok.1 ha).1 (Con.arg_ok.1 ha).2).mono ?_; rintro e w1 ⟨rfl, hb⟩; replace hN := hN.step hb; have hC := hN.2))
  go_ret
  exact ⟨ret_bool (by simp [Con.fitsR, ha]), hB.trans hN.1⟩
set_option maxHeartbeats 1000000 in
theorem Duration_any (c : Con) (n : Int) (w : World) :
 Calls Tryz.prog 196 #[c.val, .int .i64 n] w fun e w' => e = .returned (.tuple #[.int .i64 (c.durR n), .int .i64 (c.arg n)]) /\ Ext w w' := by
 by_cases ha : c.arg n = 0
 all_goals
  unfold Con.val
  go_enter Tryz.func196, Tryz.ntmps196
  go_wp2_with fail
  obtain ⟨W, hW, hB, hk, hlt⟩ := box1 w c.cells 61
  simp only [Con.cells] at hW hk
  rw [hW]
  clear hW
  have hc := hk.cell
  have hN := Near.refl W
  go_wp2_with (first | (go_at_call 259; refine (arg_any c _ _).mono ?_; rintro e w1 ⟨rfl, hb⟩; replace hN := hN.step hb; have hC := hN.2) | (go_at_call 260; refine (dur_any c _ _ (Con.arg_ok.1 ha).1 (Con.arg_ok.1 ha).2).mono ?_; rintro e w1 ⟨rfl, hb⟩; replace hN := hN.step hb; have hC := hN.2))
  go_ret2
  exact ⟨by simp [Con.durR, ha], hB.trans hN.1⟩
set_option maxHeartbeats 1000000 in
theorem Begin_any (c : Con) (t n : Int) (w : World) :
 Calls Tryz.prog 291 #[c.val, .int .i64 t, .int .i64 n] w fun e w' => e = .returned (.tuple #[.int .i64 (c.beginT t n), .int .i64 (c.beginE t n)]) /\ Ext w w' := by
 by_cases ha : c.arg n = 0
 ·cases hf : c.fitsB (c.beg t) n
  all_goals
   by_cases ht : t < c.st
   all_goals
    have hx : c.beg t = if t < c.st then c.st else t := rfl
    simp only [ht, if_true, if_false] at hx
    have hx' := Lib.hid hx
    rw [hx] at hf
    clear hx
    unfold Con.val
    go_enter Tryz.func291, Tryz.ntmps291
    go_wp2_with fail
    obtain ⟨W, hW, hB, hk, hlt⟩ := box1 w c.cells 61
    simp only [Con.cells] at hW hk
    rw [hW]
    clear hW
    have hc := hk.cell
    have hN := Near.refl W
    go_wp2_with (first | (go_at_call 259; refine (arg_any c _ _).mono ?_; rintro e w1 ⟨rfl, hb⟩; replace hN := hN.step hb; have hC := hN.2) | (go_at_call 323; refine (fits_any c _ _ _ (Con.arg_ok.1 ha).1 (Con.arg_ok.1 ha).2).mono ?_; rintro e w1 ⟨rfl, hb⟩; replace hN := hN.step hb; have hC := hN.2))
    go_ret2
    exact ⟨by simp [Con.beginT, Con.beginE, Con.atE, ha, hx'.out, hf], hB.trans hN.1⟩
 ·unfold Con.val
  go_enter Tryz.func291, Tryz.ntmps291
  go_wp2_with fail
  obtain ⟨W, hW, hB, hk, hlt⟩ := box1 w c.cells 61
  simp only [Con.cells] at hW hk
  rw [hW]
  clear hW
  have hc := hk.cell
  have hN := Near.refl W
  go_wp2_with (go_at_call 259; refine (arg_any c _ _).mono ?_; rintro e w1 ⟨rfl, hb⟩; replace hN := hN.step hb; have hC := hN.2)
  go_ret2
  exact ⟨by simp [Con.beginT, Con.beginE, Con.atE, ha], hB.trans hN.1⟩
end
section
open Go.RowKit
theorem Con.overlap_eq {a b : Con} (ha : a.check = 0) (hb : b.check = 0) : a.overlapB b = decide (a.src = b.src /\ a.dst = b.dst /\ a.st < b.en /\ b.st < a.en) := by
 have h1 := ((Con.check_iff a).1 ha).st1
 have h2 := ((Con.check_iff b).1 hb).st1
 rw [Bool.eq_iff_iff]
 simp [Con.overlapB, ha, hb]
 omega
set_option maxHeartbeats 1000000 in
theorem Overlap_any (a b : Con) (w : World) :
 Calls Tryz.prog 72 #[a.val, b.val] w fun e w' => e = .returned (.bool (a.overlapB b)) /\ Ext w w' := by
 by_cases ha : a.check = 0
 ·by_cases hb0 : b.check = 0
  ·have ho := Lib.hid (Con.overlap_eq ha hb0)
   have h1 := ((Con.check_iff a).1 ha).st1
   have h2 := ((Con.check_iff b).1 hb0).st1
   unfold Con.val
   go_enter Tryz.func72, Tryz.ntmps72
   go_wp2_with fail
   obtain ⟨W, hW, hB, hk, hk2, hlt, hlt2⟩ := box2 w a.cells b.cells 61 61
   simp only [Con.cells] at hW hk hk2
   rw [hW]
   clear hW
   have hc := hk.cell
   have hc2 := hk2.cell
   have hN := Near.refl W
   go_wp2_with (go_at_call 69; refine (check_any _ _).mono ?_; rintro e w1 ⟨rfl, hb⟩; replace hN := hN.step hb; have hC := hN.2)
   all_goals go_ret
   all_goals refine ⟨ret_bool ?_, hB.trans hN.1⟩
   all_goals rw [ho.out, Bool.eq_iff_iff]
   all_goals clear ho hc hc2 hk hk2
   all_goals simp_all
   all_goals omega
  ·unfold Con.val
   go_enter Tryz.func72, Tryz.ntmps72
   go_wp2_with fail
   obtain ⟨W, hW, hB, hk, hk2, hlt, hlt2⟩ := box2 w a.cells b.cells 61 61
   simp only [Con.cells] at hW hk hk2
   rw [hW]
   clear hW
   have hc := hk.cell
   have hc2 := hk2.cell
   have hN := Near.refl W
   go_wp2_with (go_at_call 69; refine (check_any _ _).mono ?_; rintro e w1 ⟨rfl, hb⟩; replace hN := hN.step hb; have hC := hN.2)
   go_ret
   exact ⟨ret_bool (by simp [Con.overlapB, hb0]), hB.trans hN.1⟩
 ·unfold Con.val
  go_enter Tryz.func72, Tryz.ntmps72
  go_wp2_with fail
  obtain ⟨W, hW, hB, hk, hk2, hlt, hlt2⟩ := box2 w a.cells b.cells 61 61
  simp only [Con.cells] at hW hk hk2
  rw [hW]
  clear hW
  have hc := hk.cell
  have hc2 := hk2.cell
  have hN := Near.refl W
  go_wp2_with (go_at_call 69; refine (check_any _ _).mono ?_; rintro e w1 ⟨rfl, hb⟩; replace hN := hN.step hb; have hC := hN.2)
  go_ret
  exact ⟨ret_bool (by simp [Con.overlapB, ha]), hB.trans hN.1⟩
end
section
open Go.RowKit Go.Shelf
theorem info_con : (Tryz.prog.info? 61).map (fun i => (i.zero, i.size, i.bytes)) = some (some (.agg #[.int .i64 0, .int .i64 0, .int .i64 0, .int .i64 0, .int .i64 0, .int .i64 0, .int .i64 0]), 7, 56) := by kernel_rfl
structure PredC (w0 : World) (f : FuncId) (cs : Array Value) (p : Con -> Bool) : Prop where
 enters : ∀ args w, (callFunc f args).run Tryz.prog w = .ok (.enter f args) w
 says : ∀ (x : Con) (w : World), Ext w0 w -> Calls Tryz.prog f (#[.agg #[.int .i64 x.src, .int .i64 x.dst, .int .i64 x.st, .int .i64 x.en, .int .i64 x.rate, .int .i64 x.rng, .int .i64 x.loss]] ++ cs) w fun e w' => e = .returned (.bool (p x)) /\ Ext w w'
set_option maxHeartbeats 2000000 in
theorem indexCon_any (A : Option Addr) (c : Nat) (l : List Con) (f : FuncId) (cs : Array Value) (p : Con -> Bool) (w : World) (hA : Rd ECon w A l) (hmax : l.length <= 1000000) (hp : PredC w f cs p) :
 Calls Tryz.prog 152 #[.slice A l.length c, .func (.func f) #[] cs] w fun e w' => e = .returned (.int .i64 (findI p l)) /\ Ext w w' := by
 have hen := hp.enters
 go_enter Tryz.func152, Tryz.ntmps152
 go_wp2
 go_loopw [8] (fun i wr => ∃ k : Nat, k <= l.length /\ i = .int .i64 k /\ Hid ((l.take k).any p = false) /\ Ext w wr) (fun i _ => l.length - (intOf i).toNat)
 case atStart => exact ⟨0, Nat.zero_le _, rfl, Lib.hid rfl, Ext.refl _⟩
 case round =>
  obtain ⟨k, hk, rfl, hu, hN⟩ := hrel
  by_cases hlt : k < l.length
  ·obtain ⟨b, o, rfl, hb, c0, c1, c2, c3, c4, c5, c6⟩ := (hA.ext hN).con hlt
   generalize hxe : l[k] = x at *
   have Hx := Lib.hid hxe
   clear hxe
   cases hpx : p x
   all_goals
    go_wp2_with fail
    refine (hp.says x _ hN).mono ?_
    rintro e w1 ⟨rfl, hb1⟩
    rw [hpx]
   ·go_wp2
    go_roundw
    case rel => exact ⟨k + 1, by omega, by go_num, Lib.hid (any_step hlt Hx.out hu.out hpx), hN.trans hb1⟩
    case measure => simp [intOf]; omega
   ·go_wp2
    go_ret
    refine ⟨ret_i64 ?_, hN.trans hb1⟩
    exact (findI_at hlt hu.out (by rw [Hx.out]; exact hpx)).symm
  ·go_wp2
   go_ret
   refine ⟨ret_i64 ?_, hN⟩
   have e : l.take k = l := List.take_of_length_le (by omega)
   have h := hu.out
   rw [e] at h
   exact (findI_nope h).symm
set_option maxHeartbeats 1000000 in
theorem containsCon_any (A : Option Addr) (c : Nat) (l : List Con) (f : FuncId) (cs : Array Value) (p : Con -> Bool) (w : World) (hA : Rd ECon w A l) (hmax : l.length <= 1000000) (hp : PredC w f cs p) :
 Calls Tryz.prog 70 #[.slice A l.length c, .func (.func f) #[] cs] w fun e w' => e = .returned (.bool (l.any p)) /\ Ext w w' := by
 have hfn := Lib.hid (findI_neg (p := p) (l := l))
 go_enter Tryz.func70, Tryz.ntmps70
 go_wp2_with fail
 refine (indexCon_any A c l f cs p w hA hmax hp).mono ?_
 rintro e w1 ⟨rfl, hb⟩
 go_wp2
 go_ret
 exact ⟨ret_bool hfn.out, hb⟩
set_option maxHeartbeats 1000000 in
theorem pred_over {w0 : World} {g : Nat} {y : Con} (h : Blk w0 g 61 y.cells) : PredC w0 71 #[.pointer (some ⟨g, 0, none⟩)] (fun d => y.overlapB d) where
 enters := enters_of Tryz.func71 (by kernel_rfl) rfl
 says := fun x w hw => by
  have hk := h.ext hw
  simp only [Con.cells] at hk
  have hc := hk.cell
  have hl := hk.lt
  show Calls Tryz.prog 71 #[_, _] w _
  go_enter Tryz.func71, Tryz.ntmps71
  go_wp2_with fail
  obtain ⟨W, hW, hB, hkb, hltW⟩ := box1 w x.cells 61
  simp only [Con.cells] at hW hkb
  rw [hW]
  clear hW
  refine (Overlap_any y x W).mono ?_
  rintro e w1 ⟨rfl, hb⟩
  go_wp2
  go_ret
  exact ⟨rfl, hB.trans hb⟩
theorem any_take_full {α : Type} {p : α -> Bool} {l : List α} {k : Nat} (h : ¬ k < l.length) (h0 : (l.take k).any p = false) : l.any p = false := by
 have e : l.take k = l := List.take_of_length_le (by omega)
 rw [e] at h0; exact h0
theorem drop_full {α : Type} {l : List α} {k : Nat} (h : ¬ k < l.length) : l.drop k = [] := List.drop_eq_nil_of_le (by omega)
set_option maxRecDepth 100000 in
set_option maxHeartbeats 4000000 in
theorem pcheck_any (Aq : Option Addr) (cq : Nat) (Ac : Option Addr) (cc : Nat) (p : Pln) (w : World) (h : PlnRd w Aq cq Ac cc p) :
 Calls Tryz.prog 19 #[p.val Aq cq Ac cc] w fun e w' => e = .returned (.int .i64 p.chk) /\ Ext w w' := by
 obtain ⟨i0, hi0, hz0, hz1, hz2⟩ := info_parts info_con
 obtain ⟨hq, hcn, hqm, hcm, hqc, hcc⟩ := h
 obtain ⟨W, hW, hB, hk, hlt⟩ := box1 w #[.slice Aq p.quo.length cq, .slice Ac p.cons.length cc] 68
 cases hlim : p.lim
 ·have hlim2 := hlim
  simp only [Pln.lim, Bool.or_eq_false_iff, decide_eq_false_iff_not] at hlim2
  obtain ⟨l1, l2, l3⟩ := hlim2
  have l1' : 1 <= p.quo.length := by omega
  have l2' : p.quo.length <= 16 := by omega
  have l3' : p.cons.length <= 64 := by omega
  have HL := Lib.hid (show p.chk = if p.quo.any quoB then 2 else Pln.chkC p.quo.length [] p.cons by unfold Pln.chk; rw [hlim]; rfl)
  clear hlim l1 l2 l3
  have hc := hk.cell
  have hl0 := hk.lt
  unfold Pln.val
  go_enter Tryz.func19, Tryz.ntmps19
  go_wp2
  clear hW
  go_loop [27] (fun i => ∃ k : Nat, k <= p.quo.length /\ i = .int .i64 k /\ Hid ((p.quo.take k).any quoB = false)) (fun i => p.quo.length - (intOf i).toNat)
  case atStart => exact ⟨0, Nat.zero_le _, rfl, Lib.hid rfl⟩
  case round =>
   obtain ⟨k, hkl, rfl, hno⟩ := hrel
   by_cases hlt : k < p.quo.length
   ·obtain ⟨b, o, rfl, hb, c0⟩ := (hq.ext hB).int hlt
    generalize hxe : p.quo[k] = x at *
    have Hx := Lib.hid hxe
    clear hxe
    cases hbx : quoB x
    ·have hbx2 := hbx
     simp only [quoB, Bool.or_eq_false_iff, decide_eq_false_iff_not] at hbx2
     obtain ⟨x0, x1⟩ := hbx2
     have x0' : 0 <= x := by omega
     have x1' : x <= 1073741824 := by omega
     have Hbx := Lib.hid hbx
     clear hbx x0 x1
     go_wp2
     go_round
     case rel => exact ⟨k + 1, by omega, by go_num, Lib.hid (any_step hlt Hx.out hno.out Hbx.out)⟩
     case measure => simp [intOf]; omega
    ·have Hbx := Lib.hid hbx
     have e1 := Lib.hid (show p.chk = 2 by rw [HL.out, if_pos (any_hit hlt Hx.out Hbx.out)])
     simp only [quoB, Bool.or_eq_true, decide_eq_true_eq] at hbx
     rcases hbx with hx0 | hx1
     ·go_wp2
      go_ret
      exact ⟨ret_i64 e1.out.symm, hB⟩
     ·go_wp2
      go_ret
      exact ⟨ret_i64 e1.out.symm, hB⟩
   ·have HL2 := Lib.hid (show p.chk = Pln.chkC p.quo.length [] p.cons by rw [HL.out, any_take_full hlt hno.out]; rfl)
    clear HL
    go_wp2
    go_loopw [41] (fun i wr => ∃ k : Nat, k <= p.cons.length /\ i = .int .i64 k /\ Hid (p.chk = Pln.chkC p.quo.length (p.cons.take k) (p.cons.drop k)) /\ Ext W wr) (fun i _ => p.cons.length - (intOf i).toNat)
    case atStart => exact ⟨0, Nat.zero_le _, rfl, Lib.hid HL2.out, Ext.refl _⟩
    case round =>
     obtain ⟨k, hkl, rfl, hx, hN⟩ := hrel
     by_cases hlt : k < p.cons.length
     ·obtain ⟨b, o, rfl, hb, c0, c1, c2, c3, c4, c5, c6⟩ := ((hcn.ext hB).ext hN).con hlt
      have hk2 := hk.ext hN
      have hc2 := hk2.cell
      have hl2 := hk2.lt
      have hst := Pln.chkC_step (n := p.quo.length) hlt rfl
      generalize hye : p.cons[k] = y at *
      have Hy := Lib.hid hye
      have Hst := Lib.hid hst
      clear hye hst
      go_wp2_with fail
      obtain ⟨W3, hW3, hB3, hk3, hlt3⟩ := box1 wr y.cells 61
      have hK3 := hk3
      simp only [Con.cells] at hW3 hk3
      rw [hW3]
      clear hW3
      refine (check_any y W3).mono ?_
      rintro e w4 ⟨rfl, hb4⟩
      have hE4 := (hN.trans hB3).trans hb4
      have hk4 := hk3.ext hb4
      have hc4 := hk4.cell
      have hl4 := hk4.lt
      have hk5 := hk.ext hE4
      have hc5 := hk5.cell
      have hl5 := hk5.lt
      by_cases h0 : y.check = 0
      ·rw [h0]
       have Ho := (Con.check_iff y).1 h0
       have H0 := Lib.hid h0
       clear h0
       by_cases hn1 : (p.quo.length : Int) <= y.src
       ·go_wp2
        go_ret
        exact ⟨ret_i64 (by rw [hx.out, Hst.out, if_pos H0.out, if_pos (.inl hn1)]), hB.trans hE4⟩
       ·by_cases hn2 : (p.quo.length : Int) <= y.dst
        ·go_wp2
         go_ret
         exact ⟨ret_i64 (by rw [hx.out, Hst.out, if_pos H0.out, if_pos (.inr hn2)]), hB.trans hE4⟩
        ·have hs1 : y.src < p.quo.length := by omega
         have hs2 : y.dst < p.quo.length := by omega
         have hnn : ¬ ((p.quo.length : Int) <= y.src ∨ (p.quo.length : Int) <= y.dst) := by omega
         have Hnn := Lib.hid hnn
         clear hnn hn1 hn2
         have hct1 := fun w => run_take (A := some ⟨b, o, none⟩) (n := p.cons.length) (c := cc) Tryz.underlying46 hi0 (show k <= cc by omega) w
         have hct2 := fun w => run_takeAt (A := some ⟨b, o, none⟩) (n := p.cons.length) (c := cc) Tryz.underlying46 hi0 (show k <= cc by omega) w
         go_wp2_with fail
         have ht := containsCon_any (some ⟨b, o, none⟩) cc (p.cons.take k) _ _ _ w4 (((hcn.ext hB).ext hE4).take k) (Nat.le_trans (List.length_take_le _ _) (by omega)) (pred_over (hK3.ext hb4))
         rw [show (p.cons.take k).length = k by rw [List.length_take]; omega] at ht
         refine ht.mono ?_
         clear ht
         rintro e w5 ⟨rfl, hb5⟩
         cases hov : (p.cons.take k).any (fun d => y.overlapB d)
         ·have Hov := Lib.hid hov
          clear hov
          go_wp2
          go_roundw
          case rel => exact ⟨k + 1, by omega, by go_num, Lib.hid (by rw [hx.out, Hst.out, if_pos H0.out, if_neg Hnn.out, Hov.out]; rfl), hE4.trans hb5⟩
          case measure => simp [intOf]; omega
         ·have Hov := Lib.hid hov
          clear hov
          go_wp2
          go_ret
          exact ⟨ret_i64 (by rw [hx.out, Hst.out, if_pos H0.out, if_neg Hnn.out, Hov.out]; rfl), (hB.trans hE4).trans hb5⟩
      ·have hd0 : (y.check != 0) = true := by simpa using h0
       have H0 := Lib.hid h0
       clear h0
       go_wp2
       go_ret
       exact ⟨ret_i64 (by rw [hx.out, Hst.out, if_neg H0.out]), hB.trans hE4⟩
     ·go_wp2
      go_ret
      exact ⟨ret_i64 (by rw [hx.out, drop_full hlt]; rfl), hB.trans hN⟩
 ·have HL := Lib.hid (show p.chk = 4 by unfold Pln.chk; rw [hlim]; rfl)
  simp only [Pln.lim, Bool.or_eq_true, decide_eq_true_eq] at hlim
  have hc := hk.cell
  have hl0 := hk.lt
  unfold Pln.val
  rcases hlim with h1 | h1 | h1
  all_goals
   go_enter Tryz.func19, Tryz.ntmps19
   go_wp2
   all_goals go_ret
   all_goals exact ⟨ret_i64 HL.out.symm, hB⟩
end
section
open Go.RowKit Go.Shelf
end
section
open Go.RowKit
structure Br where
 con : Int
 beg : Int
 en : Int
 arr : Int
 par : Int
def Br.cells (b : Br) : List Value := [.int .i64 b.con, .int .i64 b.beg, .int .i64 b.en, .int .i64 b.arr, .int .i64 b.par]
def EBr : Elt Br := ⟨Br.cells, 5, fun _ => rfl, by omega, fun x u hu => by simp [Br.cells] at hu; rcases hu with h | h | h | h | h <;> subst h <;> rfl⟩
theorem Rd.br {w : World} {A : Option Addr} {l : List Br} (h : Rd EBr w A l) {k : Nat} (hk : k < l.length) : ∃ b o, A = some ⟨b, o, none⟩ /\ b < w.heap.size /\
 w.cell? ⟨b, o + k * 5, none⟩ = some (.int .i64 l[k].con) /\ w.cell? ⟨b, o + k * 5 + 1, none⟩ = some (.int .i64 l[k].beg) /\ w.cell? ⟨b, o + k * 5 + 2, none⟩ = some (.int .i64 l[k].en) /\ w.cell? ⟨b, o + k * 5 + 3, none⟩ = some (.int .i64 l[k].arr) /\ w.cell? ⟨b, o + k * 5 + 4, none⟩ = some (.int .i64 l[k].par) := by
 obtain ⟨b, o, rfl, hb, hc⟩ := h.at hk
 exact ⟨b, o, rfl, hb, hc 0 _ rfl, hc 1 _ rfl, hc 2 _ rfl, hc 3 _ rfl, hc 4 _ rfl⟩
def fineR (p : Pln) (q : Req) : Bool := decide (p.chk = 0) && q.okB p.quo.length
theorem fineR_of {p : Pln} {q : Req} (h : fineR p q = true) : p.chk = 0 /\ q.okB p.quo.length = true := by
 simpa [fineR] using h
def memsB (N : Nat) (src : Int) (l : List Int) : Bool := decide (∀ (i : Nat) (h : i < l.length), 0 <= l[i] /\ l[i] < N /\ l[i] ≠ src /\ ∀ (_ : 0 < i), l[i - 1] < l[i])
end
section
open Go.RowKit Go.Shelf
def ReqR (p : Pln) (q : Req) (w : World) (e : Ending) (w' : World) : Prop := ∃ k : Int, e = .returned (.int .i64 k) /\ (k = 0 ↔ fineR p q = true) /\ Ext w w'
set_option maxRecDepth 100000 in
set_option maxHeartbeats 4000000 in
theorem tCheckRequest_any (Aq : Option Addr) (cq : Nat) (Ac : Option Addr) (cc : Nat) (p : Pln) (q : Req) (w : World) (h : PlnRd w Aq cq Ac cc p) :
 Calls Tryz.prog 79 #[p.val Aq cq Ac cc, q.val] w (ReqR p q w) := by
 obtain ⟨W, hW, hB, hk, hk2, hlt, hlt2⟩ := box2 w #[.slice Aq p.quo.length cq, .slice Ac p.cons.length cc] q.cells 68 85
 simp only [Req.cells] at hW hk2
 have hc := hk.cell
 have hc2 := hk2.cell
 have hn := h.qm
 have hpc := pcheck_any Aq cq Ac cc p W (h.ext hB)
 by_cases h0 : p.chk = 0
 ·rw [h0] at hpc
  have HF := Lib.hid (show fineR p q = q.okB p.quo.length by simp [fineR, h0])
  clear h0
  cases hq : q.okB p.quo.length
  ·have hq2 := hq
   simp only [Req.okB, decide_eq_false_iff_not] at hq2
   have Hq := Lib.hid hq2
   have Hq3 := Lib.hid hq
   clear hq hq2
   unfold Pln.val at hpc ⊢
   unfold Req.val
   go_enter Tryz.func79, Tryz.ntmps79
   go_wp2_with fail
   clear hW
   refine hpc.mono ?_
   clear hpc
   rintro e w1 ⟨rfl, hb1⟩
   have hk21 := hk2.ext hb1
   have hc2 := hk21.cell
   have hl2 := hk21.lt
   go_wp2
   all_goals go_ret
   all_goals first
    | (refine ⟨_, rfl, ?_, hB.trans hb1⟩; rw [HF.out, Hq3.out]; constructor <;> intro h9 <;> (first | cases h9 | (exfalso; revert h9; decide)); done)
    | (exfalso; apply Hq.out; clear hc hc2 hk hk2 hk21 hB hb1 Hq Hq3 HF h; (try simp_all); (try omega); done)
  ·have hq2 := hq
   simp only [Req.okB, decide_eq_true_eq] at hq2
   obtain ⟨a1, a2, a3, a4, a5, a6, a7, a8, a9, a10, a11, a12⟩ := hq2
   have ad : (q.src == q.dst) = false := by simpa using a5
   have Hq3 := Lib.hid hq
   clear hq a5
   unfold Pln.val at hpc ⊢
   unfold Req.val
   go_enter Tryz.func79, Tryz.ntmps79
   go_wp2_with fail
   clear hW
   refine hpc.mono ?_
   clear hpc
   rintro e w1 ⟨rfl, hb1⟩
   have hk21 := hk2.ext hb1
   have hc2 := hk21.cell
   have hl2 := hk21.lt
   go_wp2
   go_ret
   exact ⟨0, rfl, by rw [HF.out, Hq3.out]; simp, hB.trans hb1⟩
 ·have hd : (p.chk != 0) = true := by simpa using h0
  have HF := Lib.hid (show fineR p q = false by simp [fineR, h0])
  clear h0
  unfold Pln.val at hpc ⊢
  unfold Req.val
  go_enter Tryz.func79, Tryz.ntmps79
  go_wp2_with fail
  clear hW
  refine hpc.mono ?_
  clear hpc
  rintro e w1 ⟨rfl, hb1⟩
  go_wp2
  go_ret
  exact ⟨1, rfl, by rw [HF.out]; decide, hB.trans hb1⟩
end
section
open Go.RowKit
attribute [local go_sem] Oper.semAt_some
theorem results_cell1 {fn : Func} {p : Tmp} {ty : TypeId} (h : fn.results = #[.cell p ty]) (tmps : Array Value) (P : Program) (w : World) :
 (results fn tmps).run P w = ((asAddr (tmps.getD p undef)).run P w).andThen fun a w₁ => (loadVar ty a).run P w₁ := by
 simp only [results, h]
 simp [Sem.run_bind, Result.andThen]
def arrV (l : List Int) : Array Value := (l.map (Value.int .i64)).toArray
theorem arrV_get {l : List Int} {i : Nat} (h : i < l.length) : (arrV l)[i]? = some (.int .i64 (gi l (i : Int))) := by
 unfold arrV
 rw [gi_get h]
 simp [h]
theorem arrV_set {l : List Int} {i : Nat} (v : Int) : (arrV l).setIfInBounds i (.int .i64 v) = arrV (l.set i v) := by
 unfold arrV
 apply Array.ext_getElem?
 intro k
 simp only [Array.getElem?_setIfInBounds, List.getElem?_toArray, List.size_toArray, List.length_map, List.getElem?_map, List.getElem?_set]
 by_cases e : i = k
 ·subst e
  by_cases h : i < l.length <;> simp [h]
 ·simp [e]
theorem arrV_size (l : List Int) : (arrV l).size = l.length := by simp [arrV]
theorem arrSets_all {l l' : List Int} (h : l'.length = l.length) : arrSets (arrV l) 0 (l'.map (Value.int .i64)) = arrV l' := by
 apply Array.ext_getElem?
 intro q
 rw [arrSets_get _ _ _ _ (by rw [arrV_size, List.length_map]; omega), List.length_map]
 by_cases hq : q < l'.length
 ·rw [if_pos (by omega), Nat.sub_zero]
  simp [arrV]
 ·rw [if_neg (by omega), Array.getElem?_eq_none (by rw [arrV_size]; omega), Array.getElem?_eq_none (by rw [arrV_size]; omega)]
theorem Blk.whole {w : World} {g : Nat} {t : TypeId} {l : List Int} (h : Blk w g t (arrV l)) {l' : List Int} (hl : l'.length = l.length) : Blk (w.setCells g 0 (l'.map (Value.int .i64))) g t (arrV l') := by
 have := h.setCells_ (l'.map (Value.int .i64)) 0
 rw [arrSets_all hl] at this
 exact this
theorem list16 : ∀ {l : List Int}, l.length = 16 -> ∃ x0 x1 x2 x3 x4 x5 x6 x7 x8 x9 x10 x11 x12 x13 x14 x15, l = [x0, x1, x2, x3, x4, x5, x6, x7, x8, x9, x10, x11, x12, x13, x14, x15]
 | [x0, x1, x2, x3, x4, x5, x6, x7, x8, x9, x10, x11, x12, x13, x14, x15], _ => ⟨_, _, _, _, _, _, _, _, _, _, _, _, _, _, _, _, rfl⟩
def startL (q : Req) : List Int := (List.replicate 16 (-1)).set q.src.toNat q.ready
theorem startL_len (q : Req) : (startL q).length = 16 := by simp [startL]
theorem fillA_step {j : Nat} (h : j < 16) (v u : Int) : (List.replicate j v ++ List.replicate (16 - j) u).set j v = List.replicate (j + 1) v ++ List.replicate (16 - (j + 1)) u := by
 match j, h with
 | 0, _ | 1, _ | 2, _ | 3, _ | 4, _ | 5, _ | 6, _ | 7, _ | 8, _ | 9, _ | 10, _ | 11, _ | 12, _ | 13, _ | 14, _ | 15, _ => rfl
 | j + 16, h => omega
theorem fillA_len {j : Nat} (h : j <= 16) (v u : Int) : (List.replicate j v ++ List.replicate (16 - j) u).length = 16 := by
 simp; omega
set_option maxRecDepth 100000 in
set_option maxHeartbeats 4000000 in
theorem start_any (q : Req) (w : World) (h0 : 0 <= q.src) (h1 : q.src < 16) :
 Calls Tryz.prog 81 #[q.val] w fun e w' => e = .returned (.agg (arrV (startL q))) /\ Ext w w' := by
 obtain ⟨W, hW, hB, hk, hlt⟩ := box1 w q.cells 85
 simp only [Req.cells] at hW hk
 have hc := hk.cell
 obtain ⟨W2, hW2, hB2, hk2, hlt2⟩ := box1 W (arrV (List.replicate 16 0)) 175
 obtain ⟨W3, hW3, hB3, hk3, hlt3⟩ := box1 W2 (arrV (List.replicate 16 0)) 175
 simp only [arrV, List.replicate, List.map_cons, List.map_nil] at hW2 hW3
 unfold Req.val
 go_enter Tryz.func81, Tryz.ntmps81
 go_wp2_with fail
 go_loopg [5] 16 (fun q k wr => ∃ j : Nat, j + q = 16 /\ k = .int .i64 j /\ Blk wr W2.heap.size 175 (arrV (List.replicate j (-1) ++ List.replicate (16 - j) 0)) /\ Ext W2 wr)
 case atStart => exact ⟨0, by omega, rfl, hk3, hB3⟩
 case round =>
  obtain ⟨j, hjq, rfl, hkb, hx⟩ := hrel
  have Hjq := Lib.hid hjq
  have hjN : j <= 16 := by omega
  clear hjq
  have hfl := fillA_len hjN (-1) 0
  by_cases hlt2 : j < 16
  ·have hcell := (hkb.cell j).trans (arrV_get (by rw [hfl]; exact hlt2))
   have hfz := hkb.frozen
   have hgl := hkb.lt
   have hset := hkb.set_ j (.int .i64 (-1))
   rw [arrV_set, fillA_step hlt2] at hset
   have hxs : Ext W2 (wr.setCell ⟨W2.heap.size, j, none⟩ (.int .i64 (-1))) := hx.setCell (Nat.le_refl _) _
   clear hfl
   generalize gi _ (j : Int) = y at hcell
   go_wp2
   go_roundg (gk - 1)
   case measure => have := Hjq.out; omega
   case rel => exact ⟨j + 1, by have := Hjq.out; omega, by go_num, hset, hxs⟩
  ·have he : j = 16 := by omega
   subst he
   have hsn : q.src.toNat < 16 := by omega
   have hcell := (hkb.cell q.src.toNat).trans (arrV_get (by rw [hfl]; exact hsn))
   have hfz := hkb.frozen
   have hgl := hkb.lt
   have hset := hkb.set_ q.src.toNat (.int .i64 q.ready)
   rw [arrV_set] at hset
   have hsl : (List.replicate 16 (-1) ++ List.replicate (16 - 16) 0).set q.src.toNat q.ready = startL q := by simp [startL]
   rw [hsl] at hset
   have hE2 := (hB.trans hB2).trans hx
   have hk4 := (hk.ext hB2).ext hx
   have hkr := hk2.ext hx
   obtain ⟨w5, hw5, hk5, hx5, hkr5⟩ : ∃ w5, wr.setCell ⟨W2.heap.size, q.src.toNat, none⟩ (.int .i64 q.ready) = w5 /\ Blk w5 W2.heap.size 175 (arrV (startL q)) /\ Ext w w5 /\ Blk w5 W.heap.size 175 (arrV (List.replicate 16 0)) :=
    ⟨_, rfl, hset, hE2.setCell (by have := hB.size; have := hB2.size; show w.heap.size <= W2.heap.size; omega) _, hkr.far (by simp; omega) _⟩
   obtain ⟨x0, x1, x2, x3, x4, x5, x6, x7, x8, x9, x10, x11, x12, x13, x14, x15, hxs⟩ := list16 (startL_len q)
   have Hxs := Lib.hid hxs
   rw [hxs] at hk5
   have hk5' : Blk w5 W2.heap.size 175 #[.int .i64 x0, .int .i64 x1, .int .i64 x2, .int .i64 x3, .int .i64 x4, .int .i64 x5, .int .i64 x6, .int .i64 x7, .int .i64 x8, .int .i64 x9, .int .i64 x10, .int .i64 x11, .int .i64 x12, .int .i64 x13, .int .i64 x14, .int .i64 x15] := hk5
   have hkr5' : Blk w5 W.heap.size 175 #[.int .i64 0, .int .i64 0, .int .i64 0, .int .i64 0, .int .i64 0, .int .i64 0, .int .i64 0, .int .i64 0, .int .i64 0, .int .i64 0, .int .i64 0, .int .i64 0, .int .i64 0, .int .i64 0, .int .i64 0, .int .i64 0] := hkr5
   replace hc := hk4.cell
   have hl4 := hk4.lt
   have hc5 := hk5'.cell
   have hl5 := hk5'.lt
   have hcr5 := hkr5'.cell
   have hfr5 := hkr5'.frozen
   have hlr5 := hkr5'.lt
   have hne1 : ¬ W2.heap.size = w.heap.size := by have := hB.size; have := hB2.size; omega
   have hne2 : ¬ W2.heap.size = W.heap.size := by have := hB2.size; omega
   obtain ⟨w6, hw6, hk6, hx6⟩ : ∃ w6, w5.setCells W.heap.size 0 ([x0, x1, x2, x3, x4, x5, x6, x7, x8, x9, x10, x11, x12, x13, x14, x15].map (Value.int .i64)) = w6 /\ Blk w6 W.heap.size 175 (arrV [x0, x1, x2, x3, x4, x5, x6, x7, x8, x9, x10, x11, x12, x13, x14, x15]) /\ Ext w w6 :=
    ⟨_, rfl, hkr5.whole rfl, ext_setCells hx5 hB.size 0 _⟩
   simp only [List.map_cons, List.map_nil, World.setCells, Nat.zero_add, Nat.reduceAdd] at hw6
   have hk6' : Blk w6 W.heap.size 175 #[.int .i64 x0, .int .i64 x1, .int .i64 x2, .int .i64 x3, .int .i64 x4, .int .i64 x5, .int .i64 x6, .int .i64 x7, .int .i64 x8, .int .i64 x9, .int .i64 x10, .int .i64 x11, .int .i64 x12, .int .i64 x13, .int .i64 x14, .int .i64 x15] := hk6
   clear hk6
   generalize gi _ ((q.src.toNat : Nat) : Int) = y at hcell
   clear hxs hk5 hkr5 hset hsl hkr hk2 hk3 hkb hfl
   go_wp2
   have hc6 := hk6'.cell
   refine bodyPost_ret (v := .agg #[.int .i64 x0, .int .i64 x1, .int .i64 x2, .int .i64 x3, .int .i64 x4, .int .i64 x5, .int .i64 x6, .int .i64 x7, .int .i64 x8, .int .i64 x9, .int .i64 x10, .int .i64 x11, .int .i64 x12, .int .i64 x13, .int .i64 x14, .int .i64 x15]) (by rw [results_cell1 rfl]; simp [asAddr, Result.andThen, hc6, go_sem]) rfl ?_
   exact ⟨by rw [Hxs.out]; rfl, hx6⟩
end
section
open Go.RowKit Go.Shelf
structure PredI (w0 : World) (f : FuncId) (cs : Array Value) (p : Int -> Bool) : Prop where
 enters : ∀ args w, (callFunc f args).run Tryz.prog w = .ok (.enter f args) w
 says : ∀ (x : Int) (w : World), Ext w0 w -> Calls Tryz.prog f (#[.int .i64 x] ++ cs) w fun e w' => e = .returned (.bool (p x)) /\ Ext w w'
set_option maxHeartbeats 2000000 in
theorem indexI_any (A : Option Addr) (c : Nat) (l : List Int) (f : FuncId) (cs : Array Value) (p : Int -> Bool) (w : World) (hA : Rd EInt w A l) (hmax : l.length <= 1000000) (hp : PredI w f cs p) :
 Calls Tryz.prog 295 #[.slice A l.length c, .func (.func f) #[] cs] w fun e w' => e = .returned (.int .i64 (findI p l)) /\ Ext w w' := by
 have hen := hp.enters
 go_enter Tryz.func295, Tryz.ntmps295
 go_wp2
 go_loopw [8] (fun i wr => ∃ k : Nat, k <= l.length /\ i = .int .i64 k /\ Hid ((l.take k).any p = false) /\ Ext w wr) (fun i _ => l.length - (intOf i).toNat)
 case atStart => exact ⟨0, Nat.zero_le _, rfl, Lib.hid rfl, Ext.refl _⟩
 case round =>
  obtain ⟨k, hk, rfl, hu, hN⟩ := hrel
  by_cases hlt : k < l.length
  ·obtain ⟨b, o, rfl, hb, c0⟩ := (hA.ext hN).int hlt
   generalize hxe : l[k] = x at *
   have Hx := Lib.hid hxe
   clear hxe
   cases hpx : p x
   all_goals
    go_wp2_with fail
    refine (hp.says x _ hN).mono ?_
    rintro e w1 ⟨rfl, hb1⟩
    rw [hpx]
   ·go_wp2
    go_roundw
    case rel => exact ⟨k + 1, by omega, by go_num, Lib.hid (any_step hlt Hx.out hu.out hpx), hN.trans hb1⟩
    case measure => simp [intOf]; omega
   ·go_wp2
    go_ret
    refine ⟨ret_i64 ?_, hN.trans hb1⟩
    exact (findI_at hlt hu.out (by rw [Hx.out]; exact hpx)).symm
  ·go_wp2
   go_ret
   refine ⟨ret_i64 ?_, hN⟩
   have e : l.take k = l := List.take_of_length_le (by omega)
   have h := hu.out
   rw [e] at h
   exact (findI_nope h).symm
set_option maxHeartbeats 1000000 in
theorem containsI_any (A : Option Addr) (c : Nat) (l : List Int) (f : FuncId) (cs : Array Value) (p : Int -> Bool) (w : World) (hA : Rd EInt w A l) (hmax : l.length <= 1000000) (hp : PredI w f cs p) :
 Calls Tryz.prog 245 #[.slice A l.length c, .func (.func f) #[] cs] w fun e w' => e = .returned (.bool (l.any p)) /\ Ext w w' := by
 have hfn := Lib.hid (findI_neg (p := p) (l := l))
 go_enter Tryz.func245, Tryz.ntmps245
 go_wp2_with fail
 refine (indexI_any A c l f cs p w hA hmax hp).mono ?_
 rintro e w1 ⟨rfl, hb⟩
 go_wp2
 go_ret
 exact ⟨ret_bool hfn.out, hb⟩
def noNode (N : Nat) (x : Int) : Bool := decide (x < 0) || decide ((N : Int) <= x)
theorem noNode_any {N : Nat} {l : List Int} : l.any (noNode N) = !decide (∀ x ∈ l, 0 <= x /\ x < N) := by
 rw [Bool.eq_iff_iff]
 simp only [List.any_eq_true, noNode, Bool.or_eq_true, decide_eq_true_eq, Bool.not_eq_true', decide_eq_false_iff_not]
 constructor
 ·rintro ⟨x, hx, h⟩ hh
  have := hh x hx
  omega
 ·intro hh
  apply Classical.byContradiction
  intro hn
  apply hh
  intro x hx
  apply Classical.byContradiction
  intro h2
  exact hn ⟨x, hx, by omega⟩
set_option maxHeartbeats 1000000 in
theorem pred_rv {w0 : World} {g cq cc : Nat} {Aq Ac : Option Addr} {N M : Nat} (h : Blk w0 g 68 #[.slice Aq N cq, .slice Ac M cc]) (hN : N <= 1000000) : PredI w0 246 #[.pointer (some ⟨g, 0, none⟩)] (noNode N) where
 enters := enters_of Tryz.func246 (by kernel_rfl) rfl
 says := fun x w hw => by
  have hk := h.ext hw
  have hc := hk.cell
  have hl := hk.lt
  show Calls Tryz.prog 246 #[_, _] w _
  unfold noNode
  by_cases hx0 : x < 0
  all_goals
   by_cases hx1 : (N : Int) <= x
   all_goals
    first
     | (have d0 : decide (x < 0) = true := decide_eq_true hx0)
     | (have d0 : decide (x < 0) = false := decide_eq_false hx0)
    first
     | (have d1 : decide ((N : Int) <= x) = true := decide_eq_true hx1)
     | (have d1 : decide ((N : Int) <= x) = false := decide_eq_false hx1)
    rw [d0, d1]
    clear hx0 hx1
    go_enter Tryz.func246, Tryz.ntmps246
    go_wp2
    go_ret
    exact ⟨rfl, Ext.refl _⟩
set_option maxRecDepth 100000 in
set_option maxHeartbeats 4000000 in
theorem rvalid_any (Aq : Option Addr) (cq : Nat) (Ac : Option Addr) (cc : Nat) (p : Pln) (n : Int) (An : Option Addr) (cn : Nat) (nodes : List Int) (w : World) (h : PlnRd w Aq cq Ac cc p) (hn : Rd EInt w An nodes) (hnl : nodes.length <= 1000) :
 Calls Tryz.prog 168 #[p.val Aq cq Ac cc, .int .i64 n, .slice An nodes.length cn] w fun e w' => e = .returned (.int .i64 (p.rv n nodes)) /\ Ext w w' := by
 obtain ⟨W, hW, hB, hk, hlt⟩ := box1 w #[.slice Aq p.quo.length cq, .slice Ac p.cons.length cc] 68
 have hc := hk.cell
 have hqm := h.qm
 have hpc := pcheck_any Aq cq Ac cc p W (h.ext hB)
 by_cases h0 : p.chk = 0
 ·rw [h0] at hpc
  have H0 := Lib.hid h0
  clear h0
  unfold Pln.val at hpc ⊢
  by_cases hn1 : n < 1
  ·have d1 : decide (n < 1) = true := decide_eq_true hn1
   have Hr := Lib.hid (show p.rv n nodes = 2 by unfold Pln.rv; rw [if_pos H0.out, if_neg]; simp only [Pln.argR, decide_eq_true_eq]; omega)
   rw [Hr.out]
   clear hn1
   go_enter Tryz.func168, Tryz.ntmps168
   go_wp2_with fail
   clear hW
   refine hpc.mono ?_
   rintro e w1 ⟨rfl, hb1⟩
   go_wp2
   go_ret
   exact ⟨rfl, hB.trans hb1⟩
  have d1 : decide (n < 1) = false := decide_eq_false hn1
  by_cases hn2 : 65536 < n
  ·have d2 : decide (65536 < n) = true := decide_eq_true hn2
   have Hr := Lib.hid (show p.rv n nodes = 2 by unfold Pln.rv; rw [if_pos H0.out, if_neg]; simp only [Pln.argR, decide_eq_true_eq]; omega)
   rw [Hr.out]
   clear hn1 hn2
   go_enter Tryz.func168, Tryz.ntmps168
   go_wp2_with fail
   clear hW
   refine hpc.mono ?_
   rintro e w1 ⟨rfl, hb1⟩
   go_wp2
   go_ret
   exact ⟨rfl, hB.trans hb1⟩
  have d2 : decide (65536 < n) = false := decide_eq_false hn2
  have hany := noNode_any (N := p.quo.length) (l := nodes)
  cases hno : nodes.any (noNode p.quo.length)
  all_goals
   have Hr := Lib.hid (show p.rv n nodes = if nodes.any (noNode p.quo.length) then 2 else 0 by
    unfold Pln.rv
    rw [if_pos H0.out, hany]
    by_cases hh : ∀ x ∈ nodes, 0 <= x /\ x < (p.quo.length : Int)
    ·have e1 : p.argR n nodes = true := by simp only [Pln.argR, decide_eq_true_eq]; exact ⟨by omega, by omega, hh⟩
     rw [e1, decide_eq_true hh]; rfl
    ·have e1 : p.argR n nodes = false := by simp only [Pln.argR, decide_eq_false_iff_not]; exact fun h => hh h.2.2
     rw [e1, decide_eq_false hh]; rfl)
   rw [Hr.out, hno]
   clear hn1 hn2 hany
   have hcf := fun w1 (hb1 : Ext W w1) => containsI_any An cn nodes 246 #[.pointer (some ⟨w.heap.size, 0, none⟩)] (noNode p.quo.length) w1 ((hn.ext hB).ext hb1) (by omega) (pred_rv (hk.ext hb1) hqm)
   rw [hno] at hcf
   clear hno
   go_enter Tryz.func168, Tryz.ntmps168
   go_wp2_with fail
   clear hW
   refine hpc.mono ?_
   rintro e w1 ⟨rfl, hb1⟩
   go_wp2_with fail
   refine (hcf _ hb1).mono ?_
   rintro e w2 ⟨rfl, hb2⟩
   go_wp2
   go_ret
   exact ⟨rfl, (hB.trans hb1).trans hb2⟩
 ·have hd : (p.chk != 0) = true := by simpa using h0
  have Hr := Lib.hid (show p.rv n nodes = 1 by unfold Pln.rv; rw [if_neg h0])
  rw [Hr.out]
  clear h0
  unfold Pln.val at hpc ⊢
  go_enter Tryz.func168, Tryz.ntmps168
  go_wp2_with fail
  clear hW
  refine hpc.mono ?_
  rintro e w1 ⟨rfl, hb1⟩
  go_wp2
  go_ret
  exact ⟨rfl, hB.trans hb1⟩
end
end Go.Proofs.YtemkpimngbbpkaaGreat

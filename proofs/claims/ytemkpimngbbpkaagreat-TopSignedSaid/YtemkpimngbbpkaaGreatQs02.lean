/- Layer 21 (contact): the walks, first part. · Layer 21 (contact): the sum over the segments, by the iterator. · Layer 21 (contact): the walks, second part. · Layer 21 (contact): the walks, third part: the reference's functions, Volume and Overlap. -/
import Derived.Test.YtemkpimngbbpkaaGreatRows
import Derived.RangeFuncNested
import Derived.RangeFuncBound
import Derived.RangeFuncCalls
import Derived.RangeFuncLeaves
import Derived.Shelf.Abstract
import Derived.Shelf.RegionOpen
import Derived.OwnWalkIn
import Derived.TacticsInMore
import Derived.LoopNIn
import Derived.LoopIn
import Derived.Test.YtemkpimngbbpkaaGreatQs01
namespace Go.Proofs.YtemkpimngbbpkaaGreat
set_option linter.unusedVariables false
set_option linter.unusedSimpArgs false
section
open Go.RowKit
set_option maxHeartbeats 400000 in
theorem within_any (n lo hi : Int) (w : World) :
 Calls Tryz.prog 151 #[.int .i64 n, .int .i64 lo, .int .i64 hi] w fun e w' => e = .returned (.bool (inB n lo hi)) /\ w = w' := by
 by_cases h1 : lo <= n
 ·by_cases h2 : n <= hi
  all_goals
   go_enter Tryz.func151, Tryz.ntmps151
   go_wp2
   go_ret
   exact ⟨by simp [inB]; omega, rfl⟩
 ·go_enter Tryz.func151, Tryz.ntmps151
  go_wp2
  go_ret
  exact ⟨by simp [inB]; omega, rfl⟩
set_option maxHeartbeats 400000 in
theorem check_any (c : Con) (w : World) :
 Calls Tryz.prog 69 #[c.val] w fun e w' => e = .returned (.int .i64 c.check) /\ Ext w w' := by
 have hB : Ext w (w.alloc (.cells c.cells 61)) := (Ext.refl _).alloc _
 unfold Con.val
 unfold Con.cells at hB
 go_enter Tryz.func69, Tryz.ntmps69
 go_wp2_with (go_at_call 151; refine (within_any _ _ _ _).mono ?_; rintro e w' ⟨rfl, rfl⟩)
 all_goals go_ret
 all_goals refine ⟨?_, hB⟩
 all_goals simp only [Con.check, Con.inr, Con.tim]
 all_goals simp_all
 all_goals (simp only [inB, decide_eq_true_eq, wrap64] at *; omega)
set_option maxHeartbeats 400000 in
theorem arg_any (c : Con) (n : Int) (w : World) :
 Calls Tryz.prog 259 #[c.val, .int .i64 n] w fun e w' => e = .returned (.int .i64 (c.arg n)) /\ Ext w w' := by
 by_cases h0 : c.check = 0
 all_goals
  unfold Con.val
  go_enter Tryz.func259, Tryz.ntmps259
  go_wp2_with fail
  obtain ⟨W, hW, hB, hk, hlt⟩ := box1 w c.cells 61
  simp only [Con.cells] at hW hk
  rw [hW]
  clear hW
  have hc := hk.cell
  have hN := Near.refl W
  go_wp2_with (first | (go_at_call 69; refine (check_any c _).mono ?_; rintro e w1 ⟨rfl, hb⟩; replace hN := hN.step hb; have hC := hN.2) | (go_at_call 151; refine (within_any _ _ _ _).mono ?_; rintro e w1 ⟨rfl, rfl⟩))
  all_goals go_ret
  all_goals refine ⟨?_, hB.trans hN.1⟩
  all_goals (simp_all [Con.arg])
set_option maxHeartbeats 400000 in
theorem ticks_any (c : Con) (n : Int) (w : World) (hr : 1 <= c.rate /\ c.rate <= 1000) (hn : 0 <= n /\ n <= 65536) :
 Calls Tryz.prog 307 #[c.val, .int .i64 n] w fun e w' => e = .returned (.int .i64 (c.ticks n)) /\ Ext w w' := by
 unfold Con.val
 go_enter Tryz.func307, Tryz.ntmps307
 go_wp2
 go_ret
 exact ⟨by rfl, (Ext.refl _).alloc _⟩
end
section
open Go.RowKit Go.Shelf
attribute [local go_sem] Oper.semAt_some
abbrev Seg := { x : Int // 1 <= x /\ x <= 16 }
def segVals (l : List Seg) : List Int := l.map (·.1)
theorem segVals_snoc (l : List Seg) (x : Seg) : segVals (l ++ [x]) = segVals l ++ [x.1] := by simp [segVals]
def segsOf (size : Int) : List Int := List.replicate (size / 16).toNat 16 ++ (if size % 16 > 0 then [size % 16] else [])
theorem seg_full (n : Nat) (size left : Int) (pre : List Seg) (h0 : 0 <= size) (h1 : left + 16 * (n : Int) = size) (h2 : 0 <= left /\ left < 16) (hp : segVals pre = List.replicate n 16) :
 segVals pre ++ (if left > 0 then [left] else []) = segsOf size := by
 have e1 : (size / 16).toNat = n := by omega
 have e2 : size % 16 = left := by omega
 rw [hp, segsOf, e1, e2]
def SegRel (size : Int) (J : List Seg -> World -> Prop) (p : Value) (wr : World) : Prop :=
 ∃ (pre : List Seg) (left : Int), p = .int .i64 left /\ left <= size /\ -16 <= left /\ ((0 <= left /\ left + 16 * (pre.length : Int) = size /\ segVals pre = List.replicate pre.length 16) ∨ (left < 0 /\ segVals pre = segsOf size)) /\ J pre wr
set_option maxHeartbeats 1000000 in
theorem seg_iter (l Bn n₀ : Nat) (size : Int) (hs : 0 <= size /\ size <= 65536) (J Jx : List Seg -> World -> Prop)
 (hY : ∀ pre x W, J pre W -> pre.length < 65536 -> YieldAt Fence.wide 3 Tryz.prog l #[.int .i64 x.1] W fun e W' =>
  (e = .returned (.bool true) /\ J (pre ++ [x]) W' /\ Below n₀ W W') ∨ (e = .returned (.bool false) /\ Jx (pre ++ [x]) W'))
 (W : World) (hBn : W.cell? ⟨Bn, 0, none⟩ = some (.int .i64 size)) (h0 : J [] W) :
 CallsIn Fence.wide 4 Tryz.prog 338 #[.func (.yield l) #[] #[], .pointer (some ⟨Bn, 0, none⟩)] W fun e W' => (∃ v, e = .returned v) /\
  ((∃ ys : List Seg, segVals ys = segsOf size /\ J ys W') ∨ (∃ pre : List Seg, True /\ Jx pre W')) := by
 refine callsIn_of_wp Tryz.func338 rfl trivial ?_ rfl
 simp only [Tryz.ntmps338, List.size_toArray, List.length_cons, List.length_nil, Nat.reduceAdd, Nat.reduceSub, Array.replicate_succ, Array.replicate_zero, List.push_toArray, List.append_toArray, List.nil_append, List.cons_append]
 gi_wp2
 gi_loopw [3] (fun p wr => SegRel size J p wr) (fun p _ => (intOf p + 16).toNat)
 case atStart => exact ⟨[], size, rfl, Int.le_refl _, by omega, .inl ⟨hs.1, by simp, rfl⟩, h0⟩
 case round =>
  obtain ⟨pre, left, rfl, hle, hge, hcase, hJs⟩ := hrel
  by_cases hl : 0 < left
  ·obtain ⟨h1, h2, h3⟩ : 0 <= left /\ left + 16 * (pre.length : Int) = size /\ segVals pre = List.replicate pre.length 16 := by
    rcases hcase with h | h
    ·exact h
    ·omega
   have hlen : pre.length < 65536 := by omega
   have H2 := Lib.hid h2
   have H3 := Lib.hid h3
   clear hcase h2 h3
   by_cases h16 : 16 < left
   ·obtain ⟨fn, tmps, assign, body, hy, hR⟩ := hY pre ⟨16, by omega, by omega⟩ wr hJs hlen
    gi_wp2
    refine hR.mono ?_
    rintro e W3 (⟨rfl, hJ3, hk3⟩ | ⟨rfl, hJx3⟩)
    ·gi_wp2
     go_roundw
     case rel => exact ⟨pre ++ [⟨16, by omega, by omega⟩], left - 16, rfl, by omega, by omega, .inl ⟨by omega, by have := H2.out; simp; omega, by rw [segVals_snoc, H3.out]; simp [List.replicate_succ']⟩, hJ3⟩
     case measure => simp [intOf]; omega
    ·gi_wp2
     refine bodyPost_ret (results_none rfl _ _ _) rfl ?_
     exact ⟨⟨_, rfl⟩, .inr ⟨_, trivial, hJx3⟩⟩
   ·obtain ⟨fn, tmps, assign, body, hy, hR⟩ := hY pre ⟨left, by omega, by omega⟩ wr hJs hlen
    gi_wp2
    refine hR.mono ?_
    rintro e W3 (⟨rfl, hJ3, hk3⟩ | ⟨rfl, hJx3⟩)
    ·gi_wp2
     go_roundw
     case rel =>
      refine ⟨pre ++ [⟨left, by omega, by omega⟩], left - 16, rfl, by omega, by omega, ?_, hJ3⟩
      by_cases e16 : left = 16
      ·exact .inl ⟨by omega, by have := H2.out; simp; omega, by rw [segVals_snoc, H3.out, List.length_append, List.length_singleton, List.replicate_succ', List.append_cancel_left_eq]; simpa using e16⟩
      ·refine .inr ⟨by omega, ?_⟩
       have := seg_full pre.length size left pre hs.1 H2.out ⟨by omega, by omega⟩ H3.out
       rw [if_pos hl] at this
       rw [segVals_snoc]; exact this
     case measure => simp [intOf]; omega
    ·gi_wp2
     refine bodyPost_ret (results_none rfl _ _ _) rfl ?_
     exact ⟨⟨_, rfl⟩, .inr ⟨_, trivial, hJx3⟩⟩
  ·have HC := Lib.hid hcase
   clear hcase
   gi_wp2
   go_end0
   refine ⟨⟨_, rfl⟩, .inl ⟨pre, ?_, hJs⟩⟩
   rcases HC.out with ⟨h1, h2, h3⟩ | ⟨h1, h2⟩
   ·have := seg_full pre.length size left pre hs.1 h2 ⟨by omega, by omega⟩ h3
    rw [if_neg (by omega), List.append_nil] at this
    exact this
   ·exact h2
def Con.sum (c : Con) (l : List Int) : Int := (l.map c.ticks).sum
theorem Con.sum_snoc (c : Con) (l : List Int) (x : Int) : c.sum (l ++ [x]) = c.sum l + c.ticks x := by simp [Con.sum]
theorem Con.sum_segs (c : Con) (n : Int) (hn : 0 <= n) : c.sum (segsOf n) = c.pass n := by
 unfold Con.sum segsOf Con.pass
 have h : ((n / 16).toNat : Int) = n / 16 := by omega
 split <;> simp [h]
theorem Con.sum_bd (c : Con) (hr : 1 <= c.rate) : ∀ l : List Seg, 0 <= c.sum (segVals l) /\ c.sum (segVals l) <= 24 * l.length
 | [] => by simp [Con.sum, segVals]
 | x :: l => by
   have h := Con.sum_bd c hr l
   have t := Con.ticks_bd (c := c) (n := x.1) hr (by have := x.2; omega)
   have := x.2
   simp only [Con.sum, segVals, List.map_cons, List.sum_cons, List.length_cons] at *
   omega
theorem seg_stops (Bn n₀ : Nat) (size : Int) (hs : 0 <= size /\ size <= 65536) (w : World) (hn : n₀ <= w.heap.size) (hBn : w.cell? ⟨Bn, 0, none⟩ = some (.int .i64 size)) :
 SeqStopsK Fence.wide 4 Tryz.prog 338 #[.pointer (some ⟨Bn, 0, none⟩)] (fun x : Seg => #[.int .i64 x.1]) (Below n₀) (fun ys => segVals ys = segsOf size) (fun _ => True) 65536 w :=
 fun l J Jx W hW _ _ hY h0 => seg_iter l Bn n₀ size hs J Jx hY W ((Ext.cell_some hW hBn)) h0
set_option maxHeartbeats 400000 in
theorem segments_any (n : Int) (w : World) :
 Calls Tryz.prog 331 #[.int .i64 n] w fun e w' => e = .returned (.func (.func 338) #[] #[.pointer (some ⟨w.heap.size, 0, none⟩)]) /\ w' = w.alloc (.cells #[.int .i64 n] 3) := by
 go_enter Tryz.func331, Tryz.ntmps331
 go_wp2
 go_ret
 exact ⟨rfl, rfl⟩
set_option maxHeartbeats 2000000 in
theorem pass_any (c : Con) (n : Int) (w : World) (hr : 1 <= c.rate /\ c.rate <= 1000) (hn : 1 <= n /\ n <= 65536) :
 Calls Tryz.prog 306 #[c.val, .int .i64 n] w fun e w' => e = .returned (.int .i64 (c.pass n)) /\ Ext w w' := by
 refine (callsIn_wide (n := 5)).1 ?_
 refine callsIn_of_wp_marks Tryz.func306 rfl trivial ?_ rfl
 unfold Con.val
 simp only [Tryz.ntmps306, List.size_toArray, List.length_cons, List.length_nil, Nat.reduceAdd, Nat.reduceSub, Array.replicate_succ, Array.replicate_zero, List.push_toArray, List.append_toArray, List.nil_append, List.cons_append]
 gi_wp2
 refine ⟨trivial, ?_⟩
 refine (callsIn_wide.2 (segments_any n _)).mono ?_
 rintro e w' ⟨rfl, rfl⟩
 obtain ⟨W, hW, hB, hk0, hk1, hk2, hz⟩ : ∃ W, ((w.alloc (.cells c.cells 61)).alloc (.cells #[.int .i64 0] 3)).alloc (.cells #[.int .i64 n] 3) = W /\ Ext w W /\ Blk W w.heap.size 61 c.cells /\ Blk W (w.heap.size + 1) 3 #[.int .i64 0] /\ Blk W (w.heap.size + 2) 3 #[.int .i64 n] /\ W.heap.size = w.heap.size + 3 := by
  refine ⟨_, rfl, (((Ext.refl w).alloc _).alloc _).alloc _, ?_, ?_, ?_, by simp⟩
  ·exact ((Blk.new w _ _).ext ((Ext.refl _).alloc _)).ext ((Ext.refl _).alloc _)
  ·have := (Blk.new (w.alloc (.cells c.cells 61)) 3 #[.int .i64 0]).ext ((Ext.refl _).alloc (.cells #[.int .i64 n] 3))
   simpa using this
  ·have := Blk.new ((w.alloc (.cells c.cells 61)).alloc (.cells #[.int .i64 0] 3)) 3 #[.int .i64 n]
   simpa using this
 simp only [Con.cells] at hW hk0
 rw [hW]
 clear hW
 simp only [World.size_alloc]
 have hz' := Lib.hid hz
 clear hz
 gi_wp2
 refine wpIn_rangeFunc_ownF rfl (by omega) (gf := 338) (lb := #[.pointer (some ⟨w.heap.size + 2, 0, none⟩)]) rfl trivial (enters_of Tryz.func338 (by kernel_rfl) rfl)
  (seg_stops (w.heap.size + 2) w.heap.size n ⟨by omega, hn.2⟩ W hB.size (hk2.cell 0)) belowK_t (belowK_b hB.size) (Below.refl _ _) (fun _ => rfl)
  (fun pre W' => (Blk W' (w.heap.size + 1) 3 #[.int .i64 (c.sum (segVals pre))] /\ Blk W' w.heap.size 61 c.cells) /\ Below w.heap.size w W')
  (fun _ _ _ => False)
  (OwnFrom.and (OwnFrom.and (Own.from (blk_own _ _ (fun pre => #[.int .i64 (c.sum (segVals pre))])) _) (Own.from (blk_own _ _ (fun _ => c.cells)) _)) (ownFrom_below (Nat.le_refl _) hB.size))
  (fun _ _ _ _ _ hs _ _ => hs)
  ⟨⟨hk1, hk0⟩, hB⟩
  (fun x => { tmps := #[.agg #[.int .i64 c.src, .int .i64 c.dst, .int .i64 c.st, .int .i64 c.en, .int .i64 c.rate, .int .i64 c.rng, .int .i64 c.loss], .int .i64 n, .pointer (some ⟨w.heap.size, 0, none⟩), undef, .int .i64 0, .pointer (some ⟨w.heap.size + 1, 0, none⟩), .int .i64 x.1, .int .i64 n, .func (.func 338) #[] #[.pointer (some ⟨w.heap.size + 2, 0, none⟩)], .int .i64 x.1, undef, undef, undef, undef, undef, undef], defers := [] }) ?assign ?body ?done ?stop
 case assign =>
  intro l x W K hK
  gi_wp2
  exact hK
 case body =>
  rintro l pre x W2 ⟨⟨hs, hcn⟩, hB2⟩ hlen
  have sb := Con.sum_bd c hr.1 pre
  have hs0 := hs.cell
  have hs1 := hs.frozen
  simp only [Con.cells] at hcn
  have hc0 := hcn.cell
  have hx := x.2
  have tb := Con.ticks_bd (c := c) (n := x.1) hr.1 (by omega)
  have h13 : 1 <= 5 - 1 - 1 := by omega
  gi_wp2
  have hT : ∀ W', CallsIn (Fence.wide.inRound l) 2 Tryz.prog 307 #[c.val, .int .i64 x.1] W' (fun e w1 => e = .returned (.int .i64 (c.ticks x.1)) /\ Ext W' w1) := fun W' => CallsIn.inRound l (callsIn_wide.2 (ticks_any c _ _ hr (by omega)))
  unfold Con.val at hT
  have hfn : ∀ k, Fence.wide.fn k := fun _ => trivial
  have hmix : Tryz.prog.follows .mixedOrders = true := by kernel_rfl
  gi_region_with_o (gi_at_call 307; refine (hT _).mono ?_; rintro e w1 ⟨rfl, hb⟩; have hsb := Blk.ext (w := W2.drew) hs hb; have hcb := Blk.ext (w := W2.drew) hcn hb; have hsb0 := hsb.cell; have hsb1 := hsb.frozen)
  all_goals
   refine ⟨((KeepsOthers.drew W2).trans hb.keeps).trans (KeepsOthers.setCell _ _ _), ?_, ⟨?_, ?_⟩, ?_⟩
   ·exact (((Below.refl _ W2).drew).trans (hb.below (by have := hB2.size; simpa using this))).setCell (by simp) _
   ·have h := Blk.set0 hsb (.int .i64 (c.sum (segVals (pre ++ [x]))))
    rw [segVals_snoc, Con.sum_snoc] at h ⊢
    first | exact h | (rw [IntWalk.i64_in _ (by omega)]; exact h)
   ·exact hcb.far (by simp) _
   ·exact ((hB2.drew).trans (hb.below (by have := hB2.size; simpa using this))).setCell (by simp) _
 case done =>
  rintro D ys W3 hD hS ⟨⟨hs, _⟩, hB3⟩ hK
  have hs0 := hs.cell
  gi_wp2
  refine ⟨by simp, .inl ⟨_, _, rfl, run_takeDeferred hK, ?_⟩⟩
  refine ⟨_, results_tmp rfl _ _ _, ?_, hB3.trans (belowK_b (w := w) (Nat.le_refl _) W3 D _ _ (by have := hB.size; omega) hK rfl rfl)⟩
  refine ret_i64 ?_
  try rw [hS]
  exact Con.sum_segs c n (by omega)
 case stop =>
  rintro D cc pre W3 _ _ h _
  exact h.elim
end
section
open Go.RowKit
set_option maxHeartbeats 1000000 in
theorem dur_any (c : Con) (n : Int) (w : World) (h : c.Ok) (hn : 1 <= n /\ n <= 65536) :
 Calls Tryz.prog 260 #[c.val, .int .i64 n] w fun e w' => e = .returned (.int .i64 (c.dur n)) /\ Ext w w' := by
 obtain ⟨h1, h2, h3, h4, h5, h6, h7, h8, h9, h10, h11, h12, h13, h14⟩ := h
 have p := Con.pass_bd (c := c) h5 hn.1 hn.2
 have t := Con.ticks_bd (c := c) (n := 16) h5 (by omega)
 have x := Con.extra_bd (c := c) h5 h7 h8 h9 h10
 unfold Con.val
 go_enter Tryz.func260, Tryz.ntmps260
 go_wp2_with fail
 obtain ⟨W, hW, hB, hk, hlt⟩ := box1 w c.cells 61
 simp only [Con.cells] at hW hk
 rw [hW]
 clear hW
 have hc := hk.cell
 have hN := Near.refl W
 go_region_held3 (fun w' => Ext W w' /\ ∀ b o, b < W.heap.size -> w'.cell? ⟨b, o, none⟩ = W.cell? ⟨b, o, none⟩) (first | exact hN.drew | exact Near.step (by assumption) hb)
  (first | (go_at_call 306; refine (pass_any c _ _ ⟨h5, h6⟩ hn).mono ?_; rintro e w1 ⟨rfl, hb⟩) | (go_at_call 307; refine (ticks_any c _ _ ⟨h5, h6⟩ (by omega)).mono ?_; rintro e w1 ⟨rfl, hb⟩))
 all_goals (obtain ⟨hE, hC⟩ := ‹Ext W _ /\ _›; replace hN : Near W _ := ⟨hE, hC⟩)
 go_wp2
 go_ret
 refine ⟨ret_i64 ?_, hB.trans hN.1⟩
 go_unwrap
 rfl
set_option maxHeartbeats 1000000 in
theorem fits_any (c : Con) (b n : Int) (w : World) (h : c.Ok) (hn : 1 <= n /\ n <= 65536) :
 Calls Tryz.prog 323 #[c.val, .int .i64 b, .int .i64 n] w fun e w' => e = .returned (.bool (c.fitsB b n)) /\ Ext w w' := by
 have d := Con.dur_bd h hn.1 hn.2
 have ⟨h1, h2, h3, h4, h5, h6, h7, h8, h9, h10, h11, h12, h13, h14⟩ := h
 by_cases hs : c.st <= b
 ·have hd : decide (c.st <= b) = true := by simpa using hs
  unfold Con.val
  go_enter Tryz.func323, Tryz.ntmps323
  go_wp2_with fail
  obtain ⟨W, hW, hB, hk, hlt⟩ := box1 w c.cells 61
  simp only [Con.cells] at hW hk
  rw [hW]
  clear hW
  have hc := hk.cell
  have hN := Near.refl W
  have hq := quiet_near hN
  refine wp_region_quiet_below (by kernel_rfl) (by kernel_rfl) ?_
  repeat (first | go_big_quiet_skip | (go_big_quiet_want; go_big_quiet_op; first | go_big_quiet_on | (apply Exists.intro; refine ⟨fun _ => ?_, ?_⟩; (focus (first | (go_at_call 260; exact Calls.regrown_of (dur_any c _ _ h hn)))); go_big_quiet_on)))
  refine wpQuiet_nil ?_
  intro w1 hw1
  clear hq
  replace hw1 := quiet_ext hw1
  replace hN := hN.step hw1
  have hC := hN.2
  go_wp2
  go_ret
  refine ⟨ret_bool ?_, hB.trans hN.1⟩
  try go_unwrap
  simp [Con.fitsB]; omega
 ·have hd : decide (c.st <= b) = false := by simpa using hs
  unfold Con.val
  go_enter Tryz.func323, Tryz.ntmps323
  go_wp2_with fail
  obtain ⟨W, hW, hB, hk, hlt⟩ := box1 w c.cells 61
  simp only [Con.cells] at hW hk
  rw [hW]
  clear hW
  have hc := hk.cell
  have hN := Near.refl W
  have hq := quiet_near hN
  refine wp_region_quiet_below (by kernel_rfl) (by kernel_rfl) ?_
  repeat (first | go_big_quiet_skip | (go_big_quiet_want; go_big_quiet_op; first | go_big_quiet_on | (apply Exists.intro; refine ⟨fun _ => ?_, ?_⟩; (focus (first | fail)); go_big_quiet_on)))
  refine wpQuiet_nil ?_
  intro w1 hw1
  clear hq
  replace hw1 := quiet_ext hw1
  replace hN := hN.step hw1
  have hC := hN.2
  go_wp2
  go_ret
  refine ⟨ret_bool ?_, hB.trans hN.1⟩
  simp [Con.fitsB]; omega
set_option maxHeartbeats 1000000 in
theorem Fits_any (c : Con) (b n : Int) (w : World) :
 Calls Tryz.prog 324 #[c.val, .int .i64 b, .int .i64 n] w fun e w' => e = .returned (.bool (c.fitsR b n)) /\ Ext w w' := by
 by_cases ha : c.arg n = 0
 all_goals
  unfold Con.val
  go_enter Tryz.func324, Tryz.ntmps324
  go_wp2_with fail
  obtain ⟨W, hW, hB, hk, hlt⟩ := box1 w c.cells 61
  simp only [Con.cells] at hW hk
  rw [hW]
  clear hW
  have hc := hk.cell
  have hN := Near.refl W
  go_wp2_with (first | (go_at_call 259; refine (arg_any c _ _).mono ?_; rintro e w1 ⟨rfl, hb⟩; replace hN := hN.step hb; have hC := hN.2) | (go_at_call 323; refine (fits_any c _ _ _ (Con.arg_ok.1 ha).1 (Con.arg_ok.1 ha).2).mono ?_; rintro e w1 ⟨rfl, hb⟩; replace hN := hN.step hb; have hC := hN.2))
  go_ret
  exact ⟨ret_bool (by simp [Con.fitsR, ha]), hB.trans hN.1⟩
set_option maxHeartbeats 1000000 in
theorem Duration_any (c : Con) (n : Int) (w : World) :
 Calls Tryz.prog 196 #[c.val, .int .i64 n] w fun e w' => e = .returned (.tuple #[.int .i64 (c.durR n), .int .i64 (c.arg n)]) /\ Ext w w' := by
 by_cases ha : c.arg n = 0
 all_goals
  unfold Con.val
  go_enter Tryz.func196, Tryz.ntmps196
  go_wp2_with fail
  obtain ⟨W, hW, hB, hk, hlt⟩ := box1 w c.cells 61
  simp only [Con.cells] at hW hk
  rw [hW]
  clear hW
  have hc := hk.cell
  have hN := Near.refl W
  go_wp2_with (first | (go_at_call 259; refine (arg_any c _ _).mono ?_; rintro e w1 ⟨rfl, hb⟩; replace hN := hN.step hb; have hC := hN.2) | (go_at_call 260; refine (dur_any c _ _ (Con.arg_ok.1 ha).1 (Con.arg_ok.1 ha).2).mono ?_; rintro e w1 ⟨rfl, hb⟩; replace hN := hN.step hb; have hC := hN.2))
  go_ret2
  exact ⟨by simp [Con.durR, ha], hB.trans hN.1⟩
end
section
open Go.RowKit
theorem Con.overlap_eq {a b : Con} (ha : a.check = 0) (hb : b.check = 0) : a.overlapB b = decide (a.src = b.src /\ a.dst = b.dst /\ a.st < b.en /\ b.st < a.en) := by
 have h1 := ((Con.check_iff a).1 ha).st1
 have h2 := ((Con.check_iff b).1 hb).st1
 rw [Bool.eq_iff_iff]
 simp [Con.overlapB, ha, hb]
 omega
set_option maxHeartbeats 1000000 in
theorem Overlap_any (a b : Con) (w : World) :
 Calls Tryz.prog 72 #[a.val, b.val] w fun e w' => e = .returned (.bool (a.overlapB b)) /\ Ext w w' := by
 by_cases ha : a.check = 0
 ·by_cases hb0 : b.check = 0
  ·have ho := Lib.hid (Con.overlap_eq ha hb0)
   have h1 := ((Con.check_iff a).1 ha).st1
   have h2 := ((Con.check_iff b).1 hb0).st1
   unfold Con.val
   go_enter Tryz.func72, Tryz.ntmps72
   go_wp2_with fail
   obtain ⟨W, hW, hB, hk, hk2, hlt, hlt2⟩ := box2 w a.cells b.cells 61 61
   simp only [Con.cells] at hW hk hk2
   rw [hW]
   clear hW
   have hc := hk.cell
   have hc2 := hk2.cell
   have hN := Near.refl W
   go_wp2_with (go_at_call 69; refine (check_any _ _).mono ?_; rintro e w1 ⟨rfl, hb⟩; replace hN := hN.step hb; have hC := hN.2)
   all_goals go_ret
   all_goals refine ⟨ret_bool ?_, hB.trans hN.1⟩
   all_goals rw [ho.out, Bool.eq_iff_iff]
   all_goals clear ho hc hc2 hk hk2
   all_goals simp_all
   all_goals omega
  ·unfold Con.val
   go_enter Tryz.func72, Tryz.ntmps72
   go_wp2_with fail
   obtain ⟨W, hW, hB, hk, hk2, hlt, hlt2⟩ := box2 w a.cells b.cells 61 61
   simp only [Con.cells] at hW hk hk2
   rw [hW]
   clear hW
   have hc := hk.cell
   have hc2 := hk2.cell
   have hN := Near.refl W
   go_wp2_with (go_at_call 69; refine (check_any _ _).mono ?_; rintro e w1 ⟨rfl, hb⟩; replace hN := hN.step hb; have hC := hN.2)
   go_ret
   exact ⟨ret_bool (by simp [Con.overlapB, hb0]), hB.trans hN.1⟩
 ·unfold Con.val
  go_enter Tryz.func72, Tryz.ntmps72
  go_wp2_with fail
  obtain ⟨W, hW, hB, hk, hk2, hlt, hlt2⟩ := box2 w a.cells b.cells 61 61
  simp only [Con.cells] at hW hk hk2
  rw [hW]
  clear hW
  have hc := hk.cell
  have hc2 := hk2.cell
  have hN := Near.refl W
  go_wp2_with (go_at_call 69; refine (check_any _ _).mono ?_; rintro e w1 ⟨rfl, hb⟩; replace hN := hN.step hb; have hC := hN.2)
  go_ret
  exact ⟨ret_bool (by simp [Con.overlapB, ha]), hB.trans hN.1⟩
end
end Go.Proofs.YtemkpimngbbpkaaGreat

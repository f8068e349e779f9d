/- Security: varint.Int. · Security: varint.Text, crc. · Security: the table of the checksum. · Security: the bytes of a string, one by one. · Security: the words of a string, one by one. -/
import Derived.RangeFuncLeaves
import Derived.BigRegion
import Derived.Laws.Rows
import Derived.Laws.Tables
import Derived.Deep.WholeRow
import Derived.RangeFuncNested
import Derived.RangeFuncOwn
import Derived.LoopIn
import Derived.Laws.CopyRow
import Derived.Test.YtemkpimngbbpkaaGreatQs05
import Derived.Test.YtemkpimngbbpkaaGreatQs09
import Derived.Test.YtemkpimngbbpkaaGreatQs12
namespace Go.Proofs.YtemkpimngbbpkaaGreat
set_option linter.unusedVariables false
set_option linter.unusedSimpArgs false
section
open Go.RowKit Go.Shelf
attribute [local go_sem] Oper.semAt_some
theorem groups_stops (B n₁ : Nat) (S : Nat -> Prop) (z : Nat) (w : World) (hz : z < 9223372036854775808) (kb : Blk w B 3 #[.int .i64 z]) (hB : B < n₁ /\ ¬ S B) :
 SeqStopsK Fence.wide 4 Tryz.prog 250 #[.pointer (some ⟨B, 0, none⟩)] (grV (z := z)) (KpP n₁ S) GrF (fun _ => True) 65 w :=
 fun l J Jx W hW _ _ hY hj => groups_iter l B n₁ S z W hz (kb.ext hW) hB J Jx hY hj
set_option maxHeartbeats 400000 in
theorem groups_any (z : Nat) (w : World) :
 Calls Tryz.prog 186 #[.int .i64 z] w fun e w' => e = .returned (.func (.func 250) #[] #[.pointer (some ⟨w.heap.size, 0, none⟩)]) /\ Ext w w' /\ w'.heap.size = w.heap.size + 1 /\ Blk w' w.heap.size 3 #[.int .i64 z] := by
 obtain ⟨W1, hW1, hB1, hk1, hl1⟩ := box1 w #[.int .i64 z] 3
 have s1 : W1.heap.size = w.heap.size + 1 := by rw [<- hW1]; simp
 have S1 := Lib.hid s1
 clear s1
 go_enter Tryz.func186, Tryz.ntmps186
 go_wp2
 go_ret
 exact ⟨rfl, hB1, S1.out, hk1⟩
def gby (z i : Nat) : UInt8 := UInt8.ofNat (z / 128 ^ (ngr z - i) % 128 + if i = ngr z then 0 else 128)
theorem vintN_gby (z : Nat) : vintN z = (List.range (ngr z + 1)).map (gby z) := rfl
def VRl (z : Nat) (bo b1 : Nat) (W0 : World) (pre : List (GrX z)) (W : World) : Prop := ∃ u, Owns EB W b1 5 u ((grI pre).map (gby z)) /\ Blk W bo 22 #[u] /\ Ext W0 W /\ b1 <= W.heap.size
theorem vrl_own {z bo b1 B : Nat} {W0 : World} (hB : W0.heap.size <= B) : OwnFrom B (VRl z bo b1 W0) := by
 intro pre X Y row hs hg hr
 obtain ⟨u, h1, h2, h3, h4⟩ := hs
 exact ⟨u, h1.keptc hg (fun r e => (hr r e).2), h2.keptc hg (fun r e => (hr r e).2), h3.keptb hg (fun r e => Nat.le_trans hB (hr r e).1), Nat.le_trans h4 hg.size⟩
theorem vrl_put {z bo b1 : Nat} {W0 W w6 : World} {pre : List (GrX z)} {x : GrX z} {y : UInt8} {u v6 : Value} {c : Obj} (hy : gby z x.1 = y) (h1 : Owns EB W b1 5 u ((grI pre).map (gby z))) (h2 : Blk W bo 22 #[u]) (h3 : Ext W0 W) (h4 : b1 <= W.heap.size) (hbo : bo < b1) (hW0 : W0.heap.size <= bo)
 (hv6 : Owns EB w6 b1 5 v6 ((grI pre).map (gby z) ++ [y])) (hg6 : (W.alloc c).grownBy w6 u.ownBlock) :
 Blk w6 bo 22 #[u] /\ KeepsFrom b1 W (w6.setCell ⟨bo, 0, none⟩ v6) /\ KpP b1 (fun b => b = bo) W (w6.setCell ⟨bo, 0, none⟩ v6) /\ VRl z bo b1 W0 (pre ++ [x]) (w6.setCell ⟨bo, 0, none⟩ v6) := by
 have hx := (Ext.refl W).alloc c
 have ho := h1.ext hx
 have ko6 := Blk.kepttZ (h2.ext hx) ho (by decide) hg6
 have hE6 := ext_grown (h3.trans hx) ho (by omega) hg6
 have hk6 := hx.keeps.trans (keeps_ownL ho hg6)
 have hkk := hk6.trans (KeepsOthers.setCell w6 ⟨bo, 0, none⟩ v6)
 have hgs := hg6.size
 have hxs := hx.size
 refine ⟨ko6, hkk.from _, ?_, v6, ?_, ko6.set0 _, hE6.setCell hW0 _, Nat.le_trans h4 hkk.size⟩
 ·refine KpP.setCell (S := fun b => b = bo) (KpP.trans (KpP.of_ext h4 hx) ⟨hg6.os, hg6.tape, hg6.output, hgs, fun k hk hs => hg6.block k (by omega) (fun e => ?_)⟩) (.inl rfl) _ _
  have := (ho.block e.symm).1
  omega
 ·rw [grI_snoc, List.map_append, List.map_cons, List.map_nil, hy]
  exact hv6.setZ ko6 (by decide) 0 _
theorem results_tmp2v {fn : Func} {a b : Tmp} (h : fn.results = #[.tmp a, .tmp b]) (tmps : Array Value) (P : Program) (w : World) : (results fn tmps).run P w = .ok (.tuple #[tmps.getD a undef, tmps.getD b undef]) w := by
 simp only [results, h]
 simp [Sem.run_bind, Result.andThen]
theorem grI_len {z : Nat} (ys : List (GrX z)) : (grI ys).length = ys.length := by simp [grI]
theorem gbyT (z i : Nat) (h : i = ngr z) : ((z / 128 ^ (ngr z - i) % 128 : Nat) : Int) = ((gby z i).toNat : Int) := by
 unfold gby
 rw [if_pos h, UInt8.toNat_ofNat', Nat.add_zero]
 omega
theorem gbyF (z i : Nat) (h : ¬ i = ngr z) : IntKind.u8.wrap (((z / 128 ^ (ngr z - i) % 128 : Nat) : Int) + 128) = ((gby z i).toNat : Int) := by
 unfold gby
 rw [if_neg h, UInt8.toNat_ofNat', IntKind.wrap_u8']
 omega
set_option maxRecDepth 100000 in
set_option maxHeartbeats 16000000 in
theorem Int_any (n : Int) (w : World) (h : -1152921504606846976 <= n /\ n <= 1152921504606846976) :
 Calls Tryz.prog 106 #[.int .i64 n] w fun e w' => e = .returned (.tuple #[strV (vint n), .int .i64 0]) /\ Ext w w' := by
 obtain ⟨i0, hi0, hz0, hz1, hz2⟩ := info_parts info_byte
 obtain ⟨W1, hW1, hB1, hk1, hl1⟩ := box1 w #[.slice none 0 0] 22
 have f1 := fun w => inRange_any n w
 rw [decide_eq_true h] at f1
 have f2 := fun w => zigzag_any n w h
 have hzz : zig n < 9223372036854775808 := by unfold zig; split <;> omega
 have HV := Lib.hid (show vint n = (List.range (ngr (zig n) + 1)).map (gby (zig n)) from rfl)
 obtain ⟨z, hz⟩ : ∃ z, zig n = z := ⟨_, rfl⟩
 rw [hz] at f2 hzz HV
 have f3 := fun w => groups_any z w
 have hng := (ngr_spec hzz).2.2
 clear hz h
 refine (callsIn_wide (n := 5)).1 ?_
 refine callsIn_of_wp_marks Tryz.func106 rfl trivial ?_ rfl
 refine wpIn_wide.2 ?_
 refine Code.wp_mono NoPanic.imp ?_
 simp only [Tryz.ntmps106, List.size_toArray, List.length_cons, List.length_nil, Nat.reduceAdd, Nat.reduceSub, Array.replicate_succ, Array.replicate_zero, List.push_toArray, List.append_toArray, List.nil_append, List.cons_append]
 go_wp2_with fail
 refine (f1 _).mono ?_
 clear f1
 rintro e wa ⟨rfl, rfl⟩
 go_wp2_with fail
 clear hW1
 refine (f2 _).mono ?_
 clear f2
 rintro e wa ⟨rfl, rfl⟩
 go_wp2_with fail
 refine (f3 _).mono ?_
 clear f3
 rintro e w8 ⟨rfl, hb8, hs8, z1⟩
 go_wp2_with fail
 refine (wpIn_wide (n := 5)).1 ?_
 refine wpIn_rangeFunc_ownH rfl (by omega) (gf := 250) (lb := #[.pointer (some ⟨W1.heap.size, 0, none⟩)]) rfl trivial (enters_of Tryz.func250 (by kernel_rfl) rfl)
  (groups_stops W1.heap.size w8.heap.size (fun b => b = w.heap.size) z w8 hzz z1 ⟨by omega, by omega⟩)
  KpP.trans (fun W l o o' hl _ _ _ => KpP.put W l o' hl) (Below.refl _ _) (fun _ => rfl)
  (VRl z w.heap.size w8.heap.size w) (fun _ _ _ => False) (vrl_own (by have := hB1.size; have := hb8.size; omega)) (fun _ _ _ _ _ hs _ _ => hs)
  ⟨.slice none 0 0, Owns.none_ _ _, hk1.ext hb8, hB1.trans hb8, Nat.le_refl _⟩
  (fun x a' _ => a' = { tmps := #[.int .i64 n, undef, .string ⟨#[]⟩, .int .i64 0, .pointer (some ⟨w.heap.size, 0, none⟩), .int .u8 ((z / 128 ^ (ngr z - x.1) % 128 : Nat) : Int), .bool (decide (x.1 = ngr z)), .int .i64 n, .bool true, .bool false, .int .i64 n, .int .i64 z, .func (.func 250) #[] #[.pointer (some ⟨W1.heap.size, 0, none⟩)], .int .u8 ((z / 128 ^ (ngr z - x.1) % 128 : Nat) : Int), .bool (decide (x.1 = ngr z)), undef, undef, undef, undef, undef, undef, undef, undef, undef, undef], defers := [] }) (fun _ _ _ _ _ _ hs _ _ => hs) ?assign ?body ?done ?stop
 case assign =>
  rintro li pre x W K hi hK
  simp only [grV]
  gi_wp2
  exact hK _ _ (KeepsFrom.refl _ _) (KpP.refl _ _ _) hi rfl
 case body =>
  rintro li pre x a' W hl _ ⟨u, h1, h2, h3, h4⟩ rfl hlen
  have hpl := grI_len pre
  obtain ⟨y, hy⟩ : ∃ y, gby z x.1 = y := ⟨_, rfl⟩
  have HY := Lib.hid hy
  obtain ⟨A, c, rfl, hR⟩ := h1.form
  have hml : ((grI pre).map (gby z)).length = pre.length := by rw [List.length_map, hpl]
  obtain ⟨l0, hl0⟩ : ∃ l0, (grI pre).map (gby z) = l0 := ⟨_, rfl⟩
  rw [hl0] at h1 h2 hR hml
  have PUT0 : Hid (∀ v6 w6 c0, Owns EB w6 w8.heap.size 5 v6 (l0 ++ [y]) -> (W.alloc c0).grownBy w6 (Value.slice A l0.length c).ownBlock -> _) := Lib.hid (fun v6 w6 c0 hv hg => vrl_put (z := z) (bo := w.heap.size) (b1 := w8.heap.size) (W0 := w) (W := W) (w6 := w6) (pre := pre) (x := x) (y := y) (u := .slice A l0.length c) (v6 := v6) (c := c0) hy (by rw [hl0]; exact h1) h2 h3 h4 (by omega) (Nat.le_refl _) (by rw [hl0]; exact hv) hg)
  have HL0 := Lib.hid hml
  have a1 := h2.cell
  have a2 := h2.lt
  clear hl0 hml hpl
  by_cases hi : x.1 = ngr z
  ·have e := gbyT z x.1 hi
   rw [e, hy, decide_eq_true hi]
   clear e hi hy
   gi_wp2_with (gi_at_builtin; refine wpListIn_pushL rfl (.tmp 19) (.tmp 21) _ (by rfl) w8.heap.size 5 i0 _ 1 Tryz.underlying22 hi0 hz0 hz1 hz2 (by rfl) (.slice A l0.length c) (by rfl) (h1.ext ((Ext.refl _).alloc _)) W.heap.size y (by rfl) (Blk.new W _ _) (by rw [HL0.out]; simp only [maxLen]; omega) (by rw [HL0.out]; omega) (by simp; omega) ?_; intro v6 w6 hv6 hg6 hat6; have PUT := PUT0.out _ _ _ hv6 hg6; obtain ⟨A7, d7, rfl, hR7⟩ := hv6.form; have m1 := PUT.1.cell; have m2 := PUT.1.lt; have m3 := PUT.1.frozen; simp only [List.length_append, List.length_cons, List.length_nil, Nat.zero_add] at hv6 PUT ⊢; have FIN := Lib.hid PUT.2; clear PUT)
   exact FIN.out
  ·have q1 := gbyF z x.1 hi
   rw [hy] at q1
   rw [decide_eq_false hi]
   obtain ⟨d, hd⟩ : ∃ d, z / 128 ^ (ngr z - x.1) % 128 = d := ⟨_, rfl⟩
   have hd9 : d < 128 := by omega
   rw [hd] at q1 ⊢
   clear hi hy hd
   gi_wp2_with (gi_at_builtin; refine wpListIn_pushL rfl (.tmp 19) (.tmp 21) _ (by rfl) w8.heap.size 5 i0 _ 1 Tryz.underlying22 hi0 hz0 hz1 hz2 (by rfl) (.slice A l0.length c) (by rfl) (h1.ext ((Ext.refl _).alloc _)) W.heap.size y (by rfl) (Blk.new W _ _) (by rw [HL0.out]; simp only [maxLen]; omega) (by rw [HL0.out]; omega) (by simp; omega) ?_; intro v6 w6 hv6 hg6 hat6; have PUT := PUT0.out _ _ _ hv6 hg6; obtain ⟨A7, d7, rfl, hR7⟩ := hv6.form; have m1 := PUT.1.cell; have m2 := PUT.1.lt; have m3 := PUT.1.frozen; simp only [List.length_append, List.length_cons, List.length_nil, Nat.zero_add] at hv6 PUT ⊢; have FIN := Lib.hid PUT.2; clear PUT)
   exact FIN.out
 case stop =>
  rintro D c pre W _ _ h _
  exact h.elim
 case done =>
  rintro D xs W hDD hF ⟨u, h1, h2, h3, h4⟩ hK
  have hd2 := (DSx.nil w8.heap.size w.heap.size W).cons hDD (by have := h3.size; have := hB1.size; have := hb8.size; omega) hK
  clear hK
  have hF' : grI xs = List.range (ngr z + 1) := hF
  rw [hF', <- HV.out] at h1
  obtain ⟨A, c, rfl, hR⟩ := h1.form
  have q1 := conv_str (P := Tryz.prog) W 22 9 5 A c (vint n) Tryz.underlying22 Tryz.underlying5 Tryz.underlying9 hR
  have a1 := h2.cell
  have a2 := h2.lt
  go_wp2_with fail
  show LeavesInM _ _ _ _ _ _ _ .returning _
  refine hd2.leaves ?_
  intro w' hw'
  have hfin := hw' (fun W => Ext w W) (fun s X Y row hs hg hr => hs.keptb hg (fun r e => (hr r e).1)) h3
  exact ⟨_, results_tmp2v rfl _ _ _, rfl, hfin⟩
end
section
open Go.RowKit Go.Shelf
attribute [local go_sem] Oper.semAt_some
theorem bap (a b : Bts) : (⟨a.toArray⟩ : ByteArray) ++ (⟨b.toArray⟩ : ByteArray) = ⟨(a ++ b).toArray⟩ := by
 apply ByteArray.ext
 simp
theorem ngrF_le (z : Nat) : ∀ f k, ngrF z f k <= k + f
 | 0, k => by simp [ngrF]
 | f + 1, k => by
   unfold ngrF
   split
   ·omega
   ·have := ngrF_le z f (k + 1); omega
theorem vint_len (n : Int) : (vint n).length <= 10 := by
 unfold vint vintN
 rw [List.length_map, List.length_range]
 have := ngrF_le (zig n) 9 0
 unfold ngr
 omega
set_option maxRecDepth 100000 in
set_option maxHeartbeats 4000000 in
theorem Text_any (s : Bts) (w : World) (h : s.length <= 65536) :
 Calls Tryz.prog 104 #[strV s] w fun e w' => e = .returned (.tuple #[strV (vtext s), .int .i64 0]) /\ Ext w w' := by
 have hi := fun w => Int_any (s.length : Int) w ⟨by omega, by omega⟩
 have d : decide ((65536 : Int) < (s.length : Int)) = false := decide_eq_false (by omega)
 have q := bap (vint (s.length : Int)) s
 unfold strV at hi ⊢
 go_enter Tryz.func104, Tryz.ntmps104
 go_wp2_with fail
 refine (hi _).mono ?_
 clear hi
 rintro e w1 ⟨rfl, hb1⟩
 have hv := vint_len (s.length : Int)
 have hvs : (vint (s.length : Int)).length + s.length <= 9223372036854775807 := by omega
 go_wp2
 go_ret2
 exact ⟨rfl, hb1⟩
theorem u32lt (a : UInt32) : a.toNat < 4294967296 := a.toNat_lt
theorem u32_xor (a b : UInt32) : bits .xor .u32 (a.toNat : Int) (b.toNat : Int) = ((a ^^^ b).toNat : Int) := by
 rw [u32_xor_nat _ _ (u32lt a) (u32lt b), UInt32.toNat_xor]
def cstK (r : UInt32) : Nat -> UInt32
 | 0 => r
 | k + 1 => cst1 (cstK r k)
theorem cstK_8 (r : UInt32) : cstK r 8 = cst r := rfl
set_option maxRecDepth 100000 in
set_option maxHeartbeats 4000000 in
theorem step_any (r : UInt32) (w : World) :
 Calls Tryz.prog 336 #[.int .u32 r.toNat] w fun e w' => e = .returned (.int .u32 (cst r).toNat) /\ w = w' := by
 have H8 := Lib.hid (cstK_8 r)
 go_enter Tryz.func336, Tryz.ntmps336
 go_wp2_with fail
 go_loopg [0, 3] 8 (fun n v m wr => ∃ k : Nat, k + n = 8 /\ m = .int .i64 k /\ v = .int .u32 (cstK r k).toNat /\ wr = w)
 case atStart => exact ⟨0, rfl, by go_num, rfl, rfl⟩
 case round =>
  obtain ⟨k, hkn, rfl, rfl, rfl⟩ := hrel
  have Hkn := Lib.hid hkn
  have hk8 : k <= 8 := by omega
  clear hkn
  by_cases hlt : k < 8
  ·have hsu : cstK r (k + 1) = cst1 (cstK r k) := rfl
   obtain ⟨x, hx⟩ : ∃ x, cstK r k = x := ⟨_, rfl⟩
   rw [hx] at hsu ⊢
   have hxl := u32lt x
   by_cases h2 : x % 2 = 1
   ·obtain ⟨y, hy⟩ : ∃ y, (x / 2) ^^^ 2197175160 = y := ⟨_, rfl⟩
    have q1 : bits .xor .u32 ((x.toNat : Int) / 2) 2197175160 = (y.toNat : Int) := by
     have h9 := u32_xor (x / 2) 2197175160
     rw [hy, UInt32.toNat_div] at h9
     exact h9
    have e2 : ((x.toNat : Int) % 2 == 1) = true := by
     have := congrArg UInt32.toNat h2
     rw [UInt32.toNat_mod] at this
     simp at this
     rw [beq_iff_eq]
     omega
    have HS := Lib.hid (show cstK r (k + 1) = y by rw [hsu, <- hy]; unfold cst1; rw [if_pos h2])
    clear hsu hx h2 hy
    go_wp2_with fail
    go_roundg (gk - 1)
    case measure => have := Hkn.out; omega
    case rel => exact ⟨k + 1, by have := Hkn.out; omega, by go_num, by rw [HS.out], rfl⟩
   ·obtain ⟨y, hy⟩ : ∃ y, x / 2 = y := ⟨_, rfl⟩
    have q1 : ((x.toNat : Int) / 2) = (y.toNat : Int) := by
     have h9 : (x / 2).toNat = x.toNat / 2 := UInt32.toNat_div x 2
     rw [<- hy, h9]
     rfl
    have e2 : ((x.toNat : Int) % 2 == 1) = false := by
     rw [beq_eq_false_iff_ne]
     intro h9
     apply h2
     apply UInt32.toNat_inj.1
     rw [UInt32.toNat_mod]
     show x.toNat % 2 = 1
     omega
    have HS := Lib.hid (show cstK r (k + 1) = y by rw [hsu, <- hy]; unfold cst1; rw [if_neg h2])
    clear hsu hx h2 hy
    go_wp2_with fail
    go_roundg (gk - 1)
    case measure => have := Hkn.out; omega
    case rel => exact ⟨k + 1, by have := Hkn.out; omega, by go_num, by rw [HS.out], rfl⟩
  ·obtain rfl : k = 8 := by omega
   rw [H8.out]
   go_wp2
   go_ret
   exact ⟨rfl, rfl⟩
end
section
open Go.RowKit Go.Shelf
attribute [local go_sem] Oper.semAt_some
def tabV (l : List UInt32) : Array Value := (l.map fun x => Value.int .u32 (x.toNat : Int)).toArray
theorem tab_info : (Tryz.prog.info? 445).map (fun i => (i.zero, i.size)) = some (some (.agg (tabV (List.replicate 256 0))), 256) := by kernel_rfl
theorem tab_size : (Tryz.prog.info? 445).map (·.size) = some 256 := (zero_of_info (P := Tryz.prog) tab_info).2
theorem tabV_get {l : List UInt32} {i : Nat} (h : i < l.length) : (tabV l)[i]? = some (.int .u32 (l[i].toNat : Int)) := by
 unfold tabV
 simp [h]
theorem tabV_size (l : List UInt32) : (tabV l).size = l.length := by simp [tabV]
theorem tabV_one (l : List UInt32) : (tabV l).all (·.oneCell') = true := by
 rw [Array.all_eq_true_iff_forall_mem]
 intro v hv
 simp [tabV] at hv
 obtain ⟨x, _, rfl⟩ := hv
 rfl
theorem tabV_set {l : List UInt32} {i : Nat} (x : UInt32) : (tabV l).setIfInBounds i (.int .u32 (x.toNat : Int)) = tabV (l.set i x) := by
 unfold tabV
 apply Array.ext_getElem?
 intro k
 simp only [Array.getElem?_setIfInBounds, List.getElem?_toArray, List.size_toArray, List.length_map, List.getElem?_map, List.getElem?_set]
 by_cases e : i = k
 ·subst e
  by_cases h : i < l.length <;> simp [h]
 ·simp [e]
theorem tabV_setRow {w : World} {g : Nat} {t : TypeId} {cs : Array Value} (h : Blk w g t cs) (ds : Array Value) : Blk (w.setRow g ds) g t ds := setRow_heap w g cs ds t (0, 0) h
theorem tab_grown (w : World) (g : Nat) (ds : Array Value) : w.grownBy (w.setRow g ds) (some g) :=
 ⟨rfl, rfl, rfl, by simp, fun k _ hk => setRow_other w g k ds (fun e => hk (by rw [e]))⟩
section
variable {ops : Array Oper} {rest : List Oper} {o : Oper} {a : Act} {w : World} {Q : Exit -> Act -> World -> Prop} {x y : Operand} {g : Nat} {T T' : List UInt32}
theorem wpList_loadT (ho : o.op = .load 445 x) (hgd : o.guard = none) (hx : a.eval x = .pointer (some ⟨g, 0, none⟩)) (hg : Blk w g 445 (tabV T)) (hT : T.length = 256)
 (h : wpList Tryz.prog ops Q rest (a.put o.dst (.agg (tabV T))) w) : wpList Tryz.prog ops Q (o :: rest) a w :=
 wpList_load_row hgd 445 x ho g hx 445 (tabV T) (0, 0) _ hg Tryz.underlying445 rfl (by rw [tabV_size, hT]; exact tab_size) h
theorem wpList_storeT (ho : o.op = .store 445 x y) (hgd : o.guard = none) (hx : a.eval x = .pointer (some ⟨g, 0, none⟩)) (hy : a.eval y = .agg (tabV T')) (hg : Blk w g 445 (tabV T)) (hT : T.length = 256) (hT' : T'.length = 256)
 (h : ∀ W', w.grownBy W' (some g) -> Blk W' g 445 (tabV T') -> wpList Tryz.prog ops Q rest (a.put o.dst undef) W') : wpList Tryz.prog ops Q (o :: rest) a w :=
 wpList_store_row hgd 445 x y ho g (tabV T') hx hy 445 (tabV T) hg (by rw [tabV_size, hT']; exact tab_size) (by rw [tabV_size, tabV_size, hT, hT']) (tabV_one _)
  (h _ (tab_grown w g _) (tabV_setRow hg _))
end
theorem resultsT {fn : Func} {p : Tmp} (h : fn.results = #[.cell p 445]) {tmps : Array Value} {w : World} {g : Nat} {T : List UInt32} (hp : tmps.getD p undef = .pointer (some ⟨g, 0, none⟩)) (hg : Blk w g 445 (tabV T)) (hT : T.length = 256) :
 (results fn tmps).run Tryz.prog w = .ok (.agg (tabV T)) w := by
 exact results_cell_row h tmps w g 445 (tabV T) (0, 0) _ hp hg Tryz.underlying445 rfl (by rw [tabV_size, hT]; exact tab_size)
def tabK (j : Nat) : List UInt32 := (List.range 256).map fun i => if i < j then cst (UInt32.ofNat i) else 0
def tabL : List UInt32 := (List.range 256).map fun i => cst (UInt32.ofNat i)
theorem tabK_len (j : Nat) : (tabK j).length = 256 := by simp [tabK]
theorem tabL_len : tabL.length = 256 := by simp [tabL]
theorem tabK_0 : tabK 0 = List.replicate 256 0 := by
 rw [List.eq_replicate_iff]
 refine ⟨tabK_len 0, ?_⟩
 intro b hb
 unfold tabK at hb
 rw [List.mem_map] at hb
 obtain ⟨i, _, rfl⟩ := hb
 exact if_neg (by omega)
theorem tabK_end : tabK 256 = tabL := by
 unfold tabK tabL
 apply List.map_congr_left
 intro i hi
 rw [if_pos (by simpa using hi)]
theorem tabK_step {j : Nat} (h : j < 256) : (tabK j).set j (cst (UInt32.ofNat j)) = tabK (j + 1) := by
 apply List.ext_getElem
 ·simp [tabK]
 ·intro i h1 h2
  simp only [tabK, List.getElem_set, List.getElem_map, List.getElem_range]
  by_cases e : j = i
  ·subst e; rw [if_pos rfl, if_pos (by omega)]
  ·rw [if_neg e]
   by_cases e2 : i < j
   ·rw [if_pos e2, if_pos (by omega)]
   ·rw [if_neg e2, if_neg (by omega)]
set_option maxRecDepth 100000 in
set_option maxHeartbeats 4000000 in
theorem table_any (w : World) :
 Calls Tryz.prog 327 #[] w fun e w' => e = .returned (.agg (tabV tabL)) /\ Ext w w' := by
 obtain ⟨Z, hZ⟩ : ∃ Z, tabV (List.replicate 256 0) = Z := ⟨_, rfl⟩
 have hz := (zero_of_info (P := Tryz.prog) tab_info).1
 obtain ⟨W, hW, hB, hk, hlt⟩ := box1 w Z 445
 obtain ⟨W2, hW2, hB2, hk2, hlt2⟩ := box1 W Z 445
 rw [hZ] at hz
 have HZ := Lib.hid hZ
 clear hZ
 go_enter Tryz.func327, Tryz.ntmps327
 go_wp2_with fail
 go_loopg [3] 256 (fun q k wr => ∃ j : Nat, j + q = 256 /\ k = .int .i64 j /\ Blk wr W.heap.size 445 (tabV (tabK j)) /\ Ext W wr)
 case atStart => exact ⟨0, by omega, rfl, by rw [tabK_0, HZ.out]; exact hk2, hB2⟩
 case round =>
  obtain ⟨j, hjq, rfl, hkb, hx⟩ := hrel
  have Hjq := Lib.hid hjq
  have hjN : j <= 256 := by omega
  clear hjq
  by_cases hl2 : j < 256
  ·have hst := fun w => step_any (UInt32.ofNat j) w
   have hHS := Lib.hid (tabK_step hl2)
   obtain ⟨y, hy⟩ : ∃ y, cst (UInt32.ofNat j) = y := ⟨_, rfl⟩
   rw [hy] at hst hHS
   rw [show (UInt32.ofNat j).toNat = j by simp; omega] at hst
   clear hy
   have q1 : IntKind.u32.wrap (j : Int) = (j : Int) := by rw [IntKind.wrap_u32]; omega
   have q2 : (j : Int) % 4294967296 = (j : Int) := by omega
   have hcell := (hkb.cell j).trans (tabV_get (by rw [tabK_len]; exact hl2))
   have hfz := hkb.frozen
   have hgl := hkb.lt
   have hset := hkb.set_ j (.int .u32 (y.toNat : Int))
   rw [tabV_set, hHS.out] at hset
   have hxs : Ext W (wr.setCell ⟨W.heap.size, j, none⟩ (.int .u32 (y.toNat : Int))) := hx.setCell (Nat.le_refl _) _
   generalize ((tabK j)[j]'_).toNat = yy at hcell
   go_wp2_with fail
   refine (hst _).mono ?_
   clear hst
   rintro e w1 ⟨rfl, rfl⟩
   go_wp2
   go_roundg (gk - 1)
   case measure => have := Hjq.out; omega
   case rel => exact ⟨j + 1, by have := Hjq.out; omega, by go_num, hset, hxs⟩
  ·obtain rfl : j = 256 := by omega
   have hkr := hk.ext hx
   rw [<- HZ.out] at hkr
   rw [tabK_end] at hkb
   have hE := hB.trans hx
   go_wp2_with (first | (refine wpList_loadT rfl rfl rfl hkb tabL_len ?_) | (refine wpList_storeT rfl rfl rfl rfl hkr (by simp) tabL_len ?_; intro W8 hg8 hk8))
   refine bodyPost_ret (v := .agg (tabV tabL)) (resultsT rfl rfl hk8 tabL_len) rfl ?_
   exact ⟨rfl, hE.keptb hg8 (by rintro r ⟨rfl⟩; exact Nat.le_refl _)⟩
end
section
open Go.RowKit
attribute [local go_sem] Oper.semAt_some
def byV (x : UInt8) : Array Value := #[.int .u8 (x.toNat : Int)]
def ByF (s : Bts) (ys : Bts) : Prop := ys = s
theorem ba_size (s : Bts) : (⟨s.toArray⟩ : ByteArray).size = s.length := by
 show s.toArray.size = s.length
 simp
theorem ba_get (s : Bts) (i : Nat) (h : i < s.length) (h' : i < (⟨s.toArray⟩ : ByteArray).size) : (⟨s.toArray⟩ : ByteArray)[i]'h' = s[i] := rfl
set_option maxRecDepth 100000 in
set_option maxHeartbeats 4000000 in
theorem bytes_iter (l B n₁ : Nat) (S : Nat -> Prop) (s : Bts) (W : World) (hz : s.length <= 1000000) (kb : Blk W B 9 #[strV s]) (hB : B < n₁ /\ ¬ S B)
 (J Jx : Bts -> World -> Prop)
 (hY : ∀ pre x W, J pre W -> pre.length < 1000001 -> YieldAt Fence.wide 3 Tryz.prog l (byV x) W fun e W' =>
  (e = .returned (.bool true) /\ J (pre ++ [x]) W' /\ KpP n₁ S W W') ∨ (e = .returned (.bool false) /\ Jx (pre ++ [x]) W'))
 (hj : J [] W) :
 CallsIn Fence.wide 4 Tryz.prog 337 #[.func (.yield l) #[] #[], .pointer (some ⟨B, 0, none⟩)] W fun e W' => (∃ v, e = .returned v) /\
  ((∃ ys : Bts, ByF s ys /\ J ys W') ∨ (∃ pre : Bts, True /\ Jx pre W')) := by
 have c1 := kb.cell
 have c2 := kb.lt
 have hsz := ba_size s
 obtain ⟨n, hn⟩ : ∃ n, s.length = n := ⟨_, rfl⟩
 rw [hn] at hsz hz
 obtain ⟨ba, hba, hge⟩ : ∃ ba : ByteArray, ⟨s.toArray⟩ = ba /\ ∀ (i : Nat) (h : i < s.length) (h' : i < ba.size), ba[i]'h' = s[i]'h := ⟨_, rfl, fun i h h' => ba_get s i h h'⟩
 rw [hba] at hsz
 unfold strV at kb c1
 rw [hba] at kb c1
 have HN := Lib.hid hn
 clear hn hba
 refine callsIn_of_wp Tryz.func337 rfl trivial ?_ rfl
 simp only [Tryz.ntmps337, List.size_toArray, List.length_cons, List.length_nil, Nat.reduceAdd, Nat.reduceSub, Array.replicate_succ, Array.replicate_zero, List.push_toArray, List.append_toArray, List.nil_append, List.cons_append]
 gi_wp2
 clear c1 c2
 gi_loopw [6] (fun v wx => ∃ i : Nat, i <= n /\ v = .int .i64 i /\ J (s.take i) wx /\ Blk wx B 9 #[.string ba]) (fun v _ => n - (intOf v).toNat)
 case atStart => exact ⟨0, Nat.zero_le _, by go_num, by simpa using hj, kb⟩
 case round =>
  obtain ⟨i, hin, rfl, hjr, kx⟩ := hrel
  have c1 := kx.cell
  have c2 := kx.lt
  by_cases hlt : i < n
  ·have hlen : i < s.length := by rw [HN.out]; exact hlt
   have hg := hge i hlen
   obtain ⟨x, hx⟩ : ∃ x, s[i] = x := ⟨_, rfl⟩
   have hst := Lib.hid (show s.take (i + 1) = s.take i ++ [x] by rw [<- hx, List.take_append_getElem])
   rw [hx] at hg
   obtain ⟨fn, tmps, assign, body, hy, hR⟩ := hY (s.take i) x wr hjr (by rw [List.length_take]; omega)
   dsimp only [byV] at hy
   clear hx hlen hge
   gi_wp2
   refine hR.mono ?_
   rintro e W6 (⟨rfl, hJ6, hk6⟩ | ⟨rfl, hJx6⟩)
   ·have kx6 := hk6.blk kx hB.1 hB.2
    clear c1 c2
    gi_wp2
    go_roundw
    case rel => exact ⟨i + 1, by omega, by go_num, by rw [hst.out]; exact hJ6, kx6⟩
    case measure => simp [intOf]; omega
   ·gi_wp2
    refine bodyPost_ret (results_none rfl _ _ _) rfl ?_
    exact ⟨⟨_, rfl⟩, .inr ⟨_, trivial, hJx6⟩⟩
  ·obtain rfl : i = n := by omega
   gi_wp2
   go_end0
   exact ⟨⟨_, rfl⟩, .inl ⟨s, rfl, by rw [List.take_of_length_le (by rw [HN.out]; exact Nat.le_refl _)] at hjr; exact hjr⟩⟩
theorem bytes_stops (B n₁ : Nat) (S : Nat -> Prop) (s : Bts) (w : World) (hz : s.length <= 1000000) (kb : Blk w B 9 #[strV s]) (hB : B < n₁ /\ ¬ S B) :
 SeqStopsK Fence.wide 4 Tryz.prog 337 #[.pointer (some ⟨B, 0, none⟩)] byV (KpP n₁ S) (ByF s) (fun _ => True) 1000001 w :=
 fun l J Jx W hW _ _ hY hj => bytes_iter l B n₁ S s W hz (kb.ext hW) hB J Jx hY hj
set_option maxHeartbeats 400000 in
theorem bytes_any (s : Bts) (w : World) :
 Calls Tryz.prog 328 #[strV s] w fun e w' => e = .returned (.func (.func 337) #[] #[.pointer (some ⟨w.heap.size, 0, none⟩)]) /\ Ext w w' /\ w'.heap.size = w.heap.size + 1 /\ Blk w' w.heap.size 9 #[strV s] := by
 obtain ⟨v, hv⟩ : ∃ v, (⟨s.toArray⟩ : ByteArray) = v := ⟨_, rfl⟩
 unfold strV
 rw [hv]
 obtain ⟨W1, hW1, hB1, hk1, hl1⟩ := box1 w #[.string v] 9
 have s1 : W1.heap.size = w.heap.size + 1 := by rw [<- hW1]; simp
 have S1 := Lib.hid s1
 clear s1 hv
 go_enter Tryz.func328, Tryz.ntmps328
 go_wp2
 go_ret
 exact ⟨rfl, hB1, S1.out, hk1⟩
end
section
open Go.RowKit
attribute [local go_sem] Oper.semAt_some
def vlen : Value -> Nat
 | .slice _ n _ => n
 | _ => 0
def wdV (x : UInt64) : Array Value := #[.int .u64 (x.toNat : Int)]
def wdK (s : Bts) (i : Nat) : List UInt64 := (List.range i).map fun j => wrd (s.drop (8 * j))
theorem wdK_succ (s : Bts) (i : Nat) : wdK s (i + 1) = wdK s i ++ [wrd (s.drop (8 * i))] := by simp [wdK, List.range_succ]
theorem wdK_len (s : Bts) (i : Nat) : (wdK s i).length = i := by simp [wdK]
theorem wordsL_wdK (s : Bts) : wordsL s = wdK s (s.length / 8) ++ [wrd (lastB s)] := rfl
def WdF (s : Bts) (ys : List UInt64) : Prop := ys = wordsL s
def padB (r : Bts) : Bts := r ++ List.replicate (8 - r.length) 0
theorem padB_len {r : Bts} (h : r.length < 8) : (padB r).length = 8 := by simp [padB]; omega
theorem lastB_pad (s : Bts) : lastB s = (padB (s.drop (s.length / 8 * 8))).set 7 (UInt8.ofNat s.length) := rfl
theorem rd_all {w : World} {A : Option Addr} {l : Bts} (h : Rd EB w A l) {ad : Addr} (e : A = some ad) (hn : 0 < l.length) : ∀ j v, (l.map byC)[j]? = some v -> w.cell? (ad.add j) = some v := by
 obtain ⟨ad', e', _, hc⟩ := h.2 hn
 rw [e] at e'
 injection e' with e'
 subst e'
 rw [eb_all] at hc
 exact hc
theorem zeros_pad {r : Bts} (h : r.length < 8) : (r.map byC ++ (List.replicate 8 (Value.int .u8 0)).drop r.length) = (padB r).map byC := by
 unfold padB
 rw [List.map_append, List.drop_replicate, List.map_replicate]
 rfl
theorem copy_last (A : Option Addr) (c : Nat) (r : Bts) (w : World) (g : Nat) (hR : Rd EB w A r) (hr : r.length < 8) (hg : Blk w g 433 #[.int .u8 0, .int .u8 0, .int .u8 0, .int .u8 0, .int .u8 0, .int .u8 0, .int .u8 0, .int .u8 0]) :
 ∃ m w', (∀ ty, (Builtin.copy_ #[22, 22] ty #[.slice (some ⟨g, 0, none⟩) 8 8, .slice A r.length c]).run Tryz.prog w = .ok m w') /\ Blk w' g 433 ((padB r).map byC).toArray /\ w.grownBy w' (some g) := by
 have hs : (Tryz.prog.info? 5).map (·.size) = some 1 := by kernel_rfl
 rcases Nat.eq_zero_or_pos r.length with h0 | h0
 ·obtain rfl : r = [] := List.eq_nil_of_length_eq_zero h0
  exact ⟨_, _, fun ty => run_copy_none w _ _ ty _ _ A 8 8 0 c Tryz.underlying22 hs rfl, hg, World.grownBy.refl _ _⟩
 ·obtain ⟨ad, e, _, _⟩ := hR.2 h0
  subst e
  have h1 := fun ty => run_copy_row (P := Tryz.prog) w 22 22 ty 5 g 0 8 8 ad r.length c _ 433 (r.map byC) Tryz.underlying22 hs hg (by rw [List.length_map]; exact (Nat.min_eq_left (by omega)).symm) (rd_all hR rfl h0) (by rw [List.length_map]; simp; omega) (by
   intro v hv
   obtain ⟨b, _, rfl⟩ := List.mem_map.1 hv
   rfl)
  refine ⟨_, _, h1, ?_, ?_⟩
  ·have h2 := setRow_heap w g _ ((([.int .u8 0, .int .u8 0, .int .u8 0, .int .u8 0, .int .u8 0, .int .u8 0, .int .u8 0, .int .u8 0] : List Value).take 0 ++ r.map byC ++ ([.int .u8 0, .int .u8 0, .int .u8 0, .int .u8 0, .int .u8 0, .int .u8 0, .int .u8 0, .int .u8 0] : List Value).drop (0 + (r.map byC).length)).toArray) 433 (0, 0) hg
   have h3 := zeros_pad hr
   rw [List.length_map, List.take_zero, List.nil_append, Nat.zero_add] at h2
   rw [show ([.int .u8 0, .int .u8 0, .int .u8 0, .int .u8 0, .int .u8 0, .int .u8 0, .int .u8 0, .int .u8 0] : List Value) = List.replicate 8 (Value.int .u8 0) from rfl, h3] at h2
   have h4 : (List.take 0 (#[Value.int .u8 0, .int .u8 0, .int .u8 0, .int .u8 0, .int .u8 0, .int .u8 0, .int .u8 0, .int .u8 0] : Array Value).toList ++ List.map byC r ++ List.drop (0 + (List.map byC r).length) (#[Value.int .u8 0, .int .u8 0, .int .u8 0, .int .u8 0, .int .u8 0, .int .u8 0, .int .u8 0, .int .u8 0] : Array Value).toList) = (padB r).map byC := by
    rw [List.length_map, List.take_zero, List.nil_append, Nat.zero_add, <- h3]
    rfl
   rw [h4]
   exact h2
  ·exact ⟨rfl, rfl, rfl, by simp, fun k _ hk => setRow_other w g k _ (fun e => hk (by rw [e]))⟩
set_option maxRecDepth 100000 in
set_option maxHeartbeats 8000000 in
theorem words_iter (l B : Nat) (S : Nat -> Prop) (s : Bts) (W : World) (hz : s.length <= 65536) (kb : Blk W B 9 #[strV s]) (hB : ¬ S B) (hS : ∀ k, S k -> k < W.heap.size)
 (J Jx : List UInt64 -> World -> Prop) (hJ : AbidesFrom W.heap.size J)
 (hY : ∀ pre x W, J pre W -> pre.length < 10000 -> YieldAt Fence.wide 3 Tryz.prog l (wdV x) W fun e W' =>
  (e = .returned (.bool true) /\ J (pre ++ [x]) W' /\ KpQ S W W') ∨ (e = .returned (.bool false) /\ Jx (pre ++ [x]) W'))
 (hj : J [] W) :
 CallsIn Fence.wide 4 Tryz.prog 316 #[.func (.yield l) #[] #[], .pointer (some ⟨B, 0, none⟩)] W fun e W' => (∃ v, e = .returned v) /\
  ((∃ ys : List UInt64, WdF s ys /\ J ys W') ∨ (∃ pre : List UInt64, True /\ Jx pre W')) := by
 have c1 := kb.cell
 have c2 := kb.lt
 have hsz := ba_size s
 obtain ⟨cap, w1, q0, ho1, hx1, hs1⟩ := conv_bytes (P := Tryz.prog) W 9 22 5 s Tryz.underlying9 Tryz.underlying22 Tryz.underlying5 (by omega)
 have hcap : s.length <= cap := by
  rcases ho1 with ⟨h, _⟩ | ⟨g, cp, cur, fz, h, _, _, _, h5, _⟩
  ·cases h
  ·injection h with h1 h2 h3
   rw [h3]; exact h5
 obtain ⟨A1, cc1, hA1, hR1⟩ := ho1.form
 injection hA1 with hA1 _ hA2
 subst hA1 hA2
 obtain ⟨n0, hn0⟩ : ∃ n, s.length = n := ⟨_, rfl⟩
 rw [hn0] at hsz hz hcap q0
 have HN := Lib.hid hn0
 obtain ⟨ba, hba⟩ : ∃ ba : ByteArray, ⟨s.toArray⟩ = ba := ⟨_, rfl⟩
 unfold strV at kb c1 q0
 rw [hba] at hsz kb c1 q0
 clear hn0 hba ho1
 refine callsIn_of_wp Tryz.func316 rfl trivial ?_ rfl
 simp only [Tryz.ntmps316, List.size_toArray, List.length_cons, List.length_nil, Nat.reduceAdd, Nat.reduceSub, Array.replicate_succ, Array.replicate_zero, List.push_toArray, List.append_toArray, List.nil_append, List.cons_append]
 gi_wp2
 clear c1 c2 q0
 gi_loopw [3] (fun v wx => ∃ (i n : Nat) (A : Option Addr) (c : Nat), v = .slice A n c /\ n + 8 * i = n0 /\ n <= c /\ Rd EB wx A (s.drop (8 * i)) /\ Hid (∀ ad, A = some ad -> ¬ S ad.block) /\ J (wdK s i) wx /\ KpQ S W wx) (fun v _ => vlen v)
 case atStart => exact ⟨0, n0, _, cap, rfl, by omega, hcap, by simpa using hR1, Lib.hid (fun ad e hs => by injection e with e; subst e; have := hS _ hs; simp at this), by simpa [wdK] using abides_ext hJ hj hx1, KpQ.of_ext hx1⟩
 case round =>
  obtain ⟨i, n, A, c, rfl, hni, hnc, hR, hA, hjr, hk⟩ := hrel
  have kx := hk.blk kb hB
  have a1 := kx.cell
  have a2 := kx.lt
  have hdl : (s.drop (8 * i)).length = n := by rw [List.length_drop, HN.out]; omega
  have HD := Lib.hid hdl
  have Hni := Lib.hid hni
  by_cases h8 : 8 <= n
  ·have hw := word_any A c (s.drop (8 * i)) wr hR (by omega)
   rw [hdl] at hw
   have hsu := wdK_succ s i
   obtain ⟨x, hx⟩ : ∃ x, wrd (s.drop (8 * i)) = x := ⟨_, rfl⟩
   rw [hx] at hw hsu
   have Hsu := Lib.hid hsu
   obtain ⟨i0, hi0, hz0, hz1, hz2⟩ := info_parts info_byte
   have q1 : ∀ w, (Instr.slice 22 (.slice A n c) (some (.int .i64 8)) none none).run Tryz.prog w = .ok (.slice (cutA A c 8 1) (n - 8) (c - 8)) w := fun w => run_cut (k := 8) Tryz.underlying22 hi0 hz1 h8 w
   obtain ⟨fn, tmps, assign, body, hy, hR9⟩ := hY (wdK s i) x wr hjr (by rw [wdK_len]; omega)
   dsimp only [wdV] at hy
   have hRc := hR.cut (c := c) (k := 8) (by omega) (by omega)
   rw [List.drop_drop] at hRc
   clear hsu hx hni hdl
   gi_wp2_with (refine ⟨trivial, ?_⟩; gi_at_call 269; refine (callsIn_wide.2 hw).mono ?_; rintro e w4 ⟨rfl, rfl⟩)
   refine hR9.mono ?_
   rintro e W6 (⟨rfl, hJ6, hk6⟩ | ⟨rfl, hJx6⟩)
   ·clear hw hy a1 a2
    gi_wp2
    go_roundw
    case rel =>
     refine ⟨i + 1, n - 8, _, c - 8, rfl, by have := Hni.out; omega, by omega, ?_, Lib.hid ?_, by rw [Hsu.out]; exact hJ6, hk.trans hk6⟩
     ·have hA' : ∀ ad, cutA A c 8 1 = some ad -> ¬ S ad.block := fun ad e => by
       unfold cutA at e
       split at e
       ·exact hA.out ad e
       ·cases A with
        | none => cases e
        | some a =>
          injection e with e
          subst e
          rw [block_of_add]
          exact hA.out a rfl
      have := hk6.rd hRc hA'
      rw [show 8 * (i + 1) = 8 * i + 8 by omega]
      exact this
     ·intro ad e
      unfold cutA at e
      split at e
      ·exact hA.out ad e
      ·cases A with
       | none => cases e
       | some a =>
         injection e with e
         subst e
         rw [block_of_add]
         exact hA.out a rfl
    case measure => simp [vlen]; omega
   ·gi_wp2
    refine bodyPost_ret (results_none rfl _ _ _) rfl ?_
    exact ⟨⟨_, rfl⟩, .inr ⟨_, trivial, hJx6⟩⟩
  ·have hiq : i = n0 / 8 := by omega
   obtain ⟨W2, hW2, hB2, hk2, hl2⟩ := box1 wr #[.int .u8 0, .int .u8 0, .int .u8 0, .int .u8 0, .int .u8 0, .int .u8 0, .int .u8 0, .int .u8 0] 433
   obtain ⟨m3, W3, q3, hk3, hg3⟩ := copy_last A c (s.drop (8 * i)) W2 wr.heap.size (hR.ext hB2) (by omega) hk2
   rw [hdl] at q3
   have hpl := padB_len (r := s.drop (8 * i)) (by omega)
   have hlast : lastB s = (padB (s.drop (8 * i))).set 7 (UInt8.ofNat n0) := by rw [lastB_pad, HN.out, hiq, Nat.mul_comm]
   have HL := Lib.hid hlast
   have hws : wordsL s = wdK s i ++ [wrd (lastB s)] := by rw [wordsL_wdK, HN.out, hiq]
   have HW := Lib.hid hws
   have hE3 : Ext wr W3 := hB2.keptb hg3 (by rintro r ⟨rfl⟩; exact Nat.le_refl _)
   have kx3 := kx.ext hE3
   have b1 := kx3.cell
   have b2 := kx3.lt
   have b3 := hk3.lt
   obtain ⟨P, hP⟩ : ∃ P : Bts, padB (s.drop (8 * i)) = P := ⟨_, rfl⟩
   rw [hP] at hk3 hpl HL
   obtain ⟨y, hy⟩ : ∃ y, UInt8.ofNat n0 = y := ⟨_, rfl⟩
   rw [hy] at HL
   have y1 : IntKind.u8.wrap (n0 : Int) = (y.toNat : Int) := by rw [IntKind.wrap_u8', <- hy, UInt8.toNat_ofNat']; rfl
   have y2 : (n0 : Int) % 256 = (y.toNat : Int) := by rw [<- hy, UInt8.toNat_ofNat']; rfl
   have p7 : 7 < P.length := by omega
   have b4 : W3.cell? ⟨wr.heap.size, 7, none⟩ = some (byC P[7]) := by rw [hk3.cell]; simp [p7]
   have b5 := hk3.frozen
   have hk4 := hk3.set_ 7 (.int .u8 (y.toNat : Int))
   have e4 : (P.map byC).toArray.setIfInBounds 7 (.int .u8 (y.toNat : Int)) = (EB.all (lastB s)).toArray := by
    rw [eb_all, HL.out, List.map_set]
    apply Array.toList_inj.1
    rw [Array.toList_setIfInBounds]
    rfl
   rw [e4] at hk4
   have hE4 := hE3.setCell (p := ⟨wr.heap.size, 7, none⟩) (Nat.le_refl _) (.int .u8 (y.toNat : Int))
   obtain ⟨W4, hW4⟩ : ∃ W4, W3.setCell ⟨wr.heap.size, 7, none⟩ (.int .u8 (y.toNat : Int)) = W4 := ⟨_, rfl⟩
   rw [hW4] at hk4 hE4
   have hl8 : (lastB s).length = 8 := by rw [HL.out, List.length_set, hpl]
   have hw := word_any (some ⟨wr.heap.size, 0, none⟩) 8 (lastB s) W4 (rd_blk hk4) (by omega)
   rw [hl8] at hw
   obtain ⟨x, hx⟩ : ∃ x, wrd (lastB s) = x := ⟨_, rfl⟩
   rw [hx] at hw HW
   obtain ⟨fn, tmps, assign, body, hy9, hR9⟩ := hY (wdK s i) x W4 (abides_ext hJ hjr hE4) (by rw [wdK_len]; omega)
   dsimp only [wdV] at hy9
   have HY := Lib.hid hy
   clear hx hy hiq hlast hws hE3 hk2 hg3 hpl e4 hl8 hP a1 a2 hni hdl
   gi_wp2_with (refine ⟨trivial, ?_⟩; gi_at_call 269; refine (callsIn_wide.2 hw).mono ?_; rintro e w9 ⟨rfl, rfl⟩)
   refine hR9.mono ?_
   rintro e W6 (⟨rfl, hJ6, hk6⟩ | ⟨rfl, hJx6⟩)
   ·gi_wp2
    go_end0
    exact ⟨⟨_, rfl⟩, .inl ⟨_, HW.out.symm, hJ6⟩⟩
   ·gi_wp2
    go_end0
    exact ⟨⟨_, rfl⟩, .inr ⟨_, trivial, hJx6⟩⟩
theorem words_stops (B : Nat) (S : Nat -> Prop) (s : Bts) (w : World) (hz : s.length <= 65536) (kb : Blk w B 9 #[strV s]) (hB : ¬ S B) (hS : ∀ k, S k -> k < w.heap.size) :
 SeqStopsK Fence.wide 4 Tryz.prog 316 #[.pointer (some ⟨B, 0, none⟩)] wdV (KpQ S) (WdF s) (fun _ => True) 10000 w :=
 fun l J Jx W hW hJ _ hY hj => words_iter l B S s W hz (kb.ext hW) hB (fun k hk => Nat.lt_of_lt_of_le (hS k hk) (Ext.size hW)) J Jx hJ hY hj
set_option maxHeartbeats 400000 in
theorem words_any (s : Bts) (w : World) :
 Calls Tryz.prog 270 #[strV s] w fun e w' => e = .returned (.func (.func 316) #[] #[.pointer (some ⟨w.heap.size, 0, none⟩)]) /\ Ext w w' /\ w'.heap.size = w.heap.size + 1 /\ Blk w' w.heap.size 9 #[strV s] := by
 obtain ⟨v, hv⟩ : ∃ v, (⟨s.toArray⟩ : ByteArray) = v := ⟨_, rfl⟩
 unfold strV
 rw [hv]
 obtain ⟨W1, hW1, hB1, hk1, hl1⟩ := box1 w #[.string v] 9
 have s1 : W1.heap.size = w.heap.size + 1 := by rw [<- hW1]; simp
 have S1 := Lib.hid s1
 clear s1 hv
 go_enter Tryz.func270, Tryz.ntmps270
 go_wp2
 go_ret
 exact ⟨rfl, hB1, S1.out, hk1⟩
end
end Go.Proofs.YtemkpimngbbpkaaGreat

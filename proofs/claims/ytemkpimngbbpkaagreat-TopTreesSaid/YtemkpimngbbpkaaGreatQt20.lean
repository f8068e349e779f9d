/- Security: the words of a string, one by one. · Security: the tag of a string under a key. · Layer 24 (journey): the walks of valid, CheckRequest, Foremost. -/
import Derived.Laws.CopyRow
import Derived.RangeFuncLeaves
import Derived.Test.YtemkpimngbbpkaaGreatQt03
import Derived.Test.YtemkpimngbbpkaaGreatQt04
import Derived.Test.YtemkpimngbbpkaaGreatQt13
import Derived.Test.YtemkpimngbbpkaaGreatQt14
import Derived.Test.YtemkpimngbbpkaaGreatQt18
import Derived.Test.YtemkpimngbbpkaaGreatQt19
namespace Go.Proofs.YtemkpimngbbpkaaGreat
set_option linter.unusedVariables false
set_option linter.unusedSimpArgs false
section
open Go.RowKit
attribute [local go_sem] Oper.semAt_some
def vlen : Value -> Nat
 | .slice _ n _ => n
 | _ => 0
def wdV (x : UInt64) : Array Value := #[.int .u64 (x.toNat : Int)]
def wdK (s : Bts) (i : Nat) : List UInt64 := (List.range i).map fun j => wrd (s.drop (8 * j))
theorem wdK_succ (s : Bts) (i : Nat) : wdK s (i + 1) = wdK s i ++ [wrd (s.drop (8 * i))] := by simp [wdK, List.range_succ]
theorem wdK_len (s : Bts) (i : Nat) : (wdK s i).length = i := by simp [wdK]
theorem wordsL_wdK (s : Bts) : wordsL s = wdK s (s.length / 8) ++ [wrd (lastB s)] := rfl
def WdF (s : Bts) (ys : List UInt64) : Prop := ys = wordsL s
def padB (r : Bts) : Bts := r ++ List.replicate (8 - r.length) 0
theorem padB_len {r : Bts} (h : r.length < 8) : (padB r).length = 8 := by simp [padB]; omega
theorem lastB_pad (s : Bts) : lastB s = (padB (s.drop (s.length / 8 * 8))).set 7 (UInt8.ofNat s.length) := rfl
theorem rd_all {w : World} {A : Option Addr} {l : Bts} (h : Rd EB w A l) {ad : Addr} (e : A = some ad) (hn : 0 < l.length) : ∀ j v, (l.map byC)[j]? = some v -> w.cell? (ad.add j) = some v := by
 obtain ⟨ad', e', _, hc⟩ := h.2 hn
 rw [e] at e'
 injection e' with e'
 subst e'
 rw [eb_all] at hc
 exact hc
theorem zeros_pad {r : Bts} (h : r.length < 8) : (r.map byC ++ (List.replicate 8 (Value.int .u8 0)).drop r.length) = (padB r).map byC := by
 unfold padB
 rw [List.map_append, List.drop_replicate, List.map_replicate]
 rfl
theorem copy_last (A : Option Addr) (c : Nat) (r : Bts) (w : World) (g : Nat) (hR : Rd EB w A r) (hr : r.length < 8) (hg : Blk w g 433 #[.int .u8 0, .int .u8 0, .int .u8 0, .int .u8 0, .int .u8 0, .int .u8 0, .int .u8 0, .int .u8 0]) :
 ∃ m w', (∀ ty, (Builtin.copy_ #[22, 22] ty #[.slice (some ⟨g, 0, none⟩) 8 8, .slice A r.length c]).run Tryz.prog w = .ok m w') /\ Blk w' g 433 ((padB r).map byC).toArray /\ w.grownBy w' (some g) := by
 have hs : (Tryz.prog.info? 5).map (·.size) = some 1 := by kernel_rfl
 rcases Nat.eq_zero_or_pos r.length with h0 | h0
 ·obtain rfl : r = [] := List.eq_nil_of_length_eq_zero h0
  exact ⟨_, _, fun ty => run_copy_none w _ _ ty _ _ A 8 8 0 c Tryz.underlying22 hs rfl, hg, World.grownBy.refl _ _⟩
 ·obtain ⟨ad, e, _, _⟩ := hR.2 h0
  subst e
  have h1 := fun ty => run_copy_row (P := Tryz.prog) w 22 22 ty 5 g 0 8 8 ad r.length c _ 433 (r.map byC) Tryz.underlying22 hs hg (by rw [List.length_map]; exact (Nat.min_eq_left (by omega)).symm) (rd_all hR rfl h0) (by rw [List.length_map]; simp; omega) (by
   intro v hv
   obtain ⟨b, _, rfl⟩ := List.mem_map.1 hv
   rfl)
  refine ⟨_, _, h1, ?_, ?_⟩
  ·have h2 := setRow_heap w g _ ((([.int .u8 0, .int .u8 0, .int .u8 0, .int .u8 0, .int .u8 0, .int .u8 0, .int .u8 0, .int .u8 0] : List Value).take 0 ++ r.map byC ++ ([.int .u8 0, .int .u8 0, .int .u8 0, .int .u8 0, .int .u8 0, .int .u8 0, .int .u8 0, .int .u8 0] : List Value).drop (0 + (r.map byC).length)).toArray) 433 (0, 0) hg
   have h3 := zeros_pad hr
   rw [List.length_map, List.take_zero, List.nil_append, Nat.zero_add] at h2
   rw [show ([.int .u8 0, .int .u8 0, .int .u8 0, .int .u8 0, .int .u8 0, .int .u8 0, .int .u8 0, .int .u8 0] : List Value) = List.replicate 8 (Value.int .u8 0) from rfl, h3] at h2
   have h4 : (List.take 0 (#[Value.int .u8 0, .int .u8 0, .int .u8 0, .int .u8 0, .int .u8 0, .int .u8 0, .int .u8 0, .int .u8 0] : Array Value).toList ++ List.map byC r ++ List.drop (0 + (List.map byC r).length) (#[Value.int .u8 0, .int .u8 0, .int .u8 0, .int .u8 0, .int .u8 0, .int .u8 0, .int .u8 0, .int .u8 0] : Array Value).toList) = (padB r).map byC := by
    rw [List.length_map, List.take_zero, List.nil_append, Nat.zero_add, <- h3]
    rfl
   rw [h4]
   exact h2
  ·exact ⟨rfl, rfl, rfl, by simp, fun k _ hk => setRow_other w g k _ (fun e => hk (by rw [e]))⟩
set_option maxRecDepth 100000 in
set_option maxHeartbeats 8000000 in
theorem words_iter (l B : Nat) (S : Nat -> Prop) (s : Bts) (W : World) (hz : s.length <= 65536) (kb : Blk W B 9 #[strV s]) (hB : ¬ S B) (hS : ∀ k, S k -> k < W.heap.size)
 (J Jx : List UInt64 -> World -> Prop) (hJ : AbidesFrom W.heap.size J)
 (hY : ∀ pre x W, J pre W -> pre.length < 10000 -> YieldAt Fence.wide 3 Tryz.prog l (wdV x) W fun e W' =>
  (e = .returned (.bool true) /\ J (pre ++ [x]) W' /\ KpQ S W W') ∨ (e = .returned (.bool false) /\ Jx (pre ++ [x]) W'))
 (hj : J [] W) :
 CallsIn Fence.wide 4 Tryz.prog 316 #[.func (.yield l) #[] #[], .pointer (some ⟨B, 0, none⟩)] W fun e W' => (∃ v, e = .returned v) /\
  ((∃ ys : List UInt64, WdF s ys /\ J ys W') ∨ (∃ pre : List UInt64, True /\ Jx pre W')) := by
 have c1 := kb.cell
 have c2 := kb.lt
 have hsz := ba_size s
 obtain ⟨cap, w1, q0, ho1, hx1, hs1⟩ := conv_bytes (P := Tryz.prog) W 9 22 5 s Tryz.underlying9 Tryz.underlying22 Tryz.underlying5 (by omega)
 have hcap : s.length <= cap := by
  rcases ho1 with ⟨h, _⟩ | ⟨g, cp, cur, fz, h, _, _, _, h5, _⟩
  ·cases h
  ·injection h with h1 h2 h3
   rw [h3]; exact h5
 obtain ⟨A1, cc1, hA1, hR1⟩ := ho1.form
 injection hA1 with hA1 _ hA2
 subst hA1 hA2
 obtain ⟨n0, hn0⟩ : ∃ n, s.length = n := ⟨_, rfl⟩
 rw [hn0] at hsz hz hcap q0
 have HN := Lib.hid hn0
 obtain ⟨ba, hba⟩ : ∃ ba : ByteArray, ⟨s.toArray⟩ = ba := ⟨_, rfl⟩
 unfold strV at kb c1 q0
 rw [hba] at hsz kb c1 q0
 clear hn0 hba ho1
 refine callsIn_of_wp Tryz.func316 rfl trivial ?_ rfl
 simp only [Tryz.ntmps316, List.size_toArray, List.length_cons, List.length_nil, Nat.reduceAdd, Nat.reduceSub, Array.replicate_succ, Array.replicate_zero, List.push_toArray, List.append_toArray, List.nil_append, List.cons_append]
 gi_wp2
 clear c1 c2 q0
 gi_loopw [3] (fun v wx => ∃ (i n : Nat) (A : Option Addr) (c : Nat), v = .slice A n c /\ n + 8 * i = n0 /\ n <= c /\ Rd EB wx A (s.drop (8 * i)) /\ Hid (∀ ad, A = some ad -> ¬ S ad.block) /\ J (wdK s i) wx /\ KpQ S W wx) (fun v _ => vlen v)
 case atStart => exact ⟨0, n0, _, cap, rfl, by omega, hcap, by simpa using hR1, Lib.hid (fun ad e hs => by injection e with e; subst e; have := hS _ hs; simp at this), by simpa [wdK] using abides_ext hJ hj hx1, KpQ.of_ext hx1⟩
 case round =>
  obtain ⟨i, n, A, c, rfl, hni, hnc, hR, hA, hjr, hk⟩ := hrel
  have kx := hk.blk kb hB
  have a1 := kx.cell
  have a2 := kx.lt
  have hdl : (s.drop (8 * i)).length = n := by rw [List.length_drop, HN.out]; omega
  have HD := Lib.hid hdl
  have Hni := Lib.hid hni
  by_cases h8 : 8 <= n
  ·have hw := word_any A c (s.drop (8 * i)) wr hR (by omega)
   rw [hdl] at hw
   have hsu := wdK_succ s i
   obtain ⟨x, hx⟩ : ∃ x, wrd (s.drop (8 * i)) = x := ⟨_, rfl⟩
   rw [hx] at hw hsu
   have Hsu := Lib.hid hsu
   obtain ⟨i0, hi0, hz0, hz1, hz2⟩ := info_parts info_byte
   have q1 : ∀ w, (Instr.slice 22 (.slice A n c) (some (.int .i64 8)) none none).run Tryz.prog w = .ok (.slice (cutA A c 8 1) (n - 8) (c - 8)) w := fun w => run_cut (k := 8) Tryz.underlying22 hi0 hz1 h8 w
   obtain ⟨fn, tmps, assign, body, hy, hR9⟩ := hY (wdK s i) x wr hjr (by rw [wdK_len]; omega)
   dsimp only [wdV] at hy
   have hRc := hR.cut (c := c) (k := 8) (by omega) (by omega)
   rw [List.drop_drop] at hRc
   clear hsu hx hni hdl
   gi_wp2_with (refine ⟨trivial, ?_⟩; gi_at_call 269; refine (callsIn_wide.2 hw).mono ?_; rintro e w4 ⟨rfl, rfl⟩)
   refine hR9.mono ?_
   rintro e W6 (⟨rfl, hJ6, hk6⟩ | ⟨rfl, hJx6⟩)
   ·clear hw hy a1 a2
    gi_wp2
    go_roundw
    case rel =>
     refine ⟨i + 1, n - 8, _, c - 8, rfl, by have := Hni.out; omega, by omega, ?_, Lib.hid ?_, by rw [Hsu.out]; exact hJ6, hk.trans hk6⟩
     ·have hA' : ∀ ad, cutA A c 8 1 = some ad -> ¬ S ad.block := fun ad e => by
       unfold cutA at e
       split at e
       ·exact hA.out ad e
       ·cases A with
        | none => cases e
        | some a =>
          injection e with e
          subst e
          rw [block_of_add]
          exact hA.out a rfl
      have := hk6.rd hRc hA'
      rw [show 8 * (i + 1) = 8 * i + 8 by omega]
      exact this
     ·intro ad e
      unfold cutA at e
      split at e
      ·exact hA.out ad e
      ·cases A with
       | none => cases e
       | some a =>
         injection e with e
         subst e
         rw [block_of_add]
         exact hA.out a rfl
    case measure => simp [vlen]; omega
   ·gi_wp2
    refine bodyPost_ret (results_none rfl _ _ _) rfl ?_
    exact ⟨⟨_, rfl⟩, .inr ⟨_, trivial, hJx6⟩⟩
  ·have hiq : i = n0 / 8 := by omega
   obtain ⟨W2, hW2, hB2, hk2, hl2⟩ := box1 wr #[.int .u8 0, .int .u8 0, .int .u8 0, .int .u8 0, .int .u8 0, .int .u8 0, .int .u8 0, .int .u8 0] 433
   obtain ⟨m3, W3, q3, hk3, hg3⟩ := copy_last A c (s.drop (8 * i)) W2 wr.heap.size (hR.ext hB2) (by omega) hk2
   rw [hdl] at q3
   have hpl := padB_len (r := s.drop (8 * i)) (by omega)
   have hlast : lastB s = (padB (s.drop (8 * i))).set 7 (UInt8.ofNat n0) := by rw [lastB_pad, HN.out, hiq, Nat.mul_comm]
   have HL := Lib.hid hlast
   have hws : wordsL s = wdK s i ++ [wrd (lastB s)] := by rw [wordsL_wdK, HN.out, hiq]
   have HW := Lib.hid hws
   have hE3 : Ext wr W3 := hB2.keptb hg3 (by rintro r ⟨rfl⟩; exact Nat.le_refl _)
   have kx3 := kx.ext hE3
   have b1 := kx3.cell
   have b2 := kx3.lt
   have b3 := hk3.lt
   obtain ⟨P, hP⟩ : ∃ P : Bts, padB (s.drop (8 * i)) = P := ⟨_, rfl⟩
   rw [hP] at hk3 hpl HL
   obtain ⟨y, hy⟩ : ∃ y, UInt8.ofNat n0 = y := ⟨_, rfl⟩
   rw [hy] at HL
   have y1 : IntKind.u8.wrap (n0 : Int) = (y.toNat : Int) := by rw [IntKind.wrap_u8', <- hy, UInt8.toNat_ofNat']; rfl
   have y2 : (n0 : Int) % 256 = (y.toNat : Int) := by rw [<- hy, UInt8.toNat_ofNat']; rfl
   have p7 : 7 < P.length := by omega
   have b4 : W3.cell? ⟨wr.heap.size, 7, none⟩ = some (byC P[7]) := by rw [hk3.cell]; simp [p7]
   have b5 := hk3.frozen
   have hk4 := hk3.set_ 7 (.int .u8 (y.toNat : Int))
   have e4 : (P.map byC).toArray.setIfInBounds 7 (.int .u8 (y.toNat : Int)) = (EB.all (lastB s)).toArray := by
    rw [eb_all, HL.out, List.map_set]
    apply Array.toList_inj.1
    rw [Array.toList_setIfInBounds]
    rfl
   rw [e4] at hk4
   have hE4 := hE3.setCell (p := ⟨wr.heap.size, 7, none⟩) (Nat.le_refl _) (.int .u8 (y.toNat : Int))
   obtain ⟨W4, hW4⟩ : ∃ W4, W3.setCell ⟨wr.heap.size, 7, none⟩ (.int .u8 (y.toNat : Int)) = W4 := ⟨_, rfl⟩
   rw [hW4] at hk4 hE4
   have hl8 : (lastB s).length = 8 := by rw [HL.out, List.length_set, hpl]
   have hw := word_any (some ⟨wr.heap.size, 0, none⟩) 8 (lastB s) W4 (rd_blk hk4) (by omega)
   rw [hl8] at hw
   obtain ⟨x, hx⟩ : ∃ x, wrd (lastB s) = x := ⟨_, rfl⟩
   rw [hx] at hw HW
   obtain ⟨fn, tmps, assign, body, hy9, hR9⟩ := hY (wdK s i) x W4 (abides_ext hJ hjr hE4) (by rw [wdK_len]; omega)
   dsimp only [wdV] at hy9
   have HY := Lib.hid hy
   clear hx hy hiq hlast hws hE3 hk2 hg3 hpl e4 hl8 hP a1 a2 hni hdl
   gi_wp2_with (refine ⟨trivial, ?_⟩; gi_at_call 269; refine (callsIn_wide.2 hw).mono ?_; rintro e w9 ⟨rfl, rfl⟩)
   refine hR9.mono ?_
   rintro e W6 (⟨rfl, hJ6, hk6⟩ | ⟨rfl, hJx6⟩)
   ·gi_wp2
    go_end0
    exact ⟨⟨_, rfl⟩, .inl ⟨_, HW.out.symm, hJ6⟩⟩
   ·gi_wp2
    go_end0
    exact ⟨⟨_, rfl⟩, .inr ⟨_, trivial, hJx6⟩⟩
theorem words_stops (B : Nat) (S : Nat -> Prop) (s : Bts) (w : World) (hz : s.length <= 65536) (kb : Blk w B 9 #[strV s]) (hB : ¬ S B) (hS : ∀ k, S k -> k < w.heap.size) :
 SeqStopsK Fence.wide 4 Tryz.prog 316 #[.pointer (some ⟨B, 0, none⟩)] wdV (KpQ S) (WdF s) (fun _ => True) 10000 w :=
 fun l J Jx W hW hJ _ hY hj => words_iter l B S s W hz (kb.ext hW) hB (fun k hk => Nat.lt_of_lt_of_le (hS k hk) (Ext.size hW)) J Jx hJ hY hj
set_option maxHeartbeats 400000 in
theorem words_any (s : Bts) (w : World) :
 Calls Tryz.prog 270 #[strV s] w fun e w' => e = .returned (.func (.func 316) #[] #[.pointer (some ⟨w.heap.size, 0, none⟩)]) /\ Ext w w' /\ w'.heap.size = w.heap.size + 1 /\ Blk w' w.heap.size 9 #[strV s] := by
 obtain ⟨v, hv⟩ : ∃ v, (⟨s.toArray⟩ : ByteArray) = v := ⟨_, rfl⟩
 unfold strV
 rw [hv]
 obtain ⟨W1, hW1, hB1, hk1, hl1⟩ := box1 w #[.string v] 9
 have s1 : W1.heap.size = w.heap.size + 1 := by rw [<- hW1]; simp
 have S1 := Lib.hid s1
 clear s1 hv
 go_enter Tryz.func270, Tryz.ntmps270
 go_wp2
 go_ret
 exact ⟨rfl, hB1, S1.out, hk1⟩
end
section
open Go.RowKit Go.Shelf
attribute [local go_sem] Oper.semAt_some
theorem OwnsB.rdB {w : World} {base : Nat} {e : TypeId} {A : Option Addr} {n c : Nat} {l : Bts} (h : OwnsB w base e (.slice A n c) l) : Rd EB w A l := by
 obtain ⟨A', c', e, hR⟩ := h.form
 injection e with e1 _ _
 subst e1
 exact hR
theorem slice_from {P : Program} (t : TypeId) (l : Bts) (k : Nat) (h : P.underlying t = some .string) (hk : k <= l.length) (w : World) :
 (Instr.slice t (strV l) (some (.int .i64 (k : Int))) none none).run P w = .ok (strV (l.drop k)) w := by
 have hs := bsize_mk l
 have h1 := run_slice_string_l w t (⟨l.toArray⟩ : ByteArray) h .i64 (k : Int) (by omega) (by rw [hs]; omega)
 unfold strV
 rw [h1, hs, Int.toNat_natCast, ByteArray.extract_mk]
 rw [List.take_of_length_le (by simp)]
theorem slice_mid {P : Program} (t : TypeId) (l : Bts) (i j : Nat) (h : P.underlying t = some .string) (hij : i <= j) (hj : j <= l.length) (w : World) :
 (Instr.slice t (strV l) (some (.int .i64 (i : Int))) (some (.int .i64 (j : Int))) none).run P w = .ok (strV ((l.drop i).take (j - i))) w := by
 have hs := bsize_mk l
 have h1 := run_slice_string w t (⟨l.toArray⟩ : ByteArray) .i64 .i64 (i : Int) (j : Int) h (by omega) (by omega) (by rw [hs]; omega)
 unfold strV
 rw [h1, Int.toNat_natCast, Int.toNat_natCast, ByteArray.extract_mk]
def QRl (v0 : Q4) (bo b1 : Nat) (W0 : World) (pre : List UInt64) (W : World) : Prop := Blk W bo 391 (pre.foldl Q4.word v0).cells /\ Ext W0 W /\ b1 <= W.heap.size
theorem qrl_own {v0 : Q4} {bo b1 B : Nat} {W0 : World} (hB : W0.heap.size <= B) : OwnFrom B (QRl v0 bo b1 W0) := by
 intro pre X Y row hs hg hr
 obtain ⟨h1, h3, h4⟩ := hs
 exact ⟨h1.keptc hg (fun r e => (hr r e).2), h3.keptb hg (fun r e => Nat.le_trans hB (hr r e).1), Nat.le_trans h4 hg.size⟩
theorem grown_trans {a b c : World} {row : Option Nat} (h : a.grownBy b row) (k : b.grownBy c row) : a.grownBy c row :=
 ⟨k.os.trans h.os, k.tape.trans h.tape, k.output.trans h.output, Nat.le_trans h.size k.size, fun i hi hne => (k.block i (Nat.lt_of_lt_of_le hi h.size) hne).trans (h.block i hi hne)⟩
theorem qrl_put {v0 : Q4} {bo b1 : Nat} {W0 W W' : World} {pre : List UInt64} {x : UInt64} (h : QRl v0 bo b1 W0 pre W) (hbo : W0.heap.size <= bo) (hk : Blk W' bo 391 ((pre ++ [x]).foldl Q4.word v0).cells) (hg : W.grownBy W' (some bo)) :
 KeepsFrom b1 W W' /\ KpQ (fun b => b = bo) W W' /\ QRl v0 bo b1 W0 (pre ++ [x]) W' := by
 obtain ⟨h1, h3, h4⟩ := h
 refine ⟨(KeepsOthers.of_grownBy hg (fun j o e ho => ?_)).from _, KpQ.grown hg (fun r e => by injection e with e; exact e.symm), hk, h3.keptb hg (fun r e => by injection e with e; omega), Nat.le_trans h4 hg.size⟩
 injection e with e
 subst e
 have h2 : W.heap[bo]? = some (.cells _ _ (0, 0)) := h1
 rw [h2] at ho
 injection ho with ho
 subst ho
 rfl
def rndK (v : Q4) : Nat -> Q4
 | 0 => v
 | k + 1 => (rndK v k).rnd
def KyX (a b : UInt64) (w : World) (x y : Value) (w' : World) : Prop := x = .int .u64 a.toNat /\ y = .int .u64 b.toNat /\ Ext w w'
set_option maxRecDepth 100000 in
set_option maxHeartbeats 32000000 in
theorem tag_any (key s : Bts) (w : World) (hk : key.length = 16) (hs : s.length <= 65536) :
 Calls Tryz.prog 207 #[strV key, strV s] w fun e w' => e = .returned (strV (tagB key s)) /\ Ext w w' := by
 obtain ⟨kd, hkd⟩ : ∃ kd, key.drop 8 = kd := ⟨_, rfl⟩
 have hd8 : kd.length = 8 := by rw [<- hkd, List.length_drop, hk]
 have Hk := Lib.hid (show key.length = 16 from hk)
 have Hd := Lib.hid hd8
 have HT := Lib.hid (show tagB key s = wby ((wordsL s).foldl Q4.word (q0 key)).fin from rfl)
 have hq0 : q0 key = ⟨wrd key ^^^ 0x736f6d6570736575, wrd kd ^^^ 0x646f72616e646f6d, wrd key ^^^ 0x6c7967656e657261, wrd kd ^^^ 0x7465646279746573⟩ := by rw [<- hkd]; rfl
 have q8 : ∀ w, (Instr.slice 9 (strV key) (some (.int .i64 8)) none none).run Tryz.prog w = .ok (strV kd) w := fun w => by
  rw [<- hkd]
  exact slice_from 9 key 8 Tryz.underlying9 (by omega) w
 obtain ⟨ka, hka⟩ : ∃ ka : ByteArray, ⟨key.toArray⟩ = ka := ⟨_, rfl⟩
 obtain ⟨kb, hkb⟩ : ∃ kb : ByteArray, ⟨kd.toArray⟩ = kb := ⟨_, rfl⟩
 have ksz : ka.size = 16 := by rw [<- hka, bsize_mk, hk]
 have kex : ka.extract 8 16 = kb := by
  rw [<- hka, <- hkb, <- hkd, ByteArray.extract_mk]
  rw [List.take_of_length_le (by rw [List.length_drop, hk]; omega)]
 unfold strV at q8
 rw [hka, hkb] at q8
 have f2 := fun w => words_any s w
 have hs3 := fun B S w kb hB hS => words_stops B S s w hs kb hB hS
 obtain ⟨sv, hsv⟩ : ∃ sv, strV s = sv := ⟨_, rfl⟩
 rw [hsv] at f2 hs3 ⊢
 rw [show strV key = .string ka by unfold strV; rw [hka]]
 obtain ⟨ra, hra⟩ : ∃ ra, wrd key = ra := ⟨_, rfl⟩
 obtain ⟨rb, hrb⟩ : ∃ rb, wrd kd = rb := ⟨_, rfl⟩
 rw [hra, hrb] at hq0
 have HKA := Lib.hid hra
 have HKB := Lib.hid hrb
 obtain ⟨a0, ha0⟩ : ∃ x, ra ^^^ 0x736f6d6570736575 = x := ⟨_, rfl⟩
 obtain ⟨b0, hb0⟩ : ∃ x, rb ^^^ 0x646f72616e646f6d = x := ⟨_, rfl⟩
 obtain ⟨c0, hc0⟩ : ∃ x, ra ^^^ 0x6c7967656e657261 = x := ⟨_, rfl⟩
 obtain ⟨d0, hd0⟩ : ∃ x, rb ^^^ 0x7465646279746573 = x := ⟨_, rfl⟩
 have x1 : bits .xor .u64 (ra.toNat : Int) 8317987319222330741 = (a0.toNat : Int) := by rw [<- ha0]; exact u64_xor ra 0x736f6d6570736575
 have x2 : bits .xor .u64 (rb.toNat : Int) 7237128888997146477 = (b0.toNat : Int) := by rw [<- hb0]; exact u64_xor rb 0x646f72616e646f6d
 have x3 : bits .xor .u64 (ra.toNat : Int) 7816392313619706465 = (c0.toNat : Int) := by rw [<- hc0]; exact u64_xor ra 0x6c7967656e657261
 have x4 : bits .xor .u64 (rb.toNat : Int) 8387220255154660723 = (d0.toNat : Int) := by rw [<- hd0]; exact u64_xor rb 0x7465646279746573
 rw [ha0, hb0, hc0, hd0] at hq0
 rw [hq0] at HT
 clear hsv hkd hk hd8 ha0 hb0 hc0 hd0 hq0 hra hrb hs
 refine (callsIn_wide (n := 5)).1 ?_
 refine callsIn_of_wp_marks Tryz.func207 rfl trivial ?_ rfl
 refine wpIn_wide.2 ?_
 refine Code.wp_mono NoPanic.imp ?_
 simp only [Tryz.ntmps207, List.size_toArray, List.length_cons, List.length_nil, Nat.reduceAdd, Nat.reduceSub, Array.replicate_succ, Array.replicate_zero, List.push_toArray, List.append_toArray, List.nil_append, List.cons_append]
 go_wp2_with fail
 go_cut [5, 6] from 9 to 16 (fun x y wx => KyX ra rb w x y wx)
 case first =>
  refine wp_region_P (fun _ => false) (fun w' => Ext w w') (by kernel_rfl) (Ext.refl w).drew (fun _ => ?_)
  refine pT 0 (v := ?_) rfl (fun _ _ _ h => h) (by rfl) ?_ ?_
  rotate_left
  ·intro w'; go_simp; first | done | with_reducible rfl
  try simp only [Act.put, sp1]
  refine pT 3 (v := ?_) rfl (fun _ _ _ h => h) (by rfl) ?_ ?_
  rotate_left
  ·intro w'; go_simp; first | done | with_reducible rfl
  try simp only [Act.put, sp1]
  refine pT 4 (v := ?_) rfl (fun _ _ _ h => h) (by rfl) ?_ ?_
  rotate_left
  ·intro w'; go_simp; first | done | with_reducible rfl
  try simp only [Act.put, sp1]
  refine wpAnyP_ready (rs := [1, 5]) (by kernel_rfl) (by simp) ?_
  refine AllReadyP.cons rfl (fun K hK => ?_) (AllReadyP.cons rfl (fun K hK => ?_) AllReadyP.nil)
  ·obtain ⟨c1, w1, q1, ho1, hx1, -⟩ := conv_bytes (P := Tryz.prog) w.drew 9 22 5 key Tryz.underlying9 Tryz.underlying22 Tryz.underlying5 (by have := Hk.out; have := Hd.out; omega)
   unfold strV at q1
   rw [hka] at q1
   have hr1 := ho1.rdB
   go_simp
   refine hK.out _ _ (fun _ _ => ((Ext.refl w).drew).trans hx1) ?_
   clear hK K
   refine wpAnyP_ready (rs := [2, 5]) (by kernel_rfl) (by simp) ?_
   refine AllReadyP.cons rfl (fun K hK => ?_) (AllReadyP.cons rfl (fun K hK => ?_) AllReadyP.nil)
   ·go_simp
    refine (word_any _ _ key w1 hr1 (by have := Hk.out; have := Hd.out; omega)).mono ?_
    rintro e w9 ⟨rfl, rfl⟩
    refine hK.out _ _ (fun _ h => h) ?_
    clear hK K
    refine pO 5 rfl (fun K hK => ?_)
    obtain ⟨c3, w3, q3, ho3, hx3, -⟩ := conv_bytes (P := Tryz.prog) w1 9 22 5 kd Tryz.underlying9 Tryz.underlying22 Tryz.underlying5 (by have := Hk.out; have := Hd.out; omega)
    unfold strV at q3
    rw [hkb] at q3
    have hr3 := ho3.rdB
    go_simp
    refine hK.out _ _ (fun _ _ => ((((Ext.refl w).drew).trans hx1)).trans hx3) ?_
    clear hK K
    have hs3 := Rd.ext hr1 hx3
    refine pO 6 rfl (fun K hK => ?_)
    go_simp
    refine (word_any _ _ kd w3 hr3 (by have := Hk.out; have := Hd.out; omega)).mono ?_
    rintro e w9 ⟨rfl, rfl⟩
    refine hK.out _ _ (fun _ h => h) ?_
    clear hK K
    refine pT 7 (v := ?_) rfl (fun _ _ _ h => h) (by rfl) ?_ ?_
    rotate_left
    ·intro w'; go_simp; first | done | with_reducible rfl
    try simp only [Act.put, sp1]
    refine pT 8 (v := ?_) rfl (fun _ _ _ h => h) (by rfl) ?_ ?_
    rotate_left
    ·intro w'; go_simp; first | done | with_reducible rfl
    try simp only [Act.put, sp1]
    simp only [List.getElem_toArray, List.getElem_cons_succ, List.getElem_cons_zero, Act.put, sp1]
    refine wpAnyP_done (by kernel_rfl) ?_ _
    go_wp2
    go_meet
    exact ⟨by rw [HKA.out], by rw [HKB.out], (((((Ext.refl w).drew).trans hx1)).trans hx3)⟩
   ·obtain ⟨c5, w5, q5, ho5, hx5, -⟩ := conv_bytes (P := Tryz.prog) w1 9 22 5 kd Tryz.underlying9 Tryz.underlying22 Tryz.underlying5 (by have := Hk.out; have := Hd.out; omega)
    unfold strV at q5
    rw [hkb] at q5
    have hr5 := ho5.rdB
    go_simp
    refine hK.out _ _ (fun _ _ => ((((Ext.refl w).drew).trans hx1)).trans hx5) ?_
    clear hK K
    have hs5 := Rd.ext hr1 hx5
    refine pO 2 rfl (fun K hK => ?_)
    go_simp
    refine (word_any _ _ key w5 hs5 (by have := Hk.out; have := Hd.out; omega)).mono ?_
    rintro e w9 ⟨rfl, rfl⟩
    refine hK.out _ _ (fun _ h => h) ?_
    clear hK K
    refine pO 6 rfl (fun K hK => ?_)
    go_simp
    refine (word_any _ _ kd w5 hr5 (by have := Hk.out; have := Hd.out; omega)).mono ?_
    rintro e w9 ⟨rfl, rfl⟩
    refine hK.out _ _ (fun _ h => h) ?_
    clear hK K
    refine pT 7 (v := ?_) rfl (fun _ _ _ h => h) (by rfl) ?_ ?_
    rotate_left
    ·intro w'; go_simp; first | done | with_reducible rfl
    try simp only [Act.put, sp1]
    refine pT 8 (v := ?_) rfl (fun _ _ _ h => h) (by rfl) ?_ ?_
    rotate_left
    ·intro w'; go_simp; first | done | with_reducible rfl
    try simp only [Act.put, sp1]
    simp only [List.getElem_toArray, List.getElem_cons_succ, List.getElem_cons_zero, Act.put, sp1]
    refine wpAnyP_done (by kernel_rfl) ?_ _
    go_wp2
    go_meet
    exact ⟨by rw [HKA.out], by rw [HKB.out], (((((Ext.refl w).drew).trans hx1)).trans hx5)⟩
  ·obtain ⟨c8, w8, q8, ho8, hx8, -⟩ := conv_bytes (P := Tryz.prog) w.drew 9 22 5 kd Tryz.underlying9 Tryz.underlying22 Tryz.underlying5 (by have := Hk.out; have := Hd.out; omega)
   unfold strV at q8
   rw [hkb] at q8
   have hr8 := ho8.rdB
   go_simp
   refine hK.out _ _ (fun _ _ => ((Ext.refl w).drew).trans hx8) ?_
   clear hK K
   refine pO 1 rfl (fun K hK => ?_)
   obtain ⟨c9, w9, q9, ho9, hx9, -⟩ := conv_bytes (P := Tryz.prog) w8 9 22 5 key Tryz.underlying9 Tryz.underlying22 Tryz.underlying5 (by have := Hk.out; have := Hd.out; omega)
   unfold strV at q9
   rw [hka] at q9
   have hr9 := ho9.rdB
   go_simp
   refine hK.out _ _ (fun _ _ => ((((Ext.refl w).drew).trans hx8)).trans hx9) ?_
   clear hK K
   have hs9 := Rd.ext hr8 hx9
   refine pO 2 rfl (fun K hK => ?_)
   go_simp
   refine (word_any _ _ key w9 hr9 (by have := Hk.out; have := Hd.out; omega)).mono ?_
   rintro e w9 ⟨rfl, rfl⟩
   refine hK.out _ _ (fun _ h => h) ?_
   clear hK K
   refine pO 6 rfl (fun K hK => ?_)
   go_simp
   refine (word_any _ _ kd w9 hs9 (by have := Hk.out; have := Hd.out; omega)).mono ?_
   rintro e w9 ⟨rfl, rfl⟩
   refine hK.out _ _ (fun _ h => h) ?_
   clear hK K
   refine pT 7 (v := ?_) rfl (fun _ _ _ h => h) (by rfl) ?_ ?_
   rotate_left
   ·intro w'; go_simp; first | done | with_reducible rfl
   try simp only [Act.put, sp1]
   refine pT 8 (v := ?_) rfl (fun _ _ _ h => h) (by rfl) ?_ ?_
   rotate_left
   ·intro w'; go_simp; first | done | with_reducible rfl
   try simp only [Act.put, sp1]
   simp only [List.getElem_toArray, List.getElem_cons_succ, List.getElem_cons_zero, Act.put, sp1]
   refine wpAnyP_done (by kernel_rfl) ?_ _
   go_wp2
   go_meet
   exact ⟨by rw [HKA.out], by rw [HKB.out], (((((Ext.refl w).drew).trans hx8)).trans hx9)⟩
 case rest =>
  obtain ⟨rfl, rfl, hE⟩ := hcut
  clear kex ksz q8 hka hkb
  obtain ⟨W3, hW3, hB3, hk3, hl3⟩ := box1 wc #[.int .u64 (a0.toNat : Int), .int .u64 (b0.toNat : Int), .int .u64 (c0.toNat : Int), .int .u64 (d0.toNat : Int)] 391
  go_wp2_with fail
  clear hW3
  refine (f2 _).mono ?_
  clear f2
  rintro e w8 ⟨rfl, hb8, hs8, z1⟩
  go_wp2_with fail
  have hw0 := hE.size
  have hw3 := hB3.size
  have hw8 := hb8.size
  have hl8 := (hk3.ext hb8).lt
  refine (wpIn_wide (n := 5)).1 ?_
  refine wpIn_rangeFunc_ownH rfl (by omega) (gf := 316) (lb := #[.pointer (some ⟨W3.heap.size, 0, none⟩)]) rfl trivial (enters_of Tryz.func316 (by kernel_rfl) rfl)
   (hs3 W3.heap.size (fun b => b = wc.heap.size) w8 z1 (by omega) (fun k hk => by subst hk; omega))
   KpQ.trans (fun W l o o' hl h1 h2 h3 => KpQ.put W l o o' h1 h2) (Below.refl _ _) (fun _ => rfl)
   (QRl ⟨a0, b0, c0, d0⟩ wc.heap.size w8.heap.size w) (fun _ _ _ => False) (qrl_own (by omega)) (fun _ _ _ _ _ hs _ _ => hs)
   ⟨hk3.ext hb8, (hE.trans hB3).trans hb8, Nat.le_refl _⟩
   (fun x a' _ => a' = { tmps := #[.string ka, sv, undef, undef, .string ⟨#[]⟩, .int .u64 (ra.toNat : Int), .int .u64 (rb.toNat : Int), .pointer (some ⟨wc.heap.size, 0, none⟩), .int .u64 (x.toNat : Int), u9, u10, u11, u12, u13, u14, u15, .int .u64 (ra.toNat : Int), .int .u64 (a0.toNat : Int), .int .u64 (rb.toNat : Int), .int .u64 (b0.toNat : Int), .int .u64 (ra.toNat : Int), .int .u64 (c0.toNat : Int), .int .u64 (rb.toNat : Int), .int .u64 (d0.toNat : Int), .agg #[.int .u64 (a0.toNat : Int), .int .u64 (b0.toNat : Int), .int .u64 (c0.toNat : Int), .int .u64 (d0.toNat : Int)], sv, .func (.func 316) #[] #[.pointer (some ⟨W3.heap.size, 0, none⟩)], .int .u64 (x.toNat : Int), undef, undef, undef, undef, undef, undef, undef, undef, undef, undef, undef, undef, undef, undef, undef, undef, undef, undef, undef, undef, undef, undef, undef, undef, undef, undef, undef, undef, undef, undef, undef, undef, undef], defers := [] }) (fun _ _ _ _ _ _ hs _ _ => hs) ?assign ?body ?done ?stop
  case assign =>
   rintro li pre x W K hi hK
   simp only [wdV]
   gi_wp2
   exact hK _ _ (KeepsFrom.refl _ _) (KpQ.refl _ _) hi rfl
  case body =>
   rintro li pre x a' W hl _ hC rfl hlen
   obtain ⟨h1, h3, h4⟩ := id hC
   have hsn : (pre ++ [x]).foldl Q4.word ⟨a0, b0, c0, d0⟩ = (pre.foldl Q4.word ⟨a0, b0, c0, d0⟩).word x := by rw [List.foldl_append]; rfl
   obtain ⟨v, hv⟩ : ∃ v, pre.foldl Q4.word ⟨a0, b0, c0, d0⟩ = v := ⟨_, rfl⟩
   rw [hv] at h1 hsn
   obtain ⟨a, b, c, d⟩ := v
   obtain ⟨d1, hd1⟩ : ∃ d1, d ^^^ x = d1 := ⟨_, rfl⟩
   have y1 : bits .xor .u64 (d.toNat : Int) (x.toNat : Int) = (d1.toNat : Int) := by rw [u64_xor, hd1]
   obtain ⟨v2, hv2⟩ : ∃ v2, Q4.rnd ⟨a, b, c, d1⟩ = v2 := ⟨_, rfl⟩
   obtain ⟨v3, hv3⟩ : ∃ v3, Q4.rnd v2 = v3 := ⟨_, rfl⟩
   obtain ⟨a3, b3, c3, d3⟩ := v3
   obtain ⟨a4, ha4⟩ : ∃ a4, a3 ^^^ x = a4 := ⟨_, rfl⟩
   have y2 : bits .xor .u64 (a3.toNat : Int) (x.toNat : Int) = (a4.toNat : Int) := by rw [u64_xor, ha4]
   have hwd : (Q4.mk a b c d).word x = ⟨a4, b3, c3, d3⟩ := by
    unfold Q4.word
    dsimp only
    rw [hd1, hv2, hv3]
    dsimp only
    rw [ha4]
   rw [hwd] at hsn
   have PUT0 := Lib.hid (fun W' hk hg => qrl_put (x := x) (W' := W') hC (show w.heap.size <= wc.heap.size by omega) hk hg)
   have HSN := Lib.hid hsn
   clear hC hsn hv hd1 ha4 hwd
   dsimp only [Q4.cells] at h1
   have m1 := h1.cell
   have m2 := h1.lt
   have m3 := h1.frozen
   have k1 : Blk (W.setCell ⟨wc.heap.size, 3, none⟩ (.int .u64 (d1.toNat : Int))) wc.heap.size 391 (Q4.cells ⟨a, b, c, d1⟩) := h1.set_ 3 _
   have g1 := grown_setCell (World.grownBy.refl W (some wc.heap.size)) 3 (.int .u64 (d1.toNat : Int))
   have HV2 := Lib.hid hv2
   have HV3 := Lib.hid hv3
   clear hv2 hv3
   gi_wp2_with (refine ⟨trivial, ?_⟩; gi_at_call 271; first | (refine (CallsIn.inRound _ (callsIn_wide.2 (round_any wc.heap.size v2 _ k2))).mono ?_; rintro e W3 ⟨⟨r3, rfl⟩, k3, g3⟩; rw [HV3.out] at k3; dsimp only [Q4.cells] at k3; have n1 := k3.cell; have n2 := k3.lt; have n3 := k3.frozen) | (refine (CallsIn.inRound _ (callsIn_wide.2 (round_any wc.heap.size ⟨a, b, c, d1⟩ _ k1))).mono ?_; rintro e W2 ⟨⟨r2, rfl⟩, k2, g2⟩; rw [HV2.out] at k2))
   exact PUT0.out _ (by rw [HSN.out]; exact k3.set_ 0 _) (grown_setCell (grown_trans g1 (grown_trans g2 g3)) 0 _)
  case stop =>
   rintro D c pre W _ _ h _
   exact h.elim
  case done =>
   rintro D xs W hDD hF ⟨h1, h3, h4⟩ hK
   obtain rfl : xs = wordsL s := hF
   have hw3s := h3.size
   have hd2 := (DSx.nil w8.heap.size w.heap.size W).cons hDD (by omega) hK
   clear hK
   obtain ⟨v, hv⟩ : ∃ v, (wordsL s).foldl Q4.word ⟨a0, b0, c0, d0⟩ = v := ⟨_, rfl⟩
   have HT2 : tagB key s = wby v.fin := by rw [HT.out, hv]
   rw [hv] at h1
   have hfin : v.fin = (rndK { v with c := v.c ^^^ 255 } 4).a ^^^ (rndK { v with c := v.c ^^^ 255 } 4).b ^^^ (rndK { v with c := v.c ^^^ 255 } 4).c ^^^ (rndK { v with c := v.c ^^^ 255 } 4).d := rfl
   obtain ⟨a, b, c, d⟩ := v
   dsimp only at hfin
   obtain ⟨c1, hc1⟩ : ∃ c1, c ^^^ 255 = c1 := ⟨_, rfl⟩
   have y1 : bits .xor .u64 (c.toNat : Int) 255 = (c1.toNat : Int) := by rw [<- hc1]; exact u64_xor c 255
   rw [hc1] at hfin
   obtain ⟨v1, hv1⟩ : ∃ v1, Q4.mk a b c1 d = v1 := ⟨_, rfl⟩
   rw [hv1] at hfin
   rw [hfin] at HT2
   have HT3 := Lib.hid HT2
   dsimp only [Q4.cells] at h1
   have m1 := h1.cell
   have m2 := h1.lt
   have m3 := h1.frozen
   have k1 : Blk (W.setCell ⟨wc.heap.size, 2, none⟩ (.int .u64 (c1.toNat : Int))) wc.heap.size 391 (Q4.cells ⟨a, b, c1, d⟩) := h1.set_ 2 _
   have g1 := grown_setCell (World.grownBy.refl W (some wc.heap.size)) 2 (.int .u64 (c1.toNat : Int))
   rw [hv1] at k1
   obtain ⟨WA, hWA⟩ : ∃ WA, W.setCell ⟨wc.heap.size, 2, none⟩ (.int .u64 (c1.toNat : Int)) = WA := ⟨_, rfl⟩
   rw [hWA] at k1 g1
   have hko : KeepsOthers W WA := by rw [<- hWA]; exact KeepsOthers.setCell _ _ _
   have hd3 := hd2.keeps hko
   have hE3 := h3.keptb g1 (fun r e => by injection e with e; omega)
   have hA4 := g1.size
   clear hfin hv hv1 hc1 HT2 HT hd2 hko
   go_wp2_with fail
   clear hWA m1 m2 m3 y1 h1
   go_loopg [44] 4 (fun n i wr => ∃ k : Nat, k + n = 4 /\ i = .int .i64 k /\ Blk wr wc.heap.size 391 (rndK v1 k).cells /\ WA.grownBy wr (some wc.heap.size))
   case atStart => exact ⟨0, rfl, by go_num, k1, World.grownBy.refl _ _⟩
   case round =>
    obtain ⟨k, hkn, rfl, hkb, hg⟩ := hrel
    have Hkn := Lib.hid hkn
    have hk4 : k <= 4 := by omega
    clear hkn
    by_cases hlt : k < 4
    ·go_wp2_with fail
     refine (round_any wc.heap.size (rndK v1 k) _ hkb).mono ?_
     rintro e w9 ⟨⟨r9, rfl⟩, k9, g9⟩
     go_wp2
     go_roundg (gk - 1)
     case measure => have := Hkn.out; omega
     case rel => exact ⟨k + 1, by have := Hkn.out; omega, by go_num, k9, grown_trans hg g9⟩
    ·obtain rfl : k = 4 := by omega
     obtain ⟨v9, hv9⟩ : ∃ v9, rndK v1 4 = v9 := ⟨_, rfl⟩
     have HT4 := Lib.hid (HT3.out)
     rw [hv9] at hkb HT4
     obtain ⟨a9, b9, c9, d9⟩ := v9
     dsimp only at HT4
     obtain ⟨x9, hx9⟩ : ∃ x, a9 ^^^ b9 = x := ⟨_, rfl⟩
     obtain ⟨y9, hy9⟩ : ∃ x, x9 ^^^ c9 = x := ⟨_, rfl⟩
     obtain ⟨z9, hz9⟩ : ∃ x, y9 ^^^ d9 = x := ⟨_, rfl⟩
     have p1 : bits .xor .u64 (a9.toNat : Int) (b9.toNat : Int) = (x9.toNat : Int) := by rw [u64_xor, hx9]
     have p2 : bits .xor .u64 (x9.toNat : Int) (c9.toNat : Int) = (y9.toNat : Int) := by rw [u64_xor, hy9]
     have p3 : bits .xor .u64 (y9.toNat : Int) (d9.toNat : Int) = (z9.toNat : Int) := by rw [u64_xor, hz9]
     rw [hx9, hy9, hz9] at HT4
     have fa := fun w => appendWord_any (.slice none 0 0) [] z9 wr.heap.size w (Owns.none_ _ _) (by simp)
     have hd4 := hd3.keeps (KeepsOthers.of_grownBy hg (fun j o e ho => by
      injection e with e
      subst e
      have h9 : WA.heap[wc.heap.size]? = some (.cells _ _ (0, 0)) := k1
      rw [h9] at ho
      injection ho with ho
      subst ho
      rfl))
     have hE4 := hE3.keptb hg (fun r e => by injection e with e; omega)
     have HP := Lib.hid hx9
     dsimp only [Q4.cells] at hkb
     have m1 := hkb.cell
     have m2 := hkb.lt
     clear hx9 hy9 hz9 hv9 hd3 hE3 hg k1
     go_wp2_with fail
     refine (fa _ (Nat.le_refl _)).mono ?_
     clear fa
     rintro e w9 ⟨u9, rfl, ho9, hg9⟩
     rw [List.nil_append] at ho9
     have hx9 : Ext wr w9 := (Ext.refl wr).keptb hg9 (fun r e => by simp [Value.ownBlock] at e)
     have hd5 := hd4.ext hx9
     have hE5 := hE4.trans hx9
     obtain ⟨A9, e9, rfl, hR9⟩ := ho9.form
     have q1 := conv_str (P := Tryz.prog) w9 22 9 5 A9 e9 (wby z9) Tryz.underlying22 Tryz.underlying5 Tryz.underlying9 hR9
     clear m1 m2 hkb hg9 ho9 hd4
     go_wp2_with fail
     show LeavesInM _ _ _ _ _ _ _ .returning _
     refine hd5.leaves ?_
     intro w' hw'
     have hfin := hw' (fun W => Ext w W) (fun s X Y row hs hg hr => hs.keptb hg (fun r e => (hr r e).1)) hE5
     exact ⟨_, results_tmp rfl _ _ _, by rw [HT4.out]; rfl, hfin⟩
end
section
open Go.RowKit Go.Shelf
set_option maxRecDepth 100000 in
set_option maxHeartbeats 4000000 in
theorem Foremost_any (Aq : Option Addr) (cq : Nat) (Ac : Option Addr) (cc : Nat) (p : Pln) (src t0 n : Int) (w : World) (h : PlnRd w Aq cq Ac cc p) :
 Calls Tryz.prog 24 #[p.val Aq cq Ac cc, .int .i64 src, .int .i64 t0, .int .i64 n] w (RetA EInt w (p.forT src t0 n) (p.forE src t0 n)) := by
 obtain ⟨W, hW, hB, hk, hlt⟩ := box1 w #[.slice Aq p.quo.length cq, .slice Ac p.cons.length cc] 68
 have hc := hk.cell
 have hqm := h.qm
 have hW2 := Lib.hid hW
 have hpc := pcheck_any Aq cq Ac cc p W (h.ext hB)
 by_cases h0 : p.chk = 0
 ·have hok := Pln.ok_of h0
  cases ha : p.argF src t0 n
  ·have HE := Lib.hid (show p.forE src t0 n = 2 by unfold Pln.forE; rw [if_pos h0, ha]; rfl)
   have HT := Lib.hid (show p.forT src t0 n = [] by unfold Pln.forT; rw [HE.out]; rfl)
   simp only [Pln.argF, decide_eq_false_iff_not] at ha
   have Ha := Lib.hid ha
   rw [h0] at hpc
   have H0 := Lib.hid h0
   clear ha h0
   unfold Pln.val at hpc ⊢
   go_enter Tryz.func24, Tryz.ntmps24
   go_wp2_with fail
   clear hW
   refine hpc.mono ?_
   rintro e w1 ⟨rfl, hb1⟩
   have hc1 := (hk.ext hb1).cell
   clear hpc
   go_wp2_with fail
   all_goals first
    | (go_ret2; rw [HE.out, HT.out]; exact ⟨none, 0, rfl, Rd.nil, hB.trans hb1, Nat.le_refl _⟩)
    | (exfalso; apply Ha.out; (try simp_all); (try omega))
  ·have HE := Lib.hid (show p.forE src t0 n = 0 by unfold Pln.forE; rw [if_pos h0, ha]; rfl)
   have HT := Lib.hid (show p.forT src t0 n = p.arrs src t0 n by unfold Pln.forT; rw [HE.out]; rfl)
   have ha2 := ha
   simp only [Pln.argF, decide_eq_true_eq] at ha2
   obtain ⟨a1, a2, a3, a4, a5, a6⟩ := ha2
   have Ha := Lib.hid ha
   rw [h0] at hpc
   have H0 := Lib.hid h0
   clear ha h0
   unfold Pln.val at hpc ⊢
   go_enter Tryz.func24, Tryz.ntmps24
   go_wp2_with fail
   clear hW
   refine hpc.mono ?_
   rintro e w1 ⟨rfl, hb1⟩
   have hc1 := (hk.ext hb1).cell
   clear hpc
   go_wp2_with fail
   refine (arrivals_any Aq cq Ac cc p src t0 n w1 ((h.ext hB).ext hb1) hok Ha.out).mono ?_
   rintro e w2 ⟨v, rfl, hv, hb2⟩
   obtain ⟨A2, c2, rfl, hR2⟩ := hv.form
   go_wp2
   go_ret2
   rw [HE.out, HT.out]
   exact ⟨A2, c2, rfl, hR2, (hB.trans hb1).trans hb2, hv.cap⟩
 ·have HE := Lib.hid (show p.forE src t0 n = 1 by unfold Pln.forE; rw [if_neg h0])
  have HT := Lib.hid (show p.forT src t0 n = [] by unfold Pln.forT; rw [HE.out]; rfl)
  have hd : (p.chk != 0) = true := by simpa using h0
  have H0 := Lib.hid h0
  clear h0
  unfold Pln.val at hpc ⊢
  go_enter Tryz.func24, Tryz.ntmps24
  go_wp2_with fail
  clear hW
  refine hpc.mono ?_
  rintro e w1 ⟨rfl, hb1⟩
  go_wp2
  go_ret2
  rw [HE.out, HT.out]
  exact ⟨none, 0, rfl, Rd.nil, hB.trans hb1, Nat.le_refl _⟩
end
end Go.Proofs.YtemkpimngbbpkaaGreat

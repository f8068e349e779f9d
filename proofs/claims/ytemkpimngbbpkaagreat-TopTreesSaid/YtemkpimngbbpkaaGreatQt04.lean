/- Layer 24 (journey): the walks of hop (the program's and the reference's). · Layer 24 (journey): the reference's round, start, arrivals. · Layer 24 (journey): the walk of the frontier's next. · Layer 24 (journey): the iterator over the hops from a node. · A function whose plain loop holds a range over a function: the blocks for the deferred calls pile up. -/
import Derived.Laws.ResultCell
import Derived.Laws.IdiomCopy
import Derived.Deep.AppendLies
import Derived.Deep.RegionLaw
import Derived.Deep.CutRange
import Derived.Test.YtemkpimngbbpkaaGreatQt01
import Derived.Test.YtemkpimngbbpkaaGreatQt02
namespace Go.Proofs.YtemkpimngbbpkaaGreat
set_option linter.unusedVariables false
set_option linter.unusedSimpArgs false
section
open Go.RowKit Go.Shelf
theorem begin_ok {c : Con} {t n : Int} (h : c.Ok) (hn : 1 <= n /\ n <= 65536) (he : earr c t n ≠ -1) : c.beginE t n = 0 /\ c.beginT t n = c.beg t /\ c.atE (c.beg t) n = 0 /\ c.arrT (c.beg t) n = earr c t n := by
 have ha : c.arg n = 0 := Con.arg_ok.2 ⟨h, hn⟩
 rcases earr_cases (t := t) h hn with g | ⟨g1, g2, g3, g4, g5, g6⟩
 ·exact absurd g.1 he
 ·have e : c.atE (c.beg t) n = 0 := by unfold Con.atE; rw [if_pos ha, g1]; rfl
  refine ⟨by unfold Con.beginE; exact e, by unfold Con.beginT; rw [if_pos e], e, ?_⟩
  unfold Con.arrT Con.aftT
  rw [if_pos e, g3]; omega
theorem begin_no {c : Con} {t n : Int} (h : c.Ok) (hn : 1 <= n /\ n <= 65536) (he : earr c t n = -1) : c.beginE t n = 16 /\ c.beginT t n = 0 := by
 have ha : c.arg n = 0 := Con.arg_ok.2 ⟨h, hn⟩
 rcases earr_cases (t := t) h hn with g | ⟨g1, g2, g3, g4, g5, g6⟩
 ·have e : c.atE (c.beg t) n = 16 := by unfold Con.atE; rw [if_pos ha, g.2]; rfl
  refine ⟨by unfold Con.beginE; exact e, by unfold Con.beginT; rw [if_neg (by omega)]⟩
 ·omega
def hopV (i : Nat) (c : Con) (t n : Int) : Value := .tuple #[(hopR i c t n).val, .bool (decide (earr c t n ≠ -1))]
set_option maxRecDepth 100000 in
set_option maxHeartbeats 4000000 in
theorem hop_any (Aq : Option Addr) (cq : Nat) (Ac : Option Addr) (cc : Nat) (p : Pln) (i : Nat) (c : Con) (t n : Int) (w : World) (h : PlnRd w Aq cq Ac cc p) (hi : i < p.cons.length) (hci : p.cons[i] = c) (hok : c.Ok) (hn : 1 <= n /\ n <= 65536) (ht : 0 <= t) :
 Calls Tryz.prog 238 #[p.val Aq cq Ac cc, .int .i64 i, .int .i64 t, .int .i64 n] w fun e w' => e = .returned (hopV i c t n) /\ Ext w w' := by
 obtain ⟨W1, hW1, hB1, hk1, hl1⟩ := box1 w #[.slice Aq p.quo.length cq, .slice Ac p.cons.length cc] 68
 obtain ⟨W2, hW2, hB2, hk2, hl2⟩ := box1 W1 #[.int .i64 0, .int .i64 0, .int .i64 0, .int .i64 0] 94
 obtain ⟨W3, hW3, hB3, hk3, hl3⟩ := box1 W2 c.cells 61
 simp only [Con.cells] at hW3 hk3
 obtain ⟨b, o, rfl, hb, c0, c1, c2, c3, c4, c5, c6⟩ := ((h.c.ext hB1).ext hB2).con hi
 rw [hci] at c0 c1 c2 c3 c4 c5 c6
 have hE3 := (hB1.trans hB2).trans hB3
 have hm := h.cm
 have hcp := (hk1.ext hB2).cell
 have hck := hk3.cell
 have HV : Hid (hopV i c t n = hopV i c t n) := Lib.hid rfl
 have Hci := Lib.hid hci
 clear hci
 by_cases he : earr c t n = -1
 ·have hbn := begin_no hok hn he
  have hbg := fun w => Begin_any c t n w
  simp only [hbn.1, hbn.2] at hbg
  have HR := Lib.hid (show hopV i c t n = .tuple #[.agg #[.int .i64 0, .int .i64 0, .int .i64 0, .int .i64 0], .bool false] by simp [hopV, hopR, he, Hp.val])
  clear he hbn
  unfold Pln.val
  unfold Con.val at hbg
  go_enter Tryz.func238, Tryz.ntmps238
  go_wp2_with fail
  clear hW1 hW2 hW3 c0 c1 c2 c3 c4 c5 c6 hcp
  refine (hbg _).mono ?_
  rintro e w4 ⟨rfl, hb4⟩
  have hk4 := (hk2.ext hB3).ext hb4
  have hc4 := hk4.cell
  have hf4 := hk4.frozen
  have hl4 := hk4.lt
  go_wp2
  obtain ⟨w7, hw7, hz7, hE7⟩ : ∃ w7, w4.setCells W1.heap.size 0 [.int .i64 0, .int .i64 0, .int .i64 0, .int .i64 0] = w7 /\ Blk w7 W1.heap.size 94 #[.int .i64 0, .int .i64 0, .int .i64 0, .int .i64 0] /\ Ext w w7 :=
   ⟨_, rfl, hk4.setCells_ [.int .i64 0, .int .i64 0, .int .i64 0, .int .i64 0] 0, ext_setCells (hE3.trans hb4) (by omega) 0 _⟩
  simp only [World.setCells, Nat.zero_add, Nat.reduceAdd] at hw7
  rw [hw7]
  have hc7 := hz7.cell
  refine bodyPost_ret (v := .tuple #[.agg #[.int .i64 0, .int .i64 0, .int .i64 0, .int .i64 0], .bool false]) (by rw [results_cell_tmp rfl]; simp [asAddr, Result.andThen, hc7, go_sem]) rfl ?_
  exact ⟨by rw [HR.out], hE7⟩
 ·have hbn := begin_ok hok hn he
  have hcs := earr_cases (t := t) hok hn
  have hbg := fun w => Begin_any c t n w
  simp only [hbn.1, hbn.2.1] at hbg
  have hDu : ∀ w, Calls Tryz.prog 196 #[c.val, .int .i64 n] w fun e w' => e = .returned (.tuple #[.int .i64 (c.dur n), .int .i64 0]) /\ Ext w w' := fun w => by
   have h9 := Duration_any c n w
   have h8 : c.arg n = 0 := Con.arg_ok.2 ⟨hok, hn⟩
   rw [Con.durR, if_pos h8, h8] at h9
   exact h9
  have HR := Lib.hid (show hopV i c t n = .tuple #[.agg #[.int .i64 i, .int .i64 (c.beg t), .int .i64 (c.beg t + c.dur n), .int .i64 (c.beg t + c.dur n + c.rng)], .bool true] by simp [hopV, hopR, he, Hp.val, hopAt])
  obtain ⟨g1, g2, g3, g4, g5, g6⟩ := hcs.resolve_left (fun h => he h.1)
  have dbd := Con.dur_bd hok hn.1 hn.2
  have hrg0 := hok.rng0
  have hrg1 := hok.rng1
  have hst0 := hok.st0
  have hbt := beg_ge c t
  have hs1 : 0 <= c.beg t + c.dur n := by omega
  have hs2 : c.beg t + c.dur n <= 1099511627776 := by omega
  have hs3 : c.beg t + c.dur n + c.rng <= 1099511627776 := by omega
  have hs4 : 0 <= c.beg t := by omega
  clear he hbn hcs g1 g2 g3 g4 g5 g6
  unfold Pln.val
  unfold Con.val at hbg hDu
  go_enter Tryz.func238, Tryz.ntmps238
  go_wp2_with fail
  clear hW1 hW2 hW3 c0 c1 c2 c3 c4 c5 c6 hcp
  refine (hbg _).mono ?_
  rintro e w4 ⟨rfl, hb4⟩
  have hkc4 := hk3.ext hb4
  replace hck := hkc4.cell
  go_wp2_with fail
  refine (hDu _).mono ?_
  rintro e w5 ⟨rfl, hb5⟩
  have hb6 := hb4.trans hb5
  have hkc5 := hkc4.ext hb5
  replace hck := hkc5.cell
  have hk4 := (hk2.ext hB3).ext hb6
  have hc4 := hk4.cell
  have hf4 := hk4.frozen
  have hl4 := hk4.lt
  go_wp2
  obtain ⟨w7, hw7, hz7, hE7⟩ : ∃ w7, w5.setCells W1.heap.size 0 [.int .i64 i, .int .i64 (c.beg t), .int .i64 (c.beg t + c.dur n), .int .i64 (c.beg t + c.dur n + c.rng)] = w7 /\ Blk w7 W1.heap.size 94 #[.int .i64 i, .int .i64 (c.beg t), .int .i64 (c.beg t + c.dur n), .int .i64 (c.beg t + c.dur n + c.rng)] /\ Ext w w7 :=
   ⟨_, rfl, hk4.setCells_ [.int .i64 i, .int .i64 (c.beg t), .int .i64 (c.beg t + c.dur n), .int .i64 (c.beg t + c.dur n + c.rng)] 0, ext_setCells (hE3.trans hb6) (by omega) 0 _⟩
  simp only [World.setCells, Nat.zero_add, Nat.reduceAdd] at hw7
  rw [hw7]
  have hc7 := hz7.cell
  refine bodyPost_ret (v := .tuple #[.agg #[.int .i64 i, .int .i64 (c.beg t), .int .i64 (c.beg t + c.dur n), .int .i64 (c.beg t + c.dur n + c.rng)], .bool true]) (by rw [results_cell_tmp rfl]; simp [asAddr, Result.andThen, hc7, go_sem]) rfl ?_
  exact ⟨by rw [HR.out], hE7⟩
end
section
open Go.RowKit Go.Shelf
theorem info_int : (Tryz.prog.info? 3).map (fun i => (i.zero, i.size, i.bytes)) = some (some (.int .i64 0), 1, 8) := by kernel_rfl
theorem Owns.some_ {α : Type} {E : Elt α} {w : World} {base : Nat} {e : TypeId} {A : Option Addr} {n c : Nat} {l : List α} (h : Owns E w base e (.slice A n c) l) (hl : 0 < l.length) : ∃ b, A = some ⟨b, 0, none⟩ /\ base <= b := by
 have hn := h.len
 rcases h.2 with ⟨e1, e2⟩ | ⟨g, cap, cur, e1, _⟩
 ·injection e1 with e1 e3
  omega
 ·injection e1 with e1
  subst e1
  exact ⟨g, rfl, (h.block (g := g) rfl).1⟩
end
section
open Go.RowKit Go.Shelf
def EBool : Elt Bool := ⟨fun x => [.bool x], 1, fun _ => rfl, by omega, fun x u hu => by simp at hu; subst hu; rfl⟩
theorem Owns.gb {w : World} {base : Nat} {e : TypeId} {g n c : Nat} {m : List Bool} (h : Owns EBool w base e (.slice (some ⟨g, 0, none⟩) n c) m) {i : Int} (hi : i.toNat < m.length) :
 w.cell? ⟨g, i.toNat, none⟩ = some (.bool (gb m i)) := by
 obtain ⟨cur, hb, _, _, hc⟩ := h.there_
 have h1 := hc i.toNat hi 0 (by decide)
 have e1 : i.toNat * EBool.size + 0 = i.toNat := by show i.toNat * 1 + 0 = _; omega
 rw [e1] at h1
 rw [hb.cell, h1]
 simp [EBool, Go.Proofs.YtemkpimngbbpkaaGreat.gb, hi]
theorem Owns.freeb {w : World} {base : Nat} {e : TypeId} {g n c : Nat} {m : List Bool} (h : Owns EBool w base e (.slice (some ⟨g, 0, none⟩) n c) m) : g < w.heap.size /\ ∀ i, w.frozen? ⟨g, i, none⟩ = false := by
 obtain ⟨cur, hb, _, _, hc⟩ := h.there_
 exact ⟨hb.lt, hb.frozen⟩
theorem Owns.setb {w : World} {base : Nat} {e : TypeId} {g n c : Nat} {m : List Bool} (h : Owns EBool w base e (.slice (some ⟨g, 0, none⟩) n c) m) {k : Nat} (hk : k < m.length) (y : Bool) :
 Owns EBool (w.setCell ⟨g, k, none⟩ (.bool y)) base e (.slice (some ⟨g, 0, none⟩) n c) (m.set k y) := by
 have h1 := h.set_ hk y
 have e1 : k * EBool.size = k := Nat.mul_one k
 rw [e1] at h1
 exact h1
def IsNext (m : List Int) (lf : List Bool) (k : Nat) (r : Int) : Prop :=
 (r = -1 /\ ∀ i : Int, 0 <= i -> i < k -> gb lf i = false -> 0 <= gi m i -> False) ∨
 (0 <= r /\ r < k /\ gb lf r = false /\ 0 <= gi m r /\ ∀ i : Int, 0 <= i -> i < k -> gb lf i = false -> 0 <= gi m i -> gi m r <= gi m i)
theorem IsNext.zero (m : List Int) (lf : List Bool) : IsNext m lf 0 (-1) := .inl ⟨rfl, fun i h0 h1 => by omega⟩
theorem IsNext.skip {m : List Int} {lf : List Bool} {k : Nat} {r : Int} (h : IsNext m lf k r) (hs : gi m (k : Int) < 0 ∨ gb lf (k : Int) = true) : IsNext m lf (k + 1) r := by
 have key : ∀ i : Int, 0 <= i -> i < ((k + 1 : Nat) : Int) -> gb lf i = false -> 0 <= gi m i -> i < k := fun i h0 h1 h2 h3 => by
  apply Classical.byContradiction
  intro hh
  have e : i = k := by omega
  subst e
  rcases hs with hs | hs
  ·omega
  ·rw [hs] at h2; cases h2
 rcases h with ⟨h1, h2⟩ | ⟨h1, h2, h3, h4, h5⟩
 ·exact .inl ⟨h1, fun i a b c d => h2 i a (key i a b c d) c d⟩
 ·exact .inr ⟨h1, by omega, h3, h4, fun i a b c d => h5 i a (key i a b c d) c d⟩
theorem IsNext.keep {m : List Int} {lf : List Bool} {k : Nat} {r : Int} (h : IsNext m lf k r) (hr : 0 <= r) (hs : gi m r <= gi m (k : Int)) : IsNext m lf (k + 1) r := by
 rcases h with ⟨h1, h2⟩ | ⟨h1, h2, h3, h4, h5⟩
 ·omega
 ·refine .inr ⟨h1, by omega, h3, h4, fun i a b c d => ?_⟩
  by_cases e : i = k
  ·rw [e]; exact hs
  ·exact h5 i a (by omega) c d
theorem IsNext.take {m : List Int} {lf : List Bool} {k : Nat} {r : Int} (h : IsNext m lf k r) (h0 : 0 <= gi m (k : Int)) (hl : gb lf (k : Int) = false) (hs : r < 0 ∨ gi m (k : Int) < gi m r) : IsNext m lf (k + 1) (k : Int) := by
 refine .inr ⟨by omega, by omega, hl, h0, fun i a b c d => ?_⟩
 by_cases e : i = k
 ·rw [e]; exact Int.le_refl _
 ·rcases h with ⟨h1, h2⟩ | ⟨h1, h2, h3, h4, h5⟩
  ·exact (h2 i a (by omega) c d).elim
  ·have := h5 i a (by omega) c d; omega
theorem IsNext.rng {m : List Int} {lf : List Bool} {k : Nat} {r : Int} (h : IsNext m lf k r) : -1 <= r /\ r < k := by
 rcases h with ⟨h1, h2⟩ | ⟨h1, h2, h3, h4, h5⟩ <;> omega
def NextP (m : List Int) (lf : List Bool) (N g2 : Nat) (w : World) (e : Ending) (w' : World) : Prop :=
 ∃ r : Int, e = .returned (.int .i64 r) /\ IsNext m lf N r /\ ((r = -1 /\ w' = w) ∨ (0 <= r /\ w' = w.setCell ⟨g2, r.toNat, none⟩ (.bool true)))
set_option maxRecDepth 100000 in
set_option maxHeartbeats 4000000 in
theorem next_any (F g1 g2 c1 c2 base N : Nat) (m : List Int) (lf : List Bool) (w : World) (hF : Blk w F 265 #[.slice (some ⟨g1, 0, none⟩) N c1, .slice (some ⟨g2, 0, none⟩) N c2])
 (hm : Owns EInt w base 3 (.slice (some ⟨g1, 0, none⟩) N c1) m) (hl : Owns EBool w base 4 (.slice (some ⟨g2, 0, none⟩) N c2) lf) (hN : N <= 16) :
 Calls Tryz.prog 158 #[.pointer (some ⟨F, 0, none⟩)] w (NextP m lf N g2 w) := by
 have hc := hF.cell
 have hlm := hm.len
 have hll := hl.len
 have Hlm := Lib.hid hlm
 have Hll := Lib.hid hll
 obtain ⟨hgl, hfz⟩ := hl.freeb
 clear hlm hll
 go_enter Tryz.func158, Tryz.ntmps158
 go_wp2
 go_loop [3, 11] (fun r i => ∃ k : Nat, ∃ b : Int, k <= N /\ i = .int .i64 k /\ r = .int .i64 b /\ IsNext m lf k b) (fun _ i => N - (intOf i).toNat)
 case atStart => exact ⟨0, -1, Nat.zero_le _, rfl, rfl, IsNext.zero _ _⟩
 case round =>
  obtain ⟨k, b, hk, rfl, rfl, hx⟩ := hrel
  have Hx := Lib.hid hx
  obtain ⟨b1, b2⟩ := hx.rng
  clear hx
  by_cases hlt : k < N
  ·have hck := hm.gi (i := (k : Int)) (by have := Hlm.out; omega)
   have hcl := hl.gb (i := (k : Int)) (by have := Hll.out; omega)
   rw [Int.toNat_natCast] at hck hcl
   by_cases h0 : 0 <= gi m (k : Int)
   ·cases hlk : gb lf (k : Int)
    ·rw [hlk] at hcl
     by_cases hb0 : b < 0
     ·have hd1 : decide (b < 0) = true := by simpa using hb0
      go_wp2
      go_round
      case rel => exact ⟨k + 1, (k : Int), by omega, by go_num, rfl, Hx.out.take h0 hlk (.inl hb0)⟩
      case measure => simp [intOf]; omega
     ·have hd1 : decide (b < 0) = false := by simpa using hb0
      have hb0' : 0 <= b := by omega
      have hcb := hm.gi (i := b) (by have := Hlm.out; omega)
      by_cases hbt : gi m (k : Int) < gi m b
      ·have hd2 : decide (gi m (k : Int) < gi m b) = true := by simpa using hbt
       go_wp2
       go_round
       case rel => exact ⟨k + 1, (k : Int), by omega, by go_num, rfl, Hx.out.take h0 hlk (.inr hbt)⟩
       case measure => simp [intOf]; omega
      ·have hd2 : decide (gi m (k : Int) < gi m b) = false := by simpa using hbt
       go_wp2
       go_round
       case rel => exact ⟨k + 1, b, by omega, by go_num, rfl, Hx.out.keep hb0' (by omega)⟩
       case measure => simp [intOf]; omega
    ·rw [hlk] at hcl
     go_wp2
     go_round
     case rel => exact ⟨k + 1, b, by omega, by go_num, rfl, Hx.out.skip (.inr hlk)⟩
     case measure => simp [intOf]; omega
   ·have hd0 : decide (0 <= gi m (k : Int)) = false := by simpa using h0
    go_wp2
    go_round
    case rel => exact ⟨k + 1, b, by omega, by go_num, rfl, Hx.out.skip (.inl (by omega))⟩
    case measure => simp [intOf]; omega
  ·have he : k = N := by omega
   subst he
   by_cases hb0 : 0 <= b
   ·have hcb := hl.gb (i := b) (by have := Hll.out; omega)
    go_wp2
    go_ret
    exact ⟨b, rfl, Hx.out, .inr ⟨hb0, rfl⟩⟩
   ·have hd0 : decide (0 <= b) = false := by simpa using hb0
    have e : b = -1 := by omega
    subst e
    go_wp2
    go_ret
    exact ⟨-1, rfl, Hx.out, .inl ⟨rfl, rfl⟩⟩
end
section
open Go.RowKit Go.Shelf
attribute [local go_sem] Oper.semAt_some
structure KpX (n g : Nat) (W W' : World) : Prop where
 os : W'.os = W.os
 tape : W'.tape = W.tape
 output : W'.output = W.output
 size : W.heap.size <= W'.heap.size
 block : ∀ k, k < n -> k ≠ g -> W'.heap[k]? = W.heap[k]?
theorem KpX.refl (n g : Nat) (W : World) : KpX n g W W := ⟨rfl, rfl, rfl, Nat.le_refl _, fun _ _ _ => rfl⟩
theorem KpX.trans {n g : Nat} {A B C : World} (h : KpX n g A B) (k : KpX n g B C) : KpX n g A C :=
 ⟨k.os.trans h.os, k.tape.trans h.tape, k.output.trans h.output, Nat.le_trans h.size k.size, fun i h1 h2 => (k.block i h1 h2).trans (h.block i h1 h2)⟩
theorem KpX.of_ext {n g : Nat} {W W' : World} (hn : n <= W.heap.size) (h : Ext W W') : KpX n g W W' :=
 ⟨h.os, h.tape, h.output, h.size, fun k hk _ => h.block k (by omega)⟩
theorem KpX.setCell {n g : Nat} (W : World) (o : Nat) (v : Value) : KpX n g W (W.setCell ⟨g, o, none⟩ v) :=
 ⟨rfl, rfl, rfl, by simp [World.setCell], fun k _ hne => Below.heap_setCell W ⟨g, o, none⟩ v k (fun e => hne (by rw [e]))⟩
theorem KpX.put {n g : Nat} (W : World) (l : Nat) (o : Obj) (hl : n <= l) : KpX n g W (W.putObj l o) :=
 ⟨rfl, rfl, rfl, by simp, fun k hk _ => World.putObj_heap_other (by omega)⟩
theorem KpX.blk {n g : Nat} {W W' : World} (h : KpX n g W W') {b : Nat} {t : TypeId} {cs : Array Value} (hb : Blk W b t cs) (h1 : b < n) (h2 : b ≠ g) : Blk W' b t cs := (h.block b h1 h2).trans hb
theorem KpX.below {n g B : Nat} {W W' : World} (h : KpX n g W W') (h1 : B <= n) (h2 : B <= g) : Below B W W' :=
 ⟨h.os, h.tape, h.output, h.size, fun k hk => h.block k (by omega) (by omega)⟩
theorem KpX.ext {n g : Nat} {w W W' : World} (h : KpX n g W W') (hw : Ext w W) (h1 : w.heap.size <= n) (h2 : w.heap.size <= g) : Ext w W' := Below.trans hw (h.below h1 h2)
theorem grown_none {W W' : World} (h : Ext W W') : W.grownBy W' none := grown_ext (World.grownBy.refl W none) h
theorem abides_ext {β : Type} {B : Nat} {J : β -> World -> Prop} (h : AbidesFrom B J) {s : β} {W W' : World} (hs : J s W) (he : Ext W W') : J s W' :=
 h s W W' none hs (grown_none he) (fun r e => by cases e)
abbrev HopX (p : Pln) (node t n : Int) := { x : Nat × Con // p.cons[x.1]? = some x.2 /\ x.2.src = node /\ earr x.2 t n ≠ -1 }
def HopC (p : Pln) (node t n : Int) (pre : List (HopX p node t n)) (k : Nat) : Prop := ∀ i c, i < k -> p.cons[i]? = some c -> c.src = node -> earr c t n ≠ -1 -> ∃ x ∈ pre, x.1 = (i, c)
theorem HopC.skip {p : Pln} {node t n : Int} {pre : List (HopX p node t n)} {k : Nat} {y : Con} (h : HopC p node t n pre k) (hy : p.cons[k]? = some y) (hn : y.src ≠ node ∨ earr y t n = -1) : HopC p node t n pre (k + 1) := by
 intro i c hi hc hs he
 by_cases e : i = k
 ·subst e
  rw [hy] at hc; cases hc
  rcases hn with hn | hn
  ·exact absurd hs hn
  ·exact absurd hn he
 ·exact h i c (by omega) hc hs he
theorem HopC.more {p : Pln} {node t n : Int} {pre : List (HopX p node t n)} {k : Nat} (h : HopC p node t n pre k) (x : HopX p node t n) (hx : x.1.1 = k) : HopC p node t n (pre ++ [x]) (k + 1) := by
 intro i c hi hc hs he
 by_cases e : i = k
 ·subst e
  refine ⟨x, by simp, ?_⟩
  have h1 := x.2.1
  rw [hx, hc] at h1
  injection h1 with h1
  rw [<- hx]
  exact Prod.ext rfl h1.symm
 ·obtain ⟨y, hy, e2⟩ := h i c (by omega) hc hs he
  exact ⟨y, by simp [hy], e2⟩
def HopS (p : Pln) (node t n : Int) (ys : List (HopX p node t n)) : Prop := HopC p node t n ys p.cons.length
theorem hopV_yes {i : Nat} {c : Con} {t n : Int} (he : earr c t n ≠ -1) : hopV i c t n = .tuple #[.agg #[.int .i64 i, .int .i64 (c.beg t), .int .i64 (c.beg t + c.dur n), .int .i64 (earr c t n)], .bool true] := by
 have hd : decide (earr c t n ≠ -1) = true := by simpa using he
 unfold hopV hopR
 rw [if_neg he, hd]
 unfold Hp.val
 rw [hopAt_arr he]
 rfl
theorem hopV_no {i : Nat} {c : Con} {t n : Int} (he : earr c t n = -1) : hopV i c t n = .tuple #[.agg #[.int .i64 0, .int .i64 0, .int .i64 0, .int .i64 0], .bool false] := by
 simp [hopV, hopR, he, Hp.val]
def hopX {p : Pln} {node t n : Int} (x : HopX p node t n) : Array Value := #[.agg #[.int .i64 x.1.1, .int .i64 (x.1.2.beg t), .int .i64 (x.1.2.beg t + x.1.2.dur n), .int .i64 (earr x.1.2 t n)]]
set_option maxRecDepth 100000 in
set_option maxHeartbeats 4000000 in
theorem hops_iter (l Bp Bn Bt Bs n₁ g : Nat) (Aq : Option Addr) (cq : Nat) (Ac : Option Addr) (cc : Nat) (p : Pln) (node t n : Int) (w0 W : World) (h : PlnRd w0 Aq cq Ac cc p) (hok : p.Ok) (hn : 1 <= n /\ n <= 65536) (ht : 0 <= t)
 (h0 : Ext w0 W) (hn0 : w0.heap.size <= n₁) (hg0 : w0.heap.size <= g) (hn1 : n₁ <= W.heap.size)
 (kp : Blk W Bp 68 #[.slice Aq p.quo.length cq, .slice Ac p.cons.length cc]) (kn : Blk W Bn 3 #[.int .i64 node]) (kt : Blk W Bt 3 #[.int .i64 t]) (ks : Blk W Bs 3 #[.int .i64 n])
 (bp : Bp < n₁ /\ Bp ≠ g) (bn : Bn < n₁ /\ Bn ≠ g) (bt : Bt < n₁ /\ Bt ≠ g) (bs : Bs < n₁ /\ Bs ≠ g)
 (J Jx : List (HopX p node t n) -> World -> Prop) (hJ : AbidesFrom W.heap.size J)
 (hY : ∀ pre x W, J pre W -> pre.length < 65 -> YieldAt Fence.wide 3 Tryz.prog l (hopX x) W fun e W' =>
  (e = .returned (.bool true) /\ J (pre ++ [x]) W' /\ KpX n₁ g W W') ∨ (e = .returned (.bool false) /\ Jx (pre ++ [x]) W'))
 (hj : J [] W) :
 CallsIn Fence.wide 4 Tryz.prog 237 #[.func (.yield l) #[] #[], .pointer (some ⟨Bp, 0, none⟩), .pointer (some ⟨Bn, 0, none⟩), .pointer (some ⟨Bt, 0, none⟩), .pointer (some ⟨Bs, 0, none⟩)] W fun e W' => (∃ v, e = .returned v) /\
  ((∃ ys, HopS p node t n ys /\ J ys W') ∨ (∃ pre : List (HopX p node t n), True /\ Jx pre W')) := by
 have hc := kp.cell
 have hm64 := hok.m64
 refine callsIn_of_wp Tryz.func237 rfl trivial ?_ rfl
 simp only [Tryz.ntmps237, List.size_toArray, List.length_cons, List.length_nil, Nat.reduceAdd, Nat.reduceSub, Array.replicate_succ, Array.replicate_zero, List.push_toArray, List.append_toArray, List.nil_append, List.cons_append]
 gi_wp2
 gi_loopw [13] (fun i wr => ∃ (k : Nat) (pre : List (HopX p node t n)), k <= p.cons.length /\ i = .int .i64 k /\ pre.length <= k /\ HopC p node t n pre k /\ J pre wr /\ KpX n₁ g W wr) (fun i _ => p.cons.length - (intOf i).toNat)
 case atStart => exact ⟨0, [], Nat.zero_le _, rfl, Nat.le_refl _, fun i c hi => by omega, hj, KpX.refl _ _ _⟩
 case round =>
  obtain ⟨k, pre, hk, rfl, hpk, hcov, hjr, hK⟩ := hrel
  have hE := hK.ext h0 hn0 hg0
  have kp1 := hK.blk kp bp.1 bp.2
  have kn1 := hK.blk kn bn.1 bn.2
  have kt1 := hK.blk kt bt.1 bt.2
  have ks1 := hK.blk ks bs.1 bs.2
  have hc1 := kp1.cell
  have hcn1 := kn1.cell
  have hct1 := kt1.cell
  have hcs1 := ks1.cell
  have hsz := hK.size
  have Hcov := Lib.hid hcov
  clear hcov
  by_cases hlt : k < p.cons.length
  ·obtain ⟨b, o, rfl, hb, c0, c1, c2, c3, c4, c5, c6⟩ := (h.c.ext hE).con hlt
   have hyc := hok.con _ (List.getElem_mem hlt)
   have hyg : p.cons[k]? = some p.cons[k] := List.getElem?_eq_getElem hlt
   generalize hye : p.cons[k] = y at *
   have Hy := Lib.hid hye
   have Hyg := Lib.hid hyg
   clear hye hyg
   obtain ⟨W3, hW3, hB3, hk3, hl3⟩ := box1 wr y.cells 61
   simp only [Con.cells] at hW3 hk3
   have hck := hk3.cell
   have hjr3 := abides_ext hJ hjr hB3
   have hK3 := hK.trans (KpX.of_ext (g := g) (by omega) hB3)
   have hcp3 := (kp1.ext hB3).cell
   have hcn3 := (kn1.ext hB3).cell
   have hct3 := (kt1.ext hB3).cell
   have hcs3 := (ks1.ext hB3).cell
   have hlk3 := hk3.lt
   have hlp3 := (kp1.ext hB3).lt
   have hln3 := (kn1.ext hB3).lt
   have hlt3 := (kt1.ext hB3).lt
   have hls3 := (ks1.ext hB3).lt
   by_cases hs : y.src = node
   ·have hd : (y.src != node) = false := by simpa using hs
    have Hs := Lib.hid hs
    clear hs
    have hho := fun w h => hop_any Aq cq (some ⟨b, o, none⟩) cc p k y t n w h hlt Hy.out hyc.1 hn ht
    have hr3 : PlnRd W3 Aq cq (some ⟨b, o, none⟩) cc p := (h.ext hE).ext hB3
    by_cases he : earr y t n = -1
    ·have He := Lib.hid he
     rw [hopV_no he] at hho
     have hho3 := hho W3 hr3
     unfold Pln.val at hho3
     clear he hho
     gi_wp2_with (refine ⟨trivial, ?_⟩; gi_at_call 238; refine (callsIn_wide.2 hho3).mono ?_; rintro e w4 ⟨rfl, hb4⟩)
     refine ⟨fun _ h => (by cases h), ?_⟩
     gi_wp2
     go_roundw
     case rel => exact ⟨k + 1, pre, by omega, by go_num, by omega, Hcov.out.skip Hyg.out (.inr He.out), abides_ext hJ hjr3 (hb4.trans ((Ext.refl _).alloc _)), hK3.trans (KpX.of_ext (by omega) (hb4.trans ((Ext.refl _).alloc _)))⟩
     case measure => simp [intOf]; omega
    ·have He := Lib.hid he
     rw [hopV_yes he] at hho
     have hho3 := hho W3 hr3
     unfold Pln.val at hho3
     clear he hho
     gi_wp2_with (refine ⟨trivial, ?_⟩; gi_at_call 238; refine (callsIn_wide.2 hho3).mono ?_; rintro e w4 ⟨rfl, hb4⟩; obtain ⟨W5, hW5, hB5, hk5, hl5⟩ := box1 w4 #[.int .i64 k, .int .i64 (y.beg t), .int .i64 (y.beg t + y.dur n), .int .i64 (earr y t n)] 94; obtain ⟨fn, tmps, assign, body, hy, hR⟩ := hY pre ⟨(k, y), Hyg.out, Hs.out, He.out⟩ W5 (abides_ext hJ hjr3 (hb4.trans hB5)) (by omega); dsimp only [hopX] at hy; have hc5 := hk5.cell)
     refine hR.mono ?_
     rintro e W6 (⟨rfl, hJ6, hk6⟩ | ⟨rfl, hJx6⟩)
     ·gi_wp2
      go_roundw
      case rel => exact ⟨k + 1, _, by omega, by go_num, by simp; omega, Hcov.out.more _ rfl, hJ6, hK3.trans ((KpX.of_ext (by omega) (hb4.trans hB5)).trans hk6)⟩
      case measure => simp [intOf]; omega
     ·gi_wp2
      refine bodyPost_ret (results_none rfl _ _ _) rfl ?_
      exact ⟨⟨_, rfl⟩, .inr ⟨_, trivial, hJx6⟩⟩
   ·have hd : (y.src != node) = true := by simpa using hs
    have Hs := Lib.hid hs
    clear hs
    gi_wp2
    go_roundw
    case rel => exact ⟨k + 1, pre, by omega, by go_num, by omega, Hcov.out.skip Hyg.out (.inl Hs.out), hjr3, hK3⟩
    case measure => simp [intOf]; omega
  ·gi_wp2
   go_end0
   exact ⟨⟨_, rfl⟩, .inl ⟨pre, by unfold HopS; rw [show p.cons.length = k by omega]; exact Hcov.out, hjr⟩⟩
theorem hops_stops (Bp Bn Bt Bs n₁ g : Nat) (Aq : Option Addr) (cq : Nat) (Ac : Option Addr) (cc : Nat) (p : Pln) (node t n : Int) (w0 w : World) (h : PlnRd w0 Aq cq Ac cc p) (hok : p.Ok) (hn : 1 <= n /\ n <= 65536) (ht : 0 <= t)
 (h0 : Ext w0 w) (hn0 : w0.heap.size <= n₁) (hg0 : w0.heap.size <= g) (hn1 : n₁ <= w.heap.size)
 (kp : Blk w Bp 68 #[.slice Aq p.quo.length cq, .slice Ac p.cons.length cc]) (kn : Blk w Bn 3 #[.int .i64 node]) (kt : Blk w Bt 3 #[.int .i64 t]) (ks : Blk w Bs 3 #[.int .i64 n])
 (bp : Bp < n₁ /\ Bp ≠ g) (bn : Bn < n₁ /\ Bn ≠ g) (bt : Bt < n₁ /\ Bt ≠ g) (bs : Bs < n₁ /\ Bs ≠ g) :
 SeqStopsK Fence.wide 4 Tryz.prog 237 #[.pointer (some ⟨Bp, 0, none⟩), .pointer (some ⟨Bn, 0, none⟩), .pointer (some ⟨Bt, 0, none⟩), .pointer (some ⟨Bs, 0, none⟩)] (hopX (p := p) (node := node) (t := t) (n := n)) (KpX n₁ g) (HopS p node t n) (fun _ => True) 65 w :=
 fun l J Jx W hW hJ _ hY hj => hops_iter l Bp Bn Bt Bs n₁ g Aq cq Ac cc p node t n w0 W h hok hn ht (h0.trans hW) hn0 hg0 (Nat.le_trans hn1 (Ext.size hW)) (kp.ext hW) (kn.ext hW) (kt.ext hW) (ks.ext hW) bp bn bt bs J Jx hJ hY hj
set_option maxHeartbeats 400000 in
theorem hops_any (Aq : Option Addr) (cq : Nat) (Ac : Option Addr) (cc : Nat) (p : Pln) (node t n : Int) (w : World) :
 Calls Tryz.prog 159 #[p.val Aq cq Ac cc, .int .i64 node, .int .i64 t, .int .i64 n] w fun e w' =>
  e = .returned (.func (.func 237) #[] #[.pointer (some ⟨w.heap.size, 0, none⟩), .pointer (some ⟨w.heap.size + 1, 0, none⟩), .pointer (some ⟨w.heap.size + 2, 0, none⟩), .pointer (some ⟨w.heap.size + 3, 0, none⟩)]) /\ Ext w w' /\ w'.heap.size = w.heap.size + 4 /\
  Blk w' w.heap.size 68 #[.slice Aq p.quo.length cq, .slice Ac p.cons.length cc] /\ Blk w' (w.heap.size + 1) 3 #[.int .i64 node] /\ Blk w' (w.heap.size + 2) 3 #[.int .i64 t] /\ Blk w' (w.heap.size + 3) 3 #[.int .i64 n] := by
 obtain ⟨W1, hW1, hB1, hk1, hl1⟩ := box1 w #[.slice Aq p.quo.length cq, .slice Ac p.cons.length cc] 68
 have s1 : W1.heap.size = w.heap.size + 1 := by rw [<- hW1]; simp
 obtain ⟨W2, hW2, hB2, hk2, hl2⟩ := box1 W1 #[.int .i64 node] 3
 have s2 : W2.heap.size = w.heap.size + 2 := by rw [<- hW2]; simp [s1]
 obtain ⟨W3, hW3, hB3, hk3, hl3⟩ := box1 W2 #[.int .i64 t] 3
 have s3 : W3.heap.size = w.heap.size + 3 := by rw [<- hW3]; simp [s2]
 obtain ⟨W4, hW4, hB4, hk4, hl4⟩ := box1 W3 #[.int .i64 n] 3
 have s4 : W4.heap.size = w.heap.size + 4 := by rw [<- hW4]; simp [s3]
 rw [s1] at hk2
 rw [s2] at hk3
 rw [s3] at hk4
 have S1 := Lib.hid s1
 have S2 := Lib.hid s2
 have S3 := Lib.hid s3
 have S4 := Lib.hid s4
 clear s1 s2 s3 s4
 unfold Pln.val
 go_enter Tryz.func159, Tryz.ntmps159
 go_wp2
 go_ret
 refine ⟨?_, (hB1.trans hB2).trans (hB3.trans hB4), S4.out, ((hk1.ext hB2).ext hB3).ext hB4, (hk2.ext hB3).ext hB4, hk3.ext hB4, hk4⟩
 rw [S1.out, S2.out, S3.out]
 rfl
end
section
open Go.RowKit Go.Shelf
def mkD (D : Nat) : Deferred := { target := .collected D, args := #[] }
def DSx (hi lo : Nat) (ds : List Deferred) (w : World) : Prop := ∃ Ds : List Nat, ds = Ds.map mkD /\ Ds.Nodup /\ ∀ D ∈ Ds, lo <= D /\ D < hi /\ w.heap[D]? = some (.deferred (some []))
theorem DSx.nil (hi lo : Nat) (w : World) : DSx hi lo [] w := ⟨[], rfl, List.nodup_nil, by simp⟩
theorem DSx.keeps {hi lo : Nat} {ds : List Deferred} {w w' : World} (h : DSx hi lo ds w) (hk : KeepsOthers w w') : DSx hi lo ds w' := by
 obtain ⟨Ds, h1, h2, h3⟩ := h
 exact ⟨Ds, h1, h2, fun D hD => ⟨(h3 D hD).1, (h3 D hD).2.1, hk.same D _ (h3 D hD).2.2 rfl⟩⟩
theorem DSx.ext {hi lo : Nat} {ds : List Deferred} {w w' : World} (h : DSx hi lo ds w) (hk : Ext w w') : DSx hi lo ds w' := h.keeps hk.keeps
theorem DSx.setCell {hi lo : Nat} {ds : List Deferred} {w : World} (h : DSx hi lo ds w) (p : Addr) (v : Value) : DSx hi lo ds (w.setCell p v) := h.keeps (KeepsOthers.setCell w p v)
theorem DSx.more {hi hi' lo : Nat} {ds : List Deferred} {w : World} (h : DSx hi lo ds w) (hh : hi <= hi') : DSx hi' lo ds w := by
 obtain ⟨Ds, h1, h2, h3⟩ := h
 exact ⟨Ds, h1, h2, fun D hD => ⟨(h3 D hD).1, by have := (h3 D hD).2.1; omega, (h3 D hD).2.2⟩⟩
theorem DSx.top {hi lo : Nat} {ds : List Deferred} {w : World} (h : DSx hi lo ds w) : DSx w.heap.size lo ds w := by
 obtain ⟨Ds, h1, h2, h3⟩ := h
 exact ⟨Ds, h1, h2, fun D hD => ⟨(h3 D hD).1, (Array.getElem?_eq_some_iff.1 (h3 D hD).2.2).1, (h3 D hD).2.2⟩⟩
theorem DSx.cons {hi lo D : Nat} {ds : List Deferred} {w : World} (h : DSx hi lo ds w) (hD : hi <= D) (hlo : lo <= D) (hk : w.heap[D]? = some (.deferred (some []))) : DSx w.heap.size lo (mkD D :: ds) w := by
 obtain ⟨Ds, h1, h2, h3⟩ := h
 refine ⟨D :: Ds, by rw [h1]; rfl, List.nodup_cons.2 ⟨fun hm => by have := (h3 D hm).2.1; omega, h2⟩, fun D' hD' => ?_⟩
 rcases List.mem_cons.1 hD' with rfl | hm
 ·exact ⟨hlo, (Array.getElem?_eq_some_iff.1 hk).1, hk⟩
 ·exact ⟨(h3 D' hm).1, (Array.getElem?_eq_some_iff.1 (h3 D' hm).2.2).1, (h3 D' hm).2.2⟩
theorem DSx.kept {hi lo : Nat} {ds : List Deferred} {w w' : World} (h : DSx hi lo ds w) {row : Option Nat} (hg : w.grownBy w' row) (hr : ∀ r, row = some r -> hi <= r) : DSx hi lo ds w' := by
 obtain ⟨Ds, h1, h2, h3⟩ := h
 refine ⟨Ds, h1, h2, fun D hD => ⟨(h3 D hD).1, (h3 D hD).2.1, ?_⟩⟩
 have h4 := (h3 D hD).2.2
 exact (hg.block D (Array.getElem?_eq_some_iff.1 h4).1 (fun e => by have := hr D e.symm; have := (h3 D hD).2.1; omega)).trans h4
theorem Owns.keptc {α : Type} {E : Elt α} {w w' : World} {base : Nat} {e : TypeId} {v : Value} {l : List α} (h : Owns E w base e v l) {row : Option Nat} (hg : w.grownBy w' row) (hr : ∀ r, row = some r -> ∃ o : Obj, w.heap[r]? = some o /\ o.isCells = false) : Owns E w' base e v l := by
 refine h.kept hg (fun g hv e' => ?_)
 obtain ⟨o, ho, hc⟩ := hr g e'.symm
 rcases h.2 with ⟨rfl, _⟩ | ⟨g', cap, cur, rfl, _, hh, _⟩
 ·cases hv
 ·injection hv with hv
  subst hv
  rw [hh] at ho
  injection ho with ho
  subst ho
  cases hc
theorem Blk.keptc {w w' : World} {g : Nat} {t : TypeId} {cs : Array Value} (h : Blk w g t cs) {row : Option Nat} (hg : w.grownBy w' row) (hr : ∀ r, row = some r -> ∃ o : Obj, w.heap[r]? = some o /\ o.isCells = false) : Blk w' g t cs :=
 h.kept hg (fun e' => by
  obtain ⟨o, ho, hc⟩ := hr g e'.symm
  have h2 : w.heap[g]? = some (.cells cs t (0, 0)) := h
  rw [h2] at ho; cases ho; cases hc)
theorem Ext.keptb {w0 w w' : World} (h : Ext w0 w) {row : Option Nat} (hg : w.grownBy w' row) (hr : ∀ r, row = some r -> w0.heap.size <= r) : Ext w0 w' :=
 Below.grown h hg h.size (fun k e => hr k e)
theorem leavesM_ds {F : Fence} {n : Nat} {P : Program} {fn : Func} {tmps : Array Value} {R : Ending -> World -> Prop} {lo : Nat} : ∀ (Ds : List Nat) (w : World), Ds.Nodup -> (∀ D ∈ Ds, lo <= D /\ w.heap[D]? = some (.deferred (some []))) ->
 (∀ w', (∀ I : World -> Prop, OwnFrom lo (fun (_ : Unit) W => I W) -> I w -> I w') -> LeavesIn F n P fn tmps R [] .returning w') -> LeavesInM F n P fn tmps R (Ds.map mkD) .returning w
 | [], w, _, _, h => h w (fun I _ hI => hI)
 | D :: Ds, w, hnd, hD, h => by
   have hnd2 := List.nodup_cons.1 hnd
   have hk := (hD D (by simp)).2
   refine ⟨by simp, .inl ⟨D, _, rfl, run_takeDeferred hk, ?_⟩⟩
   refine leavesM_ds Ds _ hnd2.2 (fun D' hm => ⟨(hD D' (by simp [hm])).1, ?_⟩) (fun w' hw' => h w' (fun I hI hi => hw' I hI (hI.putObj (s := ()) _ hi (hD D (by simp)).1 hk rfl)))
   rw [World.putObj_heap_other (fun e => hnd2.1 (by rw [<- e]; exact hm))]
   exact (hD D' (by simp [hm])).2
theorem DSx.leaves {F : Fence} {n : Nat} {P : Program} {fn : Func} {tmps : Array Value} {R : Ending -> World -> Prop} {hi lo : Nat} {ds : List Deferred} {w : World} (hd : DSx hi lo ds w)
 (h : ∀ w', (∀ I : World -> Prop, OwnFrom lo (fun (_ : Unit) W => I W) -> I w -> I w') -> LeavesIn F n P fn tmps R [] .returning w') : LeavesInM F n P fn tmps R ds .returning w := by
 obtain ⟨Ds, rfl, h2, h3⟩ := hd
 exact leavesM_ds Ds w h2 (fun D hD => ⟨(h3 D hD).1, (h3 D hD).2.2⟩) h
end
end Go.Proofs.YtemkpimngbbpkaaGreat

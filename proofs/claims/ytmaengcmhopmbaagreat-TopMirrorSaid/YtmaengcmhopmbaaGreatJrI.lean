
/- Layer 24 (journey): the iterator over the hops from a node. -/
import Derived.Test.YtmaengcmhopmbaaGreatJrW4
namespace Go.Proofs.YtmaengcmhopmbaaGreat
set_option linter.unusedVariables false
open Go.RowKit Go.Shelf
attribute [local go_sem] Oper.semAt_some

/-- What a round keeps: all below n but the block g. -/
structure KpX (n g : Nat) (W W' : World) : Prop where
  os : W'.os = W.os
  tape : W'.tape = W.tape
  output : W'.output = W.output
  size : W.heap.size ≤ W'.heap.size
  block : ∀ k, k < n → k ≠ g → W'.heap[k]? = W.heap[k]?
theorem KpX.refl (n g : Nat) (W : World) : KpX n g W W := ⟨rfl, rfl, rfl, Nat.le_refl _, fun _ _ _ => rfl⟩
theorem KpX.trans {n g : Nat} {A B C : World} (h : KpX n g A B) (k : KpX n g B C) : KpX n g A C :=
  ⟨k.os.trans h.os, k.tape.trans h.tape, k.output.trans h.output, Nat.le_trans h.size k.size, fun i h1 h2 => (k.block i h1 h2).trans (h.block i h1 h2)⟩
theorem KpX.of_ext {n g : Nat} {W W' : World} (hn : n ≤ W.heap.size) (h : Ext W W') : KpX n g W W' :=
  ⟨h.os, h.tape, h.output, h.size, fun k hk _ => h.block k (by omega)⟩
theorem KpX.setCell {n g : Nat} (W : World) (o : Nat) (v : Value) : KpX n g W (W.setCell ⟨g, o, none⟩ v) :=
  ⟨rfl, rfl, rfl, by simp [World.setCell], fun k _ hne => Below.heap_setCell W ⟨g, o, none⟩ v k (fun e => hne (by rw [e]))⟩
theorem KpX.put {n g : Nat} (W : World) (l : Nat) (o : Obj) (hl : n ≤ l) : KpX n g W (W.putObj l o) :=
  ⟨rfl, rfl, rfl, by simp, fun k hk _ => World.putObj_heap_other (by omega)⟩
theorem KpX.blk {n g : Nat} {W W' : World} (h : KpX n g W W') {b : Nat} {t : TypeId} {cs : Array Value} (hb : Blk W b t cs) (h1 : b < n) (h2 : b ≠ g) : Blk W' b t cs := (h.block b h1 h2).trans hb
theorem KpX.below {n g B : Nat} {W W' : World} (h : KpX n g W W') (h1 : B ≤ n) (h2 : B ≤ g) : Below B W W' :=
  ⟨h.os, h.tape, h.output, h.size, fun k hk => h.block k (by omega) (by omega)⟩
theorem KpX.ext {n g : Nat} {w W W' : World} (h : KpX n g W W') (hw : Ext w W) (h1 : w.heap.size ≤ n) (h2 : w.heap.size ≤ g) : Ext w W' := Below.trans hw (h.below h1 h2)
theorem grown_none {W W' : World} (h : Ext W W') : W.grownBy W' none := grown_ext (World.grownBy.refl W none) h
theorem abides_ext {β : Type} {B : Nat} {J : β → World → Prop} (h : AbidesFrom B J) {s : β} {W W' : World} (hs : J s W) (he : Ext W W') : J s W' :=
  h s W W' none hs (grown_none he) (fun r e => by cases e)

abbrev HopX (p : Pln) (node t n : Int) := { x : Nat × Con // p.cons[x.1]? = some x.2 ∧ x.2.src = node ∧ earr x.2 t n ≠ -1 }
def HopC (p : Pln) (node t n : Int) (pre : List (HopX p node t n)) (k : Nat) : Prop := ∀ i c, i < k → p.cons[i]? = some c → c.src = node → earr c t n ≠ -1 → ∃ x ∈ pre, x.1 = (i, c)
theorem HopC.skip {p : Pln} {node t n : Int} {pre : List (HopX p node t n)} {k : Nat} {y : Con} (h : HopC p node t n pre k) (hy : p.cons[k]? = some y) (hn : y.src ≠ node ∨ earr y t n = -1) : HopC p node t n pre (k + 1) := by
  intro i c hi hc hs he
  by_cases e : i = k
  · subst e
    rw [hy] at hc; cases hc
    rcases hn with hn | hn
    · exact absurd hs hn
    · exact absurd hn he
  · exact h i c (by omega) hc hs he
theorem HopC.more {p : Pln} {node t n : Int} {pre : List (HopX p node t n)} {k : Nat} (h : HopC p node t n pre k) (x : HopX p node t n) (hx : x.1.1 = k) : HopC p node t n (pre ++ [x]) (k + 1) := by
  intro i c hi hc hs he
  by_cases e : i = k
  · subst e
    refine ⟨x, by simp, ?_⟩
    have h1 := x.2.1
    rw [hx, hc] at h1
    injection h1 with h1
    rw [← hx]
    exact Prod.ext rfl h1.symm
  · obtain ⟨y, hy, e2⟩ := h i c (by omega) hc hs he
    exact ⟨y, by simp [hy], e2⟩
def HopS (p : Pln) (node t n : Int) (ys : List (HopX p node t n)) : Prop := HopC p node t n ys p.cons.length
theorem hopV_yes {i : Nat} {c : Con} {t n : Int} (he : earr c t n ≠ -1) : hopV i c t n = .tuple #[.agg #[.int .i64 i, .int .i64 (c.beg t), .int .i64 (c.beg t + c.dur n), .int .i64 (earr c t n)], .bool true] := by
  have hd : decide (earr c t n ≠ -1) = true := by simpa using he
  unfold hopV hopR
  rw [if_neg he, hd]
  unfold Hp.val
  rw [hopAt_arr he]
  rfl
theorem hopV_no {i : Nat} {c : Con} {t n : Int} (he : earr c t n = -1) : hopV i c t n = .tuple #[.agg #[.int .i64 0, .int .i64 0, .int .i64 0, .int .i64 0], .bool false] := by
  simp [hopV, hopR, he, Hp.val]
def hopX {p : Pln} {node t n : Int} (x : HopX p node t n) : Array Value := #[.agg #[.int .i64 x.1.1, .int .i64 (x.1.2.beg t), .int .i64 (x.1.2.beg t + x.1.2.dur n), .int .i64 (earr x.1.2 t n)]]

set_option maxRecDepth 100000 in
set_option maxHeartbeats 4000000 in
theorem hops_iter (l Bp Bn Bt Bs n₁ g : Nat) (Aq : Option Addr) (cq : Nat) (Ac : Option Addr) (cc : Nat) (p : Pln) (node t n : Int) (w0 W : World) (h : PlnRd w0 Aq cq Ac cc p) (hok : p.Ok) (hn : 1 ≤ n ∧ n ≤ 65536) (ht : 0 ≤ t)
    (h0 : Ext w0 W) (hn0 : w0.heap.size ≤ n₁) (hg0 : w0.heap.size ≤ g) (hn1 : n₁ ≤ W.heap.size)
    (kp : Blk W Bp 25 #[.slice Aq p.quo.length cq, .slice Ac p.cons.length cc]) (kn : Blk W Bn 3 #[.int .i64 node]) (kt : Blk W Bt 3 #[.int .i64 t]) (ks : Blk W Bs 3 #[.int .i64 n])
    (bp : Bp < n₁ ∧ Bp ≠ g) (bn : Bn < n₁ ∧ Bn ≠ g) (bt : Bt < n₁ ∧ Bt ≠ g) (bs : Bs < n₁ ∧ Bs ≠ g)
    (J Jx : List (HopX p node t n) → World → Prop) (hJ : AbidesFrom W.heap.size J)
    (hY : ∀ pre x W, J pre W → pre.length < 65 → YieldAt Fence.wide 3 Tryz.prog l (hopX x) W fun e W' =>
      (e = .returned (.bool true) ∧ J (pre ++ [x]) W' ∧ KpX n₁ g W W') ∨ (e = .returned (.bool false) ∧ Jx (pre ++ [x]) W'))
    (hj : J [] W) :
    CallsIn Fence.wide 4 Tryz.prog 83 #[.func (.yield l) #[] #[], .pointer (some ⟨Bp, 0, none⟩), .pointer (some ⟨Bn, 0, none⟩), .pointer (some ⟨Bt, 0, none⟩), .pointer (some ⟨Bs, 0, none⟩)] W fun e W' => (∃ v, e = .returned v) ∧
      ((∃ ys, HopS p node t n ys ∧ J ys W') ∨ (∃ pre : List (HopX p node t n), True ∧ Jx pre W')) := by
  have hc := kp.cell
  have hm64 := hok.m64
  refine callsIn_of_wp Tryz.func83 rfl trivial ?_ rfl
  simp only [Tryz.ntmps83, List.size_toArray, List.length_cons, List.length_nil, Nat.reduceAdd, Nat.reduceSub, Array.replicate_succ, Array.replicate_zero, List.push_toArray, List.append_toArray, List.nil_append, List.cons_append]
  gi_wp2
  gi_loopw [13] (fun i wr => ∃ (k : Nat) (pre : List (HopX p node t n)), k ≤ p.cons.length ∧ i = .int .i64 k ∧ pre.length ≤ k ∧ HopC p node t n pre k ∧ J pre wr ∧ KpX n₁ g W wr) (fun i _ => p.cons.length - (intOf i).toNat)
  case atStart => exact ⟨0, [], Nat.zero_le _, rfl, Nat.le_refl _, fun i c hi => by omega, hj, KpX.refl _ _ _⟩
  case round =>
    obtain ⟨k, pre, hk, rfl, hpk, hcov, hjr, hK⟩ := hrel
    have hE := hK.ext h0 hn0 hg0
    have kp1 := hK.blk kp bp.1 bp.2
    have kn1 := hK.blk kn bn.1 bn.2
    have kt1 := hK.blk kt bt.1 bt.2
    have ks1 := hK.blk ks bs.1 bs.2
    have hc1 := kp1.cell
    have hcn1 := kn1.cell
    have hct1 := kt1.cell
    have hcs1 := ks1.cell
    have hsz := hK.size
    have Hcov := Lib.hid hcov
    clear hcov
    by_cases hlt : k < p.cons.length
    · obtain ⟨b, o, rfl, hb, c0, c1, c2, c3, c4, c5, c6⟩ := (h.c.ext hE).con hlt
      have hyc := hok.con _ (List.getElem_mem hlt)
      have hyg : p.cons[k]? = some p.cons[k] := List.getElem?_eq_getElem hlt
      generalize hye : p.cons[k] = y at *
      have Hy := Lib.hid hye
      have Hyg := Lib.hid hyg
      clear hye hyg
      obtain ⟨W3, hW3, hB3, hk3, hl3⟩ := box1 wr y.cells 61
      simp only [Con.cells] at hW3 hk3
      have hck := hk3.cell
      have hjr3 := abides_ext hJ hjr hB3
      have hK3 := hK.trans (KpX.of_ext (g := g) (by omega) hB3)
      have hcp3 := (kp1.ext hB3).cell
      have hcn3 := (kn1.ext hB3).cell
      have hct3 := (kt1.ext hB3).cell
      have hcs3 := (ks1.ext hB3).cell
      have hlk3 := hk3.lt
      have hlp3 := (kp1.ext hB3).lt
      have hln3 := (kn1.ext hB3).lt
      have hlt3 := (kt1.ext hB3).lt
      have hls3 := (ks1.ext hB3).lt
      by_cases hs : y.src = node
      · have hd : (y.src != node) = false := by simpa using hs
        have Hs := Lib.hid hs
        clear hs
        have hho := fun w h => hop_any Aq cq (some ⟨b, o, none⟩) cc p k y t n w h hlt Hy.out hyc.1 hn ht
        have hr3 : PlnRd W3 Aq cq (some ⟨b, o, none⟩) cc p := (h.ext hE).ext hB3
        by_cases he : earr y t n = -1
        · have He := Lib.hid he
          rw [hopV_no he] at hho
          have hho3 := hho W3 hr3
          unfold Pln.val at hho3
          clear he hho
          gi_wp2_with (refine ⟨trivial, ?_⟩; gi_at_call 46; refine (callsIn_wide.2 hho3).mono ?_; rintro e w4 ⟨rfl, hb4⟩)
          refine ⟨fun _ h => (by cases h), ?_⟩
          gi_wp2
          go_roundw
          case rel => exact ⟨k + 1, pre, by omega, by go_num, by omega, Hcov.out.skip Hyg.out (.inr He.out), abides_ext hJ hjr3 (hb4.trans ((Ext.refl _).alloc _)), hK3.trans (KpX.of_ext (by omega) (hb4.trans ((Ext.refl _).alloc _)))⟩
          case measure => simp [intOf]; omega
        · have He := Lib.hid he
          rw [hopV_yes he] at hho
          have hho3 := hho W3 hr3
          unfold Pln.val at hho3
          clear he hho
          gi_wp2_with (refine ⟨trivial, ?_⟩; gi_at_call 46; refine (callsIn_wide.2 hho3).mono ?_; rintro e w4 ⟨rfl, hb4⟩; obtain ⟨W5, hW5, hB5, hk5, hl5⟩ := box1 w4 #[.int .i64 k, .int .i64 (y.beg t), .int .i64 (y.beg t + y.dur n), .int .i64 (earr y t n)] 40; obtain ⟨fn, tmps, assign, body, hy, hR⟩ := hY pre ⟨(k, y), Hyg.out, Hs.out, He.out⟩ W5 (abides_ext hJ hjr3 (hb4.trans hB5)) (by omega); dsimp only [hopX] at hy; have hc5 := hk5.cell)
          refine hR.mono ?_
          rintro e W6 (⟨rfl, hJ6, hk6⟩ | ⟨rfl, hJx6⟩)
          · gi_wp2
            go_roundw
            case rel => exact ⟨k + 1, _, by omega, by go_num, by simp; omega, Hcov.out.more _ rfl, hJ6, hK3.trans ((KpX.of_ext (by omega) (hb4.trans hB5)).trans hk6)⟩
            case measure => simp [intOf]; omega
          · gi_wp2
            refine bodyPost_ret (results_none rfl _ _ _) rfl ?_
            exact ⟨⟨_, rfl⟩, .inr ⟨_, trivial, hJx6⟩⟩
      · have hd : (y.src != node) = true := by simpa using hs
        have Hs := Lib.hid hs
        clear hs
        gi_wp2
        go_roundw
        case rel => exact ⟨k + 1, pre, by omega, by go_num, by omega, Hcov.out.skip Hyg.out (.inl Hs.out), hjr3, hK3⟩
        case measure => simp [intOf]; omega
    · gi_wp2
      go_end0
      exact ⟨⟨_, rfl⟩, .inl ⟨pre, by unfold HopS; rw [show p.cons.length = k by omega]; exact Hcov.out, hjr⟩⟩

theorem hops_stops (Bp Bn Bt Bs n₁ g : Nat) (Aq : Option Addr) (cq : Nat) (Ac : Option Addr) (cc : Nat) (p : Pln) (node t n : Int) (w0 w : World) (h : PlnRd w0 Aq cq Ac cc p) (hok : p.Ok) (hn : 1 ≤ n ∧ n ≤ 65536) (ht : 0 ≤ t)
    (h0 : Ext w0 w) (hn0 : w0.heap.size ≤ n₁) (hg0 : w0.heap.size ≤ g) (hn1 : n₁ ≤ w.heap.size)
    (kp : Blk w Bp 25 #[.slice Aq p.quo.length cq, .slice Ac p.cons.length cc]) (kn : Blk w Bn 3 #[.int .i64 node]) (kt : Blk w Bt 3 #[.int .i64 t]) (ks : Blk w Bs 3 #[.int .i64 n])
    (bp : Bp < n₁ ∧ Bp ≠ g) (bn : Bn < n₁ ∧ Bn ≠ g) (bt : Bt < n₁ ∧ Bt ≠ g) (bs : Bs < n₁ ∧ Bs ≠ g) :
    SeqStopsK Fence.wide 4 Tryz.prog 83 #[.pointer (some ⟨Bp, 0, none⟩), .pointer (some ⟨Bn, 0, none⟩), .pointer (some ⟨Bt, 0, none⟩), .pointer (some ⟨Bs, 0, none⟩)] (hopX (p := p) (node := node) (t := t) (n := n)) (KpX n₁ g) (HopS p node t n) (fun _ => True) 65 w :=
  fun l J Jx W hW hJ _ hY hj => hops_iter l Bp Bn Bt Bs n₁ g Aq cq Ac cc p node t n w0 W h hok hn ht (h0.trans hW) hn0 hg0 (Nat.le_trans hn1 (Ext.size hW)) (kp.ext hW) (kn.ext hW) (kt.ext hW) (ks.ext hW) bp bn bt bs J Jx hJ hY hj

set_option maxHeartbeats 400000 in
theorem hops_any (Aq : Option Addr) (cq : Nat) (Ac : Option Addr) (cc : Nat) (p : Pln) (node t n : Int) (w : World) :
    Calls Tryz.prog 43 #[p.val Aq cq Ac cc, .int .i64 node, .int .i64 t, .int .i64 n] w fun e w' =>
      e = .returned (.func (.func 83) #[] #[.pointer (some ⟨w.heap.size, 0, none⟩), .pointer (some ⟨w.heap.size + 1, 0, none⟩), .pointer (some ⟨w.heap.size + 2, 0, none⟩), .pointer (some ⟨w.heap.size + 3, 0, none⟩)]) ∧ Ext w w' ∧ w'.heap.size = w.heap.size + 4 ∧
      Blk w' w.heap.size 25 #[.slice Aq p.quo.length cq, .slice Ac p.cons.length cc] ∧ Blk w' (w.heap.size + 1) 3 #[.int .i64 node] ∧ Blk w' (w.heap.size + 2) 3 #[.int .i64 t] ∧ Blk w' (w.heap.size + 3) 3 #[.int .i64 n] := by
  obtain ⟨W1, hW1, hB1, hk1, hl1⟩ := box1 w #[.slice Aq p.quo.length cq, .slice Ac p.cons.length cc] 25
  have s1 : W1.heap.size = w.heap.size + 1 := by rw [← hW1]; simp
  obtain ⟨W2, hW2, hB2, hk2, hl2⟩ := box1 W1 #[.int .i64 node] 3
  have s2 : W2.heap.size = w.heap.size + 2 := by rw [← hW2]; simp [s1]
  obtain ⟨W3, hW3, hB3, hk3, hl3⟩ := box1 W2 #[.int .i64 t] 3
  have s3 : W3.heap.size = w.heap.size + 3 := by rw [← hW3]; simp [s2]
  obtain ⟨W4, hW4, hB4, hk4, hl4⟩ := box1 W3 #[.int .i64 n] 3
  have s4 : W4.heap.size = w.heap.size + 4 := by rw [← hW4]; simp [s3]
  rw [s1] at hk2
  rw [s2] at hk3
  rw [s3] at hk4
  have S1 := Lib.hid s1
  have S2 := Lib.hid s2
  have S3 := Lib.hid s3
  have S4 := Lib.hid s4
  clear s1 s2 s3 s4
  unfold Pln.val
  go_enter Tryz.func43, Tryz.ntmps43
  go_wp2
  go_ret
  refine ⟨?_, (hB1.trans hB2).trans (hB3.trans hB4), S4.out, ((hk1.ext hB2).ext hB3).ext hB4, (hk2.ext hB3).ext hB4, hk3.ext hB4, hk4⟩
  rw [S1.out, S2.out, S3.out]
  rfl

end Go.Proofs.YtmaengcmhopmbaaGreat

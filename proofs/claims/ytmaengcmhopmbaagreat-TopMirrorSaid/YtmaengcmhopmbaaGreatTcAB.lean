/- TopMirror: route.Check accepts what is a route. · TopMirror: the iterator over the places of a way. -/
import Derived.Test.YtmaengcmhopmbaaGreatTaT
import Derived.Test.YtmaengcmhopmbaaGreatRgnN
namespace Go.Proofs.YtmaengcmhopmbaaGreat
set_option linter.unusedVariables false
set_option linter.unusedSimpArgs false
open Go.RowKit Go.Shelf
attribute [local go_sem] Oper.semAt_some

theorem run_neq_hopT (w : World) (a b c d : Int) :
    (binOp .neq 40 (.agg #[.int .i64 a, .int .i64 b, .int .i64 c, .int .i64 d]) (.agg #[.int .i64 a, .int .i64 b, .int .i64 c, .int .i64 d])).run Tryz.prog w = .ok (.bool false) w := by
  go_simp

set_option maxRecDepth 100000 in
set_option maxHeartbeats 8000000 in
theorem checkHop_ok (Aq : Option Addr) (cq : Nat) (Ac : Option Addr) (cc : Nat) (p : Pln) (q : Req) (nd tm i b : Int) (w : World) (h : PlnRd w Aq cq Ac cc p) (hok : p.Ok) (hi : 0 ≤ i ∧ i < p.cons.length) (hn : 1 ≤ q.size ∧ q.size ≤ 65536)
    (hsrc : (gc p.cons i).src = nd) (hnd : nd ≠ q.dst) (htm : tm ≤ b) (hfit : (gc p.cons i).fitsR b q.size = true) (hb : 0 ≤ b ∧ b ≤ 1099511627776) :
    Calls Tryz.prog 25 #[.agg #[.slice Aq p.quo.length cq, .slice Ac p.cons.length cc], q.val, .agg #[.int .i64 nd, .int .i64 tm], .agg #[.int .i64 i, .int .i64 b, .int .i64 (b + (gc p.cons i).dur q.size), .int .i64 (b + (gc p.cons i).dur q.size + (gc p.cons i).rng)]] w fun e w' => e = .returned (.int .i64 0) ∧ Ext w w' := by
  have hcl : i.toNat < p.cons.length := by omega
  have hgc := gc_get hcl
  have hho := fun w h => thop_any Aq cq Ac cc p q i b w h hok hi hn hb
  have hFi := fun w => Fits_any (gc p.cons i) b q.size w
  rw [hfit] at hFi
  rw [hgc] at hho hFi hsrc ⊢
  obtain ⟨W1, hW1, hB1, hkp, hl1⟩ := box1 w #[.slice Aq p.quo.length cq, .slice Ac p.cons.length cc] 25
  obtain ⟨W2, hW2, hB2, hkq, hl2⟩ := box1 W1 q.cells 27
  obtain ⟨W3, hW3, hB3, hkt, hl3⟩ := box1 W2 #[.int .i64 nd, .int .i64 tm] 71
  obtain ⟨bc, oc, rfl, hbc, j0, j1, j2, j3, j4, j5, j6⟩ := ((h.c.ext hB1).ext (hB2.trans hB3)).con hcl
  generalize p.cons[i.toNat] = c at *
  obtain ⟨W4, hW4, hB4, hkh, hl4⟩ := box1 W3 #[.int .i64 i, .int .i64 b, .int .i64 (b + c.dur q.size), .int .i64 (b + c.dur q.size + c.rng)] 40
  have hE := ((hB1.trans hB2).trans hB3).trans hB4
  have hrd := h.ext hE
  have kp4 := (hkp.ext (hB2.trans hB3)).ext hB4
  have kq4 := (hkq.ext hB3).ext hB4
  have kt4 := hkt.ext hB4
  simp only [Req.cells] at hW2 kq4
  have a1 := kp4.cell
  have a2 := kp4.lt
  have a3 := kq4.cell
  have a4 := kq4.lt
  have a5 := kt4.cell
  have a6 := kt4.lt
  have a7 := hkh.cell
  have a8 := hkh.lt
  replace j0 := hB4.cell_some j0
  replace j1 := hB4.cell_some j1
  replace j2 := hB4.cell_some j2
  replace j3 := hB4.cell_some j3
  replace j4 := hB4.cell_some j4
  replace j5 := hB4.cell_some j5
  replace j6 := hB4.cell_some j6
  have hbc4 := Nat.lt_of_lt_of_le hbc hB4.size
  have hcm := h.cm
  have i0 := hi.1
  have i1 := hi.2
  have dn0 : decide (i < 0) = false := decide_eq_false (by omega)
  have dn1 : decide ((p.cons.length : Int) ≤ i) = false := decide_eq_false (by omega)
  have d1 : (c.src != nd) = false := by simpa using hsrc
  have d2 : (nd == q.dst) = false := by simpa using hnd
  have d3 : decide (b < tm) = false := decide_eq_false (by omega)
  have Hgc := Lib.hid hgc
  have q22 := run_neq_hopT
  unfold Pln.val Req.val at hho
  unfold Con.val at hFi
  unfold Req.val
  clear hsrc hnd htm hgc hfit
  go_enter Tryz.func25, Tryz.ntmps25
  go_wp2_with fail
  clear hW1 hW2 hW3 hW4
  obtain ⟨W5, hW5, hB5, hkc, hl5⟩ := box1 W4 c.cells 61
  simp only [Con.cells] at hW5 hkc
  rw [hW5]
  clear hW5
  refine (hFi _).mono ?_
  clear hFi
  rintro e w6 ⟨rfl, hb6⟩
  have hx6 := hB5.trans hb6
  have kp6 := kp4.ext hx6
  have kq6 := kq4.ext hx6
  have kh6 := hkh.ext hx6
  clear a1 a2 a3 a4 a5 a6 a7 a8
  have a1 := kp6.cell
  have a2 := kp6.lt
  have a3 := kq6.cell
  have a4 := kq6.lt
  have a7 := kh6.cell
  have a8 := kh6.lt
  have hN := Near.refl w6
  have hC := hN.2
  have hcQ := fun d os => hho (Sort.grow (redrawn w6 d) os) ((hrd.ext hx6).ext (below_regrown w6 d os))
  clear hho
  go_wp2_with fail
  have hq := quiet_near hN
  refine wp_region_quiet_below (by kernel_rfl) (by kernel_rfl) ?_
  repeat (first | go_big_quiet_skip | (go_big_quiet_want; go_big_quiet_op; first | go_big_quiet_on | (apply Exists.intro; refine ⟨fun _ => ?_, ?_⟩; (focus (first | (go_at_call 52; with_reducible exact Calls.regrown_of (hcQ _ _)))); go_big_quiet_on)))
  refine wpQuiet_nil ?_
  intro w1 hw1
  clear hq
  replace hw1 := quiet_ext hw1
  replace hN := hN.step hw1
  have hC := hN.2
  go_wp2
  go_ret
  exact ⟨rfl, (hE.trans hx6).trans hN.1⟩

end Go.Proofs.YtmaengcmhopmbaaGreat

namespace Go.Proofs.YtmaengcmhopmbaaGreat
set_option linter.unusedVariables false
set_option linter.unusedSimpArgs false
open Go.RowKit Go.Shelf
attribute [local go_sem] Oper.semAt_some

/-- When a way has come behind k hops. -/
def tmK (rdy : Int) (l : List Hp) : Nat → Int
  | 0 => rdy
  | k + 1 => (l.getD k ⟨0, 0, 0, 0⟩).arr
abbrev PlX (l : List Hp) := { k : Nat // k < l.length }
def plX (cons : List Con) (q : Req) {l : List Hp} (x : PlX l) : Array Value :=
  #[.agg #[.int .i64 (ndK cons q.src l x.1), .int .i64 (tmK q.ready l x.1)], .agg #[.int .i64 (l[x.1]'x.2).con, .int .i64 (l[x.1]'x.2).beg, .int .i64 (l[x.1]'x.2).en, .int .i64 (l[x.1]'x.2).arr]]

set_option maxRecDepth 100000 in
set_option maxHeartbeats 8000000 in
theorem places_iter (ll Bq Bl Bp n₁ : Nat) (Aq : Option Addr) (cq : Nat) (Ac : Option Addr) (cc : Nat) (p : Pln) (q : Req) (Ah : Option Addr) (ch : Nat) (hops : List Hp) (w0 W : World) (h : PlnRd w0 Aq cq Ac cc p) (hR : Rd EHp w0 Ah hops) (hm : hops.length ≤ 64)
    (hcon : ∀ k (h : k < hops.length), 0 ≤ hops[k].con ∧ hops[k].con < p.cons.length) (h0 : Ext w0 W) (hn0 : w0.heap.size ≤ n₁)
    (kq : Blk W Bq 27 q.cells) (kl : Blk W Bl 34 #[.slice Ah hops.length ch]) (kp : Blk W Bp 25 #[.slice Aq p.quo.length cq, .slice Ac p.cons.length cc])
    (J Jx : List (PlX hops) → World → Prop) (hJ : AbN W.heap.size J)
    (hY : ∀ pre x W, J pre W → pre.length < 65 → YieldAt Fence.wide 3 Tryz.prog ll (plX p.cons q x) W fun e W' =>
      (e = .returned (.bool true) ∧ J (pre ++ [x]) W' ∧ KpC n₁ W W') ∨ (e = .returned (.bool false) ∧ Jx (pre ++ [x]) W'))
    (hj : J [] W) :
    CallsIn Fence.wide 4 Tryz.prog 50 #[.func (.yield ll) #[] #[], .pointer (some ⟨Bq, 0, none⟩), .pointer (some ⟨Bl, 0, none⟩), .pointer (some ⟨Bp, 0, none⟩)] W fun e W' => (∃ v, e = .returned v) ∧
      ((∃ ys : List (PlX hops), True ∧ J ys W') ∨ (∃ pre : List (PlX hops), True ∧ Jx pre W')) := by
  obtain ⟨W1, hW1, hB1, hk1, hl1⟩ := box1 W #[.int .i64 q.src, .int .i64 q.ready] 71
  have kq1 := kq.ext hB1
  have kl1 := kl.ext hB1
  have kp1 := kp.ext hB1
  have bq := kq.lt
  have bl := kl.lt
  have bp := kp.lt
  have kqq := kq
  simp only [Req.cells] at kqq
  have a1 := kqq.cell
  have a2 := kqq.lt
  have a3 := kl1.cell
  have a4 := kl1.lt
  have hcm := h.cm
  have hj1 := hJ _ _ _ none hj (grown_none hB1) (fun r e => by cases e)
  have hs1 := hB1.size
  refine callsIn_of_wp Tryz.func50 rfl trivial ?_ rfl
  simp only [Tryz.ntmps50, List.size_toArray, List.length_cons, List.length_nil, Nat.reduceAdd, Nat.reduceSub, Array.replicate_succ, Array.replicate_zero, List.push_toArray, List.append_toArray, List.nil_append, List.cons_append]
  gi_wp2
  gi_loopw [15] (fun i wr => ∃ (k : Nat) (pre : List (PlX hops)), k ≤ hops.length ∧ i = .int .i64 k ∧ pre.length ≤ k ∧ J pre wr ∧ Blk wr Bq 27 q.cells ∧ Blk wr Bl 34 #[.slice Ah hops.length ch] ∧ Blk wr Bp 25 #[.slice Aq p.quo.length cq, .slice Ac p.cons.length cc] ∧ Blk wr W.heap.size 71 #[.int .i64 (ndK p.cons q.src hops k), .int .i64 (tmK q.ready hops k)] ∧ Ext w0 wr ∧ W1.heap.size ≤ wr.heap.size) (fun i _ => hops.length - (intOf i).toNat)
  case atStart => exact ⟨0, [], Nat.zero_le _, rfl, Nat.le_refl _, hj1, kq1, kl1, kp1, hk1, h0.trans hB1, Nat.le_refl _⟩
  case round =>
    clear a1 a2 a3 a4
    obtain ⟨k, pre, hk, rfl, hpk, hjr, kq2, kl2, kp2, kx2, hE, hsz⟩ := hrel
    by_cases hlt : k < hops.length
    · have hgd : hops.getD k ⟨0, 0, 0, 0⟩ = hops[k] := by simp [List.getD, hlt]
      have hy1 := hcon k hlt
      have hnd : ndK p.cons q.src hops (k + 1) = (gc p.cons (hops.getD k ⟨0, 0, 0, 0⟩).con).dst := rfl
      have hfd : tmK q.ready hops (k + 1) = (hops.getD k ⟨0, 0, 0, 0⟩).arr := rfl
      rw [hgd] at hnd hfd
      clear hgd
      obtain ⟨b, o, rfl, hb, c0, c1, c2, c3⟩ := (hR.ext hE).hp hlt
      obtain ⟨W3, hW3, hB3, hk3, hl3⟩ := box1 wr #[.int .i64 hops[k].con, .int .i64 hops[k].beg, .int .i64 hops[k].en, .int .i64 hops[k].arr] 40
      obtain ⟨fn, tmps, assign, body, hy, hRR⟩ := hY pre ⟨k, hlt⟩ W3 (hJ _ _ _ none hjr (grown_none hB3) (fun r e => by cases e)) (by omega)
      dsimp only [plX] at hy
      generalize hops[k] = y at *
      generalize ndK p.cons q.src hops k = nd at *
      generalize tmK q.ready hops k = tm at *
      have kx3 := kx2.ext hB3
      have kp3 := kp2.ext hB3
      have a1 := kx3.cell
      have a2 := kx3.lt
      have a3 := hk3.cell
      have a4 := hk3.lt
      gi_wp2
      refine hRR.mono ?_
      rintro e W6 (⟨rfl, hJ6, hk6⟩ | ⟨rfl, hJx6⟩)
      case inr =>
        clear a1 a2 a3 a4
        have a1 := hk3.cell
        gi_wp2
        refine bodyPost_ret (results_none rfl _ _ _) rfl ?_
        exact ⟨⟨_, rfl⟩, .inr ⟨_, trivial, hJx6⟩⟩
      have kx6 := hk6.blk kx3
      have kp6 := hk6.blk kp3
      have kh6 := hk6.blk hk3
      have hE6 := hk6.ext (hE.trans hB3) hn0
      have hs6 := hk6.size
      have hs3 := hB3.size
      obtain ⟨bc, oc, rfl, hbc, d0, d1, d2, d3, d4, d5, d6⟩ := (h.c.ext hE6).con (k := y.con.toNat) (by omega)
      rw [← gc_get (cons := p.cons) (i := y.con) (by omega)] at d0 d1 d2 d3 d4 d5 d6
      generalize gc p.cons y.con = c at *
      clear a1 a2 a3 a4
      have a1 := kp6.cell
      have a2 := kp6.lt
      have a3 := kh6.cell
      have a4 := kh6.lt
      have a5 := kx6.cell
      have a6 := kx6.lt
      have a7 := kx6.frozen
      have y0 := hy1.1
      have y1 := hy1.2
      have dn0 : decide (y.con < 0) = false := decide_eq_false (by omega)
      have dn1 : decide ((p.cons.length : Int) ≤ y.con) = false := decide_eq_false (by omega)
      gi_wp2
      refine wpIn_wide.2 ?_
      have hS0 : Ext W6 W6.drew ∧ ∀ b o, b < W6.heap.size → W6.drew.cell? ⟨b, o, none⟩ = W6.cell? ⟨b, o, none⟩ := ⟨(Ext.refl W6).drew, fun _ _ _ => rfl⟩
      refine wp_region_P (fun k => decide (10 ≤ k)) (fun w' => Ext W6 w' ∧ ∀ b o, b < W6.heap.size → w'.cell? ⟨b, o, none⟩ = W6.cell? ⟨b, o, none⟩) (by kernel_rfl) hS0 (fun _ => ?_)
      refine wpAnyP_take (i := 0) (v := ?_) rfl (by kernel_rfl) (by kernel_rfl) (by kernel_rfl) (by kernel_rfl) (fun _ _ _ h => h) (Or.inl ⟨by rfl, ?_⟩) (by assumption) ?_
      rotate_left
      · intro w' hw'
        (try have hC := hw'.2)
        (try have hC9 := hw'.1)
        go_simp
        first | done | with_reducible rfl
      try simp only [Act.put, List.setIfInBounds_toArray, List.set_cons_zero, List.set_cons_succ]
      refine wpAnyP_take (i := 1) (v := ?_) rfl (by kernel_rfl) (by kernel_rfl) (by kernel_rfl) (by kernel_rfl) (fun _ _ _ h => h) (Or.inl ⟨by rfl, ?_⟩) (by assumption) ?_
      rotate_left
      · intro w' hw'
        (try have hC := hw'.2)
        (try have hC9 := hw'.1)
        go_simp
        first | done | with_reducible rfl
      try simp only [Act.put, List.setIfInBounds_toArray, List.set_cons_zero, List.set_cons_succ]
      refine wpAnyP_take (i := 2) (v := ?_) rfl (by kernel_rfl) (by kernel_rfl) (by kernel_rfl) (by kernel_rfl) (fun _ _ _ h => h) (Or.inl ⟨by rfl, ?_⟩) (by assumption) ?_
      rotate_left
      · intro w' hw'
        (try have hC := hw'.2)
        (try have hC9 := hw'.1)
        go_simp
        first | done | with_reducible rfl
      try simp only [Act.put, List.setIfInBounds_toArray, List.set_cons_zero, List.set_cons_succ]
      refine wpAnyP_take (i := 3) (v := ?_) rfl (by kernel_rfl) (by kernel_rfl) (by kernel_rfl) (by kernel_rfl) (fun _ _ _ h => h) (Or.inl ⟨by rfl, ?_⟩) (by assumption) ?_
      rotate_left
      · intro w' hw'
        (try have hC := hw'.2)
        (try have hC9 := hw'.1)
        go_simp
        first | done | with_reducible rfl
      try simp only [Act.put, List.setIfInBounds_toArray, List.set_cons_zero, List.set_cons_succ]
      refine wpAnyP_take (i := 4) (v := ?_) rfl (by kernel_rfl) (by kernel_rfl) (by kernel_rfl) (by kernel_rfl) (fun _ _ _ h => h) (Or.inl ⟨by rfl, ?_⟩) (by assumption) ?_
      rotate_left
      · intro w' hw'
        (try have hC := hw'.2)
        (try have hC9 := hw'.1)
        go_simp
        first | done | with_reducible rfl
      try simp only [Act.put, List.setIfInBounds_toArray, List.set_cons_zero, List.set_cons_succ]
      refine wpAnyP_take (i := 5) (v := ?_) rfl (by kernel_rfl) (by kernel_rfl) (by kernel_rfl) (by kernel_rfl) (fun _ _ _ h => h) (Or.inl ⟨by rfl, ?_⟩) (by assumption) ?_
      rotate_left
      · intro w' hw'
        (try have hC := hw'.2)
        (try have hC9 := hw'.1)
        go_simp
        first | done | with_reducible rfl
      try simp only [Act.put, List.setIfInBounds_toArray, List.set_cons_zero, List.set_cons_succ]
      refine wpAnyP_take (i := 6) (v := ?_) rfl (by kernel_rfl) (by kernel_rfl) (by kernel_rfl) (by kernel_rfl) (fun _ _ _ h => h) (Or.inl ⟨by rfl, ?_⟩) (by assumption) ?_
      rotate_left
      · intro w' hw'
        (try have hC := hw'.2)
        (try have hC9 := hw'.1)
        go_simp
        first | done | with_reducible rfl
      try simp only [Act.put, List.setIfInBounds_toArray, List.set_cons_zero, List.set_cons_succ]
      refine wpAnyP_take (i := 7) (v := ?_) rfl (by kernel_rfl) (by kernel_rfl) (by kernel_rfl) (by kernel_rfl) (fun _ _ _ h => h) (Or.inl ⟨by rfl, ?_⟩) (by assumption) ?_
      rotate_left
      · intro w' hw'
        (try have hC := hw'.2)
        (try have hC9 := hw'.1)
        go_simp
        first | done | with_reducible rfl
      try simp only [Act.put, List.setIfInBounds_toArray, List.set_cons_zero, List.set_cons_succ]
      refine wpAnyP_take (i := 8) (v := ?_) rfl (by kernel_rfl) (by kernel_rfl) (by kernel_rfl) (by kernel_rfl) (fun _ _ _ h => h) (Or.inl ⟨by rfl, ?_⟩) (by assumption) ?_
      rotate_left
      · intro w' hw'
        (try have hC := hw'.2)
        (try have hC9 := hw'.1)
        go_simp
        first | done | with_reducible rfl
      try simp only [Act.put, List.setIfInBounds_toArray, List.set_cons_zero, List.set_cons_succ]
      refine wpAnyP_take (i := 9) (v := ?_) rfl (by kernel_rfl) (by kernel_rfl) (by kernel_rfl) (by kernel_rfl) (fun _ _ _ h => h) (Or.inl ⟨by rfl, ?_⟩) (by assumption) ?_
      rotate_left
      · intro w' hw'
        (try have hC := hw'.2)
        (try have hC9 := hw'.1)
        go_simp
        first | done | with_reducible rfl
      try simp only [Act.put, List.setIfInBounds_toArray, List.set_cons_zero, List.set_cons_succ]
      have a5 := (kx6.ext (Ext.refl W6).drew).cell
      have a7 := (kx6.ext (Ext.refl W6).drew).frozen
      refine wpAnyP_ready (rs := [10]) (by kernel_rfl) (by simp) ?_
      refine AllReadyP.cons rfl (fun K hK => ?_) AllReadyP.nil
      go_simp
      refine hK.out _ _ (fun h => absurd h (by decide)) ?_
      clear hK K
      refine wpAnyP_done (by kernel_rfl) ?_ _
      have kq6 := hk6.blk (kq2.ext hB3)
      have kl6 := hk6.blk (kl2.ext hB3)
      obtain ⟨W8, hW8, hJ8, kq8, kl8, kp8, kx8, hE8, hs8⟩ : ∃ W8, ((W6.setCell ⟨W.heap.size, 0, none⟩ (.int .i64 c.dst)).setCell ⟨W.heap.size, 1, none⟩ (.int .i64 y.arr)).drew = W8 ∧ J (pre ++ [⟨k, hlt⟩]) W8 ∧ Blk W8 Bq 27 q.cells ∧ Blk W8 Bl 34 #[.slice (some ⟨b, o, none⟩) hops.length ch] ∧ Blk W8 Bp 25 #[.slice Aq p.quo.length cq, .slice (some ⟨bc, oc, none⟩) p.cons.length cc] ∧ Blk W8 W.heap.size 71 #[.int .i64 c.dst, .int .i64 y.arr] ∧ Ext w0 W8 ∧ W6.heap.size ≤ W8.heap.size :=
        ⟨_, rfl, hJ _ W6 _ (some W.heap.size) hJ6 (grown_ext (grown_setCell (grown_setCell (World.grownBy.refl W6 _) 0 _) 1 _) (Ext.refl _).drew) (fun r e => by injection e with e; omega),
          ((kq6.far (by simp; omega) _).far (by simp; omega) _).ext (Ext.refl _).drew, ((kl6.far (by simp; omega) _).far (by simp; omega) _).ext (Ext.refl _).drew, ((kp6.far (by simp; omega) _).far (by simp; omega) _).ext (Ext.refl _).drew,
          ((kx6.set_ 0 _).set_ 1 _).ext (Ext.refl _).drew, ((hE6.setCell (by have := h0.size; show w0.heap.size ≤ W.heap.size; omega) _).setCell (by have := h0.size; show w0.heap.size ≤ W.heap.size; omega) _).trans (Ext.refl _).drew, by simp [World.setCell]⟩
      rw [hW8]
      clear hW8 a1 a2 a3 a4 a5 a6 a7
      gi_wp2
      go_roundw
      case rel => exact ⟨k + 1, pre ++ [⟨k, hlt⟩], by omega, by go_num, by simp; omega, hJ8, kq8, kl8, kp8, by rw [hnd, hfd]; exact kx8, hE8, by omega⟩
      case measure => simp [intOf]; omega
    · gi_wp2
      go_end0
      exact ⟨⟨_, rfl⟩, .inl ⟨pre, trivial, hjr⟩⟩

theorem places_stops (Bq Bl Bp n₁ : Nat) (Aq : Option Addr) (cq : Nat) (Ac : Option Addr) (cc : Nat) (p : Pln) (q : Req) (Ah : Option Addr) (ch : Nat) (hops : List Hp) (w0 w : World) (h : PlnRd w0 Aq cq Ac cc p) (hR : Rd EHp w0 Ah hops) (hm : hops.length ≤ 64)
    (hcon : ∀ k (h : k < hops.length), 0 ≤ hops[k].con ∧ hops[k].con < p.cons.length) (h0 : Ext w0 w) (hn0 : w0.heap.size ≤ n₁)
    (kq : Blk w Bq 27 q.cells) (kl : Blk w Bl 34 #[.slice Ah hops.length ch]) (kp : Blk w Bp 25 #[.slice Aq p.quo.length cq, .slice Ac p.cons.length cc]) :
    SeqStopsN Fence.wide 4 Tryz.prog 50 #[.pointer (some ⟨Bq, 0, none⟩), .pointer (some ⟨Bl, 0, none⟩), .pointer (some ⟨Bp, 0, none⟩)] (plX p.cons q (l := hops)) (KpC n₁) (fun _ => True) (fun _ => True) 65 w :=
  fun ll J Jx W hW hJ _ hY hj => places_iter ll Bq Bl Bp n₁ Aq cq Ac cc p q Ah ch hops w0 W h hR hm hcon (h0.trans hW) hn0 (kq.ext hW) (kl.ext hW) (kp.ext hW) J Jx hJ hY hj

set_option maxHeartbeats 400000 in
theorem places_any (Aq : Option Addr) (nq cq : Nat) (Ac : Option Addr) (nc cc : Nat) (q : Req) (Ah : Option Addr) (nh ch : Nat) (w : World) :
    Calls Tryz.prog 24 #[.agg #[.slice Aq nq cq, .slice Ac nc cc], q.val, .slice Ah nh ch] w fun e w' =>
      e = .returned (.func (.func 50) #[] #[.pointer (some ⟨w.heap.size + 1, 0, none⟩), .pointer (some ⟨w.heap.size + 2, 0, none⟩), .pointer (some ⟨w.heap.size, 0, none⟩)]) ∧ Ext w w' ∧ w'.heap.size = w.heap.size + 3 ∧
      Blk w' w.heap.size 25 #[.slice Aq nq cq, .slice Ac nc cc] ∧ Blk w' (w.heap.size + 1) 27 q.cells ∧ Blk w' (w.heap.size + 2) 34 #[.slice Ah nh ch] := by
  obtain ⟨W1, hW1, hB1, hk1, hl1⟩ := box1 w #[.slice Aq nq cq, .slice Ac nc cc] 25
  have s1 : W1.heap.size = w.heap.size + 1 := by rw [← hW1]; simp
  obtain ⟨W2, hW2, hB2, hk2, hl2⟩ := box1 W1 q.cells 27
  have s2 : W2.heap.size = w.heap.size + 2 := by rw [← hW2]; simp [s1]
  obtain ⟨W3, hW3, hB3, hk3, hl3⟩ := box1 W2 #[.slice Ah nh ch] 34
  have s3 : W3.heap.size = w.heap.size + 3 := by rw [← hW3]; simp [s2]
  rw [s1] at hk2
  rw [s2] at hk3
  simp only [Req.cells] at hW2
  have S1 := Lib.hid s1
  have S2 := Lib.hid s2
  have S3 := Lib.hid s3
  clear s1 s2 s3
  unfold Req.val
  go_enter Tryz.func24, Tryz.ntmps24
  go_wp2
  go_ret
  refine ⟨?_, (hB1.trans hB2).trans hB3, S3.out, (hk1.ext hB2).ext hB3, hk2.ext hB3, hk3⟩
  rw [S1.out, S2.out]
  rfl

/-- A list of hops is a route. -/
structure RtD (p : Pln) (q : Req) (l : List Hp) : Prop where
  len : 1 ≤ l.length ∧ l.length ≤ 64
  con : ∀ k (h : k < l.length), 0 ≤ l[k].con ∧ l[k].con < p.cons.length
  src : ∀ k (h : k < l.length), (gc p.cons l[k].con).src = ndK p.cons q.src l k ∧ ndK p.cons q.src l k ≠ q.dst
  tm : ∀ k (h : k < l.length), tmK q.ready l k ≤ l[k].beg ∧ 0 ≤ l[k].beg ∧ l[k].beg ≤ 1099511627776
  fit : ∀ k (h : k < l.length), (gc p.cons l[k].con).fitsR l[k].beg q.size = true
  hop : ∀ k (h : k < l.length), l[k].en = l[k].beg + (gc p.cons l[k].con).dur q.size ∧ l[k].arr = l[k].beg + (gc p.cons l[k].con).dur q.size + (gc p.cons l[k].con).rng
  last : ndK p.cons q.src l l.length = q.dst
  dead : tmK q.ready l l.length ≤ q.dead

set_option maxRecDepth 100000 in
set_option maxHeartbeats 16000000 in
theorem tCheck_ok (Aq : Option Addr) (cq : Nat) (Ac : Option Addr) (cc : Nat) (p : Pln) (q : Req) (Ah : Option Addr) (ch : Nat) (l : List Hp) (w : World) (h : PlnRd w Aq cq Ac cc p) (hf : fineR p q = true) (hR : Rd EHp w Ah l) (D : RtD p q l) :
    Calls Tryz.prog 11 #[.agg #[.slice Aq p.quo.length cq, .slice Ac p.cons.length cc], q.val, .slice Ah l.length ch] w fun e w' => e = .returned (.int .i64 0) ∧ Ext w w' := by
  obtain ⟨W1, hW1, hB1, hkp, hl1⟩ := box1 w #[.slice Aq p.quo.length cq, .slice Ac p.cons.length cc] 25
  obtain ⟨W2, hW2, hB2, hkq, hl2⟩ := box1 W1 q.cells 27
  obtain ⟨W3, hW3, hB3, hk6, hl3⟩ := box1 W2 #[.int .i64 0] 29
  have hE := (hB1.trans hB2).trans hB3
  have hrd := h.ext hE
  have kp3 := (hkp.ext hB2).ext hB3
  have kq3 := hkq.ext hB3
  have kqq := kq3
  simp only [Req.cells] at hW2 kqq
  have a1 := kp3.cell
  have a2 := kp3.lt
  have a3 := kqq.cell
  have a4 := kqq.lt
  have f1 := fun w h => tCheckRequest_any Aq cq Ac cc p q w h
  have f2 := places_any Aq p.quo.length cq Ac p.cons.length cc q Ah l.length ch
  unfold Pln.val at f1
  unfold Req.val at f1 f2 ⊢
  have hln := D.len
  have d1 : decide ((1000 : Int) < (l.length : Int)) = false := decide_eq_false (by omega)
  have d2 : ((l.length : Int) == 0) = false := by rw [beq_eq_false_iff_ne]; omega
  have HD := Lib.hid D
  have Hf := Lib.hid hf
  clear D hf
  refine (callsIn_wide (n := 5)).1 ?_
  refine callsIn_of_wp_marks Tryz.func11 rfl trivial ?_ rfl
  refine wpIn_wide.2 ?_
  refine Code.wp_mono NoPanic.imp ?_
  simp only [Tryz.ntmps11, List.size_toArray, List.length_cons, List.length_nil, Nat.reduceAdd, Nat.reduceSub, Array.replicate_succ, Array.replicate_zero, List.push_toArray, List.append_toArray, List.nil_append, List.cons_append]
  go_wp2_with fail
  clear hW1 hW2 hW3
  refine (f1 _ hrd).mono ?_
  clear f1
  rintro e w4 ⟨k, rfl, hk0, hb4⟩
  obtain rfl := hk0.2 Hf.out
  clear hk0 a1 a2 a3 a4
  have a1 := (kp3.ext hb4).cell
  have a2 := (kp3.ext hb4).lt
  have a3 := (kqq.ext hb4).cell
  have a4 := (kqq.ext hb4).lt
  go_wp2_with fail
  refine (f2 _).mono ?_
  clear f2
  rintro e w8 ⟨rfl, hb8, hs8, z1, z2, z3⟩
  have hx8 := hb4.trans hb8
  have hE8 := hE.trans hx8
  go_wp2_with fail
  refine (wpIn_wide (n := 5)).1 ?_
  refine wpIn_rangeN rfl (by omega) (gf := 50) (lb := #[.pointer (some ⟨w4.heap.size + 1, 0, none⟩), .pointer (some ⟨w4.heap.size + 2, 0, none⟩), .pointer (some ⟨w4.heap.size, 0, none⟩)]) rfl trivial (enters_of Tryz.func50 (by kernel_rfl) rfl)
    (places_stops (w4.heap.size + 1) (w4.heap.size + 2) w4.heap.size w8.heap.size Aq cq Ac cc p q Ah ch l w w8 h hR hln.2 HD.out.con hE8 hE8.size z2 z3 z1)
    KpC.trans (fun W l o o' hl h1 h2 => KpC.put W l o o' hl h1 h2) (Below.refl _ _) (fun _ => rfl)
    (fun _ W => Ext w8 W) (fun _ _ _ => False) (fun _ A C row hs hg hr => hs.keptb hg hr) (fun _ _ _ _ _ hs _ _ => hs.elim) (Ext.refl _)
    (fun x a' W => ∃ b1 b2, Blk W b1 71 #[.int .i64 (ndK p.cons q.src l x.1), .int .i64 (tmK q.ready l x.1)] ∧ Blk W b2 40 #[.int .i64 (l[x.1]'x.2).con, .int .i64 (l[x.1]'x.2).beg, .int .i64 (l[x.1]'x.2).en, .int .i64 (l[x.1]'x.2).arr] ∧ a' = { tmps := #[.agg #[.slice Aq p.quo.length cq, .slice Ac p.cons.length cc], .agg #[.int .i64 q.src, .int .i64 q.dst, .int .i64 q.size, .int .i64 q.ready, .int .i64 q.dead, .int .i64 q.prio, .bool q.cust], .slice Ah l.length ch, .pointer (some ⟨w.heap.size, 0, none⟩), .pointer (some ⟨W1.heap.size, 0, none⟩), undef, .pointer (some ⟨W2.heap.size, 0, none⟩), .pointer (some ⟨b1, 0, none⟩), .pointer (some ⟨b2, 0, none⟩), undef, undef, .agg #[.slice Aq p.quo.length cq, .slice Ac p.cons.length cc], .agg #[.int .i64 q.src, .int .i64 q.dst, .int .i64 q.size, .int .i64 q.ready, .int .i64 q.dead, .int .i64 q.prio, .bool q.cust], .int .i64 0, .bool false, .slice Ah l.length ch, .int .i64 l.length, .bool false, .slice Ah l.length ch, .int .i64 l.length, .bool false, .agg #[.slice Aq p.quo.length cq, .slice Ac p.cons.length cc], .agg #[.int .i64 q.src, .int .i64 q.dst, .int .i64 q.size, .int .i64 q.ready, .int .i64 q.dead, .int .i64 q.prio, .bool q.cust], .slice Ah l.length ch, .func (.func 50) #[] #[.pointer (some ⟨w4.heap.size + 1, 0, none⟩), .pointer (some ⟨w4.heap.size + 2, 0, none⟩), .pointer (some ⟨w4.heap.size, 0, none⟩)], .agg #[.int .i64 (ndK p.cons q.src l x.1), .int .i64 (tmK q.ready l x.1)], .agg #[.int .i64 (l[x.1]'x.2).con, .int .i64 (l[x.1]'x.2).beg, .int .i64 (l[x.1]'x.2).en, .int .i64 (l[x.1]'x.2).arr], undef, undef, undef, undef, undef, undef, undef, undef, undef, undef, undef, undef, undef, undef, undef, undef, undef, undef, undef, undef, undef, undef, undef, undef, undef, undef, undef, undef, undef], defers := [] })
    (fun x a' s X Y row hs hg hr => by obtain ⟨b1, b2, z1, z2, z3⟩ := hs; exact ⟨b1, b2, z1.keptc hg (fun r e => (hr r e).2), z2.keptc hg (fun r e => (hr r e).2), z3⟩) ?assign ?body ?done ?stop
  case assign =>
    rintro li pre x W K hi hK
    simp only [plX]
    gi_wp2
    have e1 := ((Ext.refl W).alloc (.cells #[.int .i64 (ndK p.cons q.src l x.1), .int .i64 (tmK q.ready l x.1)] 71))
    have e2 := e1.alloc (.cells #[.int .i64 (l[x.1]'x.2).con, .int .i64 (l[x.1]'x.2).beg, .int .i64 (l[x.1]'x.2).en, .int .i64 (l[x.1]'x.2).arr] 40)
    exact hK _ _ (e2.keeps.from _) (KpC.of_ext hi.size e2) (hi.trans e2) ⟨W.heap.size, W.heap.size + 1, (Blk.new W _ _).ext ((Ext.refl _).alloc _), by simpa using Blk.new (W.alloc (.cells #[.int .i64 (ndK p.cons q.src l x.1), .int .i64 (tmK q.ready l x.1)] 71)) 40 #[.int .i64 (l[x.1]'x.2).con, .int .i64 (l[x.1]'x.2).beg, .int .i64 (l[x.1]'x.2).en, .int .i64 (l[x.1]'x.2).arr], rfl⟩
  case body =>
    rintro li pre ⟨k, hk⟩ a' W hi ⟨b1, b2, k1, k2, rfl⟩ hlen
    dsimp only at k1 k2 ⊢
    have hsr := HD.out.src k hk
    have htm := HD.out.tm k hk
    have hqo := fineR_of Hf.out
    have hok := Pln.ok_of hqo.1
    have hn : 1 ≤ q.size ∧ q.size ≤ 65536 := by have := hqo.2; simp only [Req.okB, decide_eq_true_eq] at this; omega
    have hck := fun W' hx => checkHop_ok Aq cq Ac cc p q (ndK p.cons q.src l k) (tmK q.ready l k) l[k].con l[k].beg W' (h.ext (hE8.trans (hi.trans hx))) hok (HD.out.con k hk) hn hsr.1 hsr.2 htm.1 (HD.out.fit k hk) htm.2
    rw [← (HD.out.hop k hk).2, ← (HD.out.hop k hk).1] at hck
    unfold Req.val at hck
    generalize l[k] = y at *
    generalize ndK p.cons q.src l k = nd at *
    generalize tmK q.ready l k = tm at *
    have hcn : ∀ n W', Ext W W' → CallsIn (Fence.wide.inRound li) n Tryz.prog 25 _ W' (fun e w1 => e = .returned (.int .i64 0) ∧ Ext W' w1) := fun n W' hx => CallsIn.inRound li (callsIn_wide.2 (hck W' hx))
    clear hck hsr htm hqo hok hn
    have hx3 := hx8.trans hi
    have kp9 := kp3.ext hx3
    have kq9 := kqq.ext hx3
    have c1 := kp9.cell
    have c2 := kp9.lt
    have c3 := kq9.cell
    have c4 := kq9.lt
    have c5 := k1.cell
    have c6 := k1.lt
    have c7 := k2.cell
    have c8 := k2.lt
    gi_wp2_with (refine ⟨trivial, ?_⟩; gi_at_call 25; refine (hcn _ _ (Ext.refl _)).mono ?_; rintro e w9 ⟨rfl, hb9⟩)
    exact ⟨hb9.keeps.from _, KpC.of_ext hi.size hb9, hi.trans hb9⟩
  case stop =>
    rintro D c pre W _ _ h _
    exact h.elim
  case done =>
    rintro D xs W hDD _ hi hK
    have hd2 := (DSx.nil w8.heap.size W3.heap.size W).cons hDD (by have := hx8.size; omega) hK
    clear hK
    have hx3 := hx8.trans hi
    have kp9 := kp3.ext hx3
    have kq9 := kqq.ext hx3
    have k69 := hk6.ext hx3
    obtain ⟨m, hm⟩ : ∃ m, l.length = m + 1 := ⟨l.length - 1, by omega⟩
    have hml : m < l.length := by omega
    obtain ⟨b, o, rfl, hb, c0, c1, c2, c3⟩ := (hR.ext (hE.trans hx3)).hp hml
    have hgd : l.getD m ⟨0, 0, 0, 0⟩ = l[m] := by simp [List.getD, hml]
    have hla := HD.out.last
    have hde := HD.out.dead
    have hcm := HD.out.con m hml
    have hnd : ndK p.cons q.src l (m + 1) = (gc p.cons (l.getD m ⟨0, 0, 0, 0⟩).con).dst := rfl
    have hfd : tmK q.ready l (m + 1) = (l.getD m ⟨0, 0, 0, 0⟩).arr := rfl
    rw [hm, hnd, hgd] at hla
    rw [hm, hfd, hgd] at hde
    generalize l[m] = y at *
    clear hgd hnd hfd
    obtain ⟨W9, hW9, hB9, hk9, hl9⟩ := box1 W #[.int .i64 y.con, .int .i64 y.beg, .int .i64 y.en, .int .i64 y.arr] 40
    obtain ⟨bc, oc, rfl, hbc, j0, j1, j2, j3, j4, j5, j6⟩ := (h.c.ext ((hE.trans hx3).trans hB9)).con (k := y.con.toNat) (by omega)
    rw [← gc_get (cons := p.cons) (i := y.con) (by omega)] at j1
    generalize gc p.cons y.con = c at *
    have i0 := hcm.1
    have i1 := hcm.2
    have hpm := h.cm
    have e9 : ((m + 1 : Nat) : Int) - 1 = (m : Int) := by omega
    have em : (m : Int) < ((m + 1 : Nat) : Int) := by omega
    have d5 : (c.dst != q.dst) = false := by simpa using hla
    have d6 : decide (q.dead < y.arr) = false := decide_eq_false (by omega)
    have a1 := (kp9.ext hB9).cell
    have a2 := (kp9.ext hB9).lt
    have a3 := (kq9.ext hB9).cell
    have a4 := (kq9.ext hB9).lt
    have a5 := hk9.cell
    have a6 := hk9.lt
    have Hm := Lib.hid hm
    rw [hm]
    rw [hm] at hln
    clear hm hde hla
    go_wp2_with fail
    clear hW9
    have hN := Near.refl W9
    have hC := hN.2
    have hq := quiet_near hN
    refine wp_region_quiet_below (by kernel_rfl) (by kernel_rfl) ?_
    repeat (first | go_big_quiet_skip | (go_big_quiet_want; go_big_quiet_op; first | go_big_quiet_on | (apply Exists.intro; refine ⟨fun _ => ?_, ?_⟩; (focus (first | fail)); go_big_quiet_on)))
    refine wpQuiet_nil ?_
    intro w1 hw1
    clear hq
    replace hw1 := quiet_ext hw1
    replace hN := hN.step hw1
    have hC := hN.2
    have hx9 := hB9.trans hN.1
    clear a1 a2 a3 a4 a5 a6
    have k6a := k69.ext hx9
    have a1 := ((kq9.ext hB9).ext hN.1).cell
    have a2 := ((kq9.ext hB9).ext hN.1).lt
    have a3 := (hk9.ext hN.1).cell
    have a4 := (hk9.ext hN.1).lt
    have a5 := k6a.cell
    have a6 := k6a.lt
    have a7 := k6a.frozen
    clear hC hN
    go_wp2
    show LeavesInM _ _ _ _ _ _ _ .returning _
    obtain ⟨wz, hwz, kz, hEz, hDz⟩ : ∃ wz, w1.setCell ⟨W2.heap.size, 0, none⟩ (.int .i64 0) = wz ∧ Blk wz W2.heap.size 29 #[.int .i64 0] ∧ Ext W2 wz ∧ DSx W.heap.size W3.heap.size [mkD D] wz :=
      ⟨_, rfl, k6a.set0 _, (hB3.trans (hx3.trans hx9)).setCell (Nat.le_refl _) _, (hd2.ext hx9).setCell _ _⟩
    rw [hwz]
    refine hDz.leaves ?_
    intro w' hw'
    have hfin := hw' (fun W => Blk W W2.heap.size 29 #[.int .i64 0] ∧ Ext w W) (fun s X Y row hs hg hr => ⟨hs.1.keptc hg (fun r e => (hr r e).2), hs.2.keptb hg (fun r e => by have := (hr r e).1; have := hE.size; omega)⟩) ⟨kz, (hB1.trans hB2).trans hEz⟩
    have hc7 := hfin.1.cell
    exact ⟨_, by rw [results_cell1 rfl]; simp [asAddr, Result.andThen, hc7, go_sem], rfl, hfin.2⟩

end Go.Proofs.YtmaengcmhopmbaaGreat

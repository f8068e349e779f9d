/- TopMirror, the example: the moves of a label. -/
import Derived.Deep.RegionHeld3
import Derived.RangeFuncNested
import Derived.BigQuiet
import Derived.RangeFuncOwn
import Derived.Test.YtemkpimngbbpkaaGreatTopR05
import Derived.Test.YtemkpimngbbpkaaGreatTopR09
import Derived.Test.YtemkpimngbbpkaaGreatTopR13
import Derived.Test.YtemkpimngbbpkaaGreatTopR20
namespace Go.Proofs.YtemkpimngbbpkaaGreat
set_option linter.unusedVariables false
set_option linter.unusedSimpArgs false
set_option linter.unusedVariables false
set_option linter.unusedSimpArgs false
open Go.RowKit Go.Shelf
attribute [local go_sem] Oper.semAt_some

/-- What has been yielded ahead of contact k. -/
def preK (i0 k : Nat) : List Unit := if i0 < k then [()] else []
theorem preK_zero (i0 : Nat) : preK i0 0 = [] := if_neg (by omega)
theorem preK_skip {i0 k : Nat} (h : k ≠ i0) : preK i0 (k + 1) = preK i0 k := by
  unfold preK
  by_cases h1 : i0 < k
  · rw [if_pos h1, if_pos (by omega)]
  · rw [if_neg h1, if_neg (by omega)]
theorem preK_self (k : Nat) : preK k k = [] := if_neg (by omega)
theorem preK_done {i0 k : Nat} (h : i0 < k) : preK i0 k = [()] := if_pos h

/-- The one move of a label. -/
structure MvD (p : Pln) (q : Req) (x : Lb) (i0 : Nat) (c0 : Con) : Prop where
  at_ : p.cons[i0]? = some c0
  one : ∀ k c, p.cons[k]? = some c → (c.src = x.node ↔ k = i0)
  n16 : p.quo.length ≤ 16 ∧ p.cons.length ≤ 64
  dst : 0 ≤ c0.dst ∧ c0.dst < p.quo.length
  fit : max c0.st x.tm + c0.dur q.size ≤ c0.en
  bd : 0 ≤ c0.st ∧ 0 ≤ x.tm ∧ 0 ≤ c0.dur q.size ∧ c0.en ≤ 1099511627776 ∧ 0 ≤ c0.rng ∧ c0.rng ≤ 1099511627776
  til : max c0.st x.tm + c0.dur q.size ≤ x.til
  dead : max c0.st x.tm + c0.dur q.size + c0.rng ≤ q.dead
  room : max c0.st x.tm + c0.dur q.size + c0.rng < 1099511627776
  cust : q.cust = false
def mvX (q : Req) (x : Lb) (i0 : Nat) (c0 : Con) (_ : Unit) : Array Value :=
  #[.agg #[.int .i64 c0.dst, .int .i64 0, .int .i64 1099511627776, .int .i64 (max c0.st x.tm + c0.dur q.size + c0.rng), .int .i64 i0, .int .i64 (max c0.st x.tm), .int .i64 (max c0.st x.tm + c0.dur q.size), .int .i64 (max c0.st x.tm + c0.dur q.size + c0.rng)]]

set_option maxRecDepth 100000 in
set_option maxHeartbeats 8000000 in
theorem moves_iter (l Bg Bx n₁ : Nat) (S : Nat → Prop) (Aq : Option Addr) (cq : Nat) (Ac : Option Addr) (cc : Nat) (p : Pln) (q : Req) (base B : Nat) (x : Lb) (i0 : Nat) (c0 : Con) (w0 W : World) (h : PlnRd w0 Aq cq Ac cc p) (hg : GAt Aq cq Ac cc p q base w0 B) (D : MvD p q x i0 c0)
    (h0 : Ext w0 W) (hS : ∀ k, S k → w0.heap.size ≤ k) (kg : Blk W Bg 224 #[.pointer (some ⟨B, 0, none⟩)]) (kx : Blk W Bx 308 #[.int .i64 x.node, .int .i64 x.fr, .int .i64 x.til, .int .i64 x.tm]) (hn0 : w0.heap.size ≤ n₁) (hn1 : n₁ ≤ W.heap.size) (hbg : Bg < n₁ ∧ ¬ S Bg) (hbx : Bx < n₁ ∧ ¬ S Bx)
    (J Jx : List Unit → World → Prop) (hJ : AbidesFrom W.heap.size J)
    (hY : ∀ pre y W, J pre W → pre.length < 65 → YieldAt Fence.wide 3 Tryz.prog l (mvX q x i0 c0 y) W fun e W' =>
      (e = .returned (.bool true) ∧ J (pre ++ [y]) W' ∧ KpP n₁ S W W') ∨ (e = .returned (.bool false) ∧ Jx (pre ++ [y]) W'))
    (hj : J [] W) :
    CallsIn Fence.wide 4 Tryz.prog 263 #[.func (.yield l) #[] #[], .pointer (some ⟨Bg, 0, none⟩), .pointer (some ⟨Bx, 0, none⟩)] W fun e W' => (∃ v, e = .returned v) ∧
      ((∃ ys, ys = [()] ∧ J ys W') ∨ (∃ pre : List Unit, True ∧ Jx pre W')) := by
  obtain ⟨Ag, Ar, Ad, cg, cr, cd, LG, LR, k0, _⟩ := hg.out
  unfold gcells at k0
  have k1 := k0.ext h0
  have hcm := h.cm
  have a0 := kg.cell
  have a1 := k1.cell
  have a2 := k1.lt
  have Hx := Lib.hid (show max x.tm 0 = x.tm by have := D.bd; omega)
  refine callsIn_of_wp Tryz.func263 rfl trivial ?_ rfl
  simp only [Tryz.ntmps263, List.size_toArray, List.length_cons, List.length_nil, Nat.reduceAdd, Nat.reduceSub, Array.replicate_succ, Array.replicate_zero, List.push_toArray, List.append_toArray, List.nil_append, List.cons_append]
  gi_wp2
  gi_loopw [17] (fun i wr => ∃ k : Nat, k ≤ p.cons.length ∧ i = .int .i64 k ∧ J (preK i0 k) wr ∧ KpP n₁ S W wr) (fun i _ => p.cons.length - (intOf i).toNat)
  case atStart => exact ⟨0, Nat.zero_le _, rfl, by rw [preK_zero]; exact hj, KpP.refl _ _ _⟩
  case round =>
    obtain ⟨k, hk, rfl, hjr, hK⟩ := hrel
    clear a0 a1 a2
    obtain ⟨wo, rfl⟩ : ∃ wo, wo = wr := ⟨_, rfl⟩
    have hE := hK.ext h0 hn0 hS
    have kg1 := hK.blk kg hbg.1 hbg.2
    have kx1 := hK.blk kx hbx.1 hbx.2
    have hsz := hK.size
    by_cases hlt : k < p.cons.length
    · obtain ⟨b, o, rfl, hb, z0, z1, z2, z3, z4, z5, z6⟩ := (h.c.ext hE).con hlt
      have Hyg := Lib.hid (show p.cons[k]? = some p.cons[k] from List.getElem?_eq_getElem hlt)
      generalize p.cons[k] = y at *
      obtain ⟨W3, hW3, hB3, hk3, hl3⟩ := box1 wo y.cells 61
      simp only [Con.cells] at hW3 hk3
      have c3 := hk3.cell
      have l3 := hk3.lt
      have x3 := (kx1.ext hB3).cell
      have xl3 := (kx1.ext hB3).lt
      have g3 := (kg1.ext hB3).cell
      have gl3 := (kg1.ext hB3).lt
      have hjr3 := abides_ext hJ hjr hB3
      have hK3 := hK.trans (KpP.of_ext (by omega) hB3)
      have hE3 := hE.trans hB3
      by_cases hs : y.src = x.node
      case' neg =>
        have hd : (y.src != x.node) = true := by simpa using hs
        have Hne := Lib.hid (show k ≠ i0 from fun e => hs ((D.one k y Hyg.out).2 e))
        clear hs
        gi_wp2
        go_roundw
        case rel => exact ⟨k + 1, by omega, by go_num, by rw [preK_skip Hne.out]; exact hjr3, hK3⟩
        case measure => simp [intOf]; omega
      · have hd : (y.src != x.node) = false := by simpa using hs
        obtain rfl := (D.one k y Hyg.out).1 hs
        obtain rfl : y = c0 := by have := D.at_; rw [Hyg.out] at this; injection this
        clear hs
        rw [preK_self] at hjr3
        have hro3 : Calls Tryz.prog 264 #[.pointer (some ⟨B, 0, none⟩), .int .i64 y.dst] W3 (RoomP W3) := by
          by_cases e : y.dst = q.dst
          · rw [e]; exact grooms_dest Aq cq _ cc p q base B W3 (hg.ext hE3)
          · exact grooms_node Aq cq _ cc p q base B y.dst W3 (hg.ext hE3) D.dst e D.n16.1
        have hho := fun w h hg => ghop_any Aq cq (some ⟨b, o, none⟩) cc p q base B k x.tm y w hg h hlt (by have := Hyg.out; rw [List.getElem?_eq_getElem hlt] at this; injection this) D.fit D.bd
        have hle := fun hp w hg => gleave_any Aq cq (some ⟨b, o, none⟩) cc p q base B hp w hg D.cust
        have d1 : decide (x.til < max y.st x.tm + y.dur q.size) = false := decide_eq_false (by have := D.til; omega)
        have d2 : decide (q.dead < max y.st x.tm + y.dur q.size + y.rng) = false := decide_eq_false (by have := D.dead; omega)
        have d3 : decide (1099511627776 ≤ max y.st x.tm + y.dur q.size + y.rng) = false := decide_eq_false (by have := D.room; omega)
        have hX := Hx.out
        have hYm : mvX q x k y () = #[.agg #[.int .i64 y.dst, .int .i64 0, .int .i64 1099511627776, .int .i64 (max y.st x.tm + y.dur q.size + y.rng), .int .i64 k, .int .i64 (max y.st x.tm), .int .i64 (max y.st x.tm + y.dur q.size), .int .i64 (max y.st x.tm + y.dur q.size + y.rng)]] := rfl
        generalize max y.st x.tm = m at *
        generalize y.dur q.size = d at *
        gi_wp2_with (refine ⟨trivial, ?_⟩; gi_at_call 264; refine (callsIn_wide.2 hro3).mono ?_; rintro e w4 ⟨A4, c4, rfl, hR4, hb4⟩)
        clear hro3 c3 x3 xl3 g3 gl3 l3 z0 z1 z2 z3 z4 z5 z6
        have hjr4 := abides_ext hJ hjr3 hb4
        have hK4 := hK3.trans (KpP.of_ext (by have := hB3.size; omega) hb4)
        have hE4 := hE3.trans hb4
        gi_loopw [32] (fun i wr => (i = .int .i64 0 ∧ wr = w4) ∨ (i = .int .i64 1 ∧ J [()] wr ∧ KpP n₁ S W wr)) (fun i _ => 1 - (intOf i).toNat)
        case atStart => exact .inl ⟨rfl, rfl⟩
        case round =>
          rcases hrel with ⟨rfl, rfl⟩ | ⟨rfl, hj2, hK2⟩
          · obtain ⟨bs, os, rfl, hbs, s0, s1⟩ := hR4.spn (k := 0) (by simp)
            simp only [List.getElem_cons_zero, Nat.zero_mul, Nat.add_zero] at s0 s1
            obtain ⟨W5, hW5, hB5, hk5, hl5⟩ := box1 wr #[.int .i64 0, .int .i64 1099511627776] 190
            have hB35 := hb4.trans hB5
            have kg5 := (kg1.ext hB3).ext hB35
            have kx5 := (kx1.ext hB3).ext hB35
            have hk35 := hk3.ext hB35
            have hE5 := hE4.trans hB5
            have q0 := hk5.cell
            have q1 := hk5.lt
            have q2 := kg5.cell
            have q3 := kg5.lt
            have q4 := kx5.cell
            have q5 := kx5.lt
            have hho5 := hho W5 (h.ext hE5) (hg.ext hE5)
            by_cases hdd : y.dst = q.dst
            all_goals
              first
                | (rw [← hdd] at k0; have d4 : (y.dst != y.dst) = false := by simp)
                | (have d4 : (y.dst != q.dst) = true := by simpa using hdd)
              clear hdd
              gi_wp2_with (refine ⟨trivial, ?_⟩; gi_at_call 265; refine (callsIn_wide.2 hho5).mono ?_; rintro e w6 ⟨rfl, hb6⟩; obtain ⟨W7, hW7, hB7, hk7, hl7⟩ := box1 w6 #[.int .i64 k, .int .i64 m, .int .i64 (m + d), .int .i64 (m + d + y.rng)] 94; have hx57 := hb6.trans hB7; have kg7 := kg5.ext hx57; have kx7 := kx5.ext hx57; have hk37 := hk35.ext hx57; have hk57 := hk5.ext hx57; have hE7 := hE5.trans hx57; have kB7 := k0.ext hE7; have r0 := kg7.cell; have r1 := kg7.lt; have r2 := kx7.cell; have r3 := kx7.lt; have r4 := hk37.cell; have r5 := hk37.lt; have r6 := hk57.cell; have r7 := hk57.lt; have r8 := kB7.cell; have r9 := kB7.lt; have r10 := hk7.cell)
              have hK7 := (hK4.trans (KpP.of_ext (by have := hB3.size; have := hb4.size; omega) hB5)).trans (KpP.of_ext (by have := hB3.size; have := hb4.size; have := hB5.size; omega) hx57)
              have hjr7 := abides_ext hJ hjr4 (hB5.trans hx57)
              have hN := Near.refl W7
              refine wpIn_wide.2 ?_
              have hleQ := fun dd os => hle ⟨k, m, m + d, m + d + y.rng⟩ (Sort.grow (redrawn W7 dd) os) ((hg.ext hE7).ext (below_regrown W7 dd os))
              dsimp only at hleQ
              have hC := hN.2
              have hq := quiet_near hN
              refine wp_region_quiet_below (by kernel_rfl) (by kernel_rfl) ?_
              repeat (first | go_big_quiet_skip | (go_big_quiet_want; go_big_quiet_op; first | go_big_quiet_on | (apply Exists.intro; refine ⟨fun _ => ?_, ?_⟩; (focus (first | (go_at_call 266; with_reducible exact Calls.regrown_of (hleQ _ _)))); go_big_quiet_on)))
              refine wpQuiet_nil ?_
              intro w1 hw1
              clear hq
              replace hw1 := quiet_ext hw1
              replace hN := hN.step hw1
              have hC := hN.2
              have hx9 := hN.1
              · clear hN hC hleQ
                have hE9 := hE7.trans hx9
                have hK9 := hK7.trans (KpP.of_ext (by have := hB3.size; have := hb4.size; have := hB5.size; have := hx57.size; omega) hx9)
                have t1 := (hk37.ext hx9).cell
                have t2 := (hk37.ext hx9).lt
                have t3 := (hk57.ext hx9).cell
                have t4 := (hk57.ext hx9).lt
                have t5 := (hk7.ext hx9).cell
                have t6 := (hk7.ext hx9).lt
                obtain ⟨fn, tmps, assign, body, hy, hR⟩ := hY [] () w1 (abides_ext hJ hjr7 hx9) (by simp)
                rw [hYm] at hy
                gi_wp2
                refine hR.mono ?_
                rintro e W10 (⟨rfl, hJ10, hk10⟩ | ⟨rfl, hJx10⟩)
                · gi_wp2
                  go_roundw
                  case rel => exact .inr ⟨by go_num, hJ10, hK9.trans hk10⟩
                  case measure => simp [intOf]
                · gi_wp2
                  refine bodyPost_ret (results_none rfl _ _ _) rfl ?_
                  exact ⟨⟨_, rfl⟩, .inr ⟨_, trivial, hJx10⟩⟩
          · gi_wp2
            go_roundw
            case rel => exact ⟨k + 1, by omega, by go_num, by rw [preK_done (by omega)]; exact hj2, hK2⟩
            case measure => simp [intOf]; omega
    · obtain rfl : k = p.cons.length := by omega
      gi_wp2
      go_end0
      exact ⟨⟨_, rfl⟩, .inl ⟨_, rfl, by rw [← preK_done (i0 := i0) (k := p.cons.length) (by have := D.at_; exact (List.getElem?_eq_some_iff.1 this).1)]; exact hjr⟩⟩

theorem moves_stops (Bg Bx n₁ : Nat) (S : Nat → Prop) (Aq : Option Addr) (cq : Nat) (Ac : Option Addr) (cc : Nat) (p : Pln) (q : Req) (base B : Nat) (x : Lb) (i0 : Nat) (c0 : Con) (w0 w : World) (h : PlnRd w0 Aq cq Ac cc p) (hg : GAt Aq cq Ac cc p q base w0 B) (D : MvD p q x i0 c0)
    (h0 : Ext w0 w) (hS : ∀ k, S k → w0.heap.size ≤ k) (kg : Blk w Bg 224 #[.pointer (some ⟨B, 0, none⟩)]) (kx : Blk w Bx 308 #[.int .i64 x.node, .int .i64 x.fr, .int .i64 x.til, .int .i64 x.tm]) (hn0 : w0.heap.size ≤ n₁) (hn1 : n₁ ≤ w.heap.size) (hbg : Bg < n₁ ∧ ¬ S Bg) (hbx : Bx < n₁ ∧ ¬ S Bx) :
    SeqStopsK Fence.wide 4 Tryz.prog 263 #[.pointer (some ⟨Bg, 0, none⟩), .pointer (some ⟨Bx, 0, none⟩)] (mvX q x i0 c0) (KpP n₁ S) (fun ys => ys = [()]) (fun _ => True) 65 w :=
  fun l J Jx W hW hJ _ hY hj => moves_iter l Bg Bx n₁ S Aq cq Ac cc p q base B x i0 c0 w0 W h hg D (h0.trans hW) hS (kg.ext hW) (kx.ext hW) hn0 (Nat.le_trans hn1 (Ext.size hW)) hbg hbx J Jx hJ hY hj
set_option maxHeartbeats 400000 in
theorem moves_any (B : Nat) (x : Lb) (w : World) :
    Calls Tryz.prog 198 #[.pointer (some ⟨B, 0, none⟩), .agg #[.int .i64 x.node, .int .i64 x.fr, .int .i64 x.til, .int .i64 x.tm]] w fun e w' =>
      e = .returned (.func (.func 263) #[] #[.pointer (some ⟨w.heap.size, 0, none⟩), .pointer (some ⟨w.heap.size + 1, 0, none⟩)]) ∧ Ext w w' ∧ w'.heap.size = w.heap.size + 2 ∧
      Blk w' w.heap.size 224 #[.pointer (some ⟨B, 0, none⟩)] ∧ Blk w' (w.heap.size + 1) 308 #[.int .i64 x.node, .int .i64 x.fr, .int .i64 x.til, .int .i64 x.tm] := by
  obtain ⟨W1, hW1, hB1, hk1, hl1⟩ := box1 w #[.pointer (some ⟨B, 0, none⟩)] 224
  have s1 : W1.heap.size = w.heap.size + 1 := by rw [← hW1]; simp
  obtain ⟨W2, hW2, hB2, hk2, hl2⟩ := box1 W1 #[.int .i64 x.node, .int .i64 x.fr, .int .i64 x.til, .int .i64 x.tm] 308
  have s2 : W2.heap.size = w.heap.size + 2 := by rw [← hW2]; simp [s1]
  rw [s1] at hk2
  have S1 := Lib.hid s1
  have S2 := Lib.hid s2
  clear s1 s2
  go_enter Tryz.func198, Tryz.ntmps198
  go_wp2
  go_ret
  exact ⟨by rw [S1.out]; rfl, hB1.trans hB2, S2.out, hk1.ext hB2, hk2⟩

end Go.Proofs.YtemkpimngbbpkaaGreat

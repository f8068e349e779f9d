/- TopMirror, the example: arrival. · TopMirror, the example: which label a move comes from. -/
import Derived.Test.YtmaengcmhopmbaaGreatTaI
import Derived.Test.YtmaengcmhopmbaaGreatDefs
import Derived.Deep.LoopGhost
import Derived.Test.YtmaengcmhopmbaaGreatRgnPQ
import Derived.BigQuiet
namespace Go.Proofs.YtmaengcmhopmbaaGreat
set_option linter.unusedVariables false
set_option linter.unusedSimpArgs false
open Go.RowKit Go.Shelf
attribute [local go_sem] Oper.semAt_some

def Lb.arr (x : Lb) (q : Req) (c : Con) : Int := max c.st x.tm + c.dur q.size + c.rng
/-- One label in arrival. -/
def aStep (q : Req) (s : Int × Bool) (x : Lb) (c : Con) : Int × Bool := if c.dst = q.dst ∧ (s.2 = false ∨ x.arr q c < s.1) then (x.arr q c, true) else s

theorem aStep_idem (q : Req) (s : Int × Bool) (x : Lb) (c : Con) : aStep q (aStep q s x c) x c = aStep q s x c := by
  unfold aStep
  by_cases h : c.dst = q.dst ∧ (s.2 = false ∨ x.arr q c < s.1)
  · rw [if_pos h, if_neg (by rintro ⟨_, h1 | h1⟩ <;> simp at h1)]
  · rw [if_neg h, if_neg h]
def aAt (q : Req) (s : Int × Bool) (x : Lb) (c : Con) (pre : List Unit) : Int × Bool := if pre = [] then s else aStep q s x c
theorem aAt_snoc (q : Req) (s : Int × Bool) (x : Lb) (c : Con) (pre : List Unit) (u : Unit) : aAt q s x c (pre ++ [u]) = aStep q (aAt q s x c pre) x c := by
  unfold aAt
  rw [if_neg (by simp)]
  split
  · rfl
  · exact (aStep_idem q s x c).symm
/-- Between two moves. -/
def ARl (q : Req) (s : Int × Bool) (x : Lb) (c : Con) (b6 b7 : Nat) (W0 : World) (lo B : Nat) (ds : List Deferred) (pre : List Unit) (W : World) : Prop :=
  Blk W b6 3 #[.int .i64 (aAt q s x c pre).1] ∧ Blk W b7 4 #[.bool (aAt q s x c pre).2] ∧ Ext W0 W ∧ DSx B lo ds W ∧ B ≤ W.heap.size
theorem ARl.ext {q : Req} {s : Int × Bool} {x : Lb} {c : Con} {b6 b7 : Nat} {W0 : World} {lo B : Nat} {ds : List Deferred} {pre : List Unit} {W W' : World} (h : ARl q s x c b6 b7 W0 lo B ds pre W) (hb : Ext W W') : ARl q s x c b6 b7 W0 lo B ds pre W' :=
  ⟨h.1.ext hb, h.2.1.ext hb, h.2.2.1.trans hb, h.2.2.2.1.ext hb, Nat.le_trans h.2.2.2.2 hb.size⟩
theorem arl_own {q : Req} {s : Int × Bool} {x : Lb} {c : Con} {b6 b7 : Nat} {W0 : World} {lo B : Nat} {ds : List Deferred} (hB : W0.heap.size ≤ B) : OwnFrom B (ARl q s x c b6 b7 W0 lo B ds) := by
  intro pre X Y row hs hg hr
  obtain ⟨h1, h2, h3, h4, h5⟩ := hs
  exact ⟨h1.keptc hg (fun r e => (hr r e).2), h2.keptc hg (fun r e => (hr r e).2), h3.keptb hg (fun r e => Nat.le_trans hB (hr r e).1), h4.kept hg (fun r e => (hr r e).1), Nat.le_trans h5 hg.size⟩
theorem arl_put {q : Req} {s : Int × Bool} {x : Lb} {c : Con} {b6 b7 : Nat} {W0 : World} {lo B n₁ : Nat} {ds : List Deferred} {pre : List Unit} {W wq : World} (u : Unit) (hr : ARl q s x c b6 b7 W0 lo B ds pre W) (hwq : Ext W wq)
    (hup : c.dst = q.dst ∧ ((aAt q s x c pre).2 = false ∨ x.arr q c < (aAt q s x c pre).1)) (h1 : W0.heap.size ≤ b6) (h2 : W0.heap.size ≤ b7) (h3 : b6 ≠ b7) (hn : n₁ ≤ W.heap.size) :
    KeepsFrom B W ((wq.setCell ⟨b6, 0, none⟩ (.int .i64 (x.arr q c))).setCell ⟨b7, 0, none⟩ (.bool true)) ∧ KpP n₁ (fun b => b = b6 ∨ b = b7) W ((wq.setCell ⟨b6, 0, none⟩ (.int .i64 (x.arr q c))).setCell ⟨b7, 0, none⟩ (.bool true)) ∧ ARl q s x c b6 b7 W0 lo B ds (pre ++ [u]) ((wq.setCell ⟨b6, 0, none⟩ (.int .i64 (x.arr q c))).setCell ⟨b7, 0, none⟩ (.bool true)) := by
  obtain ⟨q1, q2, q3, q4, q5⟩ := hr
  have e : aAt q s x c (pre ++ [u]) = (x.arr q c, true) := by rw [aAt_snoc]; unfold aStep; rw [if_pos hup]
  have hk := ((hwq.keeps.trans (KeepsOthers.setCell _ _ _)).trans (KeepsOthers.setCell _ _ _) : KeepsOthers W ((wq.setCell ⟨b6, 0, none⟩ (.int .i64 (x.arr q c))).setCell ⟨b7, 0, none⟩ (.bool true)))
  refine ⟨hk.from _, ((KpP.of_ext hn hwq).setCell (.inl (.inl rfl)) _ _).setCell (.inl (.inr rfl)) _ _, ?_, ?_, ?_, ?_, ?_⟩
  · rw [e]
    exact ((q1.ext hwq).set0 _).far (by simpa using h3) _
  · rw [e]
    exact ((q2.ext hwq).far (by simpa using h3.symm) _).set0 _
  · exact ((q3.trans hwq).setCell h1 _).setCell (by show W0.heap.size ≤ b7; omega) _
  · exact ((q4.ext hwq).setCell _ _).setCell _ _
  · exact Nat.le_trans q5 hk.size
theorem arl_same {q : Req} {s : Int × Bool} {x : Lb} {c : Con} {b6 b7 : Nat} {W0 : World} {lo B n₁ : Nat} {ds : List Deferred} {pre : List Unit} {W wq : World} (u : Unit) (hr : ARl q s x c b6 b7 W0 lo B ds pre W) (hwq : Ext W wq)
    (hup : ¬ (c.dst = q.dst ∧ ((aAt q s x c pre).2 = false ∨ x.arr q c < (aAt q s x c pre).1))) (hn : n₁ ≤ W.heap.size) :
    KeepsFrom B W wq ∧ KpP n₁ (fun b => b = b6 ∨ b = b7) W wq ∧ ARl q s x c b6 b7 W0 lo B ds (pre ++ [u]) wq := by
  have e : aAt q s x c (pre ++ [u]) = aAt q s x c pre := by rw [aAt_snoc]; unfold aStep; rw [if_neg hup]
  obtain ⟨q1, q2, q3, q4, q5⟩ := hr.ext hwq
  exact ⟨hwq.keeps.from _, KpP.of_ext hn hwq, by rw [e]; exact q1, by rw [e]; exact q2, q3, q4, q5⟩

theorem results_tmp2z {fn : Func} {a b : Tmp} (h : fn.results = #[.tmp a, .tmp b]) (tmps : Array Value) (P : Program) (w : World) : (results fn tmps).run P w = .ok (.tuple #[tmps.getD a undef, tmps.getD b undef]) w := by
  simp only [results, h]
  simp [Sem.run_bind, Result.andThen]

set_option maxRecDepth 100000 in
set_option maxHeartbeats 4000000 in
theorem arrival_any (Aq : Option Addr) (cq : Nat) (Ac : Option Addr) (cc : Nat) (p : Pln) (q : Req) (base B : Nat) (Al : Option Addr) (cl : Nat) (L : List Lb) (f : Nat → Nat × Con) (st : Nat → Int × Bool) (w : World) (h : PlnRd w Aq cq Ac cc p) (hg : GAt Aq cq Ac cc p q base w B) (hl : Rd ELb w Al L) (hlm : L.length ≤ 64)
    (hD : ∀ k (h : k < L.length), MvD p q L[k] (f k).1 (f k).2) (hs0 : st 0 = (0, false)) (hs : ∀ k (h : k < L.length), st (k + 1) = aStep q (st k) L[k] (f k).2) :
    Calls Tryz.prog 66 #[.pointer (some ⟨B, 0, none⟩), .slice Al L.length cl] w fun e w' => e = .returned (.tuple #[.int .i64 (st L.length).1, .bool (st L.length).2]) ∧ Ext w w' := by
  obtain ⟨W0, hW0, hB0, hk0, hl0⟩ := box1 w #[.pointer (some ⟨B, 0, none⟩)] 127
  obtain ⟨W1, hW1, hB1, hkb, hki, hl1, hl1'⟩ := box2 W0 #[.int .i64 0] #[.bool false] 3 4
  obtain ⟨W2, hW2⟩ : ∃ W2, (W1.setCell ⟨W0.heap.size, 0, none⟩ (.int .i64 0)).setCell ⟨W0.heap.size + 1, 0, none⟩ (.bool false) = W2 := ⟨_, rfl⟩
  have kb2 : Blk W2 W0.heap.size 3 #[.int .i64 0] := by rw [← hW2]; exact (hkb.set0 _).far (by simp) _
  have ki2 : Blk W2 (W0.heap.size + 1) 4 #[.bool false] := by rw [← hW2]; exact (hki.far (by simp) _).set0 _
  have hB2 : Ext W0 W2 := by rw [← hW2]; exact (hB1.setCell (Nat.le_refl _) _).setCell (by show W0.heap.size ≤ W0.heap.size + 1; omega) _
  have a1 := hkb.lt
  have a2 := hkb.frozen
  have a3 := hkb.cell
  have a4 := hki.lt
  have a5 := hki.frozen
  have a6 := hki.cell
  refine (callsIn_wide (n := 5)).1 ?_
  refine callsIn_of_wp_marks Tryz.func66 rfl trivial ?_ rfl
  refine wpIn_wide.2 ?_
  refine Code.wp_mono NoPanic.imp ?_
  simp only [Tryz.ntmps66, List.size_toArray, List.length_cons, List.length_nil, Nat.reduceAdd, Nat.reduceSub, Array.replicate_succ, Array.replicate_zero, List.push_toArray, List.append_toArray, List.nil_append, List.cons_append]
  go_wp2_with fail
  clear hW0 hW1 hW2 a1 a2 a3 a4 a5 a6 hkb hki hB1 hl1 hl1'
  have hcm := h.cm
  have hE2 := hB0.trans hB2
  have hs2 := hE2.size
  have hs02 := hB2.size
  have hW02 : W0.heap.size + 1 < W2.heap.size := ki2.lt
  refine wp_loop_ghost_k (fun k a wr => ∃ (u9 u14 u15 u16 u17 u18 u19 u44 : Value) (ds : List Deferred) (j : Nat), (j + k = L.length ∧ Blk wr W0.heap.size 3 #[.int .i64 (st j).1] ∧ Blk wr (W0.heap.size + 1) 4 #[.bool (st j).2] ∧ Ext W0 wr ∧ W2.heap.size ≤ wr.heap.size ∧ DSx wr.heap.size W2.heap.size ds wr) ∧
    a = { tmps := #[.pointer (some ⟨B, 0, none⟩), .slice Al L.length cl, .pointer (some ⟨w.heap.size, 0, none⟩), undef, .int .i64 0, .bool false, .pointer (some ⟨W0.heap.size, 0, none⟩), .pointer (some ⟨W0.heap.size + 1, 0, none⟩), undef, u9, undef, .slice Al L.length cl, .int .i64 L.length, .int .i64 j, u14, u15, u16, u17, u18, u19, undef, undef, undef, undef, undef, undef, undef, undef, undef, undef, undef, undef, undef, undef, undef, undef, undef, undef, undef, undef, undef, undef, undef, undef, u44, undef, undef], defers := ds }) L.length ?_ ?_
  · exact ⟨_, _, _, _, _, _, _, _, [], 0, ⟨by omega, by rw [hs0]; exact kb2, by rw [hs0]; exact ki2, hB2, Nat.le_refl _, DSx.nil _ _ _⟩, rfl⟩
  · intro gk _ wr hinv
    obtain ⟨u9, u14, u15, u16, u17, u18, u19, u44, ds, j, ⟨hjk, k6, k7, hE, hws, hds⟩, ha⟩ := hinv
    subst ha
    intro _ _ _ _
    have Hjk := Lib.hid hjk
    have hjL : j ≤ L.length := by omega
    clear hjk
    have hEw := hB0.trans hE
    by_cases hlt : j < L.length
    · obtain ⟨b, o, rfl, hb, c0, c1, c2, c3⟩ := (hl.ext hEw).lb hlt
      have hDj := hD j hlt
      have Hst := Lib.hid (hs j hlt)
      generalize L[j] = x at *
      have D0 := Lib.hid hDj
      clear hDj
      obtain ⟨W3, hW3, hB3, hk3, hl3⟩ := box1 wr #[.int .i64 x.node, .int .i64 x.fr, .int .i64 x.til, .int .i64 x.tm] 134
      have t1 := hk3.cell
      have t2 := hk3.lt
      have t3 := (hk0.ext (hE.trans hB3)).cell
      have t4 := (hk0.ext (hE.trans hB3)).lt
      have hho := fun w => moves_any B x w
      go_wp2_with fail
      clear hW3 t1 t2 t3 t4 c0 c1 c2 c3
      refine (hho _).mono ?_
      clear hho
      rintro e w4 ⟨rfl, hb4, hs4, z1, z2⟩
      have hE4 := (hE.trans hB3).trans hb4
      go_wp2_with fail
      have hn4 : w.heap.size ≤ w4.heap.size := (hB0.trans hE4).size
      have hw3 := hB3.size
      refine (wpIn_wide (n := 5)).1 ?_
      refine wpIn_rangeFunc_ownH rfl (by omega) (gf := 110) (lb := #[.pointer (some ⟨W3.heap.size, 0, none⟩), .pointer (some ⟨W3.heap.size + 1, 0, none⟩)]) rfl trivial (enters_of Tryz.func110 (by kernel_rfl) rfl)
        (moves_stops W3.heap.size (W3.heap.size + 1) w4.heap.size (fun b => b = W0.heap.size ∨ b = W0.heap.size + 1) Aq cq Ac cc p q base B x (f j).1 (f j).2 w w4 h hg D0.out (hB0.trans hE4) (fun k hk => by have := hB0.size; omega) z1 z2 hn4 (Nat.le_refl _) ⟨by omega, by omega⟩ ⟨by omega, by omega⟩)
        KpP.trans (fun W l o o' hl _ _ _ => KpP.put W l o' hl) (Below.refl _ _) (fun _ => rfl)
        (ARl q (st j) x (f j).2 W0.heap.size (W0.heap.size + 1) W0 W2.heap.size w4.heap.size ds) (fun _ _ _ => False) (arl_own (by omega)) (fun _ _ _ _ _ hs _ _ => hs)
        ⟨by unfold aAt; rw [if_pos rfl]; exact (k6.ext hB3).ext hb4, by unfold aAt; rw [if_pos rfl]; exact (k7.ext hB3).ext hb4, hE4, ((hds.ext hB3).ext hb4).more (by omega), Nat.le_refl _⟩
        (fun _ a' W => ∃ Bx, w4.heap.size ≤ Bx ∧ Blk W Bx 139 #[.int .i64 (f j).2.dst, .int .i64 0, .int .i64 1099511627776, .int .i64 (max (f j).2.st x.tm + (f j).2.dur q.size + (f j).2.rng), .int .i64 (f j).1, .int .i64 (max (f j).2.st x.tm), .int .i64 (max (f j).2.st x.tm + (f j).2.dur q.size), .int .i64 (max (f j).2.st x.tm + (f j).2.dur q.size + (f j).2.rng)] ∧ a' = { tmps := #[.pointer (some ⟨B, 0, none⟩), .slice (some ⟨b, o, none⟩) L.length cl, .pointer (some ⟨w.heap.size, 0, none⟩), undef, .int .i64 0, .bool false, .pointer (some ⟨W0.heap.size, 0, none⟩), .pointer (some ⟨W0.heap.size + 1, 0, none⟩), undef, .pointer (some ⟨wr.heap.size, 0, none⟩), .pointer (some ⟨Bx, 0, none⟩), .slice (some ⟨b, o, none⟩) L.length cl, .int .i64 L.length, .int .i64 j, .bool true, .pointer (some ⟨b, o + j * 4, none⟩), .agg #[.int .i64 x.node, .int .i64 x.fr, .int .i64 x.til, .int .i64 x.tm], .pointer (some ⟨B, 0, none⟩), .agg #[.int .i64 x.node, .int .i64 x.fr, .int .i64 x.til, .int .i64 x.tm], .func (.func 110) #[] #[.pointer (some ⟨W3.heap.size, 0, none⟩), .pointer (some ⟨W3.heap.size + 1, 0, none⟩)], .agg #[.int .i64 (f j).2.dst, .int .i64 0, .int .i64 1099511627776, .int .i64 (max (f j).2.st x.tm + (f j).2.dur q.size + (f j).2.rng), .int .i64 (f j).1, .int .i64 (max (f j).2.st x.tm), .int .i64 (max (f j).2.st x.tm + (f j).2.dur q.size), .int .i64 (max (f j).2.st x.tm + (f j).2.dur q.size + (f j).2.rng)], undef, undef, undef, undef, undef, undef, undef, undef, undef, undef, undef, undef, undef, undef, undef, undef, undef, undef, undef, undef, undef, undef, undef, u44, undef, undef], defers := [] })
        (fun _ a' s X Y row hs hg hr => by obtain ⟨Bx, z1, z2, z3⟩ := hs; exact ⟨Bx, z1, z2.keptc hg (fun r e => (hr r e).2), z3⟩) ?assign ?body ?done ?stop
      case assign =>
        rintro li pre y W K hi hK
        have hBW : w4.heap.size ≤ W.heap.size := hi.2.2.2.2
        simp only [mvX]
        gi_wp2
        exact hK _ _ ((KeepsOthers.alloc _ _).from _) (KpP.of_ext hBW ((Ext.refl W).alloc _)) (hi.ext ((Ext.refl W).alloc _)) ⟨W.heap.size, hBW, Blk.new _ _ _, rfl⟩
      case body =>
        rintro li pre y a' W hl ⟨rr, hrr⟩ hARL ⟨Bx, b1, kx, rfl⟩ hlen
        have HARL := Lib.hid hARL
        obtain ⟨q1, q2, q3, q4, q5⟩ := hARL
        obtain ⟨Ag, Ar, Ad, cg, cr, cd, LG, LR, k0, _⟩ := (hg.ext (hB0.trans q3)).out
        unfold gcells at k0
        have hkp := hk0.ext q3
        have hpu := fun wq (hwq : Ext W wq) hup => arl_put (B := w4.heap.size) (n₁ := w4.heap.size) y HARL.out hwq hup (Nat.le_refl _) (by omega) (by omega) q5
        have hps := fun wq (hwq : Ext W wq) hup => arl_same (B := w4.heap.size) (n₁ := w4.heap.size) y HARL.out hwq hup q5
        have Hpu := Lib.hid hpu
        have Hps := Lib.hid hps
        have hfn : ∀ k, Fence.wide.fn k := fun _ => trivial
        have hmix : Tryz.prog.follows .mixedOrders = true := by kernel_rfl
        have HA := Lib.hid (show x.arr q (f j).2 = max (f j).2.st x.tm + (f j).2.dur q.size + (f j).2.rng from rfl)
        obtain ⟨sv, sb, hsv⟩ : ∃ sv sb, aAt q (st j) x (f j).2 pre = (sv, sb) := ⟨_, _, rfl⟩
        have Hsv := Lib.hid hsv
        rw [hsv] at q1 q2
        clear hpu hps hsv
        have l1 := hkp.cell
        have l2 := hkp.lt
        have l3 := kx.cell
        have l4 := kx.lt
        have l5 := k0.cell
        have l6 := k0.lt
        have l7 := q1.cell
        have l8 := q1.lt
        have l9 := q2.cell
        have l10 := q2.lt
        have hne1 : ¬ W0.heap.size = W0.heap.size + 1 := by omega
        have hne2 : ¬ W0.heap.size + 1 = W0.heap.size := by omega
        by_cases e1 : (f j).2.dst = q.dst
        case' neg =>
          have d1 : ((f j).2.dst == q.dst) = false := by simpa using e1
          have HE1 := Lib.hid e1
          clear e1
          gi_wp2
          refine wpIn_region_quiet_round rfl (by kernel_rfl) (by kernel_rfl) (by kernel_rfl) ?_
          repeat (gi_big_quiet_step (fail))
          refine wpQuietIn_nil ?_
          intro wq hwq
          replace hwq := quiet_drew hwq
          have FIN := Lib.hid (Hps.out wq hwq (fun hh => HE1.out hh.1))
          have r2 := kx.ext hwq
          have r3 := q1.ext hwq
          have r4 := q2.ext hwq
          have r5 := r2.cell
          have r6 := r2.lt
          have r8 := r3.lt
          have r9 := r3.frozen
          have r10 := r4.lt
          have r11 := r4.frozen
          have r12 := r3.cell
          have r13 := r4.cell
          clear l1 l2 l3 l4 l5 l6 l7 l8 l9 l10
          gi_wp2
          exact FIN.out
        have d1 : ((f j).2.dst == q.dst) = true := by simpa using e1
        have HE1 := Lib.hid e1
        clear e1
        cases sb with
        | false =>
          gi_wp2
          refine wpIn_region_quiet_round rfl (by kernel_rfl) (by kernel_rfl) (by kernel_rfl) ?_
          repeat (gi_big_quiet_step (fail))
          refine wpQuietIn_nil ?_
          intro wq hwq
          replace hwq := quiet_drew hwq
          have FIN := Lib.hid (Hpu.out wq hwq ⟨HE1.out, .inl (by rw [Hsv.out])⟩)
          have r2 := kx.ext hwq
          have r3 := q1.ext hwq
          have r4 := q2.ext hwq
          have r5 := r2.cell
          have r6 := r2.lt
          have r8 := r3.lt
          have r9 := r3.frozen
          have r10 := r4.lt
          have r11 := r4.frozen
          have r12 := r3.cell
          have r13 := r4.cell
          clear l1 l2 l3 l4 l5 l6 l7 l8 l9 l10
          gi_wp2
          exact FIN.out
        | true =>
          by_cases e2 : x.arr q (f j).2 < sv
          · have d2 : decide (max (f j).2.st x.tm + (f j).2.dur q.size + (f j).2.rng < sv) = true := decide_eq_true e2
            have HE2 := Lib.hid e2
            clear e2
            gi_wp2
            refine wpIn_region_quiet_round rfl (by kernel_rfl) (by kernel_rfl) (by kernel_rfl) ?_
            repeat (gi_big_quiet_step (fail))
            refine wpQuietIn_nil ?_
            intro wq hwq
            replace hwq := quiet_drew hwq
            have FIN := Lib.hid (Hpu.out wq hwq ⟨HE1.out, .inr (by rw [Hsv.out]; exact HE2.out)⟩)
            have r2 := kx.ext hwq
            have r3 := q1.ext hwq
            have r4 := q2.ext hwq
            have r5 := r2.cell
            have r6 := r2.lt
            have r8 := r3.lt
            have r9 := r3.frozen
            have r10 := r4.lt
            have r11 := r4.frozen
            have r12 := r3.cell
            have r13 := r4.cell
            clear l1 l2 l3 l4 l5 l6 l7 l8 l9 l10
            gi_wp2
            exact FIN.out
          · have d2 : decide (max (f j).2.st x.tm + (f j).2.dur q.size + (f j).2.rng < sv) = false := decide_eq_false e2
            have HE2 := Lib.hid e2
            clear e2
            gi_wp2
            refine wpIn_region_quiet_round rfl (by kernel_rfl) (by kernel_rfl) (by kernel_rfl) ?_
            repeat (gi_big_quiet_step (fail))
            refine wpQuietIn_nil ?_
            intro wq hwq
            replace hwq := quiet_drew hwq
            have FIN := Lib.hid (Hps.out wq hwq (by rw [Hsv.out]; rintro ⟨_, h1 | h1⟩ <;> first | (cases h1; done) | (have := HE2.out; dsimp only at h1; omega)))
            have r2 := kx.ext hwq
            have r3 := q1.ext hwq
            have r4 := q2.ext hwq
            have r5 := r2.cell
            have r6 := r2.lt
            have r8 := r3.lt
            have r9 := r3.frozen
            have r10 := r4.lt
            have r11 := r4.frozen
            have r12 := r3.cell
            have r13 := r4.cell
            clear l1 l2 l3 l4 l5 l6 l7 l8 l9 l10
            gi_wp2
            exact FIN.out
      case done =>
        rintro D ys W hDD hS ⟨q1, q2, q3, q4, q5⟩ hK
        subst hS
        have e : aAt q (st j) x (f j).2 [()] = st (j + 1) := by unfold aAt; rw [if_neg (by simp)]; exact Hst.out.symm
        rw [e] at q1 q2
        have hd2 := q4.cons hDD (by omega) hK
        clear hK
        go_wp2_with fail
        go_roundg (gk - 1)
        case measure => have := Hjk.out; omega
        case rel => exact ⟨by have := Hjk.out; show j + 1 + (gk - 1) = L.length; omega, q1, q2, q3, by omega, hd2⟩
      case stop =>
        rintro D c pre W _ _ h _
        exact h.elim
    · obtain rfl : j = L.length := by omega
      have l1 := k6.cell
      have l2 := k6.lt
      have l3 := k7.cell
      have l4 := k7.lt
      have hN := Near.refl wr
      go_wp2_with fail
      have hq := quiet_near hN
      refine wp_region_quiet_below (by kernel_rfl) (by kernel_rfl) ?_
      repeat (first | go_big_quiet_skip | (go_big_quiet_want; go_big_quiet_op; first | go_big_quiet_on | (apply Exists.intro; refine ⟨fun _ => ?_, ?_⟩; (focus (first | fail)); go_big_quiet_on)))
      refine wpQuiet_nil ?_
      intro w1 hw1
      clear hq
      replace hw1 := quiet_ext hw1
      replace hN := hN.step hw1
      have hC := hN.2
      go_wp2
      show LeavesInM _ _ _ _ _ _ ds .returning _
      refine (hds.ext hN.1).leaves ?_
      intro w' hw'
      have hfin := hw' (fun W => Ext w W) (fun s X Y row hs hg hr => hs.keptb hg (fun r e => Nat.le_trans hE2.size (hr r e).1)) (hEw.trans hN.1)
      exact ⟨_, results_tmp2z rfl _ _ _, rfl, hfin⟩

end Go.Proofs.YtmaengcmhopmbaaGreat

namespace Go.Proofs.YtmaengcmhopmbaaGreat
set_option linter.unusedVariables false
set_option linter.unusedSimpArgs false
open Go.RowKit Go.Shelf
attribute [local go_sem] Oper.semAt_some

theorem results_c3 {fn : Func} {p q r : Tmp} {t u v : TypeId} (h : fn.results = #[.cell p t, .cell q u, .cell r v]) (tmps : Array Value) (P : Program) (w : World) :
    (results fn tmps).run P w =
      ((asAddr (tmps.getD p undef)).run P w).andThen fun a w1 => ((loadVar t a).run P w1).andThen fun x w2 =>
      ((asAddr (tmps.getD q undef)).run P w2).andThen fun a w1 => ((loadVar u a).run P w1).andThen fun y w2 =>
      ((asAddr (tmps.getD r undef)).run P w2).andThen fun a w1 => ((loadVar v a).run P w1).andThen fun z w2 => .ok (.tuple #[x, y, z]) w2 := by
  simp only [results, h]
  simp [Sem.run_bind, Result.andThen]
/-- To where a label's move leads. -/
def mvL (q : Req) (x : Lb) (c : Con) : Lb := ⟨c.dst, 0, 1099511627776, x.arr q c⟩
def hopC (q : Req) (x : Lb) (i : Nat) (c : Con) : Hp := ⟨i, max c.st x.tm, max c.st x.tm + c.dur q.size, x.arr q c⟩
/-- Between two moves; and where the move is found. -/
def BRl (P : Prop) (x : Lb) (b8 : Nat) (W0 : World) (lo B : Nat) (ds : List Deferred) (pre : List Unit) (W : World) : Prop := Ext W0 W ∧ DSx B lo ds W ∧ B ≤ W.heap.size ∧ Blk W b8 134 #[.int .i64 x.node, .int .i64 x.fr, .int .i64 x.til, .int .i64 x.tm] ∧ (pre ≠ [] → P)
theorem BRl.ext {P : Prop} {x : Lb} {b8 : Nat} {W0 : World} {lo B : Nat} {ds : List Deferred} {pre pre' : List Unit} {W W' : World} (h : BRl P x b8 W0 lo B ds pre W) (hb : Ext W W') (hp : pre' ≠ [] → P) : BRl P x b8 W0 lo B ds pre' W' := ⟨h.1.trans hb, h.2.1.ext hb, Nat.le_trans h.2.2.1 hb.size, h.2.2.2.1.ext hb, hp⟩
def BRx (w : World) (x : Lb) (h : Hp) (b4 b5 b6 lo B : Nat) (ds : List Deferred) (c : Code) (_ : List Unit) (W : World) : Prop :=
  c = .ret ∧ Blk W b4 134 #[.int .i64 x.node, .int .i64 x.fr, .int .i64 x.til, .int .i64 x.tm] ∧ Blk W b5 40 #[.int .i64 h.con, .int .i64 h.beg, .int .i64 h.en, .int .i64 h.arr] ∧ Blk W b6 4 #[.bool true] ∧ Ext w W ∧ DSx B lo ds W ∧ B ≤ W.heap.size
theorem brl_own {P : Prop} {x : Lb} {b8 : Nat} {W0 : World} {lo B : Nat} {ds : List Deferred} (hB : W0.heap.size ≤ B) : OwnFrom B (BRl P x b8 W0 lo B ds) := by
  intro pre X Y row hs hg hr
  obtain ⟨h3, h4, h5, h6, h7⟩ := hs
  exact ⟨h3.keptb hg (fun r e => Nat.le_trans hB (hr r e).1), h4.kept hg (fun r e => (hr r e).1), Nat.le_trans h5 hg.size, h6.keptc hg (fun r e => (hr r e).2), h7⟩
theorem brx_own {w : World} {x : Lb} {h : Hp} {b4 b5 b6 lo B : Nat} {ds : List Deferred} (hB : w.heap.size ≤ B) (c : Code) : OwnFrom B (BRx w x h b4 b5 b6 lo B ds c) := by
  intro pre X Y row hs hg hr
  obtain ⟨h0, h1, h2, h2', h3, h4, h5⟩ := hs
  exact ⟨h0, h1.keptc hg (fun r e => (hr r e).2), h2.keptc hg (fun r e => (hr r e).2), h2'.keptc hg (fun r e => (hr r e).2), h3.keptb hg (fun r e => Nat.le_trans hB (hr r e).1), h4.kept hg (fun r e => (hr r e).1), Nat.le_trans h5 hg.size⟩

theorem keeps_setCells : ∀ (vs : List Value) (w : World) (g o : Nat), KeepsOthers w (w.setCells g o vs)
  | [], w, _, _ => (Ext.refl w).keeps
  | v :: vs, w, g, o => (KeepsOthers.setCell w ⟨g, o, none⟩ v).trans (keeps_setCells vs _ g (o + 1))
theorem blk_fars : ∀ (vs : List Value) {w : World} {g g' : Nat} {t : TypeId} {cs : Array Value} (_ : Blk w g t cs) (_ : g ≠ g') (o : Nat), Blk (w.setCells g' o vs) g t cs
  | [], _, _, _, _, _, h, _, _ => h
  | v :: vs, _, _, g', _, _, h, hn, o => blk_fars vs (h.far (p := ⟨g', o, none⟩) hn v) hn (o + 1)
/-- A label, a hop and a bool are put. -/
theorem put3 {w w9 : World} {b4 b5 b6 : Nat} {t4 t5 t6 : TypeId} {c4 c5 c6 : Array Value} (k4 : Blk w9 b4 t4 c4) (k5 : Blk w9 b5 t5 c5) (k6 : Blk w9 b6 t6 c6) (v4 v5 : List Value) (h45 : b4 ≠ b5) (h46 : b4 ≠ b6) (h56 : b5 ≠ b6) (hE : Ext w w9) (h4 : w.heap.size ≤ b4) (h5 : w.heap.size ≤ b5) (h6 : w.heap.size ≤ b6) :
    ∃ WF, (((w9.setCells b4 0 v4).setCells b5 0 v5).setCell ⟨b6, 0, none⟩ (.bool true)).drew = WF ∧ Blk WF b4 t4 (arrSets c4 0 v4) ∧ Blk WF b5 t5 (arrSets c5 0 v5) ∧ Blk WF b6 t6 (c6.setIfInBounds 0 (.bool true)) ∧ Ext w WF ∧ KeepsOthers w9 WF := by
  refine ⟨_, rfl, ?_, ?_, ?_, ?_, ?_⟩
  · exact (blk_fars v5 (k4.setCells_ v4 0) h45 0).far h46 _
  · exact ((blk_fars v4 k5 h45.symm 0).setCells_ v5 0).far h56 _
  · exact (blk_fars v5 (blk_fars v4 k6 h46.symm 0) h56.symm 0).set_ 0 _
  · exact ((ext_setCells (ext_setCells hE h4 0 v4) h5 0 v5).setCell h6 _).drew
  · exact (((keeps_setCells v4 w9 b4 0).trans (keeps_setCells v5 _ b5 0)).trans (KeepsOthers.setCell _ _ _)).trans (KeepsOthers.drew _)

set_option maxRecDepth 100000 in
set_option maxHeartbeats 8000000 in
theorem before_any (Aq : Option Addr) (cq : Nat) (Ac : Option Addr) (cc : Nat) (p : Pln) (q : Req) (base B Bl Bg : Nat) (Al : Option Addr) (cl : Nat) (L : List Lb) (f : Nat → Nat × Con) (tg : Lb) (K : Nat) (w : World) (h : PlnRd w Aq cq Ac cc p) (hg : GAt Aq cq Ac cc p q base w B) (hl : Rd ELb w Al L) (hlm : L.length ≤ 64)
    (kl : Blk w Bl 50 #[.slice Al L.length cl]) (kg : Blk w Bg 127 #[.pointer (some ⟨B, 0, none⟩)]) (hD : ∀ k (h : k < L.length), MvD p q L[k] (f k).1 (f k).2) (hK : K < L.length)
    (hno : ∀ k (h : k < L.length), k < K → lbSame (mvL q L[k] (f k).2) tg = false) (hyes : lbSame (mvL q L[K] (f K).2) tg = true ∧ L[K].arr q (f K).2 = tg.tm) :
    Calls Tryz.prog 67 #[.agg #[.int .i64 tg.node, .int .i64 tg.fr, .int .i64 tg.til, .int .i64 tg.tm], .pointer (some ⟨Bl, 0, none⟩), .pointer (some ⟨Bg, 0, none⟩)] w fun e w' => e = .returned (.tuple #[.agg #[.int .i64 L[K].node, .int .i64 L[K].fr, .int .i64 L[K].til, .int .i64 L[K].tm], .agg #[.int .i64 (hopC q L[K] (f K).1 (f K).2).con, .int .i64 (hopC q L[K] (f K).1 (f K).2).beg, .int .i64 (hopC q L[K] (f K).1 (f K).2).en, .int .i64 (hopC q L[K] (f K).1 (f K).2).arr], .bool true]) ∧ Ext w w' := by
  obtain ⟨W0, hW0, hB0, hk0, hl0⟩ := box1 w #[.int .i64 tg.node, .int .i64 tg.fr, .int .i64 tg.til, .int .i64 tg.tm] 134
  obtain ⟨W1, hW1, hB1, hk1, hl1⟩ := box1 W0 #[.int .i64 0, .int .i64 0, .int .i64 0, .int .i64 0] 134
  obtain ⟨W2, hW2, hB2, hk2, hl2⟩ := box1 W1 #[.int .i64 0, .int .i64 0, .int .i64 0, .int .i64 0] 40
  obtain ⟨W3, hW3, hB3, hk3, hl3⟩ := box1 W2 #[.bool false] 4
  have hB12 := hB1.trans hB2
  have hE3 := (hB0.trans hB12).trans hB3
  have a1 := (kl.ext hE3).cell
  have a2 := (kl.ext hE3).lt
  refine (callsIn_wide (n := 5)).1 ?_
  refine callsIn_of_wp_marks Tryz.func67 rfl trivial ?_ rfl
  refine wpIn_wide.2 ?_
  refine Code.wp_mono NoPanic.imp ?_
  simp only [Tryz.ntmps67, List.size_toArray, List.length_cons, List.length_nil, Nat.reduceAdd, Nat.reduceSub, Array.replicate_succ, Array.replicate_zero, List.push_toArray, List.append_toArray, List.nil_append, List.cons_append]
  go_wp2_with fail
  clear hW0 hW1 hW2 hW3 a1 a2
  have hcm := h.cm
  have s1 := hB1.size
  have s2 := hB2.size
  have s3 := hB3.size
  refine wp_loop_ghost_k (fun k a wr => ∃ (u8 u13 u14 u15 u16 u17 u18 u35 : Value) (ds : List Deferred) (j : Nat), (j + k = L.length ∧ j ≤ K ∧ Ext W3 wr ∧ DSx wr.heap.size W3.heap.size ds wr) ∧
    a = { tmps := #[.agg #[.int .i64 tg.node, .int .i64 tg.fr, .int .i64 tg.til, .int .i64 tg.tm], .pointer (some ⟨Bl, 0, none⟩), .pointer (some ⟨Bg, 0, none⟩), .pointer (some ⟨w.heap.size, 0, none⟩), .pointer (some ⟨W0.heap.size, 0, none⟩), .pointer (some ⟨W1.heap.size, 0, none⟩), .pointer (some ⟨W2.heap.size, 0, none⟩), undef, u8, undef, .slice Al L.length cl, .int .i64 L.length, .int .i64 j, u13, u14, u15, u16, u17, u18, undef, undef, undef, undef, undef, undef, undef, undef, undef, undef, undef, undef, undef, undef, undef, undef, u35, undef, undef], defers := ds }) L.length ?_ ?_
  · exact ⟨_, _, _, _, _, _, _, _, [], 0, ⟨by omega, Nat.zero_le _, Ext.refl _, DSx.nil _ _ _⟩, rfl⟩
  · intro gk _ wr hinv
    obtain ⟨u8, u13, u14, u15, u16, u17, u18, u35, ds, j, ⟨hjk, hjK, hE, hds⟩, ha⟩ := hinv
    subst ha
    intro _ _ _ _
    have Hjk := Lib.hid hjk
    have hlt : j < L.length := by omega
    clear hjk
    have hEw := hE3.trans hE
    have hws := hE.size
    obtain ⟨b, o, rfl, hb, c0, c1, c2, c3⟩ := (hl.ext hEw).lb hlt
    have D0 := Lib.hid (hD j hlt)
    have Hno := Lib.hid (hno j hlt)
    have Hyes : Hid (j = K → lbSame (mvL q L[j] (f j).2) tg = true ∧ L[j].arr q (f j).2 = tg.tm) := Lib.hid (fun e => by subst e; exact hyes)
    have Hres : Hid (j = K → L[K] = L[j] ∧ f K = f j) := Lib.hid (fun e => by subst e; exact ⟨rfl, rfl⟩)
    generalize hxj : L[j] = x at *
    clear hxj
    obtain ⟨W4, hW4, hB4, hk4, hl4⟩ := box1 wr #[.int .i64 x.node, .int .i64 x.fr, .int .i64 x.til, .int .i64 x.tm] 134
    have hE4 := hE.trans hB4
    have t1 := hk4.cell
    have t2 := hk4.lt
    have t3 := (kg.ext (hE3.trans hE4)).cell
    have t4 := (kg.ext (hE3.trans hE4)).lt
    have hho := fun w => moves_any B x w
    go_wp2_with fail
    clear hW4 t1 t2 t3 t4 c0 c1 c2 c3
    refine (hho _).mono ?_
    clear hho
    rintro e w4 ⟨rfl, hb4, hs4, z1, z2⟩
    have hE5 := hE4.trans hb4
    go_wp2_with fail
    have hn4 : w.heap.size ≤ w4.heap.size := (hE3.trans hE5).size
    have hw3 := hB4.size
    have hb4s := hb4.size
    refine (wpIn_wide (n := 5)).1 ?_
    refine wpIn_rangeFunc_ownH rfl (by omega) (gf := 110) (lb := #[.pointer (some ⟨W4.heap.size, 0, none⟩), .pointer (some ⟨W4.heap.size + 1, 0, none⟩)]) rfl trivial (enters_of Tryz.func110 (by kernel_rfl) rfl)
      (moves_stops W4.heap.size (W4.heap.size + 1) w4.heap.size (fun _ => False) Aq cq Ac cc p q base B x (f j).1 (f j).2 w w4 h hg D0.out (hE3.trans hE5) (fun k hk => hk.elim) z1 z2 hn4 (Nat.le_refl _) ⟨by omega, fun h => h⟩ ⟨by omega, fun h => h⟩)
      KpP.trans (fun W l o o' hl _ _ _ => KpP.put W l o' hl) (Below.refl _ _) (fun _ => rfl)
      (BRl (j < K) x wr.heap.size W3 W3.heap.size w4.heap.size ds) (fun c pre W => j = K ∧ BRx w x (hopC q x (f j).1 (f j).2) W0.heap.size W1.heap.size W2.heap.size W3.heap.size w4.heap.size ds c pre W) (brl_own (by omega)) (fun c s X Y row hs hg hr => ⟨hs.1, brx_own (by omega) c s X Y row hs.2 hg hr⟩)
      ⟨hE5, ((hds.ext hB4).ext hb4).more (by omega), Nat.le_refl _, hk4.ext hb4, fun e => absurd rfl e⟩
      (fun _ a' W => ∃ Bx, w4.heap.size ≤ Bx ∧ Blk W Bx 139 #[.int .i64 (f j).2.dst, .int .i64 0, .int .i64 1099511627776, .int .i64 (max (f j).2.st x.tm + (f j).2.dur q.size + (f j).2.rng), .int .i64 (f j).1, .int .i64 (max (f j).2.st x.tm), .int .i64 (max (f j).2.st x.tm + (f j).2.dur q.size), .int .i64 (max (f j).2.st x.tm + (f j).2.dur q.size + (f j).2.rng)] ∧ a' = { tmps := #[.agg #[.int .i64 tg.node, .int .i64 tg.fr, .int .i64 tg.til, .int .i64 tg.tm], .pointer (some ⟨Bl, 0, none⟩), .pointer (some ⟨Bg, 0, none⟩), .pointer (some ⟨w.heap.size, 0, none⟩), .pointer (some ⟨W0.heap.size, 0, none⟩), .pointer (some ⟨W1.heap.size, 0, none⟩), .pointer (some ⟨W2.heap.size, 0, none⟩), undef, .pointer (some ⟨wr.heap.size, 0, none⟩), .pointer (some ⟨Bx, 0, none⟩), .slice (some ⟨b, o, none⟩) L.length cl, .int .i64 L.length, .int .i64 j, .bool true, .pointer (some ⟨b, o + j * 4, none⟩), .agg #[.int .i64 x.node, .int .i64 x.fr, .int .i64 x.til, .int .i64 x.tm], .pointer (some ⟨B, 0, none⟩), .agg #[.int .i64 x.node, .int .i64 x.fr, .int .i64 x.til, .int .i64 x.tm], .func (.func 110) #[] #[.pointer (some ⟨W4.heap.size, 0, none⟩), .pointer (some ⟨W4.heap.size + 1, 0, none⟩)], .agg #[.int .i64 (f j).2.dst, .int .i64 0, .int .i64 1099511627776, .int .i64 (max (f j).2.st x.tm + (f j).2.dur q.size + (f j).2.rng), .int .i64 (f j).1, .int .i64 (max (f j).2.st x.tm), .int .i64 (max (f j).2.st x.tm + (f j).2.dur q.size), .int .i64 (max (f j).2.st x.tm + (f j).2.dur q.size + (f j).2.rng)], undef, undef, undef, undef, undef, undef, undef, undef, undef, undef, undef, undef, undef, undef, undef, u35, undef, undef], defers := [] })
      (fun _ a' s X Y row hs hg hr => by obtain ⟨Bx, z1, z2, z3⟩ := hs; exact ⟨Bx, z1, z2.keptc hg (fun r e => (hr r e).2), z3⟩) ?assign ?body ?done ?stop
    case assign =>
      rintro li pre y W K9 hi hK9
      have hBW : w4.heap.size ≤ W.heap.size := hi.2.2.1
      simp only [mvX]
      gi_wp2
      exact hK9 _ _ ((KeepsOthers.alloc _ _).from _) (KpP.of_ext hBW ((Ext.refl W).alloc _)) (hi.ext ((Ext.refl W).alloc _) hi.2.2.2.2) ⟨W.heap.size, hBW, Blk.new _ _ _, rfl⟩
    case body =>
      rintro li pre y a' W hl ⟨rr, hrr⟩ hBR ⟨Bx, b1, kx, rfl⟩ hlen
      have HBR := Lib.hid hBR
      obtain ⟨q3, q4, q5, q6, _⟩ := hBR
      have hkt := ((hk0.ext hB12).ext hB3).ext q3
      have hfn : ∀ k, Fence.wide.fn k := fun _ => trivial
      have hmix : Tryz.prog.follows .mixedOrders = true := by kernel_rfl
      have hsm : ∀ W', CallsIn (Fence.wide.inRound li) 2 Tryz.prog 69 #[(mvL q x (f j).2).val, tg.val] W' (fun e w1 => e = .returned (.bool (lbSame (mvL q x (f j).2) tg)) ∧ Ext W' w1) := fun W' => CallsIn.inRound li (callsIn_wide.2 (same_any _ _ _))
      have e8 : x.arr q (f j).2 = max (f j).2.st x.tm + (f j).2.dur q.size + (f j).2.rng := rfl
      unfold Lb.val mvL at hsm
      dsimp only at hsm
      rw [e8] at hsm
      have l1 := kx.cell
      have l2 := kx.lt
      have l3 := hkt.cell
      have l4 := hkt.lt
      by_cases hjj : j < K
      · have hs0 := Hno.out hjj
        unfold mvL at hs0
        rw [e8] at hs0
        rw [hs0] at hsm
        clear hs0
        gi_wp2_with fail
        refine (hsm _).mono ?_
        rintro e w9 ⟨rfl, hb9⟩
        have m1 := (kx.ext hb9).cell
        have m2 := (kx.ext hb9).lt
        have m3 := (hkt.ext hb9).cell
        have m4 := (hkt.ext hb9).lt
        clear l1 l2 l3 l4
        gi_wp2
        exact ⟨hb9.keeps.from _, KpP.of_ext q5 hb9, HBR.out.ext hb9 (fun _ => hjj)⟩
      · have HjK := Lib.hid (show j = K by omega)
        have hs0 := (Hyes.out HjK.out).1
        have ht0 := (Hyes.out HjK.out).2
        unfold mvL at hs0
        rw [e8] at hs0 ht0
        rw [hs0] at hsm
        have d1 : (max (f j).2.st x.tm + (f j).2.dur q.size + (f j).2.rng == tg.tm) = true := by simpa using ht0
        clear hs0 ht0
        gi_wp2_with fail
        refine (hsm _).mono ?_
        rintro e w9 ⟨rfl, hb9⟩
        have kx9 := kx.ext hb9
        have kt9 := hkt.ext hb9
        have k89 := q6.ext hb9
        have k49 := ((hk1.ext hB2).ext hB3).ext (q3.trans hb9)
        have k59 := (hk2.ext hB3).ext (q3.trans hb9)
        have k69 := hk3.ext (q3.trans hb9)
        have m1 := kx9.cell
        have m2 := kx9.lt
        have m3 := kt9.cell
        have m4 := kt9.lt
        have m5 := k89.cell
        have m6 := k89.lt
        have m7 := k49.cell
        have m8 := k49.lt
        have m9 := k49.frozen
        have m10 := k59.cell
        have m11 := k59.lt
        have m12 := k59.frozen
        have m13 := k69.cell
        have m14 := k69.lt
        have m15 := k69.frozen
        clear l1 l2 l3 l4
        obtain ⟨WF, hWF, kf4, kf5, kf6, hEF, hkf⟩ := put3 (w := w) k49 k59 k69 [.int .i64 x.node, .int .i64 x.fr, .int .i64 x.til, .int .i64 x.tm] [.int .i64 (f j).1, .int .i64 (max (f j).2.st x.tm), .int .i64 (max (f j).2.st x.tm + (f j).2.dur q.size), .int .i64 (max (f j).2.st x.tm + (f j).2.dur q.size + (f j).2.rng)] (by omega) (by omega) (by omega) ((hE3.trans q3).trans hb9) (by omega) (by omega) (by omega)
        simp only [World.setCells, Nat.zero_add, Nat.reduceAdd] at hWF
        gi_wp2
        gi_region_with_o (fail)
        all_goals
          try rw [hWF]
          gi_wp2
          exact ⟨(hb9.keeps.trans hkf).from _, HjK.out, rfl, kf4, kf5, kf6, hEF, q4.keeps (hb9.keeps.trans hkf), Nat.le_trans q5 (hb9.keeps.trans hkf).size⟩
    case done =>
      rintro D ys W hDD hS ⟨q3, q4, q5, q6, q7⟩ hK9
      subst hS
      have hjj := q7 (by simp)
      have hd2 := q4.cons hDD (by omega) hK9
      go_wp2_with fail
      go_roundg (gk - 1)
      case measure => have := Hjk.out; omega
      case rel => exact ⟨by have := Hjk.out; show j + 1 + (gk - 1) = L.length; omega, hjj, q3, hd2⟩
    case stop =>
      rintro D c pre W hDD _ ⟨hjK2, rfl, q0, q1, q2, q3, q4, q5⟩ hK9
      have hd2 := q4.cons hDD (by omega) hK9
      refine wpIn_wide.2 ?_
      go_wp2
      show LeavesInM _ _ _ _ _ _ (mkD D :: ds) .returning W
      refine hd2.leaves ?_
      intro w' hw'
      have hfin := hw' (fun W => Blk W W0.heap.size 134 #[.int .i64 x.node, .int .i64 x.fr, .int .i64 x.til, .int .i64 x.tm] ∧ Blk W W1.heap.size 40 #[.int .i64 (hopC q x (f j).1 (f j).2).con, .int .i64 (hopC q x (f j).1 (f j).2).beg, .int .i64 (hopC q x (f j).1 (f j).2).en, .int .i64 (hopC q x (f j).1 (f j).2).arr] ∧ Blk W W2.heap.size 4 #[.bool true] ∧ Ext w W)
        (fun s X Y row hs hg hr => ⟨hs.1.keptc hg (fun r e => (hr r e).2), hs.2.1.keptc hg (fun r e => (hr r e).2), hs.2.2.1.keptc hg (fun r e => (hr r e).2), hs.2.2.2.keptb hg (fun r e => Nat.le_trans hE3.size (hr r e).1)⟩) ⟨q0, q1, q2, q3⟩
      have e1 := (Hres.out hjK2).1
      have e2 := (Hres.out hjK2).2
      rw [e1, e2]
      have n1 := hfin.1.cell
      have n2 := hfin.2.1.cell
      have n3 := hfin.2.2.1.cell
      exact ⟨_, by rw [results_c3 rfl]; simp [asAddr, Result.andThen, n1, n2, n3, go_sem], rfl, hfin.2.2.2⟩

end Go.Proofs.YtmaengcmhopmbaaGreat

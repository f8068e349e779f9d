/- TopMirror, the example: the tables of a ledger with one ticket. · TopMirror, the example: Accept at an empty ledger (the labels' contract as a hypothesis). -/
import Derived.Test.YtmaengcmhopmbaaGreatTaT
import Derived.Test.YtmaengcmhopmbaaGreatTaN
namespace Go.Proofs.YtmaengcmhopmbaaGreat
set_option linter.unusedVariables false
set_option linter.unusedSimpArgs false
open Go.RowKit Go.Shelf
attribute [local go_sem] Oper.semAt_some

set_option maxRecDepth 100000 in
set_option maxHeartbeats 4000000 in
theorem sorted_some (Aq Ac Ab Ah : Option Addr) (nq cq nc cc cb ch : Nat) (lb : List Bk) (lh : List Hd) (w : World) (hRb : Rd EBk w Ab lb) (hRh : Rd EHd w Ah lh) (hmb : lb.length ≤ 12) (hmh : lh.length ≤ 12) (hsb : ∀ k (h : k + 1 < lb.length), ¬ bkCmp lb[k + 1] lb[k] < 0) (hsh : ∀ k (h : k + 1 < lh.length), ¬ hdCmp lh[k + 1] lh[k] < 0) :
    Calls Tryz.prog 63 #[.agg #[.slice Aq nq cq, .slice Ac nc cc, .slice Ab lb.length cb, .slice Ah lh.length ch]] w fun e w' => e = .returned (.agg #[.slice Aq nq cq, .slice Ac nc cc, .slice Ab lb.length cb, .slice Ah lh.length ch]) ∧ Ext w w' := by
  obtain ⟨W, hW, hB, hk, hk2, hlt, hlt2⟩ := box2 w #[.slice Aq nq cq, .slice Ac nc cc, .slice Ab lb.length cb, .slice Ah lh.length ch] #[.slice none 0 0, .slice none 0 0, .slice none 0 0, .slice none 0 0] 82 82
  have h1 := fun w h => bstable2_any Ab cb lb w h hmb hsb
  have h2 := fun w h => hstable2_any Ah ch lh w h hmh hsh
  have hRb1 := hRb.ext hB
  have hRh1 := hRh.ext hB
  clear hsb hsh
  have c1 := hk.cell
  go_enter Tryz.func63, Tryz.ntmps63
  go_wp2_with fail
  clear hW
  refine (h1 _ hRb1).mono ?_
  rintro e w1 ⟨rfl, hb1⟩
  have c2 := (hk.ext hb1).cell
  have l2 := (hk.ext hb1).lt
  go_wp2_with fail
  refine (h2 _ (hRh1.ext hb1)).mono ?_
  rintro e w2 ⟨rfl, hb2⟩
  have hb := hb1.trans hb2
  have c3 := (hk.ext hb).cell
  have l3 := (hk.ext hb).lt
  have k3 := hk2.ext hb
  have l4 := k3.lt
  have f4 := k3.frozen
  have c4 := k3.cell
  go_wp2
  obtain ⟨w7, hw7, hz7, hE7⟩ : ∃ w7, w2.setCells (w.heap.size + 1) 0 [.slice Aq nq cq, .slice Ac nc cc, .slice Ab lb.length cb, .slice Ah lh.length ch] = w7 ∧ Blk w7 (w.heap.size + 1) 82 #[.slice Aq nq cq, .slice Ac nc cc, .slice Ab lb.length cb, .slice Ah lh.length ch] ∧ Ext w w7 :=
    ⟨_, rfl, k3.setCells_ [.slice Aq nq cq, .slice Ac nc cc, .slice Ab lb.length cb, .slice Ah lh.length ch] 0, ext_setCells (hB.trans hb) (by omega) 0 _⟩
  simp only [World.setCells, Nat.zero_add, Nat.reduceAdd] at hw7
  rw [hw7]
  have hc7 := hz7.cell
  refine bodyPost_ret (v := .agg #[.slice Aq nq cq, .slice Ac nc cc, .slice Ab lb.length cb, .slice Ah lh.length ch]) (by rw [results_cell1 rfl]; simp [asAddr, Result.andThen, hc7, go_sem]) rfl ?_
  exact ⟨rfl, hE7⟩


set_option maxRecDepth 100000 in
set_option maxHeartbeats 16000000 in
theorem tables_one (Aq : Option Addr) (cq : Nat) (Ac : Option Addr) (cc : Nat) (p : Pln) (t : Tk) (hops : List Hp) (At : Option Addr) (ct : Nat) (w : World) (h : PlnRd w Aq cq Ac cc p) (hRt : Rd ETk w At [t]) (hRh : Rd EHp w t.ha hops) (htn : t.hn = hops.length) (hm : hops.length ≤ 12) (hc : t.q.cust = false)
    (hcon : ∀ k (h : k < hops.length), 0 ≤ hops[k].con ∧ hops[k].con < p.cons.length) (hpos : ∀ k, k < hops.length → frK t.q.ready hops k < (hops.getD k ⟨0, 0, 0, 0⟩).en) (hend : ndK p.cons t.q.src hops hops.length = t.q.dst)
    (hsb : ∀ k (h : k + 1 < (hops.map (hpBk t.num)).length), ¬ bkCmp (hops.map (hpBk t.num))[k + 1] (hops.map (hpBk t.num))[k] < 0) (hsh : ∀ k (h : k + 1 < (hdK p.cons t.q t.num hops hops.length).length), ¬ hdCmp (hdK p.cons t.q t.num hops hops.length)[k + 1] (hdK p.cons t.q t.num hops hops.length)[k] < 0) :
    Calls Tryz.prog 33 #[.agg #[.slice Aq p.quo.length cq, .slice Ac p.cons.length cc, .slice none 0 0, .slice At 1 ct]] w fun e w' => ∃ Ab cb Ah ch, e = .returned (.agg #[.slice Aq p.quo.length cq, .slice Ac p.cons.length cc, .slice Ab hops.length cb, .slice Ah hops.length ch]) ∧ Ext w w' := by
  obtain ⟨i0, hi0, hz0, hz1, hz2⟩ := info_parts info_bkT
  obtain ⟨i1, hi1, hy0, hy1, hy2⟩ := info_parts info_hdT
  obtain ⟨W, hW, hB, hk, hk2, hlt, hlt2⟩ := box2 w #[.slice Aq p.quo.length cq, .slice Ac p.cons.length cc, .slice none 0 0, .slice At 1 ct] #[.slice none 0 0, .slice none 0 0, .slice none 0 0, .slice none 0 0] 46 82
  have h1 := cloneBk_nil
  have hbk := fun w h => bookings_any t.ha t.hc hops t.num w h hm hsb
  have hhd := fun w h h' => holds_any Aq cq Ac cc p t.q t.ha t.hc hops t.num t.til w h h' hm hc hcon hpos hend
  have hso := fun Ab cb Ah ch w h1 h2 => sorted_some Aq Ac Ab Ah p.quo.length cq p.cons.length cc cb ch (hops.map (hpBk t.num)) (hdK p.cons t.q t.num hops hops.length) w h1 h2 (by simpa using hm) (by rw [hdK_len]; exact hm) hsb hsh
  simp only [hdK_len, List.length_map] at hso
  unfold Req.val at hhd
  clear hc hcon hpos hend hsb hsh
  have c1 := hk.cell
  go_enter Tryz.func33, Tryz.ntmps33
  go_wp2_with fail
  clear hW
  go_cut [3] from 6 to 45 (fun x wx => TabAt W x #[.slice Aq p.quo.length cq, .slice Ac p.cons.length cc, .slice none 0 0, .slice none 0 0] wx)
  case first =>
    clear hbk hhd hso
    have hN := Near.refl W
    go_region_held3 (fun w' => Ext W w' ∧ ∀ b o, b < W.heap.size → w'.cell? ⟨b, o, none⟩ = W.cell? ⟨b, o, none⟩) (first | exact hN.drew | exact Near.step (by assumption) hb9 | exact near_alloc (by assumption) _ | (refine Near.of ?_; repeat (first | exact hx9 | refine Ext.alloc ?_ _ | (refine Ext.setCell ?_ ?_ _; rotate_left; (focus (first | exact Nat.le_refl _ | (dsimp only; omega)))))) | assumption)
      (first | (go_at_call 60; refine (h1 _).mono ?_; rintro e w9 ⟨rfl, hb9⟩; have hx9 : Ext W w9 := Ext.trans (And.left (by assumption)) hb9; have hs9 := hx9.size; have hz9 := fun (hh : Blk _ W.heap.size 82 #[.slice none 0 0, .slice none 0 0, .slice none 0 0, .slice none 0 0]) => Blk.ext hh hb9; (try simp [blk_alloc_iff, blk_drew, blk_no0] at hz9); (try (have hz9c := Blk.cell hz9; have hz9f := Blk.frozen hz9; have hz9l := Blk.lt hz9))))
    all_goals
      try go_wp2_with fail
      go_meet
      first
        | exact ⟨W.heap.size, rfl, Nat.le_refl _, hz9.setCells_ [.slice Aq p.quo.length cq, .slice Ac p.cons.length cc, .slice none 0 0, .slice none 0 0] 0, ext_setCells hx9 (Nat.le_refl _) 0 [.slice Aq p.quo.length cq, .slice Ac p.cons.length cc, .slice none 0 0, .slice none 0 0]⟩
        | exact ⟨w9.heap.size, rfl, hx9.size, Blk.new _ _ _, hx9.alloc _⟩
  case rest =>
    obtain ⟨B, rfl, hBl, hk8, hx8⟩ := hcut
    have kl := hk.ext hx8
    have kr := hk2.ext hx8
    have c2 := kl.cell
    have l2 := kl.lt
    have sB := hB.size
    have s8 := hx8.size
    have sL := hk8.lt
    have sk2 := hk2.lt
    have hEc := hB.trans hx8
    go_wp2_with fail
    go_loopg [15] 1 (fun n v wr => (n = 1 ∧ v = .int .i64 0 ∧ wr = wc) ∨ (n = 0 ∧ v = .int .i64 1 ∧ ∃ Ab cb Ah ch, Blk wr B 82 #[.slice Aq p.quo.length cq, .slice Ac p.cons.length cc, .slice Ab hops.length cb, .slice Ah hops.length ch] ∧ Rd EBk wr Ab (hops.map (hpBk t.num)) ∧ Rd EHd wr Ah (hdK p.cons t.q t.num hops hops.length) ∧ KpX wc.heap.size B wc wr))
    case atStart => exact .inl ⟨rfl, rfl, rfl⟩
    case round =>
      rcases hrel with ⟨rfl, rfl, rfl⟩ | ⟨rfl, rfl, Ab, cb, Ah, ch, kB, hRb, hRd, hK⟩
      · obtain ⟨b, o, rfl, hb, hcs⟩ := (hRt.ext hEc).at (k := 0) (by simp)
        have t0 := hcs 0 _ rfl
        have t1 := hcs 1 _ rfl
        have t2 := hcs 2 _ rfl
        have t3 := hcs 3 _ rfl
        have t4 := hcs 4 _ rfl
        have t5 := hcs 5 _ rfl
        have t6 := hcs 6 _ rfl
        have t7 := hcs 7 _ rfl
        have t8 := hcs 8 _ rfl
        have t9 := hcs 9 _ rfl
        have t10 := hcs 10 _ rfl
        clear hcs
        simp only [List.getElem_cons_zero, Nat.zero_mul, Nat.add_zero] at t0 t1 t2 t3 t4 t5 t6 t7 t8 t9 t10
        obtain ⟨W4, hW4, hB4, hk4, hl4⟩ := box1 wr t.cells.toArray 56
        simp only [Tk.cells] at hW4 hk4
        rw [htn] at hW4 hk4 t8
        have kB4 := hk8.ext hB4
        have a1 := kB4.cell
        have a2 := kB4.lt
        have a3 := hk4.cell
        have a4 := hk4.lt
        have hRh4 := (hRh.ext hEc).ext hB4
        have hs4 := hB4.size
        have hms : hops.length ≤ 1000 := by omega
        go_wp2_with fail
        have hS0 : Ext W4 W4.drew ∧ ∀ b o, b < W4.heap.size → W4.drew.cell? ⟨b, o, none⟩ = W4.cell? ⟨b, o, none⟩ := ⟨(Ext.refl W4).drew, fun _ _ _ => rfl⟩
        refine wp_region_P (fun k => decide (9 ≤ k)) (fun w' => Ext W4 w' ∧ ∀ b o, b < W4.heap.size → w'.cell? ⟨b, o, none⟩ = W4.cell? ⟨b, o, none⟩) (by kernel_rfl) hS0 (fun _ => ?_)
        refine wpAnyP_take (i := 0) (v := ?_) rfl (by kernel_rfl) (by kernel_rfl) (by kernel_rfl) (by kernel_rfl) (fun _ _ _ h => h) (Or.inl ⟨by rfl, ?_⟩) (by assumption) ?_
        rotate_left
        · intro w' hw'
          (try have hC := hw'.2)
          (try have hC9 := hw'.1)
          go_simp
          first | done | with_reducible rfl
        try simp only [Act.put, List.setIfInBounds_toArray, List.set_cons_zero, List.set_cons_succ]
        refine wpAnyP_take (i := 1) (v := ?_) rfl (by kernel_rfl) (by kernel_rfl) (by kernel_rfl) (by kernel_rfl) (fun _ _ _ h => h) (Or.inl ⟨by rfl, ?_⟩) (by assumption) ?_
        rotate_left
        · intro w' hw'
          (try have hC := hw'.2)
          (try have hC9 := hw'.1)
          go_simp
          first | done | with_reducible rfl
        try simp only [Act.put, List.setIfInBounds_toArray, List.set_cons_zero, List.set_cons_succ]
        refine wpAnyP_take (i := 2) (v := ?_) rfl (by kernel_rfl) (by kernel_rfl) (by kernel_rfl) (by kernel_rfl) (fun _ _ _ h => h) (Or.inl ⟨by rfl, ?_⟩) (by assumption) ?_
        rotate_left
        · intro w' hw'
          (try have hC := hw'.2)
          (try have hC9 := hw'.1)
          go_simp
          first | done | with_reducible rfl
        try simp only [Act.put, List.setIfInBounds_toArray, List.set_cons_zero, List.set_cons_succ]
        refine wpAnyP_take (i := 3) (v := ?_) rfl (by kernel_rfl) (by kernel_rfl) (by kernel_rfl) (by kernel_rfl) (fun _ _ _ h => h) (Or.inl ⟨by rfl, ?_⟩) (by assumption) ?_
        rotate_left
        · intro w' hw'
          (try have hC := hw'.2)
          (try have hC9 := hw'.1)
          go_simp
          first | done | with_reducible rfl
        try simp only [Act.put, List.setIfInBounds_toArray, List.set_cons_zero, List.set_cons_succ]
        refine wpAnyP_take (i := 4) (v := ?_) rfl (by kernel_rfl) (by kernel_rfl) (by kernel_rfl) (by kernel_rfl) (fun _ _ _ h => h) (Or.inl ⟨by rfl, ?_⟩) (by assumption) ?_
        rotate_left
        · intro w' hw'
          (try have hC := hw'.2)
          (try have hC9 := hw'.1)
          go_simp
          first | done | with_reducible rfl
        try simp only [Act.put, List.setIfInBounds_toArray, List.set_cons_zero, List.set_cons_succ]
        refine wpAnyP_take (i := 5) (v := ?_) rfl (by kernel_rfl) (by kernel_rfl) (by kernel_rfl) (by kernel_rfl) (fun _ _ _ h => h) (Or.inl ⟨by rfl, ?_⟩) (by assumption) ?_
        rotate_left
        · intro w' hw'
          (try have hC := hw'.2)
          (try have hC9 := hw'.1)
          go_simp
          first | done | with_reducible rfl
        try simp only [Act.put, List.setIfInBounds_toArray, List.set_cons_zero, List.set_cons_succ]
        refine wpAnyP_ready (rs := [6]) (by kernel_rfl) (by simp) ?_
        refine AllReadyP.cons rfl (fun K hK => ?_) AllReadyP.nil
        go_simp
        refine (hbk _ (hRh4.ext (Ext.refl W4).drew)).mono ?_
        rintro e w5 ⟨A5, c5, rfl, hu5, hb5⟩
        have hx5 := (Ext.refl W4).drew.trans hb5
        refine hK.out _ _ (fun _ _ => ⟨(Near.of hx5).1, (Near.of hx5).2⟩) ?_
        clear hK K
        refine wpAnyP_ready (rs := [7]) (by kernel_rfl) (by simp) ?_
        refine AllReadyP.cons rfl (fun K hK => ?_) AllReadyP.nil
        refine step_cat (by rfl) (.tmp 20) (.tmp 25) _ (by rfl) W4.heap.size 118 i0 _ 32 Tryz.underlying43 hi0 hz0 hz1 hz2 (by rfl) (.slice none 0 0) (by rfl) (Owns.none_ (E := EBk) W4.heap.size 118) c5 hops.length (by rfl) (by simp) hu5.rd (by simp [maxLen]; omega) (by simp; omega) hx5.size ?_
        intro v6 w6 hv6 hg6 hat6
        have hx6 : Ext W4 w6 := ext_grown hx5 (Owns.none_ (E := EBk) W4.heap.size 118) (Nat.le_refl _) hg6
        obtain ⟨A6, d6, rfl, hR6⟩ := hv6.form
        simp only [List.nil_append, List.length_map] at hv6 hR6 ⊢
        have kB6 := kB4.ext hx6
        have b1 := kB6.cell
        have b2 := kB6.lt
        have b3 := kB6.frozen
        refine hK.out _ _ (fun _ _ => ⟨(Near.of hx6).1, (Near.of hx6).2⟩) ?_
        clear hK K
        refine wpAnyP_takeT (i := 8) (v := ?_) rfl (by kernel_rfl) (by kernel_rfl) (by kernel_rfl) (fun _ _ _ h => h) (Or.inl ⟨by rfl, ?_⟩) ?_
        rotate_left
        · intro w'
          go_simp
          first | done | with_reducible rfl
        try simp only [Act.put, List.setIfInBounds_toArray, List.set_cons_zero, List.set_cons_succ]
        refine wpAnyP_ready (rs := [9]) (by kernel_rfl) (by simp) ?_
        refine AllReadyP.cons rfl (fun K hK => ?_) AllReadyP.nil
        go_simp
        refine hK.out _ _ (fun h => absurd h (by decide)) ?_
        clear hK K
        refine wpAnyP_done (by kernel_rfl) ?_ _
        obtain ⟨W7, hW7, kB7, hu7, hK7⟩ : ∃ W7, w6.setCell ⟨B, 2, none⟩ (.slice A6 hops.length d6) = W7 ∧ Blk W7 B 82 #[.slice Aq p.quo.length cq, .slice Ac p.cons.length cc, .slice A6 hops.length d6, .slice none 0 0] ∧ Owns EBk W7 W4.heap.size 118 (.slice A6 hops.length d6) (hops.map (hpBk t.num)) ∧ KpX W4.heap.size B W4 W7 :=
          ⟨_, rfl, kB6.set_ 2 _, hv6.setZ kB6 (by decide) 2 _, KpX.trans (KpX.of_ext (Nat.le_refl _) hx6) (KpX.setCell w6 2 _)⟩
        rw [hW7]
        clear a1 a2 a3 a4 b1 b2 b3 hW7
        have hs7 := hK7.size
        have hE7 : Ext W W7 := hK7.ext (hx8.trans hB4) (by omega) hBl
        have kl7 := hK7.blk (kl.ext hB4) (by omega) (by omega)
        have kt7 := hK7.blk hk4 (by omega) (by omega)
        have hRh7 := (hRh.ext hB).ext hE7
        have hrd7 := (h.ext hB).ext hE7
        have a1 := kB7.cell
        have a2 := kB7.lt
        have a3 := kt7.cell
        have a4 := kt7.lt
        have a5 := kl7.cell
        have a6 := kl7.lt
        go_wp2_with fail
        have hS0 : Ext W7 W7.drew ∧ ∀ b o, b < W7.heap.size → W7.drew.cell? ⟨b, o, none⟩ = W7.cell? ⟨b, o, none⟩ := ⟨(Ext.refl W7).drew, fun _ _ _ => rfl⟩
        refine wp_region_P (fun k => decide (15 ≤ k)) (fun w' => Ext W7 w' ∧ ∀ b o, b < W7.heap.size → w'.cell? ⟨b, o, none⟩ = W7.cell? ⟨b, o, none⟩) (by kernel_rfl) hS0 (fun _ => ?_)
        refine wpAnyP_take (i := 0) (v := ?_) rfl (by kernel_rfl) (by kernel_rfl) (by kernel_rfl) (by kernel_rfl) (fun _ _ _ h => h) (Or.inl ⟨by rfl, ?_⟩) (by assumption) ?_
        rotate_left
        · intro w' hw'
          (try have hC := hw'.2)
          (try have hC9 := hw'.1)
          go_simp
          first | done | with_reducible rfl
        try simp only [Act.put, List.setIfInBounds_toArray, List.set_cons_zero, List.set_cons_succ]
        refine wpAnyP_take (i := 1) (v := ?_) rfl (by kernel_rfl) (by kernel_rfl) (by kernel_rfl) (by kernel_rfl) (fun _ _ _ h => h) (Or.inl ⟨by rfl, ?_⟩) (by assumption) ?_
        rotate_left
        · intro w' hw'
          (try have hC := hw'.2)
          (try have hC9 := hw'.1)
          go_simp
          first | done | with_reducible rfl
        try simp only [Act.put, List.setIfInBounds_toArray, List.set_cons_zero, List.set_cons_succ]
        refine wpAnyP_take (i := 2) (v := ?_) rfl (by kernel_rfl) (by kernel_rfl) (by kernel_rfl) (by kernel_rfl) (fun _ _ _ h => h) (Or.inl ⟨by rfl, ?_⟩) (by assumption) ?_
        rotate_left
        · intro w' hw'
          (try have hC := hw'.2)
          (try have hC9 := hw'.1)
          go_simp
          first | done | with_reducible rfl
        try simp only [Act.put, List.setIfInBounds_toArray, List.set_cons_zero, List.set_cons_succ]
        refine wpAnyP_take (i := 3) (v := ?_) rfl (by kernel_rfl) (by kernel_rfl) (by kernel_rfl) (by kernel_rfl) (fun _ _ _ h => h) (Or.inl ⟨by rfl, ?_⟩) (by assumption) ?_
        rotate_left
        · intro w' hw'
          (try have hC := hw'.2)
          (try have hC9 := hw'.1)
          go_simp
          first | done | with_reducible rfl
        try simp only [Act.put, List.setIfInBounds_toArray, List.set_cons_zero, List.set_cons_succ]
        refine wpAnyP_take (i := 4) (v := ?_) rfl (by kernel_rfl) (by kernel_rfl) (by kernel_rfl) (by kernel_rfl) (fun _ _ _ h => h) (Or.inl ⟨by rfl, ?_⟩) (by assumption) ?_
        rotate_left
        · intro w' hw'
          (try have hC := hw'.2)
          (try have hC9 := hw'.1)
          go_simp
          first | done | with_reducible rfl
        try simp only [Act.put, List.setIfInBounds_toArray, List.set_cons_zero, List.set_cons_succ]
        refine wpAnyP_take (i := 5) (v := ?_) rfl (by kernel_rfl) (by kernel_rfl) (by kernel_rfl) (by kernel_rfl) (fun _ _ _ h => h) (Or.inl ⟨by rfl, ?_⟩) (by assumption) ?_
        rotate_left
        · intro w' hw'
          (try have hC := hw'.2)
          (try have hC9 := hw'.1)
          go_simp
          first | done | with_reducible rfl
        try simp only [Act.put, List.setIfInBounds_toArray, List.set_cons_zero, List.set_cons_succ]
        refine wpAnyP_take (i := 6) (v := ?_) rfl (by kernel_rfl) (by kernel_rfl) (by kernel_rfl) (by kernel_rfl) (fun _ _ _ h => h) (Or.inl ⟨by rfl, ?_⟩) (by assumption) ?_
        rotate_left
        · intro w' hw'
          (try have hC := hw'.2)
          (try have hC9 := hw'.1)
          go_simp
          first | done | with_reducible rfl
        try simp only [Act.put, List.setIfInBounds_toArray, List.set_cons_zero, List.set_cons_succ]
        refine wpAnyP_take (i := 7) (v := ?_) rfl (by kernel_rfl) (by kernel_rfl) (by kernel_rfl) (by kernel_rfl) (fun _ _ _ h => h) (Or.inl ⟨by rfl, ?_⟩) (by assumption) ?_
        rotate_left
        · intro w' hw'
          (try have hC := hw'.2)
          (try have hC9 := hw'.1)
          go_simp
          first | done | with_reducible rfl
        try simp only [Act.put, List.setIfInBounds_toArray, List.set_cons_zero, List.set_cons_succ]
        refine wpAnyP_take (i := 8) (v := ?_) rfl (by kernel_rfl) (by kernel_rfl) (by kernel_rfl) (by kernel_rfl) (fun _ _ _ h => h) (Or.inl ⟨by rfl, ?_⟩) (by assumption) ?_
        rotate_left
        · intro w' hw'
          (try have hC := hw'.2)
          (try have hC9 := hw'.1)
          go_simp
          first | done | with_reducible rfl
        try simp only [Act.put, List.setIfInBounds_toArray, List.set_cons_zero, List.set_cons_succ]
        refine wpAnyP_take (i := 9) (v := ?_) rfl (by kernel_rfl) (by kernel_rfl) (by kernel_rfl) (by kernel_rfl) (fun _ _ _ h => h) (Or.inl ⟨by rfl, ?_⟩) (by assumption) ?_
        rotate_left
        · intro w' hw'
          (try have hC := hw'.2)
          (try have hC9 := hw'.1)
          go_simp
          first | done | with_reducible rfl
        try simp only [Act.put, List.setIfInBounds_toArray, List.set_cons_zero, List.set_cons_succ]
        refine wpAnyP_take (i := 10) (v := ?_) rfl (by kernel_rfl) (by kernel_rfl) (by kernel_rfl) (by kernel_rfl) (fun _ _ _ h => h) (Or.inl ⟨by rfl, ?_⟩) (by assumption) ?_
        rotate_left
        · intro w' hw'
          (try have hC := hw'.2)
          (try have hC9 := hw'.1)
          go_simp
          first | done | with_reducible rfl
        try simp only [Act.put, List.setIfInBounds_toArray, List.set_cons_zero, List.set_cons_succ]
        refine wpAnyP_take (i := 11) (v := ?_) rfl (by kernel_rfl) (by kernel_rfl) (by kernel_rfl) (by kernel_rfl) (fun _ _ _ h => h) (Or.inl ⟨by rfl, ?_⟩) (by assumption) ?_
        rotate_left
        · intro w' hw'
          (try have hC := hw'.2)
          (try have hC9 := hw'.1)
          go_simp
          first | done | with_reducible rfl
        try simp only [Act.put, List.setIfInBounds_toArray, List.set_cons_zero, List.set_cons_succ]
        refine wpAnyP_ready (rs := [12]) (by kernel_rfl) (by simp) ?_
        refine AllReadyP.cons rfl (fun K hK => ?_) AllReadyP.nil
        go_simp
        refine (hhd _ (hrd7.ext (Ext.refl W7).drew) (hRh7.ext (Ext.refl W7).drew)).mono ?_
        rintro e w8 ⟨A8, c8, rfl, hu8, hb8⟩
        have hx8' := (Ext.refl W7).drew.trans hb8
        refine hK.out _ _ (fun _ _ => ⟨(Near.of hx8').1, (Near.of hx8').2⟩) ?_
        clear hK K
        refine wpAnyP_ready (rs := [13]) (by kernel_rfl) (by simp) ?_
        refine AllReadyP.cons rfl (fun K hK => ?_) AllReadyP.nil
        refine step_cat (by rfl) (.tmp 29) (.tmp 40) _ (by rfl) W7.heap.size 167 i1 _ 40 Tryz.underlying80 hi1 hy0 hy1 hy2 (by rfl) (.slice none 0 0) (by rfl) (Owns.none_ (E := EHd) W7.heap.size 167) c8 hops.length (by rfl) (by rw [hdK_len]) hu8.rd (by simp [maxLen, hdK_len]; omega) (by simp [hdK_len]; omega) hx8'.size ?_
        intro v9 w9 hv9 hg9 hat9
        have hx9 : Ext W7 w9 := ext_grown hx8' (Owns.none_ (E := EHd) W7.heap.size 167) (Nat.le_refl _) hg9
        obtain ⟨A9, d9, rfl, hR9⟩ := hv9.form
        simp only [List.nil_append, hdK_len] at hv9 hR9 ⊢
        have kB9 := kB7.ext hx9
        have b1 := kB9.cell
        have b2 := kB9.lt
        have b3 := kB9.frozen
        refine hK.out _ _ (fun _ _ => ⟨(Near.of hx9).1, (Near.of hx9).2⟩) ?_
        clear hK K
        refine wpAnyP_takeT (i := 14) (v := ?_) rfl (by kernel_rfl) (by kernel_rfl) (by kernel_rfl) (fun _ _ _ h => h) (Or.inl ⟨by rfl, ?_⟩) ?_
        rotate_left
        · intro w'
          go_simp
          first | done | with_reducible rfl
        try simp only [Act.put, List.setIfInBounds_toArray, List.set_cons_zero, List.set_cons_succ]
        refine wpAnyP_ready (rs := [15]) (by kernel_rfl) (by simp) ?_
        refine AllReadyP.cons rfl (fun K hK => ?_) AllReadyP.nil
        go_simp
        refine hK.out _ _ (fun h => absurd h (by decide)) ?_
        clear hK K
        refine wpAnyP_done (by kernel_rfl) ?_ _
        go_wp2
        go_roundg 0
        case measure => omega
        case rel =>
          refine .inr ⟨rfl, by go_num, A6, d6, A9, d9, kB9.set_ 3 _, ((hu7.ext hx9).setZ kB9 (by decide) 3 _).rd, (hv9.setZ kB9 (by decide) 3 _).rd, ?_⟩
          exact (KpX.of_ext (by omega) hB4).trans ((KpX.trans ⟨hK7.os, hK7.tape, hK7.output, hK7.size, fun k hk => hK7.block k (by omega)⟩ (KpX.of_ext (by omega) hx9)).trans (KpX.setCell w9 3 _))
      · have hE9 : Ext w wr := hK.ext hEc hEc.size (by omega)
        have kr9 := hK.blk kr (by omega) (by omega)
        have b1 := kB.cell
        have b2 := kB.lt
        have hso9 := hso Ab cb Ah ch
        go_wp2_with fail
        refine (hso9 _ hRb hRd).mono ?_
        rintro e w3 ⟨rfl, hb3⟩
        have k3 := kr9.ext hb3
        have l4 := k3.lt
        have f4 := k3.frozen
        have c4 := k3.cell
        go_wp2
        obtain ⟨w7, hw7, hz7, hE7⟩ : ∃ w7, w3.setCells (w.heap.size + 1) 0 [.slice Aq p.quo.length cq, .slice Ac p.cons.length cc, .slice Ab hops.length cb, .slice Ah hops.length ch] = w7 ∧ Blk w7 (w.heap.size + 1) 82 #[.slice Aq p.quo.length cq, .slice Ac p.cons.length cc, .slice Ab hops.length cb, .slice Ah hops.length ch] ∧ Ext w w7 :=
          ⟨_, rfl, k3.setCells_ [.slice Aq p.quo.length cq, .slice Ac p.cons.length cc, .slice Ab hops.length cb, .slice Ah hops.length ch] 0, ext_setCells (hE9.trans hb3) (by omega) 0 _⟩
        simp only [World.setCells, Nat.zero_add, Nat.reduceAdd] at hw7
        rw [hw7]
        have hc7 := hz7.cell
        refine bodyPost_ret (v := .agg #[.slice Aq p.quo.length cq, .slice Ac p.cons.length cc, .slice Ab hops.length cb, .slice Ah hops.length ch]) (by rw [results_cell1 rfl]; simp [asAddr, Result.andThen, hc7, go_sem]) rfl ?_
        exact ⟨Ab, cb, Ah, ch, rfl, hE7⟩

end Go.Proofs.YtmaengcmhopmbaaGreat

namespace Go.Proofs.YtmaengcmhopmbaaGreat
set_option linter.unusedVariables false
set_option linter.unusedSimpArgs false
open Go.RowKit Go.Shelf
attribute [local go_sem] Oper.semAt_some

theorem results_ccs {fn : Func} {p q r : Tmp} {t u : TypeId} (h : fn.results = #[.cell p t, .cell q u, .tmp r]) (tmps : Array Value) (P : Program) (w : World) :
    (results fn tmps).run P w =
      ((asAddr (tmps.getD p undef)).run P w).andThen fun a w1 => ((loadVar t a).run P w1).andThen fun x w2 =>
      ((asAddr (tmps.getD q undef)).run P w2).andThen fun a w1 => ((loadVar u a).run P w1).andThen fun y w2 => .ok (.tuple #[x, y, tmps.getD r undef]) w2 := by
  simp only [results, h]
  simp [Sem.run_bind, Result.andThen]

set_option maxRecDepth 100000 in
set_option maxHeartbeats 16000000 in
theorem accept_ch (Aq : Option Addr) (cq : Nat) (Ac : Option Addr) (cc : Nat) (p : Pln) (q : Req) (L : List Lb) (f : Nat → Nat × Con) (HS : List Hp) (AT : Int) (w : World) (h : PlnRd w Aq cq Ac cc p) (h0 : p.chk = 0) (hf : fineR p q = true) (hse : ∀ c ∈ p.cons, c.st < c.en ∧ c.arg q.size = 0) (hqu : ∀ n : Int, 0 ≤ n → n < p.quo.length → q.size ≤ gi p.quo n ∧ gi p.quo n ≤ 1099511627776) (hsz : 1 ≤ q.size ∧ q.size ≤ 65536) (hn16 : p.quo.length ≤ 16 ∧ p.cons.length ≤ 64)
    (C : LbCh p q L f) (hAT : ∀ k (h : k + 1 = L.length), (L[k]'(by omega)).arr q (f k).2 = AT) (hHS : HS.length = L.length) (hHk : ∀ k (h : k < L.length), HS[k]'(by omega) = hopC q L[k] (f k).1 (f k).2)
    (hlab : ∀ base B w', PlnRd w' Aq cq Ac cc p → GAt Aq cq Ac cc p q base w' B → Calls Tryz.prog 65 #[.pointer (some ⟨B, 0, none⟩)] w' fun e w'' => ∃ u, e = .returned u ∧ Owns ELb w'' w'.heap.size 134 u L ∧ Ext w' w'')
    (hpr : q.prio ≠ 2) (hc : q.cust = false) (hrdy : 0 ≤ q.ready)
    (hcon : ∀ k (h : k < HS.length), 0 ≤ HS[k].con ∧ HS[k].con < p.cons.length) (hpos : ∀ k, k < HS.length → frK q.ready HS k < (HS.getD k ⟨0, 0, 0, 0⟩).en) (hend : ndK p.cons q.src HS HS.length = q.dst)
    (hsb : ∀ k (h : k + 1 < (HS.map (hpBk 1)).length), ¬ bkCmp (HS.map (hpBk 1))[k + 1] (HS.map (hpBk 1))[k] < 0) (hsh : ∀ k (h : k + 1 < (hdK p.cons q 1 HS HS.length).length), ¬ hdCmp (hdK p.cons q 1 HS HS.length)[k + 1] (hdK p.cons q 1 HS HS.length)[k] < 0) :
    Calls Tryz.prog 15 #[.agg #[.slice Aq p.quo.length cq, .slice Ac p.cons.length cc, .slice none 0 0, .slice none 0 0], q.val, .int .i64 0] w fun e w' => ∃ At ct Ah ch, e = .returned (.tuple #[.agg #[.slice Aq p.quo.length cq, .slice Ac p.cons.length cc, .slice none 0 0, .slice At 1 ct], .agg #[.bool true, .int .i64 1, .slice none 0 0, .slice none 0 0, .slice none 0 0], .int .i64 0]) ∧ Rd ETk w' At [⟨1, q, Ah, HS.length, ch, 1, 0⟩] ∧ Rd EHp w' Ah HS ∧ Ext w w' := by
  obtain ⟨W1, hW1, hB1, hkl, hkq, hll, hlq⟩ := box2 w #[.slice Aq p.quo.length cq, .slice Ac p.cons.length cc, .slice none 0 0, .slice none 0 0] q.cells 46 27
  obtain ⟨W2, hW2, hB2, hk6, hk7, hl6, hl7⟩ := box2 W1 #[.slice none 0 0, .slice none 0 0, .slice none 0 0, .slice none 0 0] #[.bool false, .int .i64 0, .slice none 0 0, .slice none 0 0, .slice none 0 0] 46 52
  have hE2 := hB1.trans hB2
  have hrd := h.ext hE2
  have kl := hkl.ext hB2
  have kq := hkq.ext hB2
  simp only [Req.cells] at hW1 kq
  have hL12 := C.len
  have f1 := fun w h => lCheck_none Aq cq Ac cc p w h h0
  have f2 := fun w h => tCheckRequest_any Aq cq Ac cc p q w h
  have f3 := crowded_none Aq Ac p.quo.length cq p.cons.length cc
  have f4 := tables_none Aq Ac p.quo.length cq p.cons.length cc
  have f5 := fun w h => earliest_ch Aq cq Ac cc p q L f HS AT w h h0 hf hse hqu hsz hn16 C hAT hHS hHk hlab
  have f6 := open_none Aq Ac p.quo.length cq p.cons.length cc
  have f7 := fun B w k => next_none B Aq Ac p.quo.length cq p.cons.length cc w k
  have f8 := fun B t w k => set_none B Aq Ac p.quo.length cq p.cons.length cc t w k
  have f9 := fun t At ct w h hRt hRh htn hcu hpo hen hb hh => tables_one Aq cq Ac cc p t HS At ct w h hRt hRh htn (by omega) hcu hcon hpo hen hb hh
  have f10 := fun Ab Ah nb cb nh ch w hb hh => full_few Aq Ac Ab Ah p.quo.length cq p.cons.length cc nb cb nh ch w hb hh
  unfold Pln.val at f2
  unfold Req.val at f2 f5 ⊢
  have Hf := Lib.hid hf
  have d1 : (q.prio == 2) = false := by simpa using hpr
  have d2 : decide (q.ready < 0) = false := decide_eq_false (by omega)
  have HC := Lib.hid hc
  have Hpos := Lib.hid hpos
  have Hend := Lib.hid hend
  have Hsb := Lib.hid hsb
  have Hsh := Lib.hid hsh
  have Hf9 := Lib.hid f9
  have HL := Lib.hid hHS
  clear h0 hf hse hqu C hAT hHS hHk hlab hpr hc hrdy hcon hpos hend hsb hsh f9
  have c1 := kl.cell
  have c2 := kl.lt
  go_enter Tryz.func15, Tryz.ntmps15
  go_wp2_with fail
  clear hW1 hW2
  refine (f1 _ hrd).mono ?_
  clear f1
  rintro e w1 ⟨rfl, hb1⟩
  have hE := hb1
  have c1 := (kl.ext hE).cell
  have c2 := (kl.ext hE).lt
  have c3 := (kq.ext hE).cell
  have c4 := (kq.ext hE).lt
  go_wp2_with fail
  refine (f2 _ (hrd.ext hE)).mono ?_
  clear f2
  rintro e w2 ⟨k, rfl, hk0, hb2⟩
  obtain rfl := hk0.2 Hf.out
  clear hk0
  replace hE := hE.trans hb2
  have c1 := (kl.ext hE).cell
  have c2 := (kl.ext hE).lt
  have c3 := (kq.ext hE).cell
  have c4 := (kq.ext hE).lt
  go_wp2_with fail
  refine (f3 _).mono ?_
  clear f3
  rintro e w3 ⟨rfl, hb3⟩
  replace hE := hE.trans hb3
  have c1 := (kl.ext hE).cell
  have c2 := (kl.ext hE).lt
  have c3 := (kq.ext hE).cell
  have c4 := (kq.ext hE).lt
  go_wp2_with fail
  refine (f4 _).mono ?_
  clear f4
  rintro e w4 ⟨rfl, hb4⟩
  replace hE := hE.trans hb4
  have c1 := (kl.ext hE).cell
  have c2 := (kl.ext hE).lt
  have c3 := (kq.ext hE).cell
  have c4 := (kq.ext hE).lt
  go_wp2_with fail
  obtain ⟨W5, hW5, hB5, hk5, hl5⟩ := box1 w4 #[.slice Aq p.quo.length cq, .slice Ac p.cons.length cc, .slice none 0 0, .slice none 0 0] 82
  rw [hW5]
  clear hW5
  replace hE := hE.trans hB5
  refine (f5 _ (hrd.ext hE)).mono ?_
  clear f5
  rintro e w6 ⟨Ah, ch, rfl, hRo, hb6⟩
  have hRh := hRo.rd
  replace hE := hE.trans hb6
  have c1 := (kl.ext hE).cell
  have c2 := (kl.ext hE).lt
  have c3 := (kq.ext hE).cell
  have c4 := (kq.ext hE).lt
  go_wp2_with fail
  refine (f6 _).mono ?_
  clear f6
  rintro e w7 ⟨rfl, hb7⟩
  have hs7 : W2.heap.size ≤ w7.heap.size := (hE.trans hb7).size
  go_wp2_with fail
  obtain ⟨W8, hW8, hB8, hk8, hl8⟩ := box1 w7 #[.slice Aq p.quo.length cq, .slice Ac p.cons.length cc, .slice none 0 0, .slice none 0 0] 89
  rw [hW8]
  clear hW8
  replace hE := (hE.trans hb7).trans hB8
  have hRh8 := (hRh.ext hb7).ext hB8
  refine (f7 _ _ hk8).mono ?_
  clear f7
  rintro e w9 ⟨rfl, hb9⟩
  replace hE := hE.trans hb9
  have hRh9 := hRh8.ext hb9
  have hk9 := hk8.ext hb9
  have c1 := (kl.ext hE).cell
  have c2 := (kl.ext hE).lt
  have c3 := (kq.ext hE).cell
  have c4 := (kq.ext hE).lt
  have f8' := f8 w7.heap.size ⟨1, q, Ah, HS.length, ch, 1, 0⟩ w9 hk9
  clear f8
  simp only [Tk.cells] at f8'
  go_wp2_with fail
  refine f8'.mono ?_
  clear f8'
  rintro e w10 ⟨⟨r, rfl⟩, u, hu, kb10, hfr, hos, htp, hou, hsz10⟩
  have hK10 : KpX w9.heap.size w7.heap.size w9 w10 := ⟨hos, htp, hou, hsz10, hfr⟩
  have hE10 : Ext W2 w10 := hK10.ext hE hE.size hs7
  have hE710 : Ext w7 w10 := hK10.ext (hB8.trans hb9) (hB8.trans hb9).size (Nat.le_refl _)
  have hRh10 := (hRh.ext hb7).ext hE710
  obtain ⟨Au, cu, rfl, hRu⟩ := hu.form
  simp only [List.length_cons, List.length_nil, Nat.zero_add] at kb10 hu
  have f9' := Hf9.out ⟨1, q, Ah, HS.length, ch, 1, 0⟩ Au cu w10 (hrd.ext hE10) hRu hRh10 rfl HC.out Hpos.out Hend.out Hsb.out Hsh.out
  have c1 := kb10.cell
  have c2 := kb10.lt
  go_wp2_with fail
  refine f9'.mono ?_
  clear f9'
  rintro e w11 ⟨Ab, cb, Ahh, chh, rfl, hb11⟩
  go_wp2_with fail
  refine (f10 _ _ _ _ _ _ _ (by have := HL.out; omega) (by have := HL.out; omega)).mono ?_
  clear f10
  rintro e w12 ⟨rfl, hb12⟩
  have hb13 := hb11.trans hb12
  have kb12 := kb10.ext hb13
  have hE12 := hE10.trans hb13
  have k6 := hk6.ext hE12
  have k7 := hk7.ext hE12
  have c1 := kb12.cell
  have c2 := kb12.lt
  have c3 := k6.lt
  have c4 := k6.frozen
  have c5 := k6.cell
  have c6 := k7.lt
  have c7 := k7.frozen
  have c8 := k7.cell
  have n1 : w7.heap.size ≠ W1.heap.size := by have := hk6.lt; omega
  have n2 : w7.heap.size ≠ W1.heap.size + 1 := by have := hk7.lt; omega
  go_wp2
  obtain ⟨wa, hwa, ka6, ka7, hEa⟩ : ∃ wa, w12.setCells W1.heap.size 0 [.slice Aq p.quo.length cq, .slice Ac p.cons.length cc, .slice none 0 0, .slice Au 1 cu] = wa ∧ Blk wa W1.heap.size 46 #[.slice Aq p.quo.length cq, .slice Ac p.cons.length cc, .slice none 0 0, .slice Au 1 cu] ∧ Blk wa (W1.heap.size + 1) 52 #[.bool false, .int .i64 0, .slice none 0 0, .slice none 0 0, .slice none 0 0] ∧ Ext W1 wa :=
    ⟨_, rfl, k6.setCells_ [.slice Aq p.quo.length cq, .slice Ac p.cons.length cc, .slice none 0 0, .slice Au 1 cu] 0, blk_fars _ k7 (by simp) 0, ext_setCells (hB2.trans hE12) (Nat.le_refl _) 0 _⟩
  simp only [World.setCells, Nat.zero_add, Nat.reduceAdd] at hwa
  rw [hwa]
  have hua := owns_fars [.slice Aq p.quo.length cq, .slice Ac p.cons.length cc, .slice none 0 0, .slice Au 1 cu] (hu.ext hb13) k6 (by decide) 0
  have hra := owns_fars [.slice Aq p.quo.length cq, .slice Ac p.cons.length cc, .slice none 0 0, .slice Au 1 cu] ((hRo.ext hb7).ext (hE710.trans hb13)) k6 (by decide) 0
  simp only [World.setCells, Nat.zero_add, Nat.reduceAdd] at hua hra
  rw [hwa] at hua hra
  obtain ⟨wb, hwb, kb6, kb7, hEb, hub, hrb⟩ : ∃ wb, wa.setCells (W1.heap.size + 1) 0 [.bool true, .int .i64 1, .slice none 0 0, .slice none 0 0, .slice none 0 0] = wb ∧ Blk wb W1.heap.size 46 #[.slice Aq p.quo.length cq, .slice Ac p.cons.length cc, .slice none 0 0, .slice Au 1 cu] ∧ Blk wb (W1.heap.size + 1) 52 #[.bool true, .int .i64 1, .slice none 0 0, .slice none 0 0, .slice none 0 0] ∧ Ext W1 wb ∧ Owns ETk wb w9.heap.size 56 (.slice Au 1 cu) [⟨1, q, Ah, HS.length, ch, 1, 0⟩] ∧ Owns EHp wb W5.heap.size 40 (.slice Ah HS.length ch) HS :=
    ⟨_, rfl, blk_fars _ ka6 (by simp) 0, ka7.setCells_ [.bool true, .int .i64 1, .slice none 0 0, .slice none 0 0, .slice none 0 0] 0, ext_setCells hEa (by omega) 0 _, owns_fars _ hua ka7 (by decide) 0, owns_fars _ hra ka7 (by decide) 0⟩
  simp only [World.setCells, Nat.zero_add, Nat.reduceAdd] at hwb
  rw [hwb]
  have y4 := kb6.cell
  have y5 := kb7.cell
  refine bodyPost_ret (v := .tuple #[.agg #[.slice Aq p.quo.length cq, .slice Ac p.cons.length cc, .slice none 0 0, .slice Au 1 cu], .agg #[.bool true, .int .i64 1, .slice none 0 0, .slice none 0 0, .slice none 0 0], .int .i64 0]) (by rw [results_ccs rfl]; simp [asAddr, Result.andThen, y4, y5, go_sem]) rfl ?_
  exact ⟨Au, cu, Ah, ch, rfl, hub.rd, hrb.rd, hB1.trans hEb⟩

end Go.Proofs.YtmaengcmhopmbaaGreat

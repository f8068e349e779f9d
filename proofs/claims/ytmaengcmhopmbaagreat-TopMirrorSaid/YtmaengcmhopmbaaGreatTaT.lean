/- TopMirror, the example: the bookings and the holds of a way. -/
import Derived.Test.YtmaengcmhopmbaaGreatTaQR
import Derived.Test.YtmaengcmhopmbaaGreatTaMa
namespace Go.Proofs.YtmaengcmhopmbaaGreat
set_option linter.unusedVariables false
set_option linter.unusedSimpArgs false
open Go.RowKit Go.Shelf
attribute [local go_sem] Oper.semAt_some

theorem info_bkT : (Tryz.prog.info? 118).map (fun i => (i.zero, i.size, i.bytes)) = some (some (.agg #[.int .i64 0, .int .i64 0, .int .i64 0, .int .i64 0]), 4, 32) := by kernel_rfl
theorem info_hdT : (Tryz.prog.info? 167).map (fun i => (i.zero, i.size, i.bytes)) = some (some (.agg #[.int .i64 0, .int .i64 0, .int .i64 0, .int .i64 0, .int .i64 0]), 5, 40) := by kernel_rfl

section
variable {P : Program} {w : World}
theorem step_cat {α : Type} {E : Elt α} {l m : List α} {A : Option Addr} {ops : Array Oper} {o : Oper} {a : Act} {K : Act → World → Prop} {Q : Exit → Act → World → Prop} {Z : Prop} (hgd : o.guard = none) (s x : Operand) (t : TypeId)
    (ho : o.op = .call { callee := .builtin .append, args := #[s, x], argTypes := #[t, t] })
    (base : Nat) (e : TypeId) (i : TypeInfo) (z : Value) (bytes : Nat) (ht : P.underlying t = some (.slice e)) (hi : P.info? e = some i) (hz : i.zero = some z)
    (hsize : i.size = E.size) (hby : i.bytes = bytes) (hzs : z.cells.size = E.size)
    (v : Value) (hs : a.eval s = v) (hown : Owns E w base e v l)
    (c n : Nat) (hx : a.eval x = .slice A n c) (hn : n = m.length) (hr : Rd E w A m)
    (h63 : l.length + m.length ≤ maxLen) (hbytes : (l.length + m.length) * bytes ≤ 140737488355328) (hbase : base ≤ w.heap.size)
    (h : ∀ v' w', Owns E w' base e v' (l ++ m) → w.grownBy w' v.ownBlock → (v'.ownBlock = v.ownBlock ∨ v'.ownBlock = some w.heap.size) → K (a.put o.dst v') w') :
    if Region.wanted o (yielded ops a.tmps) = true then Oper.wp P o a w K Q else Z := by
  subst hn
  exact step_append_any w hgd s x t ho base e i z E.size bytes ht hi hz hsize hby hzs E.pos v l.length (E.all l) hs hown w.heap.size A m.length c (E.all m) hx hr (E.all_one m) h63 hbytes hbase
    fun v' w' h1 h2 h3 => h v' w' (by
      unfold Owns
      rw [E.all_append, List.length_append]
      exact h1) h2 h3
end

set_option maxRecDepth 100000 in
set_option maxHeartbeats 4000000 in
theorem lleave_any (P Q : Value) (q : Req) (h : Hp) (w : World) (hc : q.cust = false) (hQ : Q = q.val) (A1 A2 : Option Addr) (n1 c1 n2 c2 : Nat) (hP : P = .agg #[.slice A1 n1 c1, .slice A2 n2 c2]) :
    Calls Tryz.prog 97 #[P, Q, .agg #[.int .i64 h.con, .int .i64 h.beg, .int .i64 h.en, .int .i64 h.arr]] w fun e w' => e = .returned (.int .i64 h.en) ∧ Ext w w' := by
  subst hP hQ
  unfold Req.val
  rw [hc]
  obtain ⟨W, hW, hB, hk, hlt⟩ := box1 w #[.slice A1 n1 c1, .slice A2 n2 c2] 25
  obtain ⟨W1, hW1, hB1, hk1, hlt1⟩ := box1 W #[.int .i64 q.src, .int .i64 q.dst, .int .i64 q.size, .int .i64 q.ready, .int .i64 q.dead, .int .i64 q.prio, .bool false] 27
  obtain ⟨W2, hW2, hB2, hk2, hlt2⟩ := box1 W1 #[.int .i64 h.con, .int .i64 h.beg, .int .i64 h.en, .int .i64 h.arr] 40
  have a1 := (hk1.ext hB2).cell
  have a2 := (hk1.ext hB2).lt
  have a3 := hk2.cell
  have a4 := hk2.lt
  go_enter Tryz.func97, Tryz.ntmps97
  go_wp2_with fail
  go_ret
  exact ⟨rfl, (hB.trans hB1).trans hB2⟩

/-- Behind a hold that is added. -/
def HaddP (l : List Hd) (x : Hd) (bo base : Nat) (u : Value) (w : World) (e : Ending) (w' : World) : Prop :=
  (∃ r, e = .returned r) ∧ ∃ u', Owns EHd w' base 167 u' (l ++ [x]) ∧ Blk w' bo 80 #[u'] ∧ KpP base (fun b => b = bo) w w' ∧ ∀ k, k < w.heap.size → k ≠ bo → u.ownBlock ≠ some k → w'.heap[k]? = w.heap[k]?

set_option maxRecDepth 100000 in
set_option maxHeartbeats 4000000 in
theorem hadd_any (tl fr nd tic : Int) (q : Req) (bf bo bn bq bt base : Nat) (u : Value) (l : List Hd) (w : World) (hb : base ≤ w.heap.size) (h : fr < tl) (kf : Blk w bf 3 #[.int .i64 fr]) (kn : Blk w bn 3 #[.int .i64 nd]) (kt : Blk w bt 3 #[.int .i64 tic])
    (ko : Blk w bo 80 #[u]) (kq : Blk w bq 27 q.cells) (hu : Owns EHd w base 167 u l) (hl : l.length ≤ 64) (h1 : bo < base) :
    Calls Tryz.prog 96 #[.int .i64 tl, .pointer (some ⟨bf, 0, none⟩), .pointer (some ⟨bo, 0, none⟩), .pointer (some ⟨bn, 0, none⟩), .pointer (some ⟨bq, 0, none⟩), .pointer (some ⟨bt, 0, none⟩)] w (HaddP l ⟨nd, fr, tl, q.size, tic⟩ bo base u w) := by
  obtain ⟨i0, hi0, hz0, hz1, hz2⟩ := info_parts info_hdT
  unfold Req.cells at kq
  have a1 := kf.cell
  have a2 := kf.lt
  have a3 := kn.cell
  have a4 := kn.lt
  have a5 := kt.cell
  have a6 := kt.lt
  have a7 := ko.cell
  have a8 := ko.lt
  have a9 := ko.frozen
  have b1 := kq.cell
  have b2 := kq.lt
  have d : decide (fr < tl) = true := decide_eq_true h
  obtain ⟨A, cap, rfl, hR⟩ := hu.form
  have hcap := hu.cap
  clear h
  go_enter Tryz.func96, Tryz.ntmps96
  go_wp2_with (at_builtin; refine wpList_push rfl (.tmp 10) (.tmp 18) _ (by rfl) base 167 i0 _ 40 Tryz.underlying80 hi0 hz0 hz1 hz2 (by rfl) (.slice A l.length cap) (by rfl) (hu.ext ((Ext.refl _).alloc _)) w.heap.size (⟨nd, fr, tl, q.size, tic⟩ : Hd) (by rfl) (Blk.new w _ _) (by simp only [maxLen]; omega) (by omega) (by simp; omega) ?_; intro v6 w6 hv6 hg6 hat6; have kb6 := (ko.ext ((Ext.refl w).alloc _)).kepttZ (hu.ext ((Ext.refl w).alloc _)) (by decide) hg6; have x1 := kb6.lt; have x2 := kb6.frozen; have x3 := kb6.cell; obtain ⟨A6, d6, rfl, hR6⟩ := hv6.form; simp only [List.length_append, List.length_cons, List.length_nil, Nat.zero_add] at hv6 ⊢)
  go_end0
  have hgs := hg6.size
  refine ⟨⟨_, rfl⟩, .slice A6 (l.length + 1) d6, hv6.setZ kb6 (by decide) 0 _, kb6.set0 _, ?_, ?_⟩
  · refine KpP.setCell (S := fun b => b = bo) (KpP.trans (KpP.of_ext hb ((Ext.refl w).alloc _)) ⟨hg6.os, hg6.tape, hg6.output, hgs, fun k hk hs => hg6.block k (by simp; omega) (fun e => ?_)⟩) (.inl rfl) _ _
    have := (hu.block e.symm).1
    omega
  · intro k hk h2 h3
    rw [Below.heap_setCell _ _ _ _ (by exact h2), hg6.block k (by simp; omega) (fun e => h3 e.symm)]
    exact (Ext.refl w).alloc _ |>.block k hk

def hpBk (tic : Int) (h : Hp) : Bk := ⟨h.con, h.beg, h.en, tic⟩

set_option maxRecDepth 100000 in
set_option maxHeartbeats 8000000 in
theorem bookings_any (Ah : Option Addr) (ch : Nat) (hops : List Hp) (tic : Int) (w : World) (hR : Rd EHp w Ah hops) (hm : hops.length ≤ 12) (hs : ∀ k (h : k + 1 < (hops.map (hpBk tic)).length), ¬ bkCmp (hops.map (hpBk tic))[k + 1] (hops.map (hpBk tic))[k] < 0) :
    Calls Tryz.prog 61 #[.slice Ah hops.length ch, .int .i64 tic] w fun e w' => ∃ A c, e = .returned (.slice A hops.length c) ∧ Owns EBk w' w.heap.size 118 (.slice A hops.length c) (hops.map (hpBk tic)) ∧ Ext w w' := by
  obtain ⟨i0, hi0, hz0, hz1, hz2⟩ := info_parts info_bkT
  have Hs := Lib.hid hs
  clear hs
  go_enter Tryz.func61, Tryz.ntmps61
  go_wp2_with fail
  go_loopg [5, 10] hops.length (fun n u v wr => ∃ k : Nat, k + n = hops.length ∧ v = .int .i64 k ∧ Owns EBk wr w.heap.size 118 u ((hops.take k).map (hpBk tic)) ∧ Ext w wr)
  case atStart => exact ⟨0, by omega, by go_num, Owns.none_ _ _, Ext.refl _⟩
  case round =>
    obtain ⟨k, hkn, rfl, hu, hx⟩ := hrel
    have Hkn := Lib.hid hkn
    have hkl : k ≤ hops.length := by omega
    clear hkn
    have hsz := hx.size
    by_cases hlt : k < hops.length
    · obtain ⟨b, o, rfl, hb, c0, c1, c2, c3⟩ := (hR.ext hx).hp hlt
      have Htk := Lib.hid (take_snoc hlt rfl)
      generalize hops[k] = y at *
      obtain ⟨W1, hW1, hB1, hk1, hl1⟩ := box1 wr #[.int .i64 y.con, .int .i64 y.beg, .int .i64 y.en, .int .i64 y.arr] 40
      have b1 := hk1.cell
      obtain ⟨Au, cu, rfl, hRu⟩ := hu.form
      have hlen : ((hops.take k).map (hpBk tic)).length = k := by simp; omega
      rw [hlen] at hu ⊢
      have Hlen := Lib.hid hlen
      clear hlen
      have hs1 := hB1.size
      go_wp2_with (at_builtin; refine wpList_push rfl (.tmp 14) (.tmp 23) _ (by rfl) w.heap.size 118 i0 _ 32 Tryz.underlying43 hi0 hz0 hz1 hz2 (by rfl) (.slice Au k cu) (by rfl) ((hu.ext hB1).ext ((Ext.refl _).alloc _)) W1.heap.size (hpBk tic y) (by rfl) (Blk.new W1 _ _) (by rw [Hlen.out]; simp only [maxLen]; omega) (by rw [Hlen.out]; omega) (by simp; omega) ?_; intro v6 w6 hv6 hg6 hat6)
      go_roundg (gk - 1)
      case measure => have := Hkn.out; omega
      case rel => exact ⟨k + 1, by have := Hkn.out; omega, by go_num, by rw [Htk.out, List.map_append]; exact hv6, ext_grown ((hx.trans hB1).trans ((Ext.refl _).alloc _)) ((hu.ext hB1).ext ((Ext.refl _).alloc _)) (Nat.le_refl _) hg6⟩
    · obtain rfl : k = hops.length := by omega
      rw [List.take_length] at hu
      obtain ⟨Au, cu, rfl, hRu⟩ := hu.form
      have hst := fun w h => bstable1_any Au cu (hops.map (hpBk tic)) w h (by simpa using hm) (fun k h => by have := Hs.out k h; omega)
      simp only [List.length_map] at hst hu
      go_wp2_with fail
      refine (hst _ (by simpa using hRu)).mono ?_
      clear hst
      rintro e w2 ⟨rfl, hb2⟩
      go_wp2
      go_ret
      exact ⟨Au, cu, rfl, by simpa using hu.ext hb2, hx.trans hb2⟩

/-- Where a way stands behind k hops, and since when. -/
def ndK (cons : List Con) (src : Int) (l : List Hp) : Nat → Int
  | 0 => src
  | k + 1 => (gc cons (l.getD k ⟨0, 0, 0, 0⟩).con).dst
def frK (rdy : Int) (l : List Hp) : Nat → Int
  | 0 => rdy
  | k + 1 => (l.getD k ⟨0, 0, 0, 0⟩).beg
def hdK (cons : List Con) (q : Req) (tic : Int) (l : List Hp) (k : Nat) : List Hd := (List.range k).map fun i => ⟨ndK cons q.src l i, frK q.ready l i, (l.getD i ⟨0, 0, 0, 0⟩).en, q.size, tic⟩
theorem hdK_succ (cons : List Con) (q : Req) (tic : Int) (l : List Hp) (k : Nat) : hdK cons q tic l (k + 1) = hdK cons q tic l k ++ [⟨ndK cons q.src l k, frK q.ready l k, (l.getD k ⟨0, 0, 0, 0⟩).en, q.size, tic⟩] := by simp [hdK, List.range_succ]
theorem hdK_len (cons : List Con) (q : Req) (tic : Int) (l : List Hp) (k : Nat) : (hdK cons q tic l k).length = k := by simp [hdK]
/-- The two boxes of the place. -/
def NFAt (W : World) (nd fr : Int) (n f : Value) (w' : World) : Prop :=
  ∃ bn bf, n = .pointer (some ⟨bn, 0, none⟩) ∧ f = .pointer (some ⟨bf, 0, none⟩) ∧ W.heap.size ≤ bn ∧ W.heap.size ≤ bf ∧ bn ≠ bf ∧ Blk w' bn 3 #[.int .i64 nd] ∧ Blk w' bf 3 #[.int .i64 fr] ∧ Ext W w'

set_option maxRecDepth 100000 in
set_option maxHeartbeats 16000000 in
theorem holds_any (Aq : Option Addr) (cq : Nat) (Ac : Option Addr) (cc : Nat) (p : Pln) (q : Req) (Ah : Option Addr) (ch : Nat) (hops : List Hp) (tic til : Int) (w : World) (h : PlnRd w Aq cq Ac cc p) (hR : Rd EHp w Ah hops) (hm : hops.length ≤ 12) (hc : q.cust = false)
    (hcon : ∀ k (h : k < hops.length), 0 ≤ hops[k].con ∧ hops[k].con < p.cons.length) (hpos : ∀ k, k < hops.length → frK q.ready hops k < (hops.getD k ⟨0, 0, 0, 0⟩).en) (hend : ndK p.cons q.src hops hops.length = q.dst) :
    Calls Tryz.prog 62 #[.agg #[.slice Aq p.quo.length cq, .slice Ac p.cons.length cc], q.val, .slice Ah hops.length ch, .int .i64 tic, .int .i64 til] w fun e w' => ∃ A c, e = .returned (.slice A hops.length c) ∧ Owns EHd w' w.heap.size 167 (.slice A hops.length c) (hdK p.cons q tic hops hops.length) ∧ Ext w w' := by
  obtain ⟨W, hW, hB, hk, hlt⟩ := box1 w #[.slice Aq p.quo.length cq, .slice Ac p.cons.length cc] 25
  obtain ⟨W1, hW1, hB1, hkq, hlt1⟩ := box1 W q.cells 27
  obtain ⟨W2, hW2, hB2, hkt, hlt2⟩ := box1 W1 #[.int .i64 tic] 3
  obtain ⟨W3, hW3, hB3, hko, hlt3⟩ := box1 W2 #[.slice none 0 0] 80
  have hle := fun h w => lleave_any _ _ q h w hc rfl Aq Ac p.quo.length cq p.cons.length cc rfl
  have kq3 := (hkq.ext hB2).ext hB3
  have kq3' := kq3
  simp only [Req.cells] at hW1 kq3'
  have a1 := kq3'.cell
  have a2 := kq3'.lt
  have hE3 := ((hB.trans hB1).trans hB2).trans hB3
  have Hpos := Lib.hid hpos
  have Hend := Lib.hid hend
  have Hc := Lib.hid hc
  clear hpos hend hc
  unfold Req.val at hle ⊢
  go_enter Tryz.func62, Tryz.ntmps62
  go_wp2_with fail
  clear hW hW1 hW2 hW3
  go_cut [12, 13] from 12 to 21 (fun n f wx => NFAt W3 q.src q.ready n f wx)
  case first =>
    go_region
    all_goals
      try go_wp2_with fail
      go_meet
      first
        | exact ⟨W3.heap.size, W3.heap.size + 1, rfl, rfl, Nat.le_refl _, Nat.le_succ _, by omega, by first | exact Blk.new _ _ _ | (simp [blk_alloc_iff, blk_drew]; done) | (simp [blk_alloc_iff, blk_drew]; rfl), by first | exact Blk.new _ _ _ | (simp [blk_alloc_iff, blk_drew]; done) | (simp [blk_alloc_iff, blk_drew]; rfl), by repeat (first | exact Ext.refl _ | apply Ext.alloc | apply Ext.drew)⟩
        | exact ⟨W3.heap.size + 1, W3.heap.size, rfl, rfl, Nat.le_succ _, Nat.le_refl _, by omega, by first | exact Blk.new _ _ _ | (simp [blk_alloc_iff, blk_drew]; done) | (simp [blk_alloc_iff, blk_drew]; rfl), by first | exact Blk.new _ _ _ | (simp [blk_alloc_iff, blk_drew]; done) | (simp [blk_alloc_iff, blk_drew]; rfl), by repeat (first | exact Ext.refl _ | apply Ext.alloc | apply Ext.drew)⟩
  case rest =>
    obtain ⟨bn, bf, rfl, rfl, hbn, hbf, hnf, kn, kf, hx⟩ := hcut
    clear a1 a2
    have kp := ((hk.ext hB1).ext hB2).ext hB3
    have kp0 := kp.lt
    have kq0 := kq3.lt
    have kt3 := hkt.ext hB3
    have kt0 := kt3.lt
    have ko := hko.ext hx
    have hszx := hx.size
    have hsz3 := hE3.size
    have hszB := hB.size
    have hszB1 := hB1.size
    have hszB2 := hB2.size
    have hszB3 := hB3.size
    have hko0 := hko.lt
    have hkn0 := kn.lt
    have hkf0 := kf.lt
    go_wp2_with fail
    go_loopg [24] hops.length (fun n v wr => ∃ (k : Nat) (u : Value), k + n = hops.length ∧ v = .int .i64 k ∧ Owns EHd wr wc.heap.size 167 u (hdK p.cons q tic hops k) ∧ Blk wr W2.heap.size 80 #[u] ∧ Blk wr bn 3 #[.int .i64 (ndK p.cons q.src hops k)] ∧ Blk wr bf 3 #[.int .i64 (frK q.ready hops k)] ∧ KpP wc.heap.size (fun b => b = W2.heap.size ∨ b = bn ∨ b = bf) wc wr)
    case atStart => exact ⟨0, .slice none 0 0, by omega, by go_num, Owns.none_ _ _, ko, kn, kf, KpP.refl _ _ _⟩
    case round =>
      obtain ⟨k, u, hkn, rfl, hu, ko1, kn1, kf1, hK⟩ := hrel
      have Hkn := Lib.hid hkn
      have hkl : k ≤ hops.length := by omega
      clear hkn
      have hEx : Ext w wr := hK.ext (hE3.trans hx) (by omega) (fun k hk => by rcases hk with h | h | h <;> subst h <;> omega)
      have hsr := hK.size
      have kp1 := hK.blk (kp.ext hx) (by omega) (by omega)
      have kq1 := hK.blk (kq3.ext hx) (by omega) (by omega)
      have kt1 := hK.blk (kt3.ext hx) (by omega) (by omega)
      by_cases hlt : k < hops.length
      · have hgd : hops.getD k ⟨0, 0, 0, 0⟩ = hops[k] := by simp [List.getD, hlt]
        have hy1 := hcon k hlt
        have hp1 := Hpos.out k hlt
        have hdk := hdK_succ p.cons q tic hops k
        have hnd : ndK p.cons q.src hops (k + 1) = (gc p.cons (hops.getD k ⟨0, 0, 0, 0⟩).con).dst := rfl
        have hfd : frK q.ready hops (k + 1) = (hops.getD k ⟨0, 0, 0, 0⟩).beg := rfl
        rw [hgd] at hp1 hdk hnd hfd
        clear hgd
        have hEx0 := hEx
        obtain ⟨b, o, rfl, hb, c0, c1, c2, c3⟩ := (hR.ext hEx).hp hlt
        generalize hops[k] = y at *
        have hgc := gc_get (cons := p.cons) (i := y.con) (by omega)
        rw [hgc] at hnd
        generalize ndK p.cons q.src hops k = nd at *
        generalize frK q.ready hops k = fr at *
        have Hdk := Lib.hid hdk
        have Hfd := Lib.hid hfd
        have Hgc := Lib.hid hgc
        have hlk := hdK_len p.cons q tic hops k
        generalize hdK p.cons q tic hops k = HK at *
        have Hlk := Lib.hid hlk
        clear hdk hfd hgc
        obtain ⟨W4, hW4, hB4, hk4, hl4⟩ := box1 wr #[.int .i64 y.con, .int .i64 y.beg, .int .i64 y.en, .int .i64 y.arr] 40
        have hs4 := hB4.size
        have kp4 := kp1.ext hB4
        have kq4 := kq1.ext hB4
        have kq4' := kq4
        simp only [Req.cells] at kq4'
        have a1 := kp4.cell
        have a2 := kp4.lt
        have a3 := kq4'.cell
        have a4 := kq4'.lt
        have a5 := hk4.cell
        have a6 := hk4.lt
        have hub : u.ownBlock ≠ some wr.heap.size := fun e => by have := (hu.block e).2; omega
        go_wp2_with fail
        refine (hle y _).mono ?_
        rintro e w5 ⟨rfl, hb5⟩
        clear a1 a2 a3 a4 a5 a6
        have hx5 := hB4.trans hb5
        have hs5 := hb5.size
        have hadd := hadd_any y.en fr nd tic q bf W2.heap.size bn W.heap.size W1.heap.size wc.heap.size u HK w5 (by omega) hp1 (kf1.ext hx5) (kn1.ext hx5) (kt1.ext hx5) (ko1.ext hx5) (kq1.ext hx5) (hu.ext hx5) (by have := Hlk.out; omega) (by omega)
        go_wp2_with fail
        refine hadd.mono ?_
        clear hadd
        rintro e w6 ⟨⟨r, rfl⟩, u', hu6, ko6, hK6, hr6⟩
        have hs6 := hK6.size
        have hk6 : Blk w6 wr.heap.size 40 #[.int .i64 y.con, .int .i64 y.beg, .int .i64 y.en, .int .i64 y.arr] := (hr6 _ (by have := (hk4.ext hb5).lt; omega) (by omega) hub).trans (hk4.ext hb5)
        have kp6 := hK6.blk (kp1.ext hx5) (by omega) (by omega)
        have kn6 := hK6.blk (kn1.ext hx5) (by omega) (by omega)
        have kf6 := hK6.blk (kf1.ext hx5) (by omega) (by omega)
        have hE6 : Ext w w6 := hK6.ext (hEx0.trans hx5) (by omega) (fun k hk => by subst hk; omega)
        obtain ⟨bc, oc, rfl, hbc, d0, d1, d2, d3, d4, d5, d6⟩ := (h.c.ext hE6).con (k := y.con.toNat) (by omega)
        generalize p.cons[y.con.toNat] = c at *
        have a1 := kp6.cell
        have a2 := kp6.lt
        have a3 := hk6.cell
        have a4 := hk6.lt
        have a5 := kn6.cell
        have a6 := kn6.lt
        have a7 := kn6.frozen
        have b1 := kf6.cell
        have b2 := kf6.lt
        have b3 := kf6.frozen
        have y0 := hy1.1
        have y1 := hy1.2
        have hcm := h.cm
        go_wp2_with fail
        have n1 : wr.heap.size ≠ bn := by omega
        have n2 : w.heap.size ≠ bn := by omega
        have n3 : bc ≠ bn := by have := (h.c.ext (Ext.refl w)).con (k := y.con.toNat) (by omega); obtain ⟨b9, o9, e9, h9, _⟩ := this; injection e9 with e9; injection e9 with e9 _; omega
        have n4 : bf ≠ bn := fun e => hnf e.symm
        have hS0 : KpX w6.heap.size bn w6 w6.drew ∧ ∀ b o, b < w6.heap.size → b ≠ bn → w6.drew.cell? ⟨b, o, none⟩ = w6.cell? ⟨b, o, none⟩ := nearB (KpX.of_ext (Nat.le_refl _) (Ext.refl w6).drew)
        refine wp_region_P (fun k => decide (10 ≤ k)) (fun w' => KpX w6.heap.size bn w6 w' ∧ ∀ b o, b < w6.heap.size → b ≠ bn → w'.cell? ⟨b, o, none⟩ = w6.cell? ⟨b, o, none⟩) (by kernel_rfl) hS0 (fun _ => ?_)
        refine wpAnyP_take (i := 0) (v := ?_) rfl (by kernel_rfl) (by kernel_rfl) (by kernel_rfl) (by kernel_rfl) (fun _ _ _ h => h) (Or.inl ⟨by rfl, ?_⟩) (by assumption) ?_
        rotate_left
        · intro w' hw'
          (try have hC := hw'.2)
          (try have hC9 := hw'.1)
          go_simp
          first | done | with_reducible rfl
        try simp only [Act.put, List.setIfInBounds_toArray, List.set_cons_zero, List.set_cons_succ]
        refine wpAnyP_take (i := 1) (v := ?_) rfl (by kernel_rfl) (by kernel_rfl) (by kernel_rfl) (by kernel_rfl) (fun _ _ _ h => h) (Or.inl ⟨by rfl, ?_⟩) (by assumption) ?_
        rotate_left
        · intro w' hw'
          (try have hC := hw'.2)
          (try have hC9 := hw'.1)
          go_simp
          first | done | with_reducible rfl
        try simp only [Act.put, List.setIfInBounds_toArray, List.set_cons_zero, List.set_cons_succ]
        refine wpAnyP_take (i := 2) (v := ?_) rfl (by kernel_rfl) (by kernel_rfl) (by kernel_rfl) (by kernel_rfl) (fun _ _ _ h => h) (Or.inl ⟨by rfl, ?_⟩) (by assumption) ?_
        rotate_left
        · intro w' hw'
          (try have hC := hw'.2)
          (try have hC9 := hw'.1)
          go_simp
          first | done | with_reducible rfl
        try simp only [Act.put, List.setIfInBounds_toArray, List.set_cons_zero, List.set_cons_succ]
        refine wpAnyP_take (i := 3) (v := ?_) rfl (by kernel_rfl) (by kernel_rfl) (by kernel_rfl) (by kernel_rfl) (fun _ _ _ h => h) (Or.inl ⟨by rfl, ?_⟩) (by assumption) ?_
        rotate_left
        · intro w' hw'
          (try have hC := hw'.2)
          (try have hC9 := hw'.1)
          go_simp
          first | done | with_reducible rfl
        try simp only [Act.put, List.setIfInBounds_toArray, List.set_cons_zero, List.set_cons_succ]
        refine wpAnyP_take (i := 4) (v := ?_) rfl (by kernel_rfl) (by kernel_rfl) (by kernel_rfl) (by kernel_rfl) (fun _ _ _ h => h) (Or.inl ⟨by rfl, ?_⟩) (by assumption) ?_
        rotate_left
        · intro w' hw'
          (try have hC := hw'.2)
          (try have hC9 := hw'.1)
          go_simp
          first | done | with_reducible rfl
        try simp only [Act.put, List.setIfInBounds_toArray, List.set_cons_zero, List.set_cons_succ]
        refine wpAnyP_take (i := 5) (v := ?_) rfl (by kernel_rfl) (by kernel_rfl) (by kernel_rfl) (by kernel_rfl) (fun _ _ _ h => h) (Or.inl ⟨by rfl, ?_⟩) (by assumption) ?_
        rotate_left
        · intro w' hw'
          (try have hC := hw'.2)
          (try have hC9 := hw'.1)
          go_simp
          first | done | with_reducible rfl
        try simp only [Act.put, List.setIfInBounds_toArray, List.set_cons_zero, List.set_cons_succ]
        refine wpAnyP_take (i := 6) (v := ?_) rfl (by kernel_rfl) (by kernel_rfl) (by kernel_rfl) (by kernel_rfl) (fun _ _ _ h => h) (Or.inl ⟨by rfl, ?_⟩) (by assumption) ?_
        rotate_left
        · intro w' hw'
          (try have hC := hw'.2)
          (try have hC9 := hw'.1)
          go_simp
          first | done | with_reducible rfl
        try simp only [Act.put, List.setIfInBounds_toArray, List.set_cons_zero, List.set_cons_succ]
        refine wpAnyP_take (i := 7) (v := ?_) rfl (by kernel_rfl) (by kernel_rfl) (by kernel_rfl) (by kernel_rfl) (fun _ _ _ h => h) (Or.inl ⟨by rfl, ?_⟩) (by assumption) ?_
        rotate_left
        · intro w' hw'
          (try have hC := hw'.2)
          (try have hC9 := hw'.1)
          go_simp
          first | done | with_reducible rfl
        try simp only [Act.put, List.setIfInBounds_toArray, List.set_cons_zero, List.set_cons_succ]
        refine wpAnyP_take (i := 8) (v := ?_) rfl (by kernel_rfl) (by kernel_rfl) (by kernel_rfl) (by kernel_rfl) (fun _ _ _ h => h) (Or.inl ⟨by rfl, ?_⟩) (by assumption) ?_
        rotate_left
        · intro w' hw'
          (try have hC := hw'.2)
          (try have hC9 := hw'.1)
          go_simp
          first | done | with_reducible rfl
        try simp only [Act.put, List.setIfInBounds_toArray, List.set_cons_zero, List.set_cons_succ]
        have a5 := (kn6.ext (Ext.refl w6).drew).cell
        have a7 := (kn6.ext (Ext.refl w6).drew).frozen
        refine wpAnyP_ready (rs := [9]) (by kernel_rfl) (by simp) ?_
        refine AllReadyP.cons rfl (fun K hK => ?_) AllReadyP.nil
        go_simp
        refine hK.out _ _ (fun _ _ => nearB (KpX.trans (KpX.of_ext (Nat.le_refl _) (Ext.refl w6).drew) (KpX.setCell (n := w6.heap.size) (g := bn) w6.drew 0 (.int .i64 c.dst)))) ?_
        clear hK K
        obtain ⟨W7, hW7, hK7, kn7, kf7, ko7, hu7⟩ : ∃ W7, (w6.setCell ⟨bn, 0, none⟩ (.int .i64 c.dst)).drew = W7 ∧ KpP wc.heap.size (fun b => b = W2.heap.size ∨ b = bn ∨ b = bf) w6 W7 ∧ Blk W7 bn 3 #[.int .i64 c.dst] ∧ Blk W7 bf 3 #[.int .i64 fr] ∧ Blk W7 W2.heap.size 80 #[u'] ∧ Owns EHd W7 wc.heap.size 167 u' (HK ++ [⟨nd, fr, y.en, q.size, tic⟩]) :=
          ⟨_, rfl, KpP.trans (KpP.setCell (S := fun b => b = W2.heap.size ∨ b = bn ∨ b = bf) (KpP.refl _ _ w6) (.inl (.inr (.inl rfl))) _ _) (KpP.of_ext (by simp [World.setCell]; omega) (Ext.refl _).drew), (kn6.set0 _).ext (Ext.refl _).drew, (kf6.far (by simpa using n4) _).ext (Ext.refl _).drew, (ko6.far (by simp; omega) _).ext (Ext.refl _).drew, (hu6.setZ kn6 (by decide) 0 _).ext (Ext.refl _).drew⟩
        rw [hW7]
        have b1 := kf7.cell
        have b2 := kf7.lt
        have b3 := kf7.frozen
        refine wpAnyP_ready (rs := [10]) (by kernel_rfl) (by simp) ?_
        refine AllReadyP.cons rfl (fun K hK => ?_) AllReadyP.nil
        go_simp
        refine hK.out _ _ (fun h => absurd h (by decide)) ?_
        clear hK K
        refine wpAnyP_done (by kernel_rfl) ?_ _
        go_wp2
        go_roundg (gk - 1)
        case measure => have := Hkn.out; omega
        case rel =>
          have hKr : KpP wc.heap.size (fun b => b = W2.heap.size ∨ b = bn ∨ b = bf) w5 w6 := ⟨hK6.os, hK6.tape, hK6.output, hK6.size, fun k hk hs => hK6.block k hk (fun e => hs (.inl e))⟩
          exact ⟨k + 1, u', by have := Hkn.out; omega, by go_num, by rw [Hdk.out]; exact hu7.setZ kf7 (by decide) 0 _, ko7.far (by simp; omega) _, by rw [hnd]; exact kn7.far (by simpa using hnf) _, by rw [Hfd.out]; exact kf7.set0 _, KpP.setCell (hK.trans ((KpP.of_ext (by omega) hx5).trans (hKr.trans hK7))) (.inl (.inr (.inr rfl))) _ _⟩
      · obtain rfl : k = hops.length := by omega
        obtain ⟨Au, cu, rfl, hRu⟩ := hu.form
        rw [hdK_len] at hu ko1
        rw [Hend.out] at kn1
        have kq1' := kq1
        simp only [Req.cells] at kq1'
        have l1 := kn1.cell
        have l2 := kn1.lt
        have l3 := kq1'.cell
        have l4 := kq1'.lt
        have l5 := ko1.cell
        have l6 := ko1.lt
        go_wp2
        go_ret
        exact ⟨Au, cu, rfl, hu.mono (by omega), hEx⟩

end Go.Proofs.YtmaengcmhopmbaaGreat

/- Layer 35 (multicast): the walk of earliest. · Layer 35 (multicast): the comparison of hops, MinFunc. · Layer 35 (multicast): the walk of last. · Layer 35 (multicast): leading; the iterator of slices.Backward over hops. -/
import Derived.Deep.RegionHeld3
import Derived.Laws.EntriesVeiled
import Derived.StillTailTactics
import Derived.BigQuiet
import Derived.Test.YtemkpimngbbpkaaGreatQs04
import Derived.Test.YtemkpimngbbpkaaGreatQs05
import Derived.Test.YtemkpimngbbpkaaGreatQs06
import Derived.Test.YtemkpimngbbpkaaGreatQs10
import Derived.Test.YtemkpimngbbpkaaGreatQs16
import Derived.Test.YtemkpimngbbpkaaGreatQs17
namespace Go.Proofs.YtemkpimngbbpkaaGreat
set_option linter.unusedVariables false
set_option linter.unusedSimpArgs false
section
open Go.RowKit Go.Shelf
attribute [local go_sem] Oper.semAt_some
def ERel (p : Pln) (l : List Bk) (q : Req) (tree : List Int) (Ba : Nat) (W1 : World) (k : Nat) (u : Value) (ds : List Deferred) (wr : World) : Prop :=
 ∃ (f : Bool) (T : List Int) (B8 m : Nat), u = .pointer (some ⟨B8, 0, none⟩) /\ T = p.eIt l q tree m /\ (f = false -> (p.eRnd l q tree T).1 = false) /\ k = (if f then nu T + 1 else 0) /\
   Blk wr Ba 175 (arrV T) /\ Blk wr B8 4 #[.bool f] /\ Ba < B8 /\ Ext W1 wr /\ DSx wr.heap.size W1.heap.size ds wr
def ERl (p : Pln) (l : List Bk) (q : Req) (tree T : List Int) (Ba B8 : Nat) (W1 : World) (B : Nat) (ds : List Deferred) (pre : List (HopM p l q tree T)) (W : World) : Prop :=
 Blk W Ba 175 (arrV ((unM pre).foldl p.eStep (false, T)).2) /\ Blk W B8 4 #[.bool ((unM pre).foldl p.eStep (false, T)).1] /\ Ext W1 W /\ DSx B W1.heap.size ds W /\ B <= W.heap.size
theorem ERl.ext {p : Pln} {l : List Bk} {q : Req} {tree T : List Int} {Ba B8 : Nat} {W1 : World} {B : Nat} {ds : List Deferred} {pre : List (HopM p l q tree T)} {W W' : World} (h : ERl p l q tree T Ba B8 W1 B ds pre W) (hb : Ext W W') : ERl p l q tree T Ba B8 W1 B ds pre W' :=
 ⟨h.1.ext hb, h.2.1.ext hb, h.2.2.1.trans hb, h.2.2.2.1.ext hb, Nat.le_trans h.2.2.2.2 hb.size⟩
theorem erl_own {p : Pln} {l : List Bk} {q : Req} {tree T : List Int} {Ba B8 : Nat} {W1 : World} {B : Nat} {ds : List Deferred} (hB : W1.heap.size <= B) : OwnFrom B (ERl p l q tree T Ba B8 W1 B ds) := by
 intro pre X Y row hs hg hr
 obtain ⟨h1, h2, h3, h4, h5⟩ := hs
 exact ⟨h1.keptc hg (fun r e => (hr r e).2), h2.keptc hg (fun r e => (hr r e).2), h3.keptb hg (fun r e => Nat.le_trans hB (hr r e).1), h4.kept hg (fun r e => (hr r e).1), Nat.le_trans h5 hg.size⟩
theorem eStep_yes {p : Pln} {s : Bool × List Int} {h : Hp} {c : Con} (hc : gc p.cons h.con = c) (hup : gi s.2 c.dst < 0 ∨ h.arr < gi s.2 c.dst) : p.eStep s h = (true, s.2.set c.dst.toNat h.arr) := by unfold Pln.eStep; rw [hc, if_pos hup]
theorem eStep_no {p : Pln} {s : Bool × List Int} {h : Hp} {c : Con} (hc : gc p.cons h.con = c) (hup : ¬ (gi s.2 c.dst < 0 ∨ h.arr < gi s.2 c.dst)) : p.eStep s h = s := by unfold Pln.eStep; rw [hc, if_neg hup]
theorem keeps_grown {w w' : World} {g : Nat} {t : TypeId} {cs : Array Value} (hg : w.grownBy w' (some g)) (hb : Blk w g t cs) : KeepsOthers w w' :=
 ⟨hg.size, fun k o hk ho => (hg.block k (Array.getElem?_eq_some_iff.1 hk).1 (fun e => by
  injection e with e
  subst e
  have h2 : w.heap[k]? = some (.cells cs t (0, 0)) := hb
  rw [h2] at hk; cases hk; cases ho)).trans hk⟩
theorem erl_put {p : Pln} {l : List Bk} {q : Req} {tree T : List Int} {Ba B8 : Nat} {W1 : World} {B : Nat} {ds : List Deferred} {pre : List (HopM p l q tree T)} {x : HopM p l q tree T} {W wq : World} {c : Con} (hr : ERl p l q tree T Ba B8 W1 B ds pre W) (hwq : Ext W wq)
 (hc : gc p.cons x.1.con = c) (hup : gi ((unM pre).foldl p.eStep (false, T)).2 c.dst < 0 ∨ x.1.arr < gi ((unM pre).foldl p.eStep (false, T)).2 c.dst) (h1 : W1.heap.size <= Ba) (h2 : Ba < B8) (h3 : B8 < B) :
 KeepsFrom B W ((wq.setCell ⟨Ba, c.dst.toNat, none⟩ (.int .i64 x.1.arr)).setCell ⟨B8, 0, none⟩ (.bool true)) /\ KpY B Ba B8 W ((wq.setCell ⟨Ba, c.dst.toNat, none⟩ (.int .i64 x.1.arr)).setCell ⟨B8, 0, none⟩ (.bool true)) /\ ERl p l q tree T Ba B8 W1 B ds (pre ++ [x]) ((wq.setCell ⟨Ba, c.dst.toNat, none⟩ (.int .i64 x.1.arr)).setCell ⟨B8, 0, none⟩ (.bool true)) := by
 obtain ⟨q1, q2, q3, q4, q5⟩ := hr
 have e : (unM (pre ++ [x])).foldl p.eStep (false, T) = (true, ((unM pre).foldl p.eStep (false, T)).2.set c.dst.toNat x.1.arr) := by
  rw [unM_snoc, List.foldl_append]
  exact eStep_yes hc hup
 have hk := ((hwq.keeps.trans (KeepsOthers.setCell _ _ _)).trans (KeepsOthers.setCell _ _ _) : KeepsOthers W ((wq.setCell ⟨Ba, c.dst.toNat, none⟩ (.int .i64 x.1.arr)).setCell ⟨B8, 0, none⟩ (.bool true)))
 refine ⟨hk.from _, ((KpY.of_ext q5 hwq).setA _ _).setB _ _, ?_, ?_, ?_, ?_, ?_⟩
 ·rw [e]
  show Blk _ _ _ (arrV (List.set _ _ _))
  rw [<- arrV_set]
  exact ((q1.ext hwq).set_ _ _).far (by simp; omega) _
 ·rw [e]
  exact ((q2.ext hwq).far (by simp; omega) _).set0 _
 ·exact ((q3.trans hwq).setCell h1 _).setCell (by show W1.heap.size <= B8; omega) _
 ·exact ((q4.ext hwq).setCell _ _).setCell _ _
 ·exact Nat.le_trans q5 hk.size
theorem erl_same {p : Pln} {l : List Bk} {q : Req} {tree T : List Int} {Ba B8 : Nat} {W1 : World} {B : Nat} {ds : List Deferred} {pre : List (HopM p l q tree T)} {x : HopM p l q tree T} {W wq : World} {c : Con} (hr : ERl p l q tree T Ba B8 W1 B ds pre W) (hwq : Ext W wq)
 (hc : gc p.cons x.1.con = c) (hup : ¬ (gi ((unM pre).foldl p.eStep (false, T)).2 c.dst < 0 ∨ x.1.arr < gi ((unM pre).foldl p.eStep (false, T)).2 c.dst)) :
 KeepsFrom B W wq /\ KpY B Ba B8 W wq /\ ERl p l q tree T Ba B8 W1 B ds (pre ++ [x]) wq := by
 have hr2 := hr.ext hwq
 have e : (unM (pre ++ [x])).foldl p.eStep (false, T) = (unM pre).foldl p.eStep (false, T) := by
  rw [unM_snoc, List.foldl_append]
  exact eStep_no hc hup
 obtain ⟨q1, q2, q3, q4, q5⟩ := hr2
 exact ⟨hwq.keeps.from _, KpY.of_ext hr.2.2.2.2 hwq, by rw [e]; exact q1, by rw [e]; exact q2, q3, q4, q5⟩
set_option maxRecDepth 100000 in
set_option maxHeartbeats 4000000 in
theorem earliest_any (Aq : Option Addr) (cq : Nat) (Ac : Option Addr) (cc : Nat) (p : Pln) (Al : Option Addr) (cl : Nat) (l : List Bk) (Ah : Option Addr) (nh ch : Nat) (q : Req) (tree : List Int) (w : World) (h : PlnRd w Aq cq Ac cc p) (hbk : Rd EBk w Al l) (h0 : p.bkChk l = 0) (hf : fineR p q = true) (htl : tree.length = 16) :
 Calls Tryz.prog 82 #[.agg #[.slice Aq p.quo.length cq, .slice Ac p.cons.length cc, .slice Al l.length cl, .slice Ah nh ch], q.val, .agg (arrV tree)] w fun e w' => ∃ T, e = .returned (.agg (arrV T)) /\ p.EarlP l q tree T /\ Ext w w' := by
 obtain ⟨W0, hW0, hB0, hkt, hkq, hl0, hlq⟩ := box2 w #[.slice Aq p.quo.length cq, .slice Ac p.cons.length cc, .slice Al l.length cl, .slice Ah nh ch] q.cells 83 85
 simp only [Req.cells] at hW0 hkq
 obtain ⟨W9, hW9, hB9, hkr, hlr⟩ := box1 W0 (arrV tree) 175
 obtain ⟨W1, hW1, hB1, hkz, hlz⟩ := box1 W9 (arrV (List.replicate 16 0)) 175
 simp only [arrV, List.replicate, List.map_cons, List.map_nil] at hW1
 have hkt1 := (hkt.ext hB9).ext hB1
 have hkq1 := (hkq.ext hB9).ext hB1
 have hkr1 := hkr.ext hB1
 have hE1 := (hB0.trans hB9).trans hB1
 have hz16 : (List.replicate 16 (0 : Int)).length = 16 := rfl
 refine (callsIn_wide (n := 5)).1 ?_
 refine callsIn_of_wp_marks Tryz.func82 rfl trivial ?_ rfl
 refine wpIn_wide.2 ?_
 refine Code.wp_mono NoPanic.imp ?_
 unfold Req.val
 simp only [Tryz.ntmps82, List.size_toArray, List.length_cons, List.length_nil, Nat.reduceAdd, Nat.reduceSub, Array.replicate_succ, Array.replicate_zero, List.push_toArray, List.append_toArray, List.nil_append, List.cons_append]
 go_wp2_with (first | (refine wpList_load16 rfl rfl rfl (by assumption) (by assumption) ?_) | (refine wpList_fresh16 rfl rfl rfl rfl rfl (by assumption) ?_; intro W2 hB2 hk2 hs2))
 clear hW0 hW9 hW1
 obtain ⟨W3, hW3, hB3, hk3, hl3⟩ := box1 W2 #[.bool true] 4
 rw [hW3]
 clear hW3
 have hn0 : (unM ([] : List (HopM p l q tree tree))) = [] := rfl
 refine wp_loop_ghost_k (fun k a wr => ∃ (u8 u12 u13 u14 u15 u16 u17 u43 : Value) (ds : List Deferred), ERel p l q tree W1.heap.size W1 k u8 ds wr /\
  a = { tmps := #[.agg #[.slice Aq p.quo.length cq, .slice Ac p.cons.length cc, .slice Al l.length cl, .slice Ah nh ch], .agg #[.int .i64 q.src, .int .i64 q.dst, .int .i64 q.size, .int .i64 q.ready, .int .i64 q.dead, .int .i64 q.prio, .bool q.cust], .agg (arrV tree), .pointer (some ⟨w.heap.size, 0, none⟩), .pointer (some ⟨w.heap.size + 1, 0, none⟩), .pointer (some ⟨W0.heap.size, 0, none⟩), .pointer (some ⟨W9.heap.size, 0, none⟩), .pointer (some ⟨W1.heap.size, 0, none⟩), u8, undef, undef, .agg (arrV tree), u12, u13, u14, u15, u16, u17, undef, undef, undef, undef, undef, undef, undef, undef, undef, undef, undef, undef, undef, undef, undef, undef, undef, undef, undef, undef, undef, undef, undef, undef, undef, u43, undef], defers := ds }) (nu tree + 1) ?_ ?_
 ·exact ⟨_, _, _, _, _, _, _, _, _, ⟨true, tree, W1.heap.size + 1, 0, rfl, rfl, (fun e => by cases e), rfl, hk2.ext hB3, by rw [<- hs2]; exact hk3, by omega, hB2.trans hB3, DSx.nil _ _ _⟩, rfl⟩
 ·intro gk _ wr hinv
  obtain ⟨u8, u12, u13, u14, u15, u16, u17, u43, ds, hrel, ha⟩ := hinv
  subst ha
  intro _ _ _ _
  obtain ⟨f, T, B8, m, rfl, hTm, hfx, hgk, kA, k8, hAB, hE, hds⟩ := hrel
  have hTl : T.length = 16 := by rw [hTm, eIt_len]; exact htl
  have Hgk := Lib.hid hgk
  have HTm := Lib.hid hTm
  have Hfx := Lib.hid hfx
  have HF := Lib.hid hf
  have H0 := Lib.hid h0
  have kt := hkt1.ext hE
  have kq := hkq1.ext hE
  have kr := hkr1.ext hE
  have kz := hkz.ext hE
  have hEs := hE.size
  have hB9s := hB9.size
  have hB1s := hB1.size
  have s1 := k8.cell
  have s2 := k8.lt
  have s3 := k8.frozen
  clear hgk hTm hfx hf h0
  cases f with
  | true =>
    obtain ⟨wb, hwb⟩ : ∃ wb, wr.setCell ⟨B8, 0, none⟩ (.bool false) = wb := ⟨_, rfl⟩
    have k8b : Blk wb B8 4 #[.bool false] := by rw [<- hwb]; exact k8.set0 _
    have kAb : Blk wb W1.heap.size 175 (arrV T) := by rw [<- hwb]; exact kA.far (by simp; omega) _
    have hEb : Ext W1 wb := by rw [<- hwb]; exact hE.setCell (by show W1.heap.size <= B8; omega) _
    have hdsb : DSx wb.heap.size W1.heap.size ds wb := by rw [<- hwb]; exact (hds.setCell _ _).top
    have ktb := hkt1.ext hEb
    have kqb := hkq1.ext hEb
    have krb := hkr1.ext hEb
    have t1 := ktb.cell
    have t2 := ktb.lt
    have t3 := kqb.cell
    have t4 := kqb.lt
    have hEbs := hEb.size
    clear kt kq kr kz kA hds
    have hho := fun w => mhops_any (.slice Aq p.quo.length cq) (.slice Ac p.cons.length cc) (.slice Al l.length cl) (.slice Ah nh ch) q tree T w
    unfold Req.val at hho
    go_wp2_with (refine wpList_load16 rfl rfl rfl (by assumption) (by assumption) ?_)
    clear hwb
    refine (hho _).mono ?_
    clear hho
    rintro e w4 ⟨rfl, hb4, hs4, z1, z2, z3, z4⟩
    have k84 := k8b.ext hb4
    have kA4 := kAb.ext hb4
    have l8 := k8b.lt
    have lA := kAb.lt
    clear t1 t2 t3 t4 s1 s2 s3
    go_wp2_with fail
    have hqo := (fineR_of HF.out).2
    simp only [Req.okB, decide_eq_true_eq] at hqo
    have hqs : 1 <= q.size /\ q.size <= 65536 := by omega
    have Hqs := Lib.hid hqs
    clear hqo hqs
    refine (wpIn_wide (n := 5)).1 ?_
    refine wpIn_rangeFunc_ownH rfl (by omega) (gf := 243) (lb := #[.pointer (some ⟨wb.heap.size, 0, none⟩), .pointer (some ⟨wb.heap.size + 3, 0, none⟩), .pointer (some ⟨wb.heap.size + 2, 0, none⟩), .pointer (some ⟨wb.heap.size + 1, 0, none⟩)]) rfl trivial (enters_of Tryz.func243 (by kernel_rfl) rfl)
     (mhops_stops wb.heap.size (wb.heap.size + 3) (wb.heap.size + 2) (wb.heap.size + 1) w4.heap.size W1.heap.size B8 Aq cq Ac cc p Al cl l Ah nh ch q tree T w w4
      ⟨h, hbk, H0.out, HF.out, htl, hTl, (hE1.trans hEb).trans hb4, by have := hE1.size; omega, hE1.size, by have := hE1.size; omega, Nat.le_refl _, z1, z4, z3, z2, ⟨by omega, by omega, by omega⟩, ⟨by omega, by omega, by omega⟩, ⟨by omega, by omega, by omega⟩, ⟨by omega, by omega, by omega⟩⟩)
     KpY.trans (fun W l o o' hl _ _ _ => KpY.put W l o' hl) (Below.refl _ _) (fun _ => rfl)
     (ERl p l q tree T W1.heap.size B8 W1 w4.heap.size ds) (fun _ _ _ => False) (erl_own (by omega)) (fun _ _ _ _ _ hs _ _ => hs)
     ⟨kA4, k84, hEb.trans hb4, (hdsb.ext hb4).more hb4.size, Nat.le_refl _⟩
     (fun x a' W => ∃ Bx, w4.heap.size <= Bx /\ Blk W Bx 94 #[.int .i64 x.1.con, .int .i64 x.1.beg, .int .i64 x.1.en, .int .i64 x.1.arr] /\ a' = { tmps := #[.agg #[.slice Aq p.quo.length cq, .slice Ac p.cons.length cc, .slice Al l.length cl, .slice Ah nh ch], .agg #[.int .i64 q.src, .int .i64 q.dst, .int .i64 q.size, .int .i64 q.ready, .int .i64 q.dead, .int .i64 q.prio, .bool q.cust], .agg (arrV tree), .pointer (some ⟨w.heap.size, 0, none⟩), .pointer (some ⟨w.heap.size + 1, 0, none⟩), .pointer (some ⟨W0.heap.size, 0, none⟩), .pointer (some ⟨W9.heap.size, 0, none⟩), .pointer (some ⟨W1.heap.size, 0, none⟩), .pointer (some ⟨B8, 0, none⟩), .pointer (some ⟨Bx, 0, none⟩), undef, .agg (arrV tree), .bool true, .agg #[.slice Aq p.quo.length cq, .slice Ac p.cons.length cc, .slice Al l.length cl, .slice Ah nh ch], .agg #[.int .i64 q.src, .int .i64 q.dst, .int .i64 q.size, .int .i64 q.ready, .int .i64 q.dead, .int .i64 q.prio, .bool q.cust], .agg (arrV tree), .agg (arrV T), .func (.func 243) #[] #[.pointer (some ⟨wb.heap.size, 0, none⟩), .pointer (some ⟨wb.heap.size + 3, 0, none⟩), .pointer (some ⟨wb.heap.size + 2, 0, none⟩), .pointer (some ⟨wb.heap.size + 1, 0, none⟩)], .agg #[.int .i64 x.1.con, .int .i64 x.1.beg, .int .i64 x.1.en, .int .i64 x.1.arr], undef, undef, undef, undef, undef, undef, undef, undef, undef, undef, undef, undef, undef, undef, undef, undef, undef, undef, undef, undef, undef, undef, undef, undef, u43, undef], defers := [] })
     (fun x a' s X Y row hs hg hr => by obtain ⟨Bx, z1, z2, z3⟩ := hs; exact ⟨Bx, z1, z2.keptc hg (fun r e => (hr r e).2), z3⟩) ?assign ?body ?done ?stop
    case assign =>
     rintro li pre x W K hi hK
     have hBW : w4.heap.size <= W.heap.size := hi.2.2.2.2
     simp only [hopM]
     gi_wp2
     exact hK _ _ ((KeepsOthers.alloc _ _).from _) (KpY.of_ext hBW ((Ext.refl W).alloc _)) (hi.ext ((Ext.refl W).alloc _)) ⟨W.heap.size, hBW, Blk.new _ _ _, rfl⟩
    case body =>
     rintro li pre x a' W hl ⟨rr, hrr⟩ hERL ⟨Bx, b1, kx, rfl⟩ hlen
     have HERL := Lib.hid hERL
     obtain ⟨q1, q2, q3, q4, q5⟩ := hERL
     obtain ⟨i, hif⟩ := HopP.facts x.2
     have hcon := hif.con
     have hokk := hif.okk H0.out Hqs.out
     unfold HopOk at hokk
     have hgc : gc p.cons (i : Int) = p.cons[i]'hif.lt := gc_get (i := (i : Int)) (by have := hif.lt; omega)
     rw [hcon] at hokk
     obtain ⟨b, o, rfl, hb, c0, c1, c2, c3, c4, c5, c6⟩ := (h.c.ext (hE1.trans q3)).con hif.lt
     rw [<- hgc] at c0 c1 c2 c3 c4 c5 c6
     have hcm := h.cm
     have hilt := hif.lt
     have HC : Hid (gc p.cons x.1.con = gc p.cons (i : Int)) := Lib.hid (by rw [hcon])
     obtain ⟨c, hc⟩ : ∃ c, gc p.cons (i : Int) = c := ⟨_, rfl⟩
     rw [hc] at HC c0 c1 c2 c3 c4 c5 c6 hokk
     clear hc hgc hif
     rw [hcon] at kx ⊢
     have hkp := hkt1.ext q3
     have l1 := hkp.cell
     have l2 := hkp.lt
     have l3 := kx.cell
     have l4 := kx.lt
     have hT2 : ((unM pre).foldl p.eStep (false, T)).2.length = 16 := by rw [eFold_len]; exact hTl
     have eD : ((c.dst.toNat : Nat) : Int) = c.dst := by omega
     have l5 := (q1.cell c.dst.toNat).trans (arrV_get (by omega))
     rw [eD] at l5
     have l6 := q1.lt
     have l7 := q1.frozen
     have l8' := q2.cell
     have l9 := q2.lt
     have l10 := q2.frozen
     have hd0 := hokk.1
     have hd1 := hokk.2.1
     have hpu := fun wq (hwq : Ext W wq) hup => erl_put (B := w4.heap.size) (Ba := W1.heap.size) (B8 := B8) HERL.out hwq HC.out hup (Nat.le_refl _) hAB (by omega)
     have hps := fun wq (hwq : Ext W wq) hup => erl_same (B := w4.heap.size) (Ba := W1.heap.size) (B8 := B8) HERL.out hwq HC.out hup
     have Hpu := Lib.hid hpu
     have Hps := Lib.hid hps
     have hfn : ∀ k, Fence.wide.fn k := fun _ => trivial
     have hmix : Tryz.prog.follows .mixedOrders = true := by kernel_rfl
     obtain ⟨tv, htv⟩ : ∃ tv, gi ((unM pre).foldl p.eStep (false, T)).2 c.dst = tv := ⟨_, rfl⟩
     have Htv := Lib.hid htv
     rw [htv] at l5
     clear hpu hps htv eD hokk hcon
     by_cases hg0 : tv < 0
     ·have hdg : decide (tv < 0) = true := by simpa using hg0
      gi_wp2
      refine wpIn_region_quiet_round rfl (by kernel_rfl) (by kernel_rfl) (by kernel_rfl) ?_
      repeat (gi_big_quiet_step (fail))
      refine wpQuietIn_nil ?_
      intro wq hwq
      replace hwq := quiet_drew hwq
      have r1 := hkp.ext hwq
      have r2 := kx.ext hwq
      have r3 := q1.ext hwq
      have r4 := q2.ext hwq
      have r5 := r2.cell
      have r6 := r2.lt
      have r7 := (r3.cell c.dst.toNat).trans ((q1.cell c.dst.toNat).symm.trans l5)
      have r8 := r3.lt
      have r9 := r3.frozen
      have r10 := r4.cell
      have r11 := r4.lt
      have r12 := r4.frozen
      have FIN := Lib.hid (Hpu.out wq hwq (.inl (by rw [Htv.out]; exact hg0)))
      have hne1 : ¬ W1.heap.size = B8 := by omega
      have hne2 : ¬ B8 = W1.heap.size := by omega
      clear l1 l3 l5 l7 l8' l10 c0 c1 c2 c3 c4 c5 c6
      gi_wp2
      exact FIN.out
     ·have hdg : decide (tv < 0) = false := by simpa using hg0
      by_cases hg1 : x.1.arr < tv
      ·have hdh : decide (x.1.arr < tv) = true := by simpa using hg1
       gi_wp2
       refine wpIn_region_quiet_round rfl (by kernel_rfl) (by kernel_rfl) (by kernel_rfl) ?_
       repeat (gi_big_quiet_step (fail))
       refine wpQuietIn_nil ?_
       intro wq hwq
       replace hwq := quiet_drew hwq
       have r1 := hkp.ext hwq
       have r2 := kx.ext hwq
       have r3 := q1.ext hwq
       have r4 := q2.ext hwq
       have r5 := r2.cell
       have r6 := r2.lt
       have r7 := (r3.cell c.dst.toNat).trans ((q1.cell c.dst.toNat).symm.trans l5)
       have r8 := r3.lt
       have r9 := r3.frozen
       have r10 := r4.cell
       have r11 := r4.lt
       have r12 := r4.frozen
       have FIN := Lib.hid (Hpu.out wq hwq (.inr (by rw [Htv.out]; exact hg1)))
       have hne1 : ¬ W1.heap.size = B8 := by omega
       have hne2 : ¬ B8 = W1.heap.size := by omega
       clear l1 l3 l5 l7 l8' l10 c0 c1 c2 c3 c4 c5 c6
       gi_wp2
       exact FIN.out
      ·have hdh : decide (x.1.arr < tv) = false := by simpa using hg1
       gi_wp2
       refine wpIn_region_quiet_round rfl (by kernel_rfl) (by kernel_rfl) (by kernel_rfl) ?_
       repeat (gi_big_quiet_step (fail))
       refine wpQuietIn_nil ?_
       intro wq hwq
       replace hwq := quiet_drew hwq
       have FIN := Lib.hid (Hps.out wq hwq (by rw [Htv.out]; omega))
       gi_wp2
       exact FIN.out
    case done =>
     rintro D ys W hDD hS ⟨q1, q2, q3, q4, q5⟩ hK
     have hr : (unM ys).foldl p.eStep (false, T) = p.eRnd l q tree T := by rw [hS]; rfl
     rw [hr] at q1 q2
     have hnu := eRnd_nu (p := p) (l := l) (q := q) (tree := tree) (at_ := T) H0.out Hqs.out hTl
     have hT' : (p.eRnd l q tree T).2 = p.eIt l q tree (m + 1) := by rw [HTm.out]; rfl
     obtain ⟨f', hf'⟩ : ∃ f', (p.eRnd l q tree T).1 = f' := ⟨_, rfl⟩
     obtain ⟨T', hTT⟩ : ∃ T', (p.eRnd l q tree T).2 = T' := ⟨_, rfl⟩
     rw [hTT] at q1 hT'
     rw [hf'] at q2
     have hdec : (f' = false -> (p.eRnd l q tree T').1 = false) /\ (if f' then nu T' + 1 else 0) < nu T + 1 := by
      rcases hnu with e | ⟨e1, e2⟩
      ·have ef : f' = false := by rw [<- hf', e]
       have eT : T' = T := by rw [<- hTT, e]
       subst ef
       subst eT
       exact ⟨fun _ => hf', by simp⟩
      ·have ef : f' = true := by rw [<- hf', e1]
       subst ef
       rw [hTT] at e2
       exact ⟨(fun e => by cases e), by simp; omega⟩
     have Hdec := Lib.hid hdec
     have HT' := Lib.hid hT'
     have hd2 := q4.cons hDD (by omega) hK
     obtain ⟨W6, hW6, hB6, hk6, hl6⟩ := box1 W #[.bool f'] 4
     have s1 := q2.cell
     have s2 := q2.lt
     have q5' := q5
     clear hr hnu hT' hf' hTT hdec hS hK
     go_wp2_with fail
     go_roundg (if f' then nu T' + 1 else 0)
     case measure => rw [Hgk.out]; exact Hdec.out.2
     case rel => exact ⟨f', T', W.heap.size, m + 1, rfl, HT'.out, Hdec.out.1, rfl, q1.ext hB6, hk6, by omega, q3.trans hB6, (hd2.ext hB6).top⟩
    case stop =>
     rintro D c pre W _ _ h _
     exact h.elim
  | false =>
    have hfix := Hfx.out rfl
    go_wp2_with (first | (refine wpList_load16 rfl rfl rfl (by assumption) (by assumption) ?_) | (refine wpList_store16 (T' := T) rfl rfl rfl rfl (by assumption) (by assumption) (by assumption) ?_; intro W7 hg7 hk7))
    have hds7 := hds.keeps (keeps_grown hg7 kz)
    have hE7 : Ext w W7 := ext_of_grown (hE1.trans hE) hg7 (by have := hB0.size; omega)
    show LeavesInM _ _ _ _ _ _ ds .returning W7
    refine hds7.leaves ?_
    intro w' hw'
    have hfin := hw' (fun W => Blk W W9.heap.size 175 (arrV T) /\ Ext w W)
     (fun s X Y row hs hg hr => ⟨hs.1.keptc hg (fun r e => (hr r e).2), hs.2.keptb hg (fun r e => Nat.le_trans hE1.size (hr r e).1)⟩) ⟨hk7, hE7⟩
    exact ⟨_, results16' rfl rfl hfin.1 hTl, T, rfl, ⟨⟨m, HTm.out⟩, hfix⟩, hfin.2⟩
end
section
open Go.RowKit Go.Shelf
attribute [local go_sem] Oper.semAt_some
def Pln.lastC (p : Pln) (at_ : List Int) (a b : Hp) : Int :=
 orL [cmpI (gi at_ (gc p.cons a.con).src) (gi at_ (gc p.cons b.con).src), cmpI (gc p.cons a.con).src (gc p.cons b.con).src, cmpI a.con b.con]
def minBy (f : Hp -> Hp -> Int) : List Hp -> Hp
 | [] => ⟨0, 0, 0, 0⟩
 | x :: l => l.foldl (fun m y => if f y m < 0 then y else m) x
def InC (p : Pln) (h : Hp) : Prop := 0 <= h.con /\ h.con < p.cons.length
set_option maxHeartbeats 2000000 in
theorem last1_any (Bt : Nat) (Aq : Option Addr) (cq : Nat) (Ac : Option Addr) (cc : Nat) (p : Pln) (v2 v3 : Value) (h : Hp) (w : World) (hrd : PlnRd w Aq cq Ac cc p) (kt : Blk w Bt 83 #[.slice Aq p.quo.length cq, .slice Ac p.cons.length cc, v2, v3]) (hin : InC p h) :
 Calls Tryz.prog 162 #[.agg #[.int .i64 h.con, .int .i64 h.beg, .int .i64 h.en, .int .i64 h.arr], .pointer (some ⟨Bt, 0, none⟩)] w fun e w' => e = .returned (.int .i64 (gc p.cons h.con).src) /\ Ext w w' := by
 obtain ⟨W, hW, hB, hk, hlt⟩ := box1 w #[.int .i64 h.con, .int .i64 h.beg, .int .i64 h.en, .int .i64 h.arr] 94
 have hcl : h.con.toNat < p.cons.length := by unfold InC at hin; omega
 obtain ⟨h0, h1⟩ := hin
 have hcm := hrd.cm
 obtain ⟨bc, oc, rfl, hbc, j0, j1, j2, j3, j4, j5, j6⟩ := ((hrd.c).ext hB).con hcl
 rw [gc_get hcl]
 generalize p.cons[h.con.toNat] = c at *
 have s0 := hk.cell
 have s1 := (kt.ext hB).cell
 have s2 := hk.lt
 have s3 := (kt.ext hB).lt
 go_enter Tryz.func162, Tryz.ntmps162
 go_wp2
 go_ret
 exact ⟨rfl, hB⟩
theorem rd_new3 (W : World) (t : TypeId) (a b c : Int) : Rd EInt (W.alloc (.cells #[.int .i64 a, .int .i64 b, .int .i64 c] t)).drew (some ⟨W.heap.size, 0, none⟩) [a, b, c] := rd_blk3 (t := t) (show Blk (W.alloc (.cells #[.int .i64 a, .int .i64 b, .int .i64 c] t)).drew W.heap.size t #[.int .i64 a, .int .i64 b, .int .i64 c] from Blk.new W t _)
set_option maxRecDepth 100000 in
set_option maxHeartbeats 4000000 in
theorem last2_any (Ba Bf Bt : Nat) (tf : TypeId) (Aq : Option Addr) (cq : Nat) (Ac : Option Addr) (cc : Nat) (p : Pln) (v2 v3 : Value) (at_ : List Int) (a b : Hp) (w : World) (hrd : PlnRd w Aq cq Ac cc p) (hok : p.Ok) (hal : at_.length = 16) (kt : Blk w Bt 83 #[.slice Aq p.quo.length cq, .slice Ac p.cons.length cc, v2, v3])
 (ka : Blk w Ba 175 (arrV at_)) (kf : Blk w Bf tf #[.func (.func 162) #[] #[.pointer (some ⟨Bt, 0, none⟩)]]) (ha : InC p a) (hb : InC p b) :
 Calls Tryz.prog 164 #[.agg #[.int .i64 a.con, .int .i64 a.beg, .int .i64 a.en, .int .i64 a.arr], .agg #[.int .i64 b.con, .int .i64 b.beg, .int .i64 b.en, .int .i64 b.arr], .pointer (some ⟨Ba, 0, none⟩), .pointer (some ⟨Bf, 0, none⟩)] w fun e w' => e = .returned (.int .i64 (p.lastC at_ a b)) /\ Ext w w' := by
 obtain ⟨W, hW, hB, hk, hk2, hlt, hlt2⟩ := box2 w #[.int .i64 a.con, .int .i64 a.beg, .int .i64 a.en, .int .i64 a.arr] #[.int .i64 b.con, .int .i64 b.beg, .int .i64 b.en, .int .i64 b.arr] 94 94
 have hn16 := hok.n16
 have hcA : a.con.toNat < p.cons.length := by unfold InC at ha; omega
 have hcB : b.con.toNat < p.cons.length := by unfold InC at hb; omega
 have hoA := hok.con _ (List.getElem_mem hcA)
 have hoB := hok.con _ (List.getElem_mem hcB)
 rw [<- gc_get hcA] at hoA
 rw [<- gc_get hcB] at hoB
 have HV := Lib.hid (show p.lastC at_ a b = orL [cmpI (gi at_ (gc p.cons a.con).src) (gi at_ (gc p.cons b.con).src), cmpI (gc p.cons a.con).src (gc p.cons b.con).src, cmpI a.con b.con] from rfl)
 have a0 := hoA.1.src0
 have a1 : (gc p.cons a.con).src < 16 := by omega
 have b0 := hoB.1.src0
 have b1 : (gc p.cons b.con).src < 16 := by omega
 have kaW := ka.ext hB
 have ktW := kt.ext hB
 have hrW := hrd.ext hB
 have eA : (((gc p.cons a.con).src.toNat : Nat) : Int) = (gc p.cons a.con).src := by omega
 have eB : (((gc p.cons b.con).src.toNat : Nat) : Int) = (gc p.cons b.con).src := by omega
 have s0 := hk.cell
 have s1 := hk2.cell
 have s2 := (kf.ext hB).cell
 have s3 := (kf.ext hB).lt
 have s4 := (kaW.cell (gc p.cons a.con).src.toNat).trans (arrV_get (by omega))
 have s5 := (kaW.cell (gc p.cons b.con).src.toNat).trans (arrV_get (by omega))
 rw [eA] at s4
 rw [eB] at s5
 have s6 := kaW.lt
 clear eA eB hoA hoB hcA hcB
 go_enter Tryz.func164, Tryz.ntmps164
 go_wp2_with fail
 clear hW
 have hN := Near.refl W
 go_region_held3 (fun w' => Ext W w' /\ ∀ b o, b < W.heap.size -> w'.cell? ⟨b, o, none⟩ = W.cell? ⟨b, o, none⟩) (first | exact hN.drew | exact Near.step (by assumption) hb9 | exact Near.alloc (by assumption) _ | assumption)
  (first | (go_at_call 162; refine (last1_any Bt Aq cq Ac cc p v2 v3 ⟨_, _, _, _⟩ _ (hrW.ext (And.left (by assumption))) (ktW.ext (And.left (by assumption))) (by first | exact ha | exact hb)).mono ?_; rintro e w9 ⟨rfl, hb9⟩) | (go_at_call 68; refine (cmp_any _ _ _).mono ?_; rintro e w1 ⟨rfl, rfl⟩) | (go_at_call 67; refine (or_any _ 3 [_, _, _] _ (by first | exact rd_blk3 (Blk.new _ _ _) | exact rd_new3 _ _ _ _ _) (by simp)).mono ?_; rintro e w1 ⟨rfl, rfl⟩))
 all_goals
  clear hN
  go_wp2
  go_ret
  exact ⟨by rw [HV.out]; rfl, hB.trans (And.left ‹Ext W _ /\ _›)⟩
theorem minBy_snoc {f : Hp -> Hp -> Int} {l : List Hp} {j : Nat} {y m : Hp} (h1 : 1 <= j) (h : j < l.length) (hy : l[j] = y) (hm : minBy f (l.take j) = m) : minBy f (l.take (j + 1)) = if f y m < 0 then y else m := by
 rw [take_snoc h hy]
 cases hl : l.take j with
 | nil => have : (l.take j).length = 0 := by rw [hl]; rfl
          rw [List.length_take] at this; omega
 | cons x t =>
   rw [hl] at hm
   show List.foldl _ x (t ++ [y]) = _
   rw [List.foldl_append]
   show (if f y (minBy f (x :: t)) < 0 then y else minBy f (x :: t)) = _
   rw [hm]
theorem foldMin_mem {f : Hp -> Hp -> Int} : ∀ (t : List Hp) (x : Hp), t.foldl (fun m y => if f y m < 0 then y else m) x = x ∨ t.foldl (fun m y => if f y m < 0 then y else m) x ∈ t
 | [], x => .inl rfl
 | y :: t, x => by
   rw [List.foldl_cons]
   rcases foldMin_mem (f := f) t (if f y x < 0 then y else x) with h | h
   ·rw [h]
    split
    ·right; simp
    ·left; rfl
   ·right; simp [h]
theorem minBy_mem {f : Hp -> Hp -> Int} {l : List Hp} (h : l ≠ []) : minBy f l ∈ l := by
 cases l with
 | nil => exact absurd rfl h
 | cons x t =>
   rcases foldMin_mem (f := f) t x with h | h
   ·show List.foldl _ x t ∈ _; rw [h]; simp
   ·show List.foldl _ x t ∈ _; simp [h]
set_option maxRecDepth 100000 in
set_option maxHeartbeats 4000000 in
theorem minFunc_any (Ba Bf Bt : Nat) (tf : TypeId) (Aq : Option Addr) (cq : Nat) (Ac : Option Addr) (cc : Nat) (p : Pln) (v2 v3 : Value) (at_ : List Int) (A : Option Addr) (c : Nat) (l : List Hp) (w : World) (hrd : PlnRd w Aq cq Ac cc p) (hok : p.Ok) (hal : at_.length = 16) (kt : Blk w Bt 83 #[.slice Aq p.quo.length cq, .slice Ac p.cons.length cc, v2, v3])
 (ka : Blk w Ba 175 (arrV at_)) (kf : Blk w Bf tf #[.func (.func 162) #[] #[.pointer (some ⟨Bt, 0, none⟩)]]) (hA : Rd EHp w A l) (hlm : l.length <= 1000000) (hne : l ≠ []) (hin : ∀ h ∈ l, InC p h) :
 Calls Tryz.prog 163 #[.slice A l.length c, .func (.func 164) #[] #[.pointer (some ⟨Ba, 0, none⟩), .pointer (some ⟨Bf, 0, none⟩)]] w fun e w' => e = .returned (.agg #[.int .i64 (minBy (p.lastC at_) l).con, .int .i64 (minBy (p.lastC at_) l).beg, .int .i64 (minBy (p.lastC at_) l).en, .int .i64 (minBy (p.lastC at_) l).arr]) /\ Ext w w' := by
 have hpos : 0 < l.length := List.length_pos_iff.2 hne
 obtain ⟨W, hW, hB, hk, hlt⟩ := box1 w #[.int .i64 0, .int .i64 0, .int .i64 0, .int .i64 0] 94
 obtain ⟨b, o, rfl, hb, c0, c1, c2, c3⟩ := (hA.ext hB).hp hpos
 simp only [Nat.zero_mul, Nat.add_zero] at c0 c1 c2 c3
 have h0m : minBy (p.lastC at_) (l.take 1) = l[0] := by
  rw [take_snoc hpos rfl]; rfl
 have hxi := hin _ (List.getElem_mem hpos)
 generalize hxe : l[0] = x at *
 have Hxi := Lib.hid hxi
 obtain ⟨W2, hW2, hB2, hk2, hl2⟩ := box1 W #[.int .i64 x.con, .int .i64 x.beg, .int .i64 x.en, .int .i64 x.arr] 94
 have H0m := Lib.hid h0m
 have Hin := Lib.hid hin
 have Hok := Lib.hid hok
 clear h0m hxe hin hne hok hxi
 go_enter Tryz.func163, Tryz.ntmps163
 go_wp2_with fail
 clear hW hW2 c0 c1 c2 c3
 go_loopg [6] (l.length - 1) (fun n k wr => ∃ (j : Nat) (m : Hp), j + n = l.length /\ 1 <= j /\ k = .int .i64 j /\ Hid (minBy (p.lastC at_) (l.take j) = m) /\ Hid (InC p m) /\ Blk wr W.heap.size 94 #[.int .i64 m.con, .int .i64 m.beg, .int .i64 m.en, .int .i64 m.arr] /\ Ext W wr)
 case atStart => exact ⟨1, x, by omega, Nat.le_refl _, rfl, H0m, Hxi, hk2, hB2⟩
 case round =>
  obtain ⟨j, m, hjq, hj1, rfl, hm, hmi, km, hx⟩ := hrel
  have Hjq := Lib.hid hjq
  have hjN : j <= l.length := by omega
  clear hjq
  have s0 := km.cell
  have s1 := km.lt
  have hE := hB.trans hx
  by_cases hlt2 : j < l.length
  ·obtain ⟨bl, ol, e1, hbl, g0, g1, g2, g3⟩ := (hA.ext hE).hp hlt2
   injection e1 with e1
   injection e1 with e1 e2
   subst e1 e2
   have hyi := Hin.out _ (List.getElem_mem hlt2)
   have hsn := fun y hy => minBy_snoc (f := p.lastC at_) hj1 hlt2 (y := y) hy hm.out
   generalize l[j] = y at *
   have Hsn := Lib.hid (hsn y rfl)
   have Hyi := Lib.hid hyi
   have hrx := hrd.ext hE
   have ktx := kt.ext hE
   have kax := ka.ext hE
   have kfx := kf.ext hE
   have hMi := hmi.out
   clear hsn
   go_wp2_with fail
   have hN := Near.refl wr
   go_region_held3 (fun w' => Ext wr w' /\ ∀ b o, b < wr.heap.size -> w'.cell? ⟨b, o, none⟩ = wr.cell? ⟨b, o, none⟩) (first | exact hN.drew | exact Near.step (by assumption) hb9 | assumption)
    (first | (go_at_call 164; refine (last2_any Ba Bf Bt tf Aq cq Ac cc p v2 v3 at_ y m _ (hrx.ext (And.left (by assumption))) Hok.out hal (ktx.ext (And.left (by assumption))) (kax.ext (And.left (by assumption))) (kfx.ext (And.left (by assumption))) hyi hMi).mono ?_; rintro e w9 ⟨rfl, hb9⟩))
   all_goals
    have hE9 := And.left ‹Ext wr _ /\ _›
    have km9 := km.ext hE9
    have t1 := km9.lt
    have t2 := km9.frozen
    clear hN
    by_cases hc : p.lastC at_ y m < 0
    ·have HM := Lib.hid (Hsn.out.trans (if_pos hc))
     obtain ⟨w8, hw8, hz8, hE8⟩ : ∃ w8, World.setCells w9 W.heap.size 0 [.int .i64 y.con, .int .i64 y.beg, .int .i64 y.en, .int .i64 y.arr] = w8 /\ Blk w8 W.heap.size 94 #[.int .i64 y.con, .int .i64 y.beg, .int .i64 y.en, .int .i64 y.arr] /\ Ext W w8 :=
      ⟨_, rfl, km9.setCells_ [.int .i64 y.con, .int .i64 y.beg, .int .i64 y.en, .int .i64 y.arr] 0, ext_setCells (hx.trans hE9) (Nat.le_refl _) 0 _⟩
     simp only [World.setCells, Nat.zero_add, Nat.reduceAdd] at hw8
     go_wp2
     go_roundg (l.length - (j + 1))
     case measure => have := Hjq.out; omega
     case rel => exact ⟨j + 1, y, by have := Hjq.out; omega, by omega, by go_num, HM, Hyi, hz8, hE8⟩
    ·have HM := Lib.hid (Hsn.out.trans (if_neg hc))
     have dc : decide (p.lastC at_ y m < 0) = false := decide_eq_false hc
     go_wp2
     go_roundg (l.length - (j + 1))
     case measure => have := Hjq.out; omega
     case rel => exact ⟨j + 1, m, by have := Hjq.out; omega, by omega, by go_num, HM, hmi, km9, hx.trans hE9⟩
  ·obtain rfl : j = l.length := by omega
   rw [List.take_length] at hm
   have hk0 := hk.ext hx
   have t0 := hk0.cell
   have t1 := hk0.lt
   have t2 := hk0.frozen
   obtain ⟨w7, hw7, hz7, hE7⟩ : ∃ w7, wr.setCells w.heap.size 0 [.int .i64 m.con, .int .i64 m.beg, .int .i64 m.en, .int .i64 m.arr] = w7 /\ Blk w7 w.heap.size 94 #[.int .i64 m.con, .int .i64 m.beg, .int .i64 m.en, .int .i64 m.arr] /\ Ext w w7 :=
    ⟨_, rfl, hk0.setCells_ [.int .i64 m.con, .int .i64 m.beg, .int .i64 m.en, .int .i64 m.arr] 0, ext_setCells hE (Nat.le_refl _) 0 _⟩
   simp only [World.setCells, Nat.zero_add, Nat.reduceAdd] at hw7
   go_wp2
   have hc7 := hz7.cell
   refine bodyPost_ret (v := .agg #[.int .i64 m.con, .int .i64 m.beg, .int .i64 m.en, .int .i64 m.arr]) (by rw [results_cell1 rfl]; simp [asAddr, Result.andThen, hc7, go_sem]) rfl ?_
   exact ⟨by rw [hm.out], hE7⟩
end
section
open Go.RowKit Go.Shelf
attribute [local go_sem] Oper.semAt_some
theorem info_hopm : (Tryz.prog.info? 94).map (fun i => (i.zero, i.size, i.bytes)) = some (some (.agg #[.int .i64 0, .int .i64 0, .int .i64 0, .int .i64 0]), 4, 32) := by kernel_rfl
def Pln.lastF (p : Pln) (at_ : List Int) (node : Int) (h : Hp) : Bool := (gc p.cons h.con).dst == node && h.arr == gi at_ node
def Pln.lastL (p : Pln) (l : List Bk) (q : Req) (tree at_ : List Int) (node : Int) : List Hp := (p.hopsL l q tree at_).filter (p.lastF at_ node)
def Pln.lastH (p : Pln) (l : List Bk) (q : Req) (tree at_ : List Int) (node : Int) : Hp := minBy (p.lastC at_) (p.lastL l q tree at_ node)
def LRl (p : Pln) (l : List Bk) (q : Req) (tree T : List Int) (node : Int) (Bl : Nat) (W1 : World) (B : Nat) (pre : List (HopM p l q tree T)) (W : World) : Prop :=
 ∃ u, Blk W Bl 178 #[u] /\ Owns EHp W B 94 u ((unM pre).filter (p.lastF T node)) /\ Ext W1 W /\ B <= W.heap.size
theorem LRl.ext {p : Pln} {l : List Bk} {q : Req} {tree T : List Int} {node : Int} {Bl : Nat} {W1 : World} {B : Nat} {pre : List (HopM p l q tree T)} {W W' : World} (h : LRl p l q tree T node Bl W1 B pre W) (hb : Ext W W') : LRl p l q tree T node Bl W1 B pre W' := by
 obtain ⟨u, h1, h2, h3, h4⟩ := h
 exact ⟨u, h1.ext hb, h2.ext hb, h3.trans hb, Nat.le_trans h4 hb.size⟩
theorem lrl_own {p : Pln} {l : List Bk} {q : Req} {tree T : List Int} {node : Int} {Bl : Nat} {W1 : World} {B : Nat} (hB : W1.heap.size <= B) : OwnFrom B (LRl p l q tree T node Bl W1 B) := by
 intro pre X Y row hs hg hr
 obtain ⟨u, h1, h2, h3, h4⟩ := hs
 exact ⟨u, h1.keptc hg (fun r e => (hr r e).2), h2.keptc hg (fun r e => (hr r e).2), h3.keptb hg (fun r e => Nat.le_trans hB (hr r e).1), Nat.le_trans h4 hg.size⟩
theorem wpListIn_pushm {α : Type} {E : Elt α} {F : Fence} {n : Nat} {P : Program} {w : World} {l : List α} {ops : Array Oper} {rest : List Oper} {o : Oper} {a : Act} {Q : Exit -> Act -> World -> Prop} (hgd : o.guard = none) (s x : Operand) (t : TypeId)
 (ho : o.op = .call { callee := .builtin .append, args := #[s, x], argTypes := #[t, t] })
 (base : Nat) (e : TypeId) (i : TypeInfo) (z : Value) (bytes : Nat) (ht : P.underlying t = some (.slice e)) (hi : P.info? e = some i) (hz : i.zero = some z)
 (hsize : i.size = E.size) (hby : i.bytes = bytes) (hzs : z.cells.size = E.size)
 (v : Value) (hs : a.eval s = v) (hown : Owns E w base e v l)
 (g : Nat) (y : α) (hx : a.eval x = .slice (some ⟨g, 0, none⟩) 1 1) (hy : Blk w g e (E.cells y).toArray)
 (h63 : l.length + 1 <= maxLen) (hbytes : (l.length + 1) * bytes <= 140737488355328) (hbase : base <= w.heap.size)
 (h : ∀ v' w', Owns E w' base e v' (l ++ [y]) -> w.grownBy w' v.ownBlock -> (v'.ownBlock = v.ownBlock ∨ v'.ownBlock = some w.heap.size) -> wpListIn F n P ops Q rest (a.put o.dst v') w') : wpListIn F n P ops Q (o :: rest) a w := by
 refine wpListIn_plain hgd fun K hK' => ?_
 obtain ⟨v', w', hrun, h2, h3, h4⟩ := run_append_any (P := P) w base t o.type e i z E.size bytes ht hi hz hsize hby hzs E.pos v l.length (E.all l) hown w.heap.size (some ⟨g, 0, none⟩) 1 1 (E.cells y) (reads_one hy) (E.one y) h63 hbytes hbase
 unfold Oper.wpIn
 refine ⟨?_, ?_⟩
 ·simp [Oper.about, ho, resolve, Target.leads, Sem.run_pure]
 ·rw [Oper.semAt_plain F _ _ (by rw [ho]; intro c hc'; cases hc')]
  simp only [execOp, ho, resolve, invoke, builtin, Sem.run_bind, Sem.run_pure, Result.andThen_ok, List.map_toArray, List.map_cons, List.map_nil, hs, hx, hrun]
  exact hK' _ _ (h v' w' (by
   unfold Owns
   rw [E.all_append, List.length_append]
   simpa [Elt.all] using h2) h3 h4)
theorem keeps_own {α : Type} {E : Elt α} {w w' : World} {base : Nat} {e : TypeId} {v : Value} {l : List α} (ho : Owns E w base e v l) (hg : w.grownBy w' v.ownBlock) : KeepsOthers w w' :=
 ⟨hg.size, fun k o hk hc => (hg.block k (Array.getElem?_eq_some_iff.1 hk).1 (fun e' => by
  rcases ho.2 with ⟨rfl, _⟩ | ⟨g, cap, cur, rfl, _, hh, _⟩
  ·cases e'
  ·injection e' with e'
   subst e'
   rw [hh] at hk; cases hk; cases hc)).trans hk⟩
theorem KpY.grown {n a b : Nat} {W W' : World} {row : Option Nat} (hn : n <= W.heap.size) (h : W.grownBy W' row) (hr : ∀ r, row = some r -> n <= r) : KpY n a b W W' :=
 ⟨h.os, h.tape, h.output, h.size, fun k hk _ _ => h.block k (by omega) (fun e => by have := hr k e.symm; omega)⟩
theorem lrl_put {p : Pln} {l : List Bk} {q : Req} {tree T : List Int} {node : Int} {Bl : Nat} {W1 : World} {B : Nat} {pre : List (HopM p l q tree T)} {x : HopM p l q tree T} {W wq w6 : World} {u v : Value} {y : Hp}
 (k1 : Blk W Bl 178 #[u]) (o1 : Owns EHp W B 94 u ((unM pre).filter (p.lastF T node))) (hE : Ext W1 W) (hB : B <= W.heap.size) (hwq : Ext W wq) (h1 : W1.heap.size <= Bl) (h2 : Bl < B)
 (hy : x.1 = y) (hf : p.lastF T node x.1 = true) (hv : Owns EHp w6 B 94 v (((unM pre).filter (p.lastF T node)) ++ [y])) (hg : (wq.alloc (.cells (EHp.cells y).toArray 94)).grownBy w6 u.ownBlock) :
 KeepsFrom B W (w6.setCell ⟨Bl, 0, none⟩ v) /\ KpY B Bl Bl W (w6.setCell ⟨Bl, 0, none⟩ v) /\ LRl p l q tree T node Bl W1 B (pre ++ [x]) (w6.setCell ⟨Bl, 0, none⟩ v) := by
 have ha : Ext W (wq.alloc (.cells (EHp.cells y).toArray 94)) := hwq.alloc _
 have oa := o1.ext ha
 have ka := k1.ext ha
 have hk : KeepsOthers W (w6.setCell ⟨Bl, 0, none⟩ v) := (ha.keeps.trans (keeps_own oa hg)).trans (KeepsOthers.setCell _ _ _)
 have hBu : ∀ r, u.ownBlock = some r -> B <= r := fun r e => (o1.block e).1
 have e : (unM (pre ++ [x])).filter (p.lastF T node) = (unM pre).filter (p.lastF T node) ++ [y] := by
  rw [unM_snoc, List.filter_append, show List.filter (p.lastF T node) [x.1] = [x.1] by simp [hf], hy]
 have k6 := ka.kept hg (fun e' => by have := hBu _ e'.symm; omega)
 refine ⟨hk.from _, ((KpY.of_ext hB ha).trans (KpY.grown (Nat.le_trans hB ha.size) hg hBu)).setB _ _, v, k6.set0 _, ?_, ?_, Nat.le_trans hB hk.size⟩
 ·rw [e]
  exact hv.kept (grown_setCell (World.grownBy.refl w6 (some Bl)) 0 _) (fun g hgg e' => by injection e' with e'; have := (hv.block hgg).1; omega)
 ·have hx6 : Ext W1 w6 := ext_grown (hE.trans ha) oa (by have := hE.size; omega) hg
  exact hx6.setCell h1 _
theorem lrl_same {p : Pln} {l : List Bk} {q : Req} {tree T : List Int} {node : Int} {Bl : Nat} {W1 : World} {B : Nat} {pre : List (HopM p l q tree T)} {x : HopM p l q tree T} {W wq : World} (h : LRl p l q tree T node Bl W1 B pre W) (hwq : Ext W wq) (hf : p.lastF T node x.1 = false) :
 KeepsFrom B W wq /\ KpY B Bl Bl W wq /\ LRl p l q tree T node Bl W1 B (pre ++ [x]) wq := by
 obtain ⟨u, h1, h2, h3, h4⟩ := h
 have e : (unM (pre ++ [x])).filter (p.lastF T node) = (unM pre).filter (p.lastF T node) := by
  rw [unM_snoc, List.filter_append]
  simp [hf]
 exact ⟨hwq.keeps.from _, KpY.of_ext h4 hwq, u, h1.ext hwq, by rw [e]; exact h2.ext hwq, h3.trans hwq, Nat.le_trans h4 hwq.size⟩
theorem lastL_in {p : Pln} {l : List Bk} {q : Req} {tree at_ : List Int} {node : Int} : ∀ h ∈ p.lastL l q tree at_ node, InC p h := fun h hm => by
 have h1 := (List.mem_filter.1 hm).1
 obtain ⟨i, f⟩ := HopP.facts (hopsK_mem (Nat.le_refl _) h1)
 have := f.lt
 unfold InC
 rw [f.con]
 omega
set_option maxRecDepth 100000 in
set_option maxHeartbeats 4000000 in
theorem last_any (Aq : Option Addr) (cq : Nat) (Ac : Option Addr) (cc : Nat) (p : Pln) (Al : Option Addr) (cl : Nat) (l : List Bk) (Ah : Option Addr) (nh ch : Nat) (q : Req) (tree at_ : List Int) (node : Int) (w : World) (h : PlnRd w Aq cq Ac cc p) (hbk : Rd EBk w Al l) (h0 : p.bkChk l = 0) (hf : fineR p q = true) (htl : tree.length = 16) (hal : at_.length = 16) (hnd : 0 <= node /\ node < 16) (hne : p.lastL l q tree at_ node ≠ []) :
 Calls Tryz.prog 83 #[.agg #[.slice Aq p.quo.length cq, .slice Ac p.cons.length cc, .slice Al l.length cl, .slice Ah nh ch], q.val, .agg (arrV tree), .agg (arrV at_), .int .i64 node] w fun e w' => e = .returned (.agg #[.int .i64 (p.lastH l q tree at_ node).con, .int .i64 (p.lastH l q tree at_ node).beg, .int .i64 (p.lastH l q tree at_ node).en, .int .i64 (p.lastH l q tree at_ node).arr]) /\ Ext w w' := by
 obtain ⟨i0, hi0, hz0, hz1, hz2⟩ := info_parts info_hopm
 obtain ⟨W0, hW0, hB0, hkt, hkq, hl0, hlq⟩ := box2 w #[.slice Aq p.quo.length cq, .slice Ac p.cons.length cc, .slice Al l.length cl, .slice Ah nh ch] q.cells 83 85
 simp only [Req.cells] at hW0 hkq
 obtain ⟨W9, hW9, hB9, hkr, hlr⟩ := box1 W0 (arrV tree) 175
 obtain ⟨W8, hW8, hB8, hka, hla⟩ := box1 W9 (arrV at_) 175
 obtain ⟨W7, hW7, hB7, hkn, hln⟩ := box1 W8 #[.int .i64 node] 3
 obtain ⟨W6, hW6, hB6, hkz, hlz⟩ := box1 W7 #[.int .i64 0, .int .i64 0, .int .i64 0, .int .i64 0] 94
 obtain ⟨W5, hW5, hB5, hkf, hlf⟩ := box1 W6 #[.func (.func 162) #[] #[.pointer (some ⟨w.heap.size, 0, none⟩)]] 271
 obtain ⟨wb, hwb, hBb, hkl, hll⟩ := box1 W5 #[.slice none 0 0] 178
 have x5 := hB5.trans hBb
 have x6 := hB6.trans x5
 have x7 := hB7.trans x6
 have x8 := hB8.trans x7
 have x9 := hB9.trans x8
 have hE1 := hB0.trans x9
 have ktb := hkt.ext x9
 have kqb := hkq.ext x9
 have krb := hkr.ext x8
 have kab := hka.ext x7
 have knb := hkn.ext x6
 have kzb := hkz.ext x5
 have kfb := hkf.ext hBb
 have hfin := Lib.hid (show p.lastH l q tree at_ node = minBy (p.lastC at_) (p.lastL l q tree at_ node) from rfl)
 have t1 := ktb.cell
 have t2 := ktb.lt
 have t3 := kqb.cell
 have t4 := kqb.lt
 have hho := fun w => mhops_any (.slice Aq p.quo.length cq) (.slice Ac p.cons.length cc) (.slice Al l.length cl) (.slice Ah nh ch) q tree at_ w
 unfold Req.val at hho ⊢
 refine (callsIn_wide (n := 5)).1 ?_
 refine callsIn_of_wp_marks Tryz.func83 rfl trivial ?_ rfl
 refine wpIn_wide.2 ?_
 refine Code.wp_mono NoPanic.imp ?_
 simp only [Tryz.ntmps83, List.size_toArray, List.length_cons, List.length_nil, Nat.reduceAdd, Nat.reduceSub, Array.replicate_succ, Array.replicate_zero, List.push_toArray, List.append_toArray, List.nil_append, List.cons_append]
 go_wp2_with (refine wpList_load16 rfl rfl rfl (by assumption) (by assumption) ?_)
 clear hW0 hW9 hW8 hW7 hW6 hW5 hwb
 refine (hho _).mono ?_
 clear hho
 rintro e w4 ⟨rfl, hb4, hs4, z1, z2, z3, z4⟩
 have HF := Lib.hid hf
 have H0 := Lib.hid h0
 have hqo := (fineR_of HF.out).2
 simp only [Req.okB, decide_eq_true_eq] at hqo
 have hqs : 1 <= q.size /\ q.size <= 65536 := by omega
 have Hqs := Lib.hid hqs
 have Hne := Lib.hid hne
 have hE4 := hE1.trans hb4
 have s0 := hB0.size
 have s9 := hB9.size
 have s8 := hB8.size
 have s7 := hB7.size
 have s6 := hB6.size
 have s5 := hB5.size
 have sb := hBb.size
 clear hqo hqs t1 t2 t3 t4 hf h0 hne
 go_wp2_with fail
 refine (wpIn_wide (n := 5)).1 ?_
 refine wpIn_rangeFunc_ownH rfl (by omega) (gf := 243) (lb := #[.pointer (some ⟨wb.heap.size, 0, none⟩), .pointer (some ⟨wb.heap.size + 3, 0, none⟩), .pointer (some ⟨wb.heap.size + 2, 0, none⟩), .pointer (some ⟨wb.heap.size + 1, 0, none⟩)]) rfl trivial (enters_of Tryz.func243 (by kernel_rfl) rfl)
  (mhops_stops wb.heap.size (wb.heap.size + 3) (wb.heap.size + 2) (wb.heap.size + 1) w4.heap.size W5.heap.size W5.heap.size Aq cq Ac cc p Al cl l Ah nh ch q tree at_ w w4
   ⟨h, hbk, H0.out, HF.out, htl, hal, hE4, by omega, by omega, by omega, Nat.le_refl _, z1, z4, z3, z2, ⟨by omega, by omega, by omega⟩, ⟨by omega, by omega, by omega⟩, ⟨by omega, by omega, by omega⟩, ⟨by omega, by omega, by omega⟩⟩)
  KpY.trans (fun W l o o' hl _ _ _ => KpY.put W l o' hl) (Below.refl _ _) (fun _ => rfl)
  (LRl p l q tree at_ node W5.heap.size W5 w4.heap.size) (fun _ _ _ => False) (lrl_own (by omega)) (fun _ _ _ _ _ hs _ _ => hs)
  ⟨_, hkl.ext hb4, Owns.none_ _ _, hBb.trans hb4, Nat.le_refl _⟩
  (fun x a' W => ∃ Bx, w4.heap.size <= Bx /\ Blk W Bx 94 #[.int .i64 x.1.con, .int .i64 x.1.beg, .int .i64 x.1.en, .int .i64 x.1.arr] /\ a' = { tmps := #[.agg #[.slice Aq p.quo.length cq, .slice Ac p.cons.length cc, .slice Al l.length cl, .slice Ah nh ch], .agg #[.int .i64 q.src, .int .i64 q.dst, .int .i64 q.size, .int .i64 q.ready, .int .i64 q.dead, .int .i64 q.prio, .bool q.cust], .agg (arrV tree), .agg (arrV at_), .int .i64 node, .pointer (some ⟨w.heap.size, 0, none⟩), .pointer (some ⟨w.heap.size + 1, 0, none⟩), .pointer (some ⟨W0.heap.size, 0, none⟩), .pointer (some ⟨W9.heap.size, 0, none⟩), .pointer (some ⟨W8.heap.size, 0, none⟩), .pointer (some ⟨W7.heap.size, 0, none⟩), .pointer (some ⟨W6.heap.size, 0, none⟩), .pointer (some ⟨W5.heap.size, 0, none⟩), .pointer (some ⟨Bx, 0, none⟩), .func (.func 162) #[] #[.pointer (some ⟨w.heap.size, 0, none⟩)], .agg #[.slice Aq p.quo.length cq, .slice Ac p.cons.length cc, .slice Al l.length cl, .slice Ah nh ch], .agg #[.int .i64 q.src, .int .i64 q.dst, .int .i64 q.size, .int .i64 q.ready, .int .i64 q.dead, .int .i64 q.prio, .bool q.cust], .agg (arrV tree), .agg (arrV at_), .func (.func 243) #[] #[.pointer (some ⟨wb.heap.size, 0, none⟩), .pointer (some ⟨wb.heap.size + 3, 0, none⟩), .pointer (some ⟨wb.heap.size + 2, 0, none⟩), .pointer (some ⟨wb.heap.size + 1, 0, none⟩)], .agg #[.int .i64 x.1.con, .int .i64 x.1.beg, .int .i64 x.1.en, .int .i64 x.1.arr], undef, undef, undef, undef, undef, undef, undef, undef, undef, undef, undef, undef, undef, undef, undef, undef, undef, undef, undef, undef, undef, undef, undef, undef, undef], defers := [] })
  (fun x a' s X Y row hs hg hr => by obtain ⟨Bx, z1, z2, z3⟩ := hs; exact ⟨Bx, z1, z2.keptc hg (fun r e => (hr r e).2), z3⟩) ?assign ?body ?done ?stop
 case assign =>
  rintro li pre x W K hi hK
  have hBW : w4.heap.size <= W.heap.size := by obtain ⟨_, _, _, _, z⟩ := hi; exact z
  simp only [hopM]
  gi_wp2
  exact hK _ _ ((KeepsOthers.alloc _ _).from _) (KpY.of_ext hBW ((Ext.refl W).alloc _)) (hi.ext ((Ext.refl W).alloc _)) ⟨W.heap.size, hBW, Blk.new _ _ _, rfl⟩
 case body =>
  rintro li pre x a' W hl ⟨rr, hrr⟩ ⟨u, q1, q2, q3, q5⟩ ⟨Bx, b1, kx, rfl⟩ hlen
  obtain ⟨i, hif⟩ := HopP.facts x.2
  have hcon := hif.con
  have hokk := hif.okk H0.out Hqs.out
  unfold HopOk at hokk
  have hgc : gc p.cons (i : Int) = p.cons[i]'hif.lt := gc_get (i := (i : Int)) (by have := hif.lt; omega)
  rw [hcon] at hokk
  have hxW : Ext w W := ((hB0.trans (hB9.trans (hB8.trans (hB7.trans (hB6.trans hB5))))).trans q3)
  obtain ⟨b, o, rfl, hb, c0, c1, c2, c3, c4, c5, c6⟩ := (h.c.ext hxW).con hif.lt
  rw [<- hgc] at c0 c1 c2 c3 c4 c5 c6
  have hcm := h.cm
  have hilt := hif.lt
  have HFil := Lib.hid (show (unM (pre ++ [x])).filter (p.lastF at_ node) = if p.lastF at_ node x.1 = true then (unM pre).filter (p.lastF at_ node) ++ [x.1] else (unM pre).filter (p.lastF at_ node) by
   rw [unM_snoc, List.filter_append]
   by_cases hh : p.lastF at_ node x.1 = true <;> simp [hh])
  have HFv := Lib.hid (show p.lastF at_ node x.1 = ((gc p.cons (i : Int)).dst == node && x.1.arr == gi at_ node) by unfold Pln.lastF; rw [hcon])
  have hfl : ((unM pre).filter (p.lastF at_ node)).length <= 65 := by
   have h1 := List.length_filter_le (p.lastF at_ node) (unM pre)
   rw [unM_len] at h1; omega
  obtain ⟨c, hc⟩ : ∃ c, gc p.cons (i : Int) = c := ⟨_, rfl⟩
  rw [hc] at HFv c0 c1 c2 c3 c4 c5 c6 hokk
  clear hc hgc hif
  rw [hcon] at kx ⊢
  have xW5 : Ext W5 W := q3
  have kt5 := (hkt.ext (hB9.trans (hB8.trans (hB7.trans (hB6.trans hB5))))).ext q3
  have ka5 := (hka.ext (hB7.trans (hB6.trans hB5))).ext q3
  have kn5 := (hkn.ext (hB6.trans hB5)).ext q3
  have l1 := kt5.cell
  have l2 := kt5.lt
  have l3 := kx.cell
  have l4 := kx.lt
  have eN : ((node.toNat : Nat) : Int) = node := by omega
  have l5 := (ka5.cell node.toNat).trans (arrV_get (by omega))
  rw [eN] at l5
  have l6 := ka5.lt
  have l8 := kn5.cell
  have l9 := kn5.lt
  have l10 := q1.cell
  have l11 := q1.lt
  have hd0 := hokk.1
  have hd1 := hokk.2.1
  have hnd0 := hnd.1
  have hnd1 := hnd.2
  have hfn : ∀ k, Fence.wide.fn k := fun _ => trivial
  have hmix : Tryz.prog.follows .mixedOrders = true := by kernel_rfl
  obtain ⟨tv, htv⟩ : ∃ tv, gi at_ node = tv := ⟨_, rfl⟩
  rw [htv] at l5 HFv
  clear htv eN hokk
  obtain ⟨Au, cu, rfl, hRu⟩ := q2.form
  have hsz := q3.size
  have hwq4 := hb4.size
  by_cases hn : c.dst = node
  ·have dn : (c.dst == node) = true := by simpa using hn
   by_cases ha : x.1.arr = tv
   ·have da : (x.1.arr == tv) = true := by simpa using ha
    have Hff := Lib.hid (show p.lastF at_ node x.1 = true by rw [HFv.out, dn, da]; rfl)
    have Hxe := Lib.hid (show x.1 = (⟨i, x.1.beg, x.1.en, x.1.arr⟩ : Hp) by rw [<- hcon])
    have hput := fun wq w6 v (hwq : Ext W wq) hv hg => lrl_put (y := (⟨i, x.1.beg, x.1.en, x.1.arr⟩ : Hp)) (wq := wq) (w6 := w6) (v := v) q1 q2 q3 q5 hwq (Nat.le_refl _) (show W5.heap.size < w4.heap.size by omega) Hxe.out Hff.out hv hg
    have Hput := Lib.hid hput
    clear hput hn ha hcon
    gi_wp2
    refine wpIn_region_quiet_round rfl (by kernel_rfl) (by kernel_rfl) (by kernel_rfl) ?_
    repeat (gi_big_quiet_step (fail))
    refine wpQuietIn_nil ?_
    intro wq hwq
    replace hwq := quiet_drew hwq
    have r2 := kx.ext hwq
    have r3 := q1.ext hwq
    have r4 := q2.ext hwq
    have r5 := r2.cell
    have r6 := r2.lt
    have r7 := r3.cell
    have r8 := r3.lt
    have hwqs := hwq.size
    clear l1 l3 l5 l8 l10 c0 c1 c2 c3 c4 c5 c6
    gi_wp2_with (gi_at_builtin; refine wpListIn_pushm rfl (.tmp 39) (.tmp 41) _ (by rfl) w4.heap.size 94 i0 _ 32 Tryz.underlying178 hi0 hz0 hz1 hz2 (by rfl) (.slice Au ((unM pre).filter (p.lastF at_ node)).length cu) (by rfl) (r4.ext ((Ext.refl _).alloc _)) wq.heap.size (⟨i, x.1.beg, x.1.en, x.1.arr⟩ : Hp) (by rfl) (Blk.new wq _ _) (by simp only [maxLen]; omega) (by omega) (by simp; omega) ?_; intro v6 w6 hv6 hg6 hat6; have k6 := Blk.kept (r3.ext ((Ext.refl wq).alloc _)) hg6 (fun e' => by have := (q2.block e'.symm).1; omega); have m1 := k6.cell; have m2 := k6.lt; have m3 := k6.frozen; obtain ⟨A6, d6, rfl, hR6⟩ := hv6.form; simp only [List.length_append, List.length_cons, List.length_nil, Nat.zero_add] at hv6; have FIN := Lib.hid (Hput.out wq w6 _ hwq hv6 hg6))
    exact FIN.out
   ·have da : (x.1.arr == tv) = false := by simpa using ha
    have Hff := Lib.hid (show p.lastF at_ node x.1 = false by rw [HFv.out, dn, da]; rfl)
    clear hn ha hcon
    gi_wp2
    refine wpIn_region_quiet_round rfl (by kernel_rfl) (by kernel_rfl) (by kernel_rfl) ?_
    repeat (gi_big_quiet_step (fail))
    refine wpQuietIn_nil ?_
    intro wq hwq
    replace hwq := quiet_drew hwq
    have FIN := Lib.hid (lrl_same (x := x) (Bl := W5.heap.size) ⟨_, q1, q2, q3, q5⟩ hwq Hff.out)
    gi_wp2
    exact FIN.out
  ·have dn : (c.dst == node) = false := by simpa using hn
   have Hff := Lib.hid (show p.lastF at_ node x.1 = false by rw [HFv.out, dn]; rfl)
   clear hn hcon
   gi_wp2
   refine wpIn_region_quiet_round rfl (by kernel_rfl) (by kernel_rfl) (by kernel_rfl) ?_
   repeat (gi_big_quiet_step (fail))
   refine wpQuietIn_nil ?_
   intro wq hwq
   replace hwq := quiet_drew hwq
   have FIN := Lib.hid (lrl_same (x := x) (Bl := W5.heap.size) ⟨_, q1, q2, q3, q5⟩ hwq Hff.out)
   gi_wp2
   exact FIN.out
 case done =>
  rintro D ys W hDD hS ⟨u, q1, q2, q3, q5⟩ hK
  have hlist : (unM ys).filter (p.lastF at_ node) = p.lastL l q tree at_ node := by rw [hS]; rfl
  rw [hlist] at q2
  obtain ⟨Au, cu, rfl, hRu⟩ := q2.form
  have hll : (p.lastL l q tree at_ node).length <= 64 := by
   have h1 := List.length_filter_le (p.lastF at_ node) (p.hopsL l q tree at_)
   have h2 := hopsK_len (p := p) (l := l) (q := q) (tree := tree) (at_ := at_) p.cons.length
   have h3 := (Pln.ok_of (Pln.bkChk_ok H0.out).1).m64
   unfold Pln.lastL
   unfold Pln.hopsL at h1 ⊢
   omega
  have kt5 := (hkt.ext (hB9.trans (hB8.trans (hB7.trans (hB6.trans hB5))))).ext q3
  have ka5 := (hka.ext (hB7.trans (hB6.trans hB5))).ext q3
  have kz5 := (hkz.ext hB5).ext q3
  have kf5 := hkf.ext q3
  have hxW : Ext w W := ((hB0.trans (hB9.trans (hB8.trans (hB7.trans (hB6.trans hB5))))).trans q3)
  have hmf := minFunc_any W9.heap.size W6.heap.size w.heap.size _ Aq cq Ac cc p _ _ at_ Au cu (p.lastL l q tree at_ node) W (h.ext hxW) (Pln.ok_of (Pln.bkChk_ok H0.out).1) hal kt5 ka5 kf5 hRu (by omega) Hne.out lastL_in
  have hds := (DSx.nil w4.heap.size W5.heap.size W).cons hDD (by have := hb4.size; omega) hK
  have l10 := q1.cell
  have l11 := q1.lt
  have hl11 : W5.heap.size < W.heap.size := by have := q3.size; omega
  go_wp2_with fail
  refine hmf.mono ?_
  clear hmf
  rintro e w5 ⟨rfl, hb5⟩
  have kz6 := kz5.ext hb5
  have hds5 := hds.ext hb5
  have u0 := kz6.cell
  have u1 := kz6.lt
  have u2 := kz6.frozen
  have hx5 := hxW.trans hb5
  rw [<- hfin.out]
  obtain ⟨m, hm⟩ : ∃ m, p.lastH l q tree at_ node = m := ⟨_, rfl⟩
  have HM := Lib.hid hm
  rw [hm]
  clear hm
  obtain ⟨w8, hw8, hz8, hE8, hg8⟩ : ∃ w8, World.setCells w5 W7.heap.size 0 [.int .i64 m.con, .int .i64 m.beg, .int .i64 m.en, .int .i64 m.arr] = w8 /\ Blk w8 W7.heap.size 94 #[.int .i64 m.con, .int .i64 m.beg, .int .i64 m.en, .int .i64 m.arr] /\ Ext w w8 /\ w5.grownBy w8 (some W7.heap.size) :=
   ⟨_, rfl, kz6.setCells_ [.int .i64 m.con, .int .i64 m.beg, .int .i64 m.en, .int .i64 m.arr] 0, ext_setCells hx5 (by omega) 0 _, grown_setCells _ (World.grownBy.refl _ _) 0⟩
  simp only [World.setCells, Nat.zero_add, Nat.reduceAdd] at hw8
  go_wp2_with fail
  have hds8 := hds5.keeps (keeps_grown hg8 kz6)
  show LeavesInM _ _ _ _ _ _ [mkD D] .returning w8
  refine hds8.leaves ?_
  intro w' hw'
  have hfn := hw' (fun W => Blk W W7.heap.size 94 #[.int .i64 m.con, .int .i64 m.beg, .int .i64 m.en, .int .i64 m.arr] /\ Ext w W)
   (fun s X Y row hs hg hr => ⟨hs.1.keptc hg (fun r e => (hr r e).2), hs.2.keptb hg (fun r e => by have := (hr r e).1; omega)⟩) ⟨hz8, hE8⟩
  exact ⟨_, results_cell_row rfl _ _ _ _ _ _ _ rfl hfn.1 Tryz.underlying94 rfl (by kernel_rfl), by rw [HM.out], hfn.2⟩
 case stop =>
  rintro D c pre W _ _ h _
  exact h.elim
end
section
open Go.RowKit Go.Shelf
attribute [local go_sem] Oper.semAt_some
structure PredBr (w0 : World) (f : FuncId) (cs : Array Value) (p : Br -> Bool) (l : List Br) : Prop where
 enters : ∀ args w, (callFunc f args).run Tryz.prog w = .ok (.enter f args) w
 says : ∀ (x : Br) (w : World), x ∈ l -> Ext w0 w -> Calls Tryz.prog f (#[.agg #[.int .i64 x.con, .int .i64 x.beg, .int .i64 x.en, .int .i64 x.arr, .int .i64 x.par]] ++ cs) w fun e w' => e = .returned (.bool (p x)) /\ Ext w w'
set_option maxHeartbeats 2000000 in
theorem indexBr_any (A : Option Addr) (c : Nat) (l : List Br) (f : FuncId) (cs : Array Value) (p : Br -> Bool) (w : World) (hA : Rd EBr w A l) (hmax : l.length <= 1000000) (hp : PredBr w f cs p l) :
 Calls Tryz.prog 166 #[.slice A l.length c, .func (.func f) #[] cs] w fun e w' => e = .returned (.int .i64 (findI p l)) /\ Ext w w' := by
 have hen := hp.enters
 go_enter Tryz.func166, Tryz.ntmps166
 go_wp2
 go_loopw [8] (fun i wr => ∃ k : Nat, k <= l.length /\ i = .int .i64 k /\ Hid ((l.take k).any p = false) /\ Ext w wr) (fun i _ => l.length - (intOf i).toNat)
 case atStart => exact ⟨0, Nat.zero_le _, rfl, Lib.hid rfl, Ext.refl _⟩
 case round =>
  obtain ⟨k, hk, rfl, hu, hN⟩ := hrel
  by_cases hlt : k < l.length
  ·obtain ⟨b, o, rfl, hb, c0, c1, c2, c3, c4⟩ := (hA.ext hN).br hlt
   have hmem : l[k] ∈ l := List.getElem_mem hlt
   generalize hxe : l[k] = x at *
   have Hx := Lib.hid hxe
   clear hxe
   have hsay := hp.says x _ hmem hN
   clear hmem
   cases hpx : p x
   all_goals
    go_wp2_with fail
    refine hsay.mono ?_
    rintro e w1 ⟨rfl, hb1⟩
    rw [hpx]
   ·go_wp2
    go_roundw
    case rel => exact ⟨k + 1, by omega, by go_num, Lib.hid (any_step hlt Hx.out hu.out hpx), hN.trans hb1⟩
    case measure => simp [intOf]; omega
   ·go_wp2
    go_ret
    refine ⟨ret_i64 ?_, hN.trans hb1⟩
    exact (findI_at hlt hu.out (by rw [Hx.out]; exact hpx)).symm
  ·go_wp2
   go_ret
   refine ⟨ret_i64 ?_, hN⟩
   have e : l.take k = l := List.take_of_length_le (by omega)
   have h := hu.out
   rw [e] at h
   exact (findI_nope h).symm
def InB (p : Pln) (b : Br) : Prop := 0 <= b.con /\ b.con < p.cons.length
def Pln.leads (p : Pln) (node : Int) (b : Br) : Bool := (gc p.cons b.con).dst == node
def Pln.lead (p : Pln) (l : List Br) (node : Int) : Int := findI (p.leads node) l
set_option maxHeartbeats 2000000 in
theorem pred_lead {w0 : World} {Bp Bn : Nat} {Aq : Option Addr} {cq : Nat} {Ac : Option Addr} {cc : Nat} {p : Pln} {node : Int} {l : List Br} (hrd : PlnRd w0 Aq cq Ac cc p) (kp : Blk w0 Bp 68 #[.slice Aq p.quo.length cq, .slice Ac p.cons.length cc]) (kn : Blk w0 Bn 3 #[.int .i64 node]) (hl : ∀ b ∈ l, InB p b) :
 PredBr w0 167 #[.pointer (some ⟨Bp, 0, none⟩), .pointer (some ⟨Bn, 0, none⟩)] (p.leads node) l where
 enters := enters_of Tryz.func167 (by kernel_rfl) rfl
 says := fun x w hx hw => by
  obtain ⟨W, hW, hB, hk, hlt⟩ := box1 w #[.int .i64 x.con, .int .i64 x.beg, .int .i64 x.en, .int .i64 x.arr, .int .i64 x.par] 96
  have hin := hl x hx
  have hcl : x.con.toNat < p.cons.length := by unfold InB at hin; omega
  obtain ⟨h0, h1⟩ := hin
  have hcm := hrd.cm
  obtain ⟨bc, oc, rfl, hbc, j0, j1, j2, j3, j4, j5, j6⟩ := ((hrd.c).ext (hw.trans hB)).con hcl
  have HV := Lib.hid (show p.leads node x = (p.cons[x.con.toNat].dst == node) by unfold Pln.leads; rw [gc_get hcl])
  generalize p.cons[x.con.toNat] = c at *
  have s0 := hk.cell
  have s1 := (kp.ext (hw.trans hB)).cell
  have s2 := hk.lt
  have s3 := (kp.ext (hw.trans hB)).lt
  have s4 := (kn.ext (hw.trans hB)).cell
  have s5 := (kn.ext (hw.trans hB)).lt
  show Calls Tryz.prog 167 #[_, _, _] w _
  go_enter Tryz.func167, Tryz.ntmps167
  go_wp2_with fail
  clear hW
  have hN := Near.refl W
  have hC := hN.2
  have hq := quiet_near hN
  refine wp_region_quiet_below (by kernel_rfl) (by kernel_rfl) ?_
  repeat (first | go_big_quiet_skip | (go_big_quiet_want; go_big_quiet_op; first | go_big_quiet_on | (apply Exists.intro; refine ⟨fun _ => ?_, ?_⟩; (focus (first | fail)); go_big_quiet_on)))
  refine wpQuiet_nil ?_
  intro w1 hw1
  clear hq
  replace hw1 := quiet_ext hw1
  replace hN := hN.step hw1
  have hC := hN.2
  go_wp2
  go_ret
  exact ⟨by rw [HV.out]; rfl, hB.trans hN.1⟩
set_option maxHeartbeats 1000000 in
theorem leading_any (Aq : Option Addr) (cq : Nat) (Ac : Option Addr) (cc : Nat) (p : Pln) (A : Option Addr) (c : Nat) (l : List Br) (node : Int) (w : World) (hrd : PlnRd w Aq cq Ac cc p) (hA : Rd EBr w A l) (hmax : l.length <= 1000000) (hl : ∀ b ∈ l, InB p b) :
 Calls Tryz.prog 85 #[p.val Aq cq Ac cc, .slice A l.length c, .int .i64 node] w fun e w' => e = .returned (.int .i64 (p.lead l node)) /\ Ext w w' := by
 obtain ⟨W, hW, hB, hk, hk2, hlt, hlt2⟩ := box2 w #[.slice Aq p.quo.length cq, .slice Ac p.cons.length cc] #[.int .i64 node] 68 3
 have hi := indexBr_any A c l _ _ _ W (hA.ext hB) hmax (pred_lead (hrd.ext hB) hk hk2 hl)
 unfold Pln.val
 go_enter Tryz.func85, Tryz.ntmps85
 go_wp2_with fail
 clear hW
 refine hi.mono ?_
 rintro e w1 ⟨rfl, hb⟩
 go_wp2
 go_ret
 exact ⟨rfl, hB.trans hb⟩
abbrev BkX (l : List Hp) := { x : Nat × Hp // l[x.1]? = some x.2 }
def bkX {l : List Hp} (x : BkX l) : Array Value := #[.int .i64 x.1.1, .agg #[.int .i64 x.1.2.con, .int .i64 x.1.2.beg, .int .i64 x.1.2.en, .int .i64 x.1.2.arr]]
def unB {l : List Hp} (ys : List (BkX l)) : List Hp := ys.map (·.1.2)
theorem unB_snoc {l : List Hp} (ys : List (BkX l)) (x : BkX l) : unB (ys ++ [x]) = unB ys ++ [x.1.2] := by simp [unB]
theorem rev_drop {l : List Hp} {k : Nat} (h : k < l.length) : (l.drop k).reverse = (l.drop (k + 1)).reverse ++ [l[k]] := by
 rw [List.drop_eq_getElem_cons h, List.reverse_cons]
structure KpZ (n lo hi : Nat) (W W' : World) : Prop where
 os : W'.os = W.os
 tape : W'.tape = W.tape
 output : W'.output = W.output
 size : W.heap.size <= W'.heap.size
 block : ∀ k, k < n -> (k < lo ∨ hi <= k) -> W'.heap[k]? = W.heap[k]?
theorem KpZ.refl (n lo hi : Nat) (W : World) : KpZ n lo hi W W := ⟨rfl, rfl, rfl, Nat.le_refl _, fun _ _ _ => rfl⟩
theorem KpZ.trans {n lo hi : Nat} {A B C : World} (h : KpZ n lo hi A B) (k : KpZ n lo hi B C) : KpZ n lo hi A C :=
 ⟨k.os.trans h.os, k.tape.trans h.tape, k.output.trans h.output, Nat.le_trans h.size k.size, fun i h1 h2 => (k.block i h1 h2).trans (h.block i h1 h2)⟩
theorem KpZ.of_ext {n lo hi : Nat} {W W' : World} (hn : n <= W.heap.size) (h : Ext W W') : KpZ n lo hi W W' :=
 ⟨h.os, h.tape, h.output, h.size, fun k hk _ => h.block k (by omega)⟩
theorem KpZ.put {n lo hi : Nat} (W : World) (l : Nat) (o : Obj) (hl : n <= l) : KpZ n lo hi W (W.putObj l o) :=
 ⟨rfl, rfl, rfl, by simp, fun k hk _ => World.putObj_heap_other (by omega)⟩
theorem KpZ.setCell {n lo hi : Nat} (W : World) {g : Nat} (hg : lo <= g /\ g < hi) (o : Nat) (v : Value) : KpZ n lo hi W (W.setCell ⟨g, o, none⟩ v) :=
 ⟨rfl, rfl, rfl, by simp [World.setCell], fun k _ h2 => Below.heap_setCell W ⟨g, o, none⟩ v k (by dsimp only; omega)⟩
theorem KpZ.grown {n lo hi : Nat} {W W' : World} {row : Option Nat} (hn : n <= W.heap.size) (h : W.grownBy W' row) (hr : ∀ r, row = some r -> n <= r ∨ (lo <= r /\ r < hi)) : KpZ n lo hi W W' :=
 ⟨h.os, h.tape, h.output, h.size, fun k hk h2 => h.block k (by omega) (fun e => by have := hr k e.symm; omega)⟩
theorem KpZ.blk {n lo hi : Nat} {W W' : World} (h : KpZ n lo hi W W') {g : Nat} {t : TypeId} {cs : Array Value} (hb : Blk W g t cs) (h1 : g < n) (h2 : g < lo ∨ hi <= g) : Blk W' g t cs := (h.block g h1 h2).trans hb
theorem Owns.kpz {α : Type} {E : Elt α} {n lo hi : Nat} {w w' : World} {base : Nat} {e : TypeId} {v : Value} {l : List α} (h : Owns E w base e v l) (hk : KpZ n lo hi w w') (hb : ∀ b, v.ownBlock = some b -> b < n /\ hi <= b) : Owns E w' base e v l :=
 ⟨h.1, h.2.imp id fun ⟨b, cap, cur, hv, hg, hh, r⟩ => ⟨b, cap, cur, hv, hg, (hk.block b (hb b (by rw [hv]; rfl)).1 (.inr (hb b (by rw [hv]; rfl)).2)).trans hh, r⟩⟩
set_option maxRecDepth 100000 in
set_option maxHeartbeats 4000000 in
theorem back_iter (li Bs n₁ lo hi : Nat) (A : Option Addr) (c : Nat) (l : List Hp) (W : World) (hA : Owns EHp W hi 94 (.slice A l.length c) l) (hob : ∀ b, (Value.slice A l.length c).ownBlock = some b -> b < n₁) (hmax : l.length <= 64)
 (ks : Blk W Bs 178 #[.slice A l.length c]) (bs : Bs < n₁ /\ hi <= Bs)
 (J Jx : List (BkX l) -> World -> Prop) (hJ : AbidesFrom W.heap.size J)
 (hY : ∀ pre x W, J pre W -> pre.length < 65 -> YieldAt Fence.wide 3 Tryz.prog li (bkX x) W fun e W' =>
  (e = .returned (.bool true) /\ J (pre ++ [x]) W' /\ KpZ n₁ lo hi W W') ∨ (e = .returned (.bool false) /\ Jx (pre ++ [x]) W'))
 (hj : J [] W) :
 CallsIn Fence.wide 4 Tryz.prog 165 #[.func (.yield li) #[] #[], .pointer (some ⟨Bs, 0, none⟩)] W fun e W' => (∃ v, e = .returned v) /\
  ((∃ ys, unB ys = l.reverse /\ J ys W') ∨ (∃ pre : List (BkX l), True /\ Jx pre W')) := by
 have hc := ks.cell
 have hl := ks.lt
 refine callsIn_of_wp Tryz.func165 rfl trivial ?_ rfl
 simp only [Tryz.ntmps165, List.size_toArray, List.length_cons, List.length_nil, Nat.reduceAdd, Nat.reduceSub, Array.replicate_succ, Array.replicate_zero, List.push_toArray, List.append_toArray, List.nil_append, List.cons_append]
 gi_wp2
 gi_loopw [3] (fun i wr => ∃ (k : Nat) (pre : List (BkX l)), k <= l.length /\ i = .int .i64 ((k : Int) - 1) /\ pre.length + k = l.length /\ Hid (unB pre = (l.drop k).reverse) /\ J pre wr /\ KpZ n₁ lo hi W wr) (fun i _ => (intOf i + 1).toNat)
 case atStart => exact ⟨l.length, [], Nat.le_refl _, by go_num, by simp, Lib.hid (by rw [List.drop_length]; rfl), hj, KpZ.refl _ _ _ _⟩
 case round =>
  obtain ⟨k, pre, hk, rfl, hpk, hcov, hjr, hK⟩ := hrel
  have hA2 := hA.kpz hK (fun b hb => ⟨hob b hb, (hA.block hb).1⟩)
  have ks1 := hK.blk ks bs.1 (.inr bs.2)
  have s0 := ks1.cell
  have s1 := ks1.lt
  have Hpk := Lib.hid hpk
  clear hpk hc
  cases k with
  | zero =>
    gi_wp2
    go_end0
    exact ⟨⟨_, rfl⟩, .inl ⟨pre, by rw [hcov.out]; rfl, hjr⟩⟩
  | succ m =>
    have hlt : m < l.length := by omega
    obtain ⟨b, o, rfl, hb, c0, c1, c2, c3⟩ := hA2.rd.hp hlt
    have hyg : l[m]? = some l[m] := List.getElem?_eq_getElem hlt
    have hrv := rev_drop hlt
    generalize l[m] = y at *
    obtain ⟨fn, tmps, assign, body, hy, hR⟩ := hY pre ⟨(m, y), hyg⟩ wr hjr (by have := Hpk.out; omega)
    dsimp only [bkX] at hy
    have Hrv := Lib.hid hrv
    have em : ((m + 1 : Nat) : Int) - 1 = (m : Int) := by omega
    rw [em]
    clear hrv em
    gi_wp2
    refine hR.mono ?_
    rintro e W6 (⟨rfl, hJ6, hk6⟩ | ⟨rfl, hJx6⟩)
    ·gi_wp2
     go_roundw
     case rel => exact ⟨m, _, by omega, by go_num, by simp; have := Hpk.out; omega, Lib.hid (by rw [unB_snoc, Hrv.out, hcov.out]), hJ6, hK.trans hk6⟩
     case measure => simp [intOf]
    ·gi_wp2
     refine bodyPost_ret (results_none rfl _ _ _) rfl ?_
     exact ⟨⟨_, rfl⟩, .inr ⟨_, trivial, hJx6⟩⟩
theorem back_stops (Bs n₁ lo hi : Nat) (A : Option Addr) (c : Nat) (l : List Hp) (w : World) (hA : Owns EHp w hi 94 (.slice A l.length c) l) (hob : ∀ b, (Value.slice A l.length c).ownBlock = some b -> b < n₁) (hmax : l.length <= 64)
 (ks : Blk w Bs 178 #[.slice A l.length c]) (bs : Bs < n₁ /\ hi <= Bs) :
 SeqStopsK Fence.wide 4 Tryz.prog 165 #[.pointer (some ⟨Bs, 0, none⟩)] (bkX (l := l)) (KpZ n₁ lo hi) (fun ys => unB ys = l.reverse) (fun _ => True) 65 w :=
 fun li J Jx W hW hJ _ hY hj => back_iter li Bs n₁ lo hi A c l W (hA.ext hW) hob hmax (ks.ext hW) bs J Jx hJ hY hj
set_option maxHeartbeats 400000 in
theorem back_any (A : Option Addr) (n c : Nat) (w : World) :
 Calls Tryz.prog 84 #[.slice A n c] w fun e w' =>
  e = .returned (.func (.func 165) #[] #[.pointer (some ⟨w.heap.size, 0, none⟩)]) /\ Ext w w' /\ w'.heap.size = w.heap.size + 1 /\ Blk w' w.heap.size 178 #[.slice A n c] := by
 obtain ⟨W1, hW1, hB1, hk1, hl1⟩ := box1 w #[.slice A n c] 178
 have s1 : W1.heap.size = w.heap.size + 1 := by rw [<- hW1]; simp
 have S1 := Lib.hid s1
 clear s1
 go_enter Tryz.func84, Tryz.ntmps84
 go_wp2
 go_ret
 exact ⟨rfl, hB1, S1.out, hk1⟩
end
end Go.Proofs.YtemkpimngbbpkaaGreat

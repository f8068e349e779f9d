/- TopTrees: what a tree that Grow returns is against the bookings and the journeys. · TopTrees: the walk. -/
import Derived.BigQuiet
import Derived.Test.YtemkpimngbbpkaaGreatQt20
import Derived.Test.YtemkpimngbbpkaaGreatQt23
import Derived.Test.YtemkpimngbbpkaaGreatQt30
import Derived.Test.YtemkpimngbbpkaaGreatQt34
import Derived.Test.YtemkpimngbbpkaaGreatQt46
import Derived.Test.YtemkpimngbbpkaaGreatQt49
namespace Go.Proofs.YtemkpimngbbpkaaGreat
set_option linter.unusedVariables false
set_option linter.unusedSimpArgs false
section
open Go.RowKit Go.Shelf
def GrowO (p : Pln) (bk : List Bk) (q : Req) (mem : List Int) (w : World) (e : Ending) (w' : World) : Prop :=
 ∃ Au nu cu Av nv cv k, e = .returned (.tuple #[.slice Au nu cu, .slice Av nv cv, .int .i64 k]) /\ Ext w w' /\
   (k = 0 -> ∃ t, GC p bk q /\ fineR p q = true /\ memsB p.quo.length q.src mem = true /\ GrownP p bk q mem t /\ nu = t.1.length /\ nv = mem.length /\
    Owns EBr w' w.heap.size 96 (.slice Au t.1.length cu) t.1 /\ Owns EInt w' w.heap.size 3 (.slice Av mem.length cv) (mem.map (gi t.2)))
theorem grow_own (Aq : Option Addr) (cq : Nat) (Ac : Option Addr) (cc : Nat) (p : Pln) (Al : Option Addr) (cl : Nat) (bk : List Bk) (q : Req) (Am : Option Addr) (cm : Nat) (mem : List Int) (w : World) (h : PlnRd w Aq cq Ac cc p) (hbk : Rd EBk w Al bk) (hbm : bk.length <= 1000000) (hmm : Rd EInt w Am mem) (hml : mem.length <= 1000000) :
 Calls Tryz.prog 26 #[.agg #[.slice Aq p.quo.length cq, .slice Ac p.cons.length cc, .slice Al bk.length cl, .slice none 0 0], q.val, .slice Am mem.length cm] w (GrowO p bk q mem w) := by
 have hT := tabC_any Aq cq Ac cc p Al cl bk none 0 [] w h hbk hbm Rd.nil (Nat.zero_le _)
 refine (Grow_any Aq cq Ac cc p Al cl bk none 0 0 q Am cm mem (p.tabE bk []) w h hbk hmm hml hT).mono ?_
 rintro e w' ⟨hE, hh⟩
 rcases hh with ⟨⟨hk, hf, hm⟩, r, hr, hx⟩ | ⟨hb, he⟩
 ·have G := gcOf (hT.ok hk) hf
  cases r with
  | none => exact ⟨none, 0, 0, none, 0, 0, 18, hx, hE, fun h0 => by omega⟩
  | some t =>
    obtain ⟨u, v, he, hu, hv, _⟩ := hx
    have g := grown G hf hm hr
    obtain ⟨Au, cu, rfl, hRu⟩ := hu.form
    obtain ⟨Av, cv, rfl, hRv⟩ := hv.form
    rw [List.length_map] at he hv
    exact ⟨Au, _, cu, Av, _, cv, 0, he, hE, fun _ => ⟨t, G, hf, hm, g, rfl, rfl, hu, hv⟩⟩
 ·exact ⟨none, 0, 0, none, 0, 0, 1, he, hE, fun h0 => by omega⟩
structure MemT (p : Pln) (q : Req) (t : List Br × List Int) (m : Int) : Prop where
 n0 : 0 <= m
 n1 : m < p.quo.length
 best : gi (p.arrQ q) m <= gi t.2 m
 dead : gi t.2 m <= q.dead
 row : gb (p.row q.src q.ready q.dead q.size) m = true
theorem tree_mem {p : Pln} {bk : List Bk} {q : Req} {mem : List Int} {t : List Br × List Int} (G : GC p bk q) (hf : fineR p q = true) (hm : memsB p.quo.length q.src mem = true) (g : GrownP p bk q mem t) : ∀ m ∈ mem, MemT p q t m := by
 intro m hmm
 obtain ⟨m0, m1, m2⟩ := memsB_in hm hmm
 have hn := G.n16
 obtain ⟨f2, f3⟩ := fineR_of hf
 have hok := Pln.ok_of f2
 have hL := Pln.arrQ_least hok f3
 have J := Pln.jc hok (Req.argF f3)
 have V := g.gi_.ti.vt
 have hx := g.gi_.mem m hmm
 rcases g.gi_.ti.node m0 (by omega) hx with ⟨e, _⟩ | ⟨j, hj, e1, e2⟩
 ·exact absurd e m2
 ·have hT := tree_least V J hL j hj
  have hd := (V.br j hj).dead
  rw [<- e1] at hT
  refine ⟨m0, m1, by omega, by omega, ?_⟩
  rw [Pln.row_gb _ _ _ _ _ m0 m1]
  have he : p.ear q.src m q.size q.ready = gi (p.arrQ q) m := rfl
  unfold Pln.rch
  rw [he]
  simp only [Bool.or_eq_true, Bool.and_eq_true, decide_eq_true_eq]
  right
  omega
theorem grown_for {p : Pln} {q : Req} (hf : fineR p q = true) : p.forE q.src q.ready q.size = 0 /\ p.forT q.src q.ready q.size = p.arrQ q /\ (p.arrQ q).length = p.quo.length /\ p.matE q.ready q.dead q.size = 0 /\ p.matM q.ready q.dead q.size = p.mat q.ready q.dead q.size := by
 obtain ⟨f2, f3⟩ := fineR_of hf
 have hok := Pln.ok_of f2
 have hL := Pln.arrQ_least hok f3
 have fe1 : p.forE q.src q.ready q.size = 0 := by unfold Pln.forE; rw [if_pos f2, Req.argF f3]; rfl
 have ft1 : p.forT q.src q.ready q.size = p.arrQ q := by unfold Pln.forT; rw [if_pos fe1]; rfl
 have h := f3
 simp only [Req.okB, decide_eq_true_eq] at h
 have hm : p.matE q.ready q.dead q.size = 0 := by
  unfold Pln.matE Pln.rv
  rw [if_pos f2]
  have ha : p.argR q.size [] = true := by
   simp only [Pln.argR, decide_eq_true_eq]
   exact ⟨by omega, by omega, fun x hx => by cases hx⟩
  have hw : winB q.ready q.dead = true := by unfold winB; rw [decide_eq_true_eq]; omega
  rw [ha, hw]
  rfl
 exact ⟨fe1, ft1, hL.len, hm, by unfold Pln.matM; rw [if_pos hm]⟩
def brBk (b : Br) (tic : Int) : Bk := ⟨b.con, b.beg, b.en, tic⟩
theorem tree_bk {p : Pln} {q : Req} {l : List Br} (V : VT p q l) {k : Nat} (hk : k < l.length) {tic : Int} (h0 : 0 <= tic) (h1 : tic <= 1000) : p.bkOk (brBk (gbr l k) tic) = true := by
 have b := V.br k hk
 have hr := V.req
 have hd := Con.dur_bd b.ok (show 1 <= q.size by omega) (show q.size <= 65536 by omega)
 have hfit := of_decide_eq_true b.fits
 have h1 := b.con0
 have h2 := b.con1
 have h3 := b.en
 unfold Pln.bkOk brBk
 rw [decide_eq_true_eq]
 dsimp only
 omega
theorem tree_con {p : Pln} {q : Req} {l : List Br} (V : VT p q l) {j k : Nat} (hjk : j < k) (hk : k < l.length) : (gbr l j).con ≠ (gbr l k).con := by
 intro e
 have b := V.br k hk
 have h1 := mAt_nd V k (by omega) j hjk
 have h2 : p.nd l j = p.nd l k := by unfold Pln.nd; rw [e]
 have h3 := b.new
 have h4 := (V.br j (by omega)).arr0
 rw [h2] at h1
 omega
structure BksT (p : Pln) (q : Req) (n : Nat) (l : List Br) (k : Nat) (bk : List Bk) : Prop where
 chk : p.bkChk bk = 0
 len : bk.length = n + k
 free : ∀ j, k <= j -> j < l.length -> FreeH bk (gbr l j).con (gbr l j).beg (gbr l j).en
theorem BksT.start {p : Pln} {bk : List Bk} {q : Req} {mem : List Int} {t : List Br × List Int} (G : GC p bk q) (g : GrownP p bk q mem t) : BksT p q bk.length t.1 0 bk :=
 ⟨G.bk, rfl, fun j _ hj => g.gi_.free _ (by unfold gbr; rw [List.getD_eq_getElem?_getD, List.getElem?_eq_getElem hj]; exact List.getElem_mem hj)⟩
theorem BksT.step {p : Pln} {q : Req} {n k i : Nat} {l : List Br} {bk : List Bk} {tic : Int} (V : VT p q l) (h : BksT p q n l k bk) (hk : k < l.length) (h0 : 0 <= tic) (h1 : tic <= 1000) (hn : n <= 100) (hs : BsP bk (brBk (gbr l k) tic) i) : BksT p q n l (k + 1) (bk.take i ++ brBk (gbr l k) tic :: bk.drop i) := by
 have hl := V.len
 have hlen := h.len
 have hi : i <= bk.length := hs.1
 refine ⟨ins_chk h.chk (tree_bk V hk h0 h1) (h.free k (Nat.le_refl _) hk) (by omega) hs, ?_, ?_⟩
 ·have := insB_len (b := brBk (gbr l k) tic) hi
  unfold insB at this
  omega
 ·intro j hj hjl x hx hc
  rcases insB_mem (l := bk) (i := i) hx with e | hm
  ·subst e
   exact absurd hc (tree_con V (by omega) hjl)
  ·exact h.free j (by omega) hjl x hm hc
end
section
open Go.RowKit Go.Shelf
attribute [local go_sem] Oper.semAt_some
theorem mat_at (p : Pln) {s : Nat} {r d n : Int} (hh : s < (p.mat r d n).length) : (p.mat r d n)[s] = p.row s r d n := by
 simp [Pln.mat]
theorem rd_boolT {w : World} {A : Option Addr} {l : List Bool} (h : Rd EBool w A l) {k : Nat} (hk : k < l.length) : ∃ b o, A = some ⟨b, o, none⟩ /\ b < w.heap.size /\ w.cell? ⟨b, o + k, none⟩ = some (.bool l[k]) := by
 obtain ⟨b, o, rfl, hb, hc⟩ := h.at hk
 refine ⟨b, o, rfl, hb, ?_⟩
 have := hc 0 (.bool l[k]) rfl
 simpa [EBool] using this
theorem gi_nat {l : List Int} {k : Nat} (hk : k < l.length) : gi l (k : Int) = l[k] := by simp [gi, hk]
theorem gb_nat {l : List Bool} {k : Nat} (hk : k < l.length) : gb l (k : Int) = l[k] := by simp [gb, hk]
set_option maxRecDepth 100000 in
set_option maxHeartbeats 32000000 in
theorem trees_walk (Aq : Option Addr) (cq : Nat) (Ac : Option Addr) (cc : Nat) (p : Pln) (Al : Option Addr) (cl : Nat) (ql : List Req) (Ag : Option Addr) (cg : Nat) (gs : List Gp) (w : World) (h : PlnIn w Aq cq Ac cc p) (hl : Rd EReq w Al ql) (hg : Rd EGp w Ag gs) (hgw : ∀ x ∈ gs, x.Wf w) (hll : ql.length <= maxLen) (hgl : gs.length <= maxLen) :
 Calls Tryz.prog 6 #[p.val Aq cq Ac cc, .slice Al ql.length cl, .slice Ag gs.length cg] w fun e w' => e = .returned (.bool true) /\ Ext w w' := by
 unfold maxLen at hll hgl
 obtain ⟨W1, hW1, hB1, hk1, hl1⟩ := box1 w #[.slice Aq p.quo.length cq, .slice Ac p.cons.length cc] 68
 have c1 := hk1.cell
 have c2 := hk1.lt
 have hgr := fun w => greatP_any Aq cq Ac cc p w h.le.1 h.le.2
 cases hg7 : p.gr27
 case true =>
  rw [hg7] at hgr
  unfold Pln.val at hgr ⊢
  go_enter Tryz.func6, Tryz.ntmps6
  go_wp2_with fail
  clear hW1
  refine (hgr _).mono ?_
  rintro e w2 ⟨rfl, hb2⟩
  go_wp2_with fail
  refine (awake5_any _).mono ?_
  rintro e w4 ⟨rfl, hb4⟩
  go_wp2
  go_ret
  exact ⟨rfl, (hB1.trans hb2).trans hb4⟩
 rw [hg7] at hgr
 have hrd : PlnRd w Aq cq Ac cc p /\ p.quo.length <= 6 /\ p.cons.length <= 10 := by
  simp only [Pln.gr27, decide_eq_false_iff_not] at hg7
  exact ⟨⟨h.q, h.c, by omega, by omega, h.qc, h.ck⟩, by omega, by omega⟩
 obtain ⟨hrd, hq6, hc10⟩ := hrd
 by_cases h3 : ql.length <= 3
 case neg =>
  have d1 : decide ((3 : Int) < (ql.length : Int)) = true := decide_eq_true (by omega)
  have d2 : decide (3 < ql.length) = true := decide_eq_true (by omega)
  unfold Pln.val at hgr ⊢
  go_enter Tryz.func6, Tryz.ntmps6
  go_wp2_with fail
  clear hW1
  refine (hgr _).mono ?_
  rintro e w2 ⟨rfl, hb2⟩
  go_wp2_with fail
  refine (awake5_any _).mono ?_
  rintro e w4 ⟨rfl, hb4⟩
  go_wp2
  go_ret
  exact ⟨rfl, (hB1.trans hb2).trans hb4⟩
 have d1 : decide ((3 : Int) < (ql.length : Int)) = false := decide_eq_false (by omega)
 have d2 : decide (3 < ql.length) = false := decide_eq_false (by omega)
 by_cases hlg : ql.length <= gs.length
 case neg =>
  have d3 : decide ((gs.length : Int) < (ql.length : Int)) = true := decide_eq_true (by omega)
  have d4 : decide (gs.length < ql.length) = true := decide_eq_true (by omega)
  unfold Pln.val at hgr ⊢
  go_enter Tryz.func6, Tryz.ntmps6
  go_wp2_with fail
  clear hW1
  refine (hgr _).mono ?_
  rintro e w2 ⟨rfl, hb2⟩
  go_wp2_with fail
  refine (awake5_any _).mono ?_
  rintro e w4 ⟨rfl, hb4⟩
  go_wp2
  go_ret
  exact ⟨rfl, (hB1.trans hb2).trans hb4⟩
 have d3 : decide ((gs.length : Int) < (ql.length : Int)) = false := decide_eq_false (by omega)
 have d4 : decide (gs.length < ql.length) = false := decide_eq_false (by omega)
 have hpc := fun w h => pcheck_any Aq cq Ac cc p w h
 by_cases h0 : p.chk = 0
 case neg =>
  have z5 : (p.chk != 0) = true := by rw [bne_iff_ne]; exact h0
  unfold Pln.val at hgr hpc ⊢
  go_enter Tryz.func6, Tryz.ntmps6
  go_wp2_with fail
  clear hW1
  refine (hgr _).mono ?_
  rintro e w2 ⟨rfl, hb2⟩
  have hk2 := hk1.ext hb2
  clear c1 c2
  have c1 := hk2.cell
  have c2 := hk2.lt
  go_wp2_with fail
  refine (hpc _ (hrd.ext (hB1.trans hb2))).mono ?_
  rintro e w3 ⟨rfl, hb3⟩
  go_wp2_with fail
  refine (awake5_any _).mono ?_
  rintro e w4 ⟨rfl, hb4⟩
  go_wp2
  go_ret
  exact ⟨rfl, ((hB1.trans hb2).trans hb3).trans hb4⟩
 rw [h0] at hpc
 unfold Pln.val at hgr hpc ⊢
 go_enter Tryz.func6, Tryz.ntmps6
 go_wp2_with fail
 clear hW1
 refine (hgr _).mono ?_
 rintro e w2 ⟨rfl, hb2⟩
 have hk2 := hk1.ext hb2
 clear c1 c2
 have c1 := hk2.cell
 have c2 := hk2.lt
 go_wp2_with fail
 refine (hpc _ (hrd.ext (hB1.trans hb2))).mono ?_
 rintro e w3 ⟨rfl, hb3⟩
 clear c1 c2 hgr hpc
 go_wp2_with fail
 refine (awake5_any _).mono ?_
 rintro e w4 ⟨rfl, hb4⟩
 have hE4 := ((hB1.trans hb2).trans hb3).trans hb4
 have hk4 := (hk2.ext hb3).ext hb4
 have c1 := hk4.cell
 have c2 := hk4.lt
 obtain ⟨V5, hV5, hV5e, hv5, hvl5⟩ := box1 w4 #[.slice none 0 0, .slice none 0 0, .slice none 0 0, .slice none 0 0] 83
 obtain ⟨W5, hW5, hk5, hB5⟩ : ∃ W5, V5.setCells w4.heap.size 0 [.slice Aq p.quo.length cq, .slice Ac p.cons.length cc, .slice none 0 0, .slice none 0 0] = W5 /\ Blk W5 w4.heap.size 83 #[.slice Aq p.quo.length cq, .slice Ac p.cons.length cc, .slice none 0 0, .slice none 0 0] /\ Ext w4 W5 :=
  ⟨_, rfl, hv5.setCells_ [.slice Aq p.quo.length cq, .slice Ac p.cons.length cc, .slice none 0 0, .slice none 0 0] 0, ext_setCells hV5e (Nat.le_refl _) 0 _⟩
 simp only [World.setCells, Nat.zero_add, Nat.reduceAdd] at hW5
 have q1 := hv5.cell
 have q2 := hv5.lt
 have q3 := hv5.frozen
 go_upto_region 6 with fail
 (try rw [hW5])
 clear hW5 hV5 q1 q2 q3 hv5 hvl5 hV5e c1 c2
 have hkp := hk4.ext hB5
 have hE5 := hE4.trans hB5
 have x1 := hk1.lt
 have x4 := hb2.trans (hb3.trans hb4)
 have x5 := x4.size
 have x6 := hB1.size
 clear hk1 hk2 hk4 hb2 hb3 hb4 hB1 x4 hl1
 go_wp2_with fail
 go_loopg [49] ql.length (fun n v49 wr => ∃ (i : Nat) (bk : List Bk) (A : Option Addr) (c : Nat), i + n = ql.length /\ v49 = .int .i64 i /\ Blk wr w.heap.size 68 #[.slice Aq p.quo.length cq, .slice Ac p.cons.length cc] /\ Blk wr w4.heap.size 83 #[.slice Aq p.quo.length cq, .slice Ac p.cons.length cc, .slice A bk.length c, .slice none 0 0] /\
  Owns EBk wr W5.heap.size 100 (.slice A bk.length c) bk /\ p.bkChk bk = 0 /\ bk.length <= 16 * i /\ Ext w wr /\ W5.heap.size <= wr.heap.size)
 case atStart => exact ⟨0, [], none, 0, by omega, by go_num, hkp, hk5, Owns.none_ _ _, bkChk_of h0 (by simp) (fun k hk => by simp at hk), Nat.le_refl _, hE5, Nat.le_refl _⟩
 case round =>
  obtain ⟨i, bk, A, c, hin, rfl, hkr, hkt, ho, hch, hbl, hE, hs⟩ := hrel
  have Hin := Lib.hid hin
  by_cases hlt : i < ql.length
  ·have hig : i < gs.length := by omega
   obtain ⟨b1, o1, e1, hb1, c0, c1, c2, c3, c4, c5, c6⟩ := (hl.ext hE).req hlt
   obtain ⟨b2, o2, e2, hb2, f0⟩ := (hg.ext hE).gp hig
   obtain ⟨mrd, mcap, mmax⟩ := hgw gs[i] (List.getElem_mem _)
   have Hmem := Lib.hid mrd
   clear hin mrd mcap mmax
   generalize hq : ql[i] = q at *
   generalize hgi : gs[i] = gp at *
   obtain ⟨Am, cm, mem⟩ := gp
   dsimp only at f0 Hmem
   obtain ⟨qs, qd, qz, qr, qe, qp, qc⟩ := q
   dsimp only at c0 c1 c2 c3 c4 c5 c6
   clear hq hgi
   obtain ⟨V8, hV8, hV8e, hv8, hvl8⟩ := box1 wr #[.int .i64 0, .int .i64 0, .int .i64 0, .int .i64 0, .int .i64 0, .int .i64 0, .bool false] 85
   obtain ⟨W8, hW8, hk8, hB8⟩ : ∃ W8, V8.setCells wr.heap.size 0 [.int .i64 qs, .int .i64 qd, .int .i64 qz, .int .i64 qr, .int .i64 qe, .int .i64 qp, .bool qc] = W8 /\ Blk W8 wr.heap.size 85 #[.int .i64 qs, .int .i64 qd, .int .i64 qz, .int .i64 qr, .int .i64 qe, .int .i64 qp, .bool qc] /\ Ext wr W8 :=
    ⟨_, rfl, hv8.setCells_ [.int .i64 qs, .int .i64 qd, .int .i64 qz, .int .i64 qr, .int .i64 qe, .int .i64 qp, .bool qc] 0, ext_setCells hV8e (Nat.le_refl _) 0 _⟩
   simp only [World.setCells, Nat.zero_add, Nat.reduceAdd] at hW8
   have q1 := hv8.cell
   have q2 := hv8.lt
   have q3 := hv8.frozen
   subst e1
   subst e2
   go_upto_region 9 with fail
   (try rw [hW8])
   clear hW8 hV8 q1 q2 q3 hv8 hvl8 hV8e c0 c1 c2 c3 c4 c5 c6
   have hE8 := hE.trans hB8
   have hk3 := hkr.ext hB8
   have hkt8 := hkt.ext hB8
   have ho8 := ho.ext hB8
   have hs8 : W5.heap.size <= W8.heap.size := Nat.le_trans hs hB8.size
   have f1 : W8.cell? ⟨b2, o2 + i, none⟩ = some (.slice Am mem.length cm) := (hB8.cell hb2).trans f0
   have hb8 : b2 < W8.heap.size := Nat.lt_of_lt_of_le hb2 hB8.size
   clear f0 hkr hkt ho hs hE
   by_cases h8 : mem.length <= 8
   case neg =>
    have d5 : decide ((8 : Int) < (mem.length : Int)) = true := decide_eq_true (by omega)
    have d6 : decide (8 < mem.length) = true := decide_eq_true (by omega)
    go_wp2_with fail
    go_ret
    exact ⟨rfl, hE8⟩
   have d5 : decide ((8 : Int) < (mem.length : Int)) = false := decide_eq_false (by omega)
   have d6 : decide (8 < mem.length) = false := decide_eq_false (by omega)
   go_upto_region 11 with fail
   clear d5 d6
   go_cut [10, 11, 12] from 60 to 71 (fun a10 a11 a12 wx => ∃ Au nu cu Av nv cv k, a10 = .slice Au nu cu /\ a11 = .slice Av nv cv /\ a12 = .int .i64 k /\ Ext W8 wx /\ (k = 0 -> ∃ t, GC p bk ⟨qs, qd, qz, qr, qe, qp, qc⟩ /\ fineR p ⟨qs, qd, qz, qr, qe, qp, qc⟩ = true /\ memsB p.quo.length qs mem = true /\ GrownP p bk ⟨qs, qd, qz, qr, qe, qp, qc⟩ mem t /\ nu = t.1.length /\ nv = mem.length /\
    Owns EBr wx W8.heap.size 96 (.slice Au t.1.length cu) t.1 /\ Owns EInt wx W8.heap.size 3 (.slice Av mem.length cv) (mem.map (gi t.2))))
   case first =>
    have near := near_of9 W8
    have G := Lib.hid (fun w h hbk hmm => grow_own Aq cq Ac cc p A c bk ⟨qs, qd, qz, qr, qe, qp, qc⟩ Am cm mem w h hbk (by omega) hmm (by omega))
    have HR := Lib.hid (hrd.ext hE8)
    have HB := Lib.hid ho8.rd
    have HM := Lib.hid (Hmem.out.ext hE8)
    have p1 := hkt8.cell
    have p2 := hkt8.lt
    have p3 := hk8.cell
    have p4 := hk8.lt
    refine wp_region_P (fun _ => false) (fun w' => Ext W8 w' /\ ∀ b o, b < W8.heap.size -> w'.cell? ⟨b, o, none⟩ = W8.cell? ⟨b, o, none⟩) (by kernel_rfl) (near _ (Ext.refl W8).drew) (fun _ => ?_)
    refine pT 2 (v := ?_) rfl (fun _ _ _ h => h) (by rfl) ?_ ?_
    rotate_left
    ·intro w'; go_simp; first | done | with_reducible rfl
    try simp only [Act.put, sp1]
    refine pT 3 (v := ?_) rfl (fun _ _ _ h => h) (by rfl) ?_ ?_
    rotate_left
    ·intro w'; go_simp; first | done | with_reducible rfl
    try simp only [Act.put, sp1]
    refine pK 0 (v := ?_) rfl (fun _ _ _ h => h) (by rfl) ?_ (by assumption) ?_
    rotate_left
    ·intro w' hw'
     (try have hC := hw'.2)
     (try have hC9 := hw'.1)
     go_simp
     first | done | with_reducible rfl
    try simp only [Act.put, sp1]
    refine pK 1 (v := ?_) rfl (fun _ _ _ h => h) (by rfl) ?_ (by assumption) ?_
    rotate_left
    ·intro w' hw'
     (try have hC := hw'.2)
     (try have hC9 := hw'.1)
     go_simp
     first | done | with_reducible rfl
    try simp only [Act.put, sp1]
    refine pT 4 (v := ?_) rfl (fun _ _ _ h => h) (by rfl) ?_ ?_
    rotate_left
    ·intro w'; go_simp; first | done | with_reducible rfl
    try simp only [Act.put, sp1]
    refine pK 5 (v := ?_) rfl (fun _ _ _ h => h) (by rfl) ?_ (by assumption) ?_
    rotate_left
    ·intro w' hw'
     (try have hC := hw'.2)
     (try have hC9 := hw'.1)
     go_simp
     first | done | with_reducible rfl
    try simp only [Act.put, sp1]
    (try simp only [List.getElem_toArray, List.getElem_cons_succ, List.getElem_cons_zero, Act.put, sp1])
    refine pO 6 rfl (fun K hK => ?_)
    go_simp
    refine Calls.mono (G.out W8.drew (HR.out.ext ((Ext.refl W8).drew)) (HB.out.ext ((Ext.refl W8).drew)) (HM.out.ext ((Ext.refl W8).drew))) ?_
    rintro e w9 ⟨Au, nu, cu, Av, nv, cv, k, rfl, hb9, hk9⟩
    have hx9 := ((Ext.refl W8).drew).trans hb9
    refine hK.out _ _ (fun _ _ => near _ hx9) ?_
    clear hK K
    refine pT 7 (v := ?_) rfl (fun _ _ _ h => h) (by rfl) ?_ ?_
    rotate_left
    ·intro w'; go_simp; first | done | with_reducible rfl
    try simp only [Act.put, sp1]
    refine pT 8 (v := ?_) rfl (fun _ _ _ h => h) (by rfl) ?_ ?_
    rotate_left
    ·intro w'; go_simp; first | done | with_reducible rfl
    try simp only [Act.put, sp1]
    refine pT 9 (v := ?_) rfl (fun _ _ _ h => h) (by rfl) ?_ ?_
    rotate_left
    ·intro w'; go_simp; first | done | with_reducible rfl
    try simp only [Act.put, sp1]
    refine pT 10 (v := ?_) rfl (fun _ _ _ h => h) (by rfl) ?_ ?_
    rotate_left
    ·intro w'; go_simp; first | done | with_reducible rfl
    try simp only [Act.put, sp1]
    refine pT 11 (v := ?_) rfl (fun _ _ _ h => h) (by rfl) ?_ ?_
    rotate_left
    ·intro w'; go_simp; first | done | with_reducible rfl
    try simp only [Act.put, sp1]
    refine pT 12 (v := ?_) rfl (fun _ _ _ h => h) (by rfl) ?_ ?_
    rotate_left
    ·intro w'; go_simp; first | done | with_reducible rfl
    try simp only [Act.put, sp1]
    refine pT 13 (v := ?_) rfl (fun _ _ _ h => h) (by rfl) ?_ ?_
    rotate_left
    ·intro w'; go_simp; first | done | with_reducible rfl
    try simp only [Act.put, sp1]
    (try simp only [List.getElem_toArray, List.getElem_cons_succ, List.getElem_cons_zero, Act.put, sp1])
    refine wpAnyP_done (by kernel_rfl) ?_ _
    go_wp2
    go_meet
    exact ⟨Au, nu, cu, Av, nv, cv, k, rfl, rfl, rfl, hx9, hk9⟩
   case rest =>
    obtain ⟨Au, nu, cu, Av, nv, cv, k, rfl, rfl, rfl, hx9, hk9⟩ := hcut
    generalize wc = w9 at *
    have hE9 := hE8.trans hx9
    have hk39 := hk3.ext hx9
    have hkt9 := hkt8.ext hx9
    have ho9 := ho8.ext hx9
    have y9 := hx9.size
    by_cases hk0 : k = 0
    case neg =>
     have z5 : (k != 0) = true := by rw [bne_iff_ne]; exact hk0
     clear f1 hk9 hk8 hkt8 ho8
     go_wp2
     go_roundg (gk - 1)
     case measure => have := Hin.out; omega
     case rel => exact ⟨i + 1, bk, A, c, by have := Hin.out; omega, by go_num, hk39, hkt9, ho9, hch, by omega, hE9, by omega⟩
    subst hk0
    obtain ⟨t, G, hf, hm, g, rfl, rfl, hu, hv⟩ := hk9 rfl
    clear hk9
    obtain ⟨fe1, ft1, hTl, me, mm⟩ := grown_for hf
    have mrow := fun m hh => tree_mem G hf hm g m hh
    have V := g.gi_.ti.vt
    have hr := V.req
    dsimp only at fe1 ft1 me mm hr mrow
    have hM : (p.mat qr qe qz).length = p.quo.length := p.mat_len _ _ _
    obtain ⟨sn, rfl⟩ : ∃ sn : Nat, qs = (sn : Int) := ⟨qs.toNat, by omega⟩
    have hMr : ∀ hh : sn < (p.mat qr qe qz).length, (p.mat qr qe qz)[sn] = p.row sn qr qe qz := fun hh => mat_at p hh
    have F := fun w h => Foremost_any Aq cq Ac cc p sn qr qz w h
    have X := fun w h => Matrix_any Aq cq Ac cc p qr qe qz w h
    unfold MatR at X
    rw [ft1, fe1] at F
    rw [mm, me] at X
    obtain ⟨T0, hT0⟩ : ∃ T0, p.arrQ ⟨sn, qd, qz, qr, qe, qp, qc⟩ = T0 := ⟨_, rfl⟩
    obtain ⟨M, hMe⟩ : ∃ M, p.mat qr qe qz = M := ⟨_, rfl⟩
    rw [hT0] at F hTl
    rw [hMe] at X hM
    have hMr' : ∀ hh : sn < M.length, M[sn] = p.row sn qr qe qz := by subst hMe; exact hMr
    have HM := Lib.hid hM
    have HMr := Lib.hid hMr'
    have Hrow := Lib.hid mrow
    have HG := Lib.hid G
    have HV := Lib.hid V
    have Hgr := Lib.hid g
    unfold Pln.val at F X
    have HF := Lib.hid F
    have HX := Lib.hid X
    have HT0 := Lib.hid hT0
    have HMe := Lib.hid hMe
    have HTl := Lib.hid hTl
    obtain ⟨r1, r2, r3, r4, r5, r6, r7⟩ := hr
    clear hM hMr hMr' mrow G V g F X fe1 ft1 me mm hf hm hT0 hMe hTl
    have hk89 := hk8.ext hx9
    have p1 := hk39.cell
    have p2 := hk39.lt
    have p3 := hk89.cell
    have p4 := hk89.lt
    have f2 : w9.cell? ⟨b2, o2 + i, none⟩ = some (.slice Am mem.length cm) := (hx9.cell hb8).trans f1
    have hb9 : b2 < w9.heap.size := Nat.lt_of_lt_of_le hb8 y9
    clear f1 hk8 hkt8 ho8
    go_wp2_with fail
    refine (HF.out _ (hrd.ext hE9)).mono ?_
    clear HF
    rintro e w10 ⟨A2, c2, rfl, hR2, hb10, _⟩
    rw [HTl.out]
    have hk310 := hk39.ext hb10
    have hk810 := hk89.ext hb10
    have f3 : w10.cell? ⟨b2, o2 + i, none⟩ = some (.slice Am mem.length cm) := (hb10.cell hb9).trans f2
    have hb210 : b2 < w10.heap.size := Nat.lt_of_lt_of_le hb9 hb10.size
    have hE10 := hE9.trans hb10
    clear p1 p2 p3 p4 f2
    have p1 := hk310.cell
    have p2 := hk310.lt
    have p3 := hk810.cell
    have p4 := hk810.lt
    go_wp2_with fail
    refine (HX.out _ (hrd.ext hE10)).mono ?_
    clear HX
    rintro e w11 ⟨A3, c3, rfl, hR3, hb11⟩
    have hMl : M.length = p.quo.length := HM.out
    rw [hMl]
    have hk311 := hk310.ext hb11
    have hk811 := hk810.ext hb11
    have f4 : w11.cell? ⟨b2, o2 + i, none⟩ = some (.slice Am mem.length cm) := (hb11.cell hb210).trans f3
    have hb211 : b2 < w11.heap.size := Nat.lt_of_lt_of_le hb210 hb11.size
    have hE11 := hE10.trans hb11
    clear p1 p2 p3 p4 f3
    have p1 := hk311.cell
    have p2 := hk311.lt
    have p3 := hk811.cell
    have p4 := hk811.lt
    obtain ⟨hs0, hO3, hsl, hrows⟩ := hR3
    have hsn : sn < M.length := by omega
    have hsn2 : sn < hs0.length := by omega
    obtain ⟨b4, o4, e4, hb4, u0⟩ := hO3.rd.hdr hsn2
    have hOr := hrows sn hsn2 hsn
    rw [HMr.out hsn] at hOr
    obtain ⟨A6, c6, e6, hR6⟩ := hOr.form
    rw [e6, Pln.row_len] at u0
    have hR2' := hR2.ext hb11
    have hRv := (hv.ext (hb10.trans hb11)).rd
    have HRm := Lib.hid (Hmem.out.ext hE11)
    subst e4
    clear hO3 hrows hOr e6 hR2 hv hk39 hk89 hk310 hk810
    go_wp2_with fail
    clear p1 p2 p3 p4 f4
    obtain ⟨wo, rfl⟩ : ∃ wo, wo = wr := ⟨_, rfl⟩
    obtain ⟨g1, rfl⟩ : ∃ g1, g1 = gk := ⟨_, rfl⟩
    go_loopg [132] mem.length (fun n v132 wr => ∃ k : Nat, k + n = mem.length /\ v132 = .int .i64 k /\ Ext w11 wr)
    case atStart => exact ⟨0, by omega, by go_num, Ext.refl _⟩
    case round =>
     obtain ⟨k, hkn, rfl, hxr⟩ := hrel
     have Hkn := Lib.hid hkn
     by_cases hk : k < mem.length
     ·have hmt := Hrow.out mem[k] (List.getElem_mem hk)
      obtain ⟨b7, o7, rfl, hb7, g0⟩ := (HRm.out.ext hxr).int hk
      obtain ⟨b8, o8, rfl, hb8', g1⟩ := (hRv.ext hxr).int (k := k) (by rw [List.length_map]; exact hk)
      rw [List.getElem_map] at g1
      generalize mem[k] = m at *
      obtain ⟨m0, m1, m2, m3, m4⟩ := hmt
      obtain ⟨mn, rfl⟩ : ∃ mn : Nat, m = (mn : Int) := ⟨m.toNat, by omega⟩
      have hmT : mn < T0.length := by rw [HTl.out]; omega
      dsimp only at m2 m3 m4
      rw [HT0.out, gi_nat hmT] at m2
      obtain ⟨b9, o9, rfl, hb9', g2⟩ := (hR2'.ext hxr).int hmT
      have hml : mn < (p.row sn qr qe qz).length := by rw [Pln.row_len]; omega
      rw [gb_nat hml] at m4
      obtain ⟨ba, oa, rfl, hba, g3⟩ := rd_boolT (hR6.ext hxr) hml
      rw [m4] at g3
      generalize T0[mn] = bt at *
      generalize gi t.2 (mn : Int) = at0 at *
      have hb4r : b4 < wr.heap.size := Nat.lt_of_lt_of_le hb4 hxr.size
      have u1 : wr.cell? ⟨b4, o4 + sn, none⟩ = some (.slice (some ⟨ba, oa, none⟩) p.quo.length c6) := (hxr.cell hb4).trans u0
      have dA : decide ((mn : Int) < 0) = false := decide_eq_false (by omega)
      have dB : decide ((p.quo.length : Int) <= (mn : Int)) = false := decide_eq_false (by omega)
      have dB2 : decide (p.quo.length <= mn) = false := decide_eq_false (by omega)
      have dC : decide (at0 < bt) = false := decide_eq_false (by omega)
      have dD : decide (qe < at0) = false := decide_eq_false (by omega)
      have hkr3 := hk811.ext hxr
      have p3 := hkr3.cell
      have p4 := hkr3.lt
      have hmi : (mn : Int) < (p.quo.length : Int) := by omega
      have hmi2 : mn < p.quo.length := by omega
      have hsi2 : sn < p.quo.length := by omega
      have hsi : (sn : Int) < (p.quo.length : Int) := by omega
      have hki : (k : Int) < (mem.length : Int) := by omega
      clear hkn m0 m2 m3 m4
      go_upto_region 20 with fail
      have hN := Near.refl wr
      have hq := quiet_near hN
      refine wp_region_quiet_below (by kernel_rfl) (by kernel_rfl) ?_
      repeat (first | go_big_quiet_skip | (go_big_quiet_want; go_big_quiet_op; first | go_big_quiet_on | (apply Exists.intro; refine ⟨fun _ => ?_, ?_⟩; (focus (first | fail)); go_big_quiet_on)))
      refine wpQuiet_nil ?_
      intro w1 hw1
      clear hq
      replace hw1 := quiet_ext hw1
      replace hN := hN.step hw1
      have hC := hN.2
      have hx1 := hxr.trans hN.1
      clear hC hN p3 p4 g0 g1 g2 g3 u1
      go_wp2
      go_roundg (gk - 1)
      case measure => have := Hkn.out; omega
      case rel => exact ⟨k + 1, by have := Hkn.out; omega, by go_num, hx1⟩
     ·have hx12 := (hb10.trans hb11).trans hxr
      have hE12 := hE9.trans hx12
      have hkt12 := hkt9.ext hx12
      have ho12 := ho9.ext hx12
      have hu12 := hu.ext hx12
      have hk312 := hk311.ext hxr
      have y12 := hx12.size
      have HST := Lib.hid (BksT.start HG.out Hgr.out)
      have i3 : (i : Int) < 3 := by have := Hin.out; omega
      have i3n : i < 3 := by have := Hin.out; omega
      have hbk48 : bk.length <= 48 := by omega
      clear hkn u0 hkt9 ho9 hu hk311 hk811 hRv hR2' hR6 HRm Hrow
      obtain ⟨wo2, rfl⟩ : ∃ wo2, wo2 = wr := ⟨_, rfl⟩
      go_wp2_with fail
      go_loopg [190] t.1.length (fun n v190 wx => ∃ (j : Nat) (l : List Bk) (A' : Option Addr) (c' : Nat), j + n = t.1.length /\ v190 = .int .i64 j /\ Blk wx w.heap.size 68 #[.slice Aq p.quo.length cq, .slice Ac p.cons.length cc] /\ Blk wx w4.heap.size 83 #[.slice Aq p.quo.length cq, .slice Ac p.cons.length cc, .slice A' l.length c', .slice none 0 0] /\
       Owns EBk wx W5.heap.size 100 (.slice A' l.length c') l /\ BksT p ⟨sn, qd, qz, qr, qe, qp, qc⟩ bk.length t.1 j l /\ Owns EBr wx W8.heap.size 96 (.slice Au t.1.length cu) t.1 /\ Ext w wx /\ W8.heap.size <= wx.heap.size)
      case atStart => exact ⟨0, bk, A, c, by omega, by go_num, hk312, hkt12, ho12, HST.out, hu12, hE12, by omega⟩
      case round =>
       obtain ⟨j, l, A', c', hjn, rfl, hkp3, hkt3, ho3, hS3, hu3, hE3, hs3⟩ := hrel
       have Hjn := Lib.hid hjn
       by_cases hj : j < t.1.length
       ·obtain ⟨b5, o5, e5, hb5, c0, c1, c2, c3, c4⟩ := hu3.rd.br hj
        have htl := HV.out.len
        have hAD := fun w h hA => add_any Aq cq Ac cc p A' c' l (brBk (gbr t.1 j) (1 + (i : Int))) w h hA hS3.chk (tree_bk HV.out hj (by omega) (by omega)) (by have := hS3.len; omega) (hS3.free j (Nat.le_refl _) hj)
        have hST := fun ii hh => BksT.step (tic := 1 + (i : Int)) (i := ii) HV.out hS3 hj (by omega) (by omega) (by omega) hh
        have hgb : gbr t.1 j = t.1[j] := by simp [gbr, hj]
        rw [hgb] at hAD hST
        generalize t.1[j] = br at *
        obtain ⟨bc, bb, be, ba, bp⟩ := br
        dsimp only at c0 c1 c2 c3 c4
        unfold brBk Bk.val Pln.val at hAD
        unfold brBk at hST
        dsimp only at hAD hST
        have HAD := Lib.hid hAD
        have HST3 := Lib.hid hST
        obtain ⟨V6, hV6, hV6e, hv6, hvl6⟩ := box1 wr #[.int .i64 0, .int .i64 0, .int .i64 0, .int .i64 0, .int .i64 0] 96
        obtain ⟨W6, hW6, hk6, hB6⟩ : ∃ W6, V6.setCells wr.heap.size 0 [.int .i64 bc, .int .i64 bb, .int .i64 be, .int .i64 ba, .int .i64 bp] = W6 /\ Blk W6 wr.heap.size 96 #[.int .i64 bc, .int .i64 bb, .int .i64 be, .int .i64 ba, .int .i64 bp] /\ Ext wr W6 :=
         ⟨_, rfl, hv6.setCells_ [.int .i64 bc, .int .i64 bb, .int .i64 be, .int .i64 ba, .int .i64 bp] 0, ext_setCells hV6e (Nat.le_refl _) 0 _⟩
        simp only [World.setCells, Nat.zero_add, Nat.reduceAdd] at hW6
        have q1 := hv6.cell
        have q2 := hv6.lt
        have q3 := hv6.frozen
        subst e5
        have hji : (j : Int) < (t.1.length : Int) := by omega
        clear hjn hgb hAD hST
        go_upto_region 26 with fail
        (try rw [hW6])
        clear hW6 hV6 q1 q2 q3 hv6 hvl6 hV6e c0 c1 c2 c3 c4
        have hkp6 := hkp3.ext hB6
        have hkt6 := hkt3.ext hB6
        have ho6 := ho3.ext hB6
        have hu6 := hu3.ext hB6
        have hE6 := hE3.trans hB6
        have y6 := hB6.size
        have p1 := hkp6.cell
        have p2 := hkp6.lt
        have p3 := hkt6.cell
        have p4 := hkt6.lt
        have p5 := hk6.cell
        have p6 := hk6.lt
        clear hkp3 hkt3 ho3 hu3
        go_wp2_with fail
        refine (HAD.out _ (hrd.ext hE6) ho6.rd).mono ?_
        clear HAD
        rintro e w13 ⟨ii, u, rfl, hBs, hoN, hb13⟩
        have hSN := HST3.out ii hBs
        clear HST3 hBs p1 p2 p3 p4 p5 p6
        generalize l.take ii ++ (⟨bc, bb, be, 1 + (i : Int)⟩ : Bk) :: l.drop ii = lN at *
        obtain ⟨AN, cN, rfl, _⟩ := hoN.form
        have hkp13 := hkp6.ext hb13
        have hkt13 := hkt6.ext hb13
        have hu13 := hu6.ext hb13
        have hE13 := hE6.trans hb13
        have y13 := hb13.size
        have hoN' := hoN.mono (show W5.heap.size <= W6.heap.size by omega)
        have p3 := hkt13.cell
        have p4 := hkt13.lt
        have p5 := hkt13.frozen
        have zne : w.heap.size ≠ w4.heap.size := by omega
        obtain ⟨W14, hW14, hkt14, hkp14, ho14, hu14, hE14, y14⟩ : ∃ W14, w13.setCell ⟨w4.heap.size, 2, none⟩ (.slice AN lN.length cN) = W14 /\ Blk W14 w4.heap.size 83 #[.slice Aq p.quo.length cq, .slice Ac p.cons.length cc, .slice AN lN.length cN, .slice none 0 0] /\ Blk W14 w.heap.size 68 #[.slice Aq p.quo.length cq, .slice Ac p.cons.length cc] /\
         Owns EBk W14 W5.heap.size 100 (.slice AN lN.length cN) lN /\ Owns EBr W14 W8.heap.size 96 (.slice (some ⟨b5, o5, none⟩) t.1.length cu) t.1 /\ Ext w W14 /\ W14.heap.size = w13.heap.size :=
         ⟨_, rfl, hkt13.set_ 2 _, hkp13.far zne _, hoN'.setZ hkt13 (by decide) 2 _, hu13.setZ hkt13 (by decide) 2 _, hE13.setCell (show w.heap.size <= w4.heap.size by omega) _, by simp⟩
        clear hkp6 hkt6 ho6 hu6 hkt13 hkp13 hoN hoN' hu13
        go_wp2
        (try rw [hW14])
        go_roundg (gk - 1)
        case measure => have := Hjn.out; omega
        case rel => exact ⟨j + 1, lN, AN, cN, by have := Hjn.out; omega, by go_num, hkp14, hkt14, ho14, hSN, hu14, hE14, by omega⟩
       ·have hlN := hS3.len
        have htl := HV.out.len
        clear hjn
        go_wp2
        go_roundg (g1 - 1)
        case measure => have := Hin.out; omega
        case rel => exact ⟨i + 1, l, A', c', by have := Hin.out; omega, by go_num, hkp3, hkt3, ho3, hS3.chk, by have := Hjn.out; omega, hE3, by omega⟩
  ·have hbl2 : bk.length <= 48 := by omega
   clear hin
   have p1 := hkr.cell
   have p2 := hkr.lt
   have p3 := hkt.cell
   have p4 := hkt.lt
   have hb := fun w h h2 => bCheck_any Aq cq Ac cc p A c bk w h h2 (by omega)
   rw [hch] at hb
   unfold Pln.val at hb
   go_wp2_with fail
   refine (hb _ (hrd.ext hE) ho.rd).mono ?_
   rintro e w5 ⟨rfl, hb5⟩
   go_wp2
   go_ret
   exact ⟨rfl, hE.trans hb5⟩
end
end Go.Proofs.YtemkpimngbbpkaaGreat

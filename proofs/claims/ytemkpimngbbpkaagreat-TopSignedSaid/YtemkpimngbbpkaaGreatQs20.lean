/- Layer 35 (multicast): the walk of Grow for valid arguments. · Layer 35 (multicast): Grow, both ways. -/
import Derived.Test.YtemkpimngbbpkaaGreatQs19
namespace Go.Proofs.YtemkpimngbbpkaaGreat
set_option linter.unusedVariables false
set_option linter.unusedSimpArgs false
section
open Go.RowKit Go.Shelf
attribute [local go_sem] Oper.semAt_some
set_option maxRecDepth 100000 in
set_option maxHeartbeats 4000000 in
theorem Grow_good (Aq : Option Addr) (cq : Nat) (Ac : Option Addr) (cc : Nat) (p : Pln) (Al : Option Addr) (cl : Nat) (bk : List Bk) (Ah : Option Addr) (nh ch : Nat) (q : Req) (Am : Option Addr) (cm : Nat) (mem : List Int) (w : World) (h : PlnRd w Aq cq Ac cc p) (hbk : Rd EBk w Al bk) (hmm : Rd EInt w Am mem) (hml : mem.length <= 1000000)
 (hT : TabC p bk (.agg #[.slice Aq p.quo.length cq, .slice Ac p.cons.length cc, .slice Al bk.length cl, .slice Ah nh ch]) 0 w) (hf : fineR p q = true) (hmb : memsB p.quo.length q.src mem = true) :
 Calls Tryz.prog 26 #[.agg #[.slice Aq p.quo.length cq, .slice Ac p.cons.length cc, .slice Al bk.length cl, .slice Ah nh ch], q.val, .slice Am mem.length cm] w (GrowP p bk q mem 0 w) := by
 obtain ⟨i0, hi0, hz0, hz1, hz2⟩ := info_parts info_hopm
 obtain ⟨j0', hj0, hy0, hy1, hy2⟩ := info_parts info_br
 obtain ⟨ii, hii, hiz, hi1, hi2⟩ := info_parts info_int
 obtain ⟨W0, hW0, hB0, hkt, hkq, hl0, hlq⟩ := box2 w #[.slice Aq p.quo.length cq, .slice Ac p.cons.length cc, .slice Al bk.length cl, .slice Ah nh ch] q.cells 83 85
 simp only [Req.cells] at hW0 hkq
 obtain ⟨W1, hW1, hB1, hkp, hlp⟩ := box1 W0 #[.slice Aq p.quo.length cq, .slice Ac p.cons.length cc] 68
 have hE1 := hB0.trans hB1
 have hkt1 := hkt.ext hB1
 have hkq1 := hkq.ext hB1
 have c0 := hkt.cell
 have c1 := hkt1.cell
 have c2 := hkt1.lt
 have htc := hT.call _ hE1
 have h0 := hT.ok rfl
 have hqm := h.qm
 have hfq := fineR_of hf
 have hok := Pln.ok_of hfq.1
 have hn16 := hok.n16
 have hqo := hfq.2
 simp only [Req.okB, decide_eq_true_eq] at hqo
 have hs0 := hqo.1
 have hs1 := hqo.2.1
 have G : GC p bk q := ⟨h0, by omega, by omega⟩
 have HG := Lib.hid G
 have HF := Lib.hid hf
 have H0 := Lib.hid h0
 have hmr : ∀ x ∈ mem, 0 <= x /\ x < 16 := fun x hx => by
  obtain ⟨i, hi, rfl⟩ := List.getElem_of_mem hx
  have hmb2 := hmb
  unfold memsB at hmb2
  rw [decide_eq_true_eq] at hmb2
  have := hmb2 i hi
  omega
 have Hmr := Lib.hid hmr
 have hml16 : mem.length <= 16 := by have := memsB_len hmb; omega
 have hreq := fun w h => tCheckRequest_any Aq cq Ac cc p q w h
 have hmem := fun w h => areMembers_any Aq cq Ac cc p q Am cm mem w h hml hqm
 have hst := fun w => start_any q w hs0 (by omega)
 have hgo : p.growOk q mem 0 := ⟨rfl, hf, hmb⟩
 have Hgo := Lib.hid hgo
 rw [hmb] at hmem
 unfold Pln.val Req.val at hreq hmem
 unfold Req.val at hst ⊢
 have hsl := startL_len q
 clear hmr hfq hok hqo G h0 hT hgo
 refine (callsIn_wide (n := 5)).1 ?_
 refine callsIn_of_wp_marks Tryz.func26 rfl trivial ?_ rfl
 refine wpIn_wide.2 ?_
 refine Code.wp_mono NoPanic.imp ?_
 simp only [Tryz.ntmps26, List.size_toArray, List.length_cons, List.length_nil, Nat.reduceAdd, Nat.reduceSub, Array.replicate_succ, Array.replicate_zero, List.push_toArray, List.append_toArray, List.nil_append, List.cons_append]
 go_wp2_with fail
 clear hW0 hW1
 refine htc.mono ?_
 clear htc
 rintro e w2 ⟨rfl, hb2⟩
 have s1 := (hkp.ext hb2).cell
 have s2 := (hkp.ext hb2).lt
 have s3 := (hkq1.ext hb2).cell
 have s4 := (hkq1.ext hb2).lt
 go_wp2_with fail
 refine (hreq _ ((h.ext hE1).ext hb2)).mono ?_
 clear hreq
 rintro e w3 ⟨k3, rfl, hk3, hb3⟩
 obtain rfl : k3 = 0 := hk3.2 hf
 clear hk3 s1 s2 s3 s4 c0 c1 c2
 have s1 := ((hkp.ext hb2).ext hb3).cell
 have s2 := ((hkp.ext hb2).ext hb3).lt
 have s3 := ((hkq1.ext hb2).ext hb3).cell
 have s4 := ((hkq1.ext hb2).ext hb3).lt
 go_wp2_with fail
 refine (hmem _ (((hmm.ext hE1).ext hb2).ext hb3)).mono ?_
 clear hmem
 rintro e w4 ⟨rfl, hb4⟩
 have hE4 := ((hE1.trans hb2).trans hb3).trans hb4
 have kp4 := ((hkp.ext hb2).ext hb3).ext hb4
 have kq4 := ((hkq1.ext hb2).ext hb3).ext hb4
 have kt4 := ((hkt1.ext hb2).ext hb3).ext hb4
 obtain ⟨W5, hW5, hB5, hkl, hll⟩ := box1 w4 #[.slice none 0 0] 86
 clear s1 s2 s3 s4
 have s1 := (kq4.ext hB5).cell
 have s2 := (kq4.ext hB5).lt
 go_wp2_with fail
 clear hW5
 refine (hst _).mono ?_
 clear hst
 rintro e w6 ⟨rfl, hb6⟩
 go_wp2_with (refine wpList_fresh16 rfl rfl rfl rfl rfl (by assumption) ?_; intro W7 hB7 hk7 hs7)
 have hB67 := hb6.trans hB7
 have kt7 := (kt4.ext hB5).ext hB67
 have kq7 := (kq4.ext hB5).ext hB67
 have kp7 := (kp4.ext hB5).ext hB67
 have kl7 := hkl.ext hB67
 have hE7 := (hE4.trans hB5).trans hB67
 have hl5 : w4.heap.size < w6.heap.size := by have := hb6.size; omega
 have hE14 := (hb2.trans hb3).trans hb4
 refine wp_loop_ghost_k (fun k a wr => ∃ (u13 u14 u15 u16 u17 u46 u47 u48 u49 u50 u51 u52 u53 u54 u55 u56 u57 u58 u59 u60 u61 u62 u63 u64 u65 u66 u67 u68 u69 u70 u71 u72 u73 u74 u75 u76 u77 u78 u79 u80 u81 u82 u83 u84 u85 u109 : Value) (ds : List Deferred), GRel p bk q mem w4.heap.size w6.heap.size W7.heap.size w4 k u46 ds wr /\
  a = { tmps := #[.agg #[.slice Aq p.quo.length cq, .slice Ac p.cons.length cc, .slice Al bk.length cl, .slice Ah nh ch], .agg #[.int .i64 q.src, .int .i64 q.dst, .int .i64 q.size, .int .i64 q.ready, .int .i64 q.dead, .int .i64 q.prio, .bool q.cust], .slice Am mem.length cm, .pointer (some ⟨w.heap.size, 0, none⟩), .pointer (some ⟨w.heap.size + 1, 0, none⟩), undef, .slice none 0 0, .slice none 0 0, .int .i64 0, .pointer (some ⟨W0.heap.size, 0, none⟩), .pointer (some ⟨w4.heap.size, 0, none⟩), .pointer (some ⟨w6.heap.size, 0, none⟩), undef, u13, u14, u15, u16, u17, undef, undef, undef, undef, undef, undef, .pointer (some ⟨w.heap.size, 0, none⟩), .agg #[.slice Aq p.quo.length cq, .slice Ac p.cons.length cc], .agg #[.slice Aq p.quo.length cq, .slice Ac p.cons.length cc, .slice Al bk.length cl, .slice Ah nh ch], .int .i64 0, .bool false, .bool false, .agg #[.slice Aq p.quo.length cq, .slice Ac p.cons.length cc], .agg #[.int .i64 q.src, .int .i64 q.dst, .int .i64 q.size, .int .i64 q.ready, .int .i64 q.dead, .int .i64 q.prio, .bool q.cust], .int .i64 0, .bool false, .bool false, .bool false, .agg #[.slice Aq p.quo.length cq, .slice Ac p.cons.length cc], .agg #[.int .i64 q.src, .int .i64 q.dst, .int .i64 q.size, .int .i64 q.ready, .int .i64 q.dead, .int .i64 q.prio, .bool q.cust], .slice Am mem.length cm, .bool true, .bool false, .bool false, .agg #[.int .i64 q.src, .int .i64 q.dst, .int .i64 q.size, .int .i64 q.ready, .int .i64 q.dead, .int .i64 q.prio, .bool q.cust], .agg (arrV (startL q)), .slice Am mem.length cm, .int .i64 mem.length, u46, u47, u48, u49, u50, u51, u52, u53, u54, u55, u56, u57, u58, u59, u60, u61, u62, u63, u64, u65, u66, u67, u68, u69, u70, u71, u72, u73, u74, u75, u76, u77, u78, u79, u80, u81, u82, u83, u84, u85, undef, undef, undef, undef, undef, undef, undef, undef, undef, undef, undef, undef, undef, undef, undef, undef, undef, undef, undef, undef, undef, undef, undef, u109, undef, undef, undef, undef, undef, undef, undef, undef, undef, undef, undef, undef, undef, undef, undef], defers := ds }) mem.length ?_ ?_
 ·exact ⟨_, _, _, _, _, _, _, _, _, _, _, _, _, _, _, _, _, _, _, _, _, _, _, _, _, _, _, _, _, _, _, _, _, _, _, _, _, _, _, _, _, _, _, _, _, _, _, ⟨0, [], startL q, _, by omega, rfl, kl7, Owns.none_ _ _, hk7, hsl, (fun b hb => by cases hb), by simp, Lib.hid (fun r hr => hr), hB5.trans hB67, DSx.nil _ _ _⟩, rfl⟩
 ·intro gk _ wr hinv
  obtain ⟨u13, u14, u15, u16, u17, u46, u47, u48, u49, u50, u51, u52, u53, u54, u55, u56, u57, u58, u59, u60, u61, u62, u63, u64, u65, u66, u67, u68, u69, u70, u71, u72, u73, u74, u75, u76, u77, u78, u79, u80, u81, u82, u83, u84, u85, u109, ds, hrel, ha⟩ := hinv
  subst ha
  intro _ _ _ _
  obtain ⟨j, l, tree, ul, hjn, rfl, kl, ol, kT, htl, hin, hll, hgr, hE, hds⟩ := hrel
  have Hjn := Lib.hid hjn
  have hjN : j <= mem.length := by omega
  have kt := ((((hkt1.ext hb2).ext hb3).ext hb4)).ext hE
  have kq := ((((hkq1.ext hb2).ext hb3).ext hb4)).ext hE
  have kp := ((((hkp.ext hb2).ext hb3).ext hb4)).ext hE
  have s1 := kt.cell
  have s2 := kt.lt
  have s3 := kq.cell
  have s4 := kq.lt
  have s5 := kp.cell
  have s6 := kp.lt
  have s7 := kl.cell
  have s8 := kl.lt
  have s9 := kT.lt
  have hEs := hE.size
  clear hjn
  by_cases hlt : j < mem.length
  ·obtain ⟨bm, om, rfl, hbm, cm0⟩ := (hmm.ext (hE4.trans hE)).int hlt
   have hmr := Hmr.out _ (List.getElem_mem hlt)
   have hdr : mem.drop j = mem[j] :: mem.drop (j + 1) := List.drop_eq_getElem_cons hlt
   generalize mem[j] = m at *
   have Hdr := Lib.hid hdr
   have cT := (kT.cell m.toNat).trans (arrV_get (by omega))
   have eM : ((m.toNat : Nat) : Int) = m := by omega
   rw [eM] at cT
   have hm0 := hmr.1
   have hm1 := hmr.2
   clear hdr
   by_cases hin0 : 0 <= gi tree m
   ·have d0 : decide (0 <= gi tree m) = true := decide_eq_true hin0
    have HG2 := Lib.hid (show ∀ r, p.GrowR bk q (mem.drop (j + 1)) (l, tree) r -> p.GrowR bk q mem ([], startL q) r from fun r hr => hgr.out r (by rw [Hdr.out]; show (if _ then _ else _); rw [if_pos hin0]; exact hr))
    clear hin0
    go_wp2_with fail
    go_roundg (mem.length - (j + 1))
    case measure => have := Hjn.out; omega
    case rel => exact ⟨j + 1, l, tree, ul, by have := Hjn.out; omega, by go_num, kl, ol, kT, htl, hin, by omega, HG2, hE, hds⟩
   ·have d0 : decide (0 <= gi tree m) = false := decide_eq_false hin0
    have hea := fun w h hb => earliest_any Aq cq Ac cc p Al cl bk Ah nh ch q tree w h hb H0.out HF.out htl
    unfold Req.val at hea
    have xw := hE4.trans hE
    go_wp2_with (refine wpList_load16 rfl rfl rfl (by assumption) (by assumption) ?_)
    refine (hea _ (h.ext xw) (hbk.ext xw)).mono ?_
    clear hea
    rintro e wa ⟨T, rfl, hET, hba⟩
    have hTl := EarlP.len htl hET
    have HET := Lib.hid hET
    clear s1 s2 s3 s4 s5 s6 s7 s8 s9 cT hET
    have hEa := hE.trans hba
    have hdsa := hds.ext hba
    by_cases hlate : gi T m < 0
    ·have dl : decide (gi T m < 0) = true := decide_eq_true hlate
     have HN := Lib.hid (show p.GrowR bk q mem ([], startL q) none from hgr.out none (by rw [Hdr.out]; show (if _ then _ else _); rw [if_neg (by show ¬ 0 <= gi tree m; omega)]; exact ⟨T, HET.out, by rw [if_pos hlate]⟩))
     clear hlate hin0
     go_wp2_with (refine wpList_fresh16 rfl rfl rfl rfl rfl (by assumption) ?_; intro W8 hB8 hk8 hs8; have cA := (hk8.cell m.toNat).trans (arrV_get (by omega)); rw [eM] at cA; have lA := hk8.lt)
     have hds8 := hdsa.ext hB8
     show LeavesInM _ _ _ _ _ _ ds .returning W8
     refine hds8.leaves ?_
     intro w' hw'
     have hfin := hw' (fun W => Ext w W)
      (fun s X Y row hs hg hr => hs.keptb hg (fun r e => Nat.le_trans hE4.size (hr r e).1)) ((hE4.trans hEa).trans hB8)
     exact ⟨_, results_tmp3 rfl _ _ _, hfin, .inl ⟨Hgo.out, none, HN.out, rfl⟩⟩
    ·have dl : decide (gi T m < 0) = false := decide_eq_false hlate
     have Hin0 := Lib.hid hin0
     have Hlate := Lib.hid hlate
     clear hlate hin0
     go_wp2_with (refine wpList_fresh16 rfl rfl rfl rfl rfl (by assumption) ?_; intro W8 hB8 hk8 hs8; have cA := (hk8.cell m.toNat).trans (arrV_get (by omega)); rw [eM] at cA; have lA := hk8.lt)
     clear cA lA
     have hE8 := hEa.trans hB8
     have hds8 := hdsa.ext hB8
     have kT8 := (kT.ext hba).ext hB8
     have kl8 := (kl.ext hba).ext hB8
     have ol8 := (ol.ext hba).ext hB8
     obtain ⟨wo, rfl⟩ : ∃ wo, wo = wr := ⟨_, rfl⟩
     obtain ⟨gq, rfl⟩ : ∃ gq, gq = gk := ⟨_, rfl⟩
     go_loopg [15, 16] 17 (fun n u x wr => ∃ (nd : Int) (ws : List Hp), x = .int .i64 nd /\ 0 <= nd /\ nd < 16 /\ 0 <= gi T nd /\ rank T (gi T nd) < n /\ ws.length + n = 17 /\ Hid (p.wayF bk q tree T 17 m = ws ++ p.wayF bk q tree T n nd) /\ Owns EHp wr W8.heap.size 94 u ws /\ Ext W8 wr)
     case atStart => exact ⟨m, [], rfl, hm0, hm1, by have := Hlate.out; omega, by have := rank16 (n := m) hTl hm0 hm1; omega, rfl, Lib.hid rfl, Owns.none_ _ _, Ext.refl _⟩
     case round =>
      obtain ⟨nd, ws, rfl, n0, n1, n2, hrk, hwl, hway, ow, hx⟩ := hrel
      have kTr := kT8.ext hx
      have cT := (kTr.cell nd.toNat).trans (arrV_get (by omega))
      have eN : ((nd.toNat : Nat) : Int) = nd := by omega
      rw [eN] at cT
      have lT := kTr.lt
      have HW := Lib.hid hwl
      have HR := Lib.hid hrk
      have x8 := hE8.trans hx
      have kt := ((((hkt1.ext hb2).ext hb3).ext hb4)).ext x8
      have kq := ((((hkq1.ext hb2).ext hb3).ext hb4)).ext x8
      have kp := ((((hkp.ext hb2).ext hb3).ext hb4)).ext x8
      have kA := hk8.ext hx
      have s1 := kt.cell
      have s2 := kt.lt
      have s3 := kq.cell
      have s4 := kq.lt
      clear hwl hrk eN
      by_cases htr : gi tree nd < 0
      ·have dt : decide (gi tree nd < 0) = true := decide_eq_true htr
       have hws := way_step HG.out htl HET.out n0 n1 htr n2
       have xw := hE4.trans x8
       have hla := last_any Aq cq Ac cc p Al cl bk Ah nh ch q tree T nd _ (h.ext xw) (hbk.ext xw) H0.out HF.out htl hTl ⟨n0, n1⟩ hws.ne
       have HWS := Lib.hid hws
       have htr' := htr
       unfold Req.val at hla
       clear htr hws
       go_wp2_with (refine wpList_load16 rfl rfl rfl (by assumption) (by assumption) ?_)
       refine hla.mono ?_
       clear hla
       rintro e wc ⟨rfl, hbc⟩
       have hwf : p.wayF bk q tree T gk nd = p.lastH bk q tree T nd :: p.wayF bk q tree T (gk - 1) (gc p.cons (p.lastH bk q tree T nd).con).src := by
        obtain ⟨k, rfl⟩ : ∃ k, gk = k + 1 := ⟨gk - 1, by have := HR.out; omega⟩
        show (if _ then _ else _) = _
        rw [if_pos htr', Nat.add_sub_cancel]
       have Hwf := Lib.hid hwf
       clear htr' hwf
       obtain ⟨hh, hHh⟩ : ∃ hh, p.lastH bk q tree T nd = hh := ⟨_, rfl⟩
       rw [hHh] at HWS Hwf ⊢
       clear hHh
       have hws := HWS.out
       have hcl : hh.con.toNat < p.cons.length := by have := hws.inc; unfold InC at this; omega
       have hc0 := hws.inc.1
       have hc1 := hws.inc.2
       have hcm := h.cm
       obtain ⟨W10, hW10, hB10, hk10, hl10⟩ := box1 wc #[.int .i64 hh.con, .int .i64 hh.beg, .int .i64 hh.en, .int .i64 hh.arr] 94
       have x10 := (hx.trans hbc).trans hB10
       have ow10 := (ow.ext hbc).ext hB10
       have zx := hx.size
       have zc := hbc.size
       have zx10 := x10.size
       have hwl2 : ws.length <= 17 := by have := HW.out; omega
       have t1 := hk10.cell
       have t2 := hk10.lt
       have Hgc := Lib.hid (gc_get hcl)
       have hcs := fun W (hW : Ext w W) => (h.c.ext hW).con hcl
       generalize p.cons[hh.con.toNat] = c at *
       clear s1 s2 s3 s4 cT
       go_wp2_with (at_builtin; refine wpList_push rfl (.tmp 73) (.tmp 75) _ (by rfl) W8.heap.size 94 i0 _ 32 Tryz.underlying178 hi0 hz0 hz1 hz2 (by rfl) u15 (by rfl) (ow10.ext ((Ext.refl _).alloc _)) W10.heap.size hh (by rfl) (Blk.new W10 _ _) (by simp only [maxLen]; omega) (by omega) (by simp; omega) ?_; intro v6 w6 hv6 hg6 hat6; have hx6 := ext_grown (x10.alloc _) (ow10.ext ((Ext.refl _).alloc _)) (Nat.le_refl _) hg6; have kh6 := Blk.kept (hk10.ext ((Ext.refl _).alloc _)) hg6 (fun e' => by have := (ow.block e'.symm).2; omega); have kp6 := ((((hkp.ext hb2).ext hb3).ext hb4)).ext (hE8.trans hx6); have u1 := kh6.cell; have u2 := kh6.lt; have u3 := kp6.cell; have u4 := kp6.lt; obtain ⟨bc, oc, rfl, hbc, j0, j1, j2, j3, j4, j5, j6⟩ := hcs w6 (hE4.trans (hE8.trans hx6)))
       go_roundg (gk - 1)
       case measure => have := HR.out; omega
       case rel =>
        have hws := HWS.out
        have hrs := rank_step hTl hws.s0 hws.s1 hws.t0 hws.t1
        refine ⟨(gc p.cons hh.con).src, ws ++ [hh], by rw [Hgc.out], hws.s0, hws.s1, hws.t0, by have := HR.out; omega, by have := HW.out; have := HR.out; simp; omega, Lib.hid (by rw [hway.out, Hwf.out, List.append_assoc]; rfl), hv6, hx6⟩
      ·have dt : decide (gi tree nd < 0) = false := decide_eq_false htr
       have hwe : p.wayF bk q tree T 17 m = ws := by
        rw [hway.out]
        cases gk with
        | zero => simp [Pln.wayF]
        | succ k => unfold Pln.wayF; rw [if_neg htr, List.append_nil]
       have Hwe := Lib.hid hwe
       obtain ⟨Aw, cw, rfl, hRw⟩ := ow.form
       have hba' := hba
       have hbk2 := fun w => back_any Aw ws.length cw w
       clear hwe htr
       go_wp2_with fail
       refine (hbk2 _).mono ?_
       clear hbk2
       rintro e wd ⟨rfl, hbd, hsd, kd⟩
       clear s1 s2 s3 s4 cT
       go_wp2_with fail
       have HNX := Lib.hid (show ∀ r, p.GrowR bk q (mem.drop (j + 1)) (ws.reverse.foldl p.addB (l, tree)) r -> p.GrowR bk q mem ([], startL q) r from fun r hr => hgr.out r (by
        rw [Hdr.out]
        show (if _ then _ else _)
        rw [if_neg (by have := Hin0.out; show ¬ 0 <= gi tree m; omega)]
        refine ⟨T, HET.out, ?_⟩
        rw [if_neg (by have := Hlate.out; omega)]
        show p.GrowR bk q _ ((p.wayF bk q tree T 17 m).reverse.foldl p.addB (l, tree)) r
        rw [Hwe.out]
        exact hr))
       have hwin : ∀ h ∈ ws, p.HopP bk q tree T h := fun h hm => way_in HG.out htl HET.out 17 hm0 hm1 (by have := Hlate.out; omega) h (by rw [Hwe.out]; exact hm)
       have Hwin := Lib.hid hwin
       have xd := hx.trans hbd
       have hsz8 := hE8.size
       have hszx := hx.size
       have hszd := hbd.size
       have hsza := hba'.size
       have hszl := hB8.size
       have hlT8 := kT8.lt
       have hs78 : W7.heap.size <= W8.heap.size := by omega
       have hs8d : W8.heap.size <= wd.heap.size := by omega
       have hs14 := hE14.size
       have hwl3 : ws.length <= 17 := by have := HW.out; omega
       have how := fun b hb => (ow.block (g := b) hb).2
       have hob7 : ∀ b, ul.ownBlock = some b -> W7.heap.size <= b /\ b < W8.heap.size := fun b hb => ⟨(ol8.block hb).1, (ol8.block hb).2⟩
       clear hwin
       refine (wpIn_wide (n := 5)).1 ?_
       refine wpIn_rangeFunc_ownH rfl (by omega) (gf := 165) (lb := #[.pointer (some ⟨wr.heap.size, 0, none⟩)]) rfl trivial (enters_of Tryz.func165 (by kernel_rfl) rfl)
        (back_stops wr.heap.size wd.heap.size w4.heap.size W8.heap.size Aw cw ws wd (ow.ext hbd) (fun b hb => by have := how b hb; omega) (by omega) kd ⟨by omega, by omega⟩)
        KpZ.trans (fun W l o o' hl _ _ _ => KpZ.put W l o' hl) (Below.refl _ _) (fun _ => rfl)
        (BRl p l tree w4.heap.size w6.heap.size W7.heap.size w4 wd.heap.size W8.heap.size ds) (fun _ _ _ => False) (brl_own (by omega)) (fun _ _ _ _ _ hs _ _ => hs)
        ⟨ul, kl8.ext xd, ol8.ext xd, kT8.ext xd, fun b hb => .inr (hob7 b hb).2, hE8.trans xd, (hds8.ext xd).more (by omega), Nat.le_refl _⟩
        (fun x a' W => ∃ Bx, wd.heap.size <= Bx /\ Blk W Bx 94 #[.int .i64 x.1.2.con, .int .i64 x.1.2.beg, .int .i64 x.1.2.en, .int .i64 x.1.2.arr] /\ a' = { tmps := #[.agg #[.slice Aq p.quo.length cq, .slice Ac p.cons.length cc, .slice Al bk.length cl, .slice Ah nh ch], .agg #[.int .i64 q.src, .int .i64 q.dst, .int .i64 q.size, .int .i64 q.ready, .int .i64 q.dead, .int .i64 q.prio, .bool q.cust], .slice (some ⟨bm, om, none⟩) mem.length cm, .pointer (some ⟨w.heap.size, 0, none⟩), .pointer (some ⟨w.heap.size + 1, 0, none⟩), undef, .slice none 0 0, .slice none 0 0, .int .i64 0, .pointer (some ⟨W0.heap.size, 0, none⟩), .pointer (some ⟨w4.heap.size, 0, none⟩), .pointer (some ⟨w6.heap.size, 0, none⟩), undef, .int .i64 m, .pointer (some ⟨wa.heap.size, 0, none⟩), .slice Aw ws.length cw, .int .i64 nd, u17, undef, .pointer (some ⟨Bx, 0, none⟩), undef, undef, undef, undef, .pointer (some ⟨w.heap.size, 0, none⟩), .agg #[.slice Aq p.quo.length cq, .slice Ac p.cons.length cc], .agg #[.slice Aq p.quo.length cq, .slice Ac p.cons.length cc, .slice Al bk.length cl, .slice Ah nh ch], .int .i64 0, .bool false, .bool false, .agg #[.slice Aq p.quo.length cq, .slice Ac p.cons.length cc], .agg #[.int .i64 q.src, .int .i64 q.dst, .int .i64 q.size, .int .i64 q.ready, .int .i64 q.dead, .int .i64 q.prio, .bool q.cust], .int .i64 0, .bool false, .bool false, .bool false, .agg #[.slice Aq p.quo.length cq, .slice Ac p.cons.length cc], .agg #[.int .i64 q.src, .int .i64 q.dst, .int .i64 q.size, .int .i64 q.ready, .int .i64 q.dead, .int .i64 q.prio, .bool q.cust], .slice (some ⟨bm, om, none⟩) mem.length cm, .bool true, .bool false, .bool false, .agg #[.int .i64 q.src, .int .i64 q.dst, .int .i64 q.size, .int .i64 q.ready, .int .i64 q.dead, .int .i64 q.prio, .bool q.cust], .agg (arrV (startL q)), .slice (some ⟨bm, om, none⟩) mem.length cm, .int .i64 mem.length, .int .i64 j, .bool true, .pointer (some ⟨bm, om + j, none⟩), .int .i64 m, .int .i64 m, .pointer (some ⟨w6.heap.size, m.toNat, none⟩), .int .i64 (gi tree m), .bool false, .agg #[.slice Aq p.quo.length cq, .slice Ac p.cons.length cc, .slice Al bk.length cl, .slice Ah nh ch], .agg #[.int .i64 q.src, .int .i64 q.dst, .int .i64 q.size, .int .i64 q.ready, .int .i64 q.dead, .int .i64 q.prio, .bool q.cust], .agg (arrV tree), .agg (arrV T), .int .i64 m, .pointer (some ⟨wa.heap.size, m.toNat, none⟩), .int .i64 (gi T m), .bool false, .int .i64 m, .int .i64 nd, .pointer (some ⟨w6.heap.size, nd.toNat, none⟩), .int .i64 (gi tree nd), .bool false, u67, u68, u69, u70, u71, u72, u73, u74, u75, u76, u77, u78, u79, u80, u81, u82, u83, .slice Aw ws.length cw, .func (.func 165) #[] #[.pointer (some ⟨wr.heap.size, 0, none⟩)], .int .i64 x.1.1, .agg #[.int .i64 x.1.2.con, .int .i64 x.1.2.beg, .int .i64 x.1.2.en, .int .i64 x.1.2.arr], undef, undef, undef, undef, undef, undef, undef, undef, undef, undef, undef, undef, undef, undef, undef, undef, undef, undef, undef, undef, undef, u109, undef, undef, undef, undef, undef, undef, undef, undef, undef, undef, undef, undef, undef, undef, undef], defers := [] })
        (fun x a' s X Y row hs hg hr => by obtain ⟨Bx, z1, z2, z3⟩ := hs; exact ⟨Bx, z1, z2.keptc hg (fun r e => (hr r e).2), z3⟩) ?assign ?body ?done ?stop
       case assign =>
        rintro li pre x W K hi hK
        have hBW : wd.heap.size <= W.heap.size := by obtain ⟨_, _, _, _, _, _, _, z⟩ := hi; exact z
        simp only [bkX]
        gi_wp2
        exact hK _ _ ((KeepsOthers.alloc _ _).from _) (KpZ.of_ext hBW ((Ext.refl W).alloc _)) (hi.ext ((Ext.refl W).alloc _)) ⟨W.heap.size, hBW, Blk.new _ _ _, rfl⟩
       case body =>
        rintro li pre x a' W hl ⟨rr, hrr⟩ ⟨u, q1, q2, q3, q4, q5, q6, q7⟩ ⟨Bx, b1, kx, rfl⟩ hlen
        have hxm : x.1.2 ∈ ws := List.mem_of_getElem? x.2
        have hxp := Hwin.out _ hxm
        have hxi := HopP.inc hxp
        obtain ⟨xi, xif⟩ := HopP.facts hxp
        have hxo := xif.okk H0.out ⟨HG.out.q1, HG.out.q2⟩
        unfold HopOk at hxo
        have hfl := addB_fold_len (p := p) (unB pre) (l, tree)
        have hpl : (unB pre).length = pre.length := by simp [unB]
        have hfi := addB_fold_in (p := p) (unB pre) (l, tree) (fun h hm => by
         obtain ⟨z, hz, rfl⟩ := List.mem_map.1 hm
         exact HopP.inc (Hwin.out _ (List.mem_of_getElem? z.2))) hin
        have hS2 : (unB (pre ++ [x])).foldl p.addB (l, tree) = p.addB ((unB pre).foldl p.addB (l, tree)) x.1.2 := by rw [unB_snoc, List.foldl_append]; rfl
        have HS2 := Lib.hid hS2
        obtain ⟨S, hS⟩ : ∃ S, (unB pre).foldl p.addB (l, tree) = S := ⟨_, rfl⟩
        have HS := Lib.hid hS
        rw [hS] at q2 q3 hfl hfi HS2
        have hSl : S.2.length = 16 := by rw [hfl.2]; exact htl
        have hSn : S.1.length <= 17 * j + 65 := by have := hfl.1; simp only at this; omega
        obtain ⟨y, hy⟩ : ∃ y, x.1.2 = y := ⟨_, rfl⟩
        have Hy := Lib.hid hy
        rw [hy] at kx hxi hxo HS2 ⊢
        have hcl : y.con.toNat < p.cons.length := by unfold InC at hxi; omega
        have hc0 := hxi.1
        have hc1 := hxi.2
        have hcm := h.cm
        have xw := hE4.trans q5
        have Hgc := Lib.hid (gc_get hcl)
        rw [gc_get hcl] at hxo
        obtain ⟨bc, oc, rfl, hbc, j0, j1, j2, j3, j4, j5, j6⟩ := (h.c.ext xw).con hcl
        generalize p.cons[y.con.toNat] = c at *
        obtain ⟨WC, hWC, hBC, hkC, hlC⟩ := box1 W c.cells 61
        simp only [Con.cells] at hWC hkC
        have kpW := ((((hkp.ext hb2).ext hb3).ext hb4)).ext q5
        have t0 := kpW.cell
        have t0' := kpW.lt
        have t1 := kx.cell
        have t2 := kx.lt
        have k1 := q1.ext hBC
        have k2 := q2.ext hBC
        have k3 := q3.ext hBC
        have k4 := kx.ext hBC
        have k5 := kpW.ext hBC
        have hfn : ∀ k, Fence.wide.fn k := fun _ => trivial
        have hmix : Tryz.prog.follows .mixedOrders = true := by kernel_rfl
        clear hS hy hS2 hxp xif hfl hpl
        gi_wp2
        clear hWC
        obtain ⟨Au, cu, rfl, hRu⟩ := q2.form
        have hle := fun w h hA => leading_any Aq cq (some ⟨bc, oc, none⟩) cc p Au cu S.1 c.src w h hA (by omega) hfi
        have qub : ∀ b, (Value.slice Au S.1.length cu).ownBlock = some b -> b ≠ Bx := fun b hb e => by
         subst e
         exact q2.netype hb kx (by decide)
        have qub2 : ∀ b, (Value.slice Au S.1.length cu).ownBlock = some b -> b < W.heap.size := fun b hb => (q2.block hb).2
        unfold Pln.val at hle
        refine wpIn_region_held_round (S := fun w' => Blk w' Bx 94 #[.int .i64 y.con, .int .i64 y.beg, .int .i64 y.en, .int .i64 y.arr] /\ Blk w' W0.heap.size 68 #[.slice Aq p.quo.length cq, .slice (some ⟨bc, oc, none⟩) p.cons.length cc] /\ Blk w' W.heap.size 61 #[.int .i64 c.src, .int .i64 c.dst, .int .i64 c.st, .int .i64 c.en, .int .i64 c.rate, .int .i64 c.rng, .int .i64 c.loss]) hmix (fun ⟨_, _, h⟩ => h) (by kernel_rfl) ⟨k4, k5, hkC⟩ (fun hS0 => ?_)
        have l4 := k4.lt
        have l5 := k5.lt
        have l6 := hkC.lt
        have l1 := k1.lt
        have f1 := k1.cell
        have f3 := (hS0.2.1).cell
        have f4 := (hS0.1).cell
        have f6 := (hS0.2.2).cell
        have hxo0 := hxo.1
        have hxo1 := hxo.2.1
        have q5s := q5.size
        refine wpAnyH_take (i := 4) (v := ?_) rfl (by kernel_rfl) (by kernel_rfl) (by kernel_rfl) (fun _ _ _ h => h) (Or.inl ⟨by rfl, ?_⟩) (by assumption) ?_
        rotate_left
        ·intro w' hw'
         (try have hC := hw'.2)
         (try (obtain ⟨hw1, hw2, hw3⟩ := hw'; have e1 := Blk.cell hw1; have e2 := Blk.cell hw2; have e3 := Blk.cell hw3))
         go_simp
         first | done | with_reducible rfl
        refine wpAnyH_take (i := 1) (v := ?_) rfl (by kernel_rfl) (by kernel_rfl) (by kernel_rfl) (fun _ _ _ h => h) (Or.inl ⟨by rfl, ?_⟩) (by assumption) ?_
        rotate_left
        ·intro w' hw'
         (try have hC := hw'.2)
         (try (obtain ⟨hw1, hw2, hw3⟩ := hw'; have e1 := Blk.cell hw1; have e2 := Blk.cell hw2; have e3 := Blk.cell hw3))
         go_simp
         first | done | with_reducible rfl
        refine wpAnyH_take (i := 2) (v := ?_) rfl (by kernel_rfl) (by kernel_rfl) (by kernel_rfl) (fun _ _ _ h => h) (Or.inl ⟨by rfl, ?_⟩) (by assumption) ?_
        rotate_left
        ·intro w' hw'
         (try have hC := hw'.2)
         (try (obtain ⟨hw1, hw2, hw3⟩ := hw'; have e1 := Blk.cell hw1; have e2 := Blk.cell hw2; have e3 := Blk.cell hw3))
         go_simp
         first | done | with_reducible rfl
        refine wpAnyH_take (i := 5) (v := ?_) rfl (by kernel_rfl) (by kernel_rfl) (by kernel_rfl) (fun _ _ _ h => h) (Or.inl ⟨by rfl, ?_⟩) (by assumption) ?_
        rotate_left
        ·intro w' hw'
         (try have hC := hw'.2)
         (try (obtain ⟨hw1, hw2, hw3⟩ := hw'; have e1 := Blk.cell hw1; have e2 := Blk.cell hw2; have e3 := Blk.cell hw3))
         go_simp
         first | done | with_reducible rfl
        refine wpAnyH_ready (rs := [0, 3]) (by kernel_rfl) (by simp) ?_
        refine AllReadyH.cons rfl (fun K hK => ?_) (AllReadyH.cons rfl (fun K hK => ?_) AllReadyH.nil)
        ·go_simp
         refine hK.out _ _ hS0 (fun _ => ?_)
         clear hK K
         refine wpAnyH_ready (rs := [3]) (by kernel_rfl) (by simp) ?_
         refine AllReadyH.cons rfl (fun K hK => ?_) AllReadyH.nil
         go_simp
         refine hK.out _ _ hS0 (fun _ => ?_)
         clear hK K
         refine wpAnyH_ready (rs := [6]) (by kernel_rfl) (by simp) ?_
         refine AllReadyH.cons rfl (fun K hK => ?_) AllReadyH.nil
         go_simp
         refine (hle _ (h.ext (xw.trans (hBC.trans ((Ext.refl WC).drew)))) (hRu.ext (hBC.trans ((Ext.refl WC).drew)))).mono ?_
         rintro e w9 ⟨rfl, hb9⟩
         have xwc : Ext WC w9 := ((Ext.refl WC).drew).trans hb9
         have xw9 := hBC.trans xwc
         have k19 := k1.ext xwc
         have k39 := k3.ext xwc
         have k49 := k4.ext xwc
         have k59 := k5.ext xwc
         have k69 := hkC.ext xwc
         have o9 := k2.ext xwc
         have f19 := k19.cell
         have l19 := k19.lt
         have z9 := xw9.size
         refine hK.out _ _ ⟨k49, k59, k69⟩ (fun hS1 => ?_)
         clear hK K
         refine wpAnyH_take (i := 7) (v := ?_) rfl (by kernel_rfl) (by kernel_rfl) (by kernel_rfl) (fun _ _ _ h => h) (Or.inl ⟨by rfl, ?_⟩) (by assumption) ?_
         rotate_left
         ·intro w' hw'
          (try have hC := hw'.2)
          (try (obtain ⟨hw1, hw2, hw3⟩ := hw'; have e1 := Blk.cell hw1; have e2 := Blk.cell hw2; have e3 := Blk.cell hw3))
          go_simp
          first | done | with_reducible rfl
         refine wpAnyH_ready (rs := [8]) (by kernel_rfl) (by simp) ?_
         refine AllReadyH.cons rfl (fun K hK => ?_) AllReadyH.nil
         go_simp
         refine hK.out _ _ ⟨k49.ext ((Ext.refl w9).alloc _), k59.ext ((Ext.refl w9).alloc _), k69.ext ((Ext.refl w9).alloc _)⟩ (fun hS2 => ?_)
         clear hK K
         refine wpAnyH_ready (rs := [9]) (by kernel_rfl) (by simp) ?_
         refine AllReadyH.cons rfl (fun K hK => ?_) AllReadyH.nil
         refine step_push (by rfl) (.tmp 94) (.tmp 102) _ (by rfl) W7.heap.size 96 j0' _ 40 Tryz.underlying86 hj0 hy0 hy1 hy2 (by rfl) (.slice Au S.1.length cu) (by rfl) (o9.ext ((Ext.refl _).alloc _)) w9.heap.size (⟨y.con, y.beg, y.en, y.arr, p.lead S.1 c.src⟩ : Br) (by rfl) (Blk.new w9 _ _) (by simp only [maxLen]; omega) (by omega) (by simp; omega) ?_
         intro v6 wq hv6 hg6 hat6
         obtain ⟨A6, d6, rfl, hR6⟩ := hv6.form
         simp only [List.length_append, List.length_cons, List.length_nil, Nat.zero_add] at hv6 hat6
         have FIN := Lib.hid (brl_put HS.out Hy.out Hgc.out q1 q2 q3 q4 q5 q6 q7 xw9 (Nat.le_refl _) hl5 (by omega) (by omega) (by omega) hv6 hg6 hat6)
         have m1 := Blk.kept (k19.ext ((Ext.refl w9).alloc _)) hg6 (fun e' => by have := (q2.block e'.symm).1; omega)
         have m3 := Blk.kept (k39.ext ((Ext.refl w9).alloc _)) hg6 (fun e' => by have := (q2.block e'.symm).1; omega)
         have m4 := Blk.kept (k49.ext ((Ext.refl w9).alloc _)) hg6 (fun e' => qub _ e'.symm rfl)
         have m5 := Blk.kept (k59.ext ((Ext.refl w9).alloc _)) hg6 (fun e' => by have := (q2.block e'.symm).1; omega)
         have m6 := Blk.kept (k69.ext ((Ext.refl w9).alloc _)) hg6 (fun e' => by have := qub2 _ e'.symm; omega)
         refine hK.out _ _ ⟨m4, m5, m6⟩ (fun hS3 => ?_)
         clear hK K
         refine wpAnyH_ready (rs := [10]) (by kernel_rfl) (by simp) ?_
         refine AllReadyH.cons rfl (fun K hK => ?_) AllReadyH.nil
         have n1 := m1.cell
         have n2 := m1.lt
         have n3 := m1.frozen
         go_simp
         have r3 := m3.far (p := ⟨w4.heap.size, 0, none⟩) (by simp; omega) (.slice A6 (S.1.length + 1) d6)
         have r4 := m4.far (p := ⟨w4.heap.size, 0, none⟩) (by simp; omega) (.slice A6 (S.1.length + 1) d6)
         have r5 := m5.far (p := ⟨w4.heap.size, 0, none⟩) (by simp; omega) (.slice A6 (S.1.length + 1) d6)
         have r6 := m6.far (p := ⟨w4.heap.size, 0, none⟩) (by simp; omega) (.slice A6 (S.1.length + 1) d6)
         refine hK.out _ _ ⟨r4, r5, r6⟩ (fun hS4 => ?_)
         clear hK K
         refine wpAnyH_done (by kernel_rfl) ?_ _
         have g1 := r4.cell
         have g2 := r4.lt
         have g3 := r6.cell
         have g4 := r6.lt
         have g5 := (r3.cell c.dst.toNat).trans (arrV_get (by omega))
         have g6 := r3.lt
         have g7 := r3.frozen
         clear n1 n3 f19 f1 f3 t0 t1
         gi_wp2
         exact FIN.out
        ·go_simp
         refine hK.out _ _ hS0 (fun _ => ?_)
         clear hK K
         refine wpAnyH_ready (rs := [0, 6]) (by kernel_rfl) (by simp) ?_
         refine AllReadyH.cons rfl (fun K hK => ?_) (AllReadyH.cons rfl (fun K hK => ?_) AllReadyH.nil)
         ·go_simp
          refine hK.out _ _ hS0 (fun _ => ?_)
          clear hK K
          refine wpAnyH_ready (rs := [6]) (by kernel_rfl) (by simp) ?_
          refine AllReadyH.cons rfl (fun K hK => ?_) AllReadyH.nil
          go_simp
          refine (hle _ (h.ext (xw.trans (hBC.trans ((Ext.refl WC).drew)))) (hRu.ext (hBC.trans ((Ext.refl WC).drew)))).mono ?_
          rintro e w9 ⟨rfl, hb9⟩
          have xwc : Ext WC w9 := ((Ext.refl WC).drew).trans hb9
          have xw9 := hBC.trans xwc
          have k19 := k1.ext xwc
          have k39 := k3.ext xwc
          have k49 := k4.ext xwc
          have k59 := k5.ext xwc
          have k69 := hkC.ext xwc
          have o9 := k2.ext xwc
          have f19 := k19.cell
          have l19 := k19.lt
          have z9 := xw9.size
          refine hK.out _ _ ⟨k49, k59, k69⟩ (fun hS1 => ?_)
          clear hK K
          refine wpAnyH_take (i := 7) (v := ?_) rfl (by kernel_rfl) (by kernel_rfl) (by kernel_rfl) (fun _ _ _ h => h) (Or.inl ⟨by rfl, ?_⟩) (by assumption) ?_
          rotate_left
          ·intro w' hw'
           (try have hC := hw'.2)
           (try (obtain ⟨hw1, hw2, hw3⟩ := hw'; have e1 := Blk.cell hw1; have e2 := Blk.cell hw2; have e3 := Blk.cell hw3))
           go_simp
           first | done | with_reducible rfl
          refine wpAnyH_ready (rs := [8]) (by kernel_rfl) (by simp) ?_
          refine AllReadyH.cons rfl (fun K hK => ?_) AllReadyH.nil
          go_simp
          refine hK.out _ _ ⟨k49.ext ((Ext.refl w9).alloc _), k59.ext ((Ext.refl w9).alloc _), k69.ext ((Ext.refl w9).alloc _)⟩ (fun hS2 => ?_)
          clear hK K
          refine wpAnyH_ready (rs := [9]) (by kernel_rfl) (by simp) ?_
          refine AllReadyH.cons rfl (fun K hK => ?_) AllReadyH.nil
          refine step_push (by rfl) (.tmp 94) (.tmp 102) _ (by rfl) W7.heap.size 96 j0' _ 40 Tryz.underlying86 hj0 hy0 hy1 hy2 (by rfl) (.slice Au S.1.length cu) (by rfl) (o9.ext ((Ext.refl _).alloc _)) w9.heap.size (⟨y.con, y.beg, y.en, y.arr, p.lead S.1 c.src⟩ : Br) (by rfl) (Blk.new w9 _ _) (by simp only [maxLen]; omega) (by omega) (by simp; omega) ?_
          intro v6 wq hv6 hg6 hat6
          obtain ⟨A6, d6, rfl, hR6⟩ := hv6.form
          simp only [List.length_append, List.length_cons, List.length_nil, Nat.zero_add] at hv6 hat6
          have FIN := Lib.hid (brl_put HS.out Hy.out Hgc.out q1 q2 q3 q4 q5 q6 q7 xw9 (Nat.le_refl _) hl5 (by omega) (by omega) (by omega) hv6 hg6 hat6)
          have m1 := Blk.kept (k19.ext ((Ext.refl w9).alloc _)) hg6 (fun e' => by have := (q2.block e'.symm).1; omega)
          have m3 := Blk.kept (k39.ext ((Ext.refl w9).alloc _)) hg6 (fun e' => by have := (q2.block e'.symm).1; omega)
          have m4 := Blk.kept (k49.ext ((Ext.refl w9).alloc _)) hg6 (fun e' => qub _ e'.symm rfl)
          have m5 := Blk.kept (k59.ext ((Ext.refl w9).alloc _)) hg6 (fun e' => by have := (q2.block e'.symm).1; omega)
          have m6 := Blk.kept (k69.ext ((Ext.refl w9).alloc _)) hg6 (fun e' => by have := qub2 _ e'.symm; omega)
          refine hK.out _ _ ⟨m4, m5, m6⟩ (fun hS3 => ?_)
          clear hK K
          refine wpAnyH_ready (rs := [10]) (by kernel_rfl) (by simp) ?_
          refine AllReadyH.cons rfl (fun K hK => ?_) AllReadyH.nil
          have n1 := m1.cell
          have n2 := m1.lt
          have n3 := m1.frozen
          go_simp
          have r3 := m3.far (p := ⟨w4.heap.size, 0, none⟩) (by simp; omega) (.slice A6 (S.1.length + 1) d6)
          have r4 := m4.far (p := ⟨w4.heap.size, 0, none⟩) (by simp; omega) (.slice A6 (S.1.length + 1) d6)
          have r5 := m5.far (p := ⟨w4.heap.size, 0, none⟩) (by simp; omega) (.slice A6 (S.1.length + 1) d6)
          have r6 := m6.far (p := ⟨w4.heap.size, 0, none⟩) (by simp; omega) (.slice A6 (S.1.length + 1) d6)
          refine hK.out _ _ ⟨r4, r5, r6⟩ (fun hS4 => ?_)
          clear hK K
          refine wpAnyH_done (by kernel_rfl) ?_ _
          have g1 := r4.cell
          have g2 := r4.lt
          have g3 := r6.cell
          have g4 := r6.lt
          have g5 := (r3.cell c.dst.toNat).trans (arrV_get (by omega))
          have g6 := r3.lt
          have g7 := r3.frozen
          clear n1 n3 f19 f1 f3 t0 t1
          gi_wp2
          exact FIN.out
         ·go_simp
          refine (hle _ (h.ext (xw.trans (hBC.trans ((Ext.refl WC).drew)))) (hRu.ext (hBC.trans ((Ext.refl WC).drew)))).mono ?_
          rintro e w9 ⟨rfl, hb9⟩
          have xwc : Ext WC w9 := ((Ext.refl WC).drew).trans hb9
          have xw9 := hBC.trans xwc
          have k19 := k1.ext xwc
          have k39 := k3.ext xwc
          have k49 := k4.ext xwc
          have k59 := k5.ext xwc
          have k69 := hkC.ext xwc
          have o9 := k2.ext xwc
          have f19 := k19.cell
          have l19 := k19.lt
          have z9 := xw9.size
          refine hK.out _ _ ⟨k49, k59, k69⟩ (fun hS1 => ?_)
          clear hK K
          refine wpAnyH_take (i := 7) (v := ?_) rfl (by kernel_rfl) (by kernel_rfl) (by kernel_rfl) (fun _ _ _ h => h) (Or.inl ⟨by rfl, ?_⟩) (by assumption) ?_
          rotate_left
          ·intro w' hw'
           (try have hC := hw'.2)
           (try (obtain ⟨hw1, hw2, hw3⟩ := hw'; have e1 := Blk.cell hw1; have e2 := Blk.cell hw2; have e3 := Blk.cell hw3))
           go_simp
           first | done | with_reducible rfl
          refine wpAnyH_ready (rs := [0, 8]) (by kernel_rfl) (by simp) ?_
          refine AllReadyH.cons rfl (fun K hK => ?_) (AllReadyH.cons rfl (fun K hK => ?_) AllReadyH.nil)
          ·go_simp
           refine hK.out _ _ hS1 (fun _ => ?_)
           clear hK K
           refine wpAnyH_ready (rs := [8]) (by kernel_rfl) (by simp) ?_
           refine AllReadyH.cons rfl (fun K hK => ?_) AllReadyH.nil
           go_simp
           refine hK.out _ _ ⟨k49.ext ((Ext.refl w9).alloc _), k59.ext ((Ext.refl w9).alloc _), k69.ext ((Ext.refl w9).alloc _)⟩ (fun hS2 => ?_)
           clear hK K
           refine wpAnyH_ready (rs := [9]) (by kernel_rfl) (by simp) ?_
           refine AllReadyH.cons rfl (fun K hK => ?_) AllReadyH.nil
           refine step_push (by rfl) (.tmp 94) (.tmp 102) _ (by rfl) W7.heap.size 96 j0' _ 40 Tryz.underlying86 hj0 hy0 hy1 hy2 (by rfl) (.slice Au S.1.length cu) (by rfl) (o9.ext ((Ext.refl _).alloc _)) w9.heap.size (⟨y.con, y.beg, y.en, y.arr, p.lead S.1 c.src⟩ : Br) (by rfl) (Blk.new w9 _ _) (by simp only [maxLen]; omega) (by omega) (by simp; omega) ?_
           intro v6 wq hv6 hg6 hat6
           obtain ⟨A6, d6, rfl, hR6⟩ := hv6.form
           simp only [List.length_append, List.length_cons, List.length_nil, Nat.zero_add] at hv6 hat6
           have FIN := Lib.hid (brl_put HS.out Hy.out Hgc.out q1 q2 q3 q4 q5 q6 q7 xw9 (Nat.le_refl _) hl5 (by omega) (by omega) (by omega) hv6 hg6 hat6)
           have m1 := Blk.kept (k19.ext ((Ext.refl w9).alloc _)) hg6 (fun e' => by have := (q2.block e'.symm).1; omega)
           have m3 := Blk.kept (k39.ext ((Ext.refl w9).alloc _)) hg6 (fun e' => by have := (q2.block e'.symm).1; omega)
           have m4 := Blk.kept (k49.ext ((Ext.refl w9).alloc _)) hg6 (fun e' => qub _ e'.symm rfl)
           have m5 := Blk.kept (k59.ext ((Ext.refl w9).alloc _)) hg6 (fun e' => by have := (q2.block e'.symm).1; omega)
           have m6 := Blk.kept (k69.ext ((Ext.refl w9).alloc _)) hg6 (fun e' => by have := qub2 _ e'.symm; omega)
           refine hK.out _ _ ⟨m4, m5, m6⟩ (fun hS3 => ?_)
           clear hK K
           refine wpAnyH_ready (rs := [10]) (by kernel_rfl) (by simp) ?_
           refine AllReadyH.cons rfl (fun K hK => ?_) AllReadyH.nil
           have n1 := m1.cell
           have n2 := m1.lt
           have n3 := m1.frozen
           go_simp
           have r3 := m3.far (p := ⟨w4.heap.size, 0, none⟩) (by simp; omega) (.slice A6 (S.1.length + 1) d6)
           have r4 := m4.far (p := ⟨w4.heap.size, 0, none⟩) (by simp; omega) (.slice A6 (S.1.length + 1) d6)
           have r5 := m5.far (p := ⟨w4.heap.size, 0, none⟩) (by simp; omega) (.slice A6 (S.1.length + 1) d6)
           have r6 := m6.far (p := ⟨w4.heap.size, 0, none⟩) (by simp; omega) (.slice A6 (S.1.length + 1) d6)
           refine hK.out _ _ ⟨r4, r5, r6⟩ (fun hS4 => ?_)
           clear hK K
           refine wpAnyH_done (by kernel_rfl) ?_ _
           have g1 := r4.cell
           have g2 := r4.lt
           have g3 := r6.cell
           have g4 := r6.lt
           have g5 := (r3.cell c.dst.toNat).trans (arrV_get (by omega))
           have g6 := r3.lt
           have g7 := r3.frozen
           clear n1 n3 f19 f1 f3 t0 t1
           gi_wp2
           exact FIN.out
          ·go_simp
           refine hK.out _ _ ⟨k49.ext ((Ext.refl w9).alloc _), k59.ext ((Ext.refl w9).alloc _), k69.ext ((Ext.refl w9).alloc _)⟩ (fun hS2 => ?_)
           clear hK K
           refine wpAnyH_ready (rs := [0]) (by kernel_rfl) (by simp) ?_
           refine AllReadyH.cons rfl (fun K hK => ?_) AllReadyH.nil
           go_simp
           refine hK.out _ _ hS2 (fun _ => ?_)
           clear hK K
           refine wpAnyH_ready (rs := [9]) (by kernel_rfl) (by simp) ?_
           refine AllReadyH.cons rfl (fun K hK => ?_) AllReadyH.nil
           refine step_push (by rfl) (.tmp 94) (.tmp 102) _ (by rfl) W7.heap.size 96 j0' _ 40 Tryz.underlying86 hj0 hy0 hy1 hy2 (by rfl) (.slice Au S.1.length cu) (by rfl) (o9.ext ((Ext.refl _).alloc _)) w9.heap.size (⟨y.con, y.beg, y.en, y.arr, p.lead S.1 c.src⟩ : Br) (by rfl) (Blk.new w9 _ _) (by simp only [maxLen]; omega) (by omega) (by simp; omega) ?_
           intro v6 wq hv6 hg6 hat6
           obtain ⟨A6, d6, rfl, hR6⟩ := hv6.form
           simp only [List.length_append, List.length_cons, List.length_nil, Nat.zero_add] at hv6 hat6
           have FIN := Lib.hid (brl_put HS.out Hy.out Hgc.out q1 q2 q3 q4 q5 q6 q7 xw9 (Nat.le_refl _) hl5 (by omega) (by omega) (by omega) hv6 hg6 hat6)
           have m1 := Blk.kept (k19.ext ((Ext.refl w9).alloc _)) hg6 (fun e' => by have := (q2.block e'.symm).1; omega)
           have m3 := Blk.kept (k39.ext ((Ext.refl w9).alloc _)) hg6 (fun e' => by have := (q2.block e'.symm).1; omega)
           have m4 := Blk.kept (k49.ext ((Ext.refl w9).alloc _)) hg6 (fun e' => qub _ e'.symm rfl)
           have m5 := Blk.kept (k59.ext ((Ext.refl w9).alloc _)) hg6 (fun e' => by have := (q2.block e'.symm).1; omega)
           have m6 := Blk.kept (k69.ext ((Ext.refl w9).alloc _)) hg6 (fun e' => by have := qub2 _ e'.symm; omega)
           refine hK.out _ _ ⟨m4, m5, m6⟩ (fun hS3 => ?_)
           clear hK K
           refine wpAnyH_ready (rs := [10]) (by kernel_rfl) (by simp) ?_
           refine AllReadyH.cons rfl (fun K hK => ?_) AllReadyH.nil
           have n1 := m1.cell
           have n2 := m1.lt
           have n3 := m1.frozen
           go_simp
           have r3 := m3.far (p := ⟨w4.heap.size, 0, none⟩) (by simp; omega) (.slice A6 (S.1.length + 1) d6)
           have r4 := m4.far (p := ⟨w4.heap.size, 0, none⟩) (by simp; omega) (.slice A6 (S.1.length + 1) d6)
           have r5 := m5.far (p := ⟨w4.heap.size, 0, none⟩) (by simp; omega) (.slice A6 (S.1.length + 1) d6)
           have r6 := m6.far (p := ⟨w4.heap.size, 0, none⟩) (by simp; omega) (.slice A6 (S.1.length + 1) d6)
           refine hK.out _ _ ⟨r4, r5, r6⟩ (fun hS4 => ?_)
           clear hK K
           refine wpAnyH_done (by kernel_rfl) ?_ _
           have g1 := r4.cell
           have g2 := r4.lt
           have g3 := r6.cell
           have g4 := r6.lt
           have g5 := (r3.cell c.dst.toNat).trans (arrV_get (by omega))
           have g6 := r3.lt
           have g7 := r3.frozen
           clear n1 n3 f19 f1 f3 t0 t1
           gi_wp2
           exact FIN.out
       case done =>
        rintro D ys W hDD hS hBRL hK
        obtain ⟨u, q1, q2, q3, q4, q5, q6, q7⟩ := hBRL
        rw [hS] at q2 q3
        have hfl := addB_fold_len (p := p) ws.reverse (l, tree)
        have hfi := addB_fold_in (p := p) ws.reverse (l, tree) (fun h hm => HopP.inc (Hwin.out h (by simpa using hm))) hin
        go_wp2_with fail
        go_roundg (mem.length - (j + 1))
        case measure => have := Hjn.out; omega
        case rel => exact ⟨j + 1, _, _, u, by have := Hjn.out; omega, by go_num, q1, q2, q3, by rw [hfl.2]; exact htl, hfi, by rw [hfl.1]; simp; omega, HNX, q5, q6.cons hDD (by omega) hK⟩
       case stop =>
        rintro D c pre W _ _ h _
        exact h.elim
  ·obtain rfl : j = mem.length := by omega
   have HGR := Lib.hid (hgr.out (some (l, tree)) (by rw [List.drop_length]; rfl))
   have hllx : l.length <= 1000000 := by omega
   obtain ⟨wo, rfl⟩ : ∃ wo, wo = wr := ⟨_, rfl⟩
   obtain ⟨gq, rfl⟩ : ∃ gq, gq = gk := ⟨_, rfl⟩
   clear s1 s2 s3 s4 s5 s6 s7 s8 s9 hlt hgr
   go_wp2_with fail
   go_loopg [21, 112] mem.length (fun n u x wr => ∃ i : Nat, i + n = mem.length /\ x = .int .i64 i /\ Owns EInt wr wo.heap.size 3 u ((mem.take i).map (gi tree)) /\ Ext wo wr)
   case atStart => exact ⟨0, by omega, rfl, Owns.none_ _ _, Ext.refl _⟩
   case round =>
    obtain ⟨i, hin2, rfl, ou, hx⟩ := hrel
    have Hin2 := Lib.hid hin2
    have hiN : i <= mem.length := by omega
    clear hin2
    have kTr := kT.ext hx
    have klr := kl.ext hx
    have hxs := hx.size
    by_cases hlt2 : i < mem.length
    ·obtain ⟨bm, om, rfl, hbm, cm0⟩ := ((hmm.ext (hE4.trans hE)).ext hx).int hlt2
     have hmr := Hmr.out _ (List.getElem_mem hlt2)
     have hsn := take_snoc hlt2 rfl
     generalize mem[i] = m at *
     have Hsn := Lib.hid (show (mem.take (i + 1)).map (gi tree) = (mem.take i).map (gi tree) ++ [gi tree m] by rw [hsn]; simp)
     have cT := (kTr.cell m.toNat).trans (arrV_get (by omega))
     have eM : ((m.toNat : Nat) : Int) = m := by omega
     rw [eM] at cT
     have lT := kTr.lt
     have hm0 := hmr.1
     have hm1 := hmr.2
     have hlen : ((mem.take i).map (gi tree)).length <= i := by rw [List.length_map]; exact List.length_take_le _ _
     clear hsn eM
     go_wp2_with (at_builtin; refine wpList_push rfl (.tmp 116) (.tmp 120) _ (by rfl) wo.heap.size 3 ii _ 8 Tryz.underlying30 hii hiz hi1 hi2 (by rfl) u21 (by rfl) (ou.ext ((Ext.refl _).alloc _)) wr.heap.size (gi tree m) (by rfl) (Blk.new wr _ _) (by simp only [maxLen]; omega) (by omega) (by simp; omega) ?_; intro v6 wq hv6 hg6 hat6; have hx6 := ext_grown (hx.alloc _) (ou.ext ((Ext.refl _).alloc _)) (Nat.le_refl _) hg6)
     go_roundg (mem.length - (i + 1))
     case measure => have := Hin2.out; omega
     case rel => exact ⟨i + 1, by have := Hin2.out; omega, by go_num, by rw [Hsn.out]; exact hv6, hx6⟩
    ·obtain rfl : i = mem.length := by omega
     rw [List.take_length] at ou
     have olr := ol.ext hx
     have s7 := klr.cell
     have s8 := klr.lt
     go_wp2_with fail
     have hdsx := hds.ext hx
     show LeavesInM _ _ _ _ _ _ ds .returning wr
     refine hdsx.leaves ?_
     intro w' hw'
     have hxe := (hE4.trans hE).trans hx
     have hfin := hw' (fun W => Owns EBr W W7.heap.size 96 ul l /\ Owns EInt W wo.heap.size 3 u21 (mem.map (gi tree)) /\ Ext w W)
      (fun s X Y row hs hg hr => ⟨hs.1.keptc hg (fun r e => (hr r e).2), hs.2.1.keptc hg (fun r e => (hr r e).2), hs.2.2.keptb hg (fun r e => Nat.le_trans hE4.size (hr r e).1)⟩) ⟨olr, ou, hxe⟩
     exact ⟨_, results_tmp3 rfl _ _ _, hfin.2.2, .inl ⟨Hgo.out, some (l, tree), HGR.out, ul, u21, rfl, hfin.1.mono (hE7.size), hfin.2.1.mono ((hE4.trans hE).size), hllx⟩⟩
end
section
open Go.RowKit Go.Shelf
theorem Grow_any (Aq : Option Addr) (cq : Nat) (Ac : Option Addr) (cc : Nat) (p : Pln) (Al : Option Addr) (cl : Nat) (bk : List Bk) (Ah : Option Addr) (nh ch : Nat) (q : Req) (Am : Option Addr) (cm : Nat) (mem : List Int) (k : Int) (w : World) (h : PlnRd w Aq cq Ac cc p) (hbk : Rd EBk w Al bk) (hmm : Rd EInt w Am mem) (hml : mem.length <= 1000000)
 (hT : TabC p bk (.agg #[.slice Aq p.quo.length cq, .slice Ac p.cons.length cc, .slice Al bk.length cl, .slice Ah nh ch]) k w) :
 Calls Tryz.prog 26 #[.agg #[.slice Aq p.quo.length cq, .slice Ac p.cons.length cc, .slice Al bk.length cl, .slice Ah nh ch], q.val, .slice Am mem.length cm] w (GrowP p bk q mem k w) := by
 by_cases g : p.growOk q mem k
 case pos =>
  obtain ⟨rfl, hf, hm⟩ := g
  exact Grow_good Aq cq Ac cc p Al cl bk Ah nh ch q Am cm mem w h hbk hmm hml hT hf hm
 case neg => exact Grow_bad Aq cq Ac cc p Al cl bk Ah nh ch q Am cm mem k w h hmm hml hT g
end
end Go.Proofs.YtemkpimngbbpkaaGreat

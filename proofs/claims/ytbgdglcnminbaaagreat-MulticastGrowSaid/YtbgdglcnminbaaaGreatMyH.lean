/- Layer 35, the reference (multicast): Grow. -/
import Derived.Test.YtbgdglcnminbaaaGreatMyNW
import Derived.Test.YtbgdglcnminbaaaGreatMyXV
import Derived.Test.YtbgdglcnminbaaaGreatMyST
namespace Go.Proofs.YtbgdglcnminbaaaGreat
set_option linter.unusedVariables false
set_option linter.unusedSimpArgs false
open Go.RowKit Go.Shelf
attribute [local go_sem] Oper.semAt_some

theorem Owns.cellsZ {α : Type} {E : Elt α} {w : World} {base : Nat} {e : TypeId} {v : Value} {l : List α} (h : Owns E w base e v l) {r : Nat} (hr : v.ownBlock = some r) : ∃ cur fr, w.heap[r]? = some (.cells cur e fr) := by
  rcases h.2 with ⟨rfl, _⟩ | ⟨g, cap, cur, rfl, _, hh, _⟩
  · cases hr
  · injection hr with hr
    subst hr
    exact ⟨_, _, hh⟩
/-- What grows is a list of another kind. -/
theorem Owns.kepttZ {α β : Type} {E : Elt α} {E' : Elt β} {w w' : World} {base base' : Nat} {e e' : TypeId} {v v' : Value} {l : List α} {l' : List β} (h : Owns E w base e v l) (h' : Owns E' w base' e' v' l') (hne : e ≠ e') (hg : w.grownBy w' v'.ownBlock) : Owns E w' base e v l :=
  h.kept hg (fun g hv e2 => by
    obtain ⟨c1, f1, h1⟩ := h.cellsZ hv
    obtain ⟨c2, f2, h2⟩ := h'.cellsZ e2.symm
    rw [h1] at h2
    injection h2 with h2
    injection h2 with _ h2 _
    exact hne h2)

set_option maxRecDepth 100000 in
set_option maxHeartbeats 16000000 in
theorem rGrow_bad (Aq : Option Addr) (cq : Nat) (Ac : Option Addr) (cc : Nat) (p : Pln) (Al : Option Addr) (cl : Nat) (bk : List Bk) (Ah : Option Addr) (ch : Nat) (hd : List Hd) (q : Req) (Am : Option Addr) (cm : Nat) (mem : List Int) (w : World) (h : PlnRd w Aq cq Ac cc p) (hbk : Rd EBk w Al bk) (hbm : bk.length ≤ 1000000) (hhd : Rd EHd w Ah hd) (hhm : hd.length ≤ 1000000) (hmm : Rd EInt w Am mem) (hml : mem.length ≤ 1000000) (hb : ¬ p.growOk q mem (p.tabE bk hd)) :
    Calls Tryz.prog 8 #[.agg #[.slice Aq p.quo.length cq, .slice Ac p.cons.length cc, .slice Al bk.length cl, .slice Ah hd.length ch], q.val, .slice Am mem.length cm] w fun e w' => e = .returned (.tuple #[.slice none 0 0, .slice none 0 0, .int .i64 1]) ∧ Ext w w' := by
  obtain ⟨W1, hW1, hB1, hk1, hkq, hl1, hlq⟩ := box2 w #[.slice Aq p.quo.length cq, .slice Ac p.cons.length cc, .slice Al bk.length cl, .slice Ah hd.length ch] q.cells 29 31
  simp only [Req.cells] at hW1 hkq
  have hta := rtables_any Aq cq Ac cc p Al cl bk Ah ch hd W1 (h.ext hB1) (hbk.ext hB1) hbm (hhd.ext hB1) hhm
  have hcr := fun w' (hw' : Ext W1 w') => uCheckRequest_any Aq cq Ac cc p q w' ((h.ext hB1).ext hw')
  have hme := fun w' (hw' : Ext W1 w') => rmembers_any Aq cq Ac cc p q Am cm mem w' ((hmm.ext hB1).ext hw') hml h.qm
  have r0 := hk1.cell
  unfold Pln.val Req.val at hcr hme
  unfold Req.val
  unfold Pln.growOk at hb
  by_cases ht : p.tabE bk hd = 0
  case' neg =>
    have dt : (p.tabE bk hd != 0) = true := by rw [bne_iff_ne]; exact ht
    clear hb ht
    go_enter Tryz.func8, Tryz.ntmps8
    go_wp2_with fail
    clear hW1
    refine hta.mono ?_
    clear hta
    rintro e w1 ⟨rfl, hb1⟩
    go_wp2
    refine bodyPost_ret (results_tmp3 rfl _ _ _) rfl ?_
    exact ⟨rfl, hB1.trans hb1⟩
  rw [ht] at hta
  by_cases hf : fineR p q = true
  case' neg =>
    have Hf := Lib.hid hf
    clear hb ht hf
    go_enter Tryz.func8, Tryz.ntmps8
    go_wp2_with fail
    clear hW1
    refine hta.mono ?_
    clear hta
    rintro e w1 ⟨rfl, hb1⟩
    have r1 := (hk1.ext hb1).cell
    have r2 := (hkq.ext hb1).cell
    have r3 := (hk1.ext hb1).lt
    have r4 := (hkq.ext hb1).lt
    go_wp2_with fail
    refine (hcr _ hb1).mono ?_
    clear hcr
    rintro e w2 ⟨k, rfl, hk0, hb2⟩
    have dk : (k != 0) = true := by
      rw [bne_iff_ne]
      exact fun e => Hf.out (hk0.1 e)
    clear hk0
    go_wp2
    refine bodyPost_ret (results_tmp3 rfl _ _ _) rfl ?_
    exact ⟨rfl, (hB1.trans hb1).trans hb2⟩
  have hmb : memsB p.quo.length q.src mem = false := by
    cases e : memsB p.quo.length q.src mem
    · rfl
    · exact absurd ⟨ht, hf, e⟩ hb
  rw [hmb] at hme
  clear hb ht hmb
  go_enter Tryz.func8, Tryz.ntmps8
  go_wp2_with fail
  clear hW1
  refine hta.mono ?_
  clear hta
  rintro e w1 ⟨rfl, hb1⟩
  have r1 := (hk1.ext hb1).cell
  have r2 := (hkq.ext hb1).cell
  have r3 := (hk1.ext hb1).lt
  have r4 := (hkq.ext hb1).lt
  go_wp2_with fail
  refine (hcr _ hb1).mono ?_
  clear hcr
  rintro e w2 ⟨k, rfl, hk0, hb2⟩
  obtain rfl := hk0.2 hf
  have hb12 := hb1.trans hb2
  have s1 := (hk1.ext hb12).cell
  have s2 := (hkq.ext hb12).cell
  have s3 := (hk1.ext hb12).lt
  have s4 := (hkq.ext hb12).lt
  clear hk0 hf
  go_wp2_with fail
  refine (hme _ hb12).mono ?_
  rintro e w3 ⟨rfl, hb3⟩
  go_wp2
  refine bodyPost_ret (results_tmp3 rfl _ _ _) rfl ?_
  exact ⟨rfl, (hB1.trans hb12).trans hb3⟩

set_option maxRecDepth 100000 in
set_option maxHeartbeats 32000000 in
theorem rGrow_good (Aq : Option Addr) (cq : Nat) (Ac : Option Addr) (cc : Nat) (p : Pln) (Al : Option Addr) (cl : Nat) (bk : List Bk) (Ah : Option Addr) (ch : Nat) (hd : List Hd) (q : Req) (Am : Option Addr) (cm : Nat) (mem : List Int) (w : World) (h : PlnRd w Aq cq Ac cc p) (hbk : Rd EBk w Al bk) (hbm : bk.length ≤ 1000000) (hhd : Rd EHd w Ah hd) (hhm : hd.length ≤ 1000000) (hmm : Rd EInt w Am mem) (hml : mem.length ≤ 1000000)
    (ht : p.tabE bk hd = 0) (h0 : p.bkChk bk = 0) (hf : fineR p q = true) (hmb : memsB p.quo.length q.src mem = true) (r : Option (List Br × List Int)) (hr : p.GrowR bk q mem ([], startL q) r) :
    Calls Tryz.prog 8 #[.agg #[.slice Aq p.quo.length cq, .slice Ac p.cons.length cc, .slice Al bk.length cl, .slice Ah hd.length ch], q.val, .slice Am mem.length cm] w fun e w' => Ext w w' ∧
      ((r = none ∧ e = .returned (.tuple #[.slice none 0 0, .slice none 0 0, .int .i64 18])) ∨ ∃ t u v, r = some t ∧ e = .returned (.tuple #[u, v, .int .i64 0]) ∧ Owns EBr w' w.heap.size 57 u t.1 ∧ Owns EInt w' w.heap.size 3 v (mem.map (gi t.2)) ∧ t.1.length ≤ 16) := by
  obtain ⟨i0, hi0, hz0, hz1, hz2⟩ := info_parts info_hopm
  obtain ⟨i1, hi1, hy0, hy1, hy2⟩ := info_parts info_br
  obtain ⟨i2, hi2, hx0, hx1, hx2⟩ := info_parts info_int
  obtain ⟨W1, hW1, hB1, hk1, hkq, hl1, hlq⟩ := box2 w #[.slice Aq p.quo.length cq, .slice Ac p.cons.length cc, .slice Al bk.length cl, .slice Ah hd.length ch] q.cells 29 31
  simp only [Req.cells] at hW1 hkq
  have hta := rtables_any Aq cq Ac cc p Al cl bk Ah ch hd W1 (h.ext hB1) (hbk.ext hB1) hbm (hhd.ext hB1) hhm
  have hcr := fun w' (hw' : Ext W1 w') => uCheckRequest_any Aq cq Ac cc p q w' ((h.ext hB1).ext hw')
  have hme := fun w' (hw' : Ext W1 w') => rmembers_any Aq cq Ac cc p q Am cm mem w' ((hmm.ext hB1).ext hw') hml h.qm
  have G : GC p bk q := ⟨h0, by have h := (fineR_of hf).2; simp only [Req.okB, decide_eq_true_eq] at h; omega, by have h := (fineR_of hf).2; simp only [Req.okB, decide_eq_true_eq] at h; omega⟩
  have hn16 := G.n16
  have hlat := fun A B0 n w h hbk hA hAl hAok hAb n0 n1 => rlast_any Aq cq Ac cc p Al cl bk Ah hd.length ch q A B0 n w h hbk h0 hf hA hAl hAok hAb n0 n1
  have hti := fun Ab cb s w h hbk hl hT => rtimes_any Aq cq Ac cc p Al cl bk Ah hd.length ch q Ab cb s w h hbk hl h0 hT
  have hfi := fun Ab cb l x w h hl hlm hall => rfind_any Aq cq Ac cc p q Ab cb l x w h hl hlm hall
  have r0 := hk1.cell
  have hqo := (fineR_of hf).2
  simp only [Req.okB, decide_eq_true_eq] at hqo
  have hqM : q.dead ≤ 1099511627776 ∧ q.ready ≤ 1099511627776 := by omega
  have hq0 : 0 ≤ q.ready := by omega
  clear hqo
  have Hin := Lib.hid (fun x (hx : x ∈ mem) => memsB_in hmb hx)
  have hrd := h.ext hB1
  have hm1 := hmm.ext hB1
  have hb3 := hbk.ext hB1
  have hcm := h.cm
  unfold Pln.val Req.val at hcr hme hfi
  unfold Req.val at hlat hti
  unfold Req.val
  rw [ht] at hta
  rw [hmb] at hme
  have Hf := Lib.hid hf
  clear ht hmb
  go_enter Tryz.func8, Tryz.ntmps8
  go_wp2_with fail
  clear hW1
  refine hta.mono ?_
  clear hta
  rintro e w1 ⟨rfl, hb1⟩
  have r1 := (hk1.ext hb1).cell
  have r2 := (hkq.ext hb1).cell
  have r3 := (hk1.ext hb1).lt
  have r4 := (hkq.ext hb1).lt
  go_wp2_with fail
  refine (hcr _ hb1).mono ?_
  clear hcr
  rintro e w2 ⟨k, rfl, hk0, hb2⟩
  obtain rfl := hk0.2 hf
  have hb12 := hb1.trans hb2
  have s1 := (hk1.ext hb12).cell
  have s2 := (hkq.ext hb12).cell
  have s3 := (hk1.ext hb12).lt
  have s4 := (hkq.ext hb12).lt
  clear hk0 hf r1 r2 r3 r4
  go_wp2_with fail
  refine (hme _ hb12).mono ?_
  clear hme
  rintro e w3 ⟨rfl, hb3'⟩
  have hb13 := hb12.trans hb3'
  clear s1 s2 s3 s4 r0
  go_wp2_with fail
  go_loopg [9, 10, 11] mem.length (fun n u9 u10 u11 wr => ∃ (j : Nat) (s : List Br × List Int), j + n = mem.length ∧ u11 = .int .i64 j ∧ TI p q s ∧ Hid (p.GrowR bk q (mem.drop j) s r) ∧ (∀ x ∈ mem.take j, 0 ≤ gi s.2 x) ∧ Owns EBr wr W1.heap.size 57 u9 s.1 ∧ Owns EInt wr W1.heap.size 3 u10 ((mem.take j).map (gi s.2)) ∧ Ext W1 wr)
  case atStart => exact ⟨0, ([], startL q), by omega, rfl, TI.start Hf.out, Lib.hid hr, (fun x hx => by simp at hx), Owns.none_ _ _, Owns.none_ _ _, hb13⟩
  case round =>
    obtain ⟨j, s, hjq, rfl, hT, Hr, hold, hu, hv, hx⟩ := hrel
    have Hjq := Lib.hid hjq
    have hjm : j ≤ mem.length := by omega
    clear hjq
    obtain ⟨Au, cu, rfl, hRu⟩ := hu.form
    obtain ⟨Av, cv, rfl, hRv⟩ := hv.form
    have hs16 := hT.vt.len
    by_cases hlt : j < mem.length
    · obtain ⟨bm, om, rfl, hbm', hcm'⟩ := hm1.int hlt
      have hmi := Hin.out _ (List.getElem_mem hlt)
      have Hdr := Lib.hid (List.drop_eq_getElem_cons hlt)
      have Htk := Lib.hid (take_snoc hlt rfl)
      generalize mem[j] = m at *
      have hcf := fun W (hW : Ext W1 W) => And.intro (hW.cell_some hcm') (Nat.lt_of_lt_of_le hbm' hW.size)
      have hmr := Lib.hid hmm
      clear hcm' hbm' hmm
      have hmN := hmi.2.1
      have hm0 := hmi.1
      have hall : AllIn p s.1 := fun k hk => ⟨(hT.vt.br k hk).con0, (hT.vt.br k hk).con1⟩
      have hti2 := hti Au cu s wr (hrd.ext hx) (hb3.ext hx) hRu hT
      have hr2 := Hr.out
      rw [Hdr.out] at hr2
      have hRD := grow_round G hT hmi.1 hmi.2.1 hr2
      clear hr2
      have hAl : (p.refIt bk q s.2 p.quo.length).length = p.quo.length := refIt_len (by rw [hT.len]; omega) _
      have hAok : OkT (p.refIt bk q s.2 p.quo.length) := refIt_ok G (tree_ok hT) _
      have hAb : ∀ x ∈ p.refIt bk q s.2 p.quo.length, x ≤ 1099511627776 := refIt_bd hqM.1 (tree_bd hT hqM.1 hqM.2 (by omega)) _
      generalize p.refIt bk q s.2 p.quo.length = A at *
      have hRe0 : ((mem.take j).map (gi s.2)).length = j := by rw [List.length_map, List.length_take]; omega
      obtain ⟨R, hRe⟩ : ∃ R, (mem.take j).map (gi s.2) = R := ⟨_, rfl⟩
      rw [hRe] at hv hRv hRe0 ⊢
      rw [hRe0] at hv ⊢
      have HRl := Lib.hid hRe0
      have HRe := Lib.hid hRe
      have Hold := Lib.hid hold
      clear hRe hold hmi hRe0
      have u0 := (hk1.ext hx).cell
      have u1 := (hkq.ext hx).cell
      have u2 := (hk1.ext hx).lt
      have u3 := (hkq.ext hx).lt
      go_wp2_with fail
      refine hti2.mono ?_
      clear hti2 hti
      rintro e w4 ⟨B, rfl, hBw, hA, hb4⟩
      have hx4 := hx.trans hb4
      have hmA : m.toNat < A.length := by omega
      have v0 := (hA.cell m.toNat).trans (arrV_gi hmA)
      have v1 := hA.lt
      obtain ⟨v2, v3⟩ := hcf w4 hx4
      clear u0 u1 u2 u3
      rcases hRD with ⟨ha, hrn⟩ | ⟨T, hs, en, s', h0A, hhl, hW, hT', hr', hadd, hold', hnew⟩
      · rw [ha] at v0
        go_wp2
        refine bodyPost_ret (results_tmp3 rfl _ _ _) rfl ?_
        exact ⟨hB1.trans hx4, .inl ⟨hrn, rfl⟩⟩
      have bA : (gi A m == -1) = false := by rw [beq_eq_false_iff_ne]; omega
      have zs4 := hx4.size
      have hv4 := hv.ext hb4
      have hu4 := hu.ext hb4
      have Hadd := Lib.hid hadd
      have Hold' := Lib.hid hold'
      have Hnew := Lib.hid hnew
      have Hr' := Lib.hid hr'
      have HT' := Lib.hid hT'
      clear hadd hold' hnew hr' hT'
      go_wp2_with (at_builtin; refine wpList_push rfl (.tmp 54) (.tmp 62) _ (by rfl) W1.heap.size 3 i2 _ 8 Tryz.underlying22 hi2 hx0 hx1 hx2 (by rfl) (.slice Av j cv) (by rfl) (hv4.ext ((Ext.refl _).alloc _)) w4.heap.size (gi A m) (by rfl) (Blk.new w4 _ _) (by have := HRl.out; simp only [maxLen]; omega) (by have := HRl.out; omega) (by simp; omega) ?_; intro v6 w6 hv6 hg6 hat6; have hx6 := ext_grown (hx4.alloc _) (hv4.ext ((Ext.refl _).alloc _)) (Nat.le_refl _) hg6; have hu6 := Owns.kepttZ (hu4.ext ((Ext.refl _).alloc _)) (hv4.ext ((Ext.refl _).alloc _)) (by decide) hg6; have hA6 := Blk.kept (hA.ext ((Ext.refl _).alloc _)) hg6 (fun e' => by have := (hv.block e'.symm).2; omega); have v4 := (hcf w6 hx6).1; have v5 := (hcf w6 hx6).2)
      clear v0 v1 v2 v3 v4 v5
      obtain ⟨gko, rfl⟩ : ∃ g, g = gk := ⟨_, rfl⟩
      obtain ⟨wo, rfl⟩ : ∃ wo, wo = wr := ⟨_, rfl⟩
      go_loopg [13, 14] 17 (fun n u13 u14 wr => ∃ (nd : Int) (dn : List Hp), u14 = .int .i64 nd ∧ WyI p bk q s.2 T A [] hs en n nd dn ∧ Owns EHp wr w6.heap.size 51 u13 dn ∧ dn.length + n ≤ 17 ∧ Ext w6 wr)
      case atStart => exact ⟨m, [], rfl, hW, Owns.none_ _ _, by simp, Ext.refl _⟩
      case round =>
        obtain ⟨nd, dn, rfl, hWy, hw, hdl, hy⟩ := hrel
        obtain ⟨Aw, cw, rfl, hRw⟩ := hw.form
        have hxy := hx6.trans hy
        have n0 := hWy.n0
        have n1 := hWy.n1
        have q0 := (hk1.ext hxy).cell
        have q1 := (hkq.ext hxy).cell
        have q2 := (hk1.ext hxy).lt
        have q3 := (hkq.ext hxy).lt
        have hfi2 := hfi Au cu s.1 nd wr (hrd.ext hxy) ((hu6.rd).ext hy) (by omega) hall
        have hft := fnd_tree hT (n := nd) n0 (by omega)
        by_cases hneg : gi s.2 nd < 0
        · have f2 : p.fnd q s.1 nd = -2 := by
            rcases hft with ⟨_, _, h3⟩ | ⟨_, _, _, _, _, h3⟩ | ⟨h2, _⟩
            · omega
            · omega
            · exact h2
          obtain ⟨k', d, hgk, hrl, hdi, hWy'⟩ := hWy.step G hneg
          rw [f2] at hfi2
          clear hft f2 hneg
          go_wp2_with fail
          refine hfi2.mono ?_
          clear hfi2
          rintro e w7 ⟨rfl, hb7⟩
          have hy7 := hy.trans hb7
          have hxy7 := hx6.trans hy7
          have p0 := (hk1.ext hxy7).cell
          have p1 := (hkq.ext hxy7).cell
          have p2 := (hk1.ext hxy7).lt
          have p3 := (hkq.ext hxy7).lt
          have hla := hlat A B nd w7 (hrd.ext hxy7) (hb3.ext hxy7) (hA6.ext hy7) hAl hAok hAb n0 n1
          rw [hrl] at hla
          simp only [bestO, Hp.arr4] at hla
          clear q0 q1 q2 q3 hrl
          go_wp2_with fail
          refine hla.mono ?_
          clear hla
          rintro e w8 ⟨rfl, hb8⟩
          have hc0 := hdi.1
          have hc1 := hdi.2
          have hcl : d.con.toNat < p.cons.length := by omega
          obtain ⟨W9, hW9, hB9, hk9, hl9⟩ := box1 w8 #[.int .i64 d.con, .int .i64 d.beg, .int .i64 d.en, .int .i64 d.arr] 51
          obtain ⟨bc, oc, rfl, hbc, j0, j1, j2, j3, j4, j5, j6⟩ := hrd.c.con hcl
          have Hgc := Lib.hid (gc_get hcl)
          generalize p.cons[d.con.toNat] = c at *
          have x9 := ((hy7.trans hb8)).trans hB9
          have hw9 := ((hw.ext hb7).ext hb8).ext hB9
          have zy := hb7.size
          have zz := hb8.size
          have zx9 := x9.size
          have t1 := hk9.cell
          have t2 := hk9.lt
          clear p0 p1 p2 p3
          go_wp2_with (at_builtin; refine wpList_push rfl (.tmp 80) (.tmp 82) _ (by rfl) w6.heap.size 51 i0 _ 32 Tryz.underlying41 hi0 hz0 hz1 hz2 (by rfl) (.slice Aw dn.length cw) (by rfl) (hw9.ext ((Ext.refl _).alloc _)) W9.heap.size d (by rfl) (Blk.new W9 _ _) (by simp only [maxLen]; omega) (by omega) (by simp; omega) ?_; intro v10 w10 hv10 hg10 hat10; have hx10 := ext_grown (x9.alloc _) (hw9.ext ((Ext.refl _).alloc _)) (Nat.le_refl _) hg10; have kh10 := Blk.kept (hk9.ext ((Ext.refl _).alloc _)) hg10 (fun e' => by have := (hw.block e'.symm).2; omega); have c10 := kh10.cell; have l10 := kh10.lt; have kt10 := (hk1.ext (hx6.trans hx10)).cell; have kl10 := (hk1.ext (hx6.trans hx10)).lt; have jc := (hx6.trans hx10).cell_some j0; have jb := Nat.lt_of_lt_of_le hbc (hx6.trans hx10).size)
          go_roundg k'
          case measure => omega
          case rel => exact ⟨(gc p.cons d.con).src, dn ++ [d], by rw [Hgc.out], hWy', hv10, by simp; omega, hx10⟩
        · have b2 : (p.fnd q s.1 nd == -2) = false := by
            rw [beq_eq_false_iff_ne]
            rcases hft with ⟨_, h2, _⟩ | ⟨_, _, h2, _⟩ | ⟨_, h3⟩
            · omega
            · omega
            · omega
          obtain ⟨rfl, rfl⟩ := hWy.done hneg
          obtain ⟨fz, hfz⟩ : ∃ fz, p.fnd q s.1 nd = fz := ⟨_, rfl⟩
          rw [hfz] at hfi2 b2
          have Hfz := Lib.hid hfz
          clear hft hneg hWy hW hfz
          go_wp2_with fail
          refine hfi2.mono ?_
          clear hfi2
          rintro e w7 ⟨rfl, hb7⟩
          have hy7 := hy.trans hb7
          have hxy7 := hx6.trans hy7
          have p0 := (hk1.ext hxy7).cell
          have p1 := (hkq.ext hxy7).cell
          have p2 := (hk1.ext hxy7).lt
          have p3 := (hkq.ext hxy7).lt
          have hfi3 := hfi Au cu s.1 nd w7 (hrd.ext hxy7) ((hu6.rd).ext hy7) (by omega) hall
          rw [Hfz.out] at hfi3
          clear q0 q1 q2 q3
          go_wp2_with fail
          refine hfi3.mono ?_
          clear hfi3
          rintro e w8 ⟨rfl, hb8⟩
          have hy8 := hy7.trans hb8
          have hu8 := hu6.ext hy8
          have hv8 := hv6.ext hy8
          have hw8 := (hw.ext hb7).ext hb8
          have hx8 := hx6.trans hy8
          clear p0 p1 p2 p3
          go_wp2_with fail
          obtain ⟨gko2, rfl⟩ : ∃ g, g = gk := ⟨_, rfl⟩
          obtain ⟨wo2, rfl⟩ : ∃ wo, wo = wr := ⟨_, rfl⟩
          go_loopg [9, 16, 17] dn.length (fun n u9 u16 u17 wr => ∃ t : Nat, t + n = dn.length ∧ u17 = .int .i64 ((n : Int) - 1) ∧ u16 = .int .i64 (addK dn (s.1, fz) t).2 ∧ Owns EBr wr W1.heap.size 57 u9 (addK dn (s.1, fz) t).1 ∧ Owns EInt wr W1.heap.size 3 v6 (R ++ [gi A m]) ∧ Owns EHp wr w6.heap.size 51 (.slice Aw dn.length cw) dn ∧ Ext W1 wr)
          case atStart => exact ⟨0, by omega, by go_num, rfl, hu8, hv8, hw8, hx8⟩
          case round =>
            obtain ⟨t, htq, rfl, rfl, hu9, hv9, hw9, hx9⟩ := hrel
            obtain ⟨Az, cz, rfl, hRz⟩ := hu9.form
            by_cases htl : t < dn.length
            · obtain ⟨g, hg⟩ : ∃ g : Nat, gk = g + 1 := ⟨gk - 1, by omega⟩
              have eg : (gk : Int) - 1 = (g : Int) := by omega
              have dg : decide ((0 : Int) ≤ (g : Int)) = true := decide_eq_true (by omega)
              have hgl : g < dn.length := by omega
              obtain ⟨bw, ow, rfl, hbw, y0, y1, y2, y3⟩ := hw9.rd.hp hgl
              have HA := Lib.hid (addK_succ (hs := dn) (s := (s.1, fz)) (j := t) (g := g) (by omega))
              have zx9 := hx9.size
              have hlb : (addK dn (s.1, fz) t).1.length ≤ 40 := by have h9 := addK_len (hs := dn) (s := (s.1, fz)) (j := t) (by omega); dsimp only at h9; omega
              have Hll := Lib.hid (show (addK dn (s.1, fz) t).1.length = s.1.length + t from addK_len (by omega))
              generalize dn[g] = y at *
              generalize addK dn (s.1, fz) t = L at *
              rw [eg]
              go_wp2_with (at_builtin; refine wpList_push rfl (.tmp 105) (.tmp 112) _ (by rfl) W1.heap.size 57 i1 _ 40 Tryz.underlying34 hi1 hy0 hy1 hy2 (by rfl) (.slice Az L.1.length cz) (by rfl) (hu9.ext ((Ext.refl _).alloc _)) wr.heap.size (⟨y.con, y.beg, y.en, y.arr, L.2⟩ : Br) (by rfl) (Blk.new wr _ _) (by have := Hll.out; simp only [maxLen]; omega) (by have := Hll.out; omega) (by simp; omega) ?_; intro v10 w10 hv10 hg10 hat10; have hx10 := ext_grown (hx9.alloc _) (hu9.ext ((Ext.refl _).alloc _)) (Nat.le_refl _) hg10; have hv11 := Owns.kepttZ (hv9.ext ((Ext.refl _).alloc _)) (hu9.ext ((Ext.refl _).alloc _)) (by decide) hg10; have hw11 := Owns.kepttZ (hw9.ext ((Ext.refl _).alloc _)) (hu9.ext ((Ext.refl _).alloc _)) (by decide) hg10; obtain ⟨A10, c10, rfl, hR10⟩ := hv10.form; simp only [List.length_append, List.length_cons, List.length_nil, Nat.zero_add] at hv10 ⊢)
              go_roundg g
              case measure => omega
              case rel => exact ⟨t + 1, by omega, by go_num, by have := Hll.out; rw [HA.out]; unfold refAdd; go_num, by rw [HA.out]; exact hv10, hv11, hw11, hx10⟩
            · obtain rfl : t = dn.length := by omega
              obtain rfl : gk = 0 := by omega
              have e12 : (addK dn (s.1, fz) dn.length).1 = s'.1 := by rw [addK_all, ← Hfz.out, Hadd.out]
              have hu13 : Owns EBr wr W1.heap.size 57 (.slice Az (addK dn (s.1, fz) dn.length).1.length cz) s'.1 := by rw [← e12]; exact hu9
              clear e12
              go_wp2
              go_roundg (gko - 1)
              case measure => have := Hjq.out; omega
              case rel =>
                have hin2 := fun x (hx : x ∈ mem.take j) => Hin.out x (List.mem_of_mem_take hx)
                refine ⟨j + 1, s', by have := Hjq.out; omega, by go_num, HT'.out, Hr', fun x hx => ?_, hu13, ?_, hx9⟩
                · rw [Htk.out] at hx
                  rcases List.mem_append.1 hx with hx | hx
                  · have h1 := hin2 x hx
                    rw [Hold'.out x h1.1 (by omega) (Hold.out x hx)]
                    exact Hold.out x hx
                  · rw [List.mem_singleton] at hx
                    rw [hx, Hnew.out]
                    exact h0A
                · have e5 : (mem.take (j + 1)).map (gi s'.2) = R ++ [gi A m] := by
                    rw [Htk.out, List.map_append, ← HRe.out]
                    congr 1
                    · refine List.map_congr_left fun x hx => ?_
                      have h1 := hin2 x hx
                      exact Hold'.out x h1.1 (by omega) (Hold.out x hx)
                    · rw [List.map_cons, List.map_nil, Hnew.out]
                  rw [e5]
                  exact hv9
    · obtain rfl : j = mem.length := by omega
      have e1 := Hr.out
      rw [List.drop_length] at e1
      have e2 : r = some s := e1
      rw [List.take_length] at hv ⊢
      go_wp2
      refine bodyPost_ret (results_tmp3 rfl _ _ _) rfl ?_
      exact ⟨hB1.trans hx, .inr ⟨s, _, _, e2, rfl, hu.mono hB1.size, hv.mono hB1.size, hs16⟩⟩

end Go.Proofs.YtbgdglcnminbaaaGreat

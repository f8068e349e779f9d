
/- Layer 35 (multicast): the walk of MulticastTrees. -/
import Derived.Test.YtbgdglcnminbaaaMlX
import Derived.Test.YtbgdglcnminbaaaMcUV
import Derived.Maps.OwnSet
import Derived.BigQuiet
namespace Go.Proofs.Ytbgdglcnminbaaa
set_option linter.unusedVariables false
set_option linter.unusedSimpArgs false
open Go.RowKit Go.Shelf Go.Maps
attribute [local go_sem] Oper.semAt_some

/-- The datum of a set of numbers. -/
def MB (S : List Int) (D : DataW Unit) : Prop := Maps.IsMap D ∧ ∀ t : Int, D.atKey (.int .i64 t) (.lit (.bool false)) = .lit (.bool (decide (t ∈ S)))
theorem MB.nil : MB [] (.map []) := ⟨isMap_empty, fun t => rfl⟩
theorem MB.put {S : List Int} {D : DataW Unit} (h : MB S D) (t : Int) : MB (S ++ [t]) (D.put (.int .i64 t) (.lit (.bool true))) := by
  refine ⟨h.1.put _ _, fun x => ?_⟩
  by_cases e : x = t
  · subst e
    rw [atKey_put_same h.1 (key_intH _)]
    simp
  · rw [atKey_put_other (lit_neH e), h.2 x]
    simp [e]
abbrev OMapB (w : World) (g c : Nat) (D : DataW Unit) : Prop := w.ownsMap Try.prog 3 (plainElem Try.prog 4) g c D
theorem ownb_ext {w w' : World} {g c : Nat} {D : DataW Unit} (h : OMapB w g c D) (hb : Ext w w') : OMapB w' g c D := by
  obtain ⟨es, clock, h1, rest⟩ := h
  exact ⟨es, clock, (Below.block hb g (Array.getElem?_eq_some_iff.1 h1).1).trans h1, rest⟩
theorem zero_boolB (w : World) : (zeroValue 4).run Try.prog w = .ok (.bool false) w := by kernel_rfl
set_option maxRecDepth 100000 in
theorem plainElem_bool_inv {v : Value} {z : DataW Unit × List MemPlace} (h : plainElem Try.prog 4 v = some z) : ∃ b, v = .bool b ∧ z = (.lit (.bool b), []) := by
  unfold plainElem at h
  rw [Try.underlying4] at h
  cases v <;> simp at h
  exact ⟨_, rfl, h.symm⟩
set_option maxRecDepth 100000 in
theorem lookB {w : World} {g c : Nat} {D : DataW Unit} (h : OMapB w g c D) {S : List Int} (hm : MB S D) {x : Int} (hx : -9223372036854775808 ≤ x ∧ x ≤ 9223372036854775807) (hn : x ∉ S) :
    (Instr.lookup 48 (.map (some g)) (.int .i64 x) false).run Try.prog w = .ok (.bool false) w := by
  obtain ⟨v, ps, hrun, hv⟩ := h.lookup law_intH Try.underlying48 (zero_boolB w) (plainElem_bool Try.underlying4 false) (keyOf_int_mk (P := Try.prog) Try.underlying3 (wf64H hx))
  obtain ⟨b, rfl, hz⟩ := plainElem_bool_inv hv
  rw [hm.2 x] at hz
  injection hz with hz _
  injection hz with hz
  injection hz with hz
  rw [hrun, ← hz]
  simp [hn]
set_option maxRecDepth 100000 in
theorem updB {w : World} {g c : Nat} {D : DataW Unit} (h : OMapB w g c D) (hc : c < 1000) {x : Int} (hx : -9223372036854775808 ≤ x ∧ x ≤ 9223372036854775807) :
    ∃ w', (Instr.mapUpdate 48 (.map (some g)) (.int .i64 x) (.bool true)).run Try.prog w = .ok () w' ∧ OMapB w' g (c + 1) (D.put (.int .i64 x) (.lit (.bool true))) ∧ w.grownBy w' (some g) :=
  h.update law_intH Try.underlying48 (by unfold maxLen; omega) (keyOf_int_mk (P := Try.prog) Try.underlying3 (wf64H hx)) (plainElem_bool Try.underlying4 true)

set_option maxRecDepth 100000 in
set_option maxHeartbeats 8000000 in
theorem trees_walk (Aq : Option Addr) (cq : Nat) (Ac : Option Addr) (cc : Nat) (p : Pln) (Al : Option Addr) (cl : Nat) (bk : List Bk) (Ah : Option Addr) (ch : Nat) (hd : List Hd) (q : Req) (Am : Option Addr) (cm : Nat) (mem : List Int) (w : World) (h : TabIn w Aq cq Ac cc p Al cl bk Ah ch hd) (hmm : Rd EInt w Am mem) (hmc : mem.length ≤ cm) (hcm : cm ≤ maxLen) :
    Calls Try.prog 5 #[.agg #[.slice Aq p.quo.length cq, .slice Ac p.cons.length cc, .slice Al bk.length cl, .slice Ah hd.length ch], q.val, .slice Am mem.length cm] w fun e w' => e = .returned (.bool true) ∧ Ext w w' := by
  unfold maxLen at hcm
  obtain ⟨W, hW, hB, hk, hkr, hlt, hltr⟩ := box2 w #[.slice Aq p.quo.length cq, .slice Ac p.cons.length cc, .slice Al bk.length cl, .slice Ah hd.length ch] q.cells 29 31
  simp only [Req.cells] at hW hkr
  have hc := hk.cell
  have hcr := hkr.cell
  have hIn := (h.pln).ext hB
  have hbm := h.bc
  have hbm2 := h.bm
  have hhm := h.hc
  have hhm2 := h.hm
  unfold maxLen at hbm2 hhm2
  have hgr := great35_any Aq cq Ac cc p Al bk.length cl Ah hd.length ch Am mem.length cm W hIn.le.1 hIn.le.2 (by omega) (by omega) (by omega)
  cases hg : p.gr35 bk.length hd.length mem.length
  case' true =>
    rw [hg] at hgr
    unfold Req.val
    go_enter Try.func5, Try.ntmps5
    go_wp2_with fail
    clear hW
    refine hgr.mono ?_
    clear hgr
    rintro e w1 ⟨rfl, hb1⟩
    go_wp2_with fail
    refine (awake_any _).mono ?_
    rintro e w2 ⟨rfl, hb2⟩
    go_wp2
    go_ret
    exact ⟨rfl, (hB.trans hb1).trans hb2⟩
  rw [hg] at hgr
  obtain ⟨hrd, hb30, hh20, hm20⟩ := hIn.rd hg
  clear hg
  have hgw := fun w' (hw' : Ext W w') => grow_val Aq cq Ac cc p Al cl bk Ah ch hd q Am cm mem w' (hrd.ext hw') ((h.b.ext hB).ext hw') (by omega) ((h.h.ext hB).ext hw') (by omega) ((hmm.ext hB).ext hw') (by omega)
  unfold Req.val at hgw ⊢
  go_enter Try.func5, Try.ntmps5
  go_wp2_with fail
  clear hW
  refine hgr.mono ?_
  clear hgr
  rintro e w1 ⟨rfl, hb1⟩
  replace hc := (hk.ext hb1).cell
  replace hcr := (hkr.ext hb1).cell
  have l1 := (hk.ext hb1).lt
  have l2 := (hkr.ext hb1).lt
  go_wp2_with fail
  refine (hgw _ hb1).mono ?_
  rintro e w2 ⟨hb2, hv⟩
  have hE2 := hb1.trans hb2
  cases hv with
  | bad hb he =>
    subst he
    go_wp2_with fail
    refine (awake_any _).mono ?_
    rintro e w3 ⟨rfl, hb3⟩
    go_wp2
    go_ret
    exact ⟨rfl, (hB.trans hE2).trans hb3⟩
  | none G hf hm hk hr he =>
    subst he
    go_wp2_with fail
    refine (awake_any _).mono ?_
    rintro e w3 ⟨rfl, hb3⟩
    go_wp2
    go_ret
    exact ⟨rfl, (hB.trans hE2).trans hb3⟩
  | good t Au cu Av cv G hf hm hkt hr he hu hv hl hcu hcv =>
    subst he
    have g := grown G hf hm hr
    have hn16 := G.n16
    have HC := Lib.hid g.chk
    have HP := Lib.hid g.prune
    have HN := Lib.hid (mchk_nil g.chk)
    have Hm := Lib.hid (fun x (hx : x ∈ mem) => memsB_in hm hx)
    have HV := Lib.hid g.gi_.ti.vt
    have HF := Lib.hid g.gi_.free
    have HT := Lib.hid g.times
    clear hgw hr hkt hf hm
    generalize t.1 = l at *
    have kp2 := (hk.ext hb1).ext hb2
    have kq2 := (hkr.ext hb1).ext hb2
    replace hc := kp2.cell
    replace hcr := kq2.cell
    replace l1 := kp2.lt
    replace l2 := kq2.lt
    have rd2 := hrd.ext hE2
    have hm2 := (hmm.ext hB).ext hE2
    have hre := fun w h hl => Reached_any Aq cq Ac cc p q Au cu l w h hl (by omega)
    have hpr := fun w h hm hl => Prune_any Aq cq Ac cc p q Am cm mem Au cu l w h hm (by omega) hl (by omega)
    have hch := fun w h hm hl => mCheck_any Aq cq Ac cc p q Am cm mem Au cu l w h hm (by omega) hl (by omega)
    rw [HC.out] at hch
    obtain ⟨TA, hTA⟩ : ∃ T, List.take p.quo.length (p.mAt q l l.length) = T := ⟨_, rfl⟩
    have hTAl : TA.length = p.quo.length := by rw [← hTA, List.length_take, p.mAt_len q l l.length]; omega
    have HTA := Lib.hid hTA
    have HTAl := Lib.hid hTAl
    have HTx := Lib.hid (show ∀ (x : Int), 0 ≤ x → ∀ hx : x.toNat < TA.length, TA[x.toNat] = gi t.2 x from fun x h0 hx => by
      rw [← HT.out x, gi_get' (by rw [p.mAt_len]; rw [hTAl] at hx; omega)]
      subst hTA
      rw [List.getElem_take])
    clear hTA hTAl
    unfold Pln.val Req.val at hre hpr hch
    go_wp2_with fail
    refine (hre _ rd2 hu).mono ?_
    clear hre
    rintro e w3 ⟨hb3, ⟨_, va, rfl, hva⟩ | ⟨hne, _⟩⟩
    case inr => exact (hne HN.out).elim
    rw [HTA.out] at hva
    obtain ⟨Aa, ca, rfl, hRa⟩ := hva.form
    rw [HTAl.out]
    have kp3 := kp2.ext hb3
    have kq3 := kq2.ext hb3
    replace hc := kp3.cell
    replace hcr := kq3.cell
    replace l1 := kp3.lt
    replace l2 := kq3.lt
    go_wp2_with fail
    refine (hpr _ (rd2.ext hb3) (hm2.ext hb3) (hu.ext hb3)).mono ?_
    clear hpr
    rintro e w4 ⟨hb4, ⟨_, vb, rfl, hvb⟩ | ⟨hne, _⟩⟩
    case inr => exact (hne HC.out).elim
    rw [HP.out] at hvb
    obtain ⟨Ab, cb, rfl, hRb⟩ := hvb.form
    have kp4 := kp3.ext hb4
    have kq4 := kq3.ext hb4
    replace hc := kp4.cell
    replace hcr := kq4.cell
    replace l1 := kp4.lt
    replace l2 := kq4.lt
    go_wp2_with fail
    refine (hch _ ((rd2.ext hb3).ext hb4) ((hm2.ext hb3).ext hb4) ((hu.ext hb3).ext hb4)).mono ?_
    clear hch
    rintro e w5 ⟨rfl, hb5⟩
    go_wp2_with fail
    refine (sameBrs_ex Ab Au cb cu l _ (hRb.ext hb5) (((hu.ext hb3).ext hb4).ext hb5) (by omega)).mono ?_
    rintro e w6 ⟨rfl, hb6⟩
    have hx26 := ((hb3.trans hb4).trans hb5).trans hb6
    have hE6 := (hB.trans hE2).trans hx26
    have kp6 := (kp4.ext hb5).ext hb6
    have hRa6 := ((hRa.ext hb4).ext hb5).ext hb6
    have hv6 := hv.ext hx26
    have hu6 := hu.ext hx26
    have hm6 := hm2.ext hx26
    have rd6 := rd2.ext hx26
    have hbk6 := h.b.ext hE6
    clear hc hcr l1 l2 kp2 kp3 kp4 kq2 kq3 kq4 hRa hv hu hm2 rd2 hRb hva hvb hb3 hb4 hb5 hb6 hx26 hIn hrd hk hkr
    go_wp2_with fail
    go_loopg [93] mem.length (fun n k wr => ∃ j : Nat, j + n = mem.length ∧ k = .int .i64 j ∧ Ext w6 wr)
    case atStart => exact ⟨0, by omega, rfl, Ext.refl _⟩
    case round =>
      obtain ⟨j, hjq, rfl, hx⟩ := hrel
      have Hjq := Lib.hid hjq
      have hjN : j ≤ mem.length := by omega
      clear hjq
      by_cases hlt2 : j < mem.length
      · obtain ⟨bm, om, rfl, hbm3, gm⟩ := (hm6.ext hx).int hlt2
        obtain ⟨bv, ov, rfl, hbv, gv⟩ := (hv6.ext hx).int (k := j) (by rw [List.length_map]; exact hlt2)
        have hmi := Hm.out mem[j] (List.getElem_mem hlt2)
        have hma : (mem[j]).toNat < TA.length := by rw [HTAl.out]; omega
        obtain ⟨ba, oa, rfl, hba, ga⟩ := (hRa6.ext hx).int hma
        have hta := HTx.out mem[j] hmi.1 hma
        rw [List.getElem_map] at gv
        rw [hta] at ga
        clear hta hma
        generalize mem[j] = x at *
        generalize gi t.2 x = y at *
        obtain ⟨x0, x1, x2⟩ := hmi
        have d1 : decide (x < 0) = false := decide_eq_false (by omega)
        have d2 : decide ((p.quo.length : Int) ≤ x) = false := decide_eq_false (by omega)
        have d3 : (y != y) = false := by simp
        have eN : ((x.toNat : Nat) : Int) = x := by omega
        have hN := Near.refl wr
        have hC := hN.2
        go_wp2_with fail
        have hq := quiet_near hN
        refine wp_region_quiet_below (by kernel_rfl) (by kernel_rfl) ?_
        repeat (first | go_big_quiet_skip | (go_big_quiet_want; go_big_quiet_op; first | go_big_quiet_on | (apply Exists.intro; refine ⟨fun _ => ?_, ?_⟩; (focus (first | fail)); go_big_quiet_on)))
        refine wpQuiet_nil ?_
        intro w1 hw1
        clear hq
        replace hw1 := quiet_ext hw1
        replace hN := hN.step hw1
        have hC := hN.2
        go_wp2
        go_roundg (gk - 1)
        case measure => have := Hjq.out; omega
        case rel => exact ⟨j + 1, by have := Hjq.out; omega, by go_num, hx.trans hw1⟩
      · obtain ⟨w7, rfl⟩ : ∃ w7, w7 = wr := ⟨_, rfl⟩
        obtain ⟨gko, rfl⟩ : ∃ g, g = gk := ⟨_, rfl⟩
        have hE7 := hE6.trans hx
        have kp7 := kp6.ext hx
        have hu7 := hu6.ext hx
        have rd7 := rd6.ext hx
        have hbk7 := hbk6.ext hx
        have hmk := @run_makeMap Try.prog
        obtain ⟨W8, hW8⟩ : ∃ W8, (w7.alloc (.map #[] 0)).alloc (.map #[] 0) = W8 := ⟨_, rfl⟩
        have hm16 : OMapB W8 w7.heap.size 0 (.map []) := by
          rw [← hW8]
          exact (World.ownsMap_made (H := Unit) w7 Try.prog 3 (plainElem Try.prog 4)).alloc _
        have hm17 : OMapB W8 (w7.heap.size + 1) 0 (.map []) := by
          rw [← hW8]
          have := World.ownsMap_made (H := Unit) (w7.alloc (.map #[] 0)) Try.prog 3 (plainElem Try.prog 4)
          simpa using this
        have hx8 : Ext w7 W8 := by rw [← hW8]; exact ((Ext.refl _).alloc _).alloc _
        have hs8 : W8.heap.size = w7.heap.size + 2 := by rw [← hW8]; simp
        clear hm6 hv6 hRa6 kp6 rd6 hbk6 hu6
        go_wp2_with fail
        clear hW8
        go_loopg [122] l.length (fun n k wr => ∃ (j : Nat) (D E : DataW Unit), j + n = l.length ∧ k = .int .i64 j ∧ OMapB wr w7.heap.size j D ∧ MB ((l.take j).map (fun b => (gc p.cons b.con).dst)) D ∧ OMapB wr (w7.heap.size + 1) j E ∧ MB ((l.take j).map (fun b => b.con)) E ∧ Ext w7 wr)
        case atStart => exact ⟨0, _, _, by omega, rfl, hm16, MB.nil, hm17, MB.nil, hx8⟩
        case round =>
          obtain ⟨i, D, E, hiq, rfl, h16, hD, h17, hE9, hy⟩ := hrel
          obtain ⟨wo, rfl⟩ : ∃ wo, wo = wr := ⟨_, rfl⟩
          obtain ⟨gk9, rfl⟩ : ∃ g, g = gk := ⟨_, rfl⟩
          clear hm16 hm17 hx8
          have Hiq := Lib.hid hiq
          have hiN : i ≤ l.length := by omega
          clear hiq
          by_cases hlt3 : i < l.length
          · obtain ⟨bl, ol, rfl, hbl, g0, g1, g2, g3, g4⟩ := (hu7.ext hy).br hlt3
            have b := HV.out.br i hlt3
            have hb1 := b.con0
            have hb2 := b.con1
            have hb3 := b.nd0
            have hb4 := b.nd1
            have hnd : p.nd l i = (gc p.cons l[i].con).dst := by unfold Pln.nd; rw [gbr_get hlt3]
            rw [hnd] at hb3 hb4
            rw [gbr_get hlt3] at hb1 hb2
            have hcl : l[i].con.toNat < p.cons.length := by omega
            have hn16' : (gc p.cons l[i].con).dst ∉ (l.take i).map (fun b => (gc p.cons b.con).dst) := fun hh => by
              obtain ⟨x, hx, e⟩ := List.mem_map.1 hh
              obtain ⟨k, hk, rfl⟩ := List.mem_take_iff_getElem.1 hx
              have h3 := HV.out.inj (show k < i by omega) hlt3
              rw [hnd] at h3
              apply h3
              unfold Pln.nd
              rw [gbr_get (show k < l.length by omega)]
              exact e
            have hn17' : l[i].con ∉ (l.take i).map (fun b => b.con) := fun hh => by
              obtain ⟨x, hx, e⟩ := List.mem_map.1 hh
              exact hn16' (List.mem_map.2 ⟨x, hx, by rw [e]⟩)
            have hs16 : (l.take (i + 1)).map (fun b => (gc p.cons b.con).dst) = (l.take i).map (fun b => (gc p.cons b.con).dst) ++ [(gc p.cons l[i].con).dst] := by rw [List.take_succ_eq_append_getElem hlt3, List.map_append]; rfl
            have hs17 : (l.take (i + 1)).map (fun b => b.con) = (l.take i).map (fun b => b.con) ++ [l[i].con] := by rw [List.take_succ_eq_append_getElem hlt3, List.map_append]; rfl
            have hfree := HF.out l[i] (List.getElem_mem hlt3)
            obtain ⟨bc, oc, rfl, hbc, z0, z1, z2, z3, z4, z5, z6⟩ := (rd7.ext hy).c.con hcl
            have hcc := gc_get hcl
            rw [hcc] at hb3 hb4 hn16' hs16
            clear b hnd
            generalize l[i] = y at *
            generalize p.cons[y.con.toNat] = c at *
            generalize (l.take i).map (fun b => (gc p.cons b.con).dst) = S16 at *
            generalize (l.take i).map (fun b => b.con) = S17 at *
            have Hs16 := Lib.hid hs16
            have Hs17 := Lib.hid hs17
            have Hfree := Lib.hid hfree
            clear hs16 hs17 hcc hfree
            obtain ⟨W5, hW5, hB5, hk5, hl5⟩ := box1 wo #[.int .i64 y.con, .int .i64 y.beg, .int .i64 y.en, .int .i64 y.arr, .int .i64 y.par] 52
            have hcm7 := rd7.cm
            have k16 := ownb_ext h16 hB5
            have k17 := ownb_ext h17 hB5
            have e16 := lookB k16 hD (x := c.dst) (by omega) hn16'
            have e17 := lookB k17 hE9 (x := y.con) (by omega) hn17'
            obtain ⟨Wa, ra, oa, ga⟩ := updB (w := W5.drew) k16 (by omega) (x := c.dst) (by omega)
            obtain ⟨Wb, rb, ob, gb⟩ := updB (w := W5.drew) k17 (by omega) (x := y.con) (by omega)
            obtain ⟨Wab, rab, oab, gab⟩ := updB (w := Wa) (World.ownsMap.kept (w := W5.drew) k17 ga (fun e => by injection e with e; omega)) (by omega) (x := y.con) (by omega)
            obtain ⟨Wba, rba, oba, gba⟩ := updB (w := Wb) (World.ownsMap.kept (w := W5.drew) k16 gb (fun e => by injection e with e; omega)) (by omega) (x := c.dst) (by omega)
            have oab16 := oa.kept gab (fun e => by injection e with e; omega)
            have oba17 := ob.kept gba (fun e => by injection e with e; omega)
            have xa : Ext w7 Wa := ext_of_grown ((hy.trans hB5).drew) ga (Nat.le_refl _)
            have xb : Ext w7 Wb := ext_of_grown ((hy.trans hB5).drew) gb (by omega)
            have xab : Ext w7 Wab := ext_of_grown xa gab (by omega)
            have xba : Ext w7 Wba := ext_of_grown xb gba (by omega)
            have hyz := hy.size
            have h7l := h17.lt
            have hka : Blk Wa wo.heap.size 52 #[.int .i64 y.con, .int .i64 y.beg, .int .i64 y.en, .int .i64 y.arr, .int .i64 y.par] := Blk.kept (w := W5.drew) hk5 ga (fun e => by injection e with e; omega)
            have hkb : Blk Wb wo.heap.size 52 #[.int .i64 y.con, .int .i64 y.beg, .int .i64 y.en, .int .i64 y.arr, .int .i64 y.par] := Blk.kept (w := W5.drew) hk5 gb (fun e => by injection e with e; omega)
            have hkab := hka.kept gab (fun e => by injection e with e; omega)
            have hkba := hkb.kept gba (fun e => by injection e with e; omega)
            have s1 := hk5.cell
            have s2 := hk5.lt
            have s3 := ((kp7.ext hy).ext hB5).cell
            have s4 := ((kp7.ext hy).ext hB5).lt
            have s5 := hka.cell
            have s6 := hka.lt
            have s7 := hkb.cell
            have s8 := hkb.lt
            have s9 := (kp7.ext xab).cell
            have s10 := (kp7.ext xab).lt
            have s11 := (kp7.ext xba).cell
            have s12 := (kp7.ext xba).lt
            replace z1 := hB5.cell_some z1
            have hbc5 : bc < W5.heap.size := Nat.lt_of_lt_of_le hbc hB5.size
            have d1 : decide (y.con < 0) = false := decide_eq_false (by omega)
            have d2 : decide ((p.cons.length : Int) ≤ y.con) = false := decide_eq_false (by omega)
            have eN : ((y.con.toNat : Nat) : Int) = y.con := by omega
            go_wp2_with fail
            clear hW5
            go_region
            all_goals
              clear s1 s2 s3 s4 s5 s6 s7 s8 ra rb rab rba e16 e17 oa ob ga gb xa xb hka hkb k16 k17 hk5 z0 z1 z2 z3 z4 z5 z6 g0 g1 g2 g3 g4 hn16' hn17'
              go_wp2_with fail
              go_loopg [168] bk.length (fun n k wr => ∃ j : Nat, j + n = bk.length ∧ k = .int .i64 j ∧ OMapB wr w7.heap.size (i + 1) (D.put (.int .i64 c.dst) (.lit (.bool true))) ∧ OMapB wr (w7.heap.size + 1) (i + 1) (E.put (.int .i64 y.con) (.lit (.bool true))) ∧ Ext w7 wr ∧ Blk wr wo.heap.size 52 #[.int .i64 y.con, .int .i64 y.beg, .int .i64 y.en, .int .i64 y.arr, .int .i64 y.par])
              case atStart => first | exact ⟨0, by omega, rfl, oab16, oab, xab, hkab⟩ | exact ⟨0, by omega, rfl, oba, oba17, xba, hkba⟩
              case round =>
                obtain ⟨m, hmq, rfl, q16, q17, hx3, hkx⟩ := hrel
                clear oab16 oab xab hkab oba oba17 xba hkba s9 s10 s11 s12 gab gba
                have Hmq := Lib.hid hmq
                have hmN : m ≤ bk.length := by omega
                clear hmq
                by_cases hlt4 : m < bk.length
                · obtain ⟨bb, ob, rfl, hbb, f0, f1, f2, f3⟩ := (hbk7.ext hx3).bk hlt4
                  have hfr := Hfree.out bk[m] (List.getElem_mem hlt4)
                  generalize bk[m] = x at *
                  obtain ⟨W9, hW9, hB9, hk9, hl9⟩ := box1 wr #[.int .i64 x.con, .int .i64 x.beg, .int .i64 x.en, .int .i64 x.tic] 56
                  have u1 := hk9.cell
                  have u2 := hk9.lt
                  have u3 := (hkx.ext hB9).cell
                  have u4 := (hkx.ext hB9).lt
                  by_cases e1 : x.con = y.con
                  · have e2 := hfr e1
                    have dd1 : (x.con == y.con) = true := by simpa using e1
                    clear hfr e1
                    by_cases e3 : x.beg < y.en
                    · have dd2 : decide (x.beg < y.en) = true := decide_eq_true e3
                      have dd3 : decide (y.beg < x.en) = false := decide_eq_false (fun h => e2 ⟨e3, h⟩)
                      clear e2 e3
                      go_wp2_with fail
                      clear hW9
                      go_roundg (gk - 1)
                      case measure => have := Hmq.out; omega
                      case rel => exact ⟨m + 1, by have := Hmq.out; omega, by go_num, ownb_ext q16 hB9, ownb_ext q17 hB9, hx3.trans hB9, hkx.ext hB9⟩
                    · have dd2 : decide (x.beg < y.en) = false := decide_eq_false e3
                      clear e2 e3
                      go_wp2_with fail
                      clear hW9
                      go_roundg (gk - 1)
                      case measure => have := Hmq.out; omega
                      case rel => exact ⟨m + 1, by have := Hmq.out; omega, by go_num, ownb_ext q16 hB9, ownb_ext q17 hB9, hx3.trans hB9, hkx.ext hB9⟩
                  · have dd1 : (x.con == y.con) = false := by simpa using e1
                    clear hfr e1
                    go_wp2_with fail
                    clear hW9
                    go_roundg (gk - 1)
                    case measure => have := Hmq.out; omega
                    case rel => exact ⟨m + 1, by have := Hmq.out; omega, by go_num, ownb_ext q16 hB9, ownb_ext q17 hB9, hx3.trans hB9, hkx.ext hB9⟩
                · go_wp2_with fail
                  go_roundg (l.length - (i + 1))
                  case measure => have := Hiq.out; omega
                  case rel => exact ⟨i + 1, _, _, by have := Hiq.out; omega, by go_num, q16, by rw [Hs16.out]; exact hD.put _, q17, by rw [Hs17.out]; exact hE9.put _, hx3⟩
          · go_wp2_with fail
            refine (awake_any _).mono ?_
            rintro e w9 ⟨rfl, hb9⟩
            go_wp2
            go_ret
            exact ⟨rfl, (hE7.trans hy).trans hb9⟩

end Go.Proofs.Ytbgdglcnminbaaa

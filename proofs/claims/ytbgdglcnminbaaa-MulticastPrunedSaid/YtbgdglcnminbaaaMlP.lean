
/- Layer 35 (multicast): the walk of MulticastPaths. -/
import Derived.Test.YtbgdglcnminbaaaStDE
import Derived.Test.YtbgdglcnminbaaaMcXZ
import Derived.Test.YtbgdglcnminbaaaJrC1
import Derived.BigQuiet
namespace Go.Proofs.Ytbgdglcnminbaaa
set_option linter.unusedVariables false
set_option linter.unusedSimpArgs false
open Go.RowKit Go.Shelf
attribute [local go_sem] Oper.semAt_some

theorem pth_len (l : List Br) (k : Nat) : (pth l k).length ≤ k + 1 := by
  have := upN_len (l := l) k
  simp [pth]; omega

set_option maxRecDepth 100000 in
set_option maxHeartbeats 4000000 in
theorem paths_walk (Aq : Option Addr) (cq : Nat) (Ac : Option Addr) (cc : Nat) (p : Pln) (q : Req) (Al : Option Addr) (cl : Nat) (l : List Br) (i : Int) (w : World) (h : PlnIn w Aq cq Ac cc p) (hl : Rd EBr w Al l) (hll : l.length ≤ maxLen) :
    Calls Try.prog 7 #[p.val Aq cq Ac cc, q.val, .slice Al l.length cl, .int .i64 i] w fun e w' => e = .returned (.bool true) ∧ Ext w w' := by
  unfold maxLen at hll
  obtain ⟨W, hW, hB, hk, hkr, hlt, hltr⟩ := box2 w #[.slice Aq p.quo.length cq, .slice Ac p.cons.length cc] q.cells 25 31
  simp only [Req.cells] at hW hkr
  have hc := hk.cell
  have hcr := hkr.cell
  have hIn : PlnIn W Aq cq Ac cc p := h.ext hB
  have hgr := great35_any Aq cq Ac cc p none 0 0 none 0 0 none 0 0 W hIn.le.1 hIn.le.2 (by omega) (by omega) (by omega)
  cases hg : p.gr35 0 0 0
  case' true =>
    rw [hg] at hgr
    unfold Pln.val Req.val
    go_enter Try.func7, Try.ntmps7
    go_wp2_with fail
    clear hW
    refine hgr.mono ?_
    clear hgr
    rintro e w1 ⟨rfl, hb1⟩
    go_wp2_with fail
    refine (awake_any _).mono ?_
    rintro e w2 ⟨rfl, hb2⟩
    go_wp2
    go_ret
    exact ⟨rfl, (hB.trans hb1).trans hb2⟩
  rw [hg] at hgr
  have hrd := (hIn.rd hg).1
  clear hg
  by_cases h20 : 20 < l.length
  · have d20 : decide ((20 : Int) < (l.length : Int)) = true := decide_eq_true (by omega)
    clear h20
    unfold Pln.val Req.val
    go_enter Try.func7, Try.ntmps7
    go_wp2_with fail
    clear hW
    refine hgr.mono ?_
    clear hgr
    rintro e w1 ⟨rfl, hb1⟩
    go_wp2_with fail
    refine (awake_any _).mono ?_
    rintro e w2 ⟨rfl, hb2⟩
    go_wp2
    go_ret
    exact ⟨rfl, (hB.trans hb1).trans hb2⟩
  have d20 : decide ((20 : Int) < (l.length : Int)) = false := decide_eq_false (by omega)
  replace hll : l.length ≤ 20 := by omega
  clear h20
  have hch := fun w h hl => mCheck_any Aq cq Ac cc p q none 0 [] Al cl l w h Rd.nil (by simp) hl (by omega)
  simp only [List.length_nil] at hch
  by_cases hk0 : p.mchk q [] l = 0
  case neg =>
    have dk : (p.mchk q [] l != 0) = true := by simpa using hk0
    clear hk0
    unfold Pln.val Req.val at hch ⊢
    go_enter Try.func7, Try.ntmps7
    go_wp2_with fail
    clear hW
    refine hgr.mono ?_
    clear hgr
    rintro e w1 ⟨rfl, hb1⟩
    replace hc := (hk.ext hb1).cell
    replace hcr := (hkr.ext hb1).cell
    have l1 := (hk.ext hb1).lt
    have l2 := (hkr.ext hb1).lt
    go_wp2_with fail
    refine (hch _ (hrd.ext hb1) ((hl.ext hB).ext hb1)).mono ?_
    rintro e w2 ⟨rfl, hb2⟩
    go_wp2_with fail
    refine (awake_any _).mono ?_
    rintro e w3 ⟨rfl, hb3⟩
    go_wp2
    go_ret
    exact ⟨rfl, ((hB.trans hb1).trans hb2).trans hb3⟩
  have V := mchk_vt hk0
  rw [hk0] at hch
  have hre := fun w h hl => Reached_any Aq cq Ac cc p q Al cl l w h hl (by omega)
  have HV := Lib.hid V
  have Hk0 := Lib.hid hk0
  clear hk0 V
  have hpa := fun w hl => Path_any Al cl l i w hl (by omega)
  unfold Pln.val Req.val at hch hre ⊢
  go_enter Try.func7, Try.ntmps7
  go_wp2_with fail
  clear hW
  refine hgr.mono ?_
  clear hgr
  rintro e w1 ⟨rfl, hb1⟩
  replace hc := (hk.ext hb1).cell
  replace hcr := (hkr.ext hb1).cell
  have l1 := (hk.ext hb1).lt
  have l2 := (hkr.ext hb1).lt
  go_wp2_with fail
  refine (hch _ (hrd.ext hb1) ((hl.ext hB).ext hb1)).mono ?_
  clear hch
  rintro e w2 ⟨rfl, hb2⟩
  have hE2 := (hB.trans hb1).trans hb2
  have kp2 := (hk.ext hb1).ext hb2
  have kq2 := (hkr.ext hb1).ext hb2
  have rd2 := (hrd.ext hb1).ext hb2
  clear hc hcr l1 l2 hk hkr hrd
  go_wp2_with fail
  refine (hpa _ (hl.ext hE2)).mono ?_
  clear hpa
  rintro e w3 ⟨hb3, hp3⟩
  have hE3 := hE2.trans hb3
  have kp3 := kp2.ext hb3
  have kq3 := kq2.ext hb3
  have rd3 := rd2.ext hb3
  have c1 := kp3.cell
  have c2 := kq3.cell
  have l1 := kp3.lt
  have l2 := kq3.lt
  by_cases hi : 0 ≤ i ∧ i < l.length
  case neg =>
    have hpn : pathO l i = none := by unfold pathO; rw [if_neg hi]
    rw [hpn] at hp3
    obtain rfl := hp3
    go_wp2_with fail
    refine (hre _ rd3 (hl.ext hE3)).mono ?_
    clear hre
    rintro e w4 ⟨hb4, ⟨_, v, rfl, hv⟩ | ⟨hne, _⟩⟩
    case inr => exact (hne Hk0.out).elim
    by_cases h0 : i < 0
    · have dd : decide (i < 0) = true := decide_eq_true h0
      clear hi h0
      go_wp2_with fail
      refine (awake_any _).mono ?_
      rintro e w5 ⟨rfl, hb5⟩
      go_wp2
      go_ret
      exact ⟨rfl, (hE3.trans hb4).trans hb5⟩
    · have dd : decide (i < 0) = false := decide_eq_false h0
      have dd2 : decide ((l.length : Int) ≤ i) = true := decide_eq_true (by omega)
      clear hi h0
      go_wp2_with fail
      refine (awake_any _).mono ?_
      rintro e w5 ⟨rfl, hb5⟩
      go_wp2
      go_ret
      exact ⟨rfl, (hE3.trans hb4).trans hb5⟩
  obtain ⟨k, rfl⟩ : ∃ k : Nat, i = (k : Int) := ⟨i.toNat, by omega⟩
  have hkl : k < l.length := by omega
  rw [path_good HV.out hkl] at hp3
  obtain ⟨u, rfl, hu⟩ := hp3
  have hps := pth_s HV.out hkl
  have hjc := pth_jchk HV.out hkl
  have hpl := pth_len l ((gbr l k).par + 1).toNat
  have hbv := HV.out.br k hkl
  have hpr1 := hbv.par1
  have hat := mAt_nd HV.out l.length (Nat.le_refl _) k hkl
  have hreq := HV.out.req
  have hT16 := p.mAt_len q l l.length
  have hcn0 := hbv.con0
  have hcn1 := hbv.con1
  have hnd0 := hbv.nd0
  have hnd1 := hbv.nd1
  have hu2 : hopU l k = ⟨(gbr l k).con, (gbr l k).beg, (gbr l k).en, (gbr l k).arr⟩ := by unfold hopU; rw [Int.toNat_natCast]; rfl
  rw [hu2] at hps
  have hcc : (gc p.cons (gbr l k).con).dst = p.nd l k := rfl
  have hpl2 : (pth l ((gbr l k).par + 1).toNat).length ≤ 21 := by omega
  rw [gbr_get hkl] at *
  generalize pth l (l[k].par + 1).toNat = pre at *
  rw [hps] at hu hjc
  obtain ⟨A, c, rfl, hR3⟩ := hu.form
  clear hu hpl hps hu2 hi
  rw [List.length_append, List.length_singleton]
  obtain ⟨n, hn⟩ : ∃ n, pre.length = n := ⟨_, rfl⟩
  rw [hn] at hpl2 ⊢
  have hR4 := hR3
  obtain ⟨b3, o3, rfl, hb3l, x0, x1, x2, x3⟩ := hR3.hp (k := n) (by simp; omega)
  have hge : (pre ++ [(⟨l[k].con, l[k].beg, l[k].en, l[k].arr⟩ : Hp)])[n]'(by simp; omega) = ⟨l[k].con, l[k].beg, l[k].en, l[k].arr⟩ := by
    subst hn
    simp
  rw [hge] at x0 x1 x2 x3
  dsimp only at x0 x1 x2 x3
  clear hge
  have hck := fun w' (hw' : Ext w3 w') => jCheck_any Aq cq Ac cc p { q with dst := p.nd l k } (some ⟨b3, o3, none⟩) c (pre ++ [⟨l[k].con, l[k].beg, l[k].en, l[k].arr⟩]) w' (rd3.ext hw') (hR4.ext hw') (by rw [List.length_append, List.length_singleton]; omega)
  rw [hjc, List.length_append, List.length_singleton, hn] at hck
  have hdm : (p.nd l k).toNat < (List.take p.quo.length (p.mAt q l l.length)).length := by rw [List.length_take, hT16]; omega
  have htv : (List.take p.quo.length (p.mAt q l l.length))[(p.nd l k).toNat]'hdm = l[k].arr := by
    rw [List.getElem_take, ← gi_get' (by rw [hT16]; omega)]
    exact hat
  have htl : (List.take p.quo.length (p.mAt q l l.length)).length = p.quo.length := by rw [List.length_take, hT16]; omega
  have hbl : ∀ w', Ext w w' → ∃ b o, Al = some ⟨b, o, none⟩ ∧ b < w'.heap.size ∧ w'.cell? ⟨b, o + k * 5, none⟩ = some (.int .i64 l[k].con) ∧ w'.cell? ⟨b, o + k * 5 + 1, none⟩ = some (.int .i64 l[k].beg) ∧ w'.cell? ⟨b, o + k * 5 + 2, none⟩ = some (.int .i64 l[k].en) ∧ w'.cell? ⟨b, o + k * 5 + 3, none⟩ = some (.int .i64 l[k].arr) := fun w' hw => by
    obtain ⟨b, o, e, hb, d0, d1, d2, d3, _⟩ := (hl.ext hw).br hkl
    exact ⟨b, o, e, hb, d0, d1, d2, d3⟩
  have hcl : l[k].con.toNat < p.cons.length := by omega
  rw [gc_get hcl] at hcc
  clear hbv hat hjc hT16 hR4 hn
  generalize (List.take p.quo.length (p.mAt q l l.length)) = T at *
  generalize l[k] = y at *
  generalize p.nd l k = nd at *
  unfold Pln.val Req.val at hck
  dsimp only at hck
  go_wp2_with fail
  refine (hre _ rd3 (hl.ext hE3)).mono ?_
  clear hre
  rintro e w4 ⟨hb4, ⟨_, v, rfl, hv⟩ | ⟨hne, _⟩⟩
  case inr => exact (hne Hk0.out).elim
  have hE4 := hE3.trans hb4
  have kp4 := kp3.ext hb4
  have kq4 := kq3.ext hb4
  have rd4 := rd3.ext hb4
  obtain ⟨Av, cv, rfl, hRv⟩ := hv.form
  replace x0 := hb4.cell_some x0
  replace x1 := hb4.cell_some x1
  replace x2 := hb4.cell_some x2
  replace x3 := hb4.cell_some x3
  have hb4l : b3 < w4.heap.size := Nat.lt_of_lt_of_le hb3l hb4.size
  obtain ⟨bl, ol, rfl, hbl5, y0, y1, y2, y3⟩ := hbl w4 hE4
  obtain ⟨bc, oc, rfl, hbc, z0, z1, z2, z3, z4, z5, z6⟩ := rd4.c.con hcl
  rw [hcc] at z1
  obtain ⟨W5, hW5, hB5, hk5, hl5⟩ := box1 w4 #[.int .i64 y.con, .int .i64 y.beg, .int .i64 y.en, .int .i64 y.arr] 50
  have hE5 := hE4.trans hB5
  have kp5 := kp4.ext hB5
  have kq5 := kq4.ext hB5
  replace y0 := hB5.cell_some y0
  replace y1 := hB5.cell_some y1
  replace y2 := hB5.cell_some y2
  replace y3 := hB5.cell_some y3
  replace z1 := hB5.cell_some z1
  have hbl6 : bl < W5.heap.size := Nat.lt_of_lt_of_le hbl5 hB5.size
  have hbc6 : bc < W5.heap.size := Nat.lt_of_lt_of_le hbc hB5.size
  have he := run_neq_hp ⟨y.con, y.beg, y.en, y.arr⟩ ⟨y.con, y.beg, y.en, y.arr⟩
  rw [hpEq_iff.2 rfl] at he
  dsimp only at he
  have d1 : decide (y.con < 0) = false := decide_eq_false (by omega)
  have d2 : decide ((p.cons.length : Int) ≤ y.con) = false := decide_eq_false (by omega)
  have e1 := hk5.cell
  have e2 := hk5.lt
  have e3 := kp5.cell
  have e4 := kp5.lt
  have e5 := kq5.cell
  have e6 := kq5.lt
  have hd7 : decide ((l.length : Int) ≤ (k : Int)) = false := decide_eq_false (by omega)
  have hd8 : decide (l.length ≤ k) = false := decide_eq_false (by omega)
  have hwj : IntKind.i64.wrap (n : Int) = (n : Int) := IntWalk.i64_in _ (by omega)
  clear c1 c2 l1 l2 hbl
  go_wp2_with fail
  have hN := Near.refl W5
  have hq := quiet_near hN
  refine wp_region_quiet_below (by kernel_rfl) (by kernel_rfl) ?_
  repeat (first | go_big_quiet_skip | (go_big_quiet_want; go_big_quiet_op; first | go_big_quiet_on | (apply Exists.intro; refine ⟨fun _ => ?_, ?_⟩; (focus (first | fail)); go_big_quiet_on)))
  refine wpQuiet_nil ?_
  intro w1 hw1
  clear hq
  replace hw1 := quiet_ext hw1
  replace hN := hN.step hw1
  have hC := hN.2
  have hE6 := hE5.trans hw1
  have kp6 := kp5.ext hw1
  have kq6 := kq5.ext hw1
  have hk6 := hk5.ext hw1
  replace z1 := hw1.cell_some z1
  have x36 : Ext w3 w1 := (hb4.trans hB5).trans hw1
  have hR6 := ((hRv.ext hB5).ext hw1)
  clear y0 y1 y2 y3 e1 e3 e5 hC hN he
  have e1 := hk6.cell
  have e2' := hk6.lt
  have e3 := kp6.cell
  have e4' := kp6.lt
  have e5 := kq6.cell
  have e6' := kq6.lt
  obtain ⟨w6, rfl⟩ : ∃ x, x = w1 := ⟨_, rfl⟩
  obtain ⟨W7, hW7, hB7, hk7, hl7⟩ := box1 w6 #[.int .i64 q.src, .int .i64 nd, .int .i64 q.size, .int .i64 q.ready, .int .i64 q.dead, .int .i64 q.prio, .bool q.cust] 31
  have hE7 := hE6.trans hB7
  have kp7 := kp6.ext hB7
  have hk13 := hk6.ext hB7
  have hbc7 : bc < w6.heap.size := Nat.lt_of_lt_of_le hbc6 hw1.size
  go_wp2_with fail
  obtain ⟨bv, ov, rfl, hbv, v0⟩ := (hR6.ext hB7).int hdm
  rw [htv] at v0
  have eN : ((nd.toNat : Nat) : Int) = nd := by omega
  have g1 := kp7.cell
  have g2 := kp7.lt
  have g3 := hk13.cell
  have g4 := hk13.lt
  have g5 := hk7.cell
  have g6 := hk7.lt
  have hN := Near.refl W7
  have hd9 : decide (nd < (p.quo.length : Int)) = true := decide_eq_true (by omega)
  have hckA := fun d os => hck (Sort.grow (redrawn W7 d) os) ((x36.trans hB7).trans (below_regrown W7 d os))
  clear e1 e3 e5 z1
  have hq := quiet_near hN
  refine wp_region_quiet_below (by kernel_rfl) (by kernel_rfl) ?_
  repeat (first | go_big_quiet_skip | (go_big_quiet_want; go_big_quiet_op; first | go_big_quiet_on | (apply Exists.intro; refine ⟨fun _ => ?_, ?_⟩; (focus (first | (go_at_call 21; with_reducible exact Calls.regrown_of (hckA _ _)) | (go_at_call 9; exact Calls.regrown_of (awake_any _)))); go_big_quiet_on)))
  refine wpQuiet_nil ?_
  intro w1 hw1
  clear hq
  replace hw1 := quiet_ext hw1
  replace hN := hN.step hw1
  have hC := hN.2
  go_wp2
  go_ret
  exact ⟨rfl, hE7.trans hw1⟩

end Go.Proofs.Ytbgdglcnminbaaa


/- Layer 35 (multicast): the walk of MulticastPruned. -/
import Derived.Test.YtbgdglcnminbaaaMlP
import Derived.Test.YtbgdglcnminbaaaMcPn
import Derived.BigQuiet
namespace Go.Proofs.Ytbgdglcnminbaaa
set_option linter.unusedVariables false
set_option linter.unusedSimpArgs false
open Go.RowKit Go.Shelf
attribute [local go_sem] Oper.semAt_some

set_option maxHeartbeats 1000000 in
theorem containsBr_any (A : Option Addr) (c : Nat) (l : List Br) (f : FuncId) (cs : Array Value) (p : Br → Bool) (w : World) (hA : Rd EBr w A l) (hmax : l.length ≤ 1000000) (hp : PredBr w f cs p l) :
    Calls Try.prog 18 #[.slice A l.length c, .func (.func f) #[] cs] w fun e w' => e = .returned (.bool (l.any p)) ∧ Ext w w' := by
  have hfn := Lib.hid (findI_neg (p := p) (l := l))
  go_enter Try.func18, Try.ntmps18
  go_wp2_with fail
  refine (indexBr_any A c l f cs p w hA hmax hp).mono ?_
  rintro e w1 ⟨rfl, hb⟩
  go_wp2
  go_ret
  exact ⟨ret_bool hfn.out, hb⟩
theorem run_eql_hp (x y : Hp) (w : World) :
    (binOp .eql 50 (.agg #[.int .i64 x.con, .int .i64 x.beg, .int .i64 x.en, .int .i64 x.arr]) (.agg #[.int .i64 y.con, .int .i64 y.beg, .int .i64 y.en, .int .i64 y.arr])).run Try.prog w = .ok (.bool (hpEq x y)) w := by
  unfold hpEq
  by_cases h0 : x.con = y.con
  · by_cases h1 : x.beg = y.beg
    · by_cases h2 : x.en = y.en
      · by_cases h3 : x.arr = y.arr
        · go_simp
        · go_simp
      · go_simp
    · go_simp
  · go_simp
set_option maxHeartbeats 1000000 in
theorem pred_pr {w0 : World} {g : Nat} {x : Br} {l : List Br} (h : Blk w0 g 52 #[.int .i64 x.con, .int .i64 x.beg, .int .i64 x.en, .int .i64 x.arr, .int .i64 x.par]) : PredBr w0 19 #[.pointer (some ⟨g, 0, none⟩)] (fun y => hpEq x.hop y.hop) l where
  enters := enters_of Try.func19 (by kernel_rfl) rfl
  says := fun y w hx hw => by
    obtain ⟨W, hW, hB, hk, hlt⟩ := box1 w #[.int .i64 y.con, .int .i64 y.beg, .int .i64 y.en, .int .i64 y.arr, .int .i64 y.par] 52
    have s0 := hk.cell
    have s1 := (h.ext (hw.trans hB)).cell
    have s2 := hk.lt
    have s3 := (h.ext (hw.trans hB)).lt
    have he := run_eql_hp x.hop y.hop
    unfold Br.hop at he ⊢
    dsimp only at he
    show Calls Try.prog 19 #[_, _] w _
    go_enter Try.func19, Try.ntmps19
    go_wp2_with fail
    clear hW
    go_wp2
    go_ret
    exact ⟨rfl, hB⟩
theorem hpEq_same (x : Hp) : hpEq x x = true := hpEq_iff.2 rfl

set_option maxRecDepth 100000 in
set_option maxHeartbeats 8000000 in
theorem pruned_walk (Aq : Option Addr) (cq : Nat) (Ac : Option Addr) (cc : Nat) (p : Pln) (q : Req) (Am : Option Addr) (cm : Nat) (mem : List Int) (Al : Option Addr) (cl : Nat) (l : List Br) (w : World) (h : PlnIn w Aq cq Ac cc p) (hmm : Rd EInt w Am mem) (hml : mem.length ≤ maxLen) (hl : Rd EBr w Al l) (hll : l.length ≤ maxLen) :
    Calls Try.prog 6 #[p.val Aq cq Ac cc, q.val, .slice Am mem.length cm, .slice Al l.length cl] w fun e w' => e = .returned (.bool true) ∧ Ext w w' := by
  unfold maxLen at hll hml
  obtain ⟨W, hW, hB, hk, hkr, hlt, hltr⟩ := box2 w #[.slice Aq p.quo.length cq, .slice Ac p.cons.length cc] q.cells 25 31
  simp only [Req.cells] at hW hkr
  have hc := hk.cell
  have hcr := hkr.cell
  have hIn : PlnIn W Aq cq Ac cc p := h.ext hB
  have hgr := great35_any Aq cq Ac cc p none 0 0 none 0 0 Am mem.length cm W hIn.le.1 hIn.le.2 (by omega) (by omega) (by omega)
  cases hg : p.gr35 0 0 mem.length
  case' true =>
    rw [hg] at hgr
    unfold Pln.val Req.val
    go_enter Try.func6, Try.ntmps6
    go_wp2_with fail
    clear hW
    refine hgr.mono ?_
    clear hgr
    rintro e w1 ⟨rfl, hb1⟩
    go_wp2_with fail
    refine (awake_any _).mono ?_
    rintro e w2 ⟨rfl, hb2⟩
    go_wp2
    go_ret
    exact ⟨rfl, (hB.trans hb1).trans hb2⟩
  rw [hg] at hgr
  obtain ⟨hrd, _, _, hm20⟩ := hIn.rd hg
  clear hg
  by_cases h20 : 20 < l.length
  · have d20 : decide ((20 : Int) < (l.length : Int)) = true := decide_eq_true (by omega)
    clear h20
    unfold Pln.val Req.val
    go_enter Try.func6, Try.ntmps6
    go_wp2_with fail
    clear hW
    refine hgr.mono ?_
    clear hgr
    rintro e w1 ⟨rfl, hb1⟩
    go_wp2_with fail
    refine (awake_any _).mono ?_
    rintro e w2 ⟨rfl, hb2⟩
    go_wp2
    go_ret
    exact ⟨rfl, (hB.trans hb1).trans hb2⟩
  have d20 : decide ((20 : Int) < (l.length : Int)) = false := decide_eq_false (by omega)
  replace hll : l.length ≤ 20 := by omega
  clear h20
  have hpr := fun w h hm hl => Prune_any Aq cq Ac cc p q Am cm mem Al cl l w h hm (by omega) hl (by omega)
  by_cases hk0 : p.mchk q mem l = 0
  case neg =>
    have Hk0 := Lib.hid hk0
    have dk : (p.mchk q mem l != 0) = true := by simpa using hk0
    clear hk0
    unfold Pln.val Req.val at hpr ⊢
    go_enter Try.func6, Try.ntmps6
    go_wp2_with fail
    clear hW
    refine hgr.mono ?_
    clear hgr
    rintro e w1 ⟨rfl, hb1⟩
    replace hc := (hk.ext hb1).cell
    replace hcr := (hkr.ext hb1).cell
    have l1 := (hk.ext hb1).lt
    have l2 := (hkr.ext hb1).lt
    go_wp2_with fail
    refine (hpr _ (hrd.ext hb1) ((hmm.ext hB).ext hb1) ((hl.ext hB).ext hb1)).mono ?_
    rintro e w2 ⟨hb2, ⟨hz, _⟩ | ⟨_, rfl⟩⟩
    case inl => exact (Hk0.out hz).elim
    go_wp2_with fail
    refine (awake_any _).mono ?_
    rintro e w3 ⟨rfl, hb3⟩
    go_wp2
    go_ret
    exact ⟨rfl, ((hB.trans hb1).trans hb2).trans hb3⟩
  have P := pruned hk0
  have V := mchk_vt hk0
  have hn0 := mchk_nil hk0
  have hreq := V.req
  have Hk0 := Lib.hid hk0
  clear hk0
  generalize hM : p.prune l mem = m at *
  have hm0 := P.chk
  have hmn0 := mchk_nil hm0
  have hml20 := (mchk_ok hm0).2.2.1
  have hag := P.again
  have hre := fun w h hl => Reached_any Aq cq Ac cc p q Al cl l w h hl (by omega)
  obtain ⟨TA, hTA⟩ : ∃ T, List.take p.quo.length (p.mAt q l l.length) = T := ⟨_, rfl⟩
  obtain ⟨TB, hTB⟩ : ∃ T, List.take p.quo.length (p.mAt q m m.length) = T := ⟨_, rfl⟩
  have hTAl : TA.length = p.quo.length := by rw [← hTA, List.length_take, p.mAt_len q l l.length]; omega
  have hTBl : TB.length = p.quo.length := by rw [← hTB, List.length_take, p.mAt_len q m m.length]; omega
  have hTT : ∀ (j : Nat) (ha : j < TA.length) (hb : j < TB.length), TB[j] = TA[j] ∨ TB[j] = -1 := fun j ha hb => by
    have hj : j < p.quo.length := by omega
    have := P.times j (by omega) (by omega)
    rw [gi_get' (by rw [p.mAt_len]; omega), gi_get' (by rw [p.mAt_len]; omega)] at this
    subst hTA hTB
    rw [List.getElem_take, List.getElem_take]
    simpa using this
  have hTM : ∀ (j : Nat) (hb : j < TB.length), TB[j] = -1 → seenB mem (j : Int) = false := fun j hb e => by
    have hj : j < p.quo.length := by omega
    cases hs : seenB mem (j : Int)
    · rfl
    exfalso
    have h2 := P.mem (j : Int) (seenB_iff.1 hs)
    rw [gi_get' (by rw [p.mAt_len]; omega)] at h2
    subst hTB
    rw [List.getElem_take] at e
    simp only [Int.toNat_natCast] at h2
    omega
  have hsub : ∀ x ∈ m, l.any (fun y => hpEq x.hop y.hop) = true := fun x hx => by
    obtain ⟨y, hy, e⟩ := P.sub x hx
    exact List.any_eq_true.2 ⟨y, hy, by rw [e]; exact hpEq_same _⟩
  have HTT := Lib.hid hTT
  have HTM := Lib.hid hTM
  have HTAl := Lib.hid hTAl
  have HTBl := Lib.hid hTBl
  have Hsub := Lib.hid hsub
  have Hn0 := Lib.hid hn0
  have Hm0 := Lib.hid hm0
  have Hmn0 := Lib.hid hmn0
  have Hag := Lib.hid hag
  have HTA := Lib.hid hTA
  have HTB := Lib.hid hTB
  clear hTT hTM hTAl hTBl hsub hn0 hm0 hmn0 hag hTA hTB P V hM
  unfold Pln.val Req.val at hpr hre ⊢
  go_enter Try.func6, Try.ntmps6
  go_wp2_with fail
  clear hW
  refine hgr.mono ?_
  clear hgr
  rintro e w1 ⟨rfl, hb1⟩
  replace hc := (hk.ext hb1).cell
  replace hcr := (hkr.ext hb1).cell
  have l1 := (hk.ext hb1).lt
  have l2 := (hkr.ext hb1).lt
  go_wp2_with fail
  refine (hpr _ (hrd.ext hb1) ((hmm.ext hB).ext hb1) ((hl.ext hB).ext hb1)).mono ?_
  clear hpr
  rintro e w2 ⟨hb2, ⟨_, v, rfl, hv⟩ | ⟨hne, _⟩⟩
  case inr => exact (hne Hk0.out).elim
  obtain ⟨Av, cv, rfl, hRv⟩ := hv.form
  have hE2 := (hB.trans hb1).trans hb2
  have kp2 := (hk.ext hb1).ext hb2
  have kq2 := (hkr.ext hb1).ext hb2
  have rd2 := (hrd.ext hb1).ext hb2
  replace hc := kp2.cell
  replace hcr := kq2.cell
  replace l1 := kp2.lt
  replace l2 := kq2.lt
  clear hk hkr hrd
  go_wp2_with fail
  refine (hre _ rd2 (hl.ext hE2)).mono ?_
  clear hre
  rintro e w3 ⟨hb3, ⟨_, va, rfl, hva⟩ | ⟨hne, _⟩⟩
  case inr => exact (hne Hn0.out).elim
  rw [HTA.out] at hva
  obtain ⟨Aa, ca, rfl, hRa⟩ := hva.form
  rw [HTAl.out]
  have hE3 := hE2.trans hb3
  have kp3 := kp2.ext hb3
  have kq3 := kq2.ext hb3
  have rd3 := rd2.ext hb3
  replace hc := kp3.cell
  replace hcr := kq3.cell
  replace l1 := kp3.lt
  replace l2 := kq3.lt
  have hRv3 := hRv.ext hb3
  have hre2 := fun w h hl => Reached_any Aq cq Ac cc p q Av cv m w h hl (by omega)
  unfold Pln.val Req.val at hre2
  go_wp2_with fail
  refine (hre2 _ rd3 hRv3).mono ?_
  clear hre2
  rintro e w4 ⟨hb4, ⟨_, vb, rfl, hvb⟩ | ⟨hne, _⟩⟩
  case inr => exact (hne Hmn0.out).elim
  rw [HTB.out] at hvb
  obtain ⟨Ab, cb, rfl, hRb⟩ := hvb.form
  rw [HTBl.out]
  have hE4 := hE3.trans hb4
  have kp4 := kp3.ext hb4
  have kq4 := kq3.ext hb4
  have rd4 := rd3.ext hb4
  replace hc := kp4.cell
  replace hcr := kq4.cell
  replace l1 := kp4.lt
  replace l2 := kq4.lt
  have hRv4 := hRv3.ext hb4
  have hRa4 := hRa.ext hb4
  have hpr2 := fun w h hm hl => Prune_any Aq cq Ac cc p q Am cm mem Av cv m w h hm (by omega) hl (by omega)
  have hch2 := fun w h hm hl => mCheck_any Aq cq Ac cc p q Am cm mem Av cv m w h hm (by omega) hl (by omega)
  rw [Hm0.out] at hch2
  unfold Pln.val Req.val at hpr2 hch2
  go_wp2_with fail
  refine (hpr2 _ rd4 (hmm.ext hE4) hRv4).mono ?_
  clear hpr2
  rintro e w5 ⟨hb5, ⟨_, vc, rfl, hvc⟩ | ⟨hne, _⟩⟩
  case inr => exact (hne Hm0.out).elim
  rw [Hag.out] at hvc
  obtain ⟨Ad, cd, rfl, hRc⟩ := hvc.form
  have hE5 := hE4.trans hb5
  have kp5 := kp4.ext hb5
  have kq5 := kq4.ext hb5
  have rd5 := rd4.ext hb5
  replace hc := kp5.cell
  replace hcr := kq5.cell
  replace l1 := kp5.lt
  replace l2 := kq5.lt
  go_wp2_with fail
  refine (hch2 _ rd5 (hmm.ext hE5) (hRv4.ext hb5)).mono ?_
  clear hch2
  rintro e w6 ⟨rfl, hb6⟩
  have hE6 := hE5.trans hb6
  have hRv6 := (hRv4.ext hb5).ext hb6
  go_wp2_with fail
  refine (sameBrs_ex Av Ad cv cd m _ hRv6 (hRc.ext hb6) (by omega)).mono ?_
  rintro e w7 ⟨rfl, hb7⟩
  have hE7 := hE6.trans hb7
  have hRa7 := ((hRa4.ext hb5).ext hb6).ext hb7
  have hRb7 := ((hRb.ext hb5).ext hb6).ext hb7
  have hRv7 := hRv6.ext hb7
  have hmm7 := hmm.ext hE7
  have hl7 := hl.ext hE7
  clear hc hcr l1 l2 kp2 kq2 rd2 kp3 kq3 rd3 kp4 kq4 rd4 kp5 kq5 rd5 hRv hRv3 hRv4 hRv6 hRa hRa4 hRb hRc hv hva hvb hvc
  obtain ⟨N, hN0⟩ : ∃ N, p.quo.length = N := ⟨_, rfl⟩
  have HN0 := Lib.hid hN0
  have hNb : N ≤ 16 := by omega
  rw [hN0]
  clear hreq hN0
  go_wp2_with fail
  go_loopg [101] N (fun n k wr => ∃ j : Nat, j + n = N ∧ k = .int .i64 j ∧ Ext w7 wr)
  case atStart => exact ⟨0, by omega, rfl, Ext.refl _⟩
  case round =>
    obtain ⟨j, hjq, rfl, hx⟩ := hrel
    have Hjq := Lib.hid hjq
    have hjN : j ≤ N := by omega
    clear hjq
    by_cases hlt2 : j < N
    · have hja : j < TA.length := by rw [HTAl.out, HN0.out]; exact hlt2
      have hjb : j < TB.length := by rw [HTBl.out, HN0.out]; exact hlt2
      obtain ⟨ba, oa, rfl, hba, ga⟩ := (hRa7.ext hx).int hja
      obtain ⟨bb, ob, rfl, hbb, gb⟩ := (hRb7.ext hx).int hjb
      have htt := HTT.out j hja hjb
      have htm := HTM.out j hjb
      generalize TA[j] = ya at *
      generalize TB[j] = yb at *
      have hcon := fun d os => containsInt_any Am cm mem (j : Int) (Sort.grow (redrawn wr d) os) ((hmm7.ext hx).ext (below_regrown wr d os)) (by omega)
      clear hja hjb
      have hN := Near.refl wr
      by_cases e1 : yb = -1
      · have hmf := htm e1
        subst e1
        have d1 : ((-1 : Int) != -1) = false := by decide
        have d2 : ((-1 : Int) == -1) = true := by decide
        rw [hmf] at hcon
        clear htt htm hmf
        go_wp2_with fail
        have hq := quiet_near hN
        refine wp_region_quiet_below (by kernel_rfl) (by kernel_rfl) ?_
        repeat (first | go_big_quiet_skip | (go_big_quiet_want; go_big_quiet_op; first | go_big_quiet_on | (apply Exists.intro; refine ⟨fun _ => ?_, ?_⟩; (focus (first | (go_at_call 17; with_reducible exact Calls.regrown_of (hcon _ _)))); go_big_quiet_on)))
        refine wpQuiet_nil ?_
        intro w1 hw1
        clear hq
        replace hw1 := quiet_ext hw1
        replace hN := hN.step hw1
        have hC := hN.2
        go_wp2
        go_roundg (gk - 1)
        case measure => have := Hjq.out; omega
        case rel => exact ⟨j + 1, by have := Hjq.out; omega, by go_num, hx.trans hw1⟩
      · have d1 : (yb != -1) = true := by simpa using e1
        have d2 : (yb == -1) = false := by simpa using e1
        obtain rfl : yb = ya := htt.resolve_right e1
        have d3 : (yb != yb) = false := by simp
        clear htt htm e1
        go_wp2_with fail
        have hq := quiet_near hN
        refine wp_region_quiet_below (by kernel_rfl) (by kernel_rfl) ?_
        repeat (first | go_big_quiet_skip | (go_big_quiet_want; go_big_quiet_op; first | go_big_quiet_on | (apply Exists.intro; refine ⟨fun _ => ?_, ?_⟩; (focus (first | (go_at_call 17; with_reducible exact Calls.regrown_of (hcon _ _)))); go_big_quiet_on)))
        refine wpQuiet_nil ?_
        intro w1 hw1
        clear hq
        replace hw1 := quiet_ext hw1
        replace hN := hN.step hw1
        have hC := hN.2
        go_wp2
        go_roundg (gk - 1)
        case measure => have := Hjq.out; omega
        case rel => exact ⟨j + 1, by have := Hjq.out; omega, by go_num, hx.trans hw1⟩
    · obtain ⟨w8, rfl⟩ : ∃ w8, w8 = wr := ⟨_, rfl⟩
      obtain ⟨gko, rfl⟩ : ∃ g, g = gk := ⟨_, rfl⟩
      have hRv8 := hRv7.ext hx
      have hl8 := hl7.ext hx
      have hE8 := hE7.trans hx
      go_wp2_with fail
      go_loopg [135] m.length (fun n k wr => ∃ j : Nat, j + n = m.length ∧ k = .int .i64 j ∧ Ext w8 wr)
      case atStart => exact ⟨0, by omega, rfl, Ext.refl _⟩
      case round =>
        obtain ⟨i, hiq, rfl, hy⟩ := hrel
        have Hiq := Lib.hid hiq
        have hiN : i ≤ m.length := by omega
        clear hiq
        by_cases hlt3 : i < m.length
        · obtain ⟨bm, om, rfl, hbm, g0, g1, g2, g3, g4⟩ := (hRv8.ext hy).br hlt3
          have hs := Hsub.out m[i] (List.getElem_mem hlt3)
          generalize m[i] = x at *
          obtain ⟨W9, hW9, hB9, hk9, hl9⟩ := box1 wr #[.int .i64 x.con, .int .i64 x.beg, .int .i64 x.en, .int .i64 x.arr, .int .i64 x.par] 52
          have hcb := containsBr_any Al cl l _ _ _ W9 ((hl8.ext hy).ext hB9) (by omega) (pred_pr (l := l) hk9)
          rw [hs] at hcb
          clear hs
          go_wp2_with fail
          clear hW9
          refine hcb.mono ?_
          clear hcb
          rintro e w10 ⟨rfl, hb10⟩
          go_wp2
          go_roundg (gk - 1)
          case measure => have := Hiq.out; omega
          case rel => exact ⟨i + 1, by have := Hiq.out; omega, by go_num, (hy.trans hB9).trans hb10⟩
        · go_wp2_with fail
          refine (awake_any _).mono ?_
          rintro e w10 ⟨rfl, hb10⟩
          go_wp2
          go_ret
          exact ⟨rfl, (hE8.trans hy).trans hb10⟩

end Go.Proofs.Ytbgdglcnminbaaa

/- Layer 35, the reference (multicast): Check. -/
import Derived.Test.YtbgdglcnminbaaaGreatMzB
import Derived.BigQuiet
namespace Go.Proofs.YtbgdglcnminbaaaGreat
set_option linter.unusedVariables false
set_option linter.unusedSimpArgs false
open Go.RowKit Go.Shelf
attribute [local go_sem] Oper.semAt_some

theorem mchk_1 {p : Pln} {q : Req} {mem : List Int} {l : List Br} (h : ¬ (fineR p q = true ∧ memsB p.quo.length q.src mem = true)) : p.mchk q mem l = 1 := by
  unfold Pln.mchk; rw [if_neg h]
theorem mchk_4 {p : Pln} {q : Req} {mem : List Int} {l : List Br} (h1 : fineR p q = true) (h2 : memsB p.quo.length q.src mem = true) (h : 16 < l.length) : p.mchk q mem l = 4 := by
  unfold Pln.mchk; rw [if_pos ⟨h1, h2⟩, if_pos h]
theorem mchk_e {p : Pln} {q : Req} {mem : List Int} {l : List Br} (h1 : fineR p q = true) (h2 : memsB p.quo.length q.src mem = true) (h : l.length ≤ 16) (he : p.mErr q l l.length ≠ 0) : p.mchk q mem l = p.mErr q l l.length := by
  unfold Pln.mchk; rw [if_pos ⟨h1, h2⟩, if_neg (by omega), if_neg he]
theorem mchk_7 {p : Pln} {q : Req} {mem : List Int} {l : List Br} (h1 : fineR p q = true) (h2 : memsB p.quo.length q.src mem = true) (h : l.length ≤ 16) (he : p.mErr q l l.length = 0) {j : Nat} (hj : j < mem.length) (hg : gi (p.mAt q l l.length) mem[j] < 0) : p.mchk q mem l = 7 := by
  unfold Pln.mchk
  rw [if_pos ⟨h1, h2⟩, if_neg (by omega), if_pos he, if_pos]
  exact List.any_eq_true.2 ⟨mem[j], List.getElem_mem hj, decide_eq_true hg⟩

set_option maxRecDepth 100000 in
set_option maxHeartbeats 8000000 in
theorem rCheck35_any (Aq : Option Addr) (cq : Nat) (Ac : Option Addr) (cc : Nat) (p : Pln) (q : Req) (Am : Option Addr) (cm : Nat) (mem : List Int) (Al : Option Addr) (cl : Nat) (l : List Br) (w : World) (h : PlnRd w Aq cq Ac cc p) (hmm : Rd EInt w Am mem) (hml : mem.length ≤ 1000000) (hl : Rd EBr w Al l) (hlm : l.length ≤ 1000000) (hcl : l.length ≤ cl) :
    Calls Tryz.prog 18 #[p.val Aq cq Ac cc, q.val, .slice Am mem.length cm, .slice Al l.length cl] w fun e w' => e = .returned (.int .i64 (p.mchk q mem l)) ∧ Ext w w' := by
  obtain ⟨W, hW, hB, hk, hk2, hlt, hlt2⟩ := box2 w #[.slice Aq p.quo.length cq, .slice Ac p.cons.length cc] q.cells 25 31
  simp only [Req.cells] at hW hk2
  have hc := hk.cell
  have hc2 := hk2.cell
  have hcr := uCheckRequest_any Aq cq Ac cc p q W (h.ext hB)
  have hrd := h.ext hB
  have hl1 := hl.ext hB
  have hm1 := hmm.ext hB
  have hme := fun w' (hw' : Ext W w') => rmembers_any Aq cq Ac cc p q Am cm mem w' (hm1.ext hw') hml h.qm
  unfold Pln.val Req.val at hcr hme ⊢
  cases hf : fineR p q
  · have HV := Lib.hid (mchk_1 (mem := mem) (l := l) (p := p) (q := q) (fun hh => by rw [hf] at hh; cases hh.1))
    go_enter Tryz.func18, Tryz.ntmps18
    go_wp2_with fail
    clear hW
    refine hcr.mono ?_
    clear hcr
    rintro e w1 ⟨k, rfl, hk0, hb1⟩
    have dk : (k != 0) = true := by
      rw [bne_iff_ne]
      intro e
      have := hk0.1 e
      rw [hf] at this
      cases this
    clear hk0 hf
    go_wp2
    go_ret
    exact ⟨by rw [HV.out]; rfl, hB.trans hb1⟩
  cases hmb : memsB p.quo.length q.src mem
  · have HV := Lib.hid (mchk_1 (mem := mem) (l := l) (p := p) (q := q) (fun hh => by rw [hmb] at hh; cases hh.2))
    rw [hmb] at hme
    clear hmb
    go_enter Tryz.func18, Tryz.ntmps18
    go_wp2_with fail
    clear hW
    refine hcr.mono ?_
    clear hcr
    rintro e w1 ⟨k, rfl, hk0, hb1⟩
    obtain rfl := hk0.2 hf
    replace hc := (hk.ext hb1).cell
    replace hc2 := (hk2.ext hb1).cell
    have l1 := (hk.ext hb1).lt
    have l2 := (hk2.ext hb1).lt
    clear hf hk0
    go_wp2_with fail
    refine (hme _ hb1).mono ?_
    rintro e w2 ⟨rfl, hb2⟩
    go_wp2
    go_ret
    exact ⟨by rw [HV.out]; rfl, (hB.trans hb1).trans hb2⟩
  rw [hmb] at hme
  have Hf := Lib.hid hf
  have Hmb := Lib.hid hmb
  by_cases h16 : 16 < l.length
  · have HV := Lib.hid (mchk_4 hf hmb h16)
    have d16 : decide ((16 : Int) < (l.length : Int)) = true := decide_eq_true (by omega)
    clear hmb h16
    go_enter Tryz.func18, Tryz.ntmps18
    go_wp2_with fail
    clear hW
    refine hcr.mono ?_
    clear hcr
    rintro e w1 ⟨k, rfl, hk0, hb1⟩
    obtain rfl := hk0.2 hf
    replace hc := (hk.ext hb1).cell
    replace hc2 := (hk2.ext hb1).cell
    have l1 := (hk.ext hb1).lt
    have l2 := (hk2.ext hb1).lt
    clear hf hk0
    go_wp2_with fail
    refine (hme _ hb1).mono ?_
    rintro e w2 ⟨rfl, hb2⟩
    go_wp2
    go_ret
    exact ⟨by rw [HV.out]; rfl, (hB.trans hb1).trans hb2⟩
  have d16 : decide ((16 : Int) < (l.length : Int)) = false := decide_eq_false (by omega)
  replace hlm : l.length ≤ 16 := by omega
  have HE := Lib.hid (fun he => mchk_e hf hmb hlm he)
  have H7 := Lib.hid (fun he j hj hg => mchk_7 (j := j) hf hmb hlm he hj hg)
  have H0 := Lib.hid (fun he hg => mchk_of hf hmb hlm he hg)
  have Hmi := Lib.hid (fun x (hx : x ∈ mem) => memsB_in hmb hx)
  have hn16 := (Pln.ok_of (fineR_of hf).1).n16
  have hbr := fun i w' (hw' : Ext W w') hi hv => rbranch_any Aq cq Ac cc p q Al cl l i w' (hrd.ext hw') (hl1.ext hw') hlm hcl hi Hf.out hv
  have hfi := fun x w' (hw' : Ext W w') hi => rfind_any Aq cq Ac cc p q Al cl l x w' (hrd.ext hw') (hl1.ext hw') (by omega) hi
  unfold Pln.val Req.val at hbr hfi
  clear hmb h16
  go_enter Tryz.func18, Tryz.ntmps18
  go_wp2_with fail
  clear hW
  refine hcr.mono ?_
  clear hcr
  rintro e w1 ⟨k, rfl, hk0, hb1⟩
  obtain rfl := hk0.2 hf
  replace hc := (hk.ext hb1).cell
  replace hc2 := (hk2.ext hb1).cell
  have l1 := (hk.ext hb1).lt
  have l2 := (hk2.ext hb1).lt
  clear hf hk0
  go_wp2_with fail
  refine (hme _ hb1).mono ?_
  clear hme
  rintro e w2 ⟨rfl, hb2⟩
  have hx2 := hb1.trans hb2
  clear hc hc2 l1 l2
  go_wp2_with fail
  go_loopg [9] l.length (fun n k wr => ∃ j : Nat, j + n = l.length ∧ k = .int .i64 j ∧ Hid (p.mErr q l j = 0) ∧ Ext W wr)
  case atStart => exact ⟨0, by omega, rfl, Lib.hid rfl, hx2⟩
  case round =>
    obtain ⟨j, hjq, rfl, hme, hx⟩ := hrel
    have Hjq := Lib.hid hjq
    have hjN : j ≤ l.length := by omega
    clear hjq
    have u1 := (hk.ext hx).cell
    have u2 := (hk.ext hx).lt
    have u3 := (hk2.ext hx).cell
    have u4 := (hk2.ext hx).lt
    by_cases hlt2 : j < l.length
    · have hb := hbr j wr hx hlt2 (fun k hk => brV Hf.out (mErr_all hme.out k hk))
      have hst : p.mErr q l (j + 1) = p.brE q l j (p.mAt q l j) := by
        show (if p.mErr q l j = 0 then _ else _) = _
        rw [if_pos hme.out]
      generalize p.brE q l j (p.mAt q l j) = E at *
      have Hst := Lib.hid hst
      clear hst
      go_wp2_with fail
      refine hb.mono ?_
      clear hb
      rintro e w3 ⟨rfl, hb3⟩
      by_cases hE : E = 0
      · have dE : (E != 0) = false := by simpa using hE
        have HN := Lib.hid (show p.mErr q l (j + 1) = 0 by rw [Hst.out, hE])
        clear hE
        go_wp2
        go_roundg (gk - 1)
        case measure => have := Hjq.out; omega
        case rel => exact ⟨j + 1, by have := Hjq.out; omega, by go_num, HN, hx.trans hb3⟩
      · have dE : (E != 0) = true := by simpa using hE
        have h1 : p.mErr q l l.length = E := (Pln.mErr_to (n := l.length) (by rw [Hst.out]; exact hE) (by omega)).trans Hst.out
        have HV := Lib.hid ((HE.out (by rw [h1]; exact hE)).trans h1)
        clear hE h1
        go_wp2
        go_ret
        exact ⟨by rw [HV.out]; rfl, (hB.trans hx).trans hb3⟩
    · obtain rfl : j = l.length := by omega
      have hv : VT p q l := ⟨Hf.out, hlm, fun k hk => brV Hf.out (mErr_all hme.out k hk)⟩
      have hif := fun x h0 h1 => fnd_iff hv (x := x) h0 h1
      have Hif := Lib.hid hif
      have hfi2 := fun x w' hw' => hfi x w' hw' (fun k hk => ⟨(hv.br k hk).con0, (hv.br k hk).con1⟩)
      clear hfi hif hv hbr HE
      obtain ⟨wo, rfl⟩ : ∃ wo, wo = wr := ⟨_, rfl⟩
      obtain ⟨gko, rfl⟩ : ∃ g, g = gk := ⟨_, rfl⟩
      clear u1 u2 u3 u4
      go_wp2_with fail
      go_loopg [11] mem.length (fun n k wr => ∃ j : Nat, j + n = mem.length ∧ k = .int .i64 j ∧ Hid (∀ (i : Nat) (hi : i < mem.length), i < j → 0 ≤ gi (p.mAt q l l.length) mem[i]) ∧ Ext W wr)
      case atStart => exact ⟨0, by omega, rfl, Lib.hid (fun i hi h => by omega), hx⟩
      case round =>
        obtain ⟨i, hiq, rfl, hge, hy⟩ := hrel
        have Hiq := Lib.hid hiq
        have hiN : i ≤ mem.length := by omega
        clear hiq
        have u1 := (hk.ext hy).cell
        have u2 := (hk.ext hy).lt
        have u3 := (hk2.ext hy).cell
        have u4 := (hk2.ext hy).lt
        by_cases hlt3 : i < mem.length
        · obtain ⟨bm, om, rfl, hbm, gm⟩ := (hm1.ext hy).int hlt3
          have hmi := Hmi.out mem[i] (List.getElem_mem hlt3)
          have hiff := Hif.out mem[i] hmi.1 (by omega)
          have H7i := Lib.hid (fun hg => H7.out hme.out i hlt3 hg)
          have hstep := Lib.hid (fun hg : 0 ≤ gi (p.mAt q l l.length) mem[i] => show ∀ (k : Nat) (hk : k < mem.length), k < i + 1 → 0 ≤ gi (p.mAt q l l.length) mem[k] from fun k hk h => by
            by_cases e : k = i
            · subst e; exact hg
            · exact hge.out k hk (by omega))
          have hfA := fun d os => hfi2 mem[i] (Sort.grow (redrawn wr d) os) (hy.trans (below_regrown wr d os))
          generalize hxe : gi (p.mAt q l l.length) mem[i] = gx at *
          generalize mem[i] = x at *
          have hN := Near.refl wr
          have hC := hN.2
          go_wp2_with fail
          have hq := quiet_near hN
          refine wp_region_quiet_below (by kernel_rfl) (by kernel_rfl) ?_
          repeat (first | go_big_quiet_skip | (go_big_quiet_want; go_big_quiet_op; first | go_big_quiet_on | (apply Exists.intro; refine ⟨fun _ => ?_, ?_⟩; (focus (first | (go_at_call 34; with_reducible exact Calls.regrown_of (hfA _ _)))); go_big_quiet_on)))
          refine wpQuiet_nil ?_
          intro w1 hw1
          clear hq
          replace hw1 := quiet_ext hw1
          replace hN := hN.step hw1
          have hC := hN.2
          clear hfA
          by_cases e1 : p.fnd q l x = -2
          · have d1 : (p.fnd q l x == -2) = true := by simpa using e1
            have HV := Lib.hid (H7i.out (by
              have : ¬ 0 ≤ gx := fun h => hiff.1 h e1
              omega))
            clear e1
            go_wp2
            go_ret
            exact ⟨by rw [HV.out]; rfl, (hB.trans hy).trans hN.1⟩
          · have d1 : (p.fnd q l x == -2) = false := by simpa using e1
            have HS := Lib.hid (hstep.out (hiff.2 e1))
            clear e1
            go_wp2
            go_roundg (gk - 1)
            case measure => have := Hiq.out; omega
            case rel => exact ⟨i + 1, by have := Hiq.out; omega, by go_num, HS, hy.trans hN.1⟩
        · have HV := Lib.hid (H0.out hme.out (fun m hm2 => by
            obtain ⟨k, hk, rfl⟩ := List.mem_iff_getElem.1 hm2
            exact hge.out k hk (by omega)))
          go_wp2
          go_ret
          exact ⟨by rw [HV.out]; rfl, hB.trans hy⟩

end Go.Proofs.YtbgdglcnminbaaaGreat

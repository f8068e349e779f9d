
/- Layer 35 (multicast): the walk of MulticastGrow. -/
import Derived.Test.YtbgdglcnminbaaaGreatMlX
import Derived.Test.YtbgdglcnminbaaaGreatMyH
import Derived.Test.YtbgdglcnminbaaaGreatJrE
import Derived.BigQuiet
namespace Go.Proofs.YtbgdglcnminbaaaGreat
set_option linter.unusedVariables false
set_option linter.unusedSimpArgs false
open Go.RowKit Go.Shelf
attribute [local go_sem] Oper.semAt_some

set_option maxRecDepth 100000 in
set_option maxHeartbeats 8000000 in
theorem growlaw_walk (Aq : Option Addr) (cq : Nat) (Ac : Option Addr) (cc : Nat) (p : Pln) (Al : Option Addr) (cl : Nat) (bk : List Bk) (Ah : Option Addr) (ch : Nat) (hd : List Hd) (q : Req) (Am : Option Addr) (cm : Nat) (mem : List Int) (w : World) (h : TabIn w Aq cq Ac cc p Al cl bk Ah ch hd) (hmm : Rd EInt w Am mem) (hml : mem.length ≤ maxLen) :
    Calls Tryz.prog 3 #[.agg #[.slice Aq p.quo.length cq, .slice Ac p.cons.length cc, .slice Al bk.length cl, .slice Ah hd.length ch], q.val, .slice Am mem.length cm] w fun e w' => e = .returned (.bool true) ∧ Ext w w' := by
  unfold maxLen at hml
  obtain ⟨W, hW, hB, hk, hkr, hlt, hltr⟩ := box2 w #[.slice Aq p.quo.length cq, .slice Ac p.cons.length cc, .slice Al bk.length cl, .slice Ah hd.length ch] q.cells 29 31
  simp only [Req.cells] at hW hkr
  have hc := hk.cell
  have hcr := hkr.cell
  have hIn := (h.pln).ext hB
  have hbm := h.bc
  have hbm2 := h.bm
  have hhm := h.hc
  have hhm2 := h.hm
  unfold maxLen at hbm2 hhm2
  have hgr := great35_any Aq cq Ac cc p Al bk.length cl Ah hd.length ch Am mem.length cm W hIn.le.1 hIn.le.2 (by omega) (by omega) (by omega)
  cases hg : p.gr35 bk.length hd.length mem.length
  case' true =>
    rw [hg] at hgr
    unfold Req.val
    go_enter Tryz.func3, Tryz.ntmps3
    go_wp2_with fail
    clear hW
    refine hgr.mono ?_
    clear hgr
    rintro e w1 ⟨rfl, hb1⟩
    go_wp2_with fail
    refine (awake_any _).mono ?_
    rintro e w2 ⟨rfl, hb2⟩
    go_wp2
    go_ret
    exact ⟨rfl, (hB.trans hb1).trans hb2⟩
  rw [hg] at hgr
  obtain ⟨hrd, hb30, hh20, hm20⟩ := hIn.rd hg
  clear hg
  have hgw := fun w' (hw' : Ext W w') => grow_val Aq cq Ac cc p Al cl bk Ah ch hd q Am cm mem w' (hrd.ext hw') ((h.b.ext hB).ext hw') (by omega) ((h.h.ext hB).ext hw') (by omega) ((hmm.ext hB).ext hw') (by omega)
  have hrw := fun w' (hw' : Ext W w') => rGrow_good Aq cq Ac cc p Al cl bk Ah ch hd q Am cm mem w' (hrd.ext hw') ((h.b.ext hB).ext hw') (by omega) ((h.h.ext hB).ext hw') (by omega) ((hmm.ext hB).ext hw') (by omega)
  have hrb := fun w' (hw' : Ext W w') => rGrow_bad Aq cq Ac cc p Al cl bk Ah ch hd q Am cm mem w' (hrd.ext hw') ((h.b.ext hB).ext hw') (by omega) ((h.h.ext hB).ext hw') (by omega) ((hmm.ext hB).ext hw') (by omega)
  unfold Req.val at hgw hrw hrb ⊢
  go_enter Tryz.func3, Tryz.ntmps3
  go_wp2_with fail
  clear hW
  refine hgr.mono ?_
  clear hgr
  rintro e w1 ⟨rfl, hb1⟩
  replace hc := (hk.ext hb1).cell
  replace hcr := (hkr.ext hb1).cell
  have l1 := (hk.ext hb1).lt
  have l2 := (hkr.ext hb1).lt
  go_wp2_with fail
  refine (hgw _ hb1).mono ?_
  clear hgw
  rintro e w2 ⟨hb2, hv⟩
  have hE2 := hb1.trans hb2
  replace hc := (hk.ext hE2).cell
  replace hcr := (hkr.ext hE2).cell
  replace l1 := (hk.ext hE2).lt
  replace l2 := (hkr.ext hE2).lt
  cases hv with
  | bad hb he =>
    subst he
    have hs := fun w' => sameBrs_ex none none 0 0 [] w' Rd.nil Rd.nil (by simp)
    have hq := fun w' => equalInt_ex none none 0 0 [] w' Rd.nil Rd.nil (by simp)
    simp only [List.length_nil, Int.natCast_zero] at hs hq
    replace hrb := hrb w2 hE2 hb
    clear hb hrw
    go_wp2_with fail
    refine hrb.mono ?_
    clear hrb
    rintro e w3 ⟨rfl, hb3⟩
    go_wp2_with fail
    refine (hs _).mono ?_
    rintro e w4 ⟨rfl, hb4⟩
    go_wp2_with fail
    refine (hq _).mono ?_
    rintro e w5 ⟨rfl, hb5⟩
    go_wp2_with fail
    refine (awake_any _).mono ?_
    rintro e w6 ⟨rfl, hb6⟩
    go_wp2
    go_ret
    exact ⟨rfl, ((((hB.trans hE2).trans hb3).trans hb4).trans hb5).trans hb6⟩
  | none G hf hm hkt hr he =>
    subst he
    have hs := fun w' => sameBrs_ex none none 0 0 [] w' Rd.nil Rd.nil (by simp)
    have hq := fun w' => equalInt_ex none none 0 0 [] w' Rd.nil Rd.nil (by simp)
    simp only [List.length_nil, Int.natCast_zero] at hs hq
    replace hrw := hrw w2 hE2 hkt G.1 hf hm none hr
    clear hkt G hf hm hr hrb
    go_wp2_with fail
    refine hrw.mono ?_
    clear hrw
    rintro e w3 ⟨hb3, ⟨_, rfl⟩ | ⟨t, u, v, h1, _⟩⟩
    case inr => cases h1
    go_wp2_with fail
    refine (hs _).mono ?_
    rintro e w4 ⟨rfl, hb4⟩
    go_wp2_with fail
    refine (hq _).mono ?_
    rintro e w5 ⟨rfl, hb5⟩
    go_wp2_with fail
    refine (awake_any _).mono ?_
    rintro e w6 ⟨rfl, hb6⟩
    go_wp2
    go_ret
    exact ⟨rfl, ((((hB.trans hE2).trans hb3).trans hb4).trans hb5).trans hb6⟩
  | good t Au cu Av cv G hf hm hkt hr he hu hv hl hcu hcv =>
    subst he
    replace hrw := hrw w2 hE2 hkt G.1 hf hm (some t) hr
    have hml2 : (mem.map (gi t.2)).length = mem.length := List.length_map _
    clear hkt G hf hm hr hrb
    go_wp2_with fail
    refine hrw.mono ?_
    clear hrw
    rintro e w3 ⟨hb3, ⟨h1, _⟩ | ⟨t2, u2, v2, h1, he2, hu2, hv2, _⟩⟩
    case inl => cases h1
    injection h1 with h1
    subst h1
    obtain ⟨Ax, cx, rfl, hRx⟩ := hu2.form
    obtain ⟨Ay, cy, rfl, hRy⟩ := hv2.form
    rw [hml2] at he2
    subst he2
    have hu3 := hu.ext hb3
    have hv3 := hv.ext hb3
    have hs := fun w' (hw' : Ext w3 w') => sameBrs_ex Au Ax cu cx t.1 w' (hu3.ext hw') (hRx.ext hw') (by omega)
    have hq := fun w' (hw' : Ext w3 w') => equalInt_ex Av Ay cv cy (mem.map (gi t.2)) w' (hv3.ext hw') (hRy.ext hw') (by omega)
    rw [hml2] at hq
    clear hml2 hu2 hv2 hRx hRy hu3 hv3 hu hv
    generalize t.1.length = L at *
    go_wp2_with fail
    refine (hs _ (Ext.refl _)).mono ?_
    rintro e w4 ⟨rfl, hb4⟩
    go_wp2_with fail
    refine (hq _ hb4).mono ?_
    rintro e w5 ⟨rfl, hb5⟩
    go_wp2_with fail
    refine (awake_any _).mono ?_
    rintro e w6 ⟨rfl, hb6⟩
    go_wp2
    go_ret
    exact ⟨rfl, ((((hB.trans hE2).trans hb3).trans hb4).trans hb5).trans hb6⟩

end Go.Proofs.YtbgdglcnminbaaaGreat

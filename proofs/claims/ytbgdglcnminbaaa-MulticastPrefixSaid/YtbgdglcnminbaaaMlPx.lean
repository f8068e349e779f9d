
/- Layer 35 (multicast): the walk of MulticastPrefix. -/
import Derived.Test.YtbgdglcnminbaaaMlX
import Derived.Test.YtbgdglcnminbaaaJrE
import Derived.BigQuiet
namespace Go.Proofs.Ytbgdglcnminbaaa
set_option linter.unusedVariables false
set_option linter.unusedSimpArgs false
open Go.RowKit Go.Shelf
attribute [local go_sem] Oper.semAt_some

set_option maxRecDepth 100000 in
set_option maxHeartbeats 8000000 in
theorem prefix_walk (Aq : Option Addr) (cq : Nat) (Ac : Option Addr) (cc : Nat) (p : Pln) (Al : Option Addr) (cl : Nat) (bk : List Bk) (Ah : Option Addr) (ch : Nat) (hd : List Hd) (q : Req) (Am : Option Addr) (cm : Nat) (mem : List Int) (k : Int) (w : World) (h : TabIn w Aq cq Ac cc p Al cl bk Ah ch hd) (hmm : Rd EInt w Am mem) (hmc : mem.length ≤ cm) (hcm : cm ≤ maxLen) (hk0 : 0 ≤ k ∧ k ≤ 255) :
    Calls Try.prog 3 #[.agg #[.slice Aq p.quo.length cq, .slice Ac p.cons.length cc, .slice Al bk.length cl, .slice Ah hd.length ch], q.val, .slice Am mem.length cm, .int .u8 k] w fun e w' => e = .returned (.bool true) ∧ Ext w w' := by
  unfold maxLen at hcm
  obtain ⟨W, hW, hB, hk, hkr, hlt, hltr⟩ := box2 w #[.slice Aq p.quo.length cq, .slice Ac p.cons.length cc, .slice Al bk.length cl, .slice Ah hd.length ch] q.cells 29 31
  simp only [Req.cells] at hW hkr
  have hc := hk.cell
  have hcr := hkr.cell
  have hIn := (h.pln).ext hB
  have hbm := h.bc
  have hbm2 := h.bm
  have hhm := h.hc
  have hhm2 := h.hm
  unfold maxLen at hbm2 hhm2
  have hgr := great35_any Aq cq Ac cc p Al bk.length cl Ah hd.length ch Am mem.length cm W hIn.le.1 hIn.le.2 (by omega) (by omega) (by omega)
  cases hg : p.gr35 bk.length hd.length mem.length
  case' true =>
    rw [hg] at hgr
    unfold Req.val
    go_enter Try.func3, Try.ntmps3
    go_wp2_with fail
    clear hW
    refine hgr.mono ?_
    clear hgr
    rintro e w1 ⟨rfl, hb1⟩
    go_wp2_with fail
    refine (awake_any _).mono ?_
    rintro e w2 ⟨rfl, hb2⟩
    go_wp2
    go_ret
    exact ⟨rfl, (hB.trans hb1).trans hb2⟩
  rw [hg] at hgr
  obtain ⟨hrd, hb30, hh20, hm20⟩ := hIn.rd hg
  clear hg
  have hgw := fun w' (hw' : Ext W w') => grow_val Aq cq Ac cc p Al cl bk Ah ch hd q Am cm mem w' (hrd.ext hw') ((h.b.ext hB).ext hw') (by omega) ((h.h.ext hB).ext hw') (by omega) ((hmm.ext hB).ext hw') (by omega)
  unfold Req.val at hgw ⊢
  go_enter Try.func3, Try.ntmps3
  go_wp2_with fail
  clear hW
  refine hgr.mono ?_
  clear hgr
  rintro e w1 ⟨rfl, hb1⟩
  replace hc := (hk.ext hb1).cell
  replace hcr := (hkr.ext hb1).cell
  have l1 := (hk.ext hb1).lt
  have l2 := (hkr.ext hb1).lt
  go_wp2_with fail
  refine (hgw _ hb1).mono ?_
  rintro e w2 ⟨hb2, hv⟩
  have hE2 := hb1.trans hb2
  cases hv with
  | bad hb he =>
    subst he
    go_wp2_with fail
    refine (awake_any _).mono ?_
    rintro e w3 ⟨rfl, hb3⟩
    go_wp2
    go_ret
    exact ⟨rfl, (hB.trans hE2).trans hb3⟩
  | none G hf hm hk hr he =>
    subst he
    go_wp2_with fail
    refine (awake_any _).mono ?_
    rintro e w3 ⟨rfl, hb3⟩
    go_wp2
    go_ret
    exact ⟨rfl, (hB.trans hE2).trans hb3⟩
  | good t Au cu Av cv G hf hm hkt hr he hu hv hl hcu hcv =>
    subst he
    have kp2 := (hk.ext hb1).ext hb2
    have kq2 := (hkr.ext hb1).ext hb2
    replace hc := kp2.cell
    replace hcr := kq2.cell
    replace l1 := kp2.lt
    replace l2 := kq2.lt
    clear hgw
    obtain ⟨n, hn⟩ : ∃ n : Nat, k % ((mem.length : Int) + 1) = (n : Int) := ⟨(k % ((mem.length : Int) + 1)).toNat, by have := Int.emod_nonneg k (show (mem.length : Int) + 1 ≠ 0 by omega); omega⟩
    have hnl : n ≤ mem.length := by
      have := Int.emod_lt_of_pos k (show 0 < (mem.length : Int) + 1 by omega)
      omega
    obtain ⟨i0, hi0, hz0, hz1, hz2⟩ := info_parts info_int
    have hct1 : ∀ w, (Instr.slice 22 (.slice Am mem.length cm) none (some (.int .i64 (n : Int))) none).run Try.prog w = .ok (.slice Am n cm) w := fun w => run_take Try.underlying22 hi0 (by omega) w
    have hct2 : ∀ w, (Instr.sliceAt 22 (.slice Am mem.length cm) none (some (.int .i64 (n : Int))) none).run Try.prog w = .ok (.slice Am n cm) w := fun w => run_takeAt Try.underlying22 hi0 (by omega) w
    have hct3 : ∀ w, (Instr.slice 22 (.slice Av mem.length cv) none (some (.int .i64 (n : Int))) none).run Try.prog w = .ok (.slice Av n cv) w := fun w => run_take Try.underlying22 hi0 (by omega) w
    have hct4 : ∀ w, (Instr.sliceAt 22 (.slice Av mem.length cv) none (some (.int .i64 (n : Int))) none).run Try.prog w = .ok (.slice Av n cv) w := fun w => run_takeAt Try.underlying22 hi0 (by omega) w
    have hnt : (mem.take n).length = n := by rw [List.length_take]; omega
    have hmt : ∀ w', Ext w w' → Rd EInt w' Am (mem.take n) := fun w' hw' => (hmm.ext hw').take n
    have hg2 : ∀ w', Ext w2 w' → Calls Try.prog 10 #[.agg #[.slice Aq p.quo.length cq, .slice Ac p.cons.length cc, .slice Al bk.length cl, .slice Ah hd.length ch], q.val, .slice Am n cm] w' fun e w'' => Ext w' w'' ∧ ∃ (u : List Br × List Int) (Aw : Option Addr) (cw : Nat) (Ax : Option Addr) (cx : Nat), e = .returned (.tuple #[.slice Aw u.1.length cw, .slice Ax n cx, .int .i64 0]) ∧ Rd EBr w'' Aw u.1 ∧ Rd EInt w'' Ax ((mem.take n).map (gi t.2)) ∧ Hid (u.1 = t.1.take u.1.length) ∧ u.1.length ≤ t.1.length := fun w' hw' => by
      have hx := (hB.trans hE2).trans hw'
      have hw3 := grow_val Aq cq Ac cc p Al cl bk Ah ch hd q Am cm (mem.take n) w' (hrd.ext (hE2.trans hw')) (h.b.ext hx) (by omega) (h.h.ext hx) (by omega) (hmt _ hx) (by omega)
      rw [hnt] at hw3
      refine hw3.mono ?_
      rintro e w'' ⟨hE, hv⟩
      refine ⟨hE, ?_⟩
      have hm2 : memsB p.quo.length q.src (mem.take n ++ mem.drop n) = true := by rw [List.take_append_drop]; exact hm
      have hr2 : p.GrowR bk q (mem.take n ++ mem.drop n) ([], startL q) (some t) := by rw [List.take_append_drop]; exact hr
      have key := fun {r} hr' => growR_pre (r := r) G hf hm2 hr2 hr'
      cases hv with
      | bad hb he => exact (hb ⟨hkt, hf, memsB_take hm n⟩).elim
      | none G' hf' hm' hk' hr' he =>
        obtain ⟨u, e1, _⟩ := key hr'
        cases e1
      | good t' Aw cw Ax cx G' hf' hm' hk' hr' he hu' hv' hl' hcu' hcx' =>
        obtain ⟨u, e1, ⟨e2, he2⟩, h3⟩ := key hr'
        injection e1 with e1
        subst e1
        refine ⟨t', Aw, cw, Ax, cx, by rw [he, hnt], hu', ?_, Lib.hid (by rw [he2]; simp), by rw [he2, List.length_append]; omega⟩
        rw [show (mem.take n).map (gi t.2) = (mem.take n).map (gi t'.2) from List.map_congr_left (fun m hm3 => (h3 m hm3).symm)]
        exact hv'
    unfold Req.val at hg2
    have hn2 : (n : Int) ≤ (mem.length : Int) := by omega
    have hn3 : (n : Int) ≤ (cm : Int) := by omega
    have hn4 : (n : Int) ≤ (cv : Int) := by omega
    go_wp2_with fail
    rw [hn]
    have hC := (Near.refl w2).2
    go_region_held3 (fun w' => Ext w2 w' ∧ ∀ b o, b < w2.heap.size → w'.cell? ⟨b, o, none⟩ = w2.cell? ⟨b, o, none⟩) (first | exact (Near.refl w2).drew | exact Near.step (by assumption) hb9 | assumption)
      (first | (go_at_call 10; refine (hg2 _ (And.left (by assumption))).mono ?_; rintro e w9 ⟨hb9, u, Aw, cw, Ax, cx, rfl, hu9, hv9, he9, hl9⟩))
    have hx9 : Ext w2 w9 := And.left ‹Ext w2 w9 ∧ _›
    have hE9 := hE2.trans hx9
    obtain ⟨j0, hj0, hy0, hy1, hy2⟩ := info_parts info_br
    have hl16 : u.1.length ≤ 16 := by omega
    have hct5 : ∀ w, (Instr.slice 34 (.slice Au t.1.length cu) none (some (.int .i64 (u.1.length : Int))) none).run Try.prog w = .ok (.slice Au u.1.length cu) w := fun w => run_take Try.underlying34 hj0 (by omega) w
    have hct6 : ∀ w, (Instr.sliceAt 34 (.slice Au t.1.length cu) none (some (.int .i64 (u.1.length : Int))) none).run Try.prog w = .ok (.slice Au u.1.length cu) w := fun w => run_takeAt Try.underlying34 hj0 (by omega) w
    have hRu : Rd EBr w9 Au u.1 := by
      rw [he9.out]
      exact (hu.ext hx9).take _
    have hRv : Rd EInt w9 Av ((mem.take n).map (gi t.2)) := by
      rw [List.map_take]
      exact (hv.ext hx9).take n
    have hlen : ((mem.take n).map (gi t.2)).length = n := by rw [List.length_map, hnt]
    have hsame := fun w' hw' => sameBrs_ex Aw Au cw cu u.1 w' (hu9.ext hw') (hRu.ext hw') (by omega)
    have hequal := fun w' hw' => equalInt_ex Ax Av cx cv ((mem.take n).map (gi t.2)) w' (hv9.ext hw') (hRv.ext hw') (by omega)
    rw [hlen] at hequal
    have hd1 : decide ((u.1.length : Int) ≤ (t.1.length : Int)) = true := decide_eq_true (by omega)
    have hd2 : ((mem.length : Int) == (mem.length : Int)) = true := by simp
    clear hlen hnt he9 hg2 hu hv hr hm hf G hkt
    generalize u.1 = L at *
    go_wp2_with fail
    refine (hsame _ (Ext.refl _)).mono ?_
    rintro e w10 ⟨rfl, hb10⟩
    go_wp2_with fail
    refine (hequal _ hb10).mono ?_
    rintro e w11 ⟨rfl, hb11⟩
    go_wp2_with fail
    refine (awake_any _).mono ?_
    rintro e w12 ⟨rfl, hb12⟩
    go_wp2
    go_ret
    exact ⟨rfl, (((hB.trans hE9).trans hb10).trans hb11).trans hb12⟩

end Go.Proofs.Ytbgdglcnminbaaa


/- Layer 24 (journey): the walk of Fewest. -/
import Derived.Test.YtgmfnhianhngiaaJrX1
namespace Go.Proofs.Ytgmfnhianhngiaa
set_option linter.unusedVariables false
set_option linter.unusedSimpArgs false
open Go.RowKit Go.Shelf
attribute [local go_sem] Oper.semAt_some

/-- What Fewest returns, in memory. -/
def FewJ (p : Pln) (q : Req) (w : World) (e : Ending) (w' : World) : Prop := ∃ (l : List Hp) (k : Int), RetA EHp w l k e w' ∧ l.length ≤ 1000 ∧ JFew p q l k
/-- At the head of the loop over the rounds. -/
def GRel (p : Pln) (q : Req) (w2 : World) (k : Nat) (u7 : Value) (ds : List Deferred) (wr : World) : Prop :=
  k ≤ p.quo.length ∧ (∀ j, j < k → inT q (p.RrQ q j) = false) ∧ RndsRd p.quo.length (p.RrQ q) wr w2.heap.size k u7 ∧ Ext w2 wr ∧ DSx wr.heap.size w2.heap.size ds wr

/-- At the head of the loop over the nodes. -/
def FGo (p : Pln) (q : Req) (g d Bt k : Nat) (T : List Int) (wo : World) (lo i : Nat) (ds : List Deferred) (wr : World) : Prop :=
  ∃ out, RI p.quo.length p.cons q.size q.src q.ready k T out (fun c => c.src < (i : Int)) ∧ Owns EInt wr wo.heap.size 3 (.slice (some ⟨g, 0, none⟩) p.quo.length d) out ∧ Blk wr Bt 22 #[.slice (some ⟨g, 0, none⟩) p.quo.length d] ∧ Ext wo wr ∧ DSx wr.heap.size lo ds wr
theorem RndsRd.form {N : Nat} {R : Nat → List Int} {w : World} {base k : Nat} {v : Value} (h : RndsRd N R w base k v) (hN : 1 ≤ N) (hlen : ∀ i, (R i).length = N) :
    ∃ bh ch, v = .slice (some ⟨bh, 0, none⟩) (k + 1) ch ∧ base ≤ bh ∧ bh < w.heap.size ∧ ∀ i, i ≤ k → ∃ b o c, w.cell? ⟨bh, i, none⟩ = some (.slice (some ⟨b, o, none⟩) N c) ∧ b < w.heap.size ∧ Rd EInt w (some ⟨b, o, none⟩) (R i) := by
  obtain ⟨hs, ho, hhl, hrd⟩ := h
  obtain ⟨Ah, ch, rfl, hRh, hcaph⟩ := Rd.of_owns ho
  obtain ⟨bh, rfl, hbh⟩ := ho.some_ (by omega)
  have h3 := ho.block (g := bh) rfl
  refine ⟨bh, ch, by rw [hhl], hbh, h3.2, fun i hi => ?_⟩
  obtain ⟨bh', oh, e1, hbl, hck⟩ := hRh.sl (k := i) (by omega)
  injection e1 with e1
  injection e1 with e1 e2 _
  subst e1 e2
  have hrk := hrd i (by omega)
  generalize hs[i] = hd at *
  obtain ⟨Ak, nk, ck⟩ := hd
  dsimp only at hrk hck
  have hnk := hrk.len
  rw [hlen i] at hnk
  subst hnk
  obtain ⟨b, hA, hb⟩ := hrk.some_ (by rw [hlen i]; omega)
  subst hA
  have hbl := hrk.block (g := b) rfl
  rw [Nat.zero_add] at hck
  exact ⟨b, 0, ck, hck, hbl.2, hrk.rd⟩

set_option maxRecDepth 100000 in
set_option maxHeartbeats 4000000 in
theorem JFewest_any (Aq : Option Addr) (cq : Nat) (Ac : Option Addr) (cc : Nat) (p : Pln) (q : Req) (w : World) (h : PlnRd w Aq cq Ac cc p) :
    Calls Try.prog 19 #[p.val Aq cq Ac cc, q.val] w (FewJ p q w) := by
  obtain ⟨i0, hi0, hz0, hz1, hz2⟩ := info_parts info_hop
  obtain ⟨j0, hj0, hy0, hy1, hy2⟩ := info_parts info_sl
  obtain ⟨W, hW, hB, hk, hk2, hlt, hlt2⟩ := box2 w #[.slice Aq p.quo.length cq, .slice Ac p.cons.length cc] q.cells 25 34
  simp only [Req.cells] at hW hk2
  have hc := hk.cell
  have hc2 := hk2.cell
  have hqm := h.qm
  have hpc := pcheck_any Aq cq Ac cc p W (h.ext hB)
  by_cases h0 : p.chk = 0
  · have hok := Pln.ok_of h0
    rw [h0] at hpc
    have H0 := Lib.hid h0
    clear h0
    have hva := fun w => valid_any Aq cq Ac cc p q w hqm
    cases hq : q.okB p.quo.length
    · rw [hq] at hva
      have Hq := Lib.hid hq
      clear hq
      unfold Pln.val at hpc hva ⊢
      unfold Req.val at hva ⊢
      go_enter Try.func19, Try.ntmps19
      go_wp2_with fail
      clear hW
      refine hpc.mono ?_
      clear hpc
      rintro e w1 ⟨rfl, hb1⟩
      replace hc := (hk.ext hb1).cell
      replace hc2 := (hk2.ext hb1).cell
      go_wp2_with fail
      refine (hva _).mono ?_
      clear hva
      rintro e w2 ⟨rfl, hb2⟩
      go_wp2
      go_ret2
      exact ⟨[], 1, ⟨none, 0, rfl, Rd.nil, (hB.trans hb1).trans hb2, Nat.le_refl _⟩, by simp, by unfold JFew; rw [if_neg (fun h => by rw [Hq.out] at h; exact Bool.false_ne_true h.2)]; exact ⟨rfl, rfl⟩⟩
    · have J := Req.jc hok hq
      rw [hq] at hva
      have Hq := Lib.hid hq
      have hq2 := hq
      simp only [Req.okB, decide_eq_true_eq] at hq2
      obtain ⟨a1, a2, a3, a4, a5, a6, a7, a8, a9, a10, a11, a12⟩ := hq2
      have hn1 := hok.n1
      have hn16 := hok.n16
      have hm64 := hok.m64
      have hrlen : ∀ k, (p.RrQ q k).length = p.quo.length := fun k => (Rr.least J k).len
      have Hrlen := Lib.hid hrlen
      clear hq a5 hrlen
      unfold Pln.val at hpc hva ⊢
      unfold Req.val at hva ⊢
      refine (callsIn_wide (n := 5)).1 ?_
      refine callsIn_of_wp_marks Try.func19 rfl trivial ?_ rfl
      refine wpIn_wide.2 ?_
      refine Code.wp_mono NoPanic.imp ?_
      simp only [Try.ntmps19, List.size_toArray, List.length_cons, List.length_nil, Nat.reduceAdd, Nat.reduceSub, Array.replicate_succ, Array.replicate_zero, List.push_toArray, List.append_toArray, List.nil_append, List.cons_append]
      go_wp2_with fail
      clear hW
      refine hpc.mono ?_
      clear hpc
      rintro e w1 ⟨rfl, hb1⟩
      replace hc := (hk.ext hb1).cell
      replace hc2 := (hk2.ext hb1).cell
      go_wp2_with fail
      refine (hva _).mono ?_
      clear hva
      rintro e w2 ⟨rfl, hb2⟩
      have hE2 := (hB.trans hb1).trans hb2
      have kp2 := (hk.ext hb1).ext hb2
      have kq2 := (hk2.ext hb1).ext hb2
      replace hc := kp2.cell
      replace hc2 := kq2.cell
      have hlp2 := kp2.lt
      have hlq2 := kq2.lt
      clear hb1 hb2 hk hk2 hB
      go_wp2_with (go_at_call 35; refine (repeat_sl _ _ _ (-1) p.quo.length _ (rd_blk (l := [-1]) (e := 3) (Blk.new _ _ _)) hn1 hn16).mono ?_; rintro e w3 ⟨g3, d3, rfl, hv3, hg3, hg3l, hb3⟩; have hx3 : Ext w2 w3 := ((Ext.refl _).alloc _).trans hb3; have kp3 := kp2.ext hx3; have kq3 := kq2.ext hx3; have hcp3 := kp3.cell; have hcq3 := kq3.cell; have hlp3 := kp3.lt; have hlq3 := kq3.lt; have hcg3 := hv3.gi (i := q.src) (by simp; omega); have hfg3 := hv3.free.2)
      obtain ⟨w5, hw5, hR5, hx5⟩ : ∃ w5, (w3.setCell ⟨g3, q.src.toNat, none⟩ (.int .i64 q.ready)).alloc (.cells #[.slice (some ⟨g3, 0, none⟩) p.quo.length d3] 22) = w5 ∧ RndsRd p.quo.length (p.RrQ q) w5 w2.heap.size 0 (.slice (some ⟨w3.heap.size, 0, none⟩) 1 1) ∧ Ext w2 w5 := by
        have hgg : w2.heap.size ≤ g3 := by simp at hg3; omega
        have hsz : (w3.setCell ⟨g3, q.src.toNat, none⟩ (.int .i64 q.ready)).heap.size = w3.heap.size := by simp [World.setCell]
        have hst := hv3.seti (k := q.src.toNat) (by simp; omega) q.ready
        change Owns EInt _ _ _ _ (lstart p.quo.length q.src q.ready) at hst
        have hbk := Blk.new (w3.setCell ⟨g3, q.src.toNat, none⟩ (.int .i64 q.ready)) 22 (ESl.all [(some ⟨g3, 0, none⟩, p.quo.length, d3)]).toArray
        rw [hsz] at hbk
        refine ⟨_, rfl, ⟨[(some ⟨g3, 0, none⟩, p.quo.length, d3)], ?_, rfl, fun i hi => ?_⟩, (hx3.setCell hgg _).alloc _⟩
        · exact owns_blk hbk hx3.size (by simp [maxLen])
        · have : i = 0 := by simpa using hi
          subst this
          exact (hst.mono (by simp)).ext ((Ext.refl _).alloc _)
      rw [hw5]
      clear hw5 hv3 hcg3 hfg3 hcp3 hcq3 hlp3 hlq3 kp3 kq3 hx3 hc hc2
      refine wp_loop_ghost_k (fun nn a wr => ∃ (u7 u8 u9 u10 u11 u12 u42 u43 u44 u45 u46 u47 u48 u49 u50 u51 u52 u53 u54 u55 u56 u57 u58 u59 u60 u61 u62 u63 u64 u65 u66 u67 u68 u69 u70 u71 u72 u73 u74 u75 u76 u77 u78 u79 u80 u81 u82 u83 u111 u112 u113 u114 u115 : Value) (ds : List Deferred) , (∃ k : Nat, nn + k = p.quo.length + 1 ∧ GRel p q w2 k u7 ds wr) ∧
        a = { tmps := #[.agg #[.slice Aq p.quo.length cq, .slice Ac p.cons.length cc], .agg #[.int .i64 q.src, .int .i64 q.dst, .int .i64 q.size, .int .i64 q.ready, .int .i64 q.dead, .int .i64 q.prio, .bool q.cust], .pointer (some ⟨w.heap.size, 0, none⟩), .pointer (some ⟨w.heap.size + 1, 0, none⟩), .slice none 0 0, .int .i64 0, .slice (some ⟨g3, 0, none⟩) p.quo.length d3, u7, u8, u9, u10, u11, u12, undef, undef, undef, undef, undef, undef, undef, .agg #[.slice Aq p.quo.length cq, .slice Ac p.cons.length cc], .int .i64 0, .bool false, .bool false, .agg #[.slice Aq p.quo.length cq, .slice Ac p.cons.length cc], .agg #[.int .i64 q.src, .int .i64 q.dst, .int .i64 q.size, .int .i64 q.ready, .int .i64 q.dead, .int .i64 q.prio, .bool q.cust], .bool true, .bool false, .bool false, .slice (some ⟨w2.heap.size, 0, none⟩) 1 1, .pointer (some ⟨w.heap.size, 0, none⟩), .slice Aq p.quo.length cq, .int .i64 p.quo.length, .slice (some ⟨g3, 0, none⟩) p.quo.length d3, .slice (some ⟨g3, 0, none⟩) p.quo.length d3, .pointer (some ⟨w.heap.size + 1, 0, none⟩), .int .i64 q.src, .pointer (some ⟨w.heap.size + 1, 3, none⟩), .int .i64 q.ready, .pointer (some ⟨g3, q.src.toNat, none⟩), .slice (some ⟨g3, 0, none⟩) p.quo.length d3, .slice (some ⟨w3.heap.size, 0, none⟩) 1 1, u42, u43, u44, u45, u46, u47, u48, u49, u50, u51, u52, u53, u54, u55, u56, u57, u58, u59, u60, u61, u62, u63, u64, u65, u66, u67, u68, u69, u70, u71, u72, u73, u74, u75, u76, u77, u78, u79, u80, u81, u82, u83, undef, undef, undef, undef, undef, undef, undef, undef, undef, undef, undef, undef, undef, undef, undef, undef, undef, undef, undef, undef, undef, undef, undef, undef, undef, undef, undef, u111, u112, u113, u114, u115, undef, undef, undef, undef, undef, undef, undef, undef, undef, undef, undef, undef, undef, undef, undef, undef, undef, undef, undef, undef, undef, undef, undef, undef, undef, undef, undef, undef, undef, undef, undef, undef, undef, undef, undef, undef, undef, undef, undef, undef, undef, undef, undef, undef, undef], defers := ds }) (p.quo.length + 1) ?_ ?_
      · exact ⟨_, _, _, _, _, _, _, _, _, _, _, _, _, _, _, _, _, _, _, _, _, _, _, _, _, _, _, _, _, _, _, _, _, _, _, _, _, _, _, _, _, _, _, _, _, _, _, _, _, _, _, _, _, _, ⟨0, by omega, Nat.zero_le _, fun j hj => by omega, hR5, hx5, DSx.nil _ _ _⟩, rfl⟩
      · intro gk _ wo hinv
        obtain ⟨u7, u8, u9, u10, u11, u12, u42, u43, u44, u45, u46, u47, u48, u49, u50, u51, u52, u53, u54, u55, u56, u57, u58, u59, u60, u61, u62, u63, u64, u65, u66, u67, u68, u69, u70, u71, u72, u73, u74, u75, u76, u77, u78, u79, u80, u81, u82, u83, u111, u112, u113, u114, u115, ds, ⟨k, hgk, hkN, hno, hR, hE, hds⟩, ha⟩ := hinv
        subst ha
        intro _ _ _ _
        clear hR5 hx5 hb3 hg3 hg3l
        have kpr := kp2.ext hE
        have kqr := kq2.ext hE
        have hcp := kpr.cell
        have hcq := kqr.cell
        have hlp := kpr.lt
        have hlq := kqr.lt
        obtain ⟨bh, ch, rfl, hbh, hbhl, hcells⟩ := hR.form hn1 Hrlen.out
        obtain ⟨Bm, om, ck, hck, hbm, hRk⟩ := hcells k (Nat.le_refl _)
        have Hgk := Lib.hid hgk
        have Hno := Lib.hid hno
        have HR := Lib.hid hR
        have Hcells := Lib.hid hcells
        have hTl := Hrlen.out k
        generalize hT : p.RrQ q k = T at *
        have HT := Lib.hid hT
        have HTl := Lib.hid hTl
        have hTd := hRk.gi (i := q.dst) (by omega)
        obtain ⟨hTd1, hTd2⟩ := hTd
        have hkk : ((k + 1 : Nat) : Int) - 1 = k := by omega
        have hdl : q.dst < p.quo.length := a4
        clear hgk hno hT hTl hR hcells
        go_upto_region 8 with fail
        go_cut [60] from 53 to 60 (fun x wx => x = .bool (inT q T) ∧ wx = wo)
        case first =>
          by_cases hd0 : 0 ≤ gi T q.dst
          · have hdd : decide (0 ≤ gi T q.dst) = true := by simpa using hd0
            go_wp2_with fail
            go_meet
            exact ⟨by simp [inT, hd0], rfl⟩
          · have hdd : decide (0 ≤ gi T q.dst) = false := by simpa using hd0
            go_wp2_with fail
            go_meet
            exact ⟨by simp [inT]; omega, rfl⟩
        case rest =>
          obtain ⟨h60, hcw⟩ := hcut
          subst h60
          rw [hcw]
          clear hcw
          by_cases hin : inT q T = true
          · rw [hin]
            have hfs : FS p.quo.length p.cons q.size q.src q.ready k q.dst := FS.first hok Hq.out (by rw [HT.out]; exact hin) Hno.out
            have Hfs := Lib.hid hfs
            have Hin := Lib.hid hin
            have hHR := Hrlen.out
            clear hfs hin hTd1 hTd2 hRk hck
            go_wp2_with fail
            go_loopg [15, 16, 17] k (fun n u x y wx => ∃ (a : Int) (pre : List Hp), x = .int .i64 a ∧ y = .int .i64 n ∧ n ≤ k ∧ 0 ≤ a ∧ a < p.quo.length ∧ Hid (FS p.quo.length p.cons q.size q.src q.ready n a) ∧ Owns EHp wx wo.heap.size 53 u pre ∧ pre.length + n = k ∧ Ext wo wx ∧ Hid (∀ l, FP p.cons (p.RrQ q) q.size n a l → FP p.cons (p.RrQ q) q.size k q.dst (pre ++ l)))
            case atStart => exact ⟨q.dst, [], rfl, rfl, Nat.le_refl _, a3, a4, Hfs, Owns.none_ _ _, by simp, Ext.refl _, Lib.hid (fun l hl => hl)⟩
            case round =>
              obtain ⟨a, pre, rfl, rfl, b1, b2, b3, hfs, hu, hpl, hN, hpath⟩ := hrel
              have kp4 := kpr.ext hN
              have kq4 := kqr.ext hN
              have hcp4 := kp4.cell
              have hcq4 := kq4.cell
              have hlp4 := kp4.lt
              have hlq4 := kq4.lt
              have hEo := hE2.trans hE
              clear hcp hcq
              by_cases hj : gk = 0
              · have hd : decide ((0 : Int) < (gk : Int)) = false := by simp [hj]
                obtain ⟨A2, c2, rfl, hR2⟩ := hu.form
                have hcap2 := hu.cap
                go_wp2_with fail
                refine (reverse_any A2 pre.length c2 pre wo.heap.size wr hu (by omega)).mono ?_
                rintro e w8 ⟨⟨vv, rfl⟩, hv8, ⟨w9, hg9, rfl⟩⟩
                go_wp2_with fail
                have hx8 := ext_grown hN hu (Nat.le_refl _) hg9
                have hds8 := (hds.ext hx8).top
                show LeavesInM _ _ _ _ _ _ ds .returning w8
                refine hds8.leaves ?_
                intro w' hw'
                have hfin := hw' (fun W => Owns EHp W wo.heap.size 53 (.slice A2 pre.length c2) pre.reverse ∧ Ext w W)
                  (fun s X Y row hs hg hr => ⟨hs.1.keptc hg (fun r e => (hr r e).2), hs.2.keptb hg (fun r e => Nat.le_trans hE2.size (hr r e).1)⟩) ⟨hv8, hEo.trans hx8⟩
                have hlr : pre.reverse.length = pre.length := List.length_reverse
                subst hj
                have hpp := hpath.out [] .done
                rw [List.append_nil] at hpp
                refine ⟨_, results_tmp2 rfl _ _ _, pre.reverse, 0, ⟨A2, c2, by rw [hlr]; rfl, ?_, hfin.2, by rw [hlr]; exact hcap2⟩, by rw [hlr]; omega, ?_⟩
                · obtain ⟨A4, c4, e4, hR4⟩ := hfin.1.form
                  injection e4 with e4
                  rw [e4]; exact hR4
                · unfold JFew
                  rw [if_pos ⟨H0.out, Hq.out⟩]
                  exact .inr ⟨rfl, k, pre, hkN, by rw [HT.out]; exact Hin.out, Hno.out, hpp, rfl⟩
              · obtain ⟨j, rfl⟩ : ∃ j, gk = j + 1 := ⟨gk - 1, by omega⟩
                have hd : decide ((0 : Int) < ((j + 1 : Nat) : Int)) = true := by simp
                have hd2 : decide ((0 : Int) < (j : Int) + 1) = true := decide_eq_true (by omega)
                have hpj : (0 : Int) ≤ (j : Int) + 1 := by omega
                rw [Int.natCast_add, Int.natCast_one]
                have hfs2 := hfs.out
                obtain ⟨fi, fc, hfound⟩ := FS.found J hfs2
                have hprev := FS.prev J hfs2 hfound
                have hsp := lastC_spec hfound
                have hlt2 := lastC_lt J hfound
                change lastC (p.RrQ q j) q.size a (gi (p.RrQ q (j + 1)) a) p.cons = some (fi, fc) at hfound
                obtain ⟨B1, o1, d1, hc1, hb1, hR1⟩ := Hcells.out (j + 1) (by omega)
                obtain ⟨B0, o0, d0, hc0, hb0, hR0⟩ := Hcells.out j (by omega)
                have hin := fun w h hm => into_any Aq cq Ac cc p a (gi (p.RrQ q (j + 1)) a) q.size (some ⟨B0, o0, none⟩) d0 (p.RrQ q j) w h hok ⟨a6, a7⟩ hm (hHR j)
                simp only [hfound, bval, bcells, Option.isSome_some, hHR j] at hin
                obtain ⟨hh, hhe⟩ : ∃ hh, hopE fi fc (gi (p.RrQ q j) fc.src) q.size = hh := ⟨_, rfl⟩
                have hin2 : ∀ w, PlnRd w Aq cq Ac cc p → Rd EInt w (some ⟨B0, o0, none⟩) (p.RrQ q j) → Calls Try.prog 38 #[.agg #[.slice Aq p.quo.length cq, .slice Ac p.cons.length cc], .int .i64 a, .int .i64 (gi (p.RrQ q (j + 1)) a), .int .i64 q.size, .slice (some ⟨B0, o0, none⟩) p.quo.length d0] w fun e w' => e = .returned (.tuple #[.agg #[.int .i64 hh.con, .int .i64 hh.beg, .int .i64 hh.en, .int .i64 hh.arr], .bool true]) ∧ Ext w w' := by
                  rw [← hhe]; exact hin
                have Hhe := Lib.hid hhe
                have Hf := Lib.hid hfound
                have Hsp := Lib.hid hsp
                have Hprev := Lib.hid hprev
                obtain ⟨hTa, hbm2⟩ := (hR1.ext hN).gi (i := a) (by rw [hHR (j + 1)]; omega)
                have hc1' := hN.cell_some hc1
                have hc0' := hN.cell_some hc0
                have hfil : fi < p.cons.length := (List.getElem?_eq_some_iff.1 hsp.1).1
                obtain ⟨l1, l2, l3, l4⟩ := hlt2
                have hhr := h.ext (hEo.trans hN)
                have hRr := hR0.ext hN
                have hbhr := Nat.lt_of_lt_of_le hbhl hN.size
                have hi5 : j ≤ k := by omega
                have hi6 : (j : Int) ≤ (k : Int) := by omega
                have hi7 : j < k := by omega
                have hi8 : (j : Int) < (k : Int) := by omega
                have hwj : IntKind.i64.wrap (j : Int) = (j : Int) := IntWalk.i64_in _ (by omega)
                have hi1 : j + 1 < k + 1 := by omega
                have hi2 : j < k + 1 := by omega
                have hi3 : (j : Int) + 1 < (k : Int) + 1 := by omega
                have hi4 : (j : Int) < (k : Int) + 1 := by omega
                clear hin hhe hfound hsp hprev hfs2 hc1 hc0
                go_wp2_with fail
                go_cut [18, 19] from 121 to 157 (fun x ok wx => HopS2 wr hh x ok wx)
                case first =>
                  have hN9 := Near.refl wr
                  go_region_held3 (fun w' => Ext wr w' ∧ ∀ b o, b < wr.heap.size → w'.cell? ⟨b, o, none⟩ = wr.cell? ⟨b, o, none⟩) (first | exact hN9.drew | exact Near.alloc (by assumption) _ | exact Near.step (by assumption) hb9 | (refine Near.of ?_; repeat (first | exact hx9 | refine Ext.alloc ?_ _ | (refine Ext.setCell ?_ ?_ _; rotate_left; (focus (first | exact Nat.le_refl _ | (dsimp only; omega)))))))
                    (first | (go_at_call 38; refine (hin2 _ (hhr.ext (And.left (by assumption))) (hRr.ext (And.left (by assumption)))).mono ?_; rintro e w9 ⟨rfl, hb9⟩; have hx9 : Ext wr w9 := Ext.trans (And.left (by assumption)) hb9; have hz9 := fun (hh : Blk _ wr.heap.size 53 #[.int .i64 0, .int .i64 0, .int .i64 0, .int .i64 0]) => Blk.ext hh hb9; (try simp [blk_alloc_iff, blk_drew, blk_no0] at hz9); (try (have hz9c := Blk.cell hz9; have hz9f := Blk.frozen hz9; have hz9l := Blk.lt hz9))))
                  all_goals
                    go_wp2_with fail
                    go_meet
                    first
                      | exact ⟨wr.heap.size, rfl, Nat.le_refl _, rfl, hz9.setCells_ hh.cells 0, ext_setCells hx9 (Nat.le_refl _) 0 hh.cells⟩
                      | exact ⟨w9.heap.size, rfl, hx9.size, rfl, Blk.new _ _ _, hx9.alloc _⟩
                case rest =>
                  obtain ⟨B, rfl, hBl, rfl, kh, hx5⟩ := hcut
                  rw [← Hhe.out] at kh
                  simp only [hopE, Hp.cells] at kh
                  obtain ⟨b, o, rfl, hb, c0, c1, c2, c3, c4, c5, c6⟩ := h.c.con hfil
                  have hge : p.cons[fi] = fc := by have := Hsp.out.1; rw [List.getElem?_eq_getElem hfil] at this; injection this
                  rw [hge] at c0
                  have hch := kh.cell
                  have hlh := kh.lt
                  have kp5 := kp4.ext hx5
                  have hcp5 := kp5.cell
                  have hlp5 := kp5.lt
                  have hu5 := hu.ext hx5
                  have hs1 := hEo.size
                  have hs2 := hN.size
                  have hs3 := hx5.size
                  clear c1 c2 c3 c4 c5 c6 hge hcp4 hcq4 hin2 hTa hc1' hc0'
                  go_wp2_with (at_builtin; refine wpList_push rfl (.tmp 147) (.tmp 149) _ (by rfl) wo.heap.size 53 i0 _ 32 Try.underlying43 hi0 hz0 hz1 hz2 (by rfl) u15 (by rfl) (hu5.ext ((Ext.refl _).alloc _)) wc.heap.size (hopE fi fc (gi (p.RrQ q j) fc.src) q.size) (by rfl) (Blk.new wc _ _) (by simp only [maxLen]; omega) (by omega) (by simp; omega) ?_; intro v6 w6 hv6 hg6 hat6; have hx6 := ext_grown ((hN.trans hx5).alloc _) (hu5.ext ((Ext.refl _).alloc _)) (Nat.le_refl _) hg6; have kp6 := kpr.ext hx6; have hcp6 := kp6.cell; have hlp6 := kp6.lt; have kh6 := Blk.kept (kh.ext ((Ext.refl _).alloc _)) hg6 (fun e' => by have := (hu.block e'.symm).2; omega); have hch6 := kh6.cell; have hlh6 := kh6.lt; have c06 := (hEo.trans hx6).cell_some c0)
                  have hce := hopE_eq (i := fi) Hsp.out.2.2.2.2.1
                  go_roundg j
                  case measure => omega
                  case rel =>
                    refine ⟨fc.src, pre ++ [hopE fi fc (gi (p.RrQ q j) fc.src) q.size], rfl, rfl, by omega, l1, l2, Hprev, hv6, by rw [List.length_append, List.length_singleton]; omega, hx6, Lib.hid (fun l hl => ?_)⟩
                    rw [List.append_assoc, show hopE fi fc (gi (p.RrQ q j) fc.src) q.size = hopAt fi fc (gi (p.RrQ q j) fc.src) q.size from hce]
                    refine hpath.out _ ?_
                    have hf2 := Hf.out
                    exact FP.step hf2 hl
          · have hin2 : inT q T = false := by simpa using hin
            rw [hin2]
            have hnoK : ∀ j, j < k + 1 → inT q (p.RrQ q j) = false := fun j hj => by
              rcases Nat.lt_succ_iff_lt_or_eq.1 hj with hj | rfl
              · exact Hno.out j hj
              · rw [HT.out]; exact hin2
            have HnoK := Lib.hid hnoK
            have hEo := hE2.trans hE
            clear hnoK hin hin2 hTd1 hTd2
            by_cases hN1 : p.quo.length ≤ k
            · have hd1 : decide ((p.quo.length : Int) < (k : Int) + 1) = true := decide_eq_true (by omega)
              have hd2 : decide ((p.quo.length : Int) ≤ (k : Int)) = true := decide_eq_true (by omega)
              go_wp2_with fail
              show LeavesInM _ _ _ _ _ _ ds .returning wo
              refine hds.leaves ?_
              intro w' hw'
              have hfin := hw' (fun W => Ext w W) (fun s X Y row hs hg hr => hs.keptb hg (fun r e => Nat.le_trans hE2.size (hr r e).1)) hEo
              refine ⟨_, results_tmp2 rfl _ _ _, [], 18, ⟨none, 0, rfl, Rd.nil, hfin, Nat.le_refl _⟩, by simp, ?_⟩
              unfold JFew
              rw [if_pos ⟨H0.out, Hq.out⟩]
              exact .inl ⟨rfl, rfl, fun j hj => HnoK.out j (by omega)⟩
            · have hd1 : decide ((p.quo.length : Int) < (k : Int) + 1) = false := decide_eq_false (by omega)
              have hd2 : decide ((p.quo.length : Int) ≤ (k : Int)) = false := decide_eq_false (by omega)
              have hcl := clone_sl Bm om ck T wo hRk (by rw [HTl.out]; omega) (by rw [HTl.out]; omega)
              rw [HTl.out] at hcl
              go_wp2_with fail
              refine hcl.mono ?_
              rintro e w4 ⟨g, d, rfl, hv4, hg4, hg4l, hb4⟩
              go_wp2_with fail
              have hx5 : Ext wo (w4.alloc (.cells #[.slice (some ⟨g, 0, none⟩) p.quo.length d] 22)) := hb4.alloc _
              have kb5 := Blk.new w4 22 #[.slice (some ⟨g, 0, none⟩) p.quo.length d]
              have hv5 : Owns EInt (w4.alloc (.cells #[.slice (some ⟨g, 0, none⟩) p.quo.length d] 22)) wo.heap.size 3 (.slice (some ⟨g, 0, none⟩) p.quo.length d) T := hv4.ext ((Ext.refl _).alloc _)
              have hlo : Least p.quo.length (RK p.cons q.size q.src q.ready k) T := by rw [← HT.out]; exact Rr.least J k
              have Hlo := Lib.hid hlo
              have hg45 : g ≠ w4.heap.size := by omega
              have hw45 : wo.heap.size ≤ w4.heap.size := hb4.size
              obtain ⟨w5, hw5⟩ : ∃ w5, w4.alloc (.cells #[.slice (some ⟨g, 0, none⟩) p.quo.length d] 22) = w5 := ⟨_, rfl⟩
              rw [hw5] at hx5 kb5 hv5 ⊢
              clear hw5 hcl hv4 hlo
              refine wp_loop_ghost_k (fun nn a wr => ∃ (v11 v12 v42 v43 v44 v45 v46 v47 v48 v49 v50 v51 v52 v53 v54 v55 v56 v57 v58 v59 v60 v61 v62 v63 v64 v65 v66 v67 v68 v72 v73 v74 v75 v76 v77 v78 v79 v80 v81 v82 v83 v111 : Value) (ds : List Deferred) (i : Nat), (nn + i = p.quo.length ∧ FGo p q g d w4.heap.size k T wo w2.heap.size i ds wr) ∧
                a = { tmps := #[.agg #[.slice Aq p.quo.length cq, .slice Ac p.cons.length cc], .agg #[.int .i64 q.src, .int .i64 q.dst, .int .i64 q.size, .int .i64 q.ready, .int .i64 q.dead, .int .i64 q.prio, .bool q.cust], .pointer (some ⟨w.heap.size, 0, none⟩), .pointer (some ⟨w.heap.size + 1, 0, none⟩), .slice none 0 0, .int .i64 0, .slice (some ⟨g3, 0, none⟩) p.quo.length d3, .slice (some ⟨bh, 0, none⟩) (k + 1) ch, .slice (some ⟨Bm, om, none⟩) p.quo.length ck, .int .i64 (gi T q.dst), .pointer (some ⟨w4.heap.size, 0, none⟩), v11, v12, undef, undef, undef, undef, undef, undef, undef, .agg #[.slice Aq p.quo.length cq, .slice Ac p.cons.length cc], .int .i64 0, .bool false, .bool false, .agg #[.slice Aq p.quo.length cq, .slice Ac p.cons.length cc], .agg #[.int .i64 q.src, .int .i64 q.dst, .int .i64 q.size, .int .i64 q.ready, .int .i64 q.dead, .int .i64 q.prio, .bool q.cust], .bool true, .bool false, .bool false, .slice (some ⟨w2.heap.size, 0, none⟩) 1 1, .pointer (some ⟨w.heap.size, 0, none⟩), .slice Aq p.quo.length cq, .int .i64 p.quo.length, .slice (some ⟨g3, 0, none⟩) p.quo.length d3, .slice (some ⟨g3, 0, none⟩) p.quo.length d3, .pointer (some ⟨w.heap.size + 1, 0, none⟩), .int .i64 q.src, .pointer (some ⟨w.heap.size + 1, 3, none⟩), .int .i64 q.ready, .pointer (some ⟨g3, q.src.toNat, none⟩), .slice (some ⟨g3, 0, none⟩) p.quo.length d3, .slice (some ⟨w3.heap.size, 0, none⟩) 1 1, v42, v43, v44, v45, v46, v47, v48, v49, v50, v51, v52, v53, v54, v55, v56, v57, v58, v59, v60, v61, v62, v63, v64, v65, v66, v67, v68, .slice (some ⟨Bm, om, none⟩) p.quo.length ck, .int .i64 p.quo.length, .int .i64 i, v72, v73, v74, v75, v76, v77, v78, v79, v80, v81, v82, v83, undef, undef, undef, undef, undef, undef, undef, undef, undef, undef, undef, undef, undef, undef, undef, undef, undef, undef, undef, undef, undef, undef, undef, undef, undef, undef, undef, v111, u112, u113, u114, u115, undef, undef, undef, undef, undef, undef, undef, undef, undef, undef, undef, undef, undef, undef, undef, undef, undef, undef, undef, undef, undef, undef, undef, undef, undef, undef, undef, undef, undef, undef, undef, undef, undef, undef, undef, undef, undef, undef, undef, undef, undef, undef, undef, undef, undef], defers := ds }) p.quo.length ?_ ?_
              · exact ⟨_, _, _, _, _, _, _, _, _, _, _, _, _, _, _, _, _, _, _, _, _, _, _, _, _, _, _, _, _, _, _, _, _, _, _, _, _, _, _, _, _, _, _, 0, ⟨by omega, T, (RI.init Hlo.out).weak (fun c hc hcs _ _ => by have := (hok.con c hc).1.src0; omega), hv5, kb5, hx5, (hds.ext hx5).top⟩, rfl⟩
              · intro gk2 _ wr hinv2
                obtain ⟨v11, v12, v42, v43, v44, v45, v46, v47, v48, v49, v50, v51, v52, v53, v54, v55, v56, v57, v58, v59, v60, v61, v62, v63, v64, v65, v66, v67, v68, v72, v73, v74, v75, v76, v77, v78, v79, v80, v81, v82, v83, v111, ds', i, ⟨hgi, out, hR9, o1, kb, hF, hds2⟩, ha⟩ := hinv2
                subst ha
                intro _ _ _ _
                clear hx5 kb5 hv5 hck
                have Hgi := Lib.hid hgi
                have hEr := hEo.trans hF
                have kp7 := kpr.ext hF
                have kq7 := kqr.ext hF
                have hcp7 := kp7.cell
                have hcq7 := kq7.cell
                have hlp7 := kp7.lt
                have hlq7 := kq7.lt
                have hcb7 := kb.cell
                have hlb7 := kb.lt
                have hiN : i ≤ p.quo.length := by omega
                clear hcp hcq hgi
                by_cases hil : i < p.quo.length
                · have hil2 : (i : Int) < (p.quo.length : Int) := by omega
                  obtain ⟨hti, hbm7⟩ := (hRk.ext hF).gi (i := (i : Int)) (by rw [HTl.out]; omega)
                  rw [Int.toNat_natCast] at hti
                  by_cases ht : gi T i < 0
                  · have hd : decide (gi T i < 0) = true := decide_eq_true ht
                    have HR9 := Lib.hid (hR9.weak (D' := fun c => c.src < ((i + 1 : Nat) : Int)) (fun c hc hcs h0 _ => by
                      have h7 := (hok.con c hc).1.src0
                      by_cases e : c.src = i
                      · rw [e] at h0; omega
                      · omega))
                    go_wp2_with fail
                    go_roundg (gk2 - 1)
                    case measure => have := Hgi.out; omega
                    case rel =>
                      have hgi := Hgi.out
                      refine ⟨?_, out, HR9.out, o1, kb, hF, hds2⟩
                      show gk2 - 1 + (i + 1) = p.quo.length
                      omega
                  · have hd : decide (gi T i < 0) = false := decide_eq_false ht
                    have hho := fun w' => hops_any Aq cq Ac cc p (i : Int) (gi T i) q.size w'
                    unfold Pln.val at hho
                    go_wp2_with fail
                    refine (hho _).mono ?_
                    rintro e w6 ⟨rfl, hb6, hs6, k1, k2, k3, k4⟩
                    go_wp2_with fail
                    have hs6a : wr.heap.size + 3 < w6.heap.size := by omega
                    have hwor := hF.size
                    have hwo := hEo.size
                    have hgwr : g < wr.heap.size := (o1.block rfl).2
                    have hlbt := kb.lt
                    clear hho hcp7 hcq7 hcb7 hlb7 hti hs6
                    refine (wpIn_wide (n := 5)).1 ?_
                    refine wpIn_rangeFunc_ownH rfl (by omega) (gf := 58) (lb := #[.pointer (some ⟨wr.heap.size, 0, none⟩), .pointer (some ⟨wr.heap.size + 1, 0, none⟩), .pointer (some ⟨wr.heap.size + 2, 0, none⟩), .pointer (some ⟨wr.heap.size + 3, 0, none⟩)]) rfl trivial (enters_of Try.func58 (by kernel_rfl) rfl)
                      (hops_stops wr.heap.size (wr.heap.size + 1) (wr.heap.size + 2) (wr.heap.size + 3) w6.heap.size g Aq cq Ac cc p (i : Int) (gi T i) q.size w w6 h hok ⟨a6, a7⟩ (by omega) (hEr.trans hb6) (by omega) (by omega) (Nat.le_refl _) k1 k2 k3 k4 ⟨by omega, by omega⟩ ⟨by omega, by omega⟩ ⟨by omega, by omega⟩ ⟨by omega, by omega⟩)
                      KpX.trans (fun W l o o' hl _ _ _ => KpX.put W l o' hl) (Below.refl _ _) (fun _ => rfl)
                      (FRel p q.src q.ready q.size w4.heap.size g d k T wo w6.heap.size w2.heap.size (i : Int) ds') (fun _ _ _ => False) (frel_own (by omega)) (fun _ _ _ _ _ hs _ _ => hs)
                      ⟨out, hR9.weak (fun c _ hc _ _ => hc.elim id (fun ⟨x, hx, _⟩ => nomatch hx)), o1.ext hb6, kb.ext hb6, hF.trans hb6, (hds2.ext hb6).more hb6.size, Nat.le_refl _⟩
                      (fun x a' W => ∃ Bx, w6.heap.size ≤ Bx ∧ Blk W Bx 53 #[.int .i64 x.1.1, .int .i64 (x.1.2.beg (gi T i)), .int .i64 (x.1.2.beg (gi T i) + x.1.2.dur q.size), .int .i64 (earr x.1.2 (gi T i) q.size)] ∧ a' = { tmps := #[.agg #[.slice Aq p.quo.length cq, .slice Ac p.cons.length cc], .agg #[.int .i64 q.src, .int .i64 q.dst, .int .i64 q.size, .int .i64 q.ready, .int .i64 q.dead, .int .i64 q.prio, .bool q.cust], .pointer (some ⟨w.heap.size, 0, none⟩), .pointer (some ⟨w.heap.size + 1, 0, none⟩), .slice none 0 0, .int .i64 0, .slice (some ⟨g3, 0, none⟩) p.quo.length d3, .slice (some ⟨bh, 0, none⟩) (k + 1) ch, .slice (some ⟨Bm, om, none⟩) p.quo.length ck, .int .i64 (gi T q.dst), .pointer (some ⟨w4.heap.size, 0, none⟩), .int .i64 i, .int .i64 (gi T i), .pointer (some ⟨Bx, 0, none⟩), undef, undef, undef, undef, undef, undef, .agg #[.slice Aq p.quo.length cq, .slice Ac p.cons.length cc], .int .i64 0, .bool false, .bool false, .agg #[.slice Aq p.quo.length cq, .slice Ac p.cons.length cc], .agg #[.int .i64 q.src, .int .i64 q.dst, .int .i64 q.size, .int .i64 q.ready, .int .i64 q.dead, .int .i64 q.prio, .bool q.cust], .bool true, .bool false, .bool false, .slice (some ⟨w2.heap.size, 0, none⟩) 1 1, .pointer (some ⟨w.heap.size, 0, none⟩), .slice Aq p.quo.length cq, .int .i64 p.quo.length, .slice (some ⟨g3, 0, none⟩) p.quo.length d3, .slice (some ⟨g3, 0, none⟩) p.quo.length d3, .pointer (some ⟨w.heap.size + 1, 0, none⟩), .int .i64 q.src, .pointer (some ⟨w.heap.size + 1, 3, none⟩), .int .i64 q.ready, .pointer (some ⟨g3, q.src.toNat, none⟩), .slice (some ⟨g3, 0, none⟩) p.quo.length d3, .slice (some ⟨w3.heap.size, 0, none⟩) 1 1, v42, v43, v44, v45, v46, v47, v48, v49, v50, v51, v52, v53, v54, v55, v56, v57, v58, v59, v60, v61, v62, v63, v64, v65, v66, v67, v68, .slice (some ⟨Bm, om, none⟩) p.quo.length ck, .int .i64 p.quo.length, .int .i64 i, .bool true, .int .i64 i, .pointer (some ⟨Bm, om + i, none⟩), .int .i64 (gi T i), .int .i64 (gi T i), .bool false, .agg #[.slice Aq p.quo.length cq, .slice Ac p.cons.length cc], .int .i64 i, .int .i64 (gi T i), .pointer (some ⟨w.heap.size + 1, 2, none⟩), .int .i64 q.size, .func (.func 58) #[] #[.pointer (some ⟨wr.heap.size, 0, none⟩), .pointer (some ⟨wr.heap.size + 1, 0, none⟩), .pointer (some ⟨wr.heap.size + 2, 0, none⟩), .pointer (some ⟨wr.heap.size + 3, 0, none⟩)], .agg #[.int .i64 x.1.1, .int .i64 (x.1.2.beg (gi T i)), .int .i64 (x.1.2.beg (gi T i) + x.1.2.dur q.size), .int .i64 (earr x.1.2 (gi T i) q.size)], undef, undef, undef, undef, undef, undef, undef, undef, undef, undef, undef, undef, undef, undef, undef, undef, undef, undef, undef, undef, undef, undef, undef, undef, undef, undef, v111, u112, u113, u114, u115, undef, undef, undef, undef, undef, undef, undef, undef, undef, undef, undef, undef, undef, undef, undef, undef, undef, undef, undef, undef, undef, undef, undef, undef, undef, undef, undef, undef, undef, undef, undef, undef, undef, undef, undef, undef, undef, undef, undef, undef, undef, undef, undef, undef, undef], defers := [] })
                      (fun x a' s X Y row hs hg hr => by obtain ⟨Bx, z1, z2, z3⟩ := hs; exact ⟨Bx, z1, z2.keptc hg (fun r e => (hr r e).2), z3⟩) ?assign ?body ?done ?stop
                    case assign =>
                      rintro l pre x W K hi hK
                      have hBW : w6.heap.size ≤ W.heap.size := by obtain ⟨m, _, _, _, _, _, z⟩ := hi; exact z
                      simp only [hopX]
                      gi_wp2
                      exact hK _ _ ((KeepsOthers.alloc _ _).from _) (KpX.of_ext hBW ((Ext.refl W).alloc _)) (hi.ext ((Ext.refl W).alloc _)) ⟨W.heap.size, hBW, Blk.new _ _ _, rfl⟩
                    case body =>
                      rintro l pre x a' W hl ⟨rr, hrr⟩ ⟨m', R', q3, q5, q7, q8, q9⟩ ⟨Bx, b1, kx, rfl⟩ hlen
                      have hx1 := x.2.1
                      have hx2 := x.2.2.1
                      have hx3 := x.2.2.2
                      obtain ⟨ix, hie⟩ : ∃ ix, ix = x.1.1 := ⟨_, rfl⟩
                      obtain ⟨c, hce⟩ : ∃ c, c = x.1.2 := ⟨_, rfl⟩
                      rw [← hie, ← hce] at kx hx1 ⊢
                      rw [← hce] at hx2 hx3
                      have Hie := Lib.hid hie
                      have Hce := Lib.hid hce
                      clear hie hce
                      have hi : ix < p.cons.length := (List.getElem?_eq_some_iff.1 hx1).1
                      have hcin : c ∈ p.cons := List.mem_of_getElem? hx1
                      have hyc := hok.con c hcin
                      have hd0 := hyc.1.dst0
                      have hd1 := hyc.2.2
                      have hl1' := R'.len
                      obtain ⟨b, o, rfl, hb, c0, c1, c2, c3, c4, c5, c6⟩ := (h.c.ext (hEo.trans q7)).con hi
                      have hci : p.cons[ix] = c := by rw [List.getElem?_eq_getElem hi] at hx1; injection hx1
                      rw [hci] at c0 c1 c2 c3 c4 c5 c6
                      have hdl : c.dst.toNat < m'.length := by omega
                      have hdl2 : c.dst < p.quo.length := by omega
                      have hgd := q3.gi (i := c.dst) hdl
                      obtain ⟨hgl, hgf⟩ := q3.free
                      have kpw := kpr.ext q7
                      have hcp := kpw.cell
                      have hcV := q5.cell
                      have hcx := kx.cell
                      have hlp := kpw.lt
                      have hlV2 := q5.lt
                      have hlx := kx.lt
                      have Hci := Lib.hid hci
                      have Hx1 := Lib.hid hx1
                      have Hx2 := Lib.hid hx2
                      have Hx3 := Lib.hid hx3
                      have Hl1 := Lib.hid hl1'
                      have hrel := R'.relax J Hlo.out hcin (by rw [hx2]; omega)
                      rw [hx2] at hrel
                      have Hrel := Lib.hid hrel
                      have hfn : ∀ k, Fence.wide.fn k := fun _ => trivial
                      have hmix : Try.prog.follows .mixedOrders = true := by kernel_rfl
                      clear hci hx1 hx2 hx3 hl1' hrel
                      by_cases hg0 : gi m' c.dst < 0
                      · have hdg : decide (gi m' c.dst < 0) = true := by simpa using hg0
                        gi_wp2
                        refine wpIn_region_quiet_round rfl (by kernel_rfl) (by kernel_rfl) (by kernel_rfl) ?_
                        repeat (gi_big_quiet_step (fail))
                        refine wpQuietIn_nil ?_
                        intro wq hwq
                        replace hwq := quiet_drew hwq
                        have r2 := q5.ext hwq
                        have r4 := kx.ext hwq
                        have r5 := q3.ext hwq
                        have r6 := r2.cell
                        have r8 := r4.cell
                        have r9 := r5.gi (i := c.dst) hdl
                        obtain ⟨r10, r11⟩ := r5.free
                        have r12 := r2.lt
                        have r14 := r4.lt
                        clear hcp hcV hcx hgd hgf
                        gi_wp2
                        have hrx : relax m' c.dst (earr c (gi T i) q.size) = m'.set c.dst.toNat (earr c (gi T i) q.size) := by unfold relax; rw [if_pos ⟨Hx3.out, .inl hg0⟩]
                        have FINI : FRel p q.src q.ready q.size w4.heap.size g d k T wo w6.heap.size w2.heap.size (i : Int) ds' (pre ++ [x]) (wq.setCell ⟨g, c.dst.toNat, none⟩ (.int .i64 (earr c (gi T i) q.size))) := by
                          have hrr := Hrel.out
                          rw [hrx] at hrr
                          have hx4 := hwq
                          refine ⟨_, hrr.weak (fun y hy hyp _ _ => ?_), r5.seti hdl _, blk_past (q5.ext hx4) (fun e => hg45 e.symm), (q7.trans hx4).setCell (by omega) _, (q8.ext hx4).setCell _ _, Nat.le_trans q9 (hwq.keeps.trans (KeepsOthers.setCell _ _ _)).size⟩
                          rcases hyp with hyp | ⟨z, hz, hzc⟩
                          · exact .inl (.inl hyp)
                          · rcases List.mem_append.1 hz with hz | hz
                            · exact .inl (.inr ⟨z, hz, hzc⟩)
                            · right
                              rw [List.mem_singleton.1 hz] at hzc
                              rw [← hzc, Hce.out]
                        have FINK : KpX w6.heap.size g W (wq.setCell ⟨g, c.dst.toNat, none⟩ (.int .i64 (earr c (gi T i) q.size))) := (KpX.of_ext q9 hwq).trans (KpX.setCell _ _ _)
                        have FINO : KeepsFrom w6.heap.size W (wq.setCell ⟨g, c.dst.toNat, none⟩ (.int .i64 (earr c (gi T i) q.size))) := (hwq.keeps.trans (KeepsOthers.setCell _ _ _)).from _
                        exact ⟨FINO, FINK, FINI⟩
                      · have hdg : decide (gi m' c.dst < 0) = false := by simpa using hg0
                        by_cases hg1 : earr c (gi T i) q.size < gi m' c.dst
                        · have hdh : decide (earr c (gi T i) q.size < gi m' c.dst) = true := by simpa using hg1
                          gi_wp2
                          refine wpIn_region_quiet_round rfl (by kernel_rfl) (by kernel_rfl) (by kernel_rfl) ?_
                          repeat (gi_big_quiet_step (fail))
                          refine wpQuietIn_nil ?_
                          intro wq hwq
                          replace hwq := quiet_drew hwq
                          have r2 := q5.ext hwq
                          have r4 := kx.ext hwq
                          have r5 := q3.ext hwq
                          have r6 := r2.cell
                          have r8 := r4.cell
                          have r9 := r5.gi (i := c.dst) hdl
                          obtain ⟨r10, r11⟩ := r5.free
                          have r12 := r2.lt
                          have r14 := r4.lt
                          clear hcp hcV hcx hgd hgf
                          gi_wp2
                          have hrx : relax m' c.dst (earr c (gi T i) q.size) = m'.set c.dst.toNat (earr c (gi T i) q.size) := by unfold relax; rw [if_pos ⟨Hx3.out, .inr hg1⟩]
                          have FINI : FRel p q.src q.ready q.size w4.heap.size g d k T wo w6.heap.size w2.heap.size (i : Int) ds' (pre ++ [x]) (wq.setCell ⟨g, c.dst.toNat, none⟩ (.int .i64 (earr c (gi T i) q.size))) := by
                            have hrr := Hrel.out
                            rw [hrx] at hrr
                            have hx4 := hwq
                            refine ⟨_, hrr.weak (fun y hy hyp _ _ => ?_), r5.seti hdl _, blk_past (q5.ext hx4) (fun e => hg45 e.symm), (q7.trans hx4).setCell (by omega) _, (q8.ext hx4).setCell _ _, Nat.le_trans q9 (hwq.keeps.trans (KeepsOthers.setCell _ _ _)).size⟩
                            rcases hyp with hyp | ⟨z, hz, hzc⟩
                            · exact .inl (.inl hyp)
                            · rcases List.mem_append.1 hz with hz | hz
                              · exact .inl (.inr ⟨z, hz, hzc⟩)
                              · right
                                rw [List.mem_singleton.1 hz] at hzc
                                rw [← hzc, Hce.out]
                          have FINK : KpX w6.heap.size g W (wq.setCell ⟨g, c.dst.toNat, none⟩ (.int .i64 (earr c (gi T i) q.size))) := (KpX.of_ext q9 hwq).trans (KpX.setCell _ _ _)
                          have FINO : KeepsFrom w6.heap.size W (wq.setCell ⟨g, c.dst.toNat, none⟩ (.int .i64 (earr c (gi T i) q.size))) := (hwq.keeps.trans (KeepsOthers.setCell _ _ _)).from _
                          exact ⟨FINO, FINK, FINI⟩
                        · have hdh : decide (earr c (gi T i) q.size < gi m' c.dst) = false := by simpa using hg1
                          have hrx : relax m' c.dst (earr c (gi T i) q.size) = m' := by unfold relax; rw [if_neg (fun hh => by rcases hh.2 with hh | hh <;> omega)]
                          have Hrx := Lib.hid hrx
                          clear hrx
                          gi_wp2
                          refine wpIn_region_quiet_round rfl (by kernel_rfl) (by kernel_rfl) (by kernel_rfl) ?_
                          repeat (gi_big_quiet_step (fail))
                          refine wpQuietIn_nil ?_
                          intro wq hwq
                          replace hwq := quiet_drew hwq
                          gi_wp2
                          have hrr := Hrel.out
                          rw [Hrx.out] at hrr
                          refine ⟨hwq.keeps.from _, KpX.of_ext q9 hwq, ⟨_, hrr.weak (fun y hy hyp _ _ => ?_), q3.ext hwq, q5.ext hwq, q7.trans hwq, q8.ext hwq, Nat.le_trans q9 hwq.size⟩⟩
                          rcases hyp with hyp | ⟨z, hz, hzc⟩
                          · exact .inl (.inl hyp)
                          · rcases List.mem_append.1 hz with hz | hz
                            · exact .inl (.inr ⟨z, hz, hzc⟩)
                            · right
                              rw [List.mem_singleton.1 hz] at hzc
                              rw [← hzc, Hce.out]
                    case done =>
                      rintro D ys W hDD hS ⟨m', R', q3, q5, q7, q8, q9⟩ hK
                      have HR9 := Lib.hid (R'.weak (D' := fun c => c.src < ((i + 1 : Nat) : Int)) (fun c hc hcs h0 he => by
                        by_cases e : c.src = i
                        · right
                          rw [e] at he
                          obtain ⟨ix, hix, hie⟩ := List.getElem_of_mem hc
                          obtain ⟨x, hx, hxe⟩ := hS ix c hix (by rw [List.getElem?_eq_getElem hix, hie]) e he
                          exact ⟨x, hx, by rw [hxe]⟩
                        · left; omega))
                      have hdx := q8.cons hDD (by omega) hK
                      go_wp2_with fail
                      go_roundg (gk2 - 1)
                      case measure => have := Hgi.out; omega
                      case rel =>
                        have hgi := Hgi.out
                        refine ⟨?_, m', HR9.out, q3, q5, q7, hdx⟩
                        show gk2 - 1 + (i + 1) = p.quo.length
                        omega
                    case stop =>
                      rintro D c pre W _ _ h _
                      exact h.elim
                · have hin : i = p.quo.length := by omega
                  have hT2 : out = p.RrQ q (k + 1) := by
                    have hd := RI.done J Hlo.out hR9 (fun c hc _ _ => by have := (hok.con c hc).2.1; omega)
                    exact hd.unique (Rr.least J (k + 1))
                  subst hin
                  rw [hT2] at o1
                  obtain ⟨hs, ho, hhl, hrd⟩ := HR.out.ext hF
                  have Hhl := Lib.hid hhl
                  have Hrd := Lib.hid hrd
                  have Ho1 := Lib.hid o1
                  have hszw := (hE.trans hF).size
                  clear hrd hT2 hR9
                  go_wp2_with (at_builtin; refine wpList_push rfl (.tmp 112) (.tmp 114) _ (by rfl) w2.heap.size 22 j0 _ 24 Try.underlying62 hj0 hy0 hy1 hy2 (by rfl) (.slice (some ⟨bh, 0, none⟩) (k + 1) ch) (by rfl) (ho.ext ((Ext.refl _).alloc _)) wr.heap.size (some ⟨g, 0, none⟩, p.quo.length, d) (by rfl) (Blk.new wr _ _) (by rw [hhl]; simp only [maxLen]; omega) (by rw [hhl]; omega) (by simp; omega) ?_; intro v6 w6 hv6 hg6 hat6; have hx6 := ext_grown ((hE.trans hF).alloc _) (ho.ext ((Ext.refl _).alloc _)) (Nat.le_refl _) hg6)
                  go_roundg (gk - 1)
                  case measure => have := Hgk.out; omega
                  case rel =>
                    have hgk := Hgk.out
                    refine ⟨k + 1, by omega, by omega, HnoK.out, RndsRd.push (ho.ext ((Ext.refl _).alloc _)) Hhl.out (fun i hi => (Hrd.out i hi).ext ((Ext.refl _).alloc _)) ((Ho1.out.mono (by have := hE.size; omega)).ext ((Ext.refl _).alloc _)) hv6 hg6, hx6, ((hds2.ext ((Ext.refl _).alloc _)).keptl (ho.ext ((Ext.refl _).alloc _)) hg6).top⟩
  · have hd : (p.chk != 0) = true := by simpa using h0
    have H0 := Lib.hid h0
    clear h0
    unfold Pln.val at hpc ⊢
    unfold Req.val
    go_enter Try.func19, Try.ntmps19
    go_wp2_with fail
    clear hW
    refine hpc.mono ?_
    rintro e w1 ⟨rfl, hb1⟩
    go_wp2
    go_ret2
    exact ⟨[], 1, ⟨none, 0, rfl, Rd.nil, hB.trans hb1, Nat.le_refl _⟩, by simp, by unfold JFew; rw [if_neg (fun h => H0.out h.1)]; exact ⟨rfl, rfl⟩⟩

end Go.Proofs.Ytgmfnhianhngiaa

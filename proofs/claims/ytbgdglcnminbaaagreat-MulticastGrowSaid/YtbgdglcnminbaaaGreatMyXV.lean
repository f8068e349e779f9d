/- Layer 35, the reference (multicast): times. · Layer 35, the reference (multicast): last. -/
import Derived.Test.YtbgdglcnminbaaaGreatMyNW
import Derived.BigQuiet
import Derived.Deep.RegionLaw
import Derived.Deep.RegionHeld3
import Derived.Test.YtbgdglcnminbaaaGreatMcHI
import Derived.Deep.AppendLies
import Derived.Laws.IdiomCopy
import Derived.Deep.CutRange
import Derived.Test.YtbgdglcnminbaaaGreatJrA
namespace Go.Proofs.YtbgdglcnminbaaaGreat
set_option linter.unusedVariables false
set_option linter.unusedSimpArgs false
open Go.RowKit Go.Shelf
attribute [local go_sem] Oper.semAt_some

/-- Behind the statement 'h, is := hop(..)'. -/
def MHopR (w : World) (mh : Option Hp) (x ok : Value) (w' : World) : Prop :=
  ∃ B, x = .pointer (some ⟨B, 0, none⟩) ∧ w.heap.size ≤ B ∧ ok = .bool mh.isSome ∧ Blk w' B 51 (hopO mh).cells.toArray ∧ Ext w w'
theorem MHopR.yes {w w' : World} {h : Hp} {x ok : Value} (hr : MHopR w (some h) x ok w') :
    ∃ B, x = .pointer (some ⟨B, 0, none⟩) ∧ w.heap.size ≤ B ∧ ok = .bool true ∧ Blk w' B 51 #[.int .i64 h.con, .int .i64 h.beg, .int .i64 h.en, .int .i64 h.arr] ∧ Ext w w' := hr
theorem MHopR.no {w w' : World} {x ok : Value} (hr : MHopR w none x ok w') :
    ∃ B, x = .pointer (some ⟨B, 0, none⟩) ∧ ok = .bool false ∧ Ext w w' := by
  obtain ⟨B, h1, _, h3, _, h5⟩ := hr
  exact ⟨B, h1, h3, h5⟩
theorem arrV_gi {l : List Int} {i : Int} (h : i.toNat < l.length) : (arrV l)[i.toNat]? = some (.int .i64 (gi l i)) := by
  rw [arrV_get h]
  unfold gi
  rw [Int.toNat_natCast]
theorem refStep_one {p : Pln} {bk : List Bk} {q : Req} {tree A : List Int} {k : Nat} {c : Con} (hc : gc p.cons (k : Int) = c) : p.refStep bk q tree A k = if gi A c.src < 0 ∨ 0 ≤ gi tree c.dst then A else
    match p.mhop bk q k (gi A c.src) with
    | none => A
    | some h => if gi A c.dst < 0 ∨ h.arr < gi A c.dst then A.set c.dst.toNat h.arr else A := by
  unfold Pln.refStep
  rw [hc]
  rfl

set_option maxRecDepth 100000 in
set_option maxHeartbeats 16000000 in
theorem rtimes_any (Aq : Option Addr) (cq : Nat) (Ac : Option Addr) (cc : Nat) (p : Pln) (Al : Option Addr) (cl : Nat) (bk : List Bk) (Ah : Option Addr) (nh ch : Nat) (q : Req) (Ab : Option Addr) (cb : Nat) (s : List Br × List Int) (w : World) (h : PlnRd w Aq cq Ac cc p) (hbk : Rd EBk w Al bk) (hl : Rd EBr w Ab s.1) (h0 : p.bkChk bk = 0) (hT : TI p q s) :
    Calls Tryz.prog 33 #[.agg #[.slice Aq p.quo.length cq, .slice Ac p.cons.length cc, .slice Al bk.length cl, .slice Ah nh ch], q.val, .slice Ab s.1.length cb] w fun e w' => ∃ B, e = .returned (.slice (some ⟨B, 0, none⟩) p.quo.length p.quo.length) ∧ w.heap.size ≤ B ∧ Blk w' B 3 (arrV (p.refIt bk q s.2 p.quo.length)) ∧ Ext w w' := by
  obtain ⟨W1, hW1, hB1, hk1, hkq, hl1, hlq⟩ := box2 w #[.slice Aq p.quo.length cq, .slice Ac p.cons.length cc, .slice Al bk.length cl, .slice Ah nh ch] q.cells 29 31
  simp only [Req.cells] at hW1 hkq
  obtain ⟨W2, hW2, hB2, hk2, hl2⟩ := box1 W1 #[.slice Aq p.quo.length cq, .slice Ac p.cons.length cc] 25
  have hE2 := hB1.trans hB2
  have hf := hT.vt.fine
  have hf2 := fineR_of hf
  have hok := Pln.ok_of hf2.1
  have hn16 := hok.n16
  have hT16 := hT.len
  have hlm := hT.vt.len
  have hqo := hf2.2
  simp only [Req.okB, decide_eq_true_eq] at hqo
  have hqM : q.dead ≤ 1099511627776 ∧ q.ready ≤ 1099511627776 := by omega
  clear hqo
  have hall : AllIn p s.1 := fun k hk => ⟨(hT.vt.br k hk).con0, (hT.vt.br k hk).con1⟩
  have hfi := fun x w h hl' => rfind_any Aq cq Ac cc p q Ab cb s.1 x w h hl' (by omega) hall
  obtain ⟨N, hN⟩ : ∃ N, p.quo.length = N := ⟨_, rfl⟩
  have HN := Lib.hid hN
  obtain ⟨W3, hW3, hB3, hk3, hlt3⟩ := box1 W2 (Array.replicate N (.int .i64 0)) 3
  have hz : arrV (List.replicate N 0) = Array.replicate N (.int .i64 0) := by simp [arrV]
  rw [← hz] at hk3
  have s0 := (hk1.ext hB2).cell
  have s1 := (hk1.ext hB2).lt
  have s2 := hk2.cell
  have s3 := hk2.lt
  obtain ⟨ii, hii, hiz, hi1, hi2⟩ := info_parts info_int
  have hmi := fun w => run_make1 (n := N) Tryz.underlying22 hii hiz hi1 (by omega) rfl (by omega) w
  have dN : decide ((N : Int) < 0) = false := decide_eq_false (by omega)
  have hho := fun i t w h hl' hi ht => rhop35_any Aq cq Ac cc p Al cl bk Ah nh ch q i t w h hl' h0 hf hi ht
  unfold Pln.val Req.val at hfi
  unfold Req.val Hp.val at hho
  unfold Req.val
  rw [hN] at hfi hho hk1 hk2 hn16 s0 s2 hW1 hW2 ⊢
  have hrd := h.ext hE2
  have hl3 := hl.ext hE2
  have hb3 := hbk.ext hE2
  have hcm := h.cm
  have r0 := hk1.cell
  clear hN hz
  go_enter Tryz.func33, Tryz.ntmps33
  go_wp2_with fail
  clear hW1 hW2 hW3 s0 s1 s2 s3 r0
  go_loopg [9] N (fun n k wr => ∃ j : Nat, j + n = N ∧ k = .int .i64 j ∧ Blk wr W2.heap.size 3 (arrV (strZ s.2 N j)) ∧ Ext W2 wr)
  case atStart => exact ⟨0, by omega, rfl, by simpa [strZ] using hk3, hB3⟩
  case round =>
    obtain ⟨j, hjq, rfl, kg, hx⟩ := hrel
    have Hjq := Lib.hid hjq
    have hjN : j ≤ N := by omega
    clear hjq
    by_cases hlt2 : j < N
    · have hft := fnd_tree hT (n := (j : Int)) (by omega) (by omega)
      have hset := strZ_set (tree := s.2) hlt2 (by omega)
      have hzl := strZ_len (tree := s.2) (N := N) (j := j) (by omega) (by omega)
      have u0 := ((hkq.ext hB2).ext hx).cell
      have u1 := ((hkq.ext hB2).ext hx).lt
      have u2 := (hk2.ext hx).cell
      have u3 := (hk2.ext hx).lt
      have hfj := hfi (j : Int) wr (hrd.ext hx) (hl3.ext hx)
      rcases hft with ⟨f1, f2, f3⟩ | ⟨i, hi, f2, f3, f4, f5⟩ | ⟨f2, f3⟩
      · rw [f2] at hfj
        rw [f3] at hset
        clear f1 f2 f3
        go_wp2_with fail
        refine hfj.mono ?_
        clear hfj
        rintro e w4 ⟨rfl, hb4⟩
        have hx4 := hx.trans hb4
        have kg4 := kg.ext hb4
        have g1 := kg4.lt
        have g2 := kg4.frozen
        have g3 := (kg4.cell j).trans (arrV_get (by rw [hzl]; exact hlt2))
        have hst := kg4.set_ j (.int .i64 (-1))
        rw [arrV_set] at hst
        obtain ⟨W5, hW5⟩ : ∃ W5, w4.setCell ⟨W2.heap.size, j, none⟩ (.int .i64 (-1)) = W5 := ⟨_, rfl⟩
        have hx5 : Ext W2 W5 := by rw [← hW5]; exact hx4.setCell (Nat.le_refl _) _
        rw [hW5] at hst
        have q0 := ((hkq.ext hB2).ext hx5).cell
        have q1 := ((hkq.ext hB2).ext hx5).lt
        have k1 := hst.lt
        have k2 := hst.frozen
        have k3 := (hst.cell j).trans (arrV_get (by rw [List.length_set, hzl]; exact hlt2))
        have hst2 := hst.set_ j (.int .i64 (q.ready))
        rw [arrV_set, List.set_set, hset] at hst2
        go_wp2
        go_roundg (gk - 1)
        case measure => have := Hjq.out; omega
        case rel => exact ⟨j + 1, by have := Hjq.out; omega, by go_num, hst2, hx5.setCell (Nat.le_refl _) _⟩
      · rw [f2] at hfj
        rw [f4, gbr_get hi] at hset
        clear f2 f3 f4 f5
        obtain ⟨bb, ob, rfl, hbb, e0, e1, e2, e3, e4⟩ := hl3.br hi
        generalize s.1[i] = y at *
        have di : ((i : Int) == -1) = false := by rw [beq_eq_false_iff_ne]; omega
        have di2 : decide ((0 : Int) ≤ (i : Int)) = true := decide_eq_true (by omega)
        go_wp2_with fail
        refine hfj.mono ?_
        clear hfj
        rintro e w4 ⟨rfl, hb4⟩
        have hx4 := hx.trans hb4
        have kg4 := kg.ext hb4
        have g1 := kg4.lt
        have g2 := kg4.frozen
        have g3 := (kg4.cell j).trans (arrV_get (by rw [hzl]; exact hlt2))
        have hst := kg4.set_ j (.int .i64 (-1))
        rw [arrV_set] at hst
        obtain ⟨W5, hW5⟩ : ∃ W5, w4.setCell ⟨W2.heap.size, j, none⟩ (.int .i64 (-1)) = W5 := ⟨_, rfl⟩
        have hx5 : Ext W2 W5 := by rw [← hW5]; exact hx4.setCell (Nat.le_refl _) _
        rw [hW5] at hst
        have q0 := ((hkq.ext hB2).ext hx5).cell
        have q1 := ((hkq.ext hB2).ext hx5).lt
        have k1 := hst.lt
        have k2 := hst.frozen
        have k3 := (hst.cell j).trans (arrV_get (by rw [List.length_set, hzl]; exact hlt2))
        have x3 := hx5.cell_some e3
        have x4 := Nat.lt_of_lt_of_le hbb hx5.size
        have hst2 := hst.set_ j (.int .i64 (y.arr))
        rw [arrV_set, List.set_set, hset] at hst2
        go_wp2
        go_roundg (gk - 1)
        case measure => have := Hjq.out; omega
        case rel => exact ⟨j + 1, by have := Hjq.out; omega, by go_num, hst2, hx5.setCell (Nat.le_refl _) _⟩
      · rw [f2] at hfj
        rw [f3] at hset
        clear f2 f3
        go_wp2_with fail
        refine hfj.mono ?_
        clear hfj
        rintro e w4 ⟨rfl, hb4⟩
        have hx4 := hx.trans hb4
        have kg4 := kg.ext hb4
        have g1 := kg4.lt
        have g2 := kg4.frozen
        have g3 := (kg4.cell j).trans (arrV_get (by rw [hzl]; exact hlt2))
        have hst := kg4.set_ j (.int .i64 (-1))
        rw [arrV_set] at hst
        rw [hset] at hst
        go_wp2
        go_roundg (gk - 1)
        case measure => have := Hjq.out; omega
        case rel => exact ⟨j + 1, by have := Hjq.out; omega, by go_num, hst, hx4.setCell (Nat.le_refl _) _⟩
    · obtain rfl : j = N := by omega
      rw [strZ_all] at kg
      obtain ⟨wo, rfl⟩ : ∃ wo, wo = wr := ⟨_, rfl⟩
      obtain ⟨gko, rfl⟩ : ∃ g, g = gk := ⟨_, rfl⟩
      go_wp2_with fail
      go_loopg [11] j (fun n k wr => ∃ r : Nat, r + n = j ∧ k = .int .i64 r ∧ Blk wr W2.heap.size 3 (arrV (p.refIt bk q s.2 r)) ∧ Ext W2 wr)
      case atStart => exact ⟨0, by omega, rfl, by rw [show p.refIt bk q s.2 0 = s.2.take p.quo.length from rfl, HN.out]; exact kg, hx⟩
      case round =>
        obtain ⟨r, hrq, rfl, kr, hy⟩ := hrel
        have Hrq := Lib.hid hrq
        have hrN : r ≤ j := by omega
        clear hrq
        by_cases hlt3 : r < j
        · obtain ⟨wo2, rfl⟩ : ∃ wo, wo = wr := ⟨_, rfl⟩
          obtain ⟨gko2, rfl⟩ : ∃ g, g = gk := ⟨_, rfl⟩
          have y0 := (hk2.ext hy).cell
          have y1 := (hk2.ext hy).lt
          go_wp2_with fail
          clear y0 y1
          go_loopg [12] p.cons.length (fun n k wr => ∃ i : Nat, i + n = p.cons.length ∧ k = .int .i64 i ∧ Blk wr W2.heap.size 3 (arrV (p.refR bk q s.2 (p.refIt bk q s.2 r) i)) ∧ Ext W2 wr)
          case atStart => exact ⟨0, by omega, rfl, kr, hy⟩
          case round =>
            obtain ⟨i, hiq, rfl, ki, hz⟩ := hrel
            have Hiq := Lib.hid hiq
            have hiN : i ≤ p.cons.length := by omega
            clear hiq
            have t0 := (hk2.ext hz).cell
            have t1 := (hk2.ext hz).lt
            by_cases hlt4 : i < p.cons.length
            · obtain ⟨bc, oc, rfl, hbc, z0, z1, z2, z3, z4, z5, z6⟩ := (hrd.c.ext hz).con hlt4
              have hgc : gc p.cons (i : Int) = p.cons[i] := gc_get (i := (i : Int)) (by omega)
              have hcb := hok.con _ (List.getElem_mem hlt4)
              have G : GC p bk q := ⟨h0, hT.vt.req.2.2.2.1, hT.vt.req.2.2.2.2.1⟩
              generalize p.cons[i] = c at *
              obtain ⟨W6, hW6, hB6, hk6, hlt6⟩ := box1 wr #[.int .i64 c.src, .int .i64 c.dst, .int .i64 c.st, .int .i64 c.en, .int .i64 c.rate, .int .i64 c.rng, .int .i64 c.loss] 67
              have hst := (show p.refR bk q s.2 (p.refIt bk q s.2 r) (i + 1) = p.refStep bk q s.2 (p.refR bk q s.2 (p.refIt bk q s.2 r) i) i from rfl).trans (refStep_one hgc)
              have hAl : (p.refR bk q s.2 (p.refIt bk q s.2 r) i).length = j := by rw [refR_len, refIt_len (by rw [HN.out]; omega), HN.out]
              have hAok : OkT (p.refR bk q s.2 (p.refIt bk q s.2 r) i) := refR_ok G (refIt_ok G (tree_ok hT) r) i hiN
              have hAb : ∀ x ∈ p.refR bk q s.2 (p.refIt bk q s.2 r) i, x ≤ 1099511627776 := refR_bd hqM.1 (refIt_bd hqM.1 (tree_bd hT hqM.1 hqM.2 (by omega)) r) i
              generalize p.refR bk q s.2 (p.refIt bk q s.2 r) i = A at *
              have hs0 := hcb.1.src0
              have hd0 := hcb.1.dst0
              have hs1 := hcb.2.1
              have hd1 := hcb.2.2
              rw [HN.out] at hs1 hd1
              have hsN : c.src.toNat < A.length := by omega
              have hdN : c.dst.toNat < A.length := by omega
              have hgs := hAok.gi hsN
              have hgd := hAok.gi hdN
              have hsb := hAb _ (gi_mem hsN)
              have Hst := Lib.hid hst
              clear hst hgc
              have hy6 := hz.trans hB6
              have u0 := ((hkq.ext hB2).ext hy6).cell
              have u1 := ((hkq.ext hB2).ext hy6).lt
              have u2 := (hk2.ext hy6).cell
              have u3 := (hk2.ext hy6).lt
              have hk6c := hk6.cell
              have ki6 := ki.ext hB6
              have v0 := (ki6.cell c.src.toNat).trans (arrV_gi hsN)
              have v1 := ki6.lt
              rcases hgs with h9 | h9
              · rw [h9] at v0
                go_wp2
                go_roundg (gk - 1)
                case measure => have := Hiq.out; omega
                case rel => exact ⟨i + 1, by have := Hiq.out; omega, by go_num, by rw [Hst.out, if_pos (.inl (by omega))]; exact ki6, hy6⟩
              · have hfc := hfi c.dst W6 (hrd.ext hy6) (hl3.ext hy6)
                have hft := fnd_tree hT (n := c.dst) hd0 (by omega)
                have b9 : (gi A c.src == -1) = false := by rw [beq_eq_false_iff_ne]; omega
                rcases hft with ⟨f1, f2, f3⟩ | ⟨x, hx0, f2, f3, f4, f5⟩ | ⟨f2, f3⟩
                · rw [f2] at hfc
                  have e1 : 0 ≤ gi s.2 c.dst := by rw [f3]; exact hT.vt.req.2.2.2.2.2.1
                  clear f1 f2 f3
                  go_wp2_with fail
                  refine hfc.mono ?_
                  clear hfc
                  rintro e w7 ⟨rfl, hb7⟩
                  go_wp2
                  go_roundg (gk - 1)
                  case measure => have := Hiq.out; omega
                  case rel => exact ⟨i + 1, by have := Hiq.out; omega, by go_num, by rw [Hst.out, if_pos (.inr e1)]; exact ki6.ext hb7, hy6.trans hb7⟩
                · rw [f2] at hfc
                  have b8 : ((x : Int) != -2) = true := by rw [bne_iff_ne]; omega
                  clear f2 f3 f4
                  go_wp2_with fail
                  refine hfc.mono ?_
                  clear hfc
                  rintro e w7 ⟨rfl, hb7⟩
                  go_wp2
                  go_roundg (gk - 1)
                  case measure => have := Hiq.out; omega
                  case rel => exact ⟨i + 1, by have := Hiq.out; omega, by go_num, by rw [Hst.out, if_pos (.inr f5)]; exact ki6.ext hb7, hy6.trans hb7⟩
                · rw [f2] at hfc
                  have e0 : ¬ (gi A c.src < 0 ∨ 0 ≤ gi s.2 c.dst) := by rw [f3]; omega
                  clear f2 f3
                  go_wp2_with fail
                  refine hfc.mono ?_
                  clear hfc
                  rintro e w7 ⟨rfl, hb7⟩
                  have hho2 := fun w h hl' => hho i (gi A c.src) w h hl' hlt4 ⟨h9, hsb⟩
                  obtain ⟨mh, hmh⟩ : ∃ mh, p.mhop bk q i (gi A c.src) = mh := ⟨_, rfl⟩
                  simp only [hmh] at hho2
                  have Hmh := Lib.hid hmh
                  clear hmh hho hW6 z0 z1 z2 z3 z4 z5 z6
                  have hy7 := hy6.trans hb7
                  have hr7 := hrd.ext hy7
                  have hl7 := hb3.ext hy7
                  have p0 := ((hk1.ext hB2).ext hy7).cell
                  have p1 := ((hk1.ext hB2).ext hy7).lt
                  have p2 := ((hkq.ext hB2).ext hy7).cell
                  have p3 := ((hkq.ext hB2).ext hy7).lt
                  have hk7 := hk6.ext hb7
                  have p4 := hk7.cell
                  have p5 := hk7.lt
                  have ki7 := ki6.ext hb7
                  have p6 := (ki7.cell c.src.toNat).trans (arrV_gi hsN)
                  have p7 := ki7.lt
                  go_wp2_with fail
                  clear t0 t1 u0 u1 u2 u3 hk6c v0 v1
                  go_cut [14, 15] from 60 to 123 (fun x ok wx => MHopR w7 mh x ok wx)
                  case first =>
                    have hN := Near.refl w7
                    go_region_held3 (fun w' => Ext w7 w' ∧ ∀ b o, b < w7.heap.size → w'.cell? ⟨b, o, none⟩ = w7.cell? ⟨b, o, none⟩) (first | exact hN.drew | exact Near.step (by assumption) hb9 | exact near_alloc (by assumption) _ | (refine Near.of ?_; repeat (first | exact hx9 | refine Ext.alloc ?_ _ | (refine Ext.setCell ?_ ?_ _; rotate_left; (focus (first | exact Nat.le_refl _ | (dsimp only; omega)))))) | assumption)
                      (first | (go_at_call 59; refine (hho2 _ (hr7.ext (And.left (by assumption))) (hl7.ext (And.left (by assumption)))).mono ?_; rintro e w9 ⟨rfl, hb9⟩; have hx9 : Ext w7 w9 := Ext.trans (And.left (by assumption)) hb9; have hs9 := hx9.size; have hz9 := fun (hh : Blk _ w7.heap.size 51 #[.int .i64 0, .int .i64 0, .int .i64 0, .int .i64 0]) => Blk.ext hh hb9; (try simp [blk_alloc_iff, blk_drew, blk_no0] at hz9); (try (have hz9c := Blk.cell hz9; have hz9f := Blk.frozen hz9; have hz9l := Blk.lt hz9))))
                    all_goals
                      try go_wp2_with fail
                      go_meet
                      first
                        | exact ⟨w7.heap.size, rfl, Nat.le_refl _, rfl, hz9.setCells_ (hopO mh).cells 0, ext_setCells hx9 (Nat.le_refl _) 0 (hopO mh).cells⟩
                        | exact ⟨w9.heap.size, rfl, hx9.size, rfl, Blk.new _ _ _, hx9.alloc _⟩
                  case rest =>
                    clear hho2 p0 p1 p2 p3 p4 p5 p6 p7
                    rcases mh with _ | hp
                    · obtain ⟨B, rfl, rfl, hx8⟩ := hcut.no
                      have e1 := Hst.out
                      rw [if_neg e0, Hmh.out] at e1
                      dsimp only at e1
                      have He1 := Lib.hid e1
                      clear e1
                      have hN := Near.refl wc
                      go_wp2_with fail
                      have hq := quiet_near hN
                      refine wp_region_quiet_below (by kernel_rfl) (by kernel_rfl) ?_
                      repeat (first | go_big_quiet_skip | (go_big_quiet_want; go_big_quiet_op; first | go_big_quiet_on | (apply Exists.intro; refine ⟨fun _ => ?_, ?_⟩; (focus (first | fail)); go_big_quiet_on)))
                      refine wpQuiet_nil ?_
                      intro w1 hw1
                      clear hq
                      replace hw1 := quiet_ext hw1
                      replace hN := hN.step hw1
                      have hC := hN.2
                      go_wp2
                      go_roundg (gk - 1)
                      case measure => have := Hiq.out; omega
                      case rel => exact ⟨i + 1, by have := Hiq.out; omega, by go_num, by rw [He1.out]; exact (ki7.ext hx8).ext hN.1, (hy7.trans hx8).trans hN.1⟩
                    · obtain ⟨B, rfl, hBl, rfl, hkh, hx8⟩ := hcut.yes
                      have e1 := Hst.out
                      rw [if_neg e0, Hmh.out] at e1
                      dsimp only at e1
                      have hc8 := hkh.cell
                      have hlh := hkh.lt
                      have hk8 := hk7.ext hx8
                      have hck8 := hk8.cell
                      have hlk8 := hk8.lt
                      have ki8 := ki7.ext hx8
                      have q0 := (ki8.cell c.dst.toNat).trans (arrV_gi hdN)
                      have q1 := ki8.lt
                      have q2 := ki8.frozen
                      have hN := Near.refl wc
                      rcases hgd with g9 | g9
                      · rw [if_pos (.inl (by omega))] at e1
                        have He1 := Lib.hid e1
                        clear e1
                        have d1 : (gi A c.dst == -1) = true := by rw [g9]; rfl
                        go_wp2_with fail
                        have hq := quiet_near hN
                        refine wp_region_quiet_below (by kernel_rfl) (by kernel_rfl) ?_
                        repeat (first | go_big_quiet_skip | (go_big_quiet_want; go_big_quiet_op; first | go_big_quiet_on | (apply Exists.intro; refine ⟨fun _ => ?_, ?_⟩; (focus (first | fail)); go_big_quiet_on)))
                        refine wpQuiet_nil ?_
                        intro w1 hw1
                        clear hq
                        replace hw1 := quiet_ext hw1
                        replace hN := hN.step hw1
                        have hC := hN.2
                        have ki9 := ki8.ext hN.1
                        have q3 := ki9.lt
                        have q4 := ki9.frozen
                        have hse := ki9.set_ c.dst.toNat (.int .i64 hp.arr)
                        rw [arrV_set] at hse
                        go_wp2
                        go_roundg (gk - 1)
                        case measure => have := Hiq.out; omega
                        case rel => exact ⟨i + 1, by have := Hiq.out; omega, by go_num, by rw [He1.out]; exact hse, ((hy7.trans hx8).trans hN.1).setCell (Nat.le_refl _) _⟩
                      · have d1 : (gi A c.dst == -1) = false := by rw [beq_eq_false_iff_ne]; omega
                        by_cases g8 : hp.arr < gi A c.dst
                        · rw [if_pos (.inr g8)] at e1
                          have He1 := Lib.hid e1
                          clear e1
                          have d2 : decide (hp.arr < gi A c.dst) = true := decide_eq_true g8
                          go_wp2_with fail
                          have hq := quiet_near hN
                          refine wp_region_quiet_below (by kernel_rfl) (by kernel_rfl) ?_
                          repeat (first | go_big_quiet_skip | (go_big_quiet_want; go_big_quiet_op; first | go_big_quiet_on | (apply Exists.intro; refine ⟨fun _ => ?_, ?_⟩; (focus (first | fail)); go_big_quiet_on)))
                          refine wpQuiet_nil ?_
                          intro w1 hw1
                          clear hq
                          replace hw1 := quiet_ext hw1
                          replace hN := hN.step hw1
                          have hC := hN.2
                          have ki9 := ki8.ext hN.1
                          have q3 := ki9.lt
                          have q4 := ki9.frozen
                          have hse := ki9.set_ c.dst.toNat (.int .i64 hp.arr)
                          rw [arrV_set] at hse
                          go_wp2
                          go_roundg (gk - 1)
                          case measure => have := Hiq.out; omega
                          case rel => exact ⟨i + 1, by have := Hiq.out; omega, by go_num, by rw [He1.out]; exact hse, ((hy7.trans hx8).trans hN.1).setCell (Nat.le_refl _) _⟩
                        · rw [if_neg (by omega)] at e1
                          have He1 := Lib.hid e1
                          clear e1
                          have d2 : decide (hp.arr < gi A c.dst) = false := decide_eq_false g8
                          clear g8
                          go_wp2_with fail
                          have hq := quiet_near hN
                          refine wp_region_quiet_below (by kernel_rfl) (by kernel_rfl) ?_
                          repeat (first | go_big_quiet_skip | (go_big_quiet_want; go_big_quiet_op; first | go_big_quiet_on | (apply Exists.intro; refine ⟨fun _ => ?_, ?_⟩; (focus (first | fail)); go_big_quiet_on)))
                          refine wpQuiet_nil ?_
                          intro w1 hw1
                          clear hq
                          replace hw1 := quiet_ext hw1
                          replace hN := hN.step hw1
                          have hC := hN.2
                          go_wp2
                          go_roundg (gk - 1)
                          case measure => have := Hiq.out; omega
                          case rel => exact ⟨i + 1, by have := Hiq.out; omega, by go_num, by rw [He1.out]; exact ki8.ext hN.1, (hy7.trans hx8).trans hN.1⟩
            · obtain rfl : i = p.cons.length := by omega
              go_wp2
              go_roundg (gko2 - 1)
              case measure => have := Hrq.out; omega
              case rel => exact ⟨r + 1, by have := Hrq.out; omega, by go_num, ki, hz⟩
        · obtain rfl : r = j := by omega
          go_wp2
          go_ret
          exact ⟨_, rfl, hE2.size, by rw [HN.out] at *; exact kr, hE2.trans hy⟩

end Go.Proofs.YtbgdglcnminbaaaGreat

namespace Go.Proofs.YtbgdglcnminbaaaGreat
set_option linter.unusedVariables false
set_option linter.unusedSimpArgs false
open Go.RowKit Go.Shelf
attribute [local go_sem] Oper.semAt_some

/-- The hop of last's result: contact -1 for none. -/
def bestO : Option Hp → Hp
  | none => ⟨-1, 0, 0, 0⟩
  | some h => h
def Hp.arr4 (h : Hp) : Array Value := #[.int .i64 h.con, .int .i64 h.beg, .int .i64 h.en, .int .i64 h.arr]
theorem rlStep_one {p : Pln} {bk : List Bk} {q : Req} {A : List Int} {n : Int} {best : Option Hp} {k : Nat} {c : Con} (hc : gc p.cons (k : Int) = c) : p.rlStep bk q A n best k =
    if c.dst ≠ n ∨ gi A c.src = -1 then best else
      match p.mhop bk q k (gi A c.src) with
      | none => best
      | some h => if h.arr ≠ gi A n then best else
        match best with
        | none => some h
        | some d => if gi A c.src < gi A (gc p.cons d.con).src ∨ (gi A c.src = gi A (gc p.cons d.con).src ∧ c.src < (gc p.cons d.con).src) then some h else some d := by
  unfold Pln.rlStep
  rw [hc]
  rfl
theorem rlast_in {p : Pln} {bk : List Bk} {q : Req} {A : List Int} {n : Int} : ∀ (k : Nat) {d : Hp}, p.rlast bk q A n k = some d → 0 ≤ d.con ∧ d.con < k
  | 0, d, h => by cases h
  | k + 1, d, h => by
    have h1 : p.rlStep bk q A n (p.rlast bk q A n k) k = some d := h
    have key : p.rlast bk q A n k = some d ∨ p.mhop bk q k (gi A (gc p.cons (k : Int)).src) = some d := by
      unfold Pln.rlStep at h1
      split at h1
      · exact .inl h1
      · split at h1
        · exact .inl h1
        · rename_i h' hm
          split at h1
          · exact .inl h1
          · split at h1
            · right; rw [hm]; exact h1
            · rename_i d' hd'
              split at h1
              · right; rw [hm]; exact h1
              · left; rw [hd']; exact h1
    rcases key with e | e
    · have := rlast_in k e
      omega
    · obtain ⟨b, _, hh, _⟩ := mhop_some e
      have : d.con = (k : Int) := by rw [hh]; rfl
      omega

set_option maxRecDepth 100000 in
set_option maxHeartbeats 16000000 in
theorem rlast_any (Aq : Option Addr) (cq : Nat) (Ac : Option Addr) (cc : Nat) (p : Pln) (Al : Option Addr) (cl : Nat) (bk : List Bk) (Ah : Option Addr) (nh ch : Nat) (q : Req) (A : List Int) (B0 : Nat) (n : Int) (w : World) (h : PlnRd w Aq cq Ac cc p) (hbk : Rd EBk w Al bk) (h0 : p.bkChk bk = 0) (hf : fineR p q = true)
    (hA : Blk w B0 3 (arrV A)) (hAl : A.length = p.quo.length) (hAok : OkT A) (hAb : ∀ x ∈ A, x ≤ 1099511627776) (n0 : 0 ≤ n) (n1 : n < p.quo.length) :
    Calls Tryz.prog 35 #[.agg #[.slice Aq p.quo.length cq, .slice Ac p.cons.length cc, .slice Al bk.length cl, .slice Ah nh ch], q.val, .slice (some ⟨B0, 0, none⟩) p.quo.length p.quo.length, .int .i64 n] w fun e w' => e = .returned (.agg (bestO (p.rlast bk q A n p.cons.length)).arr4) ∧ Ext w w' := by
  obtain ⟨W1, hW1, hB1, hk1, hkq, hl1, hlq⟩ := box2 w #[.slice Aq p.quo.length cq, .slice Ac p.cons.length cc, .slice Al bk.length cl, .slice Ah nh ch] q.cells 29 31
  simp only [Req.cells] at hW1 hkq
  obtain ⟨W2, hW2, hB2, hk2, hl2⟩ := box1 W1 #[.int .i64 0, .int .i64 0, .int .i64 0, .int .i64 0] 51
  have hE2 := hB1.trans hB2
  have hf2 := fineR_of hf
  have hok := Pln.ok_of hf2.1
  have hn16 := hok.n16
  have hqo := hf2.2
  simp only [Req.okB, decide_eq_true_eq] at hqo
  have G : GC p bk q := ⟨h0, by omega, by omega⟩
  clear hqo
  have hho := fun i t w h hl' hi ht => rhop35_any Aq cq Ac cc p Al cl bk Ah nh ch q i t w h hl' h0 hf hi ht
  obtain ⟨N, hN⟩ : ∃ N, p.quo.length = N := ⟨_, rfl⟩
  have HN := Lib.hid hN
  have r0 := (hk1.ext hB2).cell
  have r1 := (hk1.ext hB2).lt
  unfold Req.val Hp.val at hho
  unfold Req.val
  rw [hN] at hho hk1 hn16 hAl n1 r0 hW1 ⊢
  have hrd := h.ext hE2
  have hb3 := hbk.ext hE2
  have hcm := h.cm
  have hA3 := hA.ext hE2
  clear hN
  have hnN : n.toNat < A.length := by omega
  go_enter Tryz.func35, Tryz.ntmps35
  go_wp2_with fail
  clear hW1 hW2 r0 r1
  go_loopg [10] p.cons.length (fun k v wr => ∃ i : Nat, i + k = p.cons.length ∧ v = .int .i64 i ∧ Blk wr W2.heap.size 51 (bestO (p.rlast bk q A n i)).arr4 ∧ Ext W2 wr)
  case atStart => exact ⟨0, by omega, rfl, Blk.new W2 _ _, (Ext.refl W2).alloc _⟩
  case round =>
    obtain ⟨i, hiq, rfl, ki, hz⟩ := hrel
    have Hiq := Lib.hid hiq
    have hiN : i ≤ p.cons.length := by omega
    clear hiq
    have t0 := ((hk1.ext hB2).ext hz).cell
    have t1 := ((hk1.ext hB2).ext hz).lt
    by_cases hlt4 : i < p.cons.length
    · obtain ⟨bc, oc, rfl, hbc, z0, z1, z2, z3, z4, z5, z6⟩ := (hrd.c.ext hz).con hlt4
      have hgc : gc p.cons (i : Int) = p.cons[i] := gc_get (i := (i : Int)) (by omega)
      have hcb := hok.con _ (List.getElem_mem hlt4)
      generalize p.cons[i] = c at *
      obtain ⟨W6, hW6, hB6, hk6, hlt6⟩ := box1 wr #[.int .i64 c.src, .int .i64 c.dst, .int .i64 c.st, .int .i64 c.en, .int .i64 c.rate, .int .i64 c.rng, .int .i64 c.loss] 67
      have hst := (show p.rlast bk q A n (i + 1) = p.rlStep bk q A n (p.rlast bk q A n i) i from rfl).trans (rlStep_one hgc)
      have hbi := fun d => rlast_in (p := p) (bk := bk) (q := q) (A := A) (n := n) i (d := d)
      generalize p.rlast bk q A n i = bo at *
      have hs0 := hcb.1.src0
      have hs1 := hcb.2.1
      rw [HN.out] at hs1
      have hsN : c.src.toNat < A.length := by omega
      have hgs := hAok.gi hsN
      have hsb := hAb _ (gi_mem hsN)
      have Hst := Lib.hid hst
      clear hst hgc
      have hy6 := hz.trans hB6
      have hk6c := hk6.cell
      have hA6 := hA3.ext hy6
      have v0 := (hA6.cell c.src.toNat).trans (arrV_gi hsN)
      have v1 := hA6.lt
      have ki6 := ki.ext hB6
      by_cases hdn : c.dst = n
      case' neg =>
        have dd : (c.dst != n) = true := by rw [bne_iff_ne]; exact hdn
        have e1 := Hst.out.trans (if_pos (.inl hdn))
        have He1 := Lib.hid e1
        clear hdn e1
        go_wp2
        go_roundg (gk - 1)
        case measure => have := Hiq.out; omega
        case rel => exact ⟨i + 1, by have := Hiq.out; omega, by go_num, by rw [He1.out]; exact ki6, hy6⟩
      have dd : (c.dst != n) = false := by rw [bne_eq_false_iff_eq]; exact hdn
      have Hdn := Lib.hid hdn
      clear hdn
      rcases hgs with h9 | h9
      · have e1 := Hst.out.trans (if_pos (.inr h9))
        have He1 := Lib.hid e1
        rw [h9] at v0
        clear e1 h9
        go_wp2
        go_roundg (gk - 1)
        case measure => have := Hiq.out; omega
        case rel => exact ⟨i + 1, by have := Hiq.out; omega, by go_num, by rw [He1.out]; exact ki6, hy6⟩
      · have b9 : (gi A c.src == -1) = false := by rw [beq_eq_false_iff_ne]; omega
        have e0 : ¬ (c.dst ≠ n ∨ gi A c.src = -1) := by rw [Hdn.out]; omega
        have Hst2 := Lib.hid (Hst.out.trans (if_neg e0))
        have hho2 := fun w h hl' => hho i (gi A c.src) w h hl' hlt4 ⟨h9, hsb⟩
        obtain ⟨mh, hmh⟩ : ∃ mh, p.mhop bk q i (gi A c.src) = mh := ⟨_, rfl⟩
        simp only [hmh] at hho2
        have Hmh := Lib.hid hmh
        have hr7 := hrd.ext hy6
        have hl7 := hb3.ext hy6
        have p0 := ((hk1.ext hB2).ext hy6).cell
        have p1 := ((hk1.ext hB2).ext hy6).lt
        have p2 := ((hkq.ext hB2).ext hy6).cell
        have p3 := ((hkq.ext hB2).ext hy6).lt
        have p5 := hk6.lt
        clear hmh hho e0 Hst
        go_wp2_with fail
        clear hW6 z0 z1 z2 z3 z4 z5 z6 t0 t1
        go_cut [12, 13] from 16 to 107 (fun x ok wx => MHopR W6 mh x ok wx)
        case first =>
          have hN := Near.refl W6
          go_region_held3 (fun w' => Ext W6 w' ∧ ∀ b o, b < W6.heap.size → w'.cell? ⟨b, o, none⟩ = W6.cell? ⟨b, o, none⟩) (first | exact hN.drew | exact Near.step (by assumption) hb9 | exact near_alloc (by assumption) _ | (refine Near.of ?_; repeat (first | exact hx9 | refine Ext.alloc ?_ _ | (refine Ext.setCell ?_ ?_ _; rotate_left; (focus (first | exact Nat.le_refl _ | (dsimp only; omega)))))) | assumption)
            (first | (go_at_call 59; refine (hho2 _ (hr7.ext (And.left (by assumption))) (hl7.ext (And.left (by assumption)))).mono ?_; rintro e w9 ⟨rfl, hb9⟩; have hx9 : Ext W6 w9 := Ext.trans (And.left (by assumption)) hb9; have hs9 := hx9.size; have hz9 := fun (hh : Blk _ W6.heap.size 51 #[.int .i64 0, .int .i64 0, .int .i64 0, .int .i64 0]) => Blk.ext hh hb9; (try simp [blk_alloc_iff, blk_drew, blk_no0] at hz9); (try (have hz9c := Blk.cell hz9; have hz9f := Blk.frozen hz9; have hz9l := Blk.lt hz9))))
          all_goals
            try go_wp2_with fail
            go_meet
            first
              | exact ⟨W6.heap.size, rfl, Nat.le_refl _, rfl, hz9.setCells_ (hopO mh).cells 0, ext_setCells hx9 (Nat.le_refl _) 0 (hopO mh).cells⟩
              | exact ⟨w9.heap.size, rfl, hx9.size, rfl, Blk.new _ _ _, hx9.alloc _⟩
        case rest =>
          clear hho2 p0 p1 p2 p3 p5 v0 v1 hk6c
          rcases mh with _ | hp
          · obtain ⟨B, rfl, rfl, hx8⟩ := hcut.no
            have e1 := Hst2.out
            rw [Hmh.out] at e1
            dsimp only at e1
            have He1 := Lib.hid e1
            clear e1
            have hN := Near.refl wc
            go_wp2_with fail
            have hq := quiet_near hN
            refine wp_region_quiet_below (by kernel_rfl) (by kernel_rfl) ?_
            repeat (first | go_big_quiet_skip | (go_big_quiet_want; go_big_quiet_op; first | go_big_quiet_on | (apply Exists.intro; refine ⟨fun _ => ?_, ?_⟩; (focus (first | fail)); go_big_quiet_on)))
            refine wpQuiet_nil ?_
            intro w1 hw1
            clear hq
            replace hw1 := quiet_ext hw1
            replace hN := hN.step hw1
            have hC := hN.2
            go_wp2
            go_roundg (gk - 1)
            case measure => have := Hiq.out; omega
            case rel => exact ⟨i + 1, by have := Hiq.out; omega, by go_num, by rw [He1.out]; exact (ki6.ext hx8).ext hN.1, (hy6.trans hx8).trans hN.1⟩
          · obtain ⟨B, rfl, hBl, rfl, hkh, hx8⟩ := hcut.yes
            have e1 := Hst2.out
            rw [Hmh.out] at e1
            dsimp only at e1
            have hy8 := hy6.trans hx8
            have hc8 := hkh.cell
            have hlh := hkh.lt
            have hA8 := hA3.ext hy8
            have v0 := (hA8.cell n.toNat).trans (arrV_gi hnN)
            have v1 := hA8.lt
            have ki8 := ki6.ext hx8
            have hN := Near.refl wc
            by_cases g8 : hp.arr = gi A n
            case' neg =>
              have dn : (hp.arr != gi A n) = true := by rw [bne_iff_ne]; exact g8
              rw [if_pos g8] at e1
              have He1 := Lib.hid e1
              clear e1 g8
              go_wp2_with fail
              have hq := quiet_near hN
              refine wp_region_quiet_below (by kernel_rfl) (by kernel_rfl) ?_
              repeat (first | go_big_quiet_skip | (go_big_quiet_want; go_big_quiet_op; first | go_big_quiet_on | (apply Exists.intro; refine ⟨fun _ => ?_, ?_⟩; (focus (first | fail)); go_big_quiet_on)))
              refine wpQuiet_nil ?_
              intro w1 hw1
              clear hq
              replace hw1 := quiet_ext hw1
              replace hN := hN.step hw1
              have hC := hN.2
              go_wp2
              go_roundg (gk - 1)
              case measure => have := Hiq.out; omega
              case rel => exact ⟨i + 1, by have := Hiq.out; omega, by go_num, by rw [He1.out]; exact ki8.ext hN.1, hy8.trans hN.1⟩
            have dn : (hp.arr != gi A n) = false := by rw [bne_eq_false_iff_eq]; exact g8
            rw [if_neg (fun h => h g8)] at e1
            have He1 := Lib.hid e1
            clear e1 g8
            go_wp2_with fail
            have hq := quiet_near hN
            refine wp_region_quiet_below (by kernel_rfl) (by kernel_rfl) ?_
            repeat (first | go_big_quiet_skip | (go_big_quiet_want; go_big_quiet_op; first | go_big_quiet_on | (apply Exists.intro; refine ⟨fun _ => ?_, ?_⟩; (focus (first | fail)); go_big_quiet_on)))
            refine wpQuiet_nil ?_
            intro w1 hw1
            clear hq
            replace hw1 := quiet_ext hw1
            replace hN := hN.step hw1
            have hC := hN.2
            have hx9 := hN.1
            have hy9 := hy8.trans hx9
            have kh9 := hkh.ext hx9
            have ki9 := ki8.ext hx9
            have kc9 := (hk6.ext hx8).ext hx9
            have hA9 := hA3.ext hy9
            have p0 := kh9.cell
            have p1 := kh9.lt
            clear hC hN hc8 hlh v0 v1 dn
            rcases bo with _ | d
            · have He2 := Lib.hid He1.out
              have kb : Blk _ W2.heap.size 51 #[.int .i64 (-1), .int .i64 0, .int .i64 0, .int .i64 0] := ki9
              have b0 := kb.cell
              have b1 := kb.lt
              have b2 := kb.frozen
              go_wp2
              go_roundg (gk - 1)
              case measure => have := Hiq.out; omega
              case rel => exact ⟨i + 1, by have := Hiq.out; omega, by go_num, by rw [He2.out]; exact kb.setCells_ [.int .i64 hp.con, .int .i64 hp.beg, .int .i64 hp.en, .int .i64 hp.arr] 0, ext_setCells hy9 (Nat.le_refl _) 0 [.int .i64 hp.con, .int .i64 hp.beg, .int .i64 hp.en, .int .i64 hp.arr]⟩
            · have kb : Blk _ W2.heap.size 51 #[.int .i64 d.con, .int .i64 d.beg, .int .i64 d.en, .int .i64 d.arr] := ki9
              have hdc := hbi d rfl
              have bneg : (d.con == -1) = false := by rw [beq_eq_false_iff_ne]; omega
              have hcl : d.con.toNat < p.cons.length := by omega
              have hcl2 : d.con < (p.cons.length : Int) := by omega
              have hdc0 := hdc.1
              obtain ⟨bz, oz, ez, hbz, x0, x1, x2, x3, x4, x5, x6⟩ := (hrd.c.ext hy9).con hcl
              obtain ⟨rfl, rfl⟩ : bc = bz ∧ oc = oz := by injection ez with ez; injection ez with e1 e2; exact ⟨e1, e2⟩
              have Hgy := Lib.hid (gc_get hcl)
              have hyb := hok.con _ (List.getElem_mem hcl)
              generalize p.cons[d.con.toNat] = y at *
              have hd0 := hyb.1.src0
              have hd1 := hyb.2.1
              rw [HN.out] at hd1
              have hdN : y.src.toNat < A.length := by omega
              obtain ⟨W10, hW10, hB10, hk10, hl10⟩ := box1 w1 #[.int .i64 y.src, .int .i64 y.dst, .int .i64 y.st, .int .i64 y.en, .int .i64 y.rate, .int .i64 y.rng, .int .i64 y.loss] 67
              have hy10 := hy9.trans hB10
              have kb10 := kb.ext hB10
              have kc10 := kc9.ext hB10
              have hA10 := hA9.ext hB10
              have kh10 := kh9.ext hB10
              have b0 := kb.cell
              have b1 := kb.lt
              have t0 := ((hk1.ext hB2).ext hy9).cell
              have t1 := ((hk1.ext hB2).ext hy9).lt
              have c0 := hk10.cell
              have c1 := hk10.lt
              have c2 := kc10.cell
              have c3 := kc10.lt
              have c4 := (hA10.cell c.src.toNat).trans (arrV_gi hsN)
              have c5 := (hA10.cell y.src.toNat).trans (arrV_gi hdN)
              have c6 := hA10.lt
              have hN := Near.refl W10
              have e2 := He1.out
              dsimp only at e2
              rw [Hgy.out] at e2
              have He2 := Lib.hid e2
              clear e2
              by_cases k1 : gi A c.src < gi A y.src
              · have d1 : decide (gi A c.src < gi A y.src) = true := decide_eq_true k1
                have He3 := Lib.hid (He2.out.trans (if_pos (.inl k1)))
                clear k1
                go_wp2_with fail
                have hq := quiet_near hN
                refine wp_region_quiet_below (by kernel_rfl) (by kernel_rfl) ?_
                repeat (first | go_big_quiet_skip | (go_big_quiet_want; go_big_quiet_op; first | go_big_quiet_on | (apply Exists.intro; refine ⟨fun _ => ?_, ?_⟩; (focus (first | fail)); go_big_quiet_on)))
                refine wpQuiet_nil ?_
                intro w1 hw1
                clear hq
                replace hw1 := quiet_ext hw1
                replace hN := hN.step hw1
                have hC := hN.2
                have kb11 := kb10.ext hN.1
                have kh11 := kh10.ext hN.1
                have b4 := kb11.cell
                have b5 := kb11.lt
                have b6 := kb11.frozen
                have b7 := kh11.cell
                have b8 := kh11.lt
                clear hC
                go_wp2
                go_roundg (gk - 1)
                case measure => have := Hiq.out; omega
                case rel => exact ⟨i + 1, by have := Hiq.out; omega, by go_num, by rw [He3.out]; exact kb11.setCells_ [.int .i64 hp.con, .int .i64 hp.beg, .int .i64 hp.en, .int .i64 hp.arr] 0, ext_setCells (hy10.trans hN.1) (Nat.le_refl _) 0 [.int .i64 hp.con, .int .i64 hp.beg, .int .i64 hp.en, .int .i64 hp.arr]⟩
              · have d1 : decide (gi A c.src < gi A y.src) = false := decide_eq_false k1
                by_cases k2 : gi A c.src = gi A y.src
                · have d2 : (gi A c.src == gi A y.src) = true := by rw [beq_iff_eq]; exact k2
                  by_cases k3 : c.src < y.src
                  · have d3 : decide (c.src < y.src) = true := decide_eq_true k3
                    have He3 := Lib.hid (He2.out.trans (if_pos (.inr ⟨k2, k3⟩)))
                    clear k1 k2 k3
                    go_wp2_with fail
                    have hq := quiet_near hN
                    refine wp_region_quiet_below (by kernel_rfl) (by kernel_rfl) ?_
                    repeat (first | go_big_quiet_skip | (go_big_quiet_want; go_big_quiet_op; first | go_big_quiet_on | (apply Exists.intro; refine ⟨fun _ => ?_, ?_⟩; (focus (first | fail)); go_big_quiet_on)))
                    refine wpQuiet_nil ?_
                    intro w1 hw1
                    clear hq
                    replace hw1 := quiet_ext hw1
                    replace hN := hN.step hw1
                    have hC := hN.2
                    have kb11 := kb10.ext hN.1
                    have kh11 := kh10.ext hN.1
                    have b4 := kb11.cell
                    have b5 := kb11.lt
                    have b6 := kb11.frozen
                    have b7 := kh11.cell
                    have b8 := kh11.lt
                    clear hC
                    go_wp2
                    go_roundg (gk - 1)
                    case measure => have := Hiq.out; omega
                    case rel => exact ⟨i + 1, by have := Hiq.out; omega, by go_num, by rw [He3.out]; exact kb11.setCells_ [.int .i64 hp.con, .int .i64 hp.beg, .int .i64 hp.en, .int .i64 hp.arr] 0, ext_setCells (hy10.trans hN.1) (Nat.le_refl _) 0 [.int .i64 hp.con, .int .i64 hp.beg, .int .i64 hp.en, .int .i64 hp.arr]⟩
                  · have d3 : decide (c.src < y.src) = false := decide_eq_false k3
                    have He3 := Lib.hid (He2.out.trans (if_neg (fun h => h.elim k1 (fun h => k3 h.2))))
                    clear k1 k2 k3
                    go_wp2_with fail
                    have hq := quiet_near hN
                    refine wp_region_quiet_below (by kernel_rfl) (by kernel_rfl) ?_
                    repeat (first | go_big_quiet_skip | (go_big_quiet_want; go_big_quiet_op; first | go_big_quiet_on | (apply Exists.intro; refine ⟨fun _ => ?_, ?_⟩; (focus (first | fail)); go_big_quiet_on)))
                    refine wpQuiet_nil ?_
                    intro w1 hw1
                    clear hq
                    replace hw1 := quiet_ext hw1
                    replace hN := hN.step hw1
                    have hC := hN.2
                    go_wp2
                    go_roundg (gk - 1)
                    case measure => have := Hiq.out; omega
                    case rel => exact ⟨i + 1, by have := Hiq.out; omega, by go_num, by rw [He3.out]; exact kb10.ext hN.1, hy10.trans hN.1⟩
                · have d2 : (gi A c.src == gi A y.src) = false := by rw [beq_eq_false_iff_ne]; exact k2
                  have He3 := Lib.hid (He2.out.trans (if_neg (fun h => h.elim k1 (fun h => k2 h.1))))
                  clear k1 k2
                  go_wp2_with fail
                  have hq := quiet_near hN
                  refine wp_region_quiet_below (by kernel_rfl) (by kernel_rfl) ?_
                  repeat (first | go_big_quiet_skip | (go_big_quiet_want; go_big_quiet_op; first | go_big_quiet_on | (apply Exists.intro; refine ⟨fun _ => ?_, ?_⟩; (focus (first | fail)); go_big_quiet_on)))
                  refine wpQuiet_nil ?_
                  intro w1 hw1
                  clear hq
                  replace hw1 := quiet_ext hw1
                  replace hN := hN.step hw1
                  have hC := hN.2
                  go_wp2
                  go_roundg (gk - 1)
                  case measure => have := Hiq.out; omega
                  case rel => exact ⟨i + 1, by have := Hiq.out; omega, by go_num, by rw [He3.out]; exact kb10.ext hN.1, hy10.trans hN.1⟩
    · obtain rfl : i = p.cons.length := by omega
      have k8 := hk2.ext hz
      have HV := Lib.hid (show bestO (p.rlast bk q A n p.cons.length) = bestO (p.rlast bk q A n p.cons.length) from rfl)
      obtain ⟨bh, hbh⟩ : ∃ bh, bestO (p.rlast bk q A n p.cons.length) = bh := ⟨_, rfl⟩
      rw [hbh] at ki
      have Hbh := Lib.hid hbh
      clear hbh HV
      have kb : Blk wr W2.heap.size 51 #[.int .i64 bh.con, .int .i64 bh.beg, .int .i64 bh.en, .int .i64 bh.arr] := ki
      have b0 := kb.cell
      have b1 := kb.lt
      have b2 := k8.cell
      have b3 := k8.lt
      have b4 := k8.frozen
      go_wp2
      obtain ⟨w7, hw7, hz7, hE7⟩ : ∃ w7, wr.setCells W1.heap.size 0 [.int .i64 bh.con, .int .i64 bh.beg, .int .i64 bh.en, .int .i64 bh.arr] = w7 ∧ Blk w7 W1.heap.size 51 #[.int .i64 bh.con, .int .i64 bh.beg, .int .i64 bh.en, .int .i64 bh.arr] ∧ Ext w w7 :=
        ⟨_, rfl, k8.setCells_ [.int .i64 bh.con, .int .i64 bh.beg, .int .i64 bh.en, .int .i64 bh.arr] 0, ext_setCells (hE2.trans hz) (by have := hB1.size; omega) 0 _⟩
      simp only [World.setCells, Nat.zero_add, Nat.reduceAdd] at hw7
      rw [hw7]
      have hc7 := hz7.cell
      refine bodyPost_ret (v := .agg #[.int .i64 bh.con, .int .i64 bh.beg, .int .i64 bh.en, .int .i64 bh.arr]) (by rw [results_cell1 rfl]; simp [asAddr, Result.andThen, hc7, go_sem]) rfl ?_
      exact ⟨by rw [Hbh.out]; rfl, hE7⟩

end Go.Proofs.YtbgdglcnminbaaaGreat

/- TopReplays: the walk. -/
import Derived.BigQuiet
import Derived.Test.YtemkpimngbbpkaaGreatTopR27
import Derived.Test.YtemkpimngbbpkaaGreatTopR29
import Derived.Test.YtemkpimngbbpkaaGreatTopR46
import Derived.Test.YtemkpimngbbpkaaGreatTopR48
namespace Go.Proofs.YtemkpimngbbpkaaGreat
set_option linter.unusedVariables false
set_option linter.unusedSimpArgs false
set_option linter.unusedVariables false
set_option linter.unusedSimpArgs false
open Go.RowKit Go.Shelf Go.Maps
attribute [local go_sem] Oper.semAt_some

theorem win0_ok {n : Int} (h : 1 ≤ n ∧ n ≤ 64) : Win.Ok ⟨n, -1, []⟩ :=
  ⟨h.1, h.2, by show (-1 : Int) ≤ -1; omega, by show (-1 : Int) ≤ 1152921504606846976; omega, by simp, .nil, .inl ⟨rfl, rfl⟩⟩
/-- What holds before a round. -/
structure RpI (W : Win) (S : List Int) (n0 : Int) : Prop where
  ok : W.Ok
  kn : W.Knows S
  sz : W.size = n0

set_option maxRecDepth 100000 in
set_option maxHeartbeats 16000000 in
theorem replays_walk (sz : Int) (Al : Option Addr) (cl : Nat) (l : List Int) (b : Bu) (A : Option Addr) (cc : Nat) (w : World) (hsz : 0 ≤ sz ∧ sz ≤ 255) (hl : Rd EU8 w Al l) (hlb : ∀ x ∈ l, 0 ≤ x ∧ x ≤ 255) (hlm : l.length ≤ maxLen) (hR : Rd EBl w A b.blocks) :
    Calls Tryz.prog 3 #[.int .u8 sz, .slice Al l.length cl, .agg (b.cells A cc)] w fun e w' => e = .returned (.bool true) ∧ Ext w w' := by
  unfold maxLen at hlm
  have g1 := Lib.hid (fun w h => great3_any b A cc w h)
  have g2 := Lib.hid (fun w h => check3_any b A cc w h)
  have g3 := Lib.hid (fun sq w h => prot_any { b with seq := sq } A cc 3 exKey w h)
  obtain ⟨src, cr, seq, off, tot, dk, dn, life, prio, f, bl, pay⟩ := b
  dsimp only at hR
  obtain ⟨sv, hsv, -⟩ := strV_str pay
  have HSV := Lib.hid hsv
  unfold Bu.cells at g1 g2 ⊢
  dsimp only at g1 g2 ⊢
  rw [hsv] at g1 g2 ⊢
  clear hsv
  have Hlb := Lib.hid hlb
  have HR := Lib.hid hR
  have hn : 1 ≤ 1 + sz % 64 ∧ 1 + sz % 64 ≤ 64 := by omega
  obtain ⟨n0, hn0⟩ : ∃ n0, 1 + sz % 64 = n0 := ⟨_, rfl⟩
  rw [hn0] at hn
  obtain ⟨z1, z2⟩ := hsz
  obtain ⟨W1, hW1, hB1, hk1, hkl1⟩ := box1 w #[.int .i64 src, .int .i64 cr, .int .i64 seq, .int .i64 off, .int .i64 tot, .int .i64 dk, .int .i64 dn, .int .i64 life, .int .i64 prio, .int .i64 f, .slice A bl.length cc, .string sv] 29
  clear hlb hR
  go_enter Tryz.func3, Tryz.ntmps3
  go_wp2_with fail
  clear hW1
  refine (rpNew_any _ _ hn).mono ?_
  rintro e w2 ⟨rfl, hb2⟩
  have hk2 := hk1.ext hb2
  have hE2 := hB1.trans hb2
  obtain ⟨V3, hV3, hV3e, hv3, hvl3⟩ := box1 w2 #[.int .i64 0, .int .i64 0, .slice none 0 0] 32
  obtain ⟨W3, hW3, hk3, hB3⟩ : ∃ W3, V3.setCells w2.heap.size 0 [.int .i64 n0, .int .i64 (-1), .slice none 0 0] = W3 ∧ Blk W3 w2.heap.size 32 #[.int .i64 n0, .int .i64 (-1), .slice none 0 0] ∧ Ext w2 W3 :=
    ⟨_, rfl, hv3.setCells_ [.int .i64 n0, .int .i64 (-1), .slice none 0 0] 0, ext_setCells hV3e (Nat.le_refl _) 0 _⟩
  simp only [World.setCells, Nat.zero_add, Nat.reduceAdd] at hW3
  have q1 := hv3.cell
  have q2 := hv3.lt
  have q3 := hv3.frozen
  have hkb3 := hk2.ext hB3
  have hE3 := hE2.trans hB3
  have c1 := hkb3.cell
  have c2 := hkb3.lt
  go_upto_region 2 with fail
  (try rw [hW3])
  clear hW3 hV3 q1 q2 q3 hv3 hvl3 hV3e
  by_cases h40 : 40 < l.length
  · go_wp2_with fail
    refine (awake5_any _).mono ?_
    rintro e w4 ⟨rfl, hb4⟩
    go_wp2
    go_ret
    exact ⟨rfl, hE3.trans hb4⟩
  go_wp2_with fail
  refine (g1.out _ (HR.out.ext hE3)).mono ?_
  rintro e w4 ⟨⟨v4, rfl⟩, hb4⟩
  have hkb4 := hkb3.ext hb4
  have hE4 := hE3.trans hb4
  clear c1 c2
  have c1 := hkb4.cell
  have c2 := hkb4.lt
  cases v4 with
  | true =>
    go_wp2_with fail
    refine (awake5_any _).mono ?_
    rintro e w5 ⟨rfl, hb5⟩
    go_wp2
    go_ret
    exact ⟨rfl, hE4.trans hb5⟩
  | false =>
  go_wp2_with fail
  refine (g2.out _ (HR.out.ext hE4)).mono ?_
  rintro e w5 ⟨⟨v5, rfl⟩, hb5⟩
  have hkb5 := hkb4.ext hb5
  have hE5 := hE4.trans hb5
  clear c1 c2
  by_cases hv5 : v5 = 0
  case neg =>
    have z5 : (v5 != 0) = true := by rw [bne_iff_ne]; exact hv5
    go_wp2_with fail
    refine (awake5_any _).mono ?_
    rintro e w6 ⟨rfl, hb6⟩
    go_wp2
    go_ret
    exact ⟨rfl, hE5.trans hb6⟩
  subst hv5
  go_wp2_with fail
  refine (awake5_any _).mono ?_
  rintro e w6 ⟨rfl, hb6⟩
  have hkb6 := hkb5.ext hb6
  have hE6 := hE5.trans hb6
  have hkw6 := ((hk3.ext hb4).ext hb5).ext hb6
  have hmk := @run_makeMap Tryz.prog
  obtain ⟨W7, hW7⟩ : ∃ W7, w6.alloc (.map #[] 0) = W7 := ⟨_, rfl⟩
  have hm7 : OMapB W7 w6.heap.size 0 (.map []) := by
    rw [← hW7]
    exact World.ownsMap_made (H := Unit) w6 Tryz.prog 3 (plainElem Tryz.prog 4)
  have hB7 : Ext w6 W7 := by rw [← hW7]; exact (Ext.refl _).alloc _
  have s7 : W7.heap.size = w6.heap.size + 1 := by rw [← hW7]; simp
  have y1 := hB1.size
  have y2 := hb2.size
  have y3 := hB3.size
  have y4 := ((hb4.trans hb5).trans hb6).size
  have hkb7 := hkb6.ext hB7
  have hkw7 := hkw6.ext hB7
  have hE7 := hE6.trans hB7
  have x1 := hk1.lt
  have x3 := hk3.lt
  clear hkb3 hkb4 hkb5 hkb6 hk2 hk1 hk3 hkw6 hE2 hE3 hE4 hE5
  go_wp2_with fail
  clear hW7 hmk
  go_loopg [10, 47] l.length (fun m vm vi wr => ∃ (k kc : Nat) (W : Win) (S : List Int) (D : DataW Unit) (sq : Int) (A' : Option Addr) (c' : Nat), k + m = l.length ∧ vi = .int .i64 k ∧ vm = .int .i64 W.top ∧ RpI W S n0 ∧ Blk wr w.heap.size 29 #[.int .i64 src, .int .i64 cr, .int .i64 sq, .int .i64 off, .int .i64 tot, .int .i64 dk, .int .i64 dn, .int .i64 life, .int .i64 prio, .int .i64 f, .slice A bl.length cc, .string sv] ∧
    Blk wr w2.heap.size 32 #[.int .i64 n0, .int .i64 W.top, .slice A' W.seen.length c'] ∧ Owns EInt wr W7.heap.size 3 (.slice A' W.seen.length c') W.seen ∧ OMapB wr w6.heap.size kc D ∧ MB S D ∧ kc ≤ k ∧ Ext w wr ∧ W7.heap.size ≤ wr.heap.size)
  case atStart => exact ⟨0, 0, ⟨n0, -1, []⟩, [], .map [], seq, none, 0, by omega, by go_num, rfl, ⟨win0_ok hn, by simp [Win.Knows], rfl⟩, hkb7, hkw7, Owns.none_ _ _, hm7, MB.nil, Nat.le_refl _, hE7, Nat.le_refl _⟩
  case round =>
    obtain ⟨k, kc, W, S, D, sq, A', c', hkn, rfl, rfl, hI, hkb, hkw, ho, hm, hD, hkc, hE, hs⟩ := hrel
    have Hkn := Lib.hid hkn
    by_cases hlt : k < l.length
    · obtain ⟨bl0, ol, rfl, hbl, c0⟩ := (hl.ext hE).u8 hlt
      obtain ⟨x0, x1⟩ := Hlb.out _ (List.getElem_mem hlt)
      generalize l[k] = x at *
      have q1 := hkb.cell
      have q2 := hkb.lt
      have q3 := hkb.frozen
      obtain ⟨W8, hW8, hkb8, hkw8, ho8, hm8, hE8⟩ : ∃ W8, wr.setCell ⟨w.heap.size, 2, none⟩ (.int .i64 x) = W8 ∧ Blk W8 w.heap.size 29 #[.int .i64 src, .int .i64 cr, .int .i64 x, .int .i64 off, .int .i64 tot, .int .i64 dk, .int .i64 dn, .int .i64 life, .int .i64 prio, .int .i64 f, .slice A bl.length cc, .string sv] ∧ Blk W8 w2.heap.size 32 #[.int .i64 n0, .int .i64 W.top, .slice A' W.seen.length c'] ∧ Owns EInt W8 W7.heap.size 3 (.slice A' W.seen.length c') W.seen ∧ OMapB W8 w6.heap.size kc D ∧ Ext w W8 :=
        ⟨_, rfl, hkb.set_ 2 _, hkw.far (by show w2.heap.size ≠ w.heap.size; omega) _, ho.setZ hkb (by decide) 2 _, ownb_grown hm (grown_setCell (World.grownBy.refl wr _) _ _) (fun e => by injection e with e; omega), hE.setCell (Nat.le_refl _) _⟩
      have s8 : W8.heap.size = wr.heap.size := by rw [← hW8]; simp
      clear hkb hkw ho hm hkn
      go_upto_region 11 with fail
      (try rw [hW8])
      clear hW8 q1 q2 q3 c0
      go_cut [13, 14] from 55 to 59 (fun a13 a14 wx => ∃ g, a13 = .pointer (some ⟨g, 0, none⟩) ∧ W8.heap.size ≤ g ∧ ((∃ u : Int, u ≠ 0 ∧ a14 = .int .i64 u) ∨ (protE ⟨src, cr, x, off, tot, dk, dn, life, prio, f, bl, pay⟩ 3 exKey = 0 ∧ a14 = .int .i64 0 ∧ ∃ A1 c1 pa, strV (protB ⟨src, cr, x, off, tot, dk, dn, life, prio, f, bl, pay⟩ 3 exKey).pay = .string pa ∧ Blk wx g 29 ((protB ⟨src, cr, x, off, tot, dk, dn, life, prio, f, bl, pay⟩ 3 exKey).cells A1 c1) ∧ Rd EBl wx A1 (protB ⟨src, cr, x, off, tot, dk, dn, life, prio, f, bl, pay⟩ 3 exKey).blocks)) ∧ Ext W8 wx)
      case first =>
        have q1 := hkb8.cell
        have q2 := hkb8.lt
        have h3 := g3.out x W8 (HR.out.ext hE8)
        unfold Bu.cells at h3
        dsimp only at h3
        rw [HSV.out] at h3
        have H3 := Lib.hid h3
        clear h3
        go_wp2_with fail
        refine Calls.mono H3.out ?_
        clear q1 q2
        rintro e w9 ⟨hpr, hb9⟩
        obtain ⟨V1, hV1, hV1e, hv1, hvl1⟩ := box1 w9 #[.int .i64 0, .int .i64 0, .int .i64 0, .int .i64 0, .int .i64 0, .int .i64 0, .int .i64 0, .int .i64 0, .int .i64 0, .int .i64 0, .slice none 0 0, .string ⟨#[]⟩] 29
        have q1 := hv1.cell
        have q2 := hv1.lt
        have q3 := hv1.frozen
        rcases hpr with ⟨h0, rfl⟩ | ⟨h0, A1, c1, rfl, hR9⟩
        · unfold zeroB
          have hs9 := hv1.setCells_ [.int .i64 0, .int .i64 0, .int .i64 0, .int .i64 0, .int .i64 0, .int .i64 0, .int .i64 0, .int .i64 0, .int .i64 0, .int .i64 0, .slice none 0 0, .string ⟨#[]⟩] 0
          rw [arrSets12e] at hs9
          obtain ⟨W1, hW1, hB1⟩ : ∃ W1, V1.setCells w9.heap.size 0 [.int .i64 0, .int .i64 0, .int .i64 0, .int .i64 0, .int .i64 0, .int .i64 0, .int .i64 0, .int .i64 0, .int .i64 0, .int .i64 0, .slice none 0 0, .string ⟨#[]⟩] = W1 ∧ Ext w9 W1 := ⟨_, rfl, ext_setCells hV1e (Nat.le_refl _) 0 _⟩
          go_wp2
          simp only [World.setCells, Nat.zero_add, Nat.reduceAdd] at hW1
          (try rw [hW1])
          go_meet
          exact ⟨w9.heap.size, rfl, hb9.size, .inl ⟨_, h0, rfl⟩, hb9.trans hB1⟩
        · have H0 := Lib.hid h0
          generalize protB ⟨src, cr, x, off, tot, dk, dn, life, prio, f, bl, pay⟩ 3 exKey = xb at *
          obtain ⟨xsrc, xcr, xseq, xoff, xtot, xdk, xdn, xlife, xprio, xf, xbl, xpay⟩ := xb
          obtain ⟨xv, hxv, -⟩ := strV_str xpay
          have HXV := Lib.hid hxv
          unfold Bu.cells
          dsimp only at hR9 ⊢
          rw [hxv]
          clear hxv
          have hs9 := hv1.setCells_ [.int .i64 xsrc, .int .i64 xcr, .int .i64 xseq, .int .i64 xoff, .int .i64 xtot, .int .i64 xdk, .int .i64 xdn, .int .i64 xlife, .int .i64 xprio, .int .i64 xf, .slice A1 xbl.length c1, .string xv] 0
          rw [arrSets12e] at hs9
          obtain ⟨W1, hW1, hk1, hB1⟩ : ∃ W1, V1.setCells w9.heap.size 0 [.int .i64 xsrc, .int .i64 xcr, .int .i64 xseq, .int .i64 xoff, .int .i64 xtot, .int .i64 xdk, .int .i64 xdn, .int .i64 xlife, .int .i64 xprio, .int .i64 xf, .slice A1 xbl.length c1, .string xv] = W1 ∧ Blk W1 w9.heap.size 29 #[.int .i64 xsrc, .int .i64 xcr, .int .i64 xseq, .int .i64 xoff, .int .i64 xtot, .int .i64 xdk, .int .i64 xdn, .int .i64 xlife, .int .i64 xprio, .int .i64 xf, .slice A1 xbl.length c1, .string xv] ∧ Ext w9 W1 := ⟨_, rfl, hs9, ext_setCells hV1e (Nat.le_refl _) 0 _⟩
          clear hs9
          go_wp2
          simp only [World.setCells, Nat.zero_add, Nat.reduceAdd] at hW1
          (try rw [hW1])
          go_meet
          exact ⟨w9.heap.size, rfl, hb9.size, .inr ⟨H0.out, rfl, A1, c1, xv, HXV.out, by unfold Bu.cells; dsimp only; rw [HXV.out]; exact hk1, hR9.ext hB1⟩, hb9.trans hB1⟩
      case rest =>
        obtain ⟨g, rfl, hg, hor, hx9⟩ := hcut
        rcases hor with ⟨u, hu, rfl⟩ | ⟨h0, rfl, A1, c1, pa, hpa, hk9, hR9⟩
        · have zu : (u != 0) = true := by rw [bne_iff_ne]; exact hu
          go_wp2
          go_ret
          exact ⟨rfl, hE8.trans hx9⟩
        · have hv := fun w h => ver_any (protB ⟨src, cr, x, off, tot, dk, dn, life, prio, f, bl, pay⟩ 3 exKey) A1 c1 3 exKey w h
          rw [prot_ver h0] at hv
          have hseq : (protB ⟨src, cr, x, off, tot, dk, dn, life, prio, f, bl, pay⟩ 3 exKey).seq = x := rfl
          generalize protB ⟨src, cr, x, off, tot, dk, dn, life, prio, f, bl, pay⟩ 3 exKey = xb at *
          obtain ⟨xsrc, xcr, xseq, xoff, xtot, xdk, xdn, xlife, xprio, xf, xbl, xpay⟩ := xb
          dsimp only at hseq hpa hR9
          subst hseq
          unfold Bu.cells at hv hk9
          dsimp only at hv hk9
          rw [hpa] at hv hk9
          clear hpa h0
          have HV := Lib.hid hv
          clear hv
          generalize wc = w9 at *
          have q1 := hk9.cell
          have q2 := hk9.lt
          go_wp2_with fail
          refine Calls.mono (HV.out _ hR9) ?_
          clear HV
          rintro e w10 ⟨rfl, hb10⟩
          have hx10 := hx9.trans hb10
          have hk10 := hk9.ext hb10
          have hkw10 := hkw8.ext hx10
          have y10 := hx10.size
          clear q1 q2
          have q1 := hk10.cell
          have q2 := hk10.lt
          have p1 := hkw10.cell
          have p2 := hkw10.lt
          have hacc := accept_any W xseq A' c' w10 hI.ok (ho8.ext hx10).rd ⟨x0, by omega⟩
          rw [hI.sz] at hacc
          have HACC := Lib.hid hacc
          clear hacc
          go_wp2_with fail
          refine Calls.mono HACC.out ?_
          clear HACC
          rintro e w11 ⟨hb11, hor⟩
          have hx11 := hx10.trans hb11
          have hk11 := hk10.ext hb11
          have hkw11 := hkw10.ext hb11
          have hm11 := ownb_ext hm8 hx11
          have ho11 := ho8.ext hx11
          have hkb11 := hkb8.ext hx11
          have y11 := hx11.size
          clear q1 q2 p1 p2
          have q1 := hk11.cell
          have q2 := hk11.lt
          obtain ⟨V1, hV1, hV1e, hv1, hvl1⟩ := box1 w11 #[.int .i64 0, .int .i64 0, .slice none 0 0] 32
          have q3 := hv1.cell
          have q4 := hv1.lt
          have q5 := hv1.frozen
          rcases hor with ⟨href, rfl⟩ | ⟨href, A2, c2, rfl, ho2⟩
          · have hle : ¬ W.top < xseq := fun hh => by rw [new_ref hI.ok hh] at href; cases href
            have hd : decide (W.top < xseq) = false := decide_eq_false hle
            obtain ⟨W1, hW1, hB1⟩ : ∃ W1, V1.setCells w11.heap.size 0 [.int .i64 0, .int .i64 0, .slice none 0 0] = W1 ∧ Ext w11 W1 := ⟨_, rfl, ext_setCells hV1e (Nat.le_refl _) 0 _⟩
            simp only [World.setCells, Nat.zero_add, Nat.reduceAdd] at hW1
            have hk12 := hk11.ext hB1
            have r1 := hk12.cell
            have r2 := hk12.lt
            have hx12 := hx11.trans hB1
            go_upto_region 17 with fail
            (try rw [hW1])
            clear hW1 hV1 q1 q2 q3 q4 q5
            go_wp2
            go_roundg (gk - 1)
            case measure => have := Hkn.out; omega
            case rel => exact ⟨k + 1, kc, W, S, D, xseq, A', c', by have := Hkn.out; omega, by go_num, rfl, hI, hkb8.ext hx12, hkw8.ext hx12, ho8.ext hx12, ownb_ext hm8 hx12, hD, by omega, hE8.trans hx12, by have := hx12.size; omega⟩
          · have hns : xseq ∉ S := fun hh => by rw [knows_ref hI.kn hh] at href; cases href
            have hok := acc_ok hI.ok x0 (by omega) href
            have hkn := acc_knows (n := xseq) hI.ok hI.kn
            have HW := Lib.hid (show RpI (W.acc xseq) (S ++ [xseq]) n0 from ⟨hok, fun m hm => hkn m (by
              rcases List.mem_append.1 hm with h | h
              · exact List.mem_cons_of_mem _ h
              · rw [List.mem_singleton.1 h]; exact List.mem_cons_self), hI.sz⟩)
            have HT := Lib.hid (show (W.acc xseq).top = max W.top xseq from rfl)
            clear hok hkn href
            generalize W.acc xseq = Wn at *
            obtain ⟨mt, hmt⟩ : ∃ mt, max W.top xseq = mt := ⟨_, rfl⟩
            rw [hmt] at HT ⊢
            have hd : decide (xseq ∈ S) = false := decide_eq_false hns
            obtain ⟨W1, hW1, hkn1, hB1⟩ : ∃ W1, V1.setCells w11.heap.size 0 [.int .i64 n0, .int .i64 mt, .slice A2 Wn.seen.length c2] = W1 ∧ Blk W1 w11.heap.size 32 #[.int .i64 n0, .int .i64 mt, .slice A2 Wn.seen.length c2] ∧ Ext w11 W1 := ⟨_, rfl, hv1.setCells_ [.int .i64 n0, .int .i64 mt, .slice A2 Wn.seen.length c2] 0, ext_setCells hV1e (Nat.le_refl _) 0 _⟩
            simp only [World.setCells, Nat.zero_add, Nat.reduceAdd] at hW1
            have hk12 := hk11.ext hB1
            have r1 := hk12.cell
            have r2 := hk12.lt
            have hx12 := hx11.trans hB1
            have y12 := hx12.size
            have hm12 := ownb_ext hm8 hx12
            have hkw12 := hkw8.ext hx12
            have hkb12 := hkb8.ext hx12
            have ho12 := ho2.ext hB1
            have hlo := lookBd hm12 hD (x := xseq) ⟨by omega, by omega⟩
            rw [hd] at hlo
            go_upto_region 17 with fail
            (try rw [hW1])
            clear hW1 hV1 q1 q2 q3 q4 q5
            go_wp2_with fail
            clear hlo r1 r2
            have hdr := (Ext.refl W1).drew
            obtain ⟨WD, hWD⟩ : ∃ WD, W1.drew = WD := ⟨_, rfl⟩
            rw [hWD] at hdr
            have k13 := hk12.ext hdr
            have kn13 := hkn1.ext hdr
            have kw13 := hkw12.ext hdr
            have kb13 := hkb12.ext hdr
            have m13 := ownb_ext hm12 hdr
            have o13 := ho12.ext hdr
            have x13 := hx12.trans hdr
            have y13 := hdr.size
            have y14 := hB1.size
            have ng : g < WD.heap.size := k13.lt
            have nn : w11.heap.size < WD.heap.size := kn13.lt
            have ne1 : g ≠ w2.heap.size := by omega
            have ne2 : w11.heap.size ≠ w2.heap.size := by omega
            have ne3 : w.heap.size ≠ w2.heap.size := by omega
            obtain ⟨W13, hW13, kw14, kx14, kn14, kb14, m14, o14, x14, s14⟩ : ∃ W13, WD.setCells w2.heap.size 0 [.int .i64 n0, .int .i64 mt, .slice A2 Wn.seen.length c2] = W13 ∧ Blk W13 w2.heap.size 32 #[.int .i64 n0, .int .i64 mt, .slice A2 Wn.seen.length c2] ∧ Blk W13 g 29 #[.int .i64 xsrc, .int .i64 xcr, .int .i64 xseq, .int .i64 xoff, .int .i64 xtot, .int .i64 xdk, .int .i64 xdn, .int .i64 xlife, .int .i64 xprio, .int .i64 xf, .slice A1 xbl.length c1, .string pa] ∧ Blk W13 w11.heap.size 32 #[.int .i64 n0, .int .i64 mt, .slice A2 Wn.seen.length c2] ∧ Blk W13 w.heap.size 29 #[.int .i64 src, .int .i64 cr, .int .i64 xseq, .int .i64 off, .int .i64 tot, .int .i64 dk, .int .i64 dn, .int .i64 life, .int .i64 prio, .int .i64 f, .slice A bl.length cc, .string sv] ∧ OMapB W13 w6.heap.size kc D ∧ Owns EInt W13 w10.heap.size 3 (.slice A2 Wn.seen.length c2) Wn.seen ∧ Ext w W13 ∧ WD.heap.size ≤ W13.heap.size :=
              ⟨_, rfl, kw13.setCells_ [.int .i64 n0, .int .i64 mt, .slice A2 Wn.seen.length c2] 0, blk_fars5 _ k13 ne1 0, blk_fars5 _ kn13 ne2 0, blk_fars5 _ kb13 ne3 0, ownb_grown m13 (grown_setCells [.int .i64 n0, .int .i64 mt, .slice A2 Wn.seen.length c2] (World.grownBy.refl WD (some w2.heap.size)) 0) (fun e => by injection e with e; omega), ((o13.setZ kw13 (by decide) 0 _).setZ (kw13.set_ 0 _) (by decide) 1 _).setZ ((kw13.set_ 0 _).set_ 1 _) (by decide) 2 _, ext_setCells (hE8.trans x13) (by omega) 0 _, (grown_setCells [.int .i64 n0, .int .i64 mt, .slice A2 Wn.seen.length c2] (World.grownBy.refl WD (some w2.heap.size)) 0).size⟩
            simp only [World.setCells, Nat.zero_add, Nat.reduceAdd] at hW13
            obtain ⟨W14, hup, m15, g15⟩ := updB m14 (by omega) (x := xseq) ⟨by omega, by omega⟩
            have kx15 := kx14.kept g15 (fun e => by injection e with e; omega)
            have kn15 := kn14.kept g15 (fun e => by injection e with e; omega)
            have kb15 := kb14.kept g15 (fun e => by injection e with e; omega)
            have kw15 := kw14.kept g15 (fun e => by injection e with e; omega)
            have o15 := o14.kept g15 (fun g' hgg e' => by injection e' with e'; have := (o14.block hgg).1; omega)
            have x15 : Ext w W14 := Below.grown x14 g15 x14.size (fun k hk => by injection hk with hk; omega)
            have s15 := g15.size
            have hD15 := hD.put xseq
            refine wp_region_P (fun _ => false) (fun w' => (∀ i, w'.cell? ⟨g, i, none⟩ = #[.int .i64 xsrc, .int .i64 xcr, .int .i64 xseq, .int .i64 xoff, .int .i64 xtot, .int .i64 xdk, .int .i64 xdn, .int .i64 xlife, .int .i64 xprio, .int .i64 xf, .slice A1 xbl.length c1, .string pa][i]?) ∧ (∀ i, w'.cell? ⟨w11.heap.size, i, none⟩ = #[.int .i64 n0, .int .i64 mt, .slice A2 Wn.seen.length c2][i]?)) (by kernel_rfl) (by rw [hWD]; exact ⟨k13.cell, kn13.cell⟩) (fun hSS => ?_)
            rw [hWD] at hSS ⊢
            have p1 := kw13.cell
            have p2 := kw13.lt
            have p3 := kw13.frozen
            refine wpAnyP_takeT (i := 0) (v := ?_) rfl (by kernel_rfl) (by kernel_rfl) (by kernel_rfl) (fun _ _ _ h => h) (Or.inl ⟨by rfl, ?_⟩) ?_
            rotate_left
            · intro w'
              go_simp
              first | done | with_reducible rfl
            try simp only [Act.put, List.setIfInBounds_toArray, List.set_cons_zero, List.set_cons_succ]
            refine wpAnyP_takeT (i := 1) (v := ?_) rfl (by kernel_rfl) (by kernel_rfl) (by kernel_rfl) (fun _ _ _ h => h) (Or.inl ⟨by rfl, ?_⟩) ?_
            rotate_left
            · intro w'
              go_simp
              first | done | with_reducible rfl
            try simp only [Act.put, List.setIfInBounds_toArray, List.set_cons_zero, List.set_cons_succ]
            refine wpAnyP_takeT (i := 2) (v := ?_) rfl (by kernel_rfl) (by kernel_rfl) (by kernel_rfl) (fun _ _ _ h => h) (Or.inl ⟨by rfl, ?_⟩) ?_
            rotate_left
            · intro w'
              go_simp
              first | done | with_reducible rfl
            try simp only [Act.put, List.setIfInBounds_toArray, List.set_cons_zero, List.set_cons_succ]
            refine wpAnyP_take (i := 3) (v := ?_) rfl (by kernel_rfl) (by kernel_rfl) (by kernel_rfl) (by kernel_rfl) (fun _ _ _ h => h) (Or.inl ⟨by rfl, ?_⟩) (by assumption) ?_
            rotate_left
            · intro w' hw'
              (try have hC := hw'.2)
              (try have hC9 := hw'.1)
              go_simp
              first | done | with_reducible rfl
            try simp only [Act.put, List.setIfInBounds_toArray, List.set_cons_zero, List.set_cons_succ]
            refine wpAnyP_take (i := 4) (v := ?_) rfl (by kernel_rfl) (by kernel_rfl) (by kernel_rfl) (by kernel_rfl) (fun _ _ _ h => h) (Or.inl ⟨by rfl, ?_⟩) (by assumption) ?_
            rotate_left
            · intro w' hw'
              (try have hC := hw'.2)
              (try have hC9 := hw'.1)
              go_simp
              first | done | with_reducible rfl
            try simp only [Act.put, List.setIfInBounds_toArray, List.set_cons_zero, List.set_cons_succ]
            refine wpAnyP_takeT (i := 5) (v := ?_) rfl (by kernel_rfl) (by kernel_rfl) (by kernel_rfl) (fun _ _ _ h => h) (Or.inl ⟨by rfl, ?_⟩) ?_
            rotate_left
            · intro w'
              go_simp
              first | done | with_reducible rfl
            try simp only [Act.put, List.setIfInBounds_toArray, List.set_cons_zero, List.set_cons_succ]
            refine wpAnyP_takeT (i := 6) (v := ?_) rfl (by kernel_rfl) (by kernel_rfl) (by kernel_rfl) (fun _ _ _ h => h) (Or.inl ⟨by rfl, ?_⟩) ?_
            rotate_left
            · intro w'
              go_simp
              first | done | with_reducible rfl
            try simp only [Act.put, List.setIfInBounds_toArray, List.set_cons_zero, List.set_cons_succ]
            refine wpAnyP_takeT (i := 7) (v := ?_) rfl (by kernel_rfl) (by kernel_rfl) (by kernel_rfl) (fun _ _ _ h => h) (Or.inl ⟨by rfl, ?_⟩) ?_
            rotate_left
            · intro w'
              go_simp
              first | done | with_reducible rfl
            try simp only [Act.put, List.setIfInBounds_toArray, List.set_cons_zero, List.set_cons_succ]
            refine wpAnyP_take (i := 8) (v := ?_) rfl (by kernel_rfl) (by kernel_rfl) (by kernel_rfl) (by kernel_rfl) (fun _ _ _ h => h) (Or.inl ⟨by rfl, ?_⟩) (by assumption) ?_
            rotate_left
            · intro w' hw'
              (try have hC := hw'.2)
              (try have hC9 := hw'.1)
              go_simp
              first | done | with_reducible rfl
            try simp only [Act.put, List.setIfInBounds_toArray, List.set_cons_zero, List.set_cons_succ]
            refine wpAnyP_takeT (i := 9) (v := ?_) rfl (by kernel_rfl) (by kernel_rfl) (by kernel_rfl) (fun _ _ _ h => h) (Or.inl ⟨by rfl, ?_⟩) ?_
            rotate_left
            · intro w'
              go_simp
              first | done | with_reducible rfl
            try simp only [Act.put, List.setIfInBounds_toArray, List.set_cons_zero, List.set_cons_succ]
            refine wpAnyP_ready (rs := [10]) (by kernel_rfl) (by simp) ?_
            refine AllReadyP.cons rfl (fun K hK => ?_) AllReadyP.nil
            go_simp
            (try rw [hW13])
            refine hK.out _ _ (fun _ _ => ⟨kx14.cell, kn14.cell⟩) ?_
            clear hK K p1 p2 p3
            refine wpAnyP_ready (rs := [11]) (by kernel_rfl) (by simp) ?_
            refine AllReadyP.cons rfl (fun K hK => ?_) AllReadyP.nil
            go_simp
            refine hK.out _ _ (fun _ _ => ⟨kx15.cell, kn15.cell⟩) ?_
            clear hK K
            refine wpAnyP_takeT (i := 12) (v := ?_) rfl (by kernel_rfl) (by kernel_rfl) (by kernel_rfl) (fun _ _ _ h => h) (Or.inl ⟨by rfl, ?_⟩) ?_
            rotate_left
            · intro w'
              go_simp
              first | done | with_reducible rfl
            try simp only [Act.put, List.setIfInBounds_toArray, List.set_cons_zero, List.set_cons_succ]
            (try simp only [List.getElem_toArray, List.getElem_cons_succ, List.getElem_cons_zero, Act.put, List.setIfInBounds_toArray, List.set_cons_zero, List.set_cons_succ])
            refine wpAnyP_done (by kernel_rfl) ?_ _
            go_wp2
            go_roundg (gk - 1)
            case measure => have := Hkn.out; omega
            case rel => exact ⟨k + 1, kc + 1, Wn, S ++ [xseq], _, xseq, A2, c2, by have := Hkn.out; omega, by go_num, by rw [HT.out], HW.out, kb15, by rw [HT.out]; exact kw15, o15.mono (by omega), m15, hD15, by omega, x15, by omega⟩
    · go_wp2
      go_ret
      exact ⟨rfl, hE⟩
end Go.Proofs.YtemkpimngbbpkaaGreat

/- Layer 35, the reference (multicast): Prune. -/
import Derived.Test.YtbgdglcnminbaaaGreatMzE
import Derived.BigQuiet
namespace Go.Proofs.YtbgdglcnminbaaaGreat
set_option linter.unusedVariables false
set_option linter.unusedSimpArgs false
open Go.RowKit Go.Shelf
attribute [local go_sem] Oper.semAt_some

theorem fnd_mem {p : Pln} {q : Req} {mem : List Int} {l : List Br} (h : p.mchk q mem l = 0) {x : Int} (hx : x ∈ mem) : ∃ a, a < l.length ∧ p.lead l x = (a : Int) ∧ p.fnd q l x = (a : Int) := by
  obtain ⟨a, ha, e1, e2⟩ := mem_br h hx
  have hm := memsB_in (mchk_ok h).2.1 hx
  refine ⟨a, ha, e2, ?_⟩
  unfold Pln.fnd
  rw [if_neg hm.2.2, e2, if_neg (by omega)]

set_option maxRecDepth 100000 in
set_option maxHeartbeats 8000000 in
theorem rPrune35_any (Aq : Option Addr) (cq : Nat) (Ac : Option Addr) (cc : Nat) (p : Pln) (q : Req) (Am : Option Addr) (cm : Nat) (mem : List Int) (Al : Option Addr) (cl : Nat) (l : List Br) (w : World) (h : PlnRd w Aq cq Ac cc p) (hmm : Rd EInt w Am mem) (hml : mem.length ≤ 1000000) (hl : Rd EBr w Al l) (hlm : l.length ≤ 1000000) (hcl : l.length ≤ cl) :
    Calls Tryz.prog 16 #[p.val Aq cq Ac cc, q.val, .slice Am mem.length cm, .slice Al l.length cl] w fun e w' => Ext w w' ∧ ((p.mchk q mem l = 0 ∧ ∃ v, e = .returned (.tuple #[v, .int .i64 0]) ∧ Owns EBr w' w.heap.size 57 v (p.prune l mem)) ∨ (p.mchk q mem l ≠ 0 ∧ e = .returned (.tuple #[.slice none 0 0, .int .i64 (p.mchk q mem l)]))) := by
  obtain ⟨j0, hj0, hy0, hy1, hy2⟩ := info_parts info_br
  obtain ⟨W, hW, hB, hk, hk2, hlt, hlt2⟩ := box2 w #[.slice Aq p.quo.length cq, .slice Ac p.cons.length cc] q.cells 25 31
  simp only [Req.cells] at hW hk2
  have hc := hk.cell
  have hc2 := hk2.cell
  have hch := rCheck35_any Aq cq Ac cc p q Am cm mem Al cl l W (h.ext hB) (hmm.ext hB) hml (hl.ext hB) hlm hcl
  unfold Pln.val Req.val at hch ⊢
  by_cases hz : p.mchk q mem l = 0
  case' neg =>
    have d0 : (p.mchk q mem l != 0) = true := by simpa using hz
    have Hz := Lib.hid hz
    clear hz
    go_enter Tryz.func16, Tryz.ntmps16
    go_wp2_with fail
    clear hW
    refine hch.mono ?_
    rintro e w1 ⟨rfl, hb1⟩
    go_wp2
    exact bodyPost_ret (results_tmp2' rfl _ _ _) rfl ⟨hB.trans hb1, .inr ⟨Hz.out, rfl⟩⟩
  have V := mchk_vt hz
  have hreq := V.req
  have hlm16 := V.len
  have HTr := Lib.hid V.tree
  have Hz := Lib.hid hz
  have Hfm := Lib.hid (fun x hx => fnd_mem hz (x := x) hx)
  rw [hz] at hch
  have hfi := fun x w h hl' => rfind_any Aq cq Ac cc p q Al cl l x w h hl' (by omega) (fun k hk => ⟨(V.br k hk).con0, (V.br k hk).con1⟩)
  unfold Pln.val Req.val at hfi
  clear hz V hreq
  go_enter Tryz.func16, Tryz.ntmps16
  go_wp2_with fail
  clear hW
  refine hch.mono ?_
  clear hch
  rintro e wc ⟨rfl, hb1⟩
  have kp := hk.ext hb1
  have kq := hk2.ext hb1
  have hE1 := hB.trans hb1
  have hrd := h.ext hE1
  have hl1 := hl.ext hE1
  have hm1 := hmm.ext hE1
  obtain ⟨W2, hW2, hB2, hk3, hlt3⟩ := box1 wc (Array.replicate l.length (.bool false)) 4
  have hz : boolV (List.replicate l.length false) = Array.replicate l.length (.bool false) := by simp [boolV]
  rw [← hz] at hk3
  have dN : decide ((l.length : Int) < 0) = false := decide_eq_false (by omega)
  obtain ⟨i0, hi0, hz0, hz1, hz2⟩ := info_parts info_boolm
  obtain ⟨ii, hii, hiz, hi1, hi2⟩ := info_parts info_int
  have hmk := fun w => run_make1 (n := l.length) Tryz.underlying82 hi0 hz0 hz1 (by omega) rfl (by omega) w
  have hmi := fun w => run_make1 (n := l.length) Tryz.underlying22 hii hiz hi1 (by omega) rfl (by omega) w
  clear hz hk hk2 hc hc2
  go_wp2_with fail
  clear hW2
  go_loopg [12] mem.length (fun n k wr => ∃ j : Nat, j + n = mem.length ∧ k = .int .i64 j ∧ Blk wr wc.heap.size 4 (boolV ((mem.take j).foldl (p.nee1 l) (List.replicate l.length false))) ∧ Ext wc wr)
  case atStart => exact ⟨0, by omega, rfl, hk3, hB2⟩
  case round =>
    obtain ⟨j, hjq, rfl, kn, hx⟩ := hrel
    clear hk3 hB2
    have Hjq := Lib.hid hjq
    have hjN : j ≤ mem.length := by omega
    clear hjq
    have u1 := (kp.ext hx).cell
    have u2 := (kp.ext hx).lt
    have u3 := (kq.ext hx).cell
    have u4 := (kq.ext hx).lt
    by_cases hlt2 : j < mem.length
    case pos =>
      obtain ⟨bm, om, rfl, hbm, gm⟩ := (hm1.ext hx).int hlt2
      have hfm := Hfm.out mem[j] (List.getElem_mem hlt2)
      have hst : (mem.take (j + 1)).foldl (p.nee1 l) (List.replicate l.length false) = p.nee1 l ((mem.take j).foldl (p.nee1 l) (List.replicate l.length false)) mem[j] := by
        rw [List.take_succ_eq_append_getElem hlt2, List.foldl_append]; rfl
      have hfA := fun d os => hfi mem[j] (Sort.grow (redrawn wr d) os) (hrd.ext (hx.trans (below_regrown wr d os))) (hl1.ext (hx.trans (below_regrown wr d os)))
      obtain ⟨a, ha, ha1, ha2⟩ := hfm
      have hnl : ((mem.take j).foldl (p.nee1 l) (List.replicate l.length false)).length = l.length := by rw [neeM_len]; simp
      generalize mem[j] = x at *
      have hne : p.nee1 l ((mem.take j).foldl (p.nee1 l) (List.replicate l.length false)) x = (upN l (a + 1)).foldl (fun nd k => nd.set k.toNat true) ((mem.take j).foldl (p.nee1 l) (List.replicate l.length false)) := by
        unfold Pln.nee1
        rw [ha1, show ((a : Int) + 1).toNat = a + 1 by omega]
      have Hst := Lib.hid (hst.trans hne)
      rw [ha2] at hfA
      clear hst hne ha1 ha2
      generalize (mem.take j).foldl (p.nee1 l) (List.replicate l.length false) = nd at *
      have hN := Near.refl wr
      have hC := hN.2
      go_wp2_with fail
      have hq := quiet_near hN
      refine wp_region_quiet_below (by kernel_rfl) (by kernel_rfl) ?_
      repeat (first | go_big_quiet_skip | (go_big_quiet_want; go_big_quiet_op; first | go_big_quiet_on | (apply Exists.intro; refine ⟨fun _ => ?_, ?_⟩; (focus (first | (go_at_call 34; with_reducible exact Calls.regrown_of (hfA _ _)))); go_big_quiet_on)))
      refine wpQuiet_nil ?_
      intro w1 hw1
      clear hq
      replace hw1 := quiet_ext hw1
      replace hN := hN.step hw1
      have hC := hN.2
      clear hfA u1 u2 u3 u4
      have hx1 := hx.trans hN.1
      have kn1 := kn.ext hN.1
      obtain ⟨wo, rfl⟩ : ∃ wo, wo = w1 := ⟨_, rfl⟩
      obtain ⟨gko, rfl⟩ : ∃ g, g = gk := ⟨_, rfl⟩
      clear kn hx hC hN
      go_wp2_with fail
      go_loopg [13] (a + 1) (fun n x wr => ∃ done : List Int, x = .int .i64 ((n : Int) - 1) ∧ Hid (upN l (a + 1) = done ++ upN l n) ∧ n ≤ l.length ∧ Blk wr wc.heap.size 4 (boolV (done.foldl (fun nd k => nd.set k.toNat true) nd)) ∧ Ext wc wr)
      case atStart => exact ⟨[], by simp, Lib.hid rfl, by omega, kn1, hx1⟩
      case round =>
        obtain ⟨done, rfl, hu, hnl2, kn2, hy⟩ := hrel
        clear kn1 hx1
        cases gk with
        | succ m =>
          rw [show ((m + 1 : Nat) : Int) - 1 = (m : Int) by omega]
          have hml2 : m < l.length := by omega
          obtain ⟨bl, ol, rfl, hbl, f0, f1, f2, f3, f4⟩ := (hl1.ext hy).br hml2
          have ht := HTr.out m hml2
          have hup := upN_s l m
          rw [gbr_get hml2] at ht hup
          generalize l[m] = y at *
          have hup2 := Lib.hid (hu.out.trans (by rw [hup, if_neg (by omega)]))
          have hfl : (done.foldl (fun nd k => nd.set k.toNat true) nd).length = l.length := by rw [nee_len, hnl]
          have hkn3 := kn2.set_ m (.bool true)
          rw [boolV_set] at hkn3
          have e3 : (done.foldl (fun nd k => nd.set k.toNat true) nd).set m true = (done ++ [(m : Int)]).foldl (fun nd k => nd.set k.toNat true) nd := by rw [List.foldl_append]; rfl
          rw [e3] at hkn3
          have g3 := (kn2.cell m).trans (boolV_get (by omega))
          have g1 := kn2.lt
          have g2 := kn2.frozen
          have dm : decide (0 ≤ (m : Int)) = true := decide_eq_true (by omega)
          have hp2 : (((y.par + 1).toNat : Nat) : Int) - 1 = y.par := by omega
          have Hp2 := Lib.hid hp2
          have hm3 : (m : Int) < (l.length : Int) := by omega
          have hblb : bl ≠ wc.heap.size := fun e => by
            obtain ⟨b9, o9, h9, h10, _⟩ := hl1.br hml2
            injection h9 with h9
            injection h9 with h9 _
            omega
          clear hp2 hup e3
          obtain ⟨fm, hfm⟩ : ∃ fm, (done.foldl (fun nd k => nd.set k.toNat true) nd)[m]'(by omega) = fm := ⟨_, rfl⟩
          rw [hfm] at g3
          clear hfm
          generalize (done.foldl (fun nd k => nd.set k.toNat true) nd) = F at *
          go_wp2
          go_roundg (y.par + 1).toNat
          case measure => omega
          case rel => exact ⟨done ++ [(m : Int)], by rw [Hp2.out], Lib.hid (by rw [hup2.out, List.append_assoc]; rfl), by omega, hkn3, hy.setCell (Nat.le_refl _) _⟩
        | zero =>
          have hL := hu.out
          rw [upN_0, List.append_nil] at hL
          rw [← hL, ← Hst.out] at kn2
          clear hu hL
          rw [show ((0 : Nat) : Int) - 1 = -1 by omega]
          go_wp2
          go_roundg (mem.length - (j + 1))
          case measure => have := Hjq.out; omega
          case rel => exact ⟨j + 1, by have := Hjq.out; omega, by go_num, kn2, hy⟩
    case neg =>
      obtain rfl : j = mem.length := by omega
      rw [List.take_length] at kn
      have hnl : (mem.foldl (p.nee1 l) (List.replicate l.length false)).length = l.length := by rw [neeM_len]; simp
      have Hpr := Lib.hid (show p.prune l mem = (prS l (mem.foldl (p.nee1 l) (List.replicate l.length false)) l.length).1 from rfl)
      generalize mem.foldl (p.nee1 l) (List.replicate l.length false) = nd at *
      obtain ⟨W6, hW6, hB6, hk6, hl6⟩ := box1 wr (Array.replicate l.length (.int .i64 0)) 3
      have hz : arrV (List.replicate l.length 0) = Array.replicate l.length (.int .i64 0) := by simp [arrV]
      rw [← hz] at hk6
      have S6 := Lib.hid (show W6.heap.size = wr.heap.size + 1 by rw [← hW6]; simp)
      clear hz hlt u1 u2 u3 u4
      go_wp2_with fail
      clear hW6
      obtain ⟨wo, rfl⟩ : ∃ wo, wo = wr := ⟨_, rfl⟩
      obtain ⟨gq, rfl⟩ : ∃ gq, gq = gk := ⟨_, rfl⟩
      have x1 : Ext wc wo := hx
      go_loopg [14, 16] l.length (fun n u x wr => ∃ k : Nat, k + n = l.length ∧ x = .int .i64 k ∧ Owns EBr wr W6.heap.size 57 u (prS l nd k).1 ∧ Blk wr wo.heap.size 3 (arrV (prS l nd k).2) ∧ Ext wo wr ∧ W6.heap.size ≤ wr.heap.size)
      case atStart => exact ⟨0, by omega, rfl, Owns.none_ _ _, hk6, hB6, Nat.le_refl _⟩
      case round =>
        obtain ⟨k, hkn, rfl, ou, ki, hx, hxs⟩ := hrel
        have Hkn := Lib.hid hkn
        have hkN : k ≤ l.length := by omega
        clear hkn
        have knr := kn.ext hx
        have h6 := S6.out
        have s5 := knr.lt
        have s6 := ki.lt
        have s7 := ki.frozen
        by_cases hlt2 : k < l.length
        case neg =>
          obtain rfl : k = l.length := by omega
          rw [← Hpr.out] at ou
          have hEr := (hE1.trans x1).trans hx
          have hsz := (hE1.trans x1).size
          clear s5 s6 s7
          obtain ⟨Au, cu, rfl, hRu⟩ := ou.form
          go_wp2
          exact bodyPost_ret (results_tmp2' rfl _ _ _) rfl ⟨hEr, .inl ⟨Hz.out, _, rfl, ou.mono (by omega)⟩⟩
        case pos =>
          obtain ⟨b, o, rfl, hb, c0, c1, c2, c3, c4⟩ := (hl1.ext (x1.trans hx)).br hlt2
          have hp := (HTr.out k hlt2).2
          have Hst := Lib.hid (show prS l nd (k + 1) = if nd.getD k false = true then ((prS l nd k).1 ++ [{ gbr l k with par := if 0 ≤ (gbr l k).par then gi (prS l nd k).2 (gbr l k).par else (gbr l k).par }], (prS l nd k).2.set k (prS l nd k).1.length) else prS l nd k from rfl)
          have hgd : nd.getD k false = nd[k]'(by omega) := by simp [hnl, hlt2]
          rw [hgd] at Hst
          rw [gbr_get hlt2] at hp Hst
          have f1 := knr.cell k
          rw [boolV_get (by omega)] at f1
          have hil : (prS l nd k).2.length = l.length := prS_len _ _ _
          have hol := prS_out l nd k
          generalize l[k] = y at *
          generalize prS l nd k = S at *
          obtain ⟨nk, hnk⟩ : ∃ nk, nd[k]'(by omega) = nk := ⟨_, rfl⟩
          rw [hnk] at f1 Hst
          clear hnk hgd
          cases nk with
          | false =>
            go_wp2_with fail
            go_roundg (gk - 1)
            case measure => have := Hkn.out; omega
            case rel => exact ⟨k + 1, by have := Hkn.out; omega, by go_num, by rw [Hst.out, if_neg (by decide)]; exact ou, by rw [Hst.out, if_neg (by decide)]; exact ki, hx, hxs⟩
          | true =>
            obtain ⟨W7, hW7, hB7, hk7, hl7⟩ := box1 wr #[.int .i64 y.con, .int .i64 y.beg, .int .i64 y.en, .int .i64 y.arr, .int .i64 y.par] 57
            have k7 := hk7.cell
            have s5' := (knr.ext hB7).lt
            clear s5
            by_cases hp0 : 0 ≤ y.par
            case neg =>
              have dp : decide (0 ≤ y.par) = false := decide_eq_false hp0
              replace Hst := Lib.hid (Hst.out.trans (by rw [if_pos rfl, if_neg hp0]))
              clear hp0
              obtain ⟨Au, cu, rfl, hRu⟩ := ou.form
              have kix' := (ki.ext hB7).cell k
              rw [arrV_get (by omega)] at kix'
              have kil := (ki.ext hB7).lt
              have kif := (ki.ext hB7).frozen
              go_upto_region 21 with fail
              have kix := ki.ext hB7
              have t1 := (kix.cell k).trans (arrV_get (by omega))
              have t2 := kix.lt
              have t3 := kix.frozen
              have oux := ou.ext hB7
              have hszx := hB7.size
              obtain ⟨W8, hW8, ki8, hk8, ou8, hE8⟩ : ∃ W8, W7.setCell ⟨wo.heap.size, k, none⟩ (.int .i64 S.1.length) = W8 ∧ Blk W8 wo.heap.size 3 (arrV (S.2.set k S.1.length)) ∧ Blk W8 wr.heap.size 57 #[.int .i64 y.con, .int .i64 y.beg, .int .i64 y.en, .int .i64 y.arr, .int .i64 (y.par)] ∧ Owns EBr W8 W6.heap.size 57 (.slice Au S.1.length cu) S.1 ∧ Ext wo W8 :=
                ⟨_, rfl, by rw [← arrV_set]; exact kix.set_ _ _, hk7.far (by simp; omega) _, oux.kept (grown_setCell (World.grownBy.refl W7 (some wo.heap.size)) _ _) (fun g hgg e' => by injection e' with e'; have := (oux.block hgg).1; omega), (hx.trans hB7).setCell (Nat.le_refl _) _⟩
              have k8 := hk8.cell
              have l8 := hk8.lt
              have hs8 : W6.heap.size ≤ W8.heap.size := by rw [← hW8]; simp [World.setCell]; omega
              go_wp2_with (at_builtin; refine wpList_push rfl (.tmp 85) (.tmp 87) _ (by rfl) W6.heap.size 57 j0 _ 40 Tryz.underlying34 hj0 hy0 hy1 hy2 (by rfl) (.slice Au S.1.length cu) (by rfl) (ou8.ext ((Ext.refl _).alloc _)) W8.heap.size ⟨y.con, y.beg, y.en, y.arr, y.par⟩ (by rfl) (Blk.new W8 _ _) (by simp only [maxLen]; omega) (by omega) (by simp; omega) ?_; intro v6 w6 hv6 hg6 hat6; have hx6 := ext_grown (hE8.alloc _) (ou8.ext ((Ext.refl _).alloc _)) (by omega) hg6)
              have hb6 : ∀ r, (Value.slice Au S.1.length cu).ownBlock = some r → W6.heap.size ≤ r := fun r e => (ou8.block e).1
              have ki6 := (ki8.ext ((Ext.refl _).alloc _)).kept hg6 (fun e' => by have := hb6 _ e'.symm; omega)
              go_roundg (gk - 1)
              case measure => have := Hkn.out; omega
              case rel => exact ⟨k + 1, by have := Hkn.out; omega, by go_num, by rw [Hst.out]; exact hv6, by rw [Hst.out]; exact ki6, hx6, by have := hg6.size; simp at this; omega⟩
            case pos =>
              have dp : decide (0 ≤ y.par) = true := decide_eq_true hp0
              replace Hst := Lib.hid (Hst.out.trans (by rw [if_pos rfl, if_pos hp0]))
              obtain ⟨Au, cu, rfl, hRu⟩ := ou.form
              have hp1 : y.par.toNat < l.length := by omega
              have kix' := (ki.ext hB7).cell y.par.toNat
              rw [arrV_get (by omega), show ((y.par.toNat : Nat) : Int) = y.par by omega] at kix'
              have kil := (ki.ext hB7).lt
              have f7 := hk7.frozen
              have hp2 : y.par < l.length := by omega
              obtain ⟨Wy, hWy, hky, hBy⟩ : ∃ Wy, W7.setCell ⟨wr.heap.size, 4, none⟩ (.int .i64 (gi S.2 y.par)) = Wy ∧ Blk Wy wr.heap.size 57 #[.int .i64 y.con, .int .i64 y.beg, .int .i64 y.en, .int .i64 y.arr, .int .i64 (gi S.2 y.par)] ∧ Ext wr Wy :=
                ⟨_, rfl, hk7.set_ 4 _, hB7.setCell (Nat.le_refl _) _⟩
              go_upto_region 21 with fail
              clear hWy hW7 kix' f7
              have kix := ki.ext hBy
              have t1 := (kix.cell k).trans (arrV_get (by omega))
              have t2 := kix.lt
              have t3 := kix.frozen
              have oux := ou.ext hBy
              have hszx := hBy.size
              obtain ⟨W8, hW8, ki8, hk8, ou8, hE8⟩ : ∃ W8, Wy.setCell ⟨wo.heap.size, k, none⟩ (.int .i64 S.1.length) = W8 ∧ Blk W8 wo.heap.size 3 (arrV (S.2.set k S.1.length)) ∧ Blk W8 wr.heap.size 57 #[.int .i64 y.con, .int .i64 y.beg, .int .i64 y.en, .int .i64 y.arr, .int .i64 (gi S.2 y.par)] ∧ Owns EBr W8 W6.heap.size 57 (.slice Au S.1.length cu) S.1 ∧ Ext wo W8 :=
                ⟨_, rfl, by rw [← arrV_set]; exact kix.set_ _ _, hky.far (by simp; omega) _, oux.kept (grown_setCell (World.grownBy.refl Wy (some wo.heap.size)) _ _) (fun g hgg e' => by injection e' with e'; have := (oux.block hgg).1; omega), (hx.trans hBy).setCell (Nat.le_refl _) _⟩
              have k8 := hk8.cell
              have l8 := hk8.lt
              have hs8 : W6.heap.size ≤ W8.heap.size := by rw [← hW8]; simp [World.setCell]; omega
              go_wp2_with (at_builtin; refine wpList_push rfl (.tmp 85) (.tmp 87) _ (by rfl) W6.heap.size 57 j0 _ 40 Tryz.underlying34 hj0 hy0 hy1 hy2 (by rfl) (.slice Au S.1.length cu) (by rfl) (ou8.ext ((Ext.refl _).alloc _)) W8.heap.size ⟨y.con, y.beg, y.en, y.arr, gi S.2 y.par⟩ (by rfl) (Blk.new W8 _ _) (by simp only [maxLen]; omega) (by omega) (by simp; omega) ?_; intro v6 w6 hv6 hg6 hat6; have hx6 := ext_grown (hE8.alloc _) (ou8.ext ((Ext.refl _).alloc _)) (by omega) hg6)
              have hb6 : ∀ r, (Value.slice Au S.1.length cu).ownBlock = some r → W6.heap.size ≤ r := fun r e => (ou8.block e).1
              have ki6 := (ki8.ext ((Ext.refl _).alloc _)).kept hg6 (fun e' => by have := hb6 _ e'.symm; omega)
              go_roundg (gk - 1)
              case measure => have := Hkn.out; omega
              case rel => exact ⟨k + 1, by have := Hkn.out; omega, by go_num, by rw [Hst.out]; exact hv6, by rw [Hst.out]; exact ki6, hx6, by have := hg6.size; simp at this; omega⟩

end Go.Proofs.YtbgdglcnminbaaaGreat

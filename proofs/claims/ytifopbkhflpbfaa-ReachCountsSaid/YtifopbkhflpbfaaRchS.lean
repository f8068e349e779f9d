
/- Layer 26 (reach): the reference's hubs, and whether two matrices are equal. -/
import Derived.Test.YtifopbkhflpbfaaRchR
namespace Go.Proofs.Ytifopbkhflpbfaa
set_option linter.unusedVariables false
set_option linter.unusedSimpArgs false
open Go.RowKit Go.Shelf

theorem allT_take {l : List Bool} {k : Nat} (h : k < l.length) : allT (l.take (k + 1)) = (allT (l.take k) && l[k]) := by
  unfold allT
  rw [List.take_add_one, List.getElem?_eq_getElem h, List.any_append]
  cases l[k] <;> cases (l.take k).any (fun y => y == false) <;> rfl
theorem MatRd.keptd {β : Type} {E : Elt β} {w w' : World} {base base' : Nat} {v v' : Value} {rows : List (List Bool)} {l : List β} {e : TypeId} (h : MatRd w base v rows) (ho : Owns E w base' e v' l) (h1 : 4 ≠ e) (h2 : 46 ≠ e) (hg : w.grownBy w' v'.ownBlock) : MatRd w' base v rows := by
  obtain ⟨hs, o1, o2, o3⟩ := h
  exact ⟨hs, o1.keptd ho h2 hg, o2, fun i hi hj => (o3 i hi hj).keptd ho h1 hg⟩

set_option maxRecDepth 100000 in
set_option maxHeartbeats 4000000 in
theorem rHubs_any (Aq : Option Addr) (cq : Nat) (Ac : Option Addr) (cc : Nat) (p : Pln) (r d n : Int) (w : World) (h : PlnRd w Aq cq Ac cc p) :
    Calls Try.prog 14 #[p.val Aq cq Ac cc, .int .i64 r, .int .i64 d, .int .i64 n] w (HubR p r d n w) := by
  obtain ⟨i0, hi0, hz0, hz1, hz2⟩ := info_parts info_int
  obtain ⟨W, hW, hB, hk, hlt⟩ := box1 w #[.slice Aq p.quo.length cq, .slice Ac p.cons.length cc] 25
  obtain ⟨W2, hW2, hB2, hk2, hl2⟩ := box1 W #[] 3
  have own0 := Owns.made (E := EInt) W W.heap.size 3 (by omega)
  rw [hW2] at own0
  have k1 := hk.ext hB2
  have hc := k1.cell
  have hqm := h.qm
  have hM := rMatrix_any Aq cq Ac cc p r d n W2 (h.ext (hB.trans hB2))
  have hml := p.matM_len r d n
  have hmr := p.matM_row r d n
  obtain ⟨M, hMe⟩ : ∃ M, p.matM r d n = M := ⟨_, rfl⟩
  obtain ⟨er, hee⟩ : ∃ er, p.matE r d n = er := ⟨_, rfl⟩
  unfold MatR at hM
  rw [hMe, hee] at hM
  rw [hMe] at hml hmr
  have Hmr := Lib.hid hmr
  clear hmr
  have HMe := Lib.hid hMe
  have Hee := Lib.hid hee
  clear hMe hee
  unfold Pln.val at hM ⊢
  go_enter Try.func14, Try.ntmps14
  go_wp2_with fail
  clear hW hW2
  refine hM.mono ?_
  clear hM hc
  rintro e w1 ⟨A, c, rfl, hm, hx⟩
  have hE1 := (hB.trans hB2).trans hx
  have hw1 := hE1.size
  have hs1 := hx.size
  have Hm := Lib.hid hm
  clear hm
  have own1 := own0.ext hx
  go_wp2_with fail
  go_loopg [10, 13] M.length (fun q u k wr => ∃ (j : Nat), j + q = M.length ∧ k = .int .i64 j ∧ Owns EInt wr W.heap.size 3 u (hubsK M j) ∧ W.heap.size ≤ wr.heap.size ∧ Ext W wr ∧ Hid (MatRd wr W2.heap.size (.slice A M.length c) M))
  case atStart => exact ⟨0, by omega, rfl, own1, (hB2.trans hx).size, hB2.trans hx, Hm⟩
  case round =>
    obtain ⟨j, hjq, rfl, hu, hsz, hxr, hmr⟩ := hrel
    have Hjq := Lib.hid hjq
    have hjN : j ≤ M.length := by omega
    have hkl := hubsK_len M j
    clear hjq
    by_cases hlt2 : j < M.length
    · obtain ⟨hs, o1, o2, o3⟩ := hmr.out
      have hjs : j < hs.length := by rw [o2]; exact hlt2
      obtain ⟨b, o, rfl, hbl, hck⟩ := (o1.rd).hdr hjs
      have hrow := o3 j hjs hlt2
      have hgd : M.getD j [] = M[j] := by rw [List.getD_eq_getElem?_getD, List.getElem?_eq_getElem hlt2]; rfl
      clear o1 o2 o3
      generalize hs[j] = hd at *
      obtain ⟨Ar, nr, cr⟩ := hd
      dsimp only at hrow hck
      have hlr := hrow.len
      obtain ⟨row, hrw⟩ : ∃ row, M[j] = row := ⟨_, rfl⟩
      rw [hrw] at hrow hgd hlr
      subst hlr
      have hmax : row.length ≤ 1000000 := by rw [← hrw, Hmr.out _ (List.getElem_mem hlt2)]; exact hqm
      have hy := @hubsK_yes M j
      have hn := @hubsK_no M j
      rw [hgd] at hy hn
      have Hy := Lib.hid hy
      have Hn := Lib.hid hn
      have hRr := hrow.rd
      clear hy hn hgd hrw hrow
      go_wp2_with fail
      obtain ⟨wo, rfl⟩ : ∃ wo, wo = wr := ⟨_, rfl⟩
      obtain ⟨gko, rfl⟩ : ∃ g, g = gk := ⟨_, rfl⟩
      go_loopg [14, 15] row.length (fun q a k wr => ∃ (m : Nat) (x : Bool), m + q = row.length ∧ k = .int .i64 m ∧ a = .bool x ∧ Hid (x = allT (row.take m)) ∧ wr = wo)
      case atStart => exact ⟨0, true, by omega, rfl, rfl, Lib.hid rfl, rfl⟩
      case round =>
        obtain ⟨m, x, hmq, rfl, rfl, hxa, rfl⟩ := hrel
        have Hmq := Lib.hid hmq
        have hmN : m ≤ row.length := by omega
        clear hmq
        by_cases hlt3 : m < row.length
        · obtain ⟨b2, o2, rfl, hbl2, hcm⟩ := hRr.bool hlt3
          have hat := allT_take hlt3
          rw [← hxa.out] at hat
          generalize row[m] = z at *
          have Hat := Lib.hid hat
          clear hat hxa
          cases x
          · go_wp2
            go_roundg (gk - 1)
            case measure => have := Hmq.out; omega
            case rel => exact ⟨m + 1, false, by have := Hmq.out; omega, by go_num, rfl, Lib.hid (by rw [Hat.out]; rfl), rfl⟩
          · go_wp2
            go_roundg (gk - 1)
            case measure => have := Hmq.out; omega
            case rel => exact ⟨m + 1, z, by have := Hmq.out; omega, by go_num, rfl, Lib.hid (by rw [Hat.out]; rfl), rfl⟩
        · have he : m = row.length := by omega
          subst he
          have hxa2 := hxa.out
          rw [List.take_of_length_le (Nat.le_refl _)] at hxa2
          have Hxa := Lib.hid hxa2
          clear hxa2 hxa
          cases x
          · go_wp2
            go_roundg (gko - 1)
            case measure => have := Hjq.out; omega
            case rel => exact ⟨j + 1, by have := Hjq.out; omega, by go_num, by rw [Hn.out Hxa.out.symm]; exact hu, hsz, hxr, hmr⟩
          · obtain ⟨Au, cu, hue, _⟩ := hu.form
            subst hue
            go_wp2_with (at_builtin; refine wpList_push rfl (.tmp 51) (.tmp 53) _ (by rfl) W.heap.size 3 i0 _ 8 Try.underlying22 hi0 hz0 hz1 hz2 (by rfl) (.slice Au (hubsK M j).length cu) (by rfl) (hu.ext ((Ext.refl _).alloc _)) wr.heap.size (j : Int) (by rfl) (Blk.new wr _ _) (by simp only [maxLen]; omega) (by omega) (by simp; omega) ?_; intro v6 w6 hv6 hg6 hat6)
            have hx6 := ext_grown (hxr.alloc _) (hu.ext ((Ext.refl _).alloc _)) (Nat.le_refl _) hg6
            go_roundg (gko - 1)
            case measure => have := Hjq.out; omega
            case rel => exact ⟨j + 1, by have := Hjq.out; omega, by go_num, by rw [Hy.out Hxa.out.symm]; exact hv6, hx6.size, hx6, Lib.hid ((hmr.out.ext ((Ext.refl _).alloc _)).keptd (hu.ext ((Ext.refl _).alloc _)) (by decide) (by decide) hg6)⟩
    · have he : j = M.length := by omega
      subst he
      obtain ⟨A2, c2, rfl, _⟩ := hu.form
      go_wp2
      go_ret2
      exact ⟨A2, c2, by rw [HMe.out, Hee.out]; rfl, by rw [HMe.out]; exact hu.mono hB.size, hB.trans hxr⟩

set_option maxRecDepth 100000 in
set_option maxHeartbeats 4000000 in
theorem same_any (A B : Option Addr) (c c' : Nat) (M : List (List Bool)) (w : World) (base base' : Nat) (hA : MatRd w base (.slice A M.length c) M) (hB : MatRd w base' (.slice B M.length c') M) (hmax : M.length ≤ 1000000) (hrow : ∀ x ∈ M, x.length ≤ 1000000) :
    Calls Try.prog 15 #[.slice A M.length c, .slice B M.length c'] w fun e w' => e = .returned (.bool true) ∧ Ext w w' := by
  have Hrow := Lib.hid hrow
  clear hrow
  go_enter Try.func15, Try.ntmps15
  go_wp2_with fail
  go_loopg [5] M.length (fun q k wr => ∃ (j : Nat), j + q = M.length ∧ k = .int .i64 j ∧ Ext w wr)
  case atStart => exact ⟨0, by omega, rfl, Ext.refl _⟩
  case round =>
    obtain ⟨j, hjq, rfl, hx⟩ := hrel
    have Hjq := Lib.hid hjq
    have hjN : j ≤ M.length := by omega
    clear hjq
    by_cases hlt2 : j < M.length
    · obtain ⟨hs, o1, o2, o3⟩ := hA.ext hx
      obtain ⟨hs', o1', o2', o3'⟩ := hB.ext hx
      have hjs : j < hs.length := by rw [o2]; exact hlt2
      have hjs' : j < hs'.length := by rw [o2']; exact hlt2
      obtain ⟨b, o, rfl, hbl, hck⟩ := (o1.rd).hdr hjs
      obtain ⟨b', o', rfl, hbl', hck'⟩ := (o1'.rd).hdr hjs'
      have hrow := o3 j hjs hlt2
      have hrow' := o3' j hjs' hlt2
      have hmx := Hrow.out _ (List.getElem_mem hlt2)
      clear o1 o2 o3 o1' o2' o3'
      generalize hs[j] = hd at *
      generalize hs'[j] = hd' at *
      obtain ⟨Ar, nr, cr⟩ := hd
      obtain ⟨Ar', nr', cr'⟩ := hd'
      dsimp only at hrow hck hrow' hck'
      have hlr := hrow.len
      have hlr' := hrow'.len
      generalize M[j] = row at *
      rw [← hlr'] at hlr
      subst hlr' hlr
      have hRr := hrow.rd
      have hRr' := hrow'.rd
      clear hrow hrow'
      have hN := Near.refl wr
      have d0 : ((row.length : Int) != (row.length : Int)) = false := by simp
      go_wp2
      have hq := quiet_near hN
      refine wp_region_quiet_below (by kernel_rfl) (by kernel_rfl) ?_
      repeat (first | go_big_quiet_skip | (go_big_quiet_want; go_big_quiet_op; first | go_big_quiet_on | (apply Exists.intro; refine ⟨fun _ => ?_, ?_⟩; (focus (first | fail)); go_big_quiet_on)))
      refine wpQuiet_nil ?_
      intro w1 hw1
      clear hq
      replace hw1 := quiet_ext hw1
      replace hN := hN.step hw1
      have hC := hN.2
      have hx1 := hN.1
      clear hN hC
      go_wp2_with fail
      obtain ⟨wo, rfl⟩ : ∃ wo, wo = wr := ⟨_, rfl⟩
      obtain ⟨gko, rfl⟩ : ∃ g, g = gk := ⟨_, rfl⟩
      go_loopg [6] row.length (fun q k wz => ∃ (m : Nat), m + q = row.length ∧ k = .int .i64 m ∧ Ext wo wz)
      case atStart => exact ⟨0, by omega, rfl, hx1⟩
      case round =>
        obtain ⟨m, hmq, rfl, hz⟩ := hrel
        have Hmq := Lib.hid hmq
        have hmN : m ≤ row.length := by omega
        have hCz := (Near.of hz).2
        have hk1 := (hCz b _ hbl).trans hck
        have hk2 := (hCz b' _ hbl').trans hck'
        have hbz := Nat.lt_of_lt_of_le hbl hz.size
        have hbz' := Nat.lt_of_lt_of_le hbl' hz.size
        clear hmq hCz
        by_cases hlt3 : m < row.length
        · obtain ⟨e1, f1, rfl, hel, hcm⟩ := (hRr.ext hz).bool hlt3
          obtain ⟨e2, f2, rfl, hel2, hcm2⟩ := (hRr'.ext hz).bool hlt3
          generalize row[m] = z at *
          have d1 : (z != z) = false := by simp
          have hN := Near.refl wr
          cases z
          all_goals
            go_wp2
            have hq := quiet_near hN
            refine wp_region_quiet_below (by kernel_rfl) (by kernel_rfl) ?_
            repeat (first | go_big_quiet_skip | (go_big_quiet_want; go_big_quiet_op; first | go_big_quiet_on | (apply Exists.intro; refine ⟨fun _ => ?_, ?_⟩; (focus (first | fail)); go_big_quiet_on)))
            refine wpQuiet_nil ?_
            intro w1 hw1
            clear hq
            replace hw1 := quiet_ext hw1
            replace hN := hN.step hw1
            have hC := hN.2
            go_wp2
            go_roundg (gk - 1)
            case measure => have := Hmq.out; omega
            case rel => exact ⟨m + 1, by have := Hmq.out; omega, by go_num, hz.trans hN.1⟩
        · have he : m = row.length := by omega
          subst he
          go_wp2
          go_roundg (gko - 1)
          case measure => have := Hjq.out; omega
          case rel => exact ⟨j + 1, by have := Hjq.out; omega, by go_num, hx.trans hz⟩
    · have he : j = M.length := by omega
      subst he
      go_wp2
      go_ret
      exact ⟨rfl, hx⟩

end Go.Proofs.Ytifopbkhflpbfaa

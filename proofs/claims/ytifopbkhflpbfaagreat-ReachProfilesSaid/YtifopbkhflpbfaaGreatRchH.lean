
/- Layer 26 (reach): slices.Contains of truths, and the hubs. -/
import Derived.Test.YtifopbkhflpbfaaGreatRchN
namespace Go.Proofs.YtifopbkhflpbfaaGreat
set_option linter.unusedVariables false
set_option linter.unusedSimpArgs false
open Go.RowKit Go.Shelf
attribute [local go_sem] Oper.semAt_some

theorem Rd.bool {w : World} {A : Option Addr} {l : List Bool} (h : Rd EBool w A l) {k : Nat} (hk : k < l.length) : ∃ b o, A = some ⟨b, o, none⟩ ∧ b < w.heap.size ∧ w.cell? ⟨b, o + k, none⟩ = some (.bool l[k]) := by
  obtain ⟨b, o, rfl, hb, hc⟩ := h.at hk
  refine ⟨b, o, rfl, hb, ?_⟩
  have := hc 0 (.bool l[k]) rfl
  simpa [EBool] using this
/-- Where a truth lies first. -/
def findB (x : Bool) (l : List Bool) : Int := if l.any (fun y => y == x) then (l.findIdx (fun y => y == x) : Int) else -1
theorem findB_at {x : Bool} {l : List Bool} {k : Nat} (hk : k < l.length) (hb : (l.take k).any (fun y => y == x) = false) (hy : (l[k] == x) = true) : findB x l = k := by
  have h1 : l.any (fun y => y == x) = true := List.any_eq_true.2 ⟨l[k], List.getElem_mem hk, hy⟩
  unfold findB
  rw [if_pos h1]
  have h2 : l.findIdx (fun y => y == x) = k := by
    rw [List.findIdx_eq hk]
    refine ⟨hy, fun j hj => ?_⟩
    rw [List.any_eq_false] at hb
    have := hb l[j] (List.mem_take_iff_getElem.2 ⟨j, by omega, rfl⟩)
    simpa using this
  rw [h2]
theorem findB_nope {x : Bool} {l : List Bool} (h : l.any (fun y => y == x) = false) : findB x l = -1 := by unfold findB; rw [h]; rfl
theorem findB_neg {x : Bool} {l : List Bool} : decide (0 ≤ findB x l) = l.any (fun y => y == x) := by
  unfold findB
  cases l.any (fun y => y == x)
  · rfl
  · simp

set_option maxHeartbeats 1000000 in
theorem indexBool_any (A : Option Addr) (c : Nat) (l : List Bool) (x : Bool) (w : World) (hA : Rd EBool w A l) (hmax : l.length ≤ 2199023255552) :
    Calls Tryz.prog 46 #[.slice A l.length c, .bool x] w fun e w' => e = .returned (.int .i64 (findB x l)) ∧ Ext w w' := by
  go_enter Tryz.func46, Tryz.ntmps46
  go_wp2
  go_loopg [8] l.length (fun n i wr => ∃ k : Nat, k + n = l.length ∧ i = .int .i64 k ∧ Hid ((l.take k).any (fun y => y == x) = false) ∧ Ext w wr)
  case atStart => exact ⟨0, by omega, rfl, Lib.hid rfl, Ext.refl _⟩
  case round =>
    obtain ⟨k, hkl, rfl, hu, hN⟩ := hrel
    by_cases hlt : k < l.length
    · obtain ⟨b, o, rfl, hb, c0⟩ := (hA.ext hN).bool hlt
      have Hl := Lib.hid hkl
      generalize hxe : l[k] = y at *
      have Hx := Lib.hid hxe
      clear hxe hkl
      by_cases hxy : y = x
      · subst hxy
        go_wp2
        go_ret
        exact ⟨ret_i64 (findB_at hlt hu.out (by rw [Hx.out]; simp)).symm, hN⟩
      · have hd : (x == y) = false := by simp; exact fun e => hxy e.symm
        have hd2 : (y == x) = false := by simp; exact hxy
        have Hd := Lib.hid hd2
        clear hxy hd2
        go_wp2
        go_roundg (gk - 1)
        case measure => have := Hl.out; omega
        case rel => exact ⟨k + 1, by have := Hl.out; omega, by go_num, Lib.hid (by rw [List.take_add_one, List.getElem?_eq_getElem hlt, List.any_append, hu.out, Hx.out]; simp [Hd.out]), hN⟩
    · have hle : l.length ≤ k := by omega
      have hu2 := hu.out
      rw [List.take_of_length_le hle] at hu2
      have Hu := Lib.hid hu2
      clear hu2
      go_wp2
      go_ret
      exact ⟨ret_i64 (findB_nope Hu.out).symm, hN⟩
set_option maxHeartbeats 1000000 in
theorem containsBool_any (A : Option Addr) (c : Nat) (l : List Bool) (x : Bool) (w : World) (hA : Rd EBool w A l) (hmax : l.length ≤ 2199023255552) :
    Calls Tryz.prog 30 #[.slice A l.length c, .bool x] w fun e w' => e = .returned (.bool (l.any (fun y => y == x))) ∧ Ext w w' := by
  have hfn := Lib.hid (findB_neg (x := x) (l := l))
  have hi := fun w hA => indexBool_any A c l x w hA hmax
  go_enter Tryz.func30, Tryz.ntmps30
  go_wp2_with fail
  refine (hi _ hA).mono ?_
  rintro e w1 ⟨rfl, hb⟩
  clear hi
  go_wp2
  go_ret
  exact ⟨ret_bool hfn.out, hb⟩

/-- Whether all of a row is true. -/
def allT (l : List Bool) : Bool := !(l.any (fun y => y == false))
/-- The hubs of a matrix among its first k rows. -/
def hubsK (rows : List (List Bool)) (k : Nat) : List Int := ((List.range k).filter fun i => allT (rows.getD i [])).map Int.ofNat
def hubs (rows : List (List Bool)) : List Int := hubsK rows rows.length
theorem hubsK_len (rows : List (List Bool)) (k : Nat) : (hubsK rows k).length ≤ k := by
  unfold hubsK
  rw [List.length_map]
  exact Nat.le_trans (List.length_filter_le _ _) (by simp)
theorem hubsK_yes {rows : List (List Bool)} {k : Nat} (h : allT (rows.getD k []) = true) : hubsK rows (k + 1) = hubsK rows k ++ [(k : Int)] := by
  unfold hubsK
  rw [List.range_succ, List.filter_append, List.map_append, List.filter_cons, if_pos h]
  rfl
theorem hubsK_no {rows : List (List Bool)} {k : Nat} (h : allT (rows.getD k []) = false) : hubsK rows (k + 1) = hubsK rows k := by
  unfold hubsK
  rw [List.range_succ, List.filter_append, List.map_append, List.filter_cons, if_neg (by rw [h]; decide)]
  simp
/-- What Hubs returns, in memory. -/
def HubR (p : Pln) (r d n : Int) (w : World) (e : Ending) (w' : World) : Prop :=
  ∃ A c, e = .returned (.tuple #[.slice A (hubs (p.matM r d n)).length c, .int .i64 (p.matE r d n)]) ∧ Owns EInt w' w.heap.size 3 (.slice A (hubs (p.matM r d n)).length c) (hubs (p.matM r d n)) ∧ Ext w w'
theorem Pln.matM_len (p : Pln) (r d n : Int) : (p.matM r d n).length ≤ p.quo.length := by
  unfold Pln.matM
  split
  · rw [Pln.mat_len]; exact Nat.le_refl _
  · simp
theorem Pln.matM_row (p : Pln) (r d n : Int) : ∀ x ∈ p.matM r d n, x.length = p.quo.length := by
  intro x hx
  unfold Pln.matM at hx
  split at hx
  · unfold Pln.mat at hx
    obtain ⟨i, _, rfl⟩ := List.mem_map.1 hx
    exact Pln.row_len _ _ _ _ _
  · simp at hx

set_option maxRecDepth 100000 in
set_option maxHeartbeats 4000000 in
theorem Hubs_any (Aq : Option Addr) (cq : Nat) (Ac : Option Addr) (cc : Nat) (p : Pln) (r d n : Int) (w : World) (h : PlnRd w Aq cq Ac cc p) :
    Calls Tryz.prog 15 #[p.val Aq cq Ac cc, .int .i64 r, .int .i64 d, .int .i64 n] w (HubR p r d n w) := by
  obtain ⟨i0, hi0, hz0, hz1, hz2⟩ := info_parts info_int
  obtain ⟨W, hW, hB, hk, hlt⟩ := box1 w #[.slice Aq p.quo.length cq, .slice Ac p.cons.length cc] 25
  have hc := hk.cell
  have hqm := h.qm
  have hM := Matrix_any Aq cq Ac cc p r d n W (h.ext hB)
  have hml := p.matM_len r d n
  have hmr := p.matM_row r d n
  have hnil : p.matE r d n ≠ 0 → p.matM r d n = [] := fun hh => by unfold Pln.matM; rw [if_neg hh]
  obtain ⟨M, hMe⟩ : ∃ M, p.matM r d n = M := ⟨_, rfl⟩
  obtain ⟨er, hee⟩ : ∃ er, p.matE r d n = er := ⟨_, rfl⟩
  unfold MatR at hM
  rw [hMe, hee] at hM
  rw [hMe] at hml hmr
  have Hmr := Lib.hid hmr
  clear hmr
  rw [hMe, hee] at hnil
  have HMe := Lib.hid hMe
  have Hee := Lib.hid hee
  clear hMe hee
  by_cases h0 : er = 0
  · have d0 : (er != 0) = false := by rw [h0]; rfl
    have H0 := Lib.hid h0
    clear h0 hnil
    unfold Pln.val at hM ⊢
    go_enter Tryz.func15, Tryz.ntmps15
    go_wp2_with fail
    clear hW
    refine hM.mono ?_
    clear hM hc
    rintro e w1 ⟨A, c, rfl, hm, hx⟩
    have hE1 := hB.trans hx
    have hw1 := hE1.size
    obtain ⟨hs, o1, o2, o3⟩ := hm
    have Ho2 := Lib.hid o2
    have hRh := o1.rd
    clear o2
    go_wp2_with fail
    go_loopg [12, 28] M.length (fun q u k wr => ∃ (j : Nat), j + q = M.length ∧ k = .int .i64 j ∧ Owns EInt wr w1.heap.size 3 u (hubsK M j) ∧ Ext w1 wr)
    case atStart => exact ⟨0, by omega, rfl, Owns.none_ _ _, Ext.refl _⟩
    case round =>
      obtain ⟨j, hjq, rfl, hu, hxr⟩ := hrel
      have Hjq := Lib.hid hjq
      have hjN : j ≤ M.length := by omega
      have hkl := hubsK_len M j
      clear hjq
      by_cases hlt2 : j < M.length
      · have hjs : j < hs.length := by rw [Ho2.out]; exact hlt2
        obtain ⟨b, o, rfl, hbl, hck⟩ := (hRh.ext hxr).hdr hjs
        have hrow := o3 j hjs hlt2
        have hgd : M.getD j [] = M[j] := by rw [List.getD_eq_getElem?_getD, List.getElem?_eq_getElem hlt2]; rfl
        generalize hs[j] = hd at *
        obtain ⟨Ar, nr, cr⟩ := hd
        dsimp only at hrow hck
        have hlr := hrow.len
        obtain ⟨row, hrw⟩ : ∃ row, M[j] = row := ⟨_, rfl⟩
        rw [hrw] at hrow hgd hlr
        subst hlr
        have hmax : row.length ≤ 1000000 := by rw [← hrw, Hmr.out _ (List.getElem_mem hlt2)]; exact hqm
        have hcb := containsBool_any Ar cr row false wr ((hrow.ext hxr).rd) (by omega)
        have hy := @hubsK_yes M j
        have hn := @hubsK_no M j
        rw [hgd] at hy hn
        unfold allT at hy hn
        have Hy := Lib.hid hy
        have Hn := Lib.hid hn
        clear hy hn hgd hrw
        have hwr := hxr.size
        cases ha : row.any (fun y => y == false)
        · rw [ha] at hcb
          have Ha := Lib.hid ha
          clear ha
          go_wp2_with fail
          refine hcb.mono ?_
          rintro e w2 ⟨rfl, hb2⟩
          have hw2 := hb2.size
          go_wp2_with (at_builtin; refine wpList_push rfl (.tmp 36) (.tmp 38) _ (by rfl) w1.heap.size 3 i0 _ 8 Tryz.underlying22 hi0 hz0 hz1 hz2 (by rfl) u12 (by rfl) ((hu.ext hb2).ext ((Ext.refl _).alloc _)) w2.heap.size (j : Int) (by rfl) (Blk.new w2 _ _) (by simp only [maxLen]; omega) (by omega) (by simp; omega) ?_; intro v6 w6 hv6 hg6 hat6)
          have hx6 := ext_grown ((hxr.trans hb2).alloc _) ((hu.ext hb2).ext ((Ext.refl _).alloc _)) (Nat.le_refl _) hg6
          go_roundg (gk - 1)
          case measure => have := Hjq.out; omega
          case rel => exact ⟨j + 1, by have := Hjq.out; omega, by go_num, by rw [Hy.out (by rw [Ha.out]; rfl)]; exact hv6, hx6⟩
        · rw [ha] at hcb
          have Ha := Lib.hid ha
          clear ha
          go_wp2_with fail
          refine hcb.mono ?_
          rintro e w2 ⟨rfl, hb2⟩
          go_wp2
          go_roundg (gk - 1)
          case measure => have := Hjq.out; omega
          case rel => exact ⟨j + 1, by have := Hjq.out; omega, by go_num, by rw [Hn.out (by rw [Ha.out]; rfl)]; exact hu.ext hb2, hxr.trans hb2⟩
      · have he : j = M.length := by omega
        subst he
        obtain ⟨A2, c2, rfl, _⟩ := hu.form
        go_wp2
        go_ret2
        exact ⟨A2, c2, by rw [HMe.out, Hee.out, H0.out]; rfl, by rw [HMe.out]; exact hu.mono hw1, hE1.trans hxr⟩
  · have d0 : (er != 0) = true := by simpa using h0
    have hN := hnil h0
    subst hN
    clear h0 hnil
    unfold Pln.val at hM ⊢
    go_enter Tryz.func15, Tryz.ntmps15
    go_wp2_with fail
    clear hW
    refine hM.mono ?_
    clear hM hc
    rintro e w1 ⟨A, c, rfl, hm, hx⟩
    go_wp2
    go_ret2
    exact ⟨none, 0, by rw [HMe.out, Hee.out]; rfl, by rw [HMe.out]; exact Owns.none_ _ _, hB.trans hx⟩

end Go.Proofs.YtifopbkhflpbfaaGreat

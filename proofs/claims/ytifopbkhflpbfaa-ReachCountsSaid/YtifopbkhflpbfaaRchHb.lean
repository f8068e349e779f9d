
/- Layer 26 (reach): the walk of ReachHubs. -/
import Derived.Test.YtifopbkhflpbfaaRchY
import Derived.Test.YtifopbkhflpbfaaRchK
import Derived.Test.YtifopbkhflpbfaaJrC1
namespace Go.Proofs.Ytifopbkhflpbfaa
set_option linter.unusedVariables false
set_option linter.unusedSimpArgs false
open Go.RowKit Go.Shelf
attribute [local go_sem] Oper.semAt_some

/-- Two numbers in order. -/
theorem less_any (x y : Int) (w : World) : Calls Try.prog 45 #[.int .i64 x, .int .i64 y] w fun e w' => e = .returned (.bool (decide (x < y))) ∧ Ext w w' := by
  go_enter Try.func45, Try.ntmps45
  go_wp2
  all_goals go_ret
  all_goals refine ⟨ret_bool ?_, Ext.refl _⟩
  all_goals simp_all
set_option maxHeartbeats 2000000 in
theorem isSorted_any (A : Option Addr) (c : Nat) (l : List Int) (w : World) (hA : Rd EInt w A l) (hmax : l.length ≤ 1000000) (hs : ∀ (i : Nat) (h : i + 1 < l.length), l[i] ≤ l[i + 1]) :
    Calls Try.prog 24 #[.slice A l.length c] w fun e w' => e = .returned (.bool true) ∧ Ext w w' := by
  have Hs := Lib.hid hs
  clear hs
  go_enter Try.func24, Try.ntmps24
  go_wp2
  go_loopg [3] l.length (fun q i wr => ∃ k : Int, i = .int .i64 k ∧ -1 ≤ k ∧ k < l.length ∧ k ≤ q ∧ Ext w wr)
  case atStart => exact ⟨(l.length : Int) - 1, by go_num, by omega, by omega, by omega, Ext.refl _⟩
  case round =>
    obtain ⟨k, rfl, k0, k1, kq, hx⟩ := hrel
    by_cases hk : 0 < k
    · obtain ⟨j, rfl⟩ : ∃ j : Nat, k = (j : Int) + 1 := ⟨(k - 1).toNat, by omega⟩
      obtain ⟨b, o, rfl, hb, c0⟩ := (hA.ext hx).int (k := j) (by omega)
      obtain ⟨b2, o2, e2, hb2, c2⟩ := (hA.ext hx).int (k := j + 1) (by omega)
      injection e2 with e2
      injection e2 with e2 e3
      subst e2 e3
      have hle := Hs.out j (by omega)
      generalize l[j] = x at *
      generalize l[j + 1] = y at *
      have d0 : decide (y < x) = false := decide_eq_false (by omega)
      have hL := fun w => less_any y x w
      rw [d0] at hL
      clear hle
      have hN := Near.refl wr
      go_wp2
      have hq := quiet_near hN
      refine wp_region_quiet_below (by kernel_rfl) (by kernel_rfl) ?_
      repeat (first | go_big_quiet_skip | (go_big_quiet_want; go_big_quiet_op; first | go_big_quiet_on | (apply Exists.intro; refine ⟨fun _ => ?_, ?_⟩; (focus (first | (go_at_call 45; exact Calls.regrown_of (hL _)))); go_big_quiet_on)))
      refine wpQuiet_nil ?_
      intro w1 hw1
      clear hq
      replace hw1 := quiet_ext hw1
      replace hN := hN.step hw1
      have hC := hN.2
      go_wp2
      go_roundg (gk - 1)
      case measure => omega
      case rel => exact ⟨(j : Int), by go_num, by omega, by omega, by omega, hx.trans hN.1⟩
    · go_wp2
      go_ret
      exact ⟨rfl, hx⟩

theorem Pln.fine26_ok {p : Pln} {n : Int} {nodes : List Int} (h : p.fine26 n nodes = true) : p.gr26 = false ∧ p.chk = 0 ∧ (1 ≤ n ∧ n ≤ 65536) ∧ ∀ x ∈ nodes, 0 ≤ x ∧ x < p.quo.length := by
  unfold Pln.fine26 at h
  simp only [Bool.and_eq_true, Bool.not_eq_true', decide_eq_true_eq] at h
  obtain ⟨h1, h2⟩ := h
  unfold Pln.rv at h2
  split at h2
  · rename_i h0
    split at h2
    · rename_i h3
      simp only [Pln.argR, decide_eq_true_eq] at h3
      exact ⟨h1, h0, ⟨h3.1, h3.2.1⟩, h3.2.2⟩
    · omega
  · omega
theorem Pln.matE_of {p : Pln} {r d n : Int} (h0 : p.chk = 0) (hn : 1 ≤ n ∧ n ≤ 65536) (hw : 0 ≤ r ∧ r ≤ d ∧ d ≤ 1099511627776) : p.matE r d n = 0 := by
  unfold Pln.matE Pln.rv
  have e1 : p.argR n [] = true := by simp only [Pln.argR, decide_eq_true_eq]; exact ⟨hn.1, hn.2, by simp⟩
  have e2 : winB r d = true := by simp only [winB, decide_eq_true_eq]; exact hw
  simp only [h0, e1, e2, if_true]
theorem Pln.matM_of {p : Pln} {r d n : Int} (h : p.matE r d n = 0) : p.matM r d n = p.mat r d n := by unfold Pln.matM; rw [if_pos h]
theorem Pln.mat_get (p : Pln) (r d n : Int) {j : Nat} (h : j < (p.mat r d n).length) : (p.mat r d n)[j] = p.row (j : Int) r d n := by
  have e : (p.mat r d n)[j]? = some (p.row (j : Int) r d n) := by
    unfold Pln.mat at h ⊢
    rw [List.length_map, List.length_range] at h
    rw [List.getElem?_map, List.getElem?_range h]; rfl
  rw [List.getElem?_eq_getElem h] at e
  injection e
theorem Pln.row_get (p : Pln) (src r d n : Int) {j : Nat} (h : j < (p.row src r d n).length) : (p.row src r d n)[j] = p.rch src (j : Int) r d n := by
  have e : (p.row src r d n)[j]? = some (p.rch src (j : Int) r d n) := by
    unfold Pln.row at h ⊢
    rw [List.length_map, List.length_range] at h
    rw [List.getElem?_map, List.getElem?_range h]; rfl
  rw [List.getElem?_eq_getElem h] at e
  injection e
theorem Pln.rch_self (p : Pln) (i r d n : Int) : p.rch i i r d n = true := by simp [Pln.rch]
theorem hubs_mem {M : List (List Bool)} {j : Nat} (h : j < M.length) : seenB (hubs M) (j : Int) = allT (M.getD j []) := by
  rw [Bool.eq_iff_iff, seenB_iff]
  unfold hubs hubsK
  simp only [List.mem_map, List.mem_filter, List.mem_range]
  constructor
  · rintro ⟨a, ⟨h1, h2⟩, e⟩
    have : a = j := Int.ofNat.inj e
    rw [← this]; exact h2
  · exact fun h2 => ⟨j, ⟨h, h2⟩, rfl⟩
theorem hubs_sorted (M : List (List Bool)) : ∀ (i : Nat) (h : i + 1 < (hubs M).length), (hubs M)[i] ≤ (hubs M)[i + 1] := by
  have hp : (hubs M).Pairwise (· ≤ ·) := by
    unfold hubs hubsK
    rw [List.pairwise_map]
    refine List.Pairwise.imp (R := fun a b : Nat => a < b) (fun h => Int.ofNat_le.2 (Nat.le_of_lt h)) ?_
    exact List.Pairwise.filter _ List.pairwise_lt_range
  intro i h
  exact List.pairwise_iff_getElem.1 hp i (i + 1) (by omega) h (by omega)

set_option maxRecDepth 100000 in
set_option maxHeartbeats 4000000 in
theorem lhubs_walk (Aq : Option Addr) (cq : Nat) (Ac : Option Addr) (cc : Nat) (p : Pln) (r d n : Int) (w : World) (h : PlnIn w Aq cq Ac cc p) :
    Calls Try.prog 6 #[p.val Aq cq Ac cc, .int .i64 r, .int .i64 d, .int .i64 n] w fun e w' => e = .returned (.bool true) ∧ Ext w w' := by
  obtain ⟨W, hW, hB, hk, hlt⟩ := box1 w #[.slice Aq p.quo.length cq, .slice Ac p.cons.length cc] 25
  have hc := hk.cell
  have hfi := lfine_any Aq cq Ac cc p n none 0 [] W (h.ext hB) Rd.nil (by simp)
  cases hf : p.fine26 n []
  case' false =>
    rw [hf] at hfi
    clear hf
    unfold Pln.val at hfi ⊢
    go_enter Try.func6, Try.ntmps6
    go_wp2_with fail
    clear hW
    refine hfi.mono ?_
    rintro e w1 ⟨rfl, hb1⟩
    go_wp2_with fail
    refine (awake_any _).mono ?_
    rintro e w2 ⟨rfl, hb2⟩
    go_wp2
    go_ret
    exact ⟨rfl, (hB.trans hb1).trans hb2⟩
  rw [hf] at hfi
  obtain ⟨f1, f2, f3, f4⟩ := Pln.fine26_ok hf
  have hrd := (h.rd26 f1).ext hB
  have hqm := hrd.qm
  clear hf f4 f1
  by_cases hw : 0 ≤ r ∧ r ≤ d ∧ d ≤ 1099511627776
  case' neg =>
    have hw2 : r < 0 ∨ (0 ≤ r ∧ d < r) ∨ (0 ≤ r ∧ r ≤ d ∧ 1099511627776 < d) := by omega
    clear f2 f3 hw
    unfold Pln.val at hfi ⊢
    rcases hw2 with hw | ⟨hw, hw2⟩ | ⟨hw, hw2, hw3⟩
    all_goals
      go_enter Try.func6, Try.ntmps6
      go_wp2_with fail
      clear hW
      refine hfi.mono ?_
      rintro e w1 ⟨rfl, hb1⟩
      go_wp2_with fail
      refine (awake_any _).mono ?_
      rintro e w2 ⟨rfl, hb2⟩
      go_wp2
      go_ret
      exact ⟨rfl, (hB.trans hb1).trans hb2⟩
  have hE := Pln.matE_of f2 f3 hw
  have hMe := Pln.matM_of hE
  obtain ⟨w0, w1, w2⟩ := hw
  have hml : (p.mat r d n).length = p.quo.length := p.mat_len r d n
  have hhl := hubsK_len (p.mat r d n) (p.mat r d n).length
  have h1 := fun w h => Matrix_any Aq cq Ac cc p r d n w h
  have h3 := fun w h => Hubs_any Aq cq Ac cc p r d n w h
  have HM := Lib.hid (fun (j : Nat) (h : j < (p.mat r d n).length) => p.mat_get r d n h)
  unfold MatR at h1
  unfold HubR at h3
  rw [hE, hMe] at h1 h3
  clear hE hMe f2 f3
  obtain ⟨M, hM⟩ : ∃ M, p.mat r d n = M := ⟨_, rfl⟩
  rw [hM] at hml hhl h1 h3 HM
  have hhu : (hubs M).length ≤ 1000000 := by unfold hubs; omega
  have Hml := Lib.hid hml
  simp only [hml] at h1
  clear hml
  have Hmem := Lib.hid (fun (j : Nat) (h : j < M.length) => hubs_mem h)
  have Hso := Lib.hid (hubs_sorted M)
  clear hM hhl
  unfold Pln.val at hfi h1 h3 ⊢
  go_enter Try.func6, Try.ntmps6
  go_wp2_with fail
  clear hW
  refine hfi.mono ?_
  clear hfi
  rintro e w1 ⟨rfl, hb1⟩
  have hk1 := hk.ext hb1
  replace hc := hk1.cell
  go_wp2_with fail
  refine (h1 _ (hrd.ext hb1)).mono ?_
  clear h1
  rintro e w2 ⟨A2, c2, rfl, hR2, hb2⟩
  have hk2 := hk1.ext hb2
  replace hc := hk2.cell
  go_wp2_with fail
  refine (h3 _ ((hrd.ext hb1).ext hb2)).mono ?_
  clear h3
  rintro e w3 ⟨A3, c3, rfl, hR3, hb3⟩
  have hk3 := hk2.ext hb3
  replace hc := hk3.cell
  have hE3 := (hB.trans hb1).trans (hb2.trans hb3)
  have hR23 := hR2.ext hb3
  have hl3 := hk3.lt
  clear hR2
  go_wp2_with fail
  go_loopg [65] p.quo.length (fun q k wr => ∃ (j : Nat), j + q = p.quo.length ∧ k = .int .i64 j ∧ Ext w3 wr)
  case atStart => exact ⟨0, by omega, rfl, Ext.refl _⟩
  case round =>
    obtain ⟨j, hjq, rfl, hx⟩ := hrel
    have Hjq := Lib.hid hjq
    have hjN : j ≤ p.quo.length := by omega
    clear hjq
    by_cases hlt2 : j < p.quo.length
    · obtain ⟨hs, o1, o2, o3⟩ := hR23.ext hx
      have hjM : j < M.length := by rw [Hml.out]; exact hlt2
      have hjs : j < hs.length := by rw [o2]; exact hjM
      obtain ⟨b, o, rfl, hbl, hck⟩ := (o1.rd).hdr hjs
      have hrow := o3 j hjs hjM
      have e1 := HM.out j hjM
      have e3 := Hmem.out j hjM
      have e4 : M.getD j [] = M[j] := by simp [hjM]
      rw [e4] at e3
      clear o1 o2 o3 e4
      generalize hs[j] = hd at *
      obtain ⟨Ar, nr, cr⟩ := hd
      dsimp only at hrow hck
      have hlr := hrow.len
      have e5 : (M[j]).length = p.quo.length := by rw [e1, Pln.row_len]
      have e6 : gb M[j] (j : Int) = true := by
        rw [e1, Pln.row_gb _ _ _ _ _ (by omega) (Int.ofNat_lt.2 hlt2)]
        exact Pln.rch_self _ _ _ _ _
      clear e1
      generalize M[j] = row at *
      clear hjM
      have hnr : nr = p.quo.length := hlr.trans e5
      subst hnr
      clear hlr
      have hRr := hrow.rd
      have hjr : j < row.length := by omega
      obtain ⟨b2, o2, rfl, hbl2, hcj⟩ := hRr.bool hjr
      rw [gb_get hjr] at e6
      rw [e6] at hcj
      have hmr : row.length ≤ 1000000 := by omega
      have hc1 := fun w h => containsInt_any A3 c3 (hubs M) (j : Int) w h (by omega)
      have hc2 := fun w h => containsBool_any (some ⟨b2, o2, none⟩) cr row false w h (by omega)
      simp only [e5] at hc2
      unfold allT at e3
      have E5 := Lib.hid e5
      clear e5 e6 hjr hmr
      rw [e3] at hc1
      clear e3
      generalize row.any (fun y => y == false) = bb at *
      go_wp2_with fail
      refine (hc1 _ (hR3.rd.ext hx)).mono ?_
      clear hc1
      rintro e w5 ⟨rfl, hb5⟩
      go_wp2_with fail
      refine (hc2 _ (hRr.ext hb5)).mono ?_
      clear hc2
      rintro e w6 ⟨rfl, hb6⟩
      have d9 : ((!bb) == bb) = false := by cases bb <;> rfl
      go_wp2
      go_roundg (gk - 1)
      case measure => have := Hjq.out; omega
      case rel => exact ⟨j + 1, by have := Hjq.out; omega, by go_num, (hx.trans hb5).trans hb6⟩
    · have he : j = p.quo.length := by omega
      subst he
      go_wp2_with fail
      refine (isSorted_any A3 c3 (hubs M) _ (hR3.rd.ext hx) hhu Hso.out).mono ?_
      rintro e w5 ⟨rfl, hb5⟩
      go_wp2_with fail
      refine (awake_any _).mono ?_
      rintro e w6 ⟨rfl, hb6⟩
      go_wp2
      go_ret
      exact ⟨rfl, (hE3.trans hx).trans (hb5.trans hb6)⟩

end Go.Proofs.Ytifopbkhflpbfaa

/- Layer 35, the reference (multicast): Path. -/
import Derived.Test.YtbgdglcnminbaaaGreatMzA
import Derived.BigQuiet
namespace Go.Proofs.YtbgdglcnminbaaaGreat
set_option linter.unusedVariables false
set_option linter.unusedSimpArgs false
open Go.RowKit Go.Shelf
attribute [local go_sem] Oper.semAt_some

theorem rev_dropZ {l : List Hp} {k : Nat} (h : k < l.length) : (l.drop k).reverse = (l.drop (k + 1)).reverse ++ [l[k]] := by
  rw [List.drop_eq_getElem_cons h, List.reverse_cons]

set_option maxRecDepth 100000 in
set_option maxHeartbeats 8000000 in
theorem rPath35_any (A : Option Addr) (c : Nat) (l : List Br) (i : Int) (w : World) (h : Rd EBr w A l) (hmax : l.length ≤ 1000) :
    Calls Tryz.prog 12 #[.slice A l.length c, .int .i64 i] w (PathP (pathO l i) w) := by
  obtain ⟨i0, hi0, hz0, hz1, hz2⟩ := info_parts info_hopm
  by_cases hi : 0 ≤ i ∧ i < l.length
  case' neg =>
    have HV := Lib.hid (show pathO l i = none from if_neg hi)
    by_cases h0 : i < 0
    case' pos =>
      have d0 : decide (i < 0) = true := decide_eq_true h0
      clear hi h0
      go_enter Tryz.func12, Tryz.ntmps12
      go_wp2
      rw [HV.out]
      exact bodyPost_ret (results_tmp2' rfl _ _ _) rfl ⟨Ext.refl _, rfl⟩
    have d0 : decide (i < 0) = false := decide_eq_false h0
    have d1 : decide ((l.length : Int) ≤ i) = true := decide_eq_true (by omega)
    clear hi h0
    go_enter Tryz.func12, Tryz.ntmps12
    go_wp2
    rw [HV.out]
    exact bodyPost_ret (results_tmp2' rfl _ _ _) rfl ⟨Ext.refl _, rfl⟩
  obtain ⟨k0, rfl⟩ : ∃ k : Nat, i = (k : Int) := ⟨i.toNat, by omega⟩
  have hk0 : k0 < l.length := by omega
  have HP := Lib.hid (show pathO l (k0 : Int) = if -2 ∈ upN l (k0 + 1) then none else some ((upN l (k0 + 1)).map (hopU l)).reverse by
    unfold pathO
    rw [if_pos hi, show ((k0 : Int) + 1).toNat = k0 + 1 by omega])
  clear hi
  have d0 : decide ((k0 : Int) < 0) = false := decide_eq_false (by omega)
  have d1 : decide ((l.length : Int) ≤ (k0 : Int)) = false := decide_eq_false (by omega)
  have d2 : decide (l.length ≤ k0) = false := decide_eq_false (by omega)
  go_enter Tryz.func12, Tryz.ntmps12
  go_wp2_with fail
  go_loopg [1, 6] (k0 + 1) (fun n x u wr => ∃ done : List Int, x = .int .i64 ((n : Int) - 1) ∧ Hid (upN l (k0 + 1) = done ++ upN l n ∧ -2 ∉ done) ∧ n + done.length ≤ l.length ∧ n ≤ k0 + 1 ∧ Owns EHp wr w.heap.size 51 u (done.map (hopU l)) ∧ Ext w wr)
  case atStart => exact ⟨[], by simp, Lib.hid ⟨rfl, by simp⟩, by simp; omega, Nat.le_refl _, Owns.none_ _ _, Ext.refl _⟩
  case round =>
    obtain ⟨done, rfl, hu, hlen, hgk, ho, hx⟩ := hrel
    cases gk with
    | succ j =>
      have hjl : j < l.length := by omega
      rw [show ((j + 1 : Nat) : Int) - 1 = (j : Int) by omega]
      obtain ⟨b, o, rfl, hb0, e0, e1, e2, e3, e4⟩ := h.br hjl
      have c0 := hx.cell_some e0
      have c1 := hx.cell_some e1
      have c2 := hx.cell_some e2
      have c3 := hx.cell_some e3
      have c4 := hx.cell_some e4
      have hb : b < wr.heap.size := Nat.lt_of_lt_of_le hb0 hx.size
      have hup := Lib.hid (upN_s l j)
      have hhop : hopU l (j : Int) = ⟨l[j].con, l[j].beg, l[j].en, l[j].arr⟩ := by unfold hopU; rw [Int.toNat_natCast, gbr_get hjl]; rfl
      rw [gbr_get hjl] at hup
      have Hhop := Lib.hid hhop
      clear hhop
      generalize l[j] = y at *
      have dj : ((j : Int) != -1) = true := by rw [bne_iff_ne]; omega
      by_cases a1 : y.par < -1
      · have da : decide (y.par < -1) = true := decide_eq_true a1
        have HV := Lib.hid (HP.out.trans (if_pos (by rw [hu.out.1, hup.out, if_pos (.inl a1)]; simp)))
        clear a1
        go_wp2
        rw [HV.out]
        exact bodyPost_ret (results_tmp2' rfl _ _ _) rfl ⟨hx, rfl⟩
      have da : decide (y.par < -1) = false := decide_eq_false a1
      by_cases a2 : (j : Int) ≤ y.par
      · have db : decide ((j : Int) ≤ y.par) = true := decide_eq_true a2
        have HV := Lib.hid (HP.out.trans (if_pos (by rw [hu.out.1, hup.out, if_pos (.inr a2)]; simp)))
        clear a1 a2
        go_wp2
        rw [HV.out]
        exact bodyPost_ret (results_tmp2' rfl _ _ _) rfl ⟨hx, rfl⟩
      have db : decide ((j : Int) ≤ y.par) = false := decide_eq_false a2
      have hup2 := Lib.hid (hup.out.trans (by rw [if_neg (by omega)]))
      obtain ⟨Au, cu, rfl, hRu⟩ := ho.form
      have hdl : (done.map (hopU l)).length = done.length := List.length_map ..
      have hp1 : (y.par + 1).toNat ≤ j := by omega
      have hp2 : (((y.par + 1).toNat : Nat) : Int) - 1 = y.par := by omega
      have Hp2 := Lib.hid hp2
      clear a1 a2 hp2
      go_wp2_with (at_builtin; refine wpList_push rfl (.tmp 34) (.tmp 40) _ (by rfl) w.heap.size 51 i0 _ 32 Tryz.underlying41 hi0 hz0 hz1 hz2 (by rfl) (.slice Au (done.map (hopU l)).length cu) (by rfl) (ho.ext ((Ext.refl _).alloc _)) wr.heap.size (⟨y.con, y.beg, y.en, y.arr⟩ : Hp) (by rfl) (Blk.new wr _ _) (by simp only [maxLen]; omega) (by omega) (by simp; have := hx.size; omega) ?_; intro v6 w6 hv6 hg6 hat6; have hx6 := ext_grown (hx.alloc _) (ho.ext ((Ext.refl _).alloc _)) (Nat.le_refl _) hg6; have c46 := hx6.cell_some e4; have hb6 : b < w6.heap.size := Nat.lt_of_lt_of_le hb0 hx6.size)
      go_roundg (y.par + 1).toNat
      case measure => omega
      case rel => exact ⟨done ++ [(j : Int)], by rw [Hp2.out], Lib.hid ⟨by rw [hu.out.1, hup2.out, List.append_assoc]; rfl, by
          intro hh
          rcases List.mem_append.1 hh with hh | hh
          · exact hu.out.2 hh
          · have := List.mem_singleton.1 hh; omega⟩, by rw [List.length_append, List.length_singleton]; omega, by omega, by rw [List.map_append, List.map_singleton, Hhop.out]; exact hv6, hx6⟩
    | zero =>
      have hL := hu.out.1
      rw [upN_0, List.append_nil] at hL
      have HV := Lib.hid (HP.out.trans (if_neg (by rw [hL]; exact hu.out.2)))
      have hdl : (done.map (hopU l)).length = done.length := List.length_map ..
      rw [hL] at HV
      clear hu hL
      generalize done.map (hopU l) = L at *
      rw [← hdl] at hlen
      clear hdl
      have e0 : ((0 : Nat) : Int) - 1 = -1 := by omega
      rw [e0]
      have hwl : IntKind.i64.wrap ((L.length : Int) - 1) = (L.length : Int) - 1 := IntWalk.i64_in _ (by omega)
      obtain ⟨AL, cL, rfl, hRL⟩ := ho.form
      obtain ⟨w1, rfl⟩ : ∃ w1, w1 = wr := ⟨_, rfl⟩
      go_wp2_with fail
      go_loopg [7, 8] L.length (fun n u x wr => x = .int .i64 ((n : Int) - 1) ∧ n ≤ L.length ∧ Owns EHp wr w1.heap.size 51 u (L.drop n).reverse ∧ Ext w1 wr)
      case atStart => exact ⟨rfl, Nat.le_refl _, by rw [List.drop_length]; exact Owns.none_ _ _, Ext.refl _⟩
      case round =>
        obtain ⟨rfl, hn, hou, hy⟩ := hrel
        cases gk with
        | succ m =>
          rw [show ((m + 1 : Nat) : Int) - 1 = (m : Int) by omega]
          have hml : m < L.length := by omega
          obtain ⟨b1, o1, rfl, hb1, x0, x1, x2, x3⟩ := (hRL.ext hy).hp hml
          have hst := Lib.hid (rev_dropZ hml)
          have hml2 : (m : Int) < (L.length : Int) := by omega
          obtain ⟨Au, cu, rfl, hRu⟩ := hou.form
          have hdr : (L.drop (m + 1)).reverse.length = L.length - (m + 1) := by simp
          generalize (L.drop (m + 1)).reverse = R at *
          generalize L[m] = y at *
          have hRl : R.length ≤ 1000 := by omega
          have hwm : IntKind.i64.wrap ((m : Int) - 1) = (m : Int) - 1 := IntWalk.i64_in _ (by omega)
          have dm : decide (0 ≤ (m : Int)) = true := decide_eq_true (by omega)
          clear hdr
          go_wp2_with (at_builtin; refine wpList_push rfl (.tmp 54) (.tmp 59) _ (by rfl) w1.heap.size 51 i0 _ 32 Tryz.underlying41 hi0 hz0 hz1 hz2 (by rfl) (.slice Au R.length cu) (by rfl) (hou.ext ((Ext.refl _).alloc _)) wr.heap.size (⟨y.con, y.beg, y.en, y.arr⟩ : Hp) (by rfl) (Blk.new wr _ _) (by simp only [maxLen]; omega) (by omega) (by simp; have := hy.size; omega) ?_; intro v6 w6 hv6 hg6 hat6; have hy6 := ext_grown (hy.alloc _) (hou.ext ((Ext.refl _).alloc _)) (Nat.le_refl _) hg6)
          go_roundg m
          case measure => omega
          case rel => exact ⟨rfl, by omega, by rw [hst.out]; exact hv6, hy6⟩
        | zero =>
          rw [e0]
          rw [List.drop_zero] at hou
          obtain ⟨Au, cu, rfl, hRu⟩ := hou.form
          go_wp2
          rw [HV.out]
          exact bodyPost_ret (results_tmp2' rfl _ _ _) rfl ⟨hx.trans hy, _, rfl, hou.mono hx.size⟩

end Go.Proofs.YtbgdglcnminbaaaGreat

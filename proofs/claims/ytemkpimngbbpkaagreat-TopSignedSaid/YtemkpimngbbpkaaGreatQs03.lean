/- Layer 22 (plan): the walks of Check. · Layer 22 (plan): the walk of the reference's Check, and of Great. · Layer 26 (reach): the walks of valid (with ContainsFunc at numbers), of the law's fine, and of the reference's check and Great. -/
import Derived.Test.YtemkpimngbbpkaaGreatQs01
import Derived.Test.YtemkpimngbbpkaaGreatQs02
namespace Go.Proofs.YtemkpimngbbpkaaGreat
set_option linter.unusedVariables false
set_option linter.unusedSimpArgs false
section
open Go.RowKit Go.Shelf
theorem info_con : (Tryz.prog.info? 61).map (fun i => (i.zero, i.size, i.bytes)) = some (some (.agg #[.int .i64 0, .int .i64 0, .int .i64 0, .int .i64 0, .int .i64 0, .int .i64 0, .int .i64 0]), 7, 56) := by kernel_rfl
structure PredC (w0 : World) (f : FuncId) (cs : Array Value) (p : Con -> Bool) : Prop where
 enters : ∀ args w, (callFunc f args).run Tryz.prog w = .ok (.enter f args) w
 says : ∀ (x : Con) (w : World), Ext w0 w -> Calls Tryz.prog f (#[.agg #[.int .i64 x.src, .int .i64 x.dst, .int .i64 x.st, .int .i64 x.en, .int .i64 x.rate, .int .i64 x.rng, .int .i64 x.loss]] ++ cs) w fun e w' => e = .returned (.bool (p x)) /\ Ext w w'
set_option maxHeartbeats 2000000 in
theorem indexCon_any (A : Option Addr) (c : Nat) (l : List Con) (f : FuncId) (cs : Array Value) (p : Con -> Bool) (w : World) (hA : Rd ECon w A l) (hmax : l.length <= 1000000) (hp : PredC w f cs p) :
 Calls Tryz.prog 152 #[.slice A l.length c, .func (.func f) #[] cs] w fun e w' => e = .returned (.int .i64 (findI p l)) /\ Ext w w' := by
 have hen := hp.enters
 go_enter Tryz.func152, Tryz.ntmps152
 go_wp2
 go_loopw [8] (fun i wr => ∃ k : Nat, k <= l.length /\ i = .int .i64 k /\ Hid ((l.take k).any p = false) /\ Ext w wr) (fun i _ => l.length - (intOf i).toNat)
 case atStart => exact ⟨0, Nat.zero_le _, rfl, Lib.hid rfl, Ext.refl _⟩
 case round =>
  obtain ⟨k, hk, rfl, hu, hN⟩ := hrel
  by_cases hlt : k < l.length
  ·obtain ⟨b, o, rfl, hb, c0, c1, c2, c3, c4, c5, c6⟩ := (hA.ext hN).con hlt
   generalize hxe : l[k] = x at *
   have Hx := Lib.hid hxe
   clear hxe
   cases hpx : p x
   all_goals
    go_wp2_with fail
    refine (hp.says x _ hN).mono ?_
    rintro e w1 ⟨rfl, hb1⟩
    rw [hpx]
   ·go_wp2
    go_roundw
    case rel => exact ⟨k + 1, by omega, by go_num, Lib.hid (any_step hlt Hx.out hu.out hpx), hN.trans hb1⟩
    case measure => simp [intOf]; omega
   ·go_wp2
    go_ret
    refine ⟨ret_i64 ?_, hN.trans hb1⟩
    exact (findI_at hlt hu.out (by rw [Hx.out]; exact hpx)).symm
  ·go_wp2
   go_ret
   refine ⟨ret_i64 ?_, hN⟩
   have e : l.take k = l := List.take_of_length_le (by omega)
   have h := hu.out
   rw [e] at h
   exact (findI_nope h).symm
set_option maxHeartbeats 1000000 in
theorem containsCon_any (A : Option Addr) (c : Nat) (l : List Con) (f : FuncId) (cs : Array Value) (p : Con -> Bool) (w : World) (hA : Rd ECon w A l) (hmax : l.length <= 1000000) (hp : PredC w f cs p) :
 Calls Tryz.prog 70 #[.slice A l.length c, .func (.func f) #[] cs] w fun e w' => e = .returned (.bool (l.any p)) /\ Ext w w' := by
 have hfn := Lib.hid (findI_neg (p := p) (l := l))
 go_enter Tryz.func70, Tryz.ntmps70
 go_wp2_with fail
 refine (indexCon_any A c l f cs p w hA hmax hp).mono ?_
 rintro e w1 ⟨rfl, hb⟩
 go_wp2
 go_ret
 exact ⟨ret_bool hfn.out, hb⟩
set_option maxHeartbeats 1000000 in
theorem pred_over {w0 : World} {g : Nat} {y : Con} (h : Blk w0 g 61 y.cells) : PredC w0 71 #[.pointer (some ⟨g, 0, none⟩)] (fun d => y.overlapB d) where
 enters := enters_of Tryz.func71 (by kernel_rfl) rfl
 says := fun x w hw => by
  have hk := h.ext hw
  simp only [Con.cells] at hk
  have hc := hk.cell
  have hl := hk.lt
  show Calls Tryz.prog 71 #[_, _] w _
  go_enter Tryz.func71, Tryz.ntmps71
  go_wp2_with fail
  obtain ⟨W, hW, hB, hkb, hltW⟩ := box1 w x.cells 61
  simp only [Con.cells] at hW hkb
  rw [hW]
  clear hW
  refine (Overlap_any y x W).mono ?_
  rintro e w1 ⟨rfl, hb⟩
  go_wp2
  go_ret
  exact ⟨rfl, hB.trans hb⟩
theorem any_take_full {α : Type} {p : α -> Bool} {l : List α} {k : Nat} (h : ¬ k < l.length) (h0 : (l.take k).any p = false) : l.any p = false := by
 have e : l.take k = l := List.take_of_length_le (by omega)
 rw [e] at h0; exact h0
theorem drop_full {α : Type} {l : List α} {k : Nat} (h : ¬ k < l.length) : l.drop k = [] := List.drop_eq_nil_of_le (by omega)
set_option maxRecDepth 100000 in
set_option maxHeartbeats 4000000 in
theorem pcheck_any (Aq : Option Addr) (cq : Nat) (Ac : Option Addr) (cc : Nat) (p : Pln) (w : World) (h : PlnRd w Aq cq Ac cc p) :
 Calls Tryz.prog 19 #[p.val Aq cq Ac cc] w fun e w' => e = .returned (.int .i64 p.chk) /\ Ext w w' := by
 obtain ⟨i0, hi0, hz0, hz1, hz2⟩ := info_parts info_con
 obtain ⟨hq, hcn, hqm, hcm, hqc, hcc⟩ := h
 obtain ⟨W, hW, hB, hk, hlt⟩ := box1 w #[.slice Aq p.quo.length cq, .slice Ac p.cons.length cc] 68
 cases hlim : p.lim
 ·have hlim2 := hlim
  simp only [Pln.lim, Bool.or_eq_false_iff, decide_eq_false_iff_not] at hlim2
  obtain ⟨l1, l2, l3⟩ := hlim2
  have l1' : 1 <= p.quo.length := by omega
  have l2' : p.quo.length <= 16 := by omega
  have l3' : p.cons.length <= 64 := by omega
  have HL := Lib.hid (show p.chk = if p.quo.any quoB then 2 else Pln.chkC p.quo.length [] p.cons by unfold Pln.chk; rw [hlim]; rfl)
  clear hlim l1 l2 l3
  have hc := hk.cell
  have hl0 := hk.lt
  unfold Pln.val
  go_enter Tryz.func19, Tryz.ntmps19
  go_wp2
  clear hW
  go_loop [27] (fun i => ∃ k : Nat, k <= p.quo.length /\ i = .int .i64 k /\ Hid ((p.quo.take k).any quoB = false)) (fun i => p.quo.length - (intOf i).toNat)
  case atStart => exact ⟨0, Nat.zero_le _, rfl, Lib.hid rfl⟩
  case round =>
   obtain ⟨k, hkl, rfl, hno⟩ := hrel
   by_cases hlt : k < p.quo.length
   ·obtain ⟨b, o, rfl, hb, c0⟩ := (hq.ext hB).int hlt
    generalize hxe : p.quo[k] = x at *
    have Hx := Lib.hid hxe
    clear hxe
    cases hbx : quoB x
    ·have hbx2 := hbx
     simp only [quoB, Bool.or_eq_false_iff, decide_eq_false_iff_not] at hbx2
     obtain ⟨x0, x1⟩ := hbx2
     have x0' : 0 <= x := by omega
     have x1' : x <= 1073741824 := by omega
     have Hbx := Lib.hid hbx
     clear hbx x0 x1
     go_wp2
     go_round
     case rel => exact ⟨k + 1, by omega, by go_num, Lib.hid (any_step hlt Hx.out hno.out Hbx.out)⟩
     case measure => simp [intOf]; omega
    ·have Hbx := Lib.hid hbx
     have e1 := Lib.hid (show p.chk = 2 by rw [HL.out, if_pos (any_hit hlt Hx.out Hbx.out)])
     simp only [quoB, Bool.or_eq_true, decide_eq_true_eq] at hbx
     rcases hbx with hx0 | hx1
     ·go_wp2
      go_ret
      exact ⟨ret_i64 e1.out.symm, hB⟩
     ·go_wp2
      go_ret
      exact ⟨ret_i64 e1.out.symm, hB⟩
   ·have HL2 := Lib.hid (show p.chk = Pln.chkC p.quo.length [] p.cons by rw [HL.out, any_take_full hlt hno.out]; rfl)
    clear HL
    go_wp2
    go_loopw [41] (fun i wr => ∃ k : Nat, k <= p.cons.length /\ i = .int .i64 k /\ Hid (p.chk = Pln.chkC p.quo.length (p.cons.take k) (p.cons.drop k)) /\ Ext W wr) (fun i _ => p.cons.length - (intOf i).toNat)
    case atStart => exact ⟨0, Nat.zero_le _, rfl, Lib.hid HL2.out, Ext.refl _⟩
    case round =>
     obtain ⟨k, hkl, rfl, hx, hN⟩ := hrel
     by_cases hlt : k < p.cons.length
     ·obtain ⟨b, o, rfl, hb, c0, c1, c2, c3, c4, c5, c6⟩ := ((hcn.ext hB).ext hN).con hlt
      have hk2 := hk.ext hN
      have hc2 := hk2.cell
      have hl2 := hk2.lt
      have hst := Pln.chkC_step (n := p.quo.length) hlt rfl
      generalize hye : p.cons[k] = y at *
      have Hy := Lib.hid hye
      have Hst := Lib.hid hst
      clear hye hst
      go_wp2_with fail
      obtain ⟨W3, hW3, hB3, hk3, hlt3⟩ := box1 wr y.cells 61
      have hK3 := hk3
      simp only [Con.cells] at hW3 hk3
      rw [hW3]
      clear hW3
      refine (check_any y W3).mono ?_
      rintro e w4 ⟨rfl, hb4⟩
      have hE4 := (hN.trans hB3).trans hb4
      have hk4 := hk3.ext hb4
      have hc4 := hk4.cell
      have hl4 := hk4.lt
      have hk5 := hk.ext hE4
      have hc5 := hk5.cell
      have hl5 := hk5.lt
      by_cases h0 : y.check = 0
      ·rw [h0]
       have Ho := (Con.check_iff y).1 h0
       have H0 := Lib.hid h0
       clear h0
       by_cases hn1 : (p.quo.length : Int) <= y.src
       ·go_wp2
        go_ret
        exact ⟨ret_i64 (by rw [hx.out, Hst.out, if_pos H0.out, if_pos (.inl hn1)]), hB.trans hE4⟩
       ·by_cases hn2 : (p.quo.length : Int) <= y.dst
        ·go_wp2
         go_ret
         exact ⟨ret_i64 (by rw [hx.out, Hst.out, if_pos H0.out, if_pos (.inr hn2)]), hB.trans hE4⟩
        ·have hs1 : y.src < p.quo.length := by omega
         have hs2 : y.dst < p.quo.length := by omega
         have hnn : ¬ ((p.quo.length : Int) <= y.src ∨ (p.quo.length : Int) <= y.dst) := by omega
         have Hnn := Lib.hid hnn
         clear hnn hn1 hn2
         have hct1 := fun w => run_take (A := some ⟨b, o, none⟩) (n := p.cons.length) (c := cc) Tryz.underlying46 hi0 (show k <= cc by omega) w
         have hct2 := fun w => run_takeAt (A := some ⟨b, o, none⟩) (n := p.cons.length) (c := cc) Tryz.underlying46 hi0 (show k <= cc by omega) w
         go_wp2_with fail
         have ht := containsCon_any (some ⟨b, o, none⟩) cc (p.cons.take k) _ _ _ w4 (((hcn.ext hB).ext hE4).take k) (Nat.le_trans (List.length_take_le _ _) (by omega)) (pred_over (hK3.ext hb4))
         rw [show (p.cons.take k).length = k by rw [List.length_take]; omega] at ht
         refine ht.mono ?_
         clear ht
         rintro e w5 ⟨rfl, hb5⟩
         cases hov : (p.cons.take k).any (fun d => y.overlapB d)
         ·have Hov := Lib.hid hov
          clear hov
          go_wp2
          go_roundw
          case rel => exact ⟨k + 1, by omega, by go_num, Lib.hid (by rw [hx.out, Hst.out, if_pos H0.out, if_neg Hnn.out, Hov.out]; rfl), hE4.trans hb5⟩
          case measure => simp [intOf]; omega
         ·have Hov := Lib.hid hov
          clear hov
          go_wp2
          go_ret
          exact ⟨ret_i64 (by rw [hx.out, Hst.out, if_pos H0.out, if_neg Hnn.out, Hov.out]; rfl), (hB.trans hE4).trans hb5⟩
      ·have hd0 : (y.check != 0) = true := by simpa using h0
       have H0 := Lib.hid h0
       clear h0
       go_wp2
       go_ret
       exact ⟨ret_i64 (by rw [hx.out, Hst.out, if_neg H0.out]), hB.trans hE4⟩
     ·go_wp2
      go_ret
      exact ⟨ret_i64 (by rw [hx.out, drop_full hlt]; rfl), hB.trans hN⟩
 ·have HL := Lib.hid (show p.chk = 4 by unfold Pln.chk; rw [hlim]; rfl)
  simp only [Pln.lim, Bool.or_eq_true, decide_eq_true_eq] at hlim
  have hc := hk.cell
  have hl0 := hk.lt
  unfold Pln.val
  rcases hlim with h1 | h1 | h1
  all_goals
   go_enter Tryz.func19, Tryz.ntmps19
   go_wp2
   all_goals go_ret
   all_goals exact ⟨ret_i64 HL.out.symm, hB⟩
end
section
open Go.RowKit Go.Shelf
end
section
open Go.RowKit Go.Shelf
end
end Go.Proofs.YtemkpimngbbpkaaGreat

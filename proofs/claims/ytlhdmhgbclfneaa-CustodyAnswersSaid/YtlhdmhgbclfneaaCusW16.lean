/- Layer 44 (custody): the reference's Due; Index and Contains; great. -/
import Derived.Test.YtlhdmhgbclfneaaCusW15
namespace Go.Proofs.Ytlhdmhgbclfneaa
set_option linter.unusedVariables false
open Go.RowKit

def lateO (t : Int) (o : Off) : Bool := decide (o.due ≤ t)
theorem dueL_eq (l : List Off) (t : Int) : dueL l t = if chk l = 0 then l.filter (lateO t) else [] := rfl
theorem dueM_eq (l : List Off) (t : Int) : dueM l t = if chk l = 0 then l.filter (fun o => !lateO t o) else [] := rfl

set_option maxRecDepth 100000 in
set_option maxHeartbeats 4000000 in
theorem rdue_any (A : Option Addr) (c : Nat) (l : List Off) (t : Int) (w : World) (hA : Rd EOff w A l) (hmax : l.length ≤ 1000000) :
    Calls Try.prog 20 #[.slice A l.length c, .int .i64 t] w (RetLL w (dueL l t) (dueM l t) (sigE l)) := by
  obtain ⟨i0, hi0, hz0, hz1, hz2⟩ := info_parts info_off
  by_cases h0 : chk l = 0
  · have HS : Hid (dueL l t = l.filter (lateO t)) := Lib.hid (by rw [dueL_eq, if_pos h0])
    have HN : Hid (dueM l t = l.filter (fun o => !lateO t o)) := Lib.hid (by rw [dueM_eq, if_pos h0])
    have HE : Hid (sigE l = 0) := Lib.hid (by unfold sigE; rw [if_pos h0])
    go_enter Try.func20, Try.ntmps20
    go_wp2_with fail
    refine (rcheck_any A c l w hA hmax).mono ?_
    rintro e z1 ⟨rfl, hb1⟩
    rw [h0]
    have H0 := Lib.hid h0
    clear h0
    go_wp2
    go_loopw [7, 8, 9] (fun u v i wr => ∃ k : Nat, k ≤ l.length ∧ i = .int .i64 k ∧ Owns EOff wr z1.heap.size 26 u ((l.take k).filter (lateO t)) ∧ Owns EOff wr z1.heap.size 26 v ((l.take k).filter (fun o => !lateO t o)) ∧ (∀ g, u.ownBlock = some g → v.ownBlock ≠ some g) ∧ Ext z1 wr) (fun _ _ i _ => l.length - (intOf i).toNat)
    case atStart =>
      refine ⟨0, Nat.zero_le _, rfl, (Owns.made z1 _ _ (Nat.le_refl _)).ext ((Ext.refl _).alloc _), ?_, ?_, ((Ext.refl _).alloc _).alloc _⟩
      · have := Owns.made (E := EOff) (z1.alloc (.cells #[] 26)) z1.heap.size 26 (by simp)
        simpa using this
      · intro g hg
        simp [Value.ownBlock] at hg ⊢
        omega
    case round =>
      obtain ⟨k, hkl, rfl, hu, hv, hne, hN⟩ := hrel
      by_cases hlt : k < l.length
      · obtain ⟨b, o, rfl, hb, c0, c1, c2, c3, c4, c5, c6, c7⟩ := ((hA.ext hb1).ext hN).off hlt
        generalize hxe : l[k] = y at *
        have Hx := Lib.hid hxe
        clear hxe
        have hs1 : z1.heap.size ≤ wr.heap.size := hN.size
        have fl : ((l.take k).filter (lateO t)).length ≤ 1000000 := Nat.le_trans (List.length_filter_le _ _) (Nat.le_trans (List.length_take_le _ _) (by omega))
        have fl2 : ((l.take k).filter (fun o => !lateO t o)).length ≤ 1000000 := Nat.le_trans (List.length_filter_le _ _) (Nat.le_trans (List.length_take_le _ _) (by omega))
        by_cases hd : y.due ≤ t
        · have hl : lateO t y = true := by simp [lateO, hd]
          have Hy := Lib.hid (filter_yes (p := lateO t) hlt Hx.out hl)
          have Hn := Lib.hid (filter_no (p := fun o => !lateO t o) hlt Hx.out (by simp [hl]))
          clear hl
          go_wp2_with (at_builtin; refine wpList_push rfl (.tmp 30) (.tmp 35) _ rfl z1.heap.size 26 i0 _ 64 Try.underlying22 hi0 hz0 hz1 hz2 rfl u7 rfl (hu.ext ((Ext.refl _).alloc _)) wr.heap.size y rfl (Blk.new wr _ _) (by simp only [maxLen]; omega) (by omega) (by simp; omega) ?_; intro v' w2 hv2 hg2 hat2)
          go_roundw
          case rel =>
            refine ⟨k + 1, by omega, by go_num, by rw [Hy.out]; exact hv2, ?_, ?_, ext_grown (hN.alloc _) (hu.ext ((Ext.refl wr).alloc _)) (Nat.le_refl _) hg2⟩
            · rw [Hn.out]
              exact (hv.ext ((Ext.refl wr).alloc _)).kept hg2 (fun g hg e => hne g e.symm hg)
            · intro g hg
              rcases hat2 with e | e
              · rw [e] at hg; exact hne g hg
              · rw [e] at hg
                injection hg with hg
                intro e2
                have := (hv.block e2).2
                simp at hg
                omega
          case measure => simp [intOf]; omega
        · have hl : lateO t y = false := by simp [lateO, hd]
          have Hy := Lib.hid (filter_no (p := lateO t) hlt Hx.out hl)
          have Hn := Lib.hid (filter_yes (p := fun o => !lateO t o) hlt Hx.out (by simp [hl]))
          clear hl
          go_wp2_with (at_builtin; refine wpList_push rfl (.tmp 37) (.tmp 42) _ rfl z1.heap.size 26 i0 _ 64 Try.underlying22 hi0 hz0 hz1 hz2 rfl u8 rfl (hv.ext ((Ext.refl _).alloc _)) wr.heap.size y rfl (Blk.new wr _ _) (by simp only [maxLen]; omega) (by omega) (by simp; omega) ?_; intro v' w2 hv2 hg2 hat2)
          go_roundw
          case rel =>
            refine ⟨k + 1, by omega, by go_num, ?_, by rw [Hn.out]; exact hv2, ?_, ext_grown (hN.alloc _) (hv.ext ((Ext.refl wr).alloc _)) (Nat.le_refl _) hg2⟩
            · rw [Hy.out]
              exact (hu.ext ((Ext.refl wr).alloc _)).kept hg2 (fun g hg e => hne g hg e.symm)
            · intro g hg
              rcases hat2 with e | e
              · rw [e]; exact hne g hg
              · rw [e]
                have := (hu.block hg).2
                intro e2
                injection e2 with e2
                simp at e2
                omega
          case measure => simp [intOf]; omega
      · have ht : l.take k = l := List.take_of_length_le (by omega)
        rw [ht] at hu hv
        clear ht
        obtain ⟨A1, c1, rfl, hR1⟩ := hu.form
        obtain ⟨A2, c2, rfl, hR2⟩ := hv.form
        go_wp2
        go_ret3
        rw [HS.out, HN.out, HE.out]
        exact ⟨_, _, _, _, rfl, hR1, hR2, hb1.trans hN⟩
  · have HS : Hid (dueL l t = []) := Lib.hid (by unfold dueL; rw [if_neg h0])
    have HN : Hid (dueM l t = []) := Lib.hid (by unfold dueM; rw [if_neg h0])
    have HE : Hid (sigE l = 1) := Lib.hid (by unfold sigE; rw [if_neg h0])
    have hd : (chk l != 0) = true := by simpa using h0
    have H0 := Lib.hid h0
    clear h0
    go_enter Try.func20, Try.ntmps20
    go_wp2_with fail
    refine (rcheck_any A c l w hA hmax).mono ?_
    rintro e z1 ⟨rfl, hb1⟩
    go_wp2
    go_ret3
    rw [HS.out, HN.out, HE.out]
    exact ⟨_, 0, _, 0, rfl, Rd.nil, Rd.nil, (hb1.alloc _).alloc _⟩

set_option maxHeartbeats 1000000 in
theorem great_any (A : Option Addr) (c : Nat) (l : List Off) (w : World) (hmax : l.length ≤ 9223372036854775807) :
    Calls Try.prog 9 #[.slice A l.length c] w fun e w' => e = .returned (.bool (decide (70 < l.length))) ∧ w = w' := by
  go_enter Try.func9, Try.ntmps9
  go_wp2
  go_ret
  exact ⟨ret_bool (by rw [Bool.eq_iff_iff]; simp; omega), rfl⟩

set_option maxHeartbeats 2000000 in
theorem index_any (A : Option Addr) (c : Nat) (l : List Off) (x : Off) (w : World) (hA : Rd EOff w A l) (hmax : l.length ≤ 1000000) :
    Calls Try.prog 40 #[.slice A l.length c, x.val] w fun e w' => e = .returned (.int .i64 (findI (fun o => offEq x o) l)) ∧ Ext w w' := by
  unfold Off.val
  go_enter Try.func40, Try.ntmps40
  go_wp2_with fail
  obtain ⟨W, hW, hB, hk, hlt0⟩ := box1 w x.cells.toArray 26
  simp only [Off.cells] at hW hk
  rw [hW]
  clear hW
  go_wp2
  go_loopw [8] (fun i wr => ∃ k : Nat, k ≤ l.length ∧ i = .int .i64 k ∧ Hid ((l.take k).any (fun o => offEq x o) = false) ∧ Ext W wr) (fun i _ => l.length - (intOf i).toNat)
  case atStart => exact ⟨0, Nat.zero_le _, rfl, Lib.hid rfl, Ext.refl _⟩
  case round =>
    obtain ⟨k, hkl, rfl, hu, hN⟩ := hrel
    by_cases hlt : k < l.length
    · obtain ⟨b, o, rfl, hb, c0, c1, c2, c3, c4, c5, c6, c7⟩ := ((hA.ext hB).ext hN).off hlt
      generalize hxe : l[k] = y at *
      have Hx := Lib.hid hxe
      clear hxe
      have hki := hk.ext hN
      have hci := hki.cell
      have hlti := hki.lt
      have he := run_eql_off x y
      have hN0 := hN
      clear hN
      have hN := Near.refl wr
      cases hxy : offEq x y
      · have Hxy := Lib.hid hxy
        clear hxy
        rw [Hxy.out] at he
        go_wp2
        have hq := quiet_near hN
        refine wp_region_quiet_below (by kernel_rfl) (by kernel_rfl) ?_
        repeat (first | go_big_quiet_skip | (go_big_quiet_want; go_big_quiet_op; first | go_big_quiet_on | (apply Exists.intro; refine ⟨fun _ => ?_, ?_⟩; (focus (first | fail)); go_big_quiet_on)))
        refine wpQuiet_nil ?_
        intro w1 hw1
        clear hq
        replace hw1 := quiet_ext hw1
        replace hN := hN.step hw1
        have hC := hN.2
        go_wp2
        go_roundw
        case rel => exact ⟨k + 1, by omega, by go_num, Lib.hid (any_step hlt Hx.out hu.out Hxy.out), hN0.trans hN.1⟩
        case measure => simp [intOf]; omega
      · have Hxy := Lib.hid hxy
        clear hxy
        rw [Hxy.out] at he
        go_wp2
        have hq := quiet_near hN
        refine wp_region_quiet_below (by kernel_rfl) (by kernel_rfl) ?_
        repeat (first | go_big_quiet_skip | (go_big_quiet_want; go_big_quiet_op; first | go_big_quiet_on | (apply Exists.intro; refine ⟨fun _ => ?_, ?_⟩; (focus (first | fail)); go_big_quiet_on)))
        refine wpQuiet_nil ?_
        intro w1 hw1
        clear hq
        replace hw1 := quiet_ext hw1
        replace hN := hN.step hw1
        have hC := hN.2
        go_wp2
        go_ret
        exact ⟨ret_i64 (findI_at hlt hu.out (by show offEq x l[k] = true; rw [Hx.out]; exact Hxy.out)).symm, (hB.trans hN0).trans hN.1⟩
    · go_wp2
      go_ret
      refine ⟨ret_i64 ?_, hB.trans hN⟩
      have e : l.take k = l := List.take_of_length_le (by omega)
      have h := hu.out
      rw [e] at h
      unfold findI
      rw [h]; rfl

set_option maxHeartbeats 1000000 in
theorem contains_any (A : Option Addr) (c : Nat) (l : List Off) (x : Off) (w : World) (hA : Rd EOff w A l) (hmax : l.length ≤ 1000000) :
    Calls Try.prog 24 #[.slice A l.length c, x.val] w fun e w' => e = .returned (.bool (l.any fun o => offEq x o)) ∧ Ext w w' := by
  have hfn := Lib.hid (findI_neg (p := fun o => offEq x o) (l := l))
  have hi := fun w hA => index_any A c l x w hA hmax
  unfold Off.val at hi ⊢
  go_enter Try.func24, Try.ntmps24
  go_wp2_with fail
  refine (hi _ (hA.ext ((Ext.refl w).alloc _))).mono ?_
  rintro e w1 ⟨rfl, hb⟩
  clear hi
  go_wp2
  go_ret
  exact ⟨ret_bool hfn.out, ((Ext.refl w).alloc _).trans hb⟩

end Go.Proofs.Ytlhdmhgbclfneaa

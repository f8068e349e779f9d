/- Layer 44 (custody): Begin. -/
import Derived.Test.YtlhdmhgbclfneaaCusW11
import Derived.Test.YtlhdmhgbclfneaaMem3
namespace Go.Proofs.Ytlhdmhgbclfneaa
set_option linter.unusedVariables false
open Go.RowKit

/-- A list and an error number. -/
def RetL (w : World) (out : List Off) (k : Int) (e : Ending) (w' : World) : Prop :=
  ∃ A c, e = .returned (.tuple #[.slice A out.length c, .int .i64 k]) ∧ Rd EOff w' A out ∧ Ext w w'

def begO (l : List Off) (x : Bid) (con due : Int) : Off := ⟨x, con, due, ((l.filter fun o => idEq o.id x).length : Nat)⟩
def begE (l : List Off) (x : Bid) (con due : Int) : Int :=
  if chk l = 0 then
    if (begO l x con due).ok then
      if (l.filter fun o => idEq o.id x).any (fun o => keyEq o (begO l x con due)) then 6 else if l.length = 64 then 4 else 0
    else 2
  else 1
def begL (l : List Off) (x : Bid) (con due : Int) : List Off :=
  if begE l x con due = 0 then (l.filter fun o => o.lt (begO l x con due)) ++ [begO l x con due] ++ (l.filter fun o => !o.lt (begO l x con due)) else []

set_option maxHeartbeats 2000000 in
theorem begin_any (A : Option Addr) (c : Nat) (l : List Off) (x : Bid) (con due : Int) (w : World) (hA : Rd EOff w A l) (hmax : l.length ≤ 1000000) :
    Calls Try.prog 11 #[.slice A l.length c, x.val, .int .i64 con, .int .i64 due] w (RetL w (begL l x con due) (begE l x con due)) := by
  obtain ⟨i0, hi0, hz0, hz1, hz2⟩ := info_parts info_off
  by_cases h0 : chk l = 0
  · have hE : begE l x con due = if (begO l x con due).ok then
      if (l.filter fun o => idEq o.id x).any (fun o => keyEq o (begO l x con due)) then 6 else if l.length = 64 then 4 else 0
      else 2 := by unfold begE; rw [if_pos h0]
    have HE := Lib.hid hE
    clear hE
    unfold Bid.val
    go_enter Try.func11, Try.ntmps11
    go_wp2_with fail
    obtain ⟨W, hW, hB, hk, hlt⟩ := box1 w x.arr 24
    simp only [Bid.arr] at hW hk
    rw [hW]
    clear hW
    refine (check_any A c l W (hA.ext hB) hmax).mono ?_
    rintro e w1 ⟨rfl, hb1⟩
    rw [h0]
    have H0 := Lib.hid h0
    clear h0
    go_wp2_with fail
    refine (separate_any A c l _ _ _ w1 (hA.ext (hB.trans hb1)) hmax (pred_id (hk.ext hb1))).mono ?_
    rintro e w2 ⟨u, v, rfl, hu, hv, hne, hb2⟩
    obtain ⟨A1, c1, rfl, hR1⟩ := hu.form
    obtain ⟨A2, c2, rfl, hR2⟩ := hv.form
    have hc := ((hk.ext hb1).ext hb2).cell
    have fl : (l.filter fun o => idEq o.id x).length ≤ 1000000 := Nat.le_trans (List.length_filter_le _ _) hmax
    go_wp2_with fail
    obtain ⟨W2, hW2, hB2, hk2, hlt2⟩ := box1 w2 (begO l x con due).cells.toArray 26
    have hk2' := hk2
    simp only [Off.cells, begO] at hW2 hk2
    rw [hW2]
    clear hW2
    refine (valid_any (begO l x con due) W2).mono ?_
    rintro e w3 ⟨rfl, hb3⟩
    have hE3 : Ext w w3 := ((hB.trans hb1).trans hb2).trans (hB2.trans hb3)
    cases hok : (begO l x con due).ok
    · go_wp2
      go_ret2
      have e1 : begE l x con due = 2 := by rw [HE.out, hok]; rfl
      have e2 : begL l x con due = [] := by unfold begL; rw [e1]; rfl
      rw [e1, e2]
      exact ⟨none, 0, rfl, Rd.nil, hE3⟩
    · have Hok := Lib.hid hok
      clear hok
      have hc2 := (hk2.ext hb3).cell
      go_wp2_with fail
      refine (containsFunc_any A1 c1 _ _ _ _ w3 (hR1.ext (hB2.trans hb3)) fl (pred_key (hk2'.ext hb3))).mono ?_
      rintro e w4 ⟨rfl, hb4⟩
      cases hex : (l.filter fun o => idEq o.id x).any (fun o => keyEq o (begO l x con due))
      · by_cases h64 : l.length = 64
        · have hd : ((l.length : Int) == 64) = true := by rw [h64]; rfl
          have H64 := Lib.hid h64
          clear h64
          go_wp2
          go_ret2
          have e1 : begE l x con due = 4 := by rw [HE.out, if_pos Hok.out, hex, if_pos H64.out]; rfl
          have e2 : begL l x con due = [] := by unfold begL; rw [e1]; rfl
          rw [e1, e2]
          exact ⟨none, 0, rfl, Rd.nil, hE3.trans hb4⟩
        · have hd : ((l.length : Int) == 64) = false := by simp; omega
          have H64 := Lib.hid h64
          clear h64
          go_wp2_with fail
          refine (separate_any A c l _ _ _ w4 (hA.ext (hE3.trans hb4)) hmax (pred_lt ((hk2'.ext hb3).ext hb4))).mono ?_
          rintro e w5 ⟨u5, v5, rfl, hu5, hv5, hne5, hb5⟩
          obtain ⟨A4, c4, rfl, hR4⟩ := hv5.form
          have hc5 := (((hk2.ext hb3).ext hb4).ext hb5).cell
          have gl : (l.filter fun o => o.lt (begO l x con due)).length ≤ 1000000 := Nat.le_trans (List.length_filter_le _ _) hmax
          have gl2 : (l.filter fun o => !o.lt (begO l x con due)).length ≤ 1000000 := Nat.le_trans (List.length_filter_le _ _) hmax
          have hs45 : w4.heap.size ≤ w5.heap.size := hb5.size
          go_wp2_with (first
            | (at_builtin; refine wpList_push rfl (.tmp 45) (.tmp 47) _ rfl w4.heap.size 26 i0 _ 64 Try.underlying22 hi0 hz0 hz1 hz2 rfl u5 rfl (hu5.ext ((Ext.refl _).alloc _)) w5.heap.size (begO l x con due) rfl (Blk.new w5 _ _) (by simp only [maxLen]; omega) (by omega) (by simp; omega) ?_; intro v6 w6 hv6 hg6 hat6; have hw6 := (hv5.ext ((Ext.refl w5).alloc _)).kept hg6 (fun g hg e => hne5 g e.symm hg); have hx6 := ext_grown ((hE3.trans (hb4.trans hb5)).alloc _) (hu5.ext ((Ext.refl w5).alloc _)) (hE3.trans hb4).size hg6; have hs6 := hg6.size)
            | (at_builtin; refine wpList_cat rfl (.tmp 48) (.tmp 49) _ rfl w4.heap.size 26 i0 _ 64 Try.underlying22 hi0 hz0 hz1 hz2 rfl v6 rfl hv6 c4 _ rfl hw6.len hw6.rd (by simp [maxLen]; omega) (by simp; omega) (by simp at hs6; omega) ?_; intro v7 w7 hv7 hg7 hat7))
          have e1 : begE l x con due = 0 := by rw [HE.out, if_pos Hok.out, hex, if_neg H64.out]; rfl
          obtain ⟨A7, c7, rfl, hR7⟩ := hv7.form
          go_wp2
          go_ret2
          have e2 : begL l x con due = (l.filter fun o => o.lt (begO l x con due)) ++ [begO l x con due] ++ (l.filter fun o => !o.lt (begO l x con due)) := by unfold begL; rw [if_pos e1]
          rw [e1, e2]
          exact ⟨A7, c7, rfl, hR7, ext_grown hx6 hv6 (hE3.trans hb4).size hg7⟩
      · go_wp2
        go_ret2
        have e1 : begE l x con due = 6 := by rw [HE.out, if_pos Hok.out, hex]; rfl
        have e2 : begL l x con due = [] := by unfold begL; rw [e1]; rfl
        rw [e1, e2]
        exact ⟨none, 0, rfl, Rd.nil, hE3.trans hb4⟩
  · have hE : begE l x con due = 1 := by unfold begE; rw [if_neg h0]
    have hL : begL l x con due = [] := by unfold begL; rw [hE]; rfl
    have HE := Lib.hid hE
    have hd : (chk l != 0) = true := by simpa using h0
    clear hE
    have H0 := Lib.hid h0
    clear h0
    unfold Bid.val
    go_enter Try.func11, Try.ntmps11
    go_wp2_with fail
    refine (check_any A c l _ (hA.ext ((Ext.refl _).alloc _)) hmax).mono ?_
    rintro e w1 ⟨rfl, hb1⟩
    go_wp2
    go_ret2
    rw [hL, HE.out]
    exact ⟨none, 0, rfl, Rd.nil, ((Ext.refl w).alloc _).trans hb1⟩

end Go.Proofs.Ytlhdmhgbclfneaa

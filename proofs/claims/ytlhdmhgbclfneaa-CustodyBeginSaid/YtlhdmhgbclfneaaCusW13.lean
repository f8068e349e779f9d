/- Layer 44 (custody): Delay, Clone, Signal, Due. -/
import Derived.Test.YtlhdmhgbclfneaaCusW12
namespace Go.Proofs.Ytlhdmhgbclfneaa
set_option linter.unusedVariables false
open Go.RowKit

def delay (t : Int) : Int := if t ≤ 0 then 16 else if t = 1 then 32 else if t = 2 then 64 else if t = 3 then 128 else if t = 4 then 256 else if t = 5 then 512 else 1024

set_option maxHeartbeats 1000000 in
theorem delay_any (t : Int) (w : World) :
    Calls Try.prog 17 #[.int .i64 t] w fun e w' => e = .returned (.int .i64 (delay t)) ∧ Ext w w' := by
  go_enter Try.func17, Try.ntmps17
  go_wp2
  all_goals go_ret
  all_goals refine ⟨ret_i64 ?_, Ext.refl _⟩
  all_goals unfold delay
  · rename_i h1
    have h3 : 6 < t := by split at h1 <;> omega
    rw [if_neg (by omega), if_neg (by omega), if_neg (by omega), if_neg (by omega), if_neg (by omega), if_neg (by omega)]
    decide +kernel
  · rename_i h1
    rw [if_pos (by omega)]
    decide +kernel
  · rename_i h1
    have h3 : t ≤ 6 := by split at h1 <;> omega
    obtain h | h | h | h | h | h | h : t = 0 ∨ t = 1 ∨ t = 2 ∨ t = 3 ∨ t = 4 ∨ t = 5 ∨ t = 6 := by omega
    all_goals subst h; decide +kernel

set_option maxHeartbeats 1000000 in
theorem clone_any (A : Option Addr) (c : Nat) (l : List Off) (w : World) (hA : Rd EOff w A l) (hmax : l.length ≤ 1000000) :
    Calls Try.prog 22 #[.slice A l.length c] w fun e w' => ∃ v, e = .returned v ∧ Owns EOff w' w.heap.size 26 v l ∧ Ext w w' := by
  obtain ⟨i0, hi0, hz0, hz1, hz2⟩ := info_parts info_off
  have q22 : ∀ (w : World) (a : Option Addr) (n c n' c' : Nat), (binOp .eql 22 (.slice a n c) (.slice none n' c')).run Try.prog w = .ok (.bool a.isNone) w := fun w a n c n' c' => Lib.run_eql_slice_nil w _ _ a n c n' c' Try.underlying22
  cases A with
  | none =>
    have hl : l = [] := by
      cases l with
      | nil => rfl
      | cons x l => obtain ⟨b, o, h, _⟩ := hA.at (k := 0) (by simp); cases h
    subst hl
    go_enter Try.func22, Try.ntmps22
    go_wp2
    go_ret
    exact ⟨_, rfl, Owns.none_ _ _, Ext.refl _⟩
  | some a =>
    go_enter Try.func22, Try.ntmps22
    go_wp2_with (at_builtin; refine wpList_cat rfl (.tmp 5) (.tmp 6) _ rfl w.heap.size 26 i0 _ 64 Try.underlying22 hi0 hz0 hz1 hz2 rfl (.slice (some ⟨w.heap.size, 0, none⟩) 0 0) rfl (Owns.made w w.heap.size _ (Nat.le_refl _)) c _ rfl rfl (hA.ext ((Ext.refl _).alloc _)) (by simp [maxLen]; omega) (by simp; omega) (by simp) ?_; intro v6 w6 hv6 hg6 hat6)
    go_ret
    exact ⟨_, rfl, hv6, ext_grown ((Ext.refl w).alloc _) (Owns.made (E := EOff) w w.heap.size _ (Nat.le_refl _)) (Nat.le_refl _) hg6⟩

/-- A list and two numbers. -/
def RetL2 (w : World) (out : List Off) (n k : Int) (e : Ending) (w' : World) : Prop :=
  ∃ A c, e = .returned (.tuple #[.slice A out.length c, .int .i64 n, .int .i64 k]) ∧ Rd EOff w' A out ∧ Ext w w'

def isKey (x : Bid) (con : Int) (o : Off) : Bool := keyEq o ⟨x, con, 0, 0⟩
def sigE (l : List Off) : Int := if chk l = 0 then 0 else 1
def sigN (l : List Off) (x : Bid) (con : Int) (acc : Bool) : Int :=
  if chk l = 0 then if l.filter (isKey x con) = [] then 1 else if acc then 2 else 3 else 0
def sigL (l : List Off) (x : Bid) (con : Int) (acc : Bool) : List Off :=
  if chk l = 0 then if l.filter (isKey x con) = [] then l else if acc then l.filter (fun o => !idEq o.id x) else l.filter (fun o => !isKey x con o) else []

set_option maxHeartbeats 2000000 in
theorem signal_any (A : Option Addr) (c : Nat) (l : List Off) (x : Bid) (con : Int) (acc : Bool) (w : World) (hA : Rd EOff w A l) (hmax : l.length ≤ 1000000) :
    Calls Try.prog 16 #[.slice A l.length c, x.val, .int .i64 con, .bool acc] w (RetL2 w (sigL l x con acc) (sigN l x con acc) (sigE l)) := by
  have hb0 : Ext w ((w.alloc (.cells x.arr 24)).alloc (.cells #[.int .i64 con] 3)) := ((Ext.refl _).alloc _).alloc _
  by_cases h0 : chk l = 0
  · have HS : Hid (sigL l x con acc = if l.filter (isKey x con) = [] then l else if acc then l.filter (fun o => !idEq o.id x) else l.filter (fun o => !isKey x con o)) := Lib.hid (by unfold sigL; rw [if_pos h0])
    have HN : Hid (sigN l x con acc = if l.filter (isKey x con) = [] then 1 else if acc then 2 else 3) := Lib.hid (by unfold sigN; rw [if_pos h0])
    have HE : Hid (sigE l = 0) := Lib.hid (by unfold sigE; rw [if_pos h0])
    unfold Bid.val
    go_enter Try.func16, Try.ntmps16
    go_wp2_with fail
    obtain ⟨W, hW, hB, hk, hk', hlt, hlt'⟩ := box2 w x.arr #[.int .i64 con] 24 3
    have hK := hk
    simp only [Bid.arr] at hW hk
    rw [hW]
    clear hW hb0
    refine (check_any A c l W (hA.ext hB) hmax).mono ?_
    rintro e w1 ⟨rfl, hb1⟩
    rw [h0]
    have H0 := Lib.hid h0
    clear h0
    go_wp2_with fail
    refine (separate_any A c l _ _ _ w1 (hA.ext (hB.trans hb1)) hmax (pred_key2 (hK.ext hb1) (hk'.ext hb1))).mono ?_
    rintro e w2 ⟨u, v, rfl, hu, hv, hne, hb2⟩
    change Owns EOff w2 w1.heap.size _ u (l.filter (isKey x con)) at hu
    change Owns EOff w2 w1.heap.size _ v (l.filter (fun o => !isKey x con o)) at hv
    obtain ⟨A1, c1, rfl, hR1⟩ := hu.form
    obtain ⟨A2, c2, rfl, hR2⟩ := hv.form
    have fl : (l.filter (isKey x con)).length ≤ 1000000 := Nat.le_trans (List.length_filter_le _ _) hmax
    by_cases hz : l.filter (isKey x con) = []
    · have hd : (((l.filter (isKey x con)).length : Int) == 0) = true := by rw [hz]; rfl
      have HZ := Lib.hid hz
      clear hz
      go_wp2_with fail
      refine (clone_any A c l w2 (hA.ext ((hB.trans hb1).trans hb2)) hmax).mono ?_
      rintro e w3 ⟨v3, rfl, hv3, hb3⟩
      obtain ⟨A3, c3, rfl, hR3⟩ := hv3.form
      go_wp2
      go_ret3
      rw [HS.out, HN.out, HE.out, if_pos HZ.out, if_pos HZ.out]
      exact ⟨_, _, rfl, hR3, ((hB.trans hb1).trans hb2).trans hb3⟩
    · have hd : (((l.filter (isKey x con)).length : Int) == 0) = false := by
        have : (l.filter (isKey x con)).length ≠ 0 := fun h => hz (List.eq_nil_of_length_eq_zero h)
        simp only [beq_eq_false_iff_ne, ne_eq]; omega
      have HZ := Lib.hid hz
      clear hz
      cases acc
      · go_wp2
        go_ret3
        rw [HS.out, HN.out, HE.out, if_neg HZ.out, if_neg HZ.out]
        exact ⟨_, _, rfl, hR2, (hB.trans hb1).trans hb2⟩
      · go_wp2_with fail
        refine (separate_any A c l _ _ _ w2 (hA.ext ((hB.trans hb1).trans hb2)) hmax (pred_id2 ((hK.ext hb1).ext hb2))).mono ?_
        rintro e w3 ⟨u3, v3, rfl, hu3, hv3, hne3, hb3⟩
        obtain ⟨A3, c3, rfl, hR3⟩ := hv3.form
        go_wp2
        go_ret3
        rw [HS.out, HN.out, HE.out, if_neg HZ.out, if_neg HZ.out]
        exact ⟨_, _, rfl, hR3, ((hB.trans hb1).trans hb2).trans hb3⟩
  · have HS : Hid (sigL l x con acc = []) := Lib.hid (by unfold sigL; rw [if_neg h0])
    have HN : Hid (sigN l x con acc = 0) := Lib.hid (by unfold sigN; rw [if_neg h0])
    have HE : Hid (sigE l = 1) := Lib.hid (by unfold sigE; rw [if_neg h0])
    have hd : (chk l != 0) = true := by simpa using h0
    clear h0
    unfold Bid.arr at hb0
    unfold Bid.val
    go_enter Try.func16, Try.ntmps16
    go_wp2_with fail
    refine (check_any A c l _ (hA.ext hb0) hmax).mono ?_
    rintro e w1 ⟨rfl, hb1⟩
    go_wp2
    go_ret3
    rw [HS.out, HN.out, HE.out]
    exact ⟨none, 0, rfl, Rd.nil, hb0.trans hb1⟩

/-- Two lists and a number. -/
def RetLL (w : World) (l m : List Off) (k : Int) (e : Ending) (w' : World) : Prop :=
  ∃ A c B d, e = .returned (.tuple #[.slice A l.length c, .slice B m.length d, .int .i64 k]) ∧ Rd EOff w' A l ∧ Rd EOff w' B m ∧ Ext w w'
def dueL (l : List Off) (t : Int) : List Off := if chk l = 0 then l.filter (fun o => decide (o.due ≤ t)) else []
def dueM (l : List Off) (t : Int) : List Off := if chk l = 0 then l.filter (fun o => !decide (o.due ≤ t)) else []

set_option maxHeartbeats 2000000 in
theorem due_any (A : Option Addr) (c : Nat) (l : List Off) (t : Int) (w : World) (hA : Rd EOff w A l) (hmax : l.length ≤ 1000000) :
    Calls Try.prog 19 #[.slice A l.length c, .int .i64 t] w (RetLL w (dueL l t) (dueM l t) (sigE l)) := by
  obtain ⟨W, hW, hB, hk, hlt⟩ := box1 w #[.int .i64 t] 3
  by_cases h0 : chk l = 0
  · have HS : Hid (dueL l t = l.filter (fun o => decide (o.due ≤ t))) := Lib.hid (by unfold dueL; rw [if_pos h0])
    have HN : Hid (dueM l t = l.filter (fun o => !decide (o.due ≤ t))) := Lib.hid (by unfold dueM; rw [if_pos h0])
    have HE : Hid (sigE l = 0) := Lib.hid (by unfold sigE; rw [if_pos h0])
    have HW := Lib.hid hW
    clear hW
    go_enter Try.func19, Try.ntmps19
    go_wp2_with fail
    rw [HW.out]
    refine (check_any A c l W (hA.ext hB) hmax).mono ?_
    rintro e w1 ⟨rfl, hb1⟩
    rw [h0]
    have H0 := Lib.hid h0
    clear h0
    go_wp2_with fail
    refine (separate_any A c l _ _ _ w1 (hA.ext (hB.trans hb1)) hmax (pred_due (hk.ext hb1))).mono ?_
    rintro e w2 ⟨u, v, rfl, hu, hv, hne, hb2⟩
    obtain ⟨A1, c1, rfl, hR1⟩ := hu.form
    obtain ⟨A2, c2, rfl, hR2⟩ := hv.form
    go_wp2
    go_ret3
    rw [HS.out, HN.out, HE.out]
    exact ⟨_, _, _, _, rfl, hR1, hR2, (hB.trans hb1).trans hb2⟩
  · have HS : Hid (dueL l t = []) := Lib.hid (by unfold dueL; rw [if_neg h0])
    have HN : Hid (dueM l t = []) := Lib.hid (by unfold dueM; rw [if_neg h0])
    have HE : Hid (sigE l = 1) := Lib.hid (by unfold sigE; rw [if_neg h0])
    have hd : (chk l != 0) = true := by simpa using h0
    have HW := Lib.hid hW
    clear hW h0
    go_enter Try.func19, Try.ntmps19
    go_wp2_with fail
    rw [HW.out]
    refine (check_any A c l W (hA.ext hB) hmax).mono ?_
    rintro e w1 ⟨rfl, hb1⟩
    go_wp2
    go_ret3
    rw [HS.out, HN.out, HE.out]
    exact ⟨none, 0, none, 0, rfl, Rd.nil, Rd.nil, hB.trans hb1⟩

end Go.Proofs.Ytlhdmhgbclfneaa

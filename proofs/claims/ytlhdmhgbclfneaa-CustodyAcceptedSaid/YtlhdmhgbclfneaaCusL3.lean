/- Layer 44 (custody): the walks of CustodySignal and CustodyAnswers. -/
import Derived.Test.YtlhdmhgbclfneaaCusL2
namespace Go.Proofs.Ytlhdmhgbclfneaa
set_option linter.unusedVariables false
open Go.RowKit

theorem rsignal_eq (A : Option Addr) (c : Nat) (l : List Off) (x : Bid) (con : Int) (acc : Bool) (w : World) (hA : Rd EOff w A l) (hmax : l.length ≤ 1000000) :
    Calls Try.prog 18 #[.slice A l.length c, x.val, .int .i64 con, .bool acc] w (RetL2 w (sigL l x con acc) (sigN l x con acc) (sigE l)) := by
  have h := rsignal_any A c l x con acc w hA hmax
  rw [sigN_eq, sigL_eq] at h
  exact h
theorem sigL_le (l : List Off) (x : Bid) (con : Int) (acc : Bool) : (sigL l x con acc).length ≤ l.length := by
  unfold sigL
  split
  · split
    · exact Nat.le_refl _
    · split <;> exact List.length_filter_le _ _
  · simp
theorem dueL_le (l : List Off) (t : Int) : (dueL l t).length ≤ l.length := by
  unfold dueL
  split
  · exact List.length_filter_le _ _
  · simp
theorem dueM_le (l : List Off) (t : Int) : (dueM l t).length ≤ l.length := by
  unfold dueM
  split
  · exact List.length_filter_le _ _
  · simp

set_option maxRecDepth 100000 in
set_option maxHeartbeats 2000000 in
theorem signal_walk (A : Option Addr) (c : Nat) (l : List Off) (x : Off) (acc : Bool) (t : Int) (w : World) (hA : Rd EOff w A l) (hcap : l.length ≤ c) (hmc : c ≤ maxLen) :
    Calls Try.prog 6 #[.slice A l.length c, x.val, .bool acc, .int .i64 t] w fun e w' => e = .returned (.bool true) ∧ Ext w w' := by
  obtain ⟨W, hW, hB, hk, hlt⟩ := box1 w x.cells.toArray 26
  have hmx : l.length ≤ 9223372036854775807 := by unfold maxLen at hmc; omega
  by_cases hg : 70 < l.length
  · simp only [Off.cells] at hW hk
    unfold Off.val
    go_enter Try.func6, Try.ntmps6
    go_wp2_with fail
    clear hW
    refine (great_any A c l W hmx).mono ?_
    rintro e w1 ⟨rfl, rfl⟩
    rw [decide_eq_true hg]
    go_wp2_with fail
    refine (awake_any _).mono ?_
    rintro e w2 ⟨rfl, hb2⟩
    go_wp2
    go_ret
    exact ⟨rfl, hB.trans hb2⟩
  · have hm6 : l.length ≤ 1000000 := by omega
    simp only [Off.cells] at hW hk
    unfold Off.val
    go_enter Try.func6, Try.ntmps6
    go_wp2_with fail
    clear hW
    refine (great_any A c l W hmx).mono ?_
    rintro e w1 ⟨rfl, rfl⟩
    rw [decide_eq_false hg]
    have hc := hk.cell
    have hc0 := hk.lt
    clear hg
    go_wp2_with fail
    refine (signal_any A c l x.id x.con acc W (hA.ext hB) hm6).mono ?_
    rintro e w2 ⟨A2, c2, rfl, hR2, hb2⟩
    have hk2 := hk.ext hb2
    replace hc := hk2.cell
    replace hc0 := hk2.lt
    go_wp2_with fail
    refine (rsignal_eq A c l x.id x.con acc w2 (hA.ext (hB.trans hb2)) hm6).mono ?_
    rintro e w3 ⟨A3, c3, rfl, hR3, hb3⟩
    have hE3 := (hB.trans hb2).trans hb3
    go_wp2_with fail
    refine (due_any A c l t w3 (hA.ext hE3) hm6).mono ?_
    rintro e w4 ⟨A4, c4, A5, c5, rfl, hR4, hR5, hb4⟩
    go_wp2_with fail
    refine (rdue_any A c l t w4 (hA.ext (hE3.trans hb4)) hm6).mono ?_
    rintro e w5 ⟨A6, c6, A7, c7, rfl, hR6, hR7, hb5⟩
    go_wp2_with fail
    refine (same_ex A2 A3 c2 c3 _ w5 (((hR2.ext hb3).ext hb4).ext hb5) ((hR3.ext hb4).ext hb5) (Nat.le_trans (sigL_le l x.id x.con acc) hm6)).mono ?_
    rintro e w6 ⟨rfl, hb6⟩
    go_wp2_with fail
    refine (same_ex A4 A6 c4 c6 _ w6 ((hR4.ext hb5).ext hb6) (hR6.ext hb6) (Nat.le_trans (dueL_le l t) hm6)).mono ?_
    rintro e w7 ⟨rfl, hb7⟩
    go_wp2_with fail
    refine (same_ex A5 A7 c5 c7 _ w7 (((hR5.ext hb5).ext hb6).ext hb7) ((hR7.ext hb6).ext hb7) (Nat.le_trans (dueM_le l t) hm6)).mono ?_
    rintro e w8 ⟨rfl, hb8⟩
    go_wp2_with fail
    refine (awake_any _).mono ?_
    rintro e w9 ⟨rfl, hb9⟩
    go_wp2
    go_ret
    exact ⟨rfl, (hE3.trans hb4).trans ((hb5.trans hb6).trans (hb7.trans (hb8.trans hb9)))⟩

theorem sig_begun {l : List Off} {x : Bid} {con due : Int} (h : begE l x con due = 0) : sigL (begL l x con due) x con false = l ∧ sigN (begL l x con due) x con false = 3 ∧ sigE (begL l x con due) = 0 := by
  have hc := begL_chk h
  have hn : ¬ (begL l x con due).filter (isKey x con) = [] := fun e => by
    have := (none_iff _ x con).1 e
    rw [begL_any h] at this; cases this
  refine ⟨?_, ?_, ?_⟩
  · unfold sigL; rw [if_pos hc, if_neg hn, if_neg (by decide)]; exact begL_refuse h
  · unfold sigN; rw [if_pos hc, if_neg hn, if_neg (by decide)]
  · unfold sigE; rw [if_pos hc]
theorem sig_none {l : List Off} {x : Bid} {con due : Int} (h : begE l x con due = 0) (acc : Bool) : sigL l x con acc = l ∧ sigN l x con acc = 1 ∧ sigE l = 0 := by
  have hc := begE_chk h
  have hn := (none_iff l x con).2 hc.2.2.1
  refine ⟨?_, ?_, ?_⟩
  · unfold sigL; rw [if_pos hc.1, if_pos hn]
  · unfold sigN; rw [if_pos hc.1, if_pos hn]
  · unfold sigE; rw [if_pos hc.1]

set_option maxRecDepth 100000 in
set_option maxHeartbeats 2000000 in
theorem answers_walk (A : Option Addr) (c : Nat) (l : List Off) (x : Off) (sec : Bool) (w : World) (hA : Rd EOff w A l) (hcap : l.length ≤ c) (hmc : c ≤ maxLen) :
    Calls Try.prog 4 #[.slice A l.length c, x.val, .bool sec] w fun e w' => e = .returned (.bool true) ∧ Ext w w' := by
  obtain ⟨W, hW, hB, hk, hlt⟩ := box1 w x.cells.toArray 26
  have hmx : l.length ≤ 9223372036854775807 := by unfold maxLen at hmc; omega
  by_cases hg : 70 < l.length
  · simp only [Off.cells] at hW hk
    unfold Off.val
    go_enter Try.func4, Try.ntmps4
    go_wp2_with fail
    clear hW
    refine (great_any A c l W hmx).mono ?_
    rintro e w1 ⟨rfl, rfl⟩
    rw [decide_eq_true hg]
    go_wp2_with fail
    refine (awake_any _).mono ?_
    rintro e w2 ⟨rfl, hb2⟩
    go_wp2
    go_ret
    exact ⟨rfl, hB.trans hb2⟩
  · have hm6 : l.length ≤ 1000000 := by omega
    have hml := begL_le l x.id x.con x.due (by omega)
    simp only [Off.cells] at hW hk
    unfold Off.val
    go_enter Try.func4, Try.ntmps4
    go_wp2_with fail
    clear hW
    refine (great_any A c l W hmx).mono ?_
    rintro e w1 ⟨rfl, rfl⟩
    rw [decide_eq_false hg]
    have hc := hk.cell
    have hc0 := hk.lt
    clear hg
    go_wp2_with fail
    refine (begin_any A c l x.id x.con x.due W (hA.ext hB) hm6).mono ?_
    rintro e w2 ⟨A2, c2, rfl, hR2, hb2⟩
    have hk2 := hk.ext hb2
    replace hc := hk2.cell
    replace hc0 := hk2.lt
    by_cases hE : begE l x.id x.con x.due = 0
    · have s1 := sig_begun hE
      have s2 := sig_none hE sec
      have s3 := begE_twice hE
      have H1 := Lib.hid s1
      have H2 := Lib.hid s2
      have H3 := Lib.hid s3
      clear s1 s2 s3
      rw [hE]
      clear hE
      go_wp2_with fail
      have b3 := begin_any A2 c2 (begL l x.id x.con x.due) x.id x.con x.due w2 hR2 (by omega)
      rw [H3.out] at b3
      refine b3.mono ?_
      clear b3
      rintro e w3 ⟨A3, c3, rfl, hR3, hb3⟩
      have hk3 := hk2.ext hb3
      replace hc := hk3.cell
      replace hc0 := hk3.lt
      go_wp2_with fail
      have b4 := signal_any A2 c2 (begL l x.id x.con x.due) x.id x.con false w3 (hR2.ext hb3) (by omega)
      rw [H1.out.1, H1.out.2.1, H1.out.2.2] at b4
      refine b4.mono ?_
      clear b4
      rintro e w4 ⟨A4, c4, rfl, hR4, hb4⟩
      have hk4 := hk3.ext hb4
      replace hc := hk4.cell
      replace hc0 := hk4.lt
      go_wp2_with fail
      have b5 := signal_any A4 c4 l x.id x.con sec w4 hR4 hm6
      rw [H2.out.1, H2.out.2.1, H2.out.2.2] at b5
      refine b5.mono ?_
      clear b5
      rintro e w5 ⟨A5, c5, rfl, hR5, hb5⟩
      have hE5 := (hB.trans hb2).trans (hb3.trans (hb4.trans hb5))
      go_wp2_with fail
      refine (same_ex A4 A c4 c l w5 (hR4.ext hb5) (hA.ext hE5) hm6).mono ?_
      rintro e w6 ⟨rfl, hb6⟩
      go_wp2_with fail
      refine (same_ex A5 A c5 c l w6 (hR5.ext hb6) ((hA.ext hE5).ext hb6) hm6).mono ?_
      rintro e w7 ⟨rfl, hb7⟩
      go_wp2_with fail
      refine (awake_any _).mono ?_
      rintro e w8 ⟨rfl, hb8⟩
      go_wp2
      go_ret
      exact ⟨rfl, hE5.trans (hb6.trans (hb7.trans hb8))⟩
    · have hd : (begE l x.id x.con x.due != 0) = true := by simpa using hE
      have hl := begL_nil hE
      rw [hl]
      clear hE hl hml
      go_wp2_with fail
      refine (awake_any _).mono ?_
      rintro e w8 ⟨rfl, hb8⟩
      go_wp2
      go_ret
      exact ⟨rfl, (hB.trans hb2).trans hb8⟩

end Go.Proofs.Ytlhdmhgbclfneaa

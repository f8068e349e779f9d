
/- Layer 35 (multicast): the walk of MulticastCheck. -/
import Derived.Test.YtbgdglcnminbaaaGreatMzD
import Derived.Test.YtbgdglcnminbaaaGreatMzF
import Derived.Test.YtbgdglcnminbaaaGreatStDE
import Derived.Test.YtbgdglcnminbaaaGreatJrE
import Derived.Test.YtbgdglcnminbaaaGreatReqW1
import Derived.BigQuiet
namespace Go.Proofs.YtbgdglcnminbaaaGreat
set_option linter.unusedVariables false
set_option linter.unusedSimpArgs false
open Go.RowKit Go.Shelf
attribute [local go_sem] Oper.semAt_some

set_option maxHeartbeats 2000000 in
theorem equalHp_ex (A B : Option Addr) (c d : Nat) (l : List Hp) (w : World) (hA : Rd EHp w A l) (hB : Rd EHp w B l) (hmax : l.length ≤ 1000000) :
    Calls Tryz.prog 19 #[.slice A l.length c, .slice B l.length d] w fun e w' => e = .returned (.bool true) ∧ Ext w w' := by
  have hnn : ((l.length : Int) != (l.length : Int)) = false := by simp
  go_enter Tryz.func19, Tryz.ntmps19
  go_wp2
  go_loopg [13] l.length (fun q i wr => ∃ k : Nat, k + q = l.length ∧ i = .int .i64 k ∧ Ext w wr)
  case atStart => exact ⟨0, by omega, rfl, Ext.refl _⟩
  case round =>
    obtain ⟨k, hk, rfl, hx⟩ := hrel
    have Hk := Lib.hid hk
    have hkl : k ≤ l.length := by omega
    clear hk
    by_cases hlt : k < l.length
    · obtain ⟨b, o, rfl, hb, c0, c1, c2, c3⟩ := (hA.ext hx).hp hlt
      obtain ⟨b2, o2, rfl, hb2, d0, d1, d2, d3⟩ := (hB.ext hx).hp hlt
      generalize l[k] = x at *
      have he := run_neq_hp x x
      rw [hpEq_iff.2 rfl] at he
      have hN := Near.refl wr
      go_wp2_with fail
      have hq := quiet_near hN
      refine wp_region_quiet_below (by kernel_rfl) (by kernel_rfl) ?_
      repeat (first | go_big_quiet_skip | (go_big_quiet_want; go_big_quiet_op; first | go_big_quiet_on | (apply Exists.intro; refine ⟨fun _ => ?_, ?_⟩; (focus (first | fail)); go_big_quiet_on)))
      refine wpQuiet_nil ?_
      intro w1 hw1
      clear hq
      replace hw1 := quiet_ext hw1
      replace hN := hN.step hw1
      have hC := hN.2
      go_wp2
      go_roundg (gk - 1)
      case measure => have := Hk.out; omega
      case rel => exact ⟨k + 1, by have := Hk.out; omega, by go_num, hx.trans hN.1⟩
    · go_wp2
      go_ret
      exact ⟨rfl, hx⟩
/-- What Path answers, as a list and a number. -/
def pathL : Option (List Hp) → List Hp
  | none => []
  | some m => m
def pathK : Option (List Hp) → Int
  | none => 2
  | some _ => 0
theorem PathP.ret {o : Option (List Hp)} {w : World} {e : Ending} {w' : World} (h : PathP o w e w') : ∃ A c, e = .returned (.tuple #[.slice A (pathL o).length c, .int .i64 (pathK o)]) ∧ Rd EHp w' A (pathL o) ∧ Ext w w' := by
  obtain ⟨hE, hh⟩ := h
  cases o with
  | none => exact ⟨none, 0, hh, Rd.nil, hE⟩
  | some m =>
    obtain ⟨u, he, hu⟩ := hh
    obtain ⟨A, c, rfl, hR⟩ := hu.form
    exact ⟨A, c, he, hR, hE⟩
theorem pathL_len (l : List Br) (i : Int) : (pathL (pathO l i)).length ≤ l.length + 1 := by
  unfold pathO
  split
  · rename_i h
    split
    · exact Nat.zero_le _
    · have := upN_len (l := l) (i + 1).toNat
      simp only [pathL, List.length_reverse, List.length_map]
      omega
  · exact Nat.zero_le _
/-- A list and an error, either way. -/
def eitherR {α : Type} (E : Elt α) (k : Int) (L : List α) (t : TypeId) (w : World) (e : Ending) (w' : World) : Prop :=
  Ext w w' ∧ ((k = 0 ∧ ∃ v, e = .returned (.tuple #[v, .int .i64 0]) ∧ Owns E w' w.heap.size t v L) ∨ (k ≠ 0 ∧ e = .returned (.tuple #[.slice none 0 0, .int .i64 k])))
theorem eitherR.ret {α : Type} {E : Elt α} {k : Int} {L : List α} {t : TypeId} {w : World} {e : Ending} {w' : World} (h : eitherR E k L t w e w') : ∃ A c, e = .returned (.tuple #[.slice A (if k = 0 then L else []).length c, .int .i64 k]) ∧ Rd E w' A (if k = 0 then L else []) ∧ Ext w w' := by
  obtain ⟨hE, ⟨rfl, v, he, hv⟩ | ⟨hk, he⟩⟩ := h
  · obtain ⟨A, c, rfl, hR⟩ := hv.form
    rw [if_pos rfl]
    exact ⟨A, c, he, hR, hE⟩
  · rw [if_neg hk]
    exact ⟨none, 0, he, Rd.nil, hE⟩

set_option maxRecDepth 100000 in
set_option maxHeartbeats 8000000 in
theorem check_walk (Aq : Option Addr) (cq : Nat) (Ac : Option Addr) (cc : Nat) (p : Pln) (q : Req) (Am : Option Addr) (cm : Nat) (mem : List Int) (Al : Option Addr) (cl : Nat) (l : List Br) (i : Int) (w : World) (h : PlnIn w Aq cq Ac cc p) (hmm : Rd EInt w Am mem) (hml : mem.length ≤ maxLen) (hl : Rd EBr w Al l) (hlc : l.length ≤ cl) (hll : l.length ≤ maxLen) :
    Calls Tryz.prog 4 #[p.val Aq cq Ac cc, q.val, .slice Am mem.length cm, .slice Al l.length cl, .int .i64 i] w fun e w' => e = .returned (.bool true) ∧ Ext w w' := by
  unfold maxLen at hll hml
  obtain ⟨W, hW, hB, hk, hkr, hlt, hltr⟩ := box2 w #[.slice Aq p.quo.length cq, .slice Ac p.cons.length cc] q.cells 25 31
  simp only [Req.cells] at hW hkr
  have hc := hk.cell
  have hcr := hkr.cell
  have hIn : PlnIn W Aq cq Ac cc p := h.ext hB
  have hgr := great35_any Aq cq Ac cc p none 0 0 none 0 0 Am mem.length cm W hIn.le.1 hIn.le.2 (by omega) (by omega) (by omega)
  cases hg : p.gr35 0 0 mem.length
  case' true =>
    rw [hg] at hgr
    unfold Pln.val Req.val
    go_enter Tryz.func4, Tryz.ntmps4
    go_wp2_with fail
    clear hW
    refine hgr.mono ?_
    clear hgr
    rintro e w1 ⟨rfl, hb1⟩
    go_wp2_with fail
    refine (awake_any _).mono ?_
    rintro e w2 ⟨rfl, hb2⟩
    go_wp2
    go_ret
    exact ⟨rfl, (hB.trans hb1).trans hb2⟩
  rw [hg] at hgr
  obtain ⟨hrd, _, _, hm20⟩ := hIn.rd hg
  clear hg
  by_cases h20 : 20 < l.length
  · have d20 : decide ((20 : Int) < (l.length : Int)) = true := decide_eq_true (by omega)
    clear h20
    unfold Pln.val Req.val
    go_enter Tryz.func4, Tryz.ntmps4
    go_wp2_with fail
    clear hW
    refine hgr.mono ?_
    clear hgr
    rintro e w1 ⟨rfl, hb1⟩
    go_wp2_with fail
    refine (awake_any _).mono ?_
    rintro e w2 ⟨rfl, hb2⟩
    go_wp2
    go_ret
    exact ⟨rfl, (hB.trans hb1).trans hb2⟩
  have d20 : decide ((20 : Int) < (l.length : Int)) = false := decide_eq_false (by omega)
  replace hll : l.length ≤ 20 := by omega
  clear h20
  have hl1 := hl.ext hB
  have hm1 := hmm.ext hB
  have hpa := fun w' (hw' : Ext W w') => (Path_any Al cl l i w' (hl1.ext hw') (by omega)).mono (fun e w'' h => h.ret)
  have hpb := fun w' (hw' : Ext W w') => (rPath35_any Al cl l i w' (hl1.ext hw') (by omega)).mono (fun e w'' h => h.ret)
  have hra := fun w' (hw' : Ext W w') => (Reached_any Aq cq Ac cc p q Al cl l w' (hrd.ext hw') (hl1.ext hw') (by omega)).mono (fun e w'' h => eitherR.ret h)
  have hrb := fun w' (hw' : Ext W w') => (rReached35_any Aq cq Ac cc p q Al cl l w' (hrd.ext hw') (hl1.ext hw') (by omega) hlc).mono (fun e w'' h => eitherR.ret h)
  have hxa := fun w' (hw' : Ext W w') => (Prune_any Aq cq Ac cc p q Am cm mem Al cl l w' (hrd.ext hw') (hm1.ext hw') (by omega) (hl1.ext hw') (by omega)).mono (fun e w'' h => eitherR.ret h)
  have hxb := fun w' (hw' : Ext W w') => (rPrune35_any Aq cq Ac cc p q Am cm mem Al cl l w' (hrd.ext hw') (hm1.ext hw') (by omega) (hl1.ext hw') (by omega) hlc).mono (fun e w'' h => eitherR.ret h)
  have hca := fun w' (hw' : Ext W w') => mCheck_any Aq cq Ac cc p q Am cm mem Al cl l w' (hrd.ext hw') (hm1.ext hw') (by omega) (hl1.ext hw') (by omega)
  have hcb := fun w' (hw' : Ext W w') => rCheck35_any Aq cq Ac cc p q Am cm mem Al cl l w' (hrd.ext hw') (hm1.ext hw') (by omega) (hl1.ext hw') (by omega) hlc
  have hpl := pathL_len l i
  have hrl : (if p.mchk q [] l = 0 then List.take p.quo.length (p.mAt q l l.length) else []).length ≤ 16 := by
    split
    · rw [List.length_take, p.mAt_len]; omega
    · exact Nat.zero_le _
  have hxl : (if p.mchk q mem l = 0 then p.prune l mem else []).length ≤ l.length := by
    split
    · exact prS_out l _ l.length
    · exact Nat.zero_le _
  generalize pathL (pathO l i) = P at *
  generalize pathK (pathO l i) = kP at *
  generalize (if p.mchk q [] l = 0 then List.take p.quo.length (p.mAt q l l.length) else []) = T at *
  generalize p.mchk q [] l = kT at *
  generalize (if p.mchk q mem l = 0 then p.prune l mem else []) = X at *
  generalize p.mchk q mem l = kX at *
  unfold Pln.val Req.val at hra hrb hxa hxb hca hcb ⊢
  go_enter Tryz.func4, Tryz.ntmps4
  go_wp2_with fail
  clear hW
  refine hgr.mono ?_
  clear hgr
  rintro e w1 ⟨rfl, hb1⟩
  have e1 := hb1
  replace hc := (hk.ext e1).cell
  replace hcr := (hkr.ext e1).cell
  have l1 := (hk.ext e1).lt
  have l2 := (hkr.ext e1).lt
  go_wp2_with fail
  refine (hpa _ e1).mono ?_
  clear hpa
  rintro e w2 ⟨A2, c2, rfl, R2, b2⟩
  have e2 := e1.trans b2
  go_wp2_with fail
  refine (hpb _ e2).mono ?_
  clear hpb
  rintro e w3 ⟨A3, c3, rfl, R3, b3⟩
  have e3 := e2.trans b3
  replace hc := (hk.ext e3).cell
  replace hcr := (hkr.ext e3).cell
  replace l1 := (hk.ext e3).lt
  replace l2 := (hkr.ext e3).lt
  go_wp2_with fail
  refine (hra _ e3).mono ?_
  clear hra
  rintro e w4 ⟨A4, c4, rfl, R4, b4⟩
  have e4 := e3.trans b4
  replace hc := (hk.ext e4).cell
  replace hcr := (hkr.ext e4).cell
  replace l1 := (hk.ext e4).lt
  replace l2 := (hkr.ext e4).lt
  go_wp2_with fail
  refine (hrb _ e4).mono ?_
  clear hrb
  rintro e w5 ⟨A5, c5, rfl, R5, b5⟩
  have e5 := e4.trans b5
  replace hc := (hk.ext e5).cell
  replace hcr := (hkr.ext e5).cell
  replace l1 := (hk.ext e5).lt
  replace l2 := (hkr.ext e5).lt
  go_wp2_with fail
  refine (hxa _ e5).mono ?_
  clear hxa
  rintro e w6 ⟨A6, c6, rfl, R6, b6⟩
  have e6 := e5.trans b6
  replace hc := (hk.ext e6).cell
  replace hcr := (hkr.ext e6).cell
  replace l1 := (hk.ext e6).lt
  replace l2 := (hkr.ext e6).lt
  go_wp2_with fail
  refine (hxb _ e6).mono ?_
  clear hxb
  rintro e w7 ⟨A7, c7, rfl, R7, b7⟩
  have e7 := e6.trans b7
  replace hc := (hk.ext e7).cell
  replace hcr := (hkr.ext e7).cell
  replace l1 := (hk.ext e7).lt
  replace l2 := (hkr.ext e7).lt
  have hcA := fun d os => hca (Sort.grow (redrawn w7 d) os) (e7.trans (below_regrown w7 d os))
  have hcB := fun d os => hcb (Sort.grow (redrawn w7 d) os) (e7.trans (below_regrown w7 d os))
  have q2 := (((((R2.ext b3).ext b4).ext b5).ext b6).ext b7)
  have q3 := ((((R3.ext b4).ext b5).ext b6).ext b7)
  have q4 := (((R4.ext b5).ext b6).ext b7)
  have q5 := ((R5.ext b6).ext b7)
  have q6 := R6.ext b7
  have hEa := fun d os => equalHp_ex A2 A3 c2 c3 P (Sort.grow (redrawn w7 d) os) (q2.ext (below_regrown w7 d os)) (q3.ext (below_regrown w7 d os)) (by omega)
  have hEb := fun d os => equalInt_ex A4 A5 c4 c5 T (Sort.grow (redrawn w7 d) os) (q4.ext (below_regrown w7 d os)) (q5.ext (below_regrown w7 d os)) (by omega)
  have hEc := fun d os => sameBrs_ex A6 A7 c6 c7 X (Sort.grow (redrawn w7 d) os) (q6.ext (below_regrown w7 d os)) (R7.ext (below_regrown w7 d os)) (by omega)
  have g1 : (kX == kX) = true := by simp
  have g2 : (kP == kP) = true := by simp
  have g3 : (kT == kT) = true := by simp
  clear hca hcb q2 q3 q4 q5 q6 R2 R3 R4 R5 R6 R7
  have hN := Near.refl w7
  have hC := hN.2
  go_wp2_with fail
  have hq := quiet_near hN
  refine wp_region_quiet_below (by kernel_rfl) (by kernel_rfl) ?_
  repeat (first | go_big_quiet_skip | (go_big_quiet_want; go_big_quiet_op; first | go_big_quiet_on | (apply Exists.intro; refine ⟨fun _ => ?_, ?_⟩; (focus (first | (go_at_call 17; with_reducible exact Calls.regrown_of (hcA _ _)) | (go_at_call 18; with_reducible exact Calls.regrown_of (hcB _ _)) | (go_at_call 19; with_reducible exact Calls.regrown_of (hEa _ _)) | (go_at_call 10; with_reducible exact Calls.regrown_of (hEb _ _)) | (go_at_call 9; with_reducible exact Calls.regrown_of (hEc _ _)) | (go_at_call 6; exact Calls.regrown_of (awake_any _)))); go_big_quiet_on)))
  refine wpQuiet_nil ?_
  intro w1 hw1
  clear hq
  replace hw1 := quiet_ext hw1
  replace hN := hN.step hw1
  have hC := hN.2
  go_wp2
  go_ret
  exact ⟨rfl, (hB.trans e7).trans hN.1⟩

end Go.Proofs.YtbgdglcnminbaaaGreat

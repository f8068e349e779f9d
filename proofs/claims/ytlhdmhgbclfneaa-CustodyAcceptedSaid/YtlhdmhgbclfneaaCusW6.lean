/- Layer 44 (custody): the walks of the reference's 'less' and of both functions Check. -/
import Derived.Test.YtlhdmhgbclfneaaCusW5
namespace Go.Proofs.Ytlhdmhgbclfneaa
set_option linter.unusedVariables false
open Go.RowKit

def Off.lt (x y : Off) : Bool := decide (x.cmp y < 0)
theorem idEq_iff {x y : Bid} : idEq x y = true ↔ x.ints = y.ints := by
  simp [idEq, Bid.ints]
theorem Off.lt_same {x y : Off} (h : idEq x.id y.id = true) : x.lt y = decide (x.con < y.con) := by
  have h2 := idEq_iff.1 h
  have h3 : lexC x.id.ints y.id.ints = 0 := (lexC_zero x.id.ints y.id.ints rfl).2 h2
  have h4 : x.cmp y = if lexC x.id.ints y.id.ints = 0 then cmpI x.con y.con else lexC x.id.ints y.id.ints := lexC_snoc x.id.ints y.id.ints x.con y.con rfl
  unfold Off.lt
  rw [h4, if_pos h3, Bool.eq_iff_iff]
  simp only [decide_eq_true_eq]
  unfold cmpI
  split <;> (try split) <;> omega
theorem Off.lt_other {x y : Off} (h : idEq x.id y.id = false) : x.lt y = x.id.lt y.id := by
  have h3 : lexC x.id.ints y.id.ints ≠ 0 := fun e => by
    have := idEq_iff.2 ((lexC_zero x.id.ints y.id.ints rfl).1 e)
    rw [h] at this; cases this
  have h4 : x.cmp y = if lexC x.id.ints y.id.ints = 0 then cmpI x.con y.con else lexC x.id.ints y.id.ints := lexC_snoc x.id.ints y.id.ints x.con y.con rfl
  unfold Off.lt Bid.lt
  rw [h4, if_neg h3]

set_option maxHeartbeats 1000000 in
theorem rless_any (x y : Off) (w : World) :
    Calls Try.prog 35 #[x.val, y.val] w fun e w' => e = .returned (.bool (x.lt y)) ∧ Ext w w' := by
  have he := run_neq_id x.id y.id
  cases hi : idEq x.id y.id
  · have hl := Lib.hid (Off.lt_other hi)
    unfold Off.val
    go_enter Try.func35, Try.ntmps35
    go_wp2_with (go_at_call 45; refine (rLess_any x.id y.id _).mono ?_; rintro e w1 ⟨rfl, hb⟩)
    go_ret
    exact ⟨ret_bool hl.out.symm, (((Ext.refl _).alloc _).alloc _).trans hb⟩
  · have hl := Lib.hid (Off.lt_same hi)
    unfold Off.val
    go_enter Try.func35, Try.ntmps35
    go_wp2_with fail
    go_ret
    exact ⟨ret_bool hl.out.symm, ((Ext.refl _).alloc _).alloc _⟩

/-- Check behind the length: 'p' is the offer before. -/
def chkL : Option Off → List Off → Int
  | _, [] => 0
  | p, x :: l => if x.ok = false then 2 else (match p with
    | some q => if q.lt x then chkL (some x) l else 9
    | none => chkL (some x) l)
def chk (l : List Off) : Int := if 64 < l.length then 4 else chkL none l
/-- The offer before place k. -/
def prev (l : List Off) : Nat → Option Off
  | 0 => none
  | k + 1 => l[k]?
theorem chkL_step {l : List Off} {k : Nat} (h : k < l.length) : chkL (prev l k) (l.drop k) = if l[k].ok = false then 2 else if h0 : 0 < k then (if (l[k - 1]'(by omega)).lt l[k] then chkL (prev l (k + 1)) (l.drop (k + 1)) else 9) else chkL (prev l (k + 1)) (l.drop (k + 1)) := by
  rw [List.drop_eq_getElem_cons h]
  cases k with
  | zero => simp [chkL, prev, h]
  | succ k =>
    have h1 : prev l (k + 1) = some (l[k]'(by omega)) := by simp [prev]
    have h2 : prev l (k + 1 + 1) = some l[k + 1] := by simp [prev, h]
    rw [h1, h2]
    simp [chkL]

theorem Rd.off {w : World} {A : Option Addr} {l : List Off} (h : Rd EOff w A l) {k : Nat} (hk : k < l.length) : ∃ b o, A = some ⟨b, o, none⟩ ∧ b < w.heap.size ∧
    w.cell? ⟨b, o + k * 8, none⟩ = some (.int .i64 l[k].id.a) ∧ w.cell? ⟨b, o + k * 8 + 1, none⟩ = some (.int .i64 l[k].id.b) ∧ w.cell? ⟨b, o + k * 8 + 2, none⟩ = some (.int .i64 l[k].id.c) ∧ w.cell? ⟨b, o + k * 8 + 3, none⟩ = some (.int .i64 l[k].id.d) ∧
    w.cell? ⟨b, o + k * 8 + 4, none⟩ = some (.int .i64 l[k].id.e) ∧ w.cell? ⟨b, o + k * 8 + 5, none⟩ = some (.int .i64 l[k].con) ∧ w.cell? ⟨b, o + k * 8 + 6, none⟩ = some (.int .i64 l[k].due) ∧ w.cell? ⟨b, o + k * 8 + 7, none⟩ = some (.int .i64 l[k].tries) := by
  obtain ⟨b, o, rfl, hb, hc⟩ := h.at hk
  exact ⟨b, o, rfl, hb, hc 0 _ rfl, hc 1 _ rfl, hc 2 _ rfl, hc 3 _ rfl, hc 4 _ rfl, hc 5 _ rfl, hc 6 _ rfl, hc 7 _ rfl⟩

set_option maxHeartbeats 2000000 in
theorem check_any (A : Option Addr) (c : Nat) (l : List Off) (w : World) (hA : Rd EOff w A l) (hmax : l.length ≤ 1000000) :
    Calls Try.prog 13 #[.slice A l.length c] w fun e w' => e = .returned (.int .i64 (chk l)) ∧ Ext w w' := by
  by_cases h64 : 64 < l.length
  · go_enter Try.func13, Try.ntmps13
    go_wp2
    go_ret
    exact ⟨ret_i64 (by unfold chk; rw [if_pos h64]), Ext.refl _⟩
  · go_enter Try.func13, Try.ntmps13
    go_wp2
    go_loopw [10] (fun i wr => ∃ k : Nat, k ≤ l.length ∧ i = .int .i64 k ∧ Hid (chk l = chkL (prev l k) (l.drop k)) ∧ Near w wr) (fun i _ => l.length - (intOf i).toNat)
    case atStart => exact ⟨0, Nat.zero_le _, rfl, Lib.hid (by unfold chk; rw [if_neg h64]; rfl), Near.refl _⟩
    case round =>
      obtain ⟨k, hk, rfl, hx, hN⟩ := hrel
      by_cases hlt : k < l.length
      · obtain ⟨b, o, rfl, hb, c0, c1, c2, c3, c4, c5, c6, c7⟩ := (hA.ext hN.1).off hlt
        have hst := Lib.hid (chkL_step hlt)
        generalize hxe : l[k] = x at *
        have Hx := Lib.hid hxe
        clear hxe
        cases hok : x.ok
        · go_wp2_with fail
          obtain ⟨W, hW, hB, hkb, hltW⟩ := box1 wr x.cells.toArray 26
          simp only [Off.cells] at hW hkb
          rw [hW]
          clear hW
          have hc := hkb.cell
          have hNW := hN.step hB
          have hN0 := hN
          clear hN
          have hN := Near.refl W
          go_wp2_with (go_at_call 28; refine (valid_any _ _).mono ?_; rintro e w1 ⟨rfl, hb⟩; replace hN := hN.step hb; have hC := hN.2)
          go_ret
          exact ⟨ret_i64 (by rw [hx.out, hst.out, if_pos hok]), (hNW.1).trans hN.1⟩
        · by_cases h0 : 0 < k
          · obtain ⟨b', o', e', hb', p0, p1, p2, p3, p4, p5, p6, p7⟩ := (hA.ext hN.1).off (show k - 1 < l.length by omega)
            injection e' with e'
            injection e' with e1 e2 _
            subst e1 e2
            have hst2 := Lib.hid (show chkL (prev l k) (l.drop k) = if (l[k - 1]'(by omega)).lt x then chkL (prev l (k + 1)) (l.drop (k + 1)) else 9 by rw [hst.out, if_neg (by simp [hok]), dif_pos h0])
            clear hst
            generalize l[k - 1]'(by omega) = q at *
            have hk1 : ((k : Int) - 1).toNat = k - 1 := by omega
            cases hq9 : q.lt x
            · have hcm : 0 ≤ q.cmp x := by simpa [Off.lt] using hq9
              go_wp2_with fail
              obtain ⟨W, hW, hB, hkb, hltW⟩ := box1 wr x.cells.toArray 26
              simp only [Off.cells] at hW hkb
              rw [hW]
              clear hW
              have hc := hkb.cell
              have hNW := hN.step hB
              have hbW : b < W.heap.size := Nat.lt_of_lt_of_le hb hB.size
              replace p0 := hB.cell_some p0
              replace p1 := hB.cell_some p1
              replace p2 := hB.cell_some p2
              replace p3 := hB.cell_some p3
              replace p4 := hB.cell_some p4
              replace p5 := hB.cell_some p5
              replace p6 := hB.cell_some p6
              replace p7 := hB.cell_some p7
              have hN0 := hN
              clear hN
              have hN := Near.refl W
              go_wp2_with (go_at_call 28; refine (valid_any _ _).mono ?_; rintro e w1 ⟨rfl, hb⟩; replace hN := hN.step hb; have hC := hN.2)
              have hq := quiet_near hN
              refine wp_region_quiet_below (by kernel_rfl) (by kernel_rfl) ?_
              repeat (first | go_big_quiet_skip | (go_big_quiet_want; go_big_quiet_op; first | go_big_quiet_on | (apply Exists.intro; refine ⟨fun _ => ?_, ?_⟩; (focus (first | (go_at_call 31; exact Calls.regrown_of (keyOf_any _ _)) | (go_at_call 33; exact Calls.regrown_of (compare_any _ _ _)))); go_big_quiet_on)))
              refine wpQuiet_nil ?_
              intro w1 hw1
              clear hq
              replace hw1 := quiet_ext hw1
              replace hN := hN.step hw1
              have hC := hN.2
              go_wp2
              go_ret
              exact ⟨ret_i64 (by rw [hx.out, hst2.out, hq9]; rfl), (hNW.1).trans hN.1⟩
            · have hcm : q.cmp x < 0 := by simpa [Off.lt] using hq9
              go_wp2_with fail
              obtain ⟨W, hW, hB, hkb, hltW⟩ := box1 wr x.cells.toArray 26
              simp only [Off.cells] at hW hkb
              rw [hW]
              clear hW
              have hc := hkb.cell
              have hNW := hN.step hB
              have hbW : b < W.heap.size := Nat.lt_of_lt_of_le hb hB.size
              replace p0 := hB.cell_some p0
              replace p1 := hB.cell_some p1
              replace p2 := hB.cell_some p2
              replace p3 := hB.cell_some p3
              replace p4 := hB.cell_some p4
              replace p5 := hB.cell_some p5
              replace p6 := hB.cell_some p6
              replace p7 := hB.cell_some p7
              have hN0 := hN
              clear hN
              have hN := Near.refl W
              go_wp2_with (go_at_call 28; refine (valid_any _ _).mono ?_; rintro e w1 ⟨rfl, hb⟩; replace hN := hN.step hb; have hC := hN.2)
              have hq := quiet_near hN
              refine wp_region_quiet_below (by kernel_rfl) (by kernel_rfl) ?_
              repeat (first | go_big_quiet_skip | (go_big_quiet_want; go_big_quiet_op; first | go_big_quiet_on | (apply Exists.intro; refine ⟨fun _ => ?_, ?_⟩; (focus (first | (go_at_call 31; exact Calls.regrown_of (keyOf_any _ _)) | (go_at_call 33; exact Calls.regrown_of (compare_any _ _ _)))); go_big_quiet_on)))
              refine wpQuiet_nil ?_
              intro w1 hw1
              clear hq
              replace hw1 := quiet_ext hw1
              replace hN := hN.step hw1
              have hC := hN.2
              go_wp2
              go_roundw
              case rel => exact ⟨k + 1, by omega, by go_num, Lib.hid (by rw [hx.out, hst2.out, hq9]; rfl), .of (hNW.1.trans hN.1)⟩
              case measure => simp [intOf]; omega
          · have hk0 : k = 0 := by omega
            have hst2 := Lib.hid (show chkL (prev l k) (l.drop k) = chkL (prev l (k + 1)) (l.drop (k + 1)) by rw [hst.out, if_neg (by simp [hok]), dif_neg h0])
            clear hst hk0
            have hd : decide (0 < (k : Int)) = false := by simp; omega
            go_wp2_with fail
            obtain ⟨W, hW, hB, hkb, hltW⟩ := box1 wr x.cells.toArray 26
            simp only [Off.cells] at hW hkb
            rw [hW]
            clear hW
            have hc := hkb.cell
            have hNW := hN.step hB
            have hN0 := hN
            clear hN
            have hN := Near.refl W
            go_wp2_with (go_at_call 28; refine (valid_any _ _).mono ?_; rintro e w1 ⟨rfl, hb⟩; replace hN := hN.step hb; have hC := hN.2)
            have hq := quiet_near hN
            refine wp_region_quiet_below (by kernel_rfl) (by kernel_rfl) ?_
            repeat (first | go_big_quiet_skip | (go_big_quiet_want; go_big_quiet_op; first | go_big_quiet_on | (apply Exists.intro; refine ⟨fun _ => ?_, ?_⟩; (focus (first | fail)); go_big_quiet_on)))
            refine wpQuiet_nil ?_
            intro w1 hw1
            clear hq
            replace hw1 := quiet_ext hw1
            replace hN := hN.step hw1
            have hC := hN.2
            go_wp2
            go_roundw
            case rel => exact ⟨k + 1, by omega, by go_num, Lib.hid (by rw [hx.out, hst2.out]), .of (hNW.1.trans hN.1)⟩
            case measure => simp [intOf]; omega
      · go_wp2
        go_ret
        refine ⟨ret_i64 ?_, hN.1⟩
        rw [hx.out, List.drop_eq_nil_of_le (by omega)]
        cases k <;> rfl

end Go.Proofs.Ytlhdmhgbclfneaa

/- Layer 44 (custody): the reference's Signal. -/
import Derived.Test.YtlhdmhgbclfneaaCusW14
namespace Go.Proofs.Ytlhdmhgbclfneaa
set_option linter.unusedVariables false
open Go.RowKit

def keepS (x : Bid) (con : Int) (acc : Bool) (o : Off) : Bool := !isKey x con o && (!acc || !idEq o.id x)
def rsigN (l : List Off) (x : Bid) (con : Int) (acc : Bool) : Int :=
  if chk l = 0 then if l.any (isKey x con) then if acc then 2 else 3 else 1 else 0
def rsigL (l : List Off) (x : Bid) (con : Int) (acc : Bool) : List Off :=
  if chk l = 0 then if l.any (isKey x con) then l.filter (keepS x con acc) else l else []

theorem any_succ {p : Off → Bool} {l : List Off} {k : Nat} {y : Off} (h : k < l.length) (hy : l[k] = y) : (l.take (k + 1)).any p = ((l.take k).any p || p y) := by
  rw [take_snoc h hy, List.any_append]; simp
theorem filter_yes {p : Off → Bool} {l : List Off} {k : Nat} {y : Off} (h : k < l.length) (hy : l[k] = y) (h1 : p y = true) : (l.take (k + 1)).filter p = (l.take k).filter p ++ [y] := by
  rw [take_snoc h hy, List.filter_append]; simp [h1]
theorem filter_no {p : Off → Bool} {l : List Off} {k : Nat} {y : Off} (h : k < l.length) (hy : l[k] = y) (h1 : p y = false) : (l.take (k + 1)).filter p = (l.take k).filter p := by
  rw [take_snoc h hy, List.filter_append]; simp [h1]
theorem val_bool {a b : Bool} (h : a = b) : Value.bool a = .bool b := by rw [h]

set_option maxRecDepth 100000 in
set_option maxHeartbeats 4000000 in
theorem rsignal_any (A : Option Addr) (c : Nat) (l : List Off) (x : Bid) (con : Int) (acc : Bool) (w : World) (hA : Rd EOff w A l) (hmax : l.length ≤ 1000000) :
    Calls Try.prog 18 #[.slice A l.length c, x.val, .int .i64 con, .bool acc] w (RetL2 w (rsigL l x con acc) (rsigN l x con acc) (sigE l)) := by
  obtain ⟨i0, hi0, hz0, hz1, hz2⟩ := info_parts info_off
  by_cases h0 : chk l = 0
  · have HS : Hid (rsigL l x con acc = if l.any (isKey x con) then l.filter (keepS x con acc) else l) := Lib.hid (by unfold rsigL; rw [if_pos h0])
    have HN : Hid (rsigN l x con acc = if l.any (isKey x con) then if acc then 2 else 3 else 1) := Lib.hid (by unfold rsigN; rw [if_pos h0])
    have HE : Hid (sigE l = 0) := Lib.hid (by unfold sigE; rw [if_pos h0])
    unfold Bid.val
    go_enter Try.func18, Try.ntmps18
    go_wp2_with fail
    obtain ⟨W, hW, hB, hk, hlt⟩ := box1 w x.arr 24
    simp only [Bid.arr] at hW hk
    rw [hW]
    clear hW
    refine (rcheck_any A c l W (hA.ext hB) hmax).mono ?_
    rintro e z1 ⟨rfl, hb1⟩
    rw [h0]
    have H0 := Lib.hid h0
    clear h0
    have hk1 := hk.ext hb1
    have hE1 := hB.trans hb1
    clear hk hb1 hB
    go_wp2
    go_loopw [11, 12, 13] (fun f u i wr => ∃ k : Nat, k ≤ l.length ∧ i = .int .i64 k ∧ f = .bool ((l.take k).any (isKey x con)) ∧ Owns EOff wr z1.heap.size 26 u ((l.take k).filter (keepS x con acc)) ∧ Ext z1 wr) (fun _ _ i _ => l.length - (intOf i).toNat)
    case atStart => exact ⟨0, Nat.zero_le _, rfl, rfl, Owns.made z1 _ _ (Nat.le_refl _), (Ext.refl _).alloc _⟩
    case round =>
      obtain ⟨k, hkl, rfl, rfl, hu, hN⟩ := hrel
      by_cases hlt : k < l.length
      · obtain ⟨b, o, rfl, hb, c0, c1, c2, c3, c4, c5, c6, c7⟩ := ((hA.ext hE1).ext hN).off hlt
        have hki := hk1.ext hN
        have hci := hki.cell
        have hlti := hki.lt
        generalize hxe : l[k] = y at *
        have Hx := Lib.hid hxe
        clear hxe
        have hN0 := hN
        clear hN
        have hN := Near.refl wr
        have he := run_eql_id y.id x
        have hky : isKey x con y = (idEq y.id x && y.con == con) := rfl
        have hkp : keepS x con acc y = (!isKey x con y && (!acc || !idEq y.id x)) := rfl
        have has := any_succ (p := isKey x con) hlt Hx.out
        have fl : ((l.take k).filter (keepS x con acc)).length ≤ 1000000 := Nat.le_trans (List.length_filter_le _ _) (Nat.le_trans (List.length_take_le _ _) (by omega))
        have hz0' : z1.heap.size ≤ wr.heap.size := hN0.size
        cases hid : idEq y.id x
        · have Has : Hid ((l.take (k + 1)).any (isKey x con) = (l.take k).any (isKey x con)) := Lib.hid (by rw [has, hky, hid]; simp)
          have Hfy := Lib.hid (filter_yes (p := keepS x con acc) hlt Hx.out (by rw [hkp, hky, hid]; simp))
          clear hky hkp has
          cases acc <;> cases hF : (l.take k).any (isKey x con)
          all_goals
            have HF := Lib.hid hF
            clear hF
            go_wp2
            have hq := quiet_near hN
            refine wp_region_quiet_below (by kernel_rfl) (by kernel_rfl) ?_
            repeat (first | go_big_quiet_skip | (go_big_quiet_want; go_big_quiet_op; first | go_big_quiet_on | (apply Exists.intro; refine ⟨fun _ => ?_, ?_⟩; (focus (first | fail)); go_big_quiet_on)))
            refine wpQuiet_nil ?_
            intro w1 hw1
            clear hq
            replace hw1 := quiet_ext hw1
            replace hN := hN.step hw1
            have hC := hN.2
            have hu1 := hu.ext hN.1
            have hs1 := hN.1.size
            have hE9 := hN0.trans hN.1
            go_wp2_with (at_builtin; refine wpList_push rfl (.tmp 58) (.tmp 63) _ rfl z1.heap.size 26 i0 _ 64 Try.underlying22 hi0 hz0 hz1 hz2 rfl u12 rfl (hu1.ext ((Ext.refl _).alloc _)) w1.heap.size y rfl (Blk.new w1 _ _) (by simp only [maxLen]; omega) (by omega) (by simp; omega) ?_; intro v6 w6 hv6 hg6 hat6; have hx6 := ext_grown (hE9.alloc _) (hu1.ext ((Ext.refl _).alloc _)) (Nat.le_refl _) hg6)
            go_roundw
            case rel => exact ⟨k + 1, by omega, by go_num, val_bool (by first | exact Has.out.symm | rw [Has.out, HF.out]), by rw [Hfy.out]; exact hv6, hx6⟩
            case measure => simp [intOf]; omega
        · cases hcn : y.con == con
          · have Has : Hid ((l.take (k + 1)).any (isKey x con) = (l.take k).any (isKey x con)) := Lib.hid (by rw [has, hky, hid, hcn]; simp)
            cases acc
            · have Hfy := Lib.hid (filter_yes (p := keepS x con false) hlt Hx.out (by rw [hkp, hky, hid, hcn]; simp))
              clear hky hkp has
              cases hF : (l.take k).any (isKey x con)
              all_goals
                have HF := Lib.hid hF
                clear hF
                go_wp2
                have hq := quiet_near hN
                refine wp_region_quiet_below (by kernel_rfl) (by kernel_rfl) ?_
                repeat (first | go_big_quiet_skip | (go_big_quiet_want; go_big_quiet_op; first | go_big_quiet_on | (apply Exists.intro; refine ⟨fun _ => ?_, ?_⟩; (focus (first | fail)); go_big_quiet_on)))
                refine wpQuiet_nil ?_
                intro w1 hw1
                clear hq
                replace hw1 := quiet_ext hw1
                replace hN := hN.step hw1
                have hC := hN.2
                have hu1 := hu.ext hN.1
                have hs1 := hN.1.size
                have hE9 := hN0.trans hN.1
                go_wp2_with (at_builtin; refine wpList_push rfl (.tmp 58) (.tmp 63) _ rfl z1.heap.size 26 i0 _ 64 Try.underlying22 hi0 hz0 hz1 hz2 rfl u12 rfl (hu1.ext ((Ext.refl _).alloc _)) w1.heap.size y rfl (Blk.new w1 _ _) (by simp only [maxLen]; omega) (by omega) (by simp; omega) ?_; intro v6 w6 hv6 hg6 hat6; have hx6 := ext_grown (hE9.alloc _) (hu1.ext ((Ext.refl _).alloc _)) (Nat.le_refl _) hg6)
                go_roundw
                case rel => exact ⟨k + 1, by omega, by go_num, val_bool (by first | exact Has.out.symm | rw [Has.out, HF.out]), by rw [Hfy.out]; exact hv6, hx6⟩
                case measure => simp [intOf]; omega
            · have Hfn := Lib.hid (filter_no (p := keepS x con true) hlt Hx.out (by rw [hkp, hky, hid, hcn]; simp))
              clear hky hkp has
              cases hF : (l.take k).any (isKey x con)
              all_goals
                have HF := Lib.hid hF
                clear hF
                go_wp2
                have hq := quiet_near hN
                refine wp_region_quiet_below (by kernel_rfl) (by kernel_rfl) ?_
                repeat (first | go_big_quiet_skip | (go_big_quiet_want; go_big_quiet_op; first | go_big_quiet_on | (apply Exists.intro; refine ⟨fun _ => ?_, ?_⟩; (focus (first | fail)); go_big_quiet_on)))
                refine wpQuiet_nil ?_
                intro w1 hw1
                clear hq
                replace hw1 := quiet_ext hw1
                replace hN := hN.step hw1
                have hC := hN.2
                have hu1 := hu.ext hN.1
                have hE9 := hN0.trans hN.1
                go_wp2
                go_roundw
                case rel => exact ⟨k + 1, by omega, by go_num, val_bool (by first | exact Has.out.symm | rw [Has.out, HF.out]), by rw [Hfn.out]; exact hu1, hE9⟩
                case measure => simp [intOf]; omega
          · have Has : Hid ((l.take (k + 1)).any (isKey x con) = true) := Lib.hid (by rw [has, hky, hid, hcn]; simp)
            have Hfn := Lib.hid (filter_no (p := keepS x con acc) hlt Hx.out (by rw [hkp, hky, hid, hcn]; simp))
            clear hky hkp has
            cases acc <;> cases hF : (l.take k).any (isKey x con)
            all_goals
              have HF := Lib.hid hF
              clear hF
              go_wp2
              have hq := quiet_near hN
              refine wp_region_quiet_below (by kernel_rfl) (by kernel_rfl) ?_
              repeat (first | go_big_quiet_skip | (go_big_quiet_want; go_big_quiet_op; first | go_big_quiet_on | (apply Exists.intro; refine ⟨fun _ => ?_, ?_⟩; (focus (first | fail)); go_big_quiet_on)))
              refine wpQuiet_nil ?_
              intro w1 hw1
              clear hq
              replace hw1 := quiet_ext hw1
              replace hN := hN.step hw1
              have hC := hN.2
              have hu1 := hu.ext hN.1
              have hE9 := hN0.trans hN.1
              go_wp2
              go_roundw
              case rel => exact ⟨k + 1, by omega, by go_num, val_bool (by first | exact Has.out.symm | rw [Has.out, HF.out]), by rw [Hfn.out]; exact hu1, hE9⟩
              case measure => simp [intOf]; omega
      · have ht : l.take k = l := List.take_of_length_le (by omega)
        rw [ht] at hu
        rw [ht]
        clear ht
        obtain ⟨A1, c1, rfl, hR1⟩ := hu.form
        cases hany : l.any (isKey x con)
        · have Hany := Lib.hid hany
          clear hany
          go_wp2
          go_ret3
          rw [HS.out, HN.out, HE.out, Hany.out]
          exact ⟨_, _, rfl, (hA.ext hE1).ext hN, hE1.trans hN⟩
        · have Hany := Lib.hid hany
          clear hany
          cases acc
          all_goals
            go_wp2
            go_ret3
            rw [HS.out, HN.out, HE.out, Hany.out]
            exact ⟨_, _, rfl, hR1, hE1.trans hN⟩
  · have HS : Hid (rsigL l x con acc = []) := Lib.hid (by unfold rsigL; rw [if_neg h0])
    have HN : Hid (rsigN l x con acc = 0) := Lib.hid (by unfold rsigN; rw [if_neg h0])
    have HE : Hid (sigE l = 1) := Lib.hid (by unfold sigE; rw [if_neg h0])
    have hd : (chk l != 0) = true := by simpa using h0
    have H0 := Lib.hid h0
    clear h0
    unfold Bid.val
    go_enter Try.func18, Try.ntmps18
    go_wp2_with fail
    refine (rcheck_any A c l _ (hA.ext ((Ext.refl _).alloc _)) hmax).mono ?_
    rintro e z1 ⟨rfl, hb1⟩
    go_wp2
    go_ret3
    rw [HS.out, HN.out, HE.out]
    exact ⟨_, 0, rfl, Rd.nil, (((Ext.refl w).alloc _).trans hb1).alloc _⟩

end Go.Proofs.Ytlhdmhgbclfneaa

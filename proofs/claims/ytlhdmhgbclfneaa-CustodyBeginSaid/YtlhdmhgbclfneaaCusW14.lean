/- Layer 44 (custody): the reference's Begin. -/
import Derived.Test.YtlhdmhgbclfneaaCusW13
namespace Go.Proofs.Ytlhdmhgbclfneaa
set_option linter.unusedVariables false
open Go.RowKit

def off0 (x : Bid) (con due : Int) (t : Nat) : Off := ⟨x, con, due, (t : Int)⟩
def rbegE (l : List Off) (x : Bid) (con due : Int) : Int :=
  if chk l = 0 then
    if (off0 x con due 0).ok then
      if l.any (isKey x con) then 6 else if l.length = 64 then 4 else 0
    else 2
  else 1
def rbegL (l : List Off) (x : Bid) (con due : Int) : List Off :=
  if rbegE l x con due = 0 then l.takeWhile (fun o => o.lt (begO l x con due)) ++ [begO l x con due] ++ l.dropWhile (fun o => o.lt (begO l x con due)) else []

def sameN (x : Bid) (l : List Off) (k : Nat) : Nat := ((l.take k).filter fun o => idEq o.id x).length
theorem sameN_le (x : Bid) (l : List Off) (k : Nat) : sameN x l k ≤ k := Nat.le_trans (List.length_filter_le _ _) (List.length_take_le _ _)
theorem sameN_step {x : Bid} {l : List Off} {k : Nat} {y : Off} (h : k < l.length) (hy : l[k] = y) : sameN x l (k + 1) = if idEq y.id x then sameN x l k + 1 else sameN x l k := by
  unfold sameN
  rw [take_snoc h hy, List.filter_append]
  split <;> rename_i h <;> simp [h]
theorem any_step {p : Off → Bool} {l : List Off} {k : Nat} {y : Off} (h : k < l.length) (hy : l[k] = y) (h0 : (l.take k).any p = false) (h1 : p y = false) : (l.take (k + 1)).any p = false := by
  rw [take_snoc h hy, List.any_append, h0]; simp [h1]
theorem any_hit {p : Off → Bool} {l : List Off} {k : Nat} {y : Off} (h : k < l.length) (hy : l[k] = y) (h1 : p y = true) : l.any p = true :=
  List.any_eq_true.2 ⟨y, hy ▸ List.getElem_mem h, h1⟩

theorem takeWhile_at {p : Off → Bool} : ∀ {l : List Off} {k : Nat}, k ≤ l.length → (l.take k).all p = true → (∀ h : k < l.length, p l[k] = false) → l.takeWhile p = l.take k ∧ l.dropWhile p = l.drop k
  | [], k, _, _, _ => by simp
  | x :: l, 0, _, _, h => by
    have := h (by simp)
    simp at this
    simp [List.takeWhile_cons, List.dropWhile_cons, this]
  | x :: l, k + 1, hk, ha, h => by
    simp at ha
    have ih := takeWhile_at (p := p) (l := l) (k := k) (by simpa using hk) (by simpa using ha.2) (fun hh => by have := h (by simpa using hh); simpa using this)
    simp [List.takeWhile_cons, List.dropWhile_cons, ha.1, ih.1, ih.2]

set_option maxRecDepth 100000 in
set_option maxHeartbeats 4000000 in
theorem rbegin_any (A : Option Addr) (c : Nat) (l : List Off) (x : Bid) (con due : Int) (w : World) (hA : Rd EOff w A l) (hmax : l.length ≤ 1000000) (hcap : l.length ≤ c) :
    Calls Try.prog 12 #[.slice A l.length c, x.val, .int .i64 con, .int .i64 due] w (RetL w (rbegL l x con due) (rbegE l x con due)) := by
  obtain ⟨i0, hi0, hz0, hz1, hz2⟩ := info_parts info_off
  have nope : rbegE l x con due ≠ 0 → rbegL l x con due = [] := fun h => by unfold rbegL; rw [if_neg h]
  by_cases h0 : chk l = 0
  · have HE : Hid (rbegE l x con due = if (off0 x con due 0).ok then
      if l.any (isKey x con) then 6 else if l.length = 64 then 4 else 0
      else 2) := Lib.hid (by unfold rbegE; rw [if_pos h0])
    unfold Bid.val
    go_enter Try.func12, Try.ntmps12
    go_wp2_with fail
    obtain ⟨W, hW, hB, hk, hlt⟩ := box1 w x.arr 24
    simp only [Bid.arr] at hW hk
    rw [hW]
    clear hW
    refine (rcheck_any A c l W (hA.ext hB) hmax).mono ?_
    rintro e z1 ⟨rfl, hb1⟩
    rw [h0]
    have H0 := Lib.hid h0
    clear h0
    have hk1 := hk.ext hb1
    have hc := hk1.cell
    go_wp2_with fail
    obtain ⟨W2, hW2, hB2, hk2, hlt2⟩ := box1 z1 (off0 x con due 0).cells.toArray 26
    simp only [Off.cells, off0] at hW2 hk2
    rw [show (((0 : Nat)) : Int) = 0 from rfl] at hW2 hk2
    rw [hW2]
    clear hW2
    have hv := rvalid_any (off0 x con due 0) W2
    refine hv.mono ?_
    clear hv
    rintro e w3 ⟨rfl, hb3⟩
    have hE3 : Ext w w3 := (hB.trans hb1).trans (hB2.trans hb3)
    cases hok : (off0 x con due 0).ok
    · go_wp2
      go_ret2
      have e1 : rbegE l x con due = 2 := by rw [HE.out, hok]; rfl
      rw [nope (by rw [e1]; decide), e1]
      exact ⟨_, 0, rfl, Rd.nil, hE3.alloc _⟩
    · have Hok := Lib.hid hok
      clear hok
      have hk3 := hk2.ext hb3
      clear hc
      go_wp2
      go_loopw [11] (fun i wr => ∃ k : Nat, k ≤ l.length ∧ i = .int .i64 k ∧ Blk wr z1.heap.size 26 (off0 x con due (sameN x l k)).cells.toArray ∧ Hid ((l.take k).any (isKey x con) = false) ∧ Ext z1 wr) (fun i _ => l.length - (intOf i).toNat)
      case atStart => exact ⟨0, Nat.zero_le _, rfl, hk3, Lib.hid rfl, hB2.trans hb3⟩
      case round =>
        obtain ⟨k, hkl, rfl, hkx, hno, hN⟩ := hrel
        by_cases hlt : k < l.length
        · obtain ⟨b, o, rfl, hb, c0, c1, c2, c3, c4, c5, c6, c7⟩ := ((hA.ext (hB.trans hb1)).ext hN).off hlt
          have hki := hk1.ext hN
          have hci := hki.cell
          have hlti := hki.lt
          generalize hxe : l[k] = y at *
          have Hx := Lib.hid hxe
          clear hxe
          have hN0 := hN
          clear hN
          have hN := Near.refl wr
          have hcx := hkx.cell
          have hltx := hkx.lt
          simp only [Off.cells, off0] at hcx
          have he := run_eql_id y.id x
          have hss := Lib.hid (sameN_step (x := x) hlt Hx.out)
          have hsn := sameN_le x l k
          have hky : isKey x con y = (idEq y.id x && y.con == con) := rfl
          cases hid : idEq y.id x
          · have Hky := Lib.hid (show isKey x con y = false by rw [hky, hid]; rfl)
            clear hky
            go_wp2
            have hq := quiet_near hN
            refine wp_region_quiet_below (by kernel_rfl) (by kernel_rfl) ?_
            repeat (first | go_big_quiet_skip | (go_big_quiet_want; go_big_quiet_op; first | go_big_quiet_on | (apply Exists.intro; refine ⟨fun _ => ?_, ?_⟩; (focus (first | fail)); go_big_quiet_on)))
            refine wpQuiet_nil ?_
            intro w1 hw1
            clear hq
            replace hw1 := quiet_ext hw1
            replace hN := hN.step hw1
            have hC := hN.2
            go_wp2
            have hq := quiet_near hN
            refine wp_region_quiet_below (by kernel_rfl) (by kernel_rfl) ?_
            repeat (first | go_big_quiet_skip | (go_big_quiet_want; go_big_quiet_op; first | go_big_quiet_on | (apply Exists.intro; refine ⟨fun _ => ?_, ?_⟩; (focus (first | fail)); go_big_quiet_on)))
            refine wpQuiet_nil ?_
            intro w1 hw1
            clear hq
            replace hw1 := quiet_ext hw1
            replace hN := hN.step hw1
            have hC := hN.2
            go_wp2
            go_roundw
            case rel => exact ⟨k + 1, by omega, by go_num, by rw [hss.out, hid]; exact hkx.ext hN.1, Lib.hid (any_step hlt Hx.out hno.out Hky.out), hN0.trans hN.1⟩
            case measure => simp [intOf]; omega
          · cases hcn : y.con == con
            · have Hky := Lib.hid (show isKey x con y = false by rw [hky, hid, hcn]; rfl)
              clear hky
              go_wp2
              have hq := quiet_near hN
              refine wp_region_quiet_below (by kernel_rfl) (by kernel_rfl) ?_
              repeat (first | go_big_quiet_skip | (go_big_quiet_want; go_big_quiet_op; first | go_big_quiet_on | (apply Exists.intro; refine ⟨fun _ => ?_, ?_⟩; (focus (first | fail)); go_big_quiet_on)))
              refine wpQuiet_nil ?_
              intro w1 hw1
              clear hq
              replace hw1 := quiet_ext hw1
              replace hN := hN.step hw1
              have hC := hN.2
              go_wp2
              have hq := quiet_near hN
              refine wp_region_quiet_below (by kernel_rfl) (by kernel_rfl) ?_
              repeat (first | go_big_quiet_skip | (go_big_quiet_want; go_big_quiet_op; first | go_big_quiet_on | (apply Exists.intro; refine ⟨fun _ => ?_, ?_⟩; (focus (first | fail)); go_big_quiet_on)))
              refine wpQuiet_nil ?_
              intro w1 hw1
              clear hq
              replace hw1 := quiet_ext hw1
              replace hN := hN.step hw1
              have hC := hN.2
              have hkn := hkx.ext hN.1
              have hcn2 := hkn.cell
              simp only [Off.cells, off0] at hcn2
              have hfn := hkn.frozen 7
              go_wp2
              go_roundw
              case rel =>
                refine ⟨k + 1, by omega, by go_num, ?_, Lib.hid (any_step hlt Hx.out hno.out Hky.out), (hN0.trans hN.1).setCell (Nat.le_refl _) _⟩
                rw [hss.out, hid]
                exact hkn.set_ 7 _
              case measure => simp [intOf]; omega
            · have Hky := Lib.hid (show isKey x con y = true by rw [hky, hid, hcn]; rfl)
              clear hky
              go_wp2
              have hq := quiet_near hN
              refine wp_region_quiet_below (by kernel_rfl) (by kernel_rfl) ?_
              repeat (first | go_big_quiet_skip | (go_big_quiet_want; go_big_quiet_op; first | go_big_quiet_on | (apply Exists.intro; refine ⟨fun _ => ?_, ?_⟩; (focus (first | fail)); go_big_quiet_on)))
              refine wpQuiet_nil ?_
              intro w1 hw1
              clear hq
              replace hw1 := quiet_ext hw1
              replace hN := hN.step hw1
              have hC := hN.2
              go_wp2
              go_ret2
              have e1 : rbegE l x con due = 6 := by rw [HE.out, if_pos Hok.out, if_pos (any_hit hlt Hx.out Hky.out)]
              rw [nope (by rw [e1]; decide), e1]
              exact ⟨_, 0, rfl, Rd.nil, (((hB.trans hb1).trans hN0).trans hN.1).alloc _⟩
        · have hkk : k = l.length := by omega
          subst hkk
          have hany : l.any (isKey x con) = false := by have := hno.out; rwa [List.take_length] at this
          have Hany := Lib.hid hany
          clear hany
          have hss : off0 x con due (sameN x l l.length) = begO l x con due := by unfold off0 begO sameN; rw [List.take_length]
          rw [hss] at hkx
          have hcx := hkx.cell
          simp only [Off.cells] at hcx
          clear hss
          by_cases h64 : l.length = 64
          · have hd : ((l.length : Int) == 64) = true := by rw [h64]; rfl
            have H64 := Lib.hid h64
            clear h64
            go_wp2
            go_ret2
            have e1 : rbegE l x con due = 4 := by rw [HE.out, if_pos Hok.out, if_neg (by rw [Hany.out]; decide), if_pos H64.out]
            rw [nope (by rw [e1]; decide), e1]
            exact ⟨_, 0, rfl, Rd.nil, ((hB.trans hb1).trans hN).alloc _⟩
          · have hd : ((l.length : Int) == 64) = false := by simp; omega
            have H64 := Lib.hid h64
            clear h64
            have e1 : Hid (rbegE l x con due = 0) := Lib.hid (by rw [HE.out, if_pos Hok.out, if_neg (by rw [Hany.out]; decide), if_neg H64.out])
            go_wp2
            obtain ⟨wo, rfl⟩ : ∃ wo : World, wo = wr := ⟨_, rfl⟩
            go_loopw [12, 13] (fun u i wl => ∃ k : Nat, k ≤ l.length ∧ i = .int .i64 k ∧ Owns EOff wl wo.heap.size 26 u (l.take k) ∧ Hid ((l.take k).all (fun o => o.lt (begO l x con due)) = true) ∧ Ext wo wl) (fun _ i _ => l.length - (intOf i).toNat)
            case atStart => exact ⟨0, Nat.zero_le _, rfl, Owns.made wo _ _ (Nat.le_refl _), Lib.hid rfl, (Ext.refl _).alloc _⟩
            case round =>
              obtain ⟨k, hkl, rfl, hu, hall, hN2⟩ := hrel
              have hkb := (hkx.ext hN2)
              have hcx := hkb.cell
              simp only [Off.cells] at hcx
              have hltx := hkb.lt
              have hNw := (hB.trans hb1).trans (hN.trans hN2)
              clear hlt
              by_cases hlt : k < l.length
              · obtain ⟨b, o, rfl, hb, c0, c1, c2, c3, c4, c5, c6, c7⟩ := (hA.ext hNw).off hlt
                generalize hxe : l[k] = y at *
                have Hx := Lib.hid hxe
                clear hxe
                cases hl9 : y.lt (begO l x con due)
                · have hN0 := hN
                  have hN9 := hN2
                  clear hN hN2
                  have hN := Near.refl wr
                  have htw := Lib.hid (takeWhile_at (p := fun o => o.lt (begO l x con due)) hkl hall.out (fun _ => by rw [Hx.out]; exact hl9))
                  have hct1 := fun w => run_cut (A := some ⟨b, o, none⟩) (n := l.length) (c := c) Try.underlying22 hi0 hz1 hkl w
                  have hct2 := fun w => run_cutAt (A := some ⟨b, o, none⟩) (n := l.length) (c := c) Try.underlying22 hi0 hz1 hkl w
                  have hrd := hA.cut hkl hcap
                  have htl : (l.take k).length ≤ 1000000 := Nat.le_trans (List.length_take_le _ _) (by omega)
                  have htd : (l.drop k).length ≤ 1000000 := by rw [List.length_drop]; omega
                  go_wp2
                  have hq := quiet_near hN
                  refine wp_region_quiet_below (by kernel_rfl) (by kernel_rfl) ?_
                  repeat (first | go_big_quiet_skip | (go_big_quiet_want; go_big_quiet_op; first | go_big_quiet_on | (apply Exists.intro; refine ⟨fun _ => ?_, ?_⟩; (focus (first | (go_at_call 35; exact Calls.regrown_of (rless_any _ _ _)))); go_big_quiet_on)))
                  refine wpQuiet_nil ?_
                  intro w1 hw1
                  clear hq
                  replace hw1 := quiet_ext hw1
                  replace hN := hN.step hw1
                  have hC := hN.2
                  have hc9 := (hkb.ext hN.1).cell
                  simp only [Off.cells] at hc9
                  have hs0 : wo.heap.size ≤ w1.heap.size := Nat.le_trans hN9.size hN.1.size
                  have hu1 := hu.ext hN.1
                  have hE9 : Ext w w1 := hNw.trans hN.1
                  have hz9 : w.heap.size ≤ wo.heap.size := ((hB.trans hb1).trans hN0).size
                  go_wp2_with (first
                    | (at_builtin; refine wpList_push rfl (.tmp 86) (.tmp 88) _ rfl wo.heap.size 26 i0 _ 64 Try.underlying22 hi0 hz0 hz1 hz2 rfl u12 rfl (hu1.ext ((Ext.refl _).alloc _)) w1.heap.size (begO l x con due) rfl (Blk.new w1 _ _) (by simp only [maxLen]; omega) (by omega) (by simp; omega) ?_; intro v6 w6 hv6 hg6 hat6; have hx6 := ext_grown (hE9.alloc _) (hu1.ext ((Ext.refl _).alloc _)) hz9 hg6; have hs6 := hg6.size)
                    | (at_builtin; refine wpList_cat (m := l.drop k) rfl (.tmp 90) (.tmp 93) _ rfl wo.heap.size 26 i0 _ 64 Try.underlying22 hi0 hz0 hz1 hz2 rfl v6 rfl hv6 _ _ rfl (by rw [List.length_drop]) (hrd.ext hx6) (by simp [maxLen]; omega) (by simp; omega) (by simp at hs6; omega) ?_; intro v7 w7 hv7 hg7 hat7))
                  obtain ⟨A7, c7, rfl, hR7⟩ := hv7.form
                  go_wp2
                  go_ret2
                  have e2 : rbegL l x con due = l.take k ++ [begO l x con due] ++ l.drop k := by unfold rbegL; rw [if_pos e1.out, htw.out.1, htw.out.2]
                  rw [e1.out, e2]
                  exact ⟨A7, c7, rfl, hR7, ext_grown hx6 hv6 hz9 hg7⟩
                · go_wp2
                  have hN9 := hN2
                  clear hN2
                  have hN0 := hN
                  clear hN
                  have hN := Near.refl wr
                  have hq := quiet_near hN
                  refine wp_region_quiet_below (by kernel_rfl) (by kernel_rfl) ?_
                  repeat (first | go_big_quiet_skip | (go_big_quiet_want; go_big_quiet_op; first | go_big_quiet_on | (apply Exists.intro; refine ⟨fun _ => ?_, ?_⟩; (focus (first | (go_at_call 35; exact Calls.regrown_of (rless_any _ _ _)))); go_big_quiet_on)))
                  refine wpQuiet_nil ?_
                  intro w1 hw1
                  clear hq
                  replace hw1 := quiet_ext hw1
                  replace hN := hN.step hw1
                  have hC := hN.2
                  have hu1 := hu.ext hN.1
                  have hs0 : wo.heap.size ≤ w1.heap.size := Nat.le_trans hN9.size hN.1.size
                  have hE9 : Ext wo w1 := hN9.trans hN.1
                  have htl : (l.take k).length ≤ 1000000 := Nat.le_trans (List.length_take_le _ _) (by omega)
                  go_wp2_with (at_builtin; refine wpList_push rfl (.tmp 77) (.tmp 82) _ rfl wo.heap.size 26 i0 _ 64 Try.underlying22 hi0 hz0 hz1 hz2 rfl u12 rfl (hu1.ext ((Ext.refl _).alloc _)) w1.heap.size y rfl (Blk.new w1 _ _) (by simp only [maxLen]; omega) (by omega) (by simp; omega) ?_; intro v6 w6 hv6 hg6 hat6; have hx6 := ext_grown (hE9.alloc _) (hu1.ext ((Ext.refl _).alloc _)) (Nat.le_refl _) hg6)
                  go_roundw
                  case rel =>
                    refine ⟨k + 1, by omega, by go_num, ?_, Lib.hid ?_, hx6⟩
                    · rw [take_snoc hlt Hx.out]; exact hv6
                    · rw [take_snoc hlt Hx.out, List.all_append, hall.out]; simp [hl9]
                  case measure => simp [intOf]; omega
              · have hd : decide (k < l.length) = false := by simp; omega
                have hN0 := hN
                have hN9 := hN2
                clear hN hN2
                have hN := Near.refl wr
                have htw := Lib.hid (takeWhile_at (p := fun o => o.lt (begO l x con due)) hkl hall.out (fun h => absurd h hlt))
                have hct1 := fun w => run_cut (A := A) (n := l.length) (c := c) Try.underlying22 hi0 hz1 hkl w
                have hct2 := fun w => run_cutAt (A := A) (n := l.length) (c := c) Try.underlying22 hi0 hz1 hkl w
                have hrd := hA.cut hkl hcap
                have htl : (l.take k).length ≤ 1000000 := Nat.le_trans (List.length_take_le _ _) (by omega)
                have htd : (l.drop k).length ≤ 1000000 := by rw [List.length_drop]; omega
                go_wp2
                have hq := quiet_near hN
                refine wp_region_quiet_below (by kernel_rfl) (by kernel_rfl) ?_
                repeat (first | go_big_quiet_skip | (go_big_quiet_want; go_big_quiet_op; first | go_big_quiet_on | (apply Exists.intro; refine ⟨fun _ => ?_, ?_⟩; (focus (first | fail)); go_big_quiet_on)))
                refine wpQuiet_nil ?_
                intro w1 hw1
                clear hq
                replace hw1 := quiet_ext hw1
                replace hN := hN.step hw1
                have hC := hN.2
                have hc9 := (hkb.ext hN.1).cell
                simp only [Off.cells] at hc9
                have hs0 : wo.heap.size ≤ w1.heap.size := Nat.le_trans hN9.size hN.1.size
                have hu1 := hu.ext hN.1
                have hE9 : Ext w w1 := hNw.trans hN.1
                have hz9 : w.heap.size ≤ wo.heap.size := ((hB.trans hb1).trans hN0).size
                go_wp2_with (first
                  | (at_builtin; refine wpList_push rfl (.tmp 86) (.tmp 88) _ rfl wo.heap.size 26 i0 _ 64 Try.underlying22 hi0 hz0 hz1 hz2 rfl u12 rfl (hu1.ext ((Ext.refl _).alloc _)) w1.heap.size (begO l x con due) rfl (Blk.new w1 _ _) (by simp only [maxLen]; omega) (by omega) (by simp; omega) ?_; intro v6 w6 hv6 hg6 hat6; have hx6 := ext_grown (hE9.alloc _) (hu1.ext ((Ext.refl _).alloc _)) hz9 hg6; have hs6 := hg6.size)
                  | (at_builtin; refine wpList_cat (m := l.drop k) rfl (.tmp 90) (.tmp 93) _ rfl wo.heap.size 26 i0 _ 64 Try.underlying22 hi0 hz0 hz1 hz2 rfl v6 rfl hv6 _ _ rfl (by rw [List.length_drop]) (hrd.ext hx6) (by simp [maxLen]; omega) (by simp; omega) (by simp at hs6; omega) ?_; intro v7 w7 hv7 hg7 hat7))
                obtain ⟨A7, c7, rfl, hR7⟩ := hv7.form
                go_wp2
                go_ret2
                have e2 : rbegL l x con due = l.take k ++ [begO l x con due] ++ l.drop k := by unfold rbegL; rw [if_pos e1.out, htw.out.1, htw.out.2]
                rw [e1.out, e2]
                exact ⟨A7, c7, rfl, hR7, ext_grown hx6 hv6 hz9 hg7⟩
  · have HE : Hid (rbegE l x con due = 1) := Lib.hid (by unfold rbegE; rw [if_neg h0])
    have hd : (chk l != 0) = true := by simpa using h0
    have H0 := Lib.hid h0
    clear h0
    unfold Bid.val
    go_enter Try.func12, Try.ntmps12
    go_wp2_with fail
    refine (rcheck_any A c l _ (hA.ext ((Ext.refl _).alloc _)) hmax).mono ?_
    rintro e z1 ⟨rfl, hb1⟩
    go_wp2
    go_ret2
    rw [nope (by rw [HE.out]; decide), HE.out]
    exact ⟨_, 0, rfl, Rd.nil, (((Ext.refl w).alloc _).trans hb1).alloc _⟩

end Go.Proofs.Ytlhdmhgbclfneaa


/- Layer 26 (reach): slices.Sort of at most twelve numbers. -/
import Derived.Test.YtmaengcmhopmbaaGreatRchD
import Derived.Lib.BitFns
import Derived.Lib.Tables
import Derived.Lib.Walk
namespace Go.Proofs.YtmaengcmhopmbaaGreat
set_option linter.unusedVariables false
set_option linter.unusedSimpArgs false
open Go.RowKit Go.Shelf

/-- Two numbers in order. -/
theorem lessI_any (x y : Int) (w : World) : Calls Tryz.prog 184 #[.int .i64 x, .int .i64 y] w fun e w' => e = .returned (.bool (decide (x < y))) ∧ Ext w w' := by
  go_enter Tryz.func184, Tryz.ntmps184
  go_wp2
  all_goals go_ret
  all_goals refine ⟨ret_bool ?_, Ext.refl _⟩
  all_goals simp_all
set_option maxHeartbeats 4000000 in
set_option maxRecDepth 100000 in
theorem len64_any (x : Int) (w : World) (h0 : 0 ≤ x) (h1 : x ≤ 255) : Calls Tryz.prog 165 #[.int .u64 x] w fun e w' => (∃ k, e = .returned (.int .i64 k)) ∧ w' = w := by
  go_enter Tryz.func165, Tryz.ntmps165
  go_wp2
  all_goals (go_ret; exact ⟨⟨_, rfl⟩, rfl⟩)
set_option maxRecDepth 100000 in
theorem len_any (x : Int) (w : World) (h0 : 0 ≤ x) (h1 : x ≤ 255) : Calls Tryz.prog 137 #[.int .u64 x] w fun e w' => (∃ k, e = .returned (.int .i64 k)) ∧ w' = w := by
  have hl := len64_any x w h0 h1
  go_enter Tryz.func137, Tryz.ntmps137
  go_wp2_with fail
  refine hl.mono ?_
  rintro e w1 ⟨⟨k, rfl⟩, rfl⟩
  go_wp2
  go_ret
  exact ⟨⟨_, rfl⟩, rfl⟩

def sw (m : List Int) (j : Nat) : List Int := (m.set (j + 1) (gi m j)).set j (gi m (j + 1))
theorem sw_len (m : List Int) (j : Nat) : (sw m j).length = m.length := by simp [sw]
theorem sw_gi {m : List Int} {j : Nat} (h : j + 1 < m.length) (q : Nat) : gi (sw m j) q = if q = j then gi m (j + 1) else if q = j + 1 then gi m j else gi m q := by
  unfold sw
  have h1 := gi_set (m := m.set (j + 1) (gi m j)) (i := (j : Int)) (j := (q : Int)) (v := gi m (j + 1)) (by simp; omega)
  have h2 := gi_set (m := m) (i := ((j + 1 : Nat) : Int)) (j := (q : Int)) (v := gi m j) (by simp; omega)
  simp only [Int.toNat_natCast] at h1 h2
  rw [h1, h2]
theorem perm_set2 {m : List Int} {a b : Nat} (ha : a < m.length) (hb : b < m.length) : ((m.set a m[b]).set b m[a]).Perm m := by
  exact List.set_set_perm ha hb
theorem sw_perm {m : List Int} {j : Nat} (h : j + 1 < m.length) : (sw m j).Perm m := by
  have e1 : gi m j = m[j] := gi_get (by omega)
  have e2 : gi m (j + 1) = m[j + 1] := gi_get (k := j + 1) h
  unfold sw
  rw [e1, e2]
  exact perm_set2 (a := j + 1) (b := j) h (by omega)
/-- The first i + 1 numbers are in order, but for the one at j. -/
def Ins (m : List Int) (i j : Nat) : Prop := ∀ p q : Nat, p < q → q ≤ i → q ≠ j → gi m p ≤ gi m q
theorem Ins.step {m : List Int} {i j : Nat} (h : Ins m i (j + 1)) (hj : j + 1 ≤ i) (hm : j + 1 < m.length) (hl : gi m (j + 1) < gi m j) : Ins (sw m j) i j := by
  intro p q hpq hqi hq
  rw [sw_gi hm, sw_gi hm]
  have e := Nat.lt_trichotomy q (j + 1)
  rw [if_neg (show ¬ q = j from hq)]
  by_cases e1 : q = j + 1
  · rw [if_pos e1]
    by_cases e2 : p = j
    · rw [if_pos e2]; omega
    · rw [if_neg e2, if_neg (by omega)]
      exact h p j (by omega) (by omega) (by omega)
  · rw [if_neg e1]
    by_cases e2 : p = j
    · rw [if_pos e2]
      exact h (j + 1) q (by omega) hqi e1
    · rw [if_neg e2]
      by_cases e3 : p = j + 1
      · rw [if_pos e3]
        exact h j q (by omega) hqi e1
      · rw [if_neg e3]
        exact h p q hpq hqi e1
theorem Ins.done {m : List Int} {i j : Nat} (h : Ins m i j) (hj : j = 0 ∨ ∃ k, j = k + 1 ∧ gi m k ≤ gi m j) : ∀ p q : Nat, p < q → q ≤ i → gi m p ≤ gi m q := by
  intro p q hpq hqi
  by_cases e : q = j
  · subst e
    rcases hj with e | ⟨k, e, hk⟩
    · omega
    · by_cases e2 : p = k
      · subst e2; exact hk
      · have := h p k (by omega) (by omega) (by omega)
        omega
  · exact h p q hpq hqi e
theorem Ins.start {m : List Int} {i : Nat} (h : ∀ p q : Nat, p < q → q < i → gi m p ≤ gi m q) : Ins m i i := fun p q hpq hqi hq => h p q hpq (by omega)

set_option maxRecDepth 100000 in
set_option maxHeartbeats 4000000 in
theorem insSort_any (g c : Nat) (l : List Int) (w0 w : World) (base : Nat) (hv : Owns EInt w base 3 (.slice (some ⟨g, 0, none⟩) l.length c) l) (hmax : l.length ≤ 12) (h0 : Ext w0 w) (hb0 : w0.heap.size ≤ base) (hg : base ≤ g) :
    Calls Tryz.prog 178 #[.slice (some ⟨g, 0, none⟩) l.length c, .int .i64 0, .int .i64 l.length] w fun e w' => e = .returned (.tuple #[]) ∧ ∃ m : List Int, Owns EInt w' base 3 (.slice (some ⟨g, 0, none⟩) l.length c) m ∧ m.Perm l ∧ (∀ p q : Nat, p < q → q < l.length → gi m p ≤ gi m q) ∧ Ext w0 w' := by
  go_enter Tryz.func178, Tryz.ntmps178
  go_wp2_with fail
  go_loopg [6] (l.length + 1) (fun q k wr => ∃ (i : Nat) (m : List Int), i + q = l.length + 2 ∧ k = .int .i64 i ∧ 1 ≤ i ∧ Owns EInt wr base 3 (.slice (some ⟨g, 0, none⟩) l.length c) m ∧ Hid (m.Perm l ∧ ∀ p q : Nat, p < q → q < i → q < l.length → gi m p ≤ gi m q) ∧ Ext w0 wr)
  case atStart => exact ⟨1, l, by omega, rfl, by omega, hv, Lib.hid ⟨List.Perm.refl _, fun p q h1 h2 => by omega⟩, h0⟩
  case round =>
    obtain ⟨i, m, hiq, rfl, hi1, hm, hpp, hx⟩ := hrel
    have Hiq := Lib.hid hiq
    have hik : i ≤ l.length + 2 := by omega
    clear hiq
    by_cases hlt : i < l.length
    · obtain ⟨wo, rfl⟩ : ∃ wo, wo = wr := ⟨_, rfl⟩
      obtain ⟨gko, rfl⟩ : ∃ g, g = gk := ⟨_, rfl⟩
      go_wp2_with fail
      go_loopg [7] i (fun q k wr => ∃ (j : Nat) (m : List Int), j = q ∧ k = .int .i64 j ∧ j ≤ i ∧ Owns EInt wr base 3 (.slice (some ⟨g, 0, none⟩) l.length c) m ∧ Hid (m.Perm l ∧ Ins m i j) ∧ Ext w0 wr)
      case atStart => exact ⟨i, m, rfl, rfl, Nat.le_refl _, hm, Lib.hid ⟨hpp.out.1, Ins.start fun p q h1 h2 => hpp.out.2 p q h1 h2 (by omega)⟩, hx⟩
      case round =>
        obtain ⟨j, m2, hjq, rfl, hji, hm2, hp2, hx2⟩ := hrel
        have Hjq := Lib.hid hjq
        have hl2 := hm2.len
        have hm2l : l.length ≤ m2.length := by omega
        clear hl2 hjq
        cases j with
        | zero =>
          have hfin := hp2.out.2.done (.inl rfl)
          have Hf := Lib.hid hfin
          clear hfin
          have hN := Near.refl wr
          go_wp2
          have hq := quiet_near hN
          refine wp_region_quiet_below (by kernel_rfl) (by kernel_rfl) ?_
          repeat (first | go_big_quiet_skip | (go_big_quiet_want; go_big_quiet_op; first | go_big_quiet_on | (apply Exists.intro; refine ⟨fun _ => ?_, ?_⟩; (focus (first | fail)); go_big_quiet_on)))
          refine wpQuiet_nil ?_
          intro w1 hw1
          clear hq
          replace hw1 := quiet_ext hw1
          replace hN := hN.step hw1
          have hC := hN.2
          go_wp2
          go_roundg (gko - 1)
          case measure => have := Hiq.out; omega
          case rel => exact ⟨i + 1, m2, by have := Hiq.out; omega, by go_num, by omega, hm2.ext hN.1, Lib.hid ⟨hp2.out.1, fun p q h1 h2 h3 => Hf.out p q h1 (by omega)⟩, hx2.trans hN.1⟩
        | succ j =>
          obtain ⟨hgl, hfz, c1⟩ := hm2.ints (k := j + 1) (by omega)
          obtain ⟨_, _, c0⟩ := hm2.ints (k := j) (by omega)
          rw [← gi_get (show j + 1 < m2.length by omega)] at c1
          rw [← gi_get (show j < m2.length by omega)] at c0
          have hjw : IntKind.i64.wrap (j : Int) = (j : Int) := IntWalk.i64_in _ (by omega)
          have hji2 : j ≤ i := by omega
          have hL := fun w => lessI_any (gi m2 ((j + 1 : Nat) : Int)) (gi m2 (j : Int)) w
          by_cases hxy : gi m2 ((j + 1 : Nat) : Int) < gi m2 (j : Int)
          · have d0 : decide (gi m2 ((j + 1 : Nat) : Int) < gi m2 (j : Int)) = true := decide_eq_true hxy
            rw [d0] at hL
            have hst := hp2.out.2.step hji (by omega) hxy
            have hpm := (sw_perm (m := m2) (j := j) (by omega)).trans hp2.out.1
            have Hst := Lib.hid (And.intro hpm hst)
            have hsw : ∀ W, Ext wr W → Owns EInt ((W.setCell ⟨g, j + 1, none⟩ (.int .i64 (gi m2 (j : Int)))).setCell ⟨g, j, none⟩ (.int .i64 (gi m2 ((j + 1 : Nat) : Int)))) base 3 (.slice (some ⟨g, 0, none⟩) l.length c) (sw m2 j) := fun W hW =>
              ((hm2.ext hW).seti (by omega) (gi m2 (j : Int))).seti (by simp; omega) (gi m2 ((j + 1 : Nat) : Int))
            have hsx : ∀ W, Ext wr W → Ext w0 ((W.setCell ⟨g, j + 1, none⟩ (.int .i64 (gi m2 (j : Int)))).setCell ⟨g, j, none⟩ (.int .i64 (gi m2 ((j + 1 : Nat) : Int)))) := fun W hW =>
              ((hx2.trans hW).setCell (by show w0.heap.size ≤ g; omega) _).setCell (by show w0.heap.size ≤ g; omega) _
            clear d0 hst hpm hxy
            generalize gi m2 ((j + 1 : Nat) : Int) = y1 at *
            generalize gi m2 (j : Int) = y0 at *
            have hN := Near.refl wr
            go_wp2
            have hq := quiet_near hN
            refine wp_region_quiet_below (by kernel_rfl) (by kernel_rfl) ?_
            repeat (first | go_big_quiet_skip | (go_big_quiet_want; go_big_quiet_op; first | go_big_quiet_on | (apply Exists.intro; refine ⟨fun _ => ?_, ?_⟩; (focus (first | (go_at_call 184; exact Calls.regrown_of (hL _)))); go_big_quiet_on)))
            refine wpQuiet_nil ?_
            intro w1 hw1
            clear hq
            replace hw1 := quiet_ext hw1
            replace hN := hN.step hw1
            have hC := hN.2
            have c1' := hN.1.cell_some c1
            have c0' := hN.1.cell_some c0
            have hgl' := Nat.lt_of_lt_of_le hgl hN.1.size
            have hfz' : ∀ i, w1.frozen? ⟨g, i, none⟩ = false := fun i => (hN.1.frozen (p := ⟨g, i, none⟩) hgl).trans (hfz i)
            go_wp2_with fail
            go_region
            obtain ⟨W5, hW5, hu5, hx5⟩ : ∃ W5, ((w1.setCell ⟨g, j + 1, none⟩ (.int .i64 y0)).setCell ⟨g, j, none⟩ (.int .i64 y1)).drew = W5 ∧ Owns EInt W5 base 3 (.slice (some ⟨g, 0, none⟩) l.length c) (sw m2 j) ∧ Ext w0 W5 :=
              ⟨_, rfl, (hsw w1 hN.1).ext ((Ext.refl _).drew), (hsx w1 hN.1).trans ((Ext.refl _).drew)⟩
            rw [hW5]
            clear hW5
            go_wp2_with fail
            go_roundg j
            case measure => have := Hjq.out; omega
            case rel => exact ⟨j, sw m2 j, rfl, by go_num, by omega, hu5, Hst, hx5⟩
          · have d0 : decide (gi m2 ((j + 1 : Nat) : Int) < gi m2 (j : Int)) = false := decide_eq_false hxy
            rw [d0] at hL
            have hfin := hp2.out.2.done (.inr ⟨j, rfl, by omega⟩)
            have Hf := Lib.hid hfin
            clear hfin d0 hxy
            generalize gi m2 ((j + 1 : Nat) : Int) = y1 at *
            generalize gi m2 (j : Int) = y0 at *
            have hN := Near.refl wr
            go_wp2
            have hq := quiet_near hN
            refine wp_region_quiet_below (by kernel_rfl) (by kernel_rfl) ?_
            repeat (first | go_big_quiet_skip | (go_big_quiet_want; go_big_quiet_op; first | go_big_quiet_on | (apply Exists.intro; refine ⟨fun _ => ?_, ?_⟩; (focus (first | (go_at_call 184; exact Calls.regrown_of (hL _)))); go_big_quiet_on)))
            refine wpQuiet_nil ?_
            intro w1 hw1
            clear hq
            replace hw1 := quiet_ext hw1
            replace hN := hN.step hw1
            have hC := hN.2
            go_wp2
            go_roundg (gko - 1)
            case measure => have := Hiq.out; omega
            case rel => exact ⟨i + 1, m2, by have := Hiq.out; omega, by go_num, by omega, hm2.ext hN.1, Lib.hid ⟨hp2.out.1, fun p q h1 h2 h3 => Hf.out p q h1 (by omega)⟩, hx2.trans hN.1⟩
    · go_wp2
      go_end0
      exact ⟨rfl, m, hm, hpp.out.1, fun p q h1 h2 => hpp.out.2 p q h1 (by omega) h2, hx⟩

theorem gi_sorted {m : List Int} (h : ∀ p q : Nat, p < q → q < m.length → gi m p ≤ gi m q) : m.Pairwise (· ≤ ·) := by
  rw [List.pairwise_iff_getElem]
  intro i j hi hj hij
  have := h i j hij hj
  rwa [gi_get hi, gi_get hj] at this

set_option maxRecDepth 100000 in
set_option maxHeartbeats 4000000 in
theorem sort_any (v : Value) (l : List Int) (w0 w : World) (base : Nat) (hv : Owns EInt w base 3 v l) (hmax : l.length ≤ 12) (hpos : 0 < l.length) (h0 : Ext w0 w) (hb0 : w0.heap.size ≤ base) :
    Calls Tryz.prog 149 #[v] w fun e w' => e = .returned (.tuple #[]) ∧ ∃ m : List Int, Owns EInt w' base 3 v m ∧ m.Perm l ∧ m.Pairwise (· ≤ ·) ∧ Ext w0 w' := by
  rcases hv.2 with ⟨_, h2⟩ | ⟨g, c, cur, h1, hg, _⟩
  · omega
  subst h1
  have hlen := fun w => len_any (l.length : Int) w (by omega) (by omega)
  have hins := fun w hv h0 => insSort_any g c l w0 w base hv hmax h0 hb0 hg
  have hmx : (l.length : Int) ≤ 12 := by omega
  have hpdq : ∀ (k : Int) w, Ext w0 w → Owns EInt w base 3 (.slice (some ⟨g, 0, none⟩) l.length c) l → Calls Tryz.prog 169 #[.slice (some ⟨g, 0, none⟩) l.length c, .int .i64 0, .int .i64 l.length, .int .i64 k] w fun e w' => e = .returned (.tuple #[]) ∧ ∃ m : List Int, Owns EInt w' base 3 (.slice (some ⟨g, 0, none⟩) l.length c) m ∧ m.Perm l ∧ (∀ p q : Nat, p < q → q < l.length → gi m p ≤ gi m q) ∧ Ext w0 w' := fun k w hx ho => by
    have hd : decide ((l.length : Int) ≤ 12) = true := decide_eq_true hmx
    clear hlen
    go_enter Tryz.func169, Tryz.ntmps169
    go_wp2_with fail
    go_loopg [1, 2] 0 (fun q a b wr => a = .int .i64 0 ∧ b = .int .i64 l.length ∧ wr = w)
    case atStart => exact ⟨rfl, rfl, rfl⟩
    case round =>
      obtain ⟨rfl, rfl, rfl⟩ := hrel
      go_wp2_with fail
      refine (hins _ ho hx).mono ?_
      rintro e w1 ⟨rfl, m, h1, h2, h3, h4⟩
      go_wp2_with fail
      refine bodyPost_ret (results_none rfl _ _ _) rfl ?_
      exact ⟨rfl, m, h1, h2, h3, h4⟩
  clear hins
  go_enter Tryz.func149, Tryz.ntmps149
  go_wp2_with fail
  refine (hlen _).mono ?_
  rintro e w1 ⟨⟨k, rfl⟩, rfl⟩
  go_wp2_with fail
  refine (hpdq k _ h0 hv).mono ?_
  rintro e w2 ⟨rfl, m, h1, h2, h3, h4⟩
  go_wp2_with fail
  go_end0
  exact ⟨rfl, m, h1, h2, gi_sorted (fun p q h5 h6 => h3 p q h5 (by rw [h2.length_eq] at h6; exact h6)), h4⟩

end Go.Proofs.YtmaengcmhopmbaaGreat


/- Layer 6 (stepfn) on the functions of layer 26: the walks of Check, value and At at a normalized function. -/
import Derived.Test.YtifopbkhflpbfaaGreatPlnA
import Derived.Test.YtifopbkhflpbfaaGreatPlnW1
namespace Go.Proofs.YtifopbkhflpbfaaGreat
set_option linter.unusedVariables false
set_option linter.unusedSimpArgs false
open Go.RowKit Go.Shelf

structure LevOk (f : List Lev) : Prop where
  len : f.length ≤ 1000
  rng : ∀ x ∈ f, 0 ≤ x.tm ∧ x.tm ≤ 1099511627776 ∧ -1125899906842624 ≤ x.val ∧ x.val ≤ 1125899906842624
  ord : ∀ (i : Nat) (h : i + 1 < f.length), f[i].tm < f[i + 1].tm ∧ f[i].val ≠ f[i + 1].val
  fst : ∀ (h : 0 < f.length), f[0].val ≠ 0
def LevC (f : List Lev) (k : Nat) (bt bv : Int) : Prop := ∀ (h : k < f.length), bt < f[k].tm ∧ f[k].val ≠ bv

set_option maxRecDepth 100000 in
set_option maxHeartbeats 4000000 in
theorem fcheck_any (A : Option Addr) (c : Nat) (f : List Lev) (w : World) (h : Rd ELev w A f) (hf : LevOk f) :
    Calls Tryz.prog 31 #[.slice A f.length c] w fun e w' => e = .returned (.int .i64 0) ∧ Ext w w' := by
  have hfl := hf.len
  have hd0 : decide ((1000 : Int) < (f.length : Int)) = false := decide_eq_false (by omega)
  go_enter Tryz.func31, Tryz.ntmps31
  go_wp2_with fail
  obtain ⟨W, hW, hB, hk, hlt⟩ := box1 w #[.int .i64 (-1), .int .i64 0] 39
  rw [hW]
  clear hW
  go_loopg [12] f.length (fun n i wr => ∃ (k : Nat) (bt bv : Int), k + n = f.length ∧ i = .int .i64 k ∧ Hid (LevC f k bt bv) ∧ Blk wr w.heap.size 39 #[.int .i64 bt, .int .i64 bv] ∧ Ext w wr)
  case atStart => exact ⟨0, -1, 0, by omega, rfl, Lib.hid (fun h => ⟨by have := (hf.rng _ (List.getElem_mem h)).1; omega, hf.fst h⟩), hk, hB⟩
  case round =>
    obtain ⟨k, bt, bv, hkn, rfl, hC, kb, hF⟩ := hrel
    have Hkn := Lib.hid hkn
    have hcb := kb.cell
    have hfb := kb.frozen
    have hlb := kb.lt
    by_cases hlt : k < f.length
    · obtain ⟨b, o, rfl, hb, c0, c1⟩ := (h.ext hF).lev hlt
      obtain ⟨r0, r1, r2, r3⟩ := hf.rng _ (List.getElem_mem hlt)
      have hC2 := hC.out hlt
      have hnx : LevC f (k + 1) f[k].tm f[k].val := fun h2 => ⟨(hf.ord k h2).1, fun e => (hf.ord k h2).2 e.symm⟩
      have Hnx := Lib.hid hnx
      generalize f[k] = x at *
      obtain ⟨xt, xv⟩ := x
      simp only at c0 c1 r0 r1 r2 r3 hC2
      obtain ⟨W3, hW3, hB3, hk3, hl3⟩ := box1 wr #[.int .i64 xt, .int .i64 xv] 39
      have kb3 := kb.ext hB3
      have hcb3 := kb3.cell
      have hfb3 := kb3.frozen
      have hlb3 := kb3.lt
      have hc3 := hk3.cell
      have hl3b := hk3.lt
      have d1 : decide (xt < 0) = false := decide_eq_false (by omega)
      have d2 : decide (1099511627776 < xt) = false := decide_eq_false (by omega)
      have d3 : decide (xv < -1125899906842624) = false := decide_eq_false (by omega)
      have d4 : decide (1125899906842624 < xv) = false := decide_eq_false (by omega)
      have d5 : decide (xt ≤ bt) = false := decide_eq_false (by omega)
      have d6 : (xv == bv) = false := by simpa using hC2.2
      have hsz := hF.size
      have hFF := hF.trans hB3
      clear hC2 hnx hkn
      go_wp2
      clear hW3
      go_roundg (gk - 1)
      case measure => have := Hkn.out; omega
      case rel =>
        exact ⟨k + 1, xt, xv, by have := Hkn.out; omega, by go_num, Hnx, (kb3.set_ 0 _).set_ 1 _, (hFF.setCell (Nat.le_refl _) _).setCell (Nat.le_refl _) _⟩
    · go_wp2
      go_ret
      exact ⟨rfl, hF⟩

/-- Where a time lies among the levels. -/
def IsCut (f : List Lev) (t : Int) (i : Nat) : Prop := i ≤ f.length ∧ (∀ (k : Nat) (h : k < f.length), k < i → f[k].tm < t) ∧ (∀ (k : Nat) (h : k < f.length), i ≤ k → t ≤ f[k].tm)
theorem IsCut.unique {f : List Lev} {t : Int} {i j : Nat} (h : IsCut f t i) (h' : IsCut f t j) : i = j := by
  rcases Nat.lt_trichotomy i j with hh | hh | hh
  · have a := h'.2.1 i (by have := h'.1; omega) hh
    have b := h.2.2 i (by have := h'.1; omega) (Nat.le_refl _)
    omega
  · exact hh
  · have a := h.2.1 j (by have := h.1; omega) hh
    have b := h'.2.2 j (by have := h.1; omega) (Nat.le_refl _)
    omega
theorem LevOk.sorted {f : List Lev} (hf : LevOk f) : ∀ (d i : Nat) (h : i + d < f.length), f[i].tm ≤ (f[i + d]'h).tm
  | 0, i, h => Int.le_refl _
  | d + 1, i, h => by
    have h1 := hf.sorted d i (by omega)
    have h2 := (hf.ord (i + d) (by omega)).1
    have e : f[i + d + 1]'(by omega) = f[i + (d + 1)]'h := rfl
    rw [e] at h2
    omega
theorem LevOk.le {f : List Lev} (hf : LevOk f) {i j : Nat} (hij : i ≤ j) (hj : j < f.length) : (f[i]'(by omega)).tm ≤ f[j].tm := by
  have h := hf.sorted (j - i) i (by omega)
  have e : i + (j - i) = j := by omega
  simp only [e] at h
  exact h
def gl (f : List Lev) (i : Nat) : Lev := f.getD i ⟨0, 0⟩
theorem gl_get {f : List Lev} {i : Nat} (h : i < f.length) : gl f i = f[i] := by simp [gl, h]
/-- The value there. -/
def valI (f : List Lev) (t : Int) (i : Nat) : Int := if i < f.length ∧ (gl f i).tm = t then (gl f i).val else if i = 0 then 0 else (gl f (i - 1)).val

theorem cmpLev_any (x : Lev) (t : Int) (w : World) (hx : 0 ≤ x.tm ∧ x.tm ≤ 1099511627776) (ht : 0 ≤ t ∧ t ≤ 1099511627776) :
    Calls Tryz.prog 48 #[.agg #[.int .i64 x.tm, .int .i64 x.val], .int .i64 t] w fun e w' => e = .returned (.int .i64 (x.tm - t)) ∧ Ext w w' := by
  obtain ⟨h0, h1⟩ := hx
  obtain ⟨t0, t1⟩ := ht
  go_enter Tryz.func48, Tryz.ntmps48
  go_wp2
  go_ret
  exact ⟨rfl, (Ext.refl _).alloc _⟩

set_option maxRecDepth 100000 in
set_option maxHeartbeats 4000000 in
theorem bsearch_any (A : Option Addr) (c : Nat) (f : List Lev) (t : Int) (w : World) (h : Rd ELev w A f) (hf : LevOk f) (ht : 0 ≤ t ∧ t ≤ 1099511627776) :
    Calls Tryz.prog 47 #[.slice A f.length c, .int .i64 t, .func (.func 48) #[] #[]] w fun e w' => ∃ i : Nat, IsCut f t i ∧ e = .returned (.tuple #[.int .i64 i, .bool (decide (i < f.length ∧ (gl f i).tm = t))]) ∧ Ext w w' := by
  have hen := enters_of Tryz.func48 (by kernel_rfl) rfl
  have hfl := hf.len
  go_enter Tryz.func47, Tryz.ntmps47
  go_wp2
  go_loopg [9, 10] f.length (fun n u9 u10 wr => ∃ i j : Nat, i ≤ j ∧ j ≤ f.length ∧ n = j - i ∧ u9 = .int .i64 i ∧ u10 = .int .i64 j ∧ Hid (∀ (k : Nat) (h : k < f.length), k < i → f[k].tm < t) ∧ Hid (∀ (k : Nat) (h : k < f.length), j ≤ k → t ≤ f[k].tm) ∧ Ext w wr)
  case atStart => exact ⟨0, f.length, Nat.zero_le _, Nat.le_refl _, rfl, rfl, rfl, Lib.hid (fun k _ hk => by omega), Lib.hid (fun k h hk => by omega), Ext.refl _⟩
  case round =>
    obtain ⟨i, j, hij, hjl, hn, rfl, rfl, hlo, hhi, hF⟩ := hrel
    have Hn := Lib.hid hn
    clear hn
    by_cases hlt : i < j
    · have hsum : (i : Int) + (j : Int) ≤ 2000 := by omega
      obtain ⟨m, hm⟩ : ∃ m : Nat, ((i : Int) + (j : Int)) / 2 = (m : Int) := ⟨(i + j) / 2, by omega⟩
      have hm1 : i ≤ m := by omega
      have hm2 : m < j := by omega
      have hml : m < f.length := by omega
      obtain ⟨b, o, rfl, hb, c0, c1⟩ := (h.ext hF).lev hml
      obtain ⟨r0, r1, _, _⟩ := hf.rng _ (List.getElem_mem hml)
      have hcm := cmpLev_any f[m] t wr ⟨r0, r1⟩ ht
      have Hup := Lib.hid (show f[m].tm < t → ∀ (k : Nat) (h : k < f.length), k < m + 1 → f[k].tm < t from fun h1 k hk hk2 => by
        have := hf.le (i := k) (j := m) (by omega) hml; omega)
      have Hdn := Lib.hid (show t ≤ f[m].tm → ∀ (k : Nat) (h : k < f.length), m ≤ k → t ≤ f[k].tm from fun h1 k hk hk2 => by
        have := hf.le (i := m) (j := k) hk2 hk; omega)
      generalize f[m] = x at *
      obtain ⟨xt, xv⟩ := x
      simp only at c0 c1 r0 r1 hcm
      obtain ⟨d, hd⟩ : ∃ d, xt - t = d := ⟨_, rfl⟩
      rw [hd] at hcm
      have Hd := Lib.hid hd
      clear hd
      by_cases hdn : d < 0
      · have hdd : decide (d < 0) = true := decide_eq_true hdn
        have Hlo2 := Lib.hid (Hup.out (show xt < t by have := Hd.out; omega))
        clear hdn
        go_wp2_with fail
        refine hcm.mono ?_
        rintro e w1 ⟨rfl, hb1⟩
        go_wp2
        go_roundg (j - (m + 1))
        case measure => have := Hn.out; omega
        case rel => exact ⟨m + 1, j, by omega, hjl, rfl, by go_num, rfl, Hlo2, hhi, hF.trans hb1⟩
      · have hdd : decide (d < 0) = false := decide_eq_false hdn
        have Hhi2 := Lib.hid (Hdn.out (show t ≤ xt by have := Hd.out; omega))
        clear hdn
        go_wp2_with fail
        refine hcm.mono ?_
        rintro e w1 ⟨rfl, hb1⟩
        go_wp2
        go_roundg (m - i)
        case measure => have := Hn.out; omega
        case rel => exact ⟨i, m, by omega, by omega, rfl, rfl, rfl, hlo, Hhi2, hF.trans hb1⟩
    · have hij2 : i = j := by omega
      subst hij2
      have Hcut := Lib.hid (show IsCut f t i from ⟨hjl, hlo.out, hhi.out⟩)
      by_cases hil : i < f.length
      · obtain ⟨b, o, rfl, hb, c0, c1⟩ := (h.ext hF).lev hil
        obtain ⟨r0, r1, _, _⟩ := hf.rng _ (List.getElem_mem hil)
        have hcm := cmpLev_any f[i] t wr ⟨r0, r1⟩ ht
        have Hgl := Lib.hid (gl_get hil)
        have hili : (i : Int) < (f.length : Int) := by omega
        generalize f[i] = x at *
        obtain ⟨xt, xv⟩ := x
        simp only at c0 c1 r0 r1 hcm
        obtain ⟨d, hd⟩ : ∃ d, xt - t = d := ⟨_, rfl⟩
        rw [hd] at hcm
        have Hd := Lib.hid hd
        clear hd
        by_cases hd0 : d = 0
        · have hdd : (d == 0) = true := by simpa using hd0
          have Hr := Lib.hid (show decide (i < f.length ∧ (gl f i).tm = t) = true from decide_eq_true ⟨hil, by rw [Hgl.out]; show xt = t; have := Hd.out; omega⟩)
          clear hd0
          go_wp2_with fail
          refine hcm.mono ?_
          rintro e w1 ⟨rfl, hb1⟩
          go_wp2
          go_ret2
          exact ⟨i, Hcut.out, by rw [Hr.out]; rfl, hF.trans hb1⟩
        · have hdd : (d == 0) = false := by simpa using hd0
          have Hr := Lib.hid (show decide (i < f.length ∧ (gl f i).tm = t) = false from decide_eq_false (fun hh => by
            have h2 := hh.2
            rw [Hgl.out] at h2
            have h3 : xt = t := h2
            have := Hd.out
            omega))
          clear hd0
          go_wp2_with fail
          refine hcm.mono ?_
          rintro e w1 ⟨rfl, hb1⟩
          go_wp2
          go_ret2
          exact ⟨i, Hcut.out, by rw [Hr.out]; rfl, hF.trans hb1⟩
      · have Hr := Lib.hid (show decide (i < f.length ∧ (gl f i).tm = t) = false from decide_eq_false (fun hh => hil hh.1))
        go_wp2
        go_ret2
        exact ⟨i, Hcut.out, by rw [Hr.out]; rfl, hF⟩

set_option maxRecDepth 100000 in
set_option maxHeartbeats 4000000 in
theorem fvalue_any (A : Option Addr) (c : Nat) (f : List Lev) (t : Int) (w : World) (h : Rd ELev w A f) (hf : LevOk f) (ht : 0 ≤ t ∧ t ≤ 1099511627776) :
    Calls Tryz.prog 32 #[.slice A f.length c, .int .i64 t] w fun e w' => ∃ i : Nat, IsCut f t i ∧ e = .returned (.int .i64 (valI f t i)) ∧ Ext w w' := by
  have hfl := hf.len
  have hbs := bsearch_any A c f t w h hf ht
  go_enter Tryz.func32, Tryz.ntmps32
  go_wp2_with fail
  refine hbs.mono ?_
  clear hbs
  rintro e w1 ⟨i, hcut, rfl, hb1⟩
  have hil := hcut.1
  have Hcut := Lib.hid hcut
  clear hcut
  by_cases hx : i < f.length ∧ (gl f i).tm = t
  · have hd : decide (i < f.length ∧ (gl f i).tm = t) = true := decide_eq_true hx
    have Hv := Lib.hid (show valI f t i = (gl f i).val by unfold valI; rw [if_pos hx])
    have hlt := hx.1
    obtain ⟨b, o, rfl, hb, c0, c1⟩ := (h.ext hb1).lev hlt
    rw [← gl_get hlt] at c0 c1
    rw [hd]
    clear hx hd
    go_wp2
    go_ret
    exact ⟨i, Hcut.out, by rw [Hv.out]; rfl, hb1⟩
  · have hd : decide (i < f.length ∧ (gl f i).tm = t) = false := decide_eq_false hx
    rw [hd]
    by_cases hi0 : i = 0
    · have Hv := Lib.hid (show valI f t i = 0 by unfold valI; rw [if_neg hx, if_pos hi0])
      have Hcut0 := Lib.hid (show IsCut f t 0 by have := Hcut.out; rw [hi0] at this; exact this)
      subst hi0
      clear hx hd
      go_wp2
      go_ret
      exact ⟨0, Hcut0.out, by rw [Hv.out]; rfl, hb1⟩
    · have Hv := Lib.hid (show valI f t i = (gl f (i - 1)).val by unfold valI; rw [if_neg hx, if_neg hi0])
      obtain ⟨k, rfl⟩ : ∃ k, i = k + 1 := ⟨i - 1, by omega⟩
      have hlt : k < f.length := by omega
      obtain ⟨b, o, rfl, hb, c0, c1⟩ := (h.ext hb1).lev hlt
      rw [← gl_get hlt] at c0 c1
      have hkl : (k : Int) < (f.length : Int) := by omega
      have hk1 : ((k : Int) + 1 == 0) = false := by simp; omega
      clear hx hd hi0
      go_wp2
      go_ret
      exact ⟨k + 1, Hcut.out, by rw [Hv.out]; rfl, hb1⟩

set_option maxHeartbeats 1000000 in
theorem fat_any (A : Option Addr) (c : Nat) (f : List Lev) (t : Int) (w : World) (h : Rd ELev w A f) (hf : LevOk f) (ht : 0 ≤ t ∧ t ≤ 1099511627776) :
    Calls Tryz.prog 16 #[.slice A f.length c, .int .i64 t] w fun e w' => ∃ i : Nat, IsCut f t i ∧ e = .returned (.int .i64 (valI f t i)) ∧ Ext w w' := by
  have hck := fcheck_any A c f w h hf
  have hv := fun w1 (hb : Ext w w1) => fvalue_any A c f t w1 (h.ext hb) hf ht
  obtain ⟨t0, t1⟩ := ht
  have hmn : min t 1099511627776 = t := by omega
  have hd : decide (t < 0) = false := decide_eq_false (by omega)
  go_enter Tryz.func16, Tryz.ntmps16
  go_wp2_with fail
  refine hck.mono ?_
  clear hck
  rintro e w1 ⟨rfl, hb1⟩
  go_wp2_with fail
  refine (hv _ hb1).mono ?_
  rintro e w2 ⟨i, hcut, rfl, hb2⟩
  go_wp2
  go_ret
  exact ⟨i, hcut, rfl, hb1.trans hb2⟩

end Go.Proofs.YtifopbkhflpbfaaGreat

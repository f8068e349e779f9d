
/- Layer 24 (journey): the walks of the reference's visited, Check and SameHops. -/
import Derived.Test.YtgmfnhianhngiaaJrC1
import Derived.Laws.StructEq
import Derived.LaidEql
namespace Go.Proofs.Ytgmfnhianhngiaa
set_option linter.unusedVariables false
set_option linter.unusedSimpArgs false
open Go.RowKit Go.Shelf

set_option maxHeartbeats 2000000 in
theorem sameHops24_any (A B : Option Addr) (c d : Nat) (l m : List Hp) (w : World) (hA : Rd EHp w A l) (hB : Rd EHp w B m) (hmax : l.length ≤ 1099511627776) (hmax2 : m.length ≤ 1099511627776) :
    Calls Try.prog 24 #[.slice A l.length c, .slice B m.length d] w fun e w' => e = .returned (.bool (eqLB hpEq l m)) ∧ Ext w w' := by
  by_cases hlm : l.length = m.length
  · have h1 : l.length ≤ m.length := by omega
    have h2 : m.length ≤ l.length := by omega
    have hnn : ((l.length : Int) != (m.length : Int)) = false := by simp; omega
    have hnn2 : (l.length != m.length) = false := by simp; omega
    clear hlm
    go_enter Try.func24, Try.ntmps24
    go_wp2
    go_loopg [5] l.length (fun q i wr => ∃ k : Nat, k + q = l.length ∧ i = .int .i64 k ∧ eqLB hpEq l m = eqLB hpEq (l.drop k) (m.drop k) ∧ Ext w wr)
    case atStart => exact ⟨0, by omega, rfl, rfl, Ext.refl _⟩
    case round =>
      obtain ⟨k, hk, rfl, hx, hN⟩ := hrel
      have Hx := Lib.hid hx
      clear hx
      by_cases hlt : k < l.length
      · have hlt2 : k < m.length := by omega
        obtain ⟨b, o, rfl, hb, c0, c1, c2, c3⟩ := (hA.ext hN).hp hlt
        obtain ⟨b2, o2, rfl, hb2, d0, d1, d2, d3⟩ := (hB.ext hN).hp hlt2
        have hst := Lib.hid (eqLB_step (f := hpEq) hlt hlt2)
        generalize l[k] = x at *
        generalize m[k] = y at *
        have he := run_neq_hp x y
        have hN0 := hN
        clear hN
        have hN := Near.refl wr
        cases hxy : hpEq x y
        · have Hxy := Lib.hid hxy
          simp only [hxy] at he
          clear hxy
          go_wp2
          have hq := quiet_near hN
          refine wp_region_quiet_below (by kernel_rfl) (by kernel_rfl) ?_
          repeat (first | go_big_quiet_skip | (go_big_quiet_want; go_big_quiet_op; first | go_big_quiet_on | (apply Exists.intro; refine ⟨fun _ => ?_, ?_⟩; (focus (first | fail)); go_big_quiet_on)))
          refine wpQuiet_nil ?_
          intro w1 hw1
          clear hq
          replace hw1 := quiet_ext hw1
          replace hN := hN.step hw1
          have hC := hN.2
          go_wp2
          go_ret
          exact ⟨ret_bool (by rw [Hx.out, hst.out, Hxy.out]; rfl), hN0.trans hN.1⟩
        · have Hxy := Lib.hid hxy
          simp only [hxy] at he
          clear hxy
          go_wp2
          have hq := quiet_near hN
          refine wp_region_quiet_below (by kernel_rfl) (by kernel_rfl) ?_
          repeat (first | go_big_quiet_skip | (go_big_quiet_want; go_big_quiet_op; first | go_big_quiet_on | (apply Exists.intro; refine ⟨fun _ => ?_, ?_⟩; (focus (first | fail)); go_big_quiet_on)))
          refine wpQuiet_nil ?_
          intro w1 hw1
          clear hq
          replace hw1 := quiet_ext hw1
          replace hN := hN.step hw1
          have hC := hN.2
          go_wp2
          go_roundg (gk - 1)
          case measure => omega
          case rel => exact ⟨k + 1, by omega, by go_num, by rw [Hx.out, hst.out, Hxy.out]; rfl, hN0.trans hN.1⟩
      · go_wp2
        go_ret
        refine ⟨ret_bool ?_, hN⟩
        rw [Hx.out, List.drop_eq_nil_of_le (by omega), List.drop_eq_nil_of_le (by omega)]
        rfl
  · have hnn : ((l.length : Int) != (m.length : Int)) = true := by simp; omega
    have hnn2 : (l.length != m.length) = true := by simp; omega
    have he := Lib.hid (eqLB_len (f := hpEq) hlm)
    clear hlm
    go_enter Try.func24, Try.ntmps24
    go_wp2
    go_ret
    exact ⟨ret_bool he.out.symm, Ext.refl _⟩
theorem sameHops24_ex (A B : Option Addr) (c d : Nat) (l : List Hp) (w : World) (hA : Rd EHp w A l) (hB : Rd EHp w B l) (hmax : l.length ≤ 1099511627776) :
    Calls Try.prog 24 #[.slice A l.length c, .slice B l.length d] w fun e w' => e = .returned (.bool true) ∧ Ext w w' := by
  have h := sameHops24_any A B c d l l w hA hB hmax hmax
  rw [eqLB_refl (fun x => hpEq_iff.2 rfl)] at h
  exact h

/-- The nodes that the first hops visit. -/
def seenL (p : Pln) (q : Req) (l : List Hp) : List Int := q.src :: l.map (fun h => (gc p.cons h.con).dst)
theorem seenL_snoc {p : Pln} {q : Req} {l : List Hp} {k : Nat} {y : Hp} (h : k < l.length) (hy : l[k] = y) : seenL p q (l.take (k + 1)) = seenL p q (l.take k) ++ [(gc p.cons y.con).dst] := by
  unfold seenL
  rw [take_snoc h hy, List.map_append]; rfl
theorem seenB_snoc {seen : List Int} {x y : Int} : seenB (seen ++ [y]) x = (seenB seen x || (y == x)) := by
  unfold seenB; rw [List.any_append]; simp

set_option maxRecDepth 100000 in
set_option maxHeartbeats 4000000 in
theorem visited_any (Aq : Option Addr) (cq : Nat) (Ac : Option Addr) (cc : Nat) (p : Pln) (q : Req) (Al : Option Addr) (cl : Nat) (l : List Hp) (n : Nat) (x : Int) (w : World) (h : PlnRd w Aq cq Ac cc p) (hl : Rd EHp w Al l) (hn : n ≤ l.length) (hm : l.length ≤ 1099511627776) (hin : ∀ k (hk : k < n), 0 ≤ (l[k]'(by omega)).con ∧ (l[k]'(by omega)).con < p.cons.length) :
    Calls Try.prog 46 #[p.val Aq cq Ac cc, q.val, .slice Al l.length cl, .int .i64 n, .int .i64 x] w fun e w' => e = .returned (.bool (seenB (seenL p q (l.take n)) x)) ∧ Ext w w' := by
  obtain ⟨W, hW, hB, hk, hk2, hlt, hlt2⟩ := box2 w #[.slice Aq p.quo.length cq, .slice Ac p.cons.length cc] q.cells 25 34
  simp only [Req.cells] at hW hk2
  have hc := hk.cell
  have hc2 := hk2.cell
  have hcm := h.cm
  unfold Pln.val Req.val
  by_cases hxs : x = q.src
  · have hd : (x == q.src) = true := by simpa using hxs
    have Hs := Lib.hid (show seenB (seenL p q (l.take n)) x = true by unfold seenB seenL; rw [List.any_cons, hxs]; simp)
    clear hxs
    go_enter Try.func46, Try.ntmps46
    go_wp2
    go_ret
    exact ⟨ret_bool Hs.out.symm, hB⟩
  · have hd : (x == q.src) = false := by simpa using hxs
    have hs0 : seenB (seenL p q (l.take 0)) x = false := by unfold seenB seenL; simp; exact fun e => hxs e.symm
    have Hs0 := Lib.hid hs0
    clear hxs hs0
    go_enter Try.func46, Try.ntmps46
    go_wp2
    go_loopg [11] n (fun m i wr => ∃ k : Nat, k + m = n ∧ i = .int .i64 k ∧ Hid (seenB (seenL p q (l.take k)) x = false) ∧ Ext W wr)
    case atStart => exact ⟨0, by omega, rfl, Hs0, Ext.refl _⟩
    case round =>
      obtain ⟨k, hkn, rfl, hs, hF⟩ := hrel
      have kpr := hk.ext hF
      have hcr := kpr.cell
      have hlr := kpr.lt
      have Hkn := Lib.hid hkn
      have hkl : k ≤ n := by omega
      clear hkn
      by_cases hltk : k < n
      · have hlk : k < l.length := by omega
        obtain ⟨b, o, rfl, hb, c0, c1, c2, c3⟩ := ((hl.ext hB).ext hF).hp hlk
        have hik := hin k hltk
        have hsn := seenL_snoc (p := p) (q := q) hlk rfl
        generalize l[k] = y at *
        obtain ⟨yc, yb, ye, ya⟩ := y
        simp only at c0 c1 c2 c3 hik hsn
        obtain ⟨i, rfl⟩ : ∃ i : Nat, yc = i := ⟨yc.toNat, by omega⟩
        have hil : i < p.cons.length := by omega
        have hili : (i : Int) < (p.cons.length : Int) := by omega
        obtain ⟨bc, oc, rfl, hbc, e0, e1, e2, e3, e4, e5, e6⟩ := ((h.c.ext hB).ext hF).con hil
        have hgc := gc_get (cons := p.cons) (i := (i : Int)) hil
        simp only [Int.toNat_natCast] at hgc
        generalize p.cons[i] = c at *
        have Hst := Lib.hid (show seenB (seenL p q (l.take (k + 1))) x = (c.dst == x) by rw [hsn, seenB_snoc, hs.out, hgc]; rfl)
        have hN := Near.refl wr
        clear hsn hgc hik
        by_cases hcx : c.dst = x
        · have hd2 : (c.dst == x) = true := by simpa using hcx
          have Hfin := Lib.hid (show seenB (seenL p q (l.take n)) x = true by
            have h1 : seenB (seenL p q (l.take (k + 1))) x = true := by rw [Hst.out]; exact hd2
            have h2 := seenB_iff.1 h1
            apply seenB_iff.2
            unfold seenL at h2 ⊢
            rcases List.mem_cons.1 h2 with h3 | h3
            · rw [h3]; exact List.mem_cons_self ..
            · obtain ⟨z, hz, rfl⟩ := List.mem_map.1 h3
              refine List.mem_cons_of_mem _ (List.mem_map.2 ⟨z, ?_, rfl⟩)
              obtain ⟨i', hi', rfl⟩ := List.mem_take_iff_getElem.1 hz
              exact List.mem_take_iff_getElem.2 ⟨i', by omega, rfl⟩)
          clear hcx
          go_wp2
          have hq := quiet_near hN
          refine wp_region_quiet_below (by kernel_rfl) (by kernel_rfl) ?_
          repeat (first | go_big_quiet_skip | (go_big_quiet_want; go_big_quiet_op; first | go_big_quiet_on | (apply Exists.intro; refine ⟨fun _ => ?_, ?_⟩; (focus (first | fail)); go_big_quiet_on)))
          refine wpQuiet_nil ?_
          intro w1 hw1
          clear hq
          replace hw1 := quiet_ext hw1
          replace hN := hN.step hw1
          have hC := hN.2
          go_wp2
          go_ret
          exact ⟨ret_bool Hfin.out.symm, (hB.trans hF).trans hN.1⟩
        · have hd2 : (c.dst == x) = false := by simpa using hcx
          have Hd2 := Lib.hid hd2
          clear hcx
          go_wp2
          have hq := quiet_near hN
          refine wp_region_quiet_below (by kernel_rfl) (by kernel_rfl) ?_
          repeat (first | go_big_quiet_skip | (go_big_quiet_want; go_big_quiet_op; first | go_big_quiet_on | (apply Exists.intro; refine ⟨fun _ => ?_, ?_⟩; (focus (first | fail)); go_big_quiet_on)))
          refine wpQuiet_nil ?_
          intro w1 hw1
          clear hq
          replace hw1 := quiet_ext hw1
          replace hN := hN.step hw1
          have hC := hN.2
          go_wp2
          go_roundg (gk - 1)
          case measure => have := Hkn.out; omega
          case rel => exact ⟨k + 1, by have := Hkn.out; omega, by go_num, Lib.hid (Hst.out.trans Hd2.out), hF.trans hN.1⟩
      · have hkn2 : n ≤ k := by omega
        have Hfin := Lib.hid (show seenB (seenL p q (l.take n)) x = false by rw [show n = k by omega]; exact hs.out)
        go_wp2
        go_ret
        exact ⟨ret_bool Hfin.out.symm, hB.trans hF⟩

end Go.Proofs.Ytgmfnhianhngiaa

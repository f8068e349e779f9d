
/- Layer 26 (reach): the walk of ReachWindows. -/
import Derived.Test.YtifopbkhflpbfaaRchHb
import Derived.Test.YtifopbkhflpbfaaRchWp
namespace Go.Proofs.Ytifopbkhflpbfaa
set_option linter.unusedVariables false
set_option linter.unusedSimpArgs false
open Go.RowKit Go.Shelf
attribute [local go_sem] Oper.semAt_some

/-- A matrix of a plan, by its cells. -/
theorem mat_heads {w : World} {base : Nat} {A : Option Addr} {c : Nat} {p : Pln} {r d n : Int} (h : MatRd w base (.slice A p.quo.length c) (p.mat r d n)) (hN : 0 < p.quo.length) :
    ∃ b o, A = some ⟨b, o, none⟩ ∧ b < w.heap.size ∧ ∀ i : Nat, i < p.quo.length → ∃ g q cr, w.cell? ⟨b, o + i, none⟩ = some (.slice (some ⟨g, q, none⟩) p.quo.length cr) ∧ g < w.heap.size ∧ ∀ k : Nat, k < p.quo.length → w.cell? ⟨g, q + k, none⟩ = some (.bool (p.rch (i : Int) (k : Int) r d n)) := by
  obtain ⟨hs, o1, o2, o3⟩ := h
  have hml := p.mat_len r d n
  have h0 : 0 < hs.length := by omega
  obtain ⟨b, o, rfl, hb, hck⟩ := (o1.rd).hdr h0
  refine ⟨b, o, rfl, hb, fun i hi => ?_⟩
  have hi2 : i < hs.length := by omega
  have hi3 : i < (p.mat r d n).length := by omega
  obtain ⟨b', o', hA, hb', hck'⟩ := (o1.rd).hdr hi2
  injection hA with hA
  injection hA with hA hA2
  subst hA hA2
  have hrow := o3 i hi2 hi3
  rw [p.mat_get r d n hi3] at hrow
  generalize hs[i] = hd at *
  obtain ⟨Ar, nr, cr⟩ := hd
  dsimp only at hrow hck'
  have hlr := hrow.len
  rw [p.row_len] at hlr
  subst hlr
  have hrl := p.row_len (i : Int) r d n
  obtain ⟨g, q, rfl, hg, _⟩ := hrow.rd.bool (k := 0) (by omega)
  refine ⟨g, q, cr, hck', hg, fun k hk => ?_⟩
  obtain ⟨g2, q2, hG, hg2, hck2⟩ := hrow.rd.bool (k := k) (by omega)
  injection hG with hG
  injection hG with hG hG2
  subst hG hG2
  rw [hck2, p.row_get _ r d n (by omega)]

set_option maxRecDepth 100000 in
set_option maxHeartbeats 4000000 in
theorem windows_walk (Aq : Option Addr) (cq : Nat) (Ac : Option Addr) (cc : Nat) (p : Pln) (r m d n e l s : Int) (w : World) (h : PlnIn w Aq cq Ac cc p) (he : 0 ≤ e ∧ e ≤ 255) (hl : 0 ≤ l ∧ l ≤ 255) (hs : 0 ≤ s ∧ s ≤ 255) :
    Calls Try.prog 5 #[p.val Aq cq Ac cc, .int .i64 r, .int .i64 m, .int .i64 d, .int .i64 n, .int .u8 e, .int .u8 l, .int .u8 s] w fun e w' => e = .returned (.bool true) ∧ Ext w w' := by
  obtain ⟨W, hW, hB, hk, hlt⟩ := box1 w #[.slice Aq p.quo.length cq, .slice Ac p.cons.length cc] 25
  have hc := hk.cell
  have hfi := lfine_any Aq cq Ac cc p n none 0 [] W (h.ext hB) Rd.nil (by simp)
  cases hf : p.fine26 n []
  case' false =>
    rw [hf] at hfi
    clear hf
    unfold Pln.val at hfi ⊢
    go_enter Try.func5, Try.ntmps5
    go_wp2_with fail
    clear hW
    refine hfi.mono ?_
    rintro e w1 ⟨rfl, hb1⟩
    go_wp2_with fail
    refine (awake_any _).mono ?_
    rintro e w2 ⟨rfl, hb2⟩
    go_wp2
    go_ret
    exact ⟨rfl, (hB.trans hb1).trans hb2⟩
  rw [hf] at hfi
  obtain ⟨f1, f2, f3, f4⟩ := Pln.fine26_ok hf
  have hrd := (h.rd26 f1).ext hB
  have hqm := hrd.qm
  clear hf f4 f1
  by_cases hw : 0 ≤ r ∧ r ≤ m ∧ m ≤ d ∧ d ≤ 1099511627776
  case' neg =>
    have hw2 : r < 0 ∨ (0 ≤ r ∧ m < r) ∨ (0 ≤ r ∧ r ≤ m ∧ d < m) ∨ (0 ≤ r ∧ r ≤ m ∧ m ≤ d ∧ 1099511627776 < d) := by omega
    clear f2 f3 hw
    unfold Pln.val at hfi ⊢
    rcases hw2 with hw | ⟨hw, hw2⟩ | ⟨hw, hw2, hw3⟩ | ⟨hw, hw2, hw3, hw4⟩
    all_goals
      go_enter Try.func5, Try.ntmps5
      go_wp2_with fail
      clear hW
      refine hfi.mono ?_
      rintro e w1 ⟨rfl, hb1⟩
      go_wp2_with fail
      refine (awake_any _).mono ?_
      rintro e w2 ⟨rfl, hb2⟩
      go_wp2
      go_ret
      exact ⟨rfl, (hB.trans hb1).trans hb2⟩
  obtain ⟨v0, v1, v2, v3⟩ := hw
  obtain ⟨r', hr'⟩ : ∃ r', (if r - e < 0 then 0 else r - e) = r' := ⟨_, rfl⟩
  obtain ⟨d', hd'⟩ : ∃ d', (if 1099511627776 < d + l then 1099511627776 else d + l) = d' := ⟨_, rfl⟩
  obtain ⟨n', hn'⟩ : ∃ n', (if n - s < 1 then 1 else n - s) = n' := ⟨_, rfl⟩
  have fr : 0 ≤ r' ∧ r' ≤ r := by rw [← hr']; split <;> omega
  have fd : d ≤ d' ∧ d' ≤ 1099511627776 := by rw [← hd']; split <;> omega
  have fn : 1 ≤ n' ∧ n' ≤ n := by rw [← hn']; split <;> omega
  have E1 := Pln.matE_of (r := r) (d := d) f2 f3 (by omega)
  have E2 := Pln.matE_of (r := r') (d := d') (n := n') f2 (by omega) (by omega)
  have E3 := Pln.matE_of (r := r) (d := m) f2 f3 (by omega)
  have E4 := Pln.matE_of (r := m) (d := d) f2 f3 (by omega)
  have h1 := fun w h => Matrix_any Aq cq Ac cc p r d n w h
  have h2 := fun w h => Matrix_any Aq cq Ac cc p r' d' n' w h
  have h3 := fun w h => Matrix_any Aq cq Ac cc p r m n w h
  have h4 := fun w h => Matrix_any Aq cq Ac cc p m d n w h
  unfold MatR at h1 h2 h3 h4
  simp only [E1, Pln.matM_of E1, p.mat_len] at h1
  simp only [E2, Pln.matM_of E2, p.mat_len] at h2
  simp only [E3, Pln.matM_of E3, p.mat_len] at h3
  simp only [E4, Pln.matM_of E4, p.mat_len] at h4
  clear E1 E2 E3 E4
  have F2 := Lib.hid f2
  clear f2
  unfold Pln.val at hfi h1 h2 h3 h4 ⊢
  go_enter Try.func5, Try.ntmps5
  go_wp2_with fail
  clear hW
  refine hfi.mono ?_
  clear hfi
  rintro e w1 ⟨rfl, hb1⟩
  have hk1 := hk.ext hb1
  replace hc := hk1.cell
  go_wp2_with fail
  refine (h1 _ (hrd.ext hb1)).mono ?_
  clear h1
  rintro e w2 ⟨A2, c2, rfl, hR2, hb2⟩
  have hk2 := hk1.ext hb2
  replace hc := hk2.cell
  go_wp2_with fail
  clear hr' hd' hn'
  refine (h2 _ ((hrd.ext hb1).ext hb2)).mono ?_
  clear h2
  rintro e w3 ⟨A3, c3, rfl, hR3, hb3⟩
  have hk3 := hk2.ext hb3
  replace hc := hk3.cell
  go_wp2_with fail
  refine (h3 _ (((hrd.ext hb1).ext hb2).ext hb3)).mono ?_
  clear h3
  rintro e w4 ⟨A4, c4, rfl, hR4, hb4⟩
  have hk4 := hk3.ext hb4
  replace hc := hk4.cell
  go_wp2_with fail
  refine (h4 _ ((((hrd.ext hb1).ext hb2).ext hb3).ext hb4)).mono ?_
  clear h4
  rintro e w5 ⟨A5, c5, rfl, hR5, hb5⟩
  have hk5 := hk4.ext hb5
  replace hc := hk5.cell
  have hl5 := hk5.lt
  have hok := Pln.ok_of F2.out
  have hN1 := hok.n1
  have hE5 := ((hB.trans hb1).trans (hb2.trans hb3)).trans (hb4.trans hb5)
  obtain ⟨ba, oa, rfl, hba, Ha⟩ := mat_heads (((hR2.ext hb3).ext hb4).ext hb5) hN1
  obtain ⟨bb, ob, rfl, hbb, Hb⟩ := mat_heads ((hR3.ext hb4).ext hb5) hN1
  obtain ⟨bf, of, rfl, hbf, Hf⟩ := mat_heads (hR4.ext hb5) hN1
  obtain ⟨bs, os, rfl, hbs, Hs⟩ := mat_heads hR5 hN1
  have HA := Lib.hid Ha
  have HBB := Lib.hid Hb
  have HF := Lib.hid Hf
  have HS := Lib.hid Hs
  have HMO := Lib.hid (fun (i k : Nat) (hi : i < p.quo.length) (hk : k < p.quo.length) => Pln.rch_mono (src := (i : Int)) (dst := (k : Int)) hok (by omega) (by omega) (by omega) (by omega) fr.1 fr.2 (by omega) fd.1 fn.1 fn.2 f3.2)
  have HJO := Lib.hid (fun (i k q : Nat) (hi : i < p.quo.length) (hk : k < p.quo.length) (hq : q < p.quo.length) => Pln.rch_join (i := (i : Int)) (k := (k : Int)) (m := (q : Int)) hok (by omega) (by omega) (by omega) (by omega) (by omega) (by omega) v0 v1 v2 v3 f3.1 f3.2)
  clear Ha Hb Hf Hs hok hR2 hR3 hR4 hR5 fr fd fn f3 v0 v1 v2 v3
  go_wp2_with fail
  clear hc hk5
  go_loopg [139] p.quo.length (fun q k wr => ∃ (j : Nat), j + q = p.quo.length ∧ k = .int .i64 j ∧ wr = w5)
  case atStart => exact ⟨0, by omega, rfl, rfl⟩
  case round =>
    obtain ⟨j, hjq, rfl, rfl⟩ := hrel
    have Hjq := Lib.hid hjq
    have hjN : j ≤ p.quo.length := by omega
    clear hjq
    by_cases hlt2 : j < p.quo.length
    · obtain ⟨ga, qa, ra, ca, la, ka⟩ := HA.out j hlt2
      obtain ⟨gb, qb, rb, cb, lb, kb⟩ := HBB.out j hlt2
      obtain ⟨gf, qf, rf, cf, lf, kf⟩ := HF.out j hlt2
      obtain ⟨gs, qs, rs, cs, ls, ks⟩ := HS.out j hlt2
      clear ka kb kf ks
      go_wp2
      go_roundg (gk - 1)
      case measure => have := Hjq.out; omega
      case rel => exact ⟨j + 1, by have := Hjq.out; omega, by go_num, rfl⟩
    · have he : j = p.quo.length := by omega
      subst he
      clear Hjq hjN hlt2
      obtain ⟨w5, rfl⟩ : ∃ w5, w5 = wr := ⟨_, rfl⟩
      go_wp2_with fail
      go_loopg [178] p.quo.length (fun q k wr => ∃ (j : Nat), j + q = p.quo.length ∧ k = .int .i64 j ∧ wr = w5)
      case atStart => exact ⟨0, by omega, rfl, rfl⟩
      case round =>
        obtain ⟨j, hjq, rfl, rfl⟩ := hrel
        have Hjq := Lib.hid hjq
        have hjN : j ≤ p.quo.length := by omega
        clear hjq
        by_cases hlt2 : j < p.quo.length
        · obtain ⟨ga, qa, ra, ca, la, ka⟩ := HA.out j hlt2
          obtain ⟨gb, qb, rb, cb, lb, kb⟩ := HBB.out j hlt2
          obtain ⟨gf, qf, rf, cf, lf, kf⟩ := HF.out j hlt2
          have KA := Lib.hid ka
          have KB := Lib.hid kb
          have KF := Lib.hid kf
          clear ka kb kf
          obtain ⟨w5, rfl⟩ : ∃ w5, w5 = wr := ⟨_, rfl⟩
          obtain ⟨gko, rfl⟩ : ∃ g, g = gk := ⟨_, rfl⟩
          go_wp2_with fail
          go_loopg [182] p.quo.length (fun q k wr => ∃ (j : Nat), j + q = p.quo.length ∧ k = .int .i64 j ∧ wr = w5)
          case atStart => exact ⟨0, by omega, rfl, rfl⟩
          case round =>
            obtain ⟨k, hkq, rfl, rfl⟩ := hrel
            have Hkq := Lib.hid hkq
            have hkN : k ≤ p.quo.length := by omega
            clear hkq
            by_cases hlt3 : k < p.quo.length
            · have x1 := KA.out k hlt3
              have x2 := KB.out k hlt3
              have x3 := KF.out k hlt3
              obtain ⟨gs, qs, rs, cs, ls, ks⟩ := HS.out k hlt3
              have KS := Lib.hid ks
              have hmo := HMO.out j k hlt2 hlt3
              have hjo := fun (q : Nat) (hq : q < p.quo.length) => HJO.out j k q hlt2 hlt3 hq
              have HJ := Lib.hid hjo
              clear ks hjo
              generalize p.rch (j : Int) (k : Int) r d n = y1 at *
              generalize p.rch (j : Int) (k : Int) r' d' n' = y2 at *
              generalize p.rch (j : Int) (k : Int) r m n = y3 at *
              obtain ⟨w5, rfl⟩ : ∃ w5, w5 = wr := ⟨_, rfl⟩
              obtain ⟨gki, rfl⟩ : ∃ g, g = gk := ⟨_, rfl⟩
              cases y1
              case' true =>
                obtain rfl : y2 = true := hmo rfl
              all_goals
                clear hmo
                go_wp2_with fail
                go_loopg [203] p.quo.length (fun q k wr => ∃ (j : Nat), j + q = p.quo.length ∧ k = .int .i64 j ∧ wr = w5)
                case atStart => exact ⟨0, by omega, rfl, rfl⟩
                case round =>
                  obtain ⟨q, hqq, rfl, rfl⟩ := hrel
                  have Hqq := Lib.hid hqq
                  have hqN : q ≤ p.quo.length := by omega
                  clear hqq
                  by_cases hlt4 : q < p.quo.length
                  · have x4 := KS.out q hlt4
                    have x5 := KA.out q hlt4
                    have hjo := HJ.out q hlt4
                    generalize p.rch (k : Int) (q : Int) m d n = z4 at *
                    generalize p.rch (j : Int) (q : Int) r d n = z5 at *
                    cases y3
                    · go_wp2
                      go_roundg (gk - 1)
                      case measure => have := Hqq.out; omega
                      case rel => exact ⟨q + 1, by have := Hqq.out; omega, by go_num, rfl⟩
                    · cases z4
                      · go_wp2
                        go_roundg (gk - 1)
                        case measure => have := Hqq.out; omega
                        case rel => exact ⟨q + 1, by have := Hqq.out; omega, by go_num, rfl⟩
                      · obtain rfl : z5 = true := hjo rfl rfl
                        clear hjo
                        go_wp2
                        go_roundg (gk - 1)
                        case measure => have := Hqq.out; omega
                        case rel => exact ⟨q + 1, by have := Hqq.out; omega, by go_num, rfl⟩
                  · go_wp2
                    go_roundg (gki - 1)
                    case measure => have := Hkq.out; omega
                    case rel => exact ⟨k + 1, by have := Hkq.out; omega, by go_num, rfl⟩
            · go_wp2
              go_roundg (gko - 1)
              case measure => have := Hjq.out; omega
              case rel => exact ⟨j + 1, by have := Hjq.out; omega, by go_num, rfl⟩
        · go_wp2_with fail
          refine (awake_any _).mono ?_
          rintro e w6 ⟨rfl, hb6⟩
          go_wp2
          go_ret
          exact ⟨rfl, hE5.trans hb6⟩

end Go.Proofs.Ytifopbkhflpbfaa

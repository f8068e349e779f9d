/- Update: Check, New. -/
import Derived.Test.YtemkpimngbbpkaaGreatQt10
namespace Go.Proofs.YtemkpimngbbpkaaGreat
set_option linter.unusedVariables false
set_option linter.unusedSimpArgs false
open Go.RowKit Go.Shelf
attribute [local go_sem] Oper.semAt_some
theorem Rd.chg {w : World} {A : Option Addr} {l : List Chg} (h : Rd EChg w A l) {k : Nat} (hk : k < l.length) : ∃ b o, A = some ⟨b, o, none⟩ /\ b < w.heap.size /\
 w.cell? ⟨b, o + k * 11, none⟩ = some (.int .i64 l[k].org) /\ w.cell? ⟨b, o + k * 11 + 1, none⟩ = some (.int .i64 l[k].cnt) /\ w.cell? ⟨b, o + k * 11 + 2, none⟩ = some (.int .i64 l[k].stp) /\ w.cell? ⟨b, o + k * 11 + 3, none⟩ = some (.int .i64 l[k].kind) /\
 w.cell? ⟨b, o + k * 11 + 4, none⟩ = some (.int .i64 l[k].con.src) /\ w.cell? ⟨b, o + k * 11 + 5, none⟩ = some (.int .i64 l[k].con.dst) /\ w.cell? ⟨b, o + k * 11 + 6, none⟩ = some (.int .i64 l[k].con.st) /\ w.cell? ⟨b, o + k * 11 + 7, none⟩ = some (.int .i64 l[k].con.en) /\
 w.cell? ⟨b, o + k * 11 + 8, none⟩ = some (.int .i64 l[k].con.rate) /\ w.cell? ⟨b, o + k * 11 + 9, none⟩ = some (.int .i64 l[k].con.rng) /\ w.cell? ⟨b, o + k * 11 + 10, none⟩ = some (.int .i64 l[k].con.loss) := by
 obtain ⟨b, o, rfl, hb, hc⟩ := h.at hk
 exact ⟨b, o, rfl, hb, hc 0 _ rfl, hc 1 _ rfl, hc 2 _ rfl, hc 3 _ rfl, hc 4 _ rfl, hc 5 _ rfl, hc 6 _ rfl, hc 7 _ rfl, hc 8 _ rfl, hc 9 _ rfl, hc 10 _ rfl⟩
def prevC (l : List Chg) (k : Nat) : Option Chg := if k = 0 then none else l[k - 1]?
def prevP (A : Option Addr) (k : Nat) : Value := if k = 0 then .pointer none else .pointer (A.map (·.add ((k - 1) * 11)))
theorem prevC_succ {l : List Chg} {k : Nat} (h : k < l.length) : prevC l (k + 1) = some l[k] := by
 unfold prevC
 rw [if_neg (by omega), Nat.add_sub_cancel, List.getElem?_eq_getElem h]
theorem chkF_step {n : Int} {l : List Chg} {k : Nat} (h : k < l.length) (b : Option Chg) : chkF n b (l.drop k) = if l[k].ok n = false then 2 else if folE b l[k] ≠ 0 then folE b l[k] else chkF n (some l[k]) (l.drop (k + 1)) := by
 rw [List.drop_eq_getElem_cons h]
 rfl
theorem folE_cnt {b : Option Chg} {x : Chg} (h : folE b x = 0) : x.cnt = 1 ∨ ∃ y, b = some y /\ x.cnt = y.cnt + 1 := by
 cases b with
 | none =>
   unfold folE at h
   dsimp only at h
   split at h
   ·exact .inl (by assumption)
   ·omega
 | some y =>
   unfold folE at h
   dsimp only at h
   split at h
   ·omega
   ·split at h
    ·split at h
     ·omega
     ·rename_i e; exact .inr ⟨y, rfl, by simpa using e⟩
    ·split at h
     ·omega
     ·rename_i e; exact .inl (by simpa using e)
def CkI (n : Int) (l : List Chg) (k : Nat) : Prop := chkF n none l = chkF n (prevC l k) (l.drop k) /\ ∀ i (h : i < l.length), i < k -> 1 <= l[i].cnt /\ l[i].cnt <= i + 1
theorem ckI_step {n : Int} {l : List Chg} {k : Nat} (h : CkI n l k) (hk : k < l.length) (h1 : l[k].ok n = true) (h2 : folE (prevC l k) l[k] = 0) : CkI n l (k + 1) := by
 refine ⟨?_, fun i hi hik => ?_⟩
 ·rw [h.1, chkF_step hk, if_neg (by rw [h1]; simp), if_neg (by rw [h2]; simp), prevC_succ hk]
 ·rcases Nat.lt_or_ge i k with h3 | h3
  ·exact h.2 i hi h3
  ·have : i = k := by omega
   subst this
   have hok : 1 <= l[i].cnt := by
    unfold Chg.ok at h1
    simp only [Bool.and_eq_true, decide_eq_true_eq] at h1
    exact h1.1.2.2.1
   refine ⟨hok, ?_⟩
   rcases folE_cnt h2 with h4 | ⟨y, h4, h5⟩
   ·omega
   ·unfold prevC at h4
    split at h4
    ·cases h4
    ·have hlt : i - 1 < l.length := by omega
     rw [List.getElem?_eq_getElem hlt] at h4
     injection h4 with h4
     subst h4
     have := (h.2 (i - 1) hlt (by omega)).2
     omega
set_option maxRecDepth 100000 in
set_option maxHeartbeats 16000000 in
theorem hCheck_any (n : Int) (A : Option Addr) (cc : Nat) (l : List Chg) (w : World) (hR : Rd EChg w A l) :
 Calls Tryz.prog 22 #[.agg #[.int .i64 n, .slice A l.length cc]] w fun e w' => e = .returned (.int .i64 (hChk n l)) /\ Ext w w' := by
 obtain ⟨W1, hW1, hB1, hk1, hl1⟩ := box1 w #[.int .i64 n, .slice A l.length cc] 56
 have c1 := hk1.cell
 by_cases h1 : n < 1
 case pos =>
  have HX := Lib.hid (show hChk n l = 2 by unfold hChk; rw [if_pos (.inl h1)])
  go_enter Tryz.func22, Tryz.ntmps22
  go_wp2
  go_ret
  exact ⟨by rw [HX.out]; rfl, hB1⟩
 by_cases h2 : 16 < n
 case pos =>
  have HX := Lib.hid (show hChk n l = 2 by unfold hChk; rw [if_pos (.inr h2)])
  go_enter Tryz.func22, Tryz.ntmps22
  go_wp2
  go_ret
  exact ⟨by rw [HX.out]; rfl, hB1⟩
 by_cases h3 : 1000 < l.length
 case pos =>
  have HX := Lib.hid (show hChk n l = 4 by unfold hChk; rw [if_neg (by omega), if_pos h3])
  go_enter Tryz.func22, Tryz.ntmps22
  go_wp2
  go_ret
  exact ⟨by rw [HX.out]; rfl, hB1⟩
 have HX := Lib.hid (show hChk n l = chkF n none l by unfold hChk; rw [if_neg (by omega), if_neg h3])
 go_enter Tryz.func22, Tryz.ntmps22
 go_wp2_with fail
 clear hW1
 go_loopg [3, 22] l.length (fun m u v wr => ∃ k : Nat, k + m = l.length /\ v = .int .i64 k /\ u = prevP A k /\ Hid (CkI n l k) /\ Ext W1 wr)
 case atStart => exact ⟨0, by omega, by go_num, rfl, Lib.hid ⟨by simp [prevC], fun i _ h => by omega⟩, Ext.refl _⟩
 case round =>
  obtain ⟨k, hkn, rfl, rfl, hck, hE⟩ := hrel
  have Hkn := Lib.hid hkn
  clear hkn
  have k1 := hk1.ext hE
  have d1 := k1.cell
  have d2 := k1.lt
  by_cases hlt : k < l.length
  ·obtain ⟨b, o, rfl, hb, e0, e1, e2, e3, e4, e5, e6, e7, e8, e9, e10⟩ := ((hR.ext hB1).ext hE).chg hlt
   have hst := chkF_step (n := n) hlt (prevC l k)
   have hstep := fun h1 h2 => ckI_step (n := n) hck.out hlt h1 h2
   have hpr : prevC l k = none /\ k = 0 ∨ ∃ j, k = j + 1 /\ ∃ hj : j < l.length, prevC l k = some l[j] := by
    cases k with
    | zero => exact .inl ⟨rfl, rfl⟩
    | succ j => exact .inr ⟨j, rfl, by omega, prevC_succ (by omega)⟩
   have fv := fun w => vChg_any n l[k] w
   have ff : ∀ w', Ext wr w' -> Calls Tryz.prog 75 #[prevP (some ⟨b, o, none⟩) k, .agg (l[k]'hlt).arr] w' fun e w2 => e = .returned (.int .i64 (folE (prevC l k) l[k])) /\ Ext w' w2 := by
    intro w' hw'
    rcases hpr with ⟨h4, rfl⟩ | ⟨j, rfl, hj, h4⟩
    ·rw [h4]
     exact fol_none l[0] w'
    ·rw [h4]
     have hR' := ((hR.ext hB1).ext hE).ext hw'
     obtain ⟨b', o', e', hb', y0, y1, y2, _⟩ := hR'.chg hj
     injection e' with e'
     injection e' with x1 x2
     subst x1 x2
     have hcb := hck.out.2 j hj (by omega)
     have := fol_some l[j] l[j + 1] b (o + j * 11) w' hb' y0 y1 y2 (by omega)
     unfold prevP
     rw [if_neg (by omega), Nat.add_sub_cancel, Option.map_some, Addr.add_lit]
     exact this
   clear hpr
   have hres := hck.out.1.trans hst
   have hnp : prevP (some ⟨b, o, none⟩) (k + 1) = .pointer (some ⟨b, o + k * 11, none⟩) := by
    unfold prevP
    rw [if_neg (by omega), Nat.add_sub_cancel, Option.map_some, Addr.add_lit]
   have HNP := Lib.hid hnp
   obtain ⟨fe, hfe⟩ : ∃ fe, folE (prevC l k) l[k] = fe := ⟨_, rfl⟩
   rw [hfe] at ff hres hstep
   obtain ⟨y, hy⟩ : ∃ y, l[k] = y := ⟨_, rfl⟩
   rw [hy] at e0 e1 e2 e3 e4 e5 e6 e7 e8 e9 e10 fv ff hres hstep
   obtain ⟨ok, hok⟩ : ∃ ok, y.ok n = ok := ⟨_, rfl⟩
   rw [hok] at fv hres hstep
   obtain ⟨org, cnt, stp, kind, src, dst, st, en, rate, rng, loss⟩ := y
   unfold Chg.arr at fv ff
   dsimp only at e0 e1 e2 e3 e4 e5 e6 e7 e8 e9 e10 fv ff
   obtain ⟨PP, hPP⟩ : ∃ PP, prevP (some ⟨b, o, none⟩) k = PP := ⟨_, rfl⟩
   rw [hPP] at ff ⊢
   have HRES := Lib.hid hres
   clear hnp hfe hy hok hPP hres hst
   obtain ⟨W3, hW3, hB3, hk3, hl3⟩ := box1 wr #[.int .i64 org, .int .i64 cnt, .int .i64 stp, .int .i64 kind, .int .i64 src, .int .i64 dst, .int .i64 st, .int .i64 en, .int .i64 rate, .int .i64 rng, .int .i64 loss] 63
   have x1 := hk3.cell
   have k3 := k1.ext hB3
   have d3 := k3.cell
   have d4 := k3.lt
   cases ok with
   | false =>
     have HV := Lib.hid (show chkF n none l = 2 by rw [HRES.out, if_pos rfl])
     clear hstep ff
     go_wp2_with fail
     clear hW3
     refine (fv _).mono ?_
     rintro e w4 ⟨rfl, hb4⟩
     go_wp2
     go_ret
     exact ⟨by rw [HX.out, HV.out]; rfl, ((hB1.trans hE).trans hB3).trans hb4⟩
   | true =>
     by_cases hf0 : fe = 0
     ·subst hf0
      have HCK := Lib.hid (hstep rfl rfl)
      clear hstep
      go_wp2_with fail
      clear hW3 e0 e1 e2 e3 e4 e5 e6 e7 e8 e9 e10
      refine (fv _).mono ?_
      rintro e w4 ⟨rfl, hb4⟩
      have x4 := (hk3.ext hb4).cell
      have x5 := (hk3.ext hb4).lt
      have k4 := k3.ext hb4
      clear x1
      go_wp2_with fail
      refine (ff _ (hB3.trans hb4)).mono ?_
      rintro e w5 ⟨rfl, hb5⟩
      have k5 := k4.ext hb5
      have x6 := k5.cell
      have x7 := k5.lt
      have hb9 : b < w5.heap.size := Nat.lt_of_lt_of_le hb (Nat.le_trans hB3.size (Nat.le_trans hb4.size hb5.size))
      clear x4 x5 d1 d2 d3 d4
      go_wp2
      go_roundg (gk - 1)
      case measure => have := Hkn.out; omega
      case rel => exact ⟨k + 1, by have := Hkn.out; omega, by go_num, HNP.out.symm, HCK, ((hE.trans hB3).trans hb4).trans hb5⟩
     ·have hn0 : (fe != 0) = true := by rw [bne_iff_ne]; exact hf0
      have HV := Lib.hid (show chkF n none l = fe by rw [HRES.out, if_neg (by simp), if_pos hf0])
      clear hstep
      go_wp2_with fail
      clear hW3 e0 e1 e2 e3 e4 e5 e6 e7 e8 e9 e10
      refine (fv _).mono ?_
      rintro e w4 ⟨rfl, hb4⟩
      have x4 := (hk3.ext hb4).cell
      have x5 := (hk3.ext hb4).lt
      clear x1
      go_wp2_with fail
      refine (ff _ (hB3.trans hb4)).mono ?_
      rintro e w5 ⟨rfl, hb5⟩
      go_wp2
      go_ret
      exact ⟨by rw [HX.out, HV.out]; rfl, (((hB1.trans hE).trans hB3).trans hb4).trans hb5⟩
  ·obtain rfl : k = l.length := by have := Hkn.out; omega
   have HC := Lib.hid (show chkF n none l = 0 by rw [hck.out.1, List.drop_length]; rfl)
   generalize prevP A l.length = PP at *
   go_wp2
   go_ret
   exact ⟨by rw [HX.out, HC.out]; rfl, hB1.trans hE⟩
end Go.Proofs.YtemkpimngbbpkaaGreat

/- Layer 35, the reference (multicast): Reached. -/
import Derived.Test.YtbgdglcnminbaaaGreatMzC
import Derived.BigQuiet
namespace Go.Proofs.YtbgdglcnminbaaaGreat
set_option linter.unusedVariables false
set_option linter.unusedSimpArgs false
open Go.RowKit Go.Shelf
attribute [local go_sem] Oper.semAt_some

theorem fillZ {N j : Nat} (h : j < N) (v u : Int) : (List.replicate j v ++ List.replicate (N - j) u).set j v = List.replicate (j + 1) v ++ List.replicate (N - (j + 1)) u := by
  rw [List.set_append_right _ _ (by simp), List.length_replicate, Nat.sub_self, show N - j = (N - (j + 1)) + 1 by omega, List.replicate_succ, List.set_cons_zero, List.replicate_succ', List.append_assoc]
  rfl
theorem startZ {q : Req} {N : Nat} (h : N ≤ 16) : (List.replicate N (-1 : Int)).set q.src.toNat q.ready = (startL q).take N := by
  unfold startL
  rw [List.take_set, List.take_replicate, Nat.min_eq_left h]

theorem all_intsZ (l : List Int) : EInt.all l = l.map (Value.int .i64) := by
  unfold Elt.all
  induction l with
  | nil => rfl
  | cons x l ih => simp_all [EInt]
theorem owns_blkZ {w : World} {g : Nat} {t : TypeId} {m : List Int} {base : Nat} (h : Blk w g t (arrV m)) (hb : base ≤ g) (hm : m.length ≤ 1000000) : Owns EInt w base t (.slice (some ⟨g, 0, none⟩) m.length m.length) m := by
  refine ⟨by rw [all_intsZ]; simp [EInt], .inr ⟨g, m.length, arrV m, rfl, hb, h, Nat.le_refl _, by unfold maxLen; omega, by simp [arrV, EInt], ?_⟩⟩
  rw [all_intsZ]
  simp [arrV, EInt]
  exact List.take_of_length_le (by simp)

set_option maxRecDepth 100000 in
set_option maxHeartbeats 8000000 in
theorem rReached35_any (Aq : Option Addr) (cq : Nat) (Ac : Option Addr) (cc : Nat) (p : Pln) (q : Req) (Al : Option Addr) (cl : Nat) (l : List Br) (w : World) (h : PlnRd w Aq cq Ac cc p) (hl : Rd EBr w Al l) (hlm : l.length ≤ 1000000) (hcl : l.length ≤ cl) :
    Calls Tryz.prog 14 #[p.val Aq cq Ac cc, q.val, .slice Al l.length cl] w fun e w' => Ext w w' ∧ ((p.mchk q [] l = 0 ∧ ∃ v, e = .returned (.tuple #[v, .int .i64 0]) ∧ Owns EInt w' w.heap.size 3 v (List.take p.quo.length (p.mAt q l l.length))) ∨ (p.mchk q [] l ≠ 0 ∧ e = .returned (.tuple #[.slice none 0 0, .int .i64 (p.mchk q [] l)]))) := by
  obtain ⟨W, hW, hB, hk, hk2, hlt, hlt2⟩ := box2 w #[.slice Aq p.quo.length cq, .slice Ac p.cons.length cc] q.cells 25 31
  simp only [Req.cells] at hW hk2
  have hc := hk.cell
  have hc2 := hk2.cell
  have hch := rCheck35_any Aq cq Ac cc p q none 0 [] Al cl l W (h.ext hB) Rd.nil (by simp) (hl.ext hB) hlm hcl
  simp only [List.length_nil] at hch
  unfold Pln.val Req.val at hch ⊢
  by_cases hz : p.mchk q [] l = 0
  case' neg =>
    have d0 : (p.mchk q [] l != 0) = true := by simpa using hz
    have Hz := Lib.hid hz
    clear hz
    go_enter Tryz.func14, Tryz.ntmps14
    go_wp2_with fail
    clear hW
    refine hch.mono ?_
    rintro e w1 ⟨rfl, hb1⟩
    go_wp2
    exact bodyPost_ret (results_tmp2' rfl _ _ _) rfl ⟨hB.trans hb1, .inr ⟨Hz.out, rfl⟩⟩
  have V := mchk_vt hz
  have hreq := V.req
  have hlm16 := V.len
  have HV := Lib.hid V
  have Hz := Lib.hid hz
  rw [hz] at hch
  have hno := fun j w h hl' hj => rnode_any Aq cq Ac cc p q Al cl l j w h hl' (by omega) hj
  unfold Pln.val Req.val at hno
  clear hz V
  go_enter Tryz.func14, Tryz.ntmps14
  go_wp2_with fail
  clear hW
  refine hch.mono ?_
  clear hch
  rintro e w1 ⟨rfl, hb1⟩
  have kp := hk.ext hb1
  have kq := hk2.ext hb1
  have hE1 := hB.trans hb1
  have hrd := h.ext hE1
  have hl1 := hl.ext hE1
  obtain ⟨N, hN⟩ : ∃ N, p.quo.length = N := ⟨_, rfl⟩
  have HN := Lib.hid hN
  rw [hN] at hreq kp ⊢
  obtain ⟨W2, hW2, hB2, hk3, hlt3⟩ := box1 w1 (Array.replicate N (.int .i64 0)) 3
  have hz : arrV (List.replicate N 0) = Array.replicate N (.int .i64 0) := by simp [arrV]
  rw [← hz] at hk3
  replace hc := kp.cell
  replace hc2 := kq.cell
  have l1 := kp.lt
  have l2 := kq.lt
  have dN : decide ((N : Int) < 0) = false := decide_eq_false (by omega)
  obtain ⟨ii, hii, hiz, hi1, hi2⟩ := info_parts info_int
  have hmi := fun w => run_make1 (n := N) Tryz.underlying22 hii hiz hi1 (by omega) rfl (by omega) w
  clear hz hk hk2 hN
  go_wp2_with fail
  clear hW2
  go_loopg [10] N (fun n k wr => ∃ j : Nat, j + n = N ∧ k = .int .i64 j ∧ Blk wr w1.heap.size 3 (arrV (List.replicate j (-1) ++ List.replicate (N - j) 0)) ∧ Ext w1 wr)
  case atStart => exact ⟨0, by omega, rfl, by simpa using hk3, hB2⟩
  case round =>
    obtain ⟨j, hjq, rfl, kg, hx⟩ := hrel
    clear hk3 hB2
    have Hjq := Lib.hid hjq
    have hjN : j ≤ N := by omega
    clear hjq
    have g1 := kg.lt
    have g2 := kg.frozen
    by_cases hlt2 : j < N
    · have g3 := (kg.cell j).trans (arrV_get (by simp; omega))
      have hst := kg.set_ j (.int .i64 (-1))
      rw [arrV_set, fillZ hlt2] at hst
      have Hst := Lib.hid hst
      clear hst
      go_wp2
      go_roundg (gk - 1)
      case measure => have := Hjq.out; omega
      case rel => exact ⟨j + 1, by have := Hjq.out; omega, by go_num, Hst.out, hx.setCell (Nat.le_refl _) _⟩
    · obtain rfl : N = j := by omega
      rw [Nat.sub_self, List.replicate_zero, List.append_nil] at kg
      have hs1 : q.src.toNat < N := by omega
      have g3 := (kg.cell q.src.toNat).trans (arrV_get (by simp; omega))
      have g4 := kg.lt
      have g5 := kg.frozen
      have hst := kg.set_ q.src.toNat (.int .i64 q.ready)
      rw [arrV_set, startZ (by omega)] at hst
      have eS : ((q.src.toNat : Nat) : Int) = q.src := by omega
      have u1 := (kp.ext hx).cell
      have u2 := (kp.ext hx).lt
      have u3 := (kq.ext hx).cell
      have u4 := (kq.ext hx).lt
      have hs0 := hreq.1
      have hs2 := hreq.2.1
      obtain ⟨W4, hW4⟩ : ∃ W4, wr.setCell ⟨w1.heap.size, q.src.toNat, none⟩ (.int .i64 q.ready) = W4 := ⟨_, rfl⟩
      have hx4 : Ext w1 W4 := by rw [← hW4]; exact hx.setCell (Nat.le_refl _) _
      rw [hW4] at hst
      obtain ⟨gko, rfl⟩ : ∃ g, g = gk := ⟨_, rfl⟩
      go_wp2_with fail
      clear hW4 u1 u2 u3 u4 g1 g2 g3 g4 g5 kg
      go_loopg [11] l.length (fun n k wr => ∃ j : Nat, j + n = l.length ∧ k = .int .i64 j ∧ Blk wr w1.heap.size 3 (arrV ((p.mAt q l j).take N)) ∧ Ext w1 wr)
      case atStart => exact ⟨0, by omega, rfl, hst, hx4⟩
      case round =>
        obtain ⟨i, hiq, rfl, kg, hy⟩ := hrel
        clear hst hx4 hx
        have Hiq := Lib.hid hiq
        have hiN : i ≤ l.length := by omega
        clear hiq
        by_cases hlt3 : i < l.length
        · obtain ⟨bl, ol, rfl, hbl, f0, f1, f2, f3, f4⟩ := hl1.br hlt3
          have b := HV.out.br i hlt3
          have hnd : p.ndR q l (i : Int) = p.nd l i := by unfold Pln.ndR; rw [if_neg (by omega), Int.toNat_natCast]
          have hmA : (p.mAt q l (i + 1)).take N = ((p.mAt q l i).take N).set (p.nd l i).toNat l[i].arr := by
            show List.take N ((p.mAt q l i).set (gc p.cons (gbr l i).con).dst.toNat (gbr l i).arr) = _
            rw [List.take_set, gbr_get hlt3]
            unfold Pln.nd
            rw [gbr_get hlt3]
          have hb1 := b.nd0
          have hb2 := b.nd1
          rw [HN.out] at hb2
          have hmlen : ((p.mAt q l i).take N).length = N := by rw [List.length_take, p.mAt_len]; omega
          have hnA := fun w' (hw' : Ext w1 w') => hno (i : Int) w' (hrd.ext hw') (hl1.ext hw') (.inr ⟨by omega, by omega, by rw [Int.toNat_natCast]; exact ⟨b.con0, b.con1⟩⟩)
          rw [hnd, HN.out] at hnA
          clear b hnd
          generalize (p.mAt q l i).take N = m at *
          generalize l[i] = y at *
          generalize p.nd l i = nd at *
          have HmA := Lib.hid hmA
          have eN : ((nd.toNat : Nat) : Int) = nd := by omega
          have u1 := kp.cell
          have u2 := kp.lt
          have u3 := kq.cell
          have u4 := kq.lt
          have hnd2 : nd < (N : Int) := hb2
          clear hmA
          have hNr : Near w1 wr := Near.of hy
          have hC := hNr.2
          have g1 := kg.lt
          have g2 := kg.frozen
          have g3 := (kg.cell nd.toNat).trans (arrV_get (by omega))
          go_wp2_with fail
          go_region_held3 (fun w' => Ext w1 w' ∧ ∀ b o, b < w1.heap.size → w'.cell? ⟨b, o, none⟩ = w1.cell? ⟨b, o, none⟩) (first | exact hNr.drew | exact Near.step (by assumption) hb9 | exact Near.set (by assumption) (Nat.le_refl _) _ | assumption)
            (first | (go_at_call 40; refine (hnA _ (And.left (by assumption))).mono ?_; rintro e w9 ⟨rfl, hb9⟩; have kg9 : Blk w9 w1.heap.size 3 (arrV m) := Blk.ext (w := wr.drew) kg hb9; have g19 := kg9.lt; have g29 := kg9.frozen; have g39 := (kg9.cell nd.toNat).trans (arrV_get (by omega))))
          all_goals
            have kg10 := kg9.set_ nd.toNat (.int .i64 y.arr)
            rw [arrV_set] at kg10
            have hy9 : Ext w1 w9 := hy.drew.trans hb9
            clear u1 u2 u3 u4 g1 g2 g3 g19 g29 g39
            go_wp2
            go_roundg (gk - 1)
            case measure => have := Hiq.out; omega
            case rel => exact ⟨i + 1, by have := Hiq.out; omega, by go_num, by rw [HmA.out]; exact kg10, hy9.setCell (Nat.le_refl _) _⟩
        · obtain rfl : i = l.length := by omega
          have hlenN : ((p.mAt q l l.length).take N).length = N := by rw [List.length_take, p.mAt_len]; omega
          have hown := owns_blkZ (base := w.heap.size) kg hE1.size (by omega)
          rw [hlenN] at hown
          go_wp2
          refine bodyPost_ret (results_tmp2' rfl _ _ _) rfl ⟨hE1.trans hy, .inl ⟨Hz.out, _, rfl, ?_⟩⟩
          rw [HN.out]
          exact hown

end Go.Proofs.YtbgdglcnminbaaaGreat

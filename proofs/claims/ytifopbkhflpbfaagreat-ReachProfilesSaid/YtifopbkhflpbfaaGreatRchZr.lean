
/- Layer 26 (reach): the reference's Reached. -/
import Derived.Test.YtifopbkhflpbfaaGreatRchZf
namespace Go.Proofs.YtifopbkhflpbfaaGreat
set_option linter.unusedVariables false
set_option linter.unusedSimpArgs false
open Go.RowKit Go.Shelf
attribute [local go_sem] Oper.semAt_some

theorem cnt_take2 {T : List Int} {m : Nat} (h : m < T.length) (d : Int) : cnt (T.take (m + 1)) d = cnt (T.take m) d + if inR d T[m] then 1 else 0 := by
  unfold cnt
  rw [List.take_succ_eq_append_getElem h, List.countP_append, List.countP_singleton]
/-- The least time behind a, of those of a list. -/
def NX (a : Int) (L : List Int) (r : Int) : Prop := (r = -1 ∧ ∀ x ∈ L, x ≤ a) ∨ (r ∈ L ∧ a < r ∧ ∀ x ∈ L, a < x → r ≤ x)
theorem NX.nil (a : Int) : NX a [] (-1) := .inl ⟨rfl, fun x hx => by simp at hx⟩
theorem NX.keep {a : Int} {L : List Int} {r x : Int} (h : NX a L r) (hx : x ≤ a ∨ (0 ≤ r ∧ r ≤ x)) (ha : 0 ≤ a) : NX a (L ++ [x]) r := by
  rcases h with ⟨h1, h2⟩ | ⟨h1, h2, h3⟩
  · refine .inl ⟨h1, fun y hy => ?_⟩
    rcases List.mem_append.1 hy with hy | hy
    · exact h2 y hy
    · rw [List.mem_singleton.1 hy]; omega
  · refine .inr ⟨by simp [h1], h2, fun y hy hay => ?_⟩
    rcases List.mem_append.1 hy with hy | hy
    · exact h3 y hy hay
    · rw [List.mem_singleton.1 hy] at hay ⊢; omega
theorem NX.take {a : Int} {L : List Int} {r x : Int} (h : NX a L r) (hx : a < x) (hr : r < 0 ∨ x < r) (ha : 0 ≤ a) : NX a (L ++ [x]) x := by
  refine .inr ⟨by simp, hx, fun y hy hay => ?_⟩
  rcases List.mem_append.1 hy with hy | hy
  · rcases h with ⟨h1, h2⟩ | ⟨h1, h2, h3⟩
    · have := h2 y hy; omega
    · have := h3 y hy hay
      rcases hr with hr | hr
      · have := h3 r h1 h2
        omega
      · omega
  · rw [List.mem_singleton.1 hy]; exact Int.le_refl _
/-- The levels before a time. -/
structure LB (T : List Int) (a : Int) (f : List Lev) : Prop where
  ord : ∀ (i j : Nat) (_ : i < j) (hj : j < f.length), (f[i]'(by omega)).tm < f[j].tm
  mem : ∀ x : Int, (∃ y ∈ f, y.tm = x) ↔ (x ∈ T ∧ 0 ≤ x ∧ (a < 0 ∨ x < a))
  val : ∀ y ∈ f, y.val = cnt T y.tm
theorem LB.start (T : List Int) : LB T 0 [] := ⟨fun i j _ hj => by simp at hj, fun x => ⟨fun hh => by obtain ⟨y, hy, _⟩ := hh; simp at hy, fun hh => by omega⟩, fun y hy => by simp at hy⟩
theorem LB.done {T : List Int} {a : Int} {f : List Lev} (h : LB T a f) (ha : a < 0) : LS T f :=
  ⟨h.ord, fun x => ⟨fun hh => by have := (h.mem x).1 hh; exact ⟨this.1, this.2.1⟩, fun hh => (h.mem x).2 ⟨hh.1, hh.2, .inl ha⟩⟩, h.val⟩
theorem LB.step {T : List Int} {a r : Int} {f : List Lev} (h : LB T a f) (ha : 0 ≤ a) (haT : a ∈ T) (hN : NX a T r) : LB T r (f ++ [⟨a, cnt T a⟩]) := by
  have hlt : ∀ (i : Nat) (hi : i < f.length), f[i].tm < a := fun i hi => by
    have := (h.mem _).1 ⟨_, List.getElem_mem hi, rfl⟩
    omega
  refine ⟨fun i j hij hj => ?_, fun x => ?_, fun y hy => ?_⟩
  · rw [List.length_append, List.length_singleton] at hj
    rw [List.getElem_append_left (by omega)]
    by_cases e : j < f.length
    · rw [List.getElem_append_left e]; exact h.ord i j hij e
    · have e2 : j = f.length := by omega
      subst e2
      rw [List.getElem_append_right (Nat.le_refl _)]
      simp only [Nat.sub_self, List.getElem_cons_zero]
      exact hlt i (by omega)
  · constructor
    · rintro ⟨y, hy, rfl⟩
      rcases List.mem_append.1 hy with hy | hy
      · have := (h.mem _).1 ⟨y, hy, rfl⟩
        refine ⟨this.1, this.2.1, ?_⟩
        rcases hN with ⟨h1, _⟩ | ⟨_, h2, _⟩ <;> omega
      · rw [List.mem_singleton.1 hy]
        refine ⟨haT, ha, ?_⟩
        rcases hN with ⟨h1, _⟩ | ⟨_, h2, _⟩
        · left; omega
        · exact .inr h2
    · rintro ⟨h1, h2, h3⟩
      by_cases e : x < a
      · obtain ⟨y, hy, rfl⟩ := (h.mem x).2 ⟨h1, h2, .inr e⟩
        exact ⟨y, by simp [hy], rfl⟩
      · have : x = a := by
          rcases hN with ⟨g1, g2⟩ | ⟨g1, g2, g3⟩
          · have := g2 x h1; omega
          · apply Classical.byContradiction
            intro hne
            have := g3 x h1 (by omega)
            omega
        subst this
        exact ⟨⟨x, cnt T x⟩, by simp, rfl⟩
  · rcases List.mem_append.1 hy with hy | hy
    · exact h.val y hy
    · rw [List.mem_singleton.1 hy]

set_option maxRecDepth 100000 in
set_option maxHeartbeats 4000000 in
theorem rForemost_own (Aq : Option Addr) (cq : Nat) (Ac : Option Addr) (cc : Nat) (p : Pln) (src t0 n : Int) (w : World) (h : PlnRd w Aq cq Ac cc p) (h0 : p.chk = 0) (ha : p.argF src t0 n = true) :
    Calls Tryz.prog 28 #[p.val Aq cq Ac cc, .int .i64 src, .int .i64 t0, .int .i64 n] w fun e w' => ∃ A c, e = .returned (.tuple #[.slice A (p.arrs src t0 n).length c, .int .i64 0]) ∧ Owns EInt w' w.heap.size 3 (.slice A (p.arrs src t0 n).length c) (p.arrs src t0 n) ∧ Ext w w' := by
  obtain ⟨W, hW, hB, hk, hlt⟩ := box1 w #[.slice Aq p.quo.length cq, .slice Ac p.cons.length cc] 25
  have hc := hk.cell
  have hqm := h.qm
  have hpc := rpcheck_any Aq cq Ac cc p W (h.ext hB)
  have hok := Pln.ok_of h0
  have ha2 := ha
  simp only [Pln.argF, decide_eq_true_eq] at ha2
  obtain ⟨a1, a2, a3, a4, a5, a6⟩ := ha2
  have Ha := Lib.hid ha
  rw [h0] at hpc
  clear ha h0
  unfold Pln.val at hpc ⊢
  go_enter Tryz.func28, Tryz.ntmps28
  go_wp2_with fail
  clear hW
  refine hpc.mono ?_
  rintro e w1 ⟨rfl, hb1⟩
  have hc1 := (hk.ext hb1).cell
  clear hpc
  go_wp2_with fail
  refine (rarrivals_any Aq cq Ac cc p src t0 n w1 ((h.ext hB).ext hb1) hok Ha.out).mono ?_
  rintro e w2 ⟨v, rfl, hv, hb2⟩
  obtain ⟨A2, c2, rfl, hR2⟩ := hv.form
  go_wp2
  go_ret2
  exact ⟨A2, c2, rfl, hv.mono (by have := hB.size; have := hb1.size; omega), (hB.trans hb1).trans hb2⟩

set_option maxRecDepth 100000 in
set_option maxHeartbeats 4000000 in
theorem rReached_any (Aq : Option Addr) (cq : Nat) (Ac : Option Addr) (cc : Nat) (p : Pln) (src n : Int) (w : World) (h : PlnRd w Aq cq Ac cc p) :
    Calls Tryz.prog 11 #[p.val Aq cq Ac cc, .int .i64 src, .int .i64 n] w (RcdR p src n w) := by
  obtain ⟨W0, hW0, hB0, hk0, hlt0⟩ := box1 w #[.slice Aq p.quo.length cq, .slice Ac p.cons.length cc] 25
  obtain ⟨W1, hW1, hBl, hkl, hltl⟩ := box1 W0 #[] 39
  have own0 := Owns.made (E := ELev) W0 W0.heap.size 39 (Nat.le_refl _)
  rw [hW1] at own0
  obtain ⟨W, hW, hB1, hk1, hlt1⟩ := box1 W1 #[.int .i64 src] 3
  have hBB := hBl.trans hB1
  have hB := hB0.trans hBB
  have hk := hk0.ext hBB
  have hc := (hk0.ext hBl).cell
  have hlt := hk.lt
  have hltA := hk0.lt
  have hrd := h.ext hB
  have own1 := own0.ext hB1
  have hv : Calls Tryz.prog 19 #[p.val Aq cq Ac cc, .int .i64 n, .slice (some ⟨W1.heap.size, 0, none⟩) 1 1] W fun e w' => e = .returned (.int .i64 (p.rv n [src])) ∧ Ext W w' :=
    rcheck26_any Aq cq Ac cc p n (some ⟨W1.heap.size, 0, none⟩) 1 [src] W hrd (rd_blk hk1) (by simp)
  by_cases h0 : p.rv n [src] = 0
  case' neg =>
    have hR := Lib.hid (show RchP p src n [] (p.rv n [src]) by unfold RchP; rw [if_neg h0]; exact ⟨rfl, rfl⟩)
    have d0 : (p.rv n [src] != 0) = true := by simpa using h0
    generalize p.rv n [src] = rv at *
    clear h0
    unfold Pln.val at hv ⊢
    go_enter Tryz.func11, Tryz.ntmps11
    go_wp2_with fail
    clear hW hW0 hW1
    refine hv.mono ?_
    rintro e w1 ⟨rfl, hb1⟩
    go_wp2
    go_ret2
    exact ⟨_, 0, [], rv, rfl, Rd.nil, hB.trans hb1, hR.out⟩
  obtain ⟨hok, hck, hF⟩ := Pln.rv1 h0
  have hlo := Pln.arrs_lo hok hF
  have hqm := hrd.qm
  have hfo := fun w h => rForemost_own Aq cq Ac cc p src 0 n w h hck hF
  rw [h0] at hv
  have hP := Lib.hid (show ∀ out, LS (p.arrs src 0 n) out → RchP p src n out 0 from fun out ho => by unfold RchP; rw [if_pos h0]; exact ⟨rfl, ho⟩)
  obtain ⟨T, hT⟩ : ∃ T, p.arrs src 0 n = T := ⟨_, rfl⟩
  rw [hT] at hlo hfo hP
  obtain ⟨t1, t2, t3⟩ := hlo
  have hTl : T.length ≤ 1000000 := by omega
  have HT2 := Lib.hid t2
  have HT3 := Lib.hid t3
  clear t1 t2 hT hF hck hok h0 hqm
  obtain ⟨i0, hi0, hz0, hz1, hz2⟩ := info_parts info_lev
  unfold Pln.val at hv hfo ⊢
  go_enter Tryz.func11, Tryz.ntmps11
  go_wp2_with fail
  clear hW hW0 hW1
  refine hv.mono ?_
  clear hv
  rintro e w1 ⟨rfl, hb1⟩
  have hkp1 := hk.ext hb1
  replace hc := hkp1.cell
  go_wp2_with fail
  refine (hfo _ (hrd.ext hb1)).mono ?_
  clear hfo
  rintro e w2 ⟨A2, c2, rfl, hR2, hb2⟩
  have hx02 := (hBB.trans hb1).trans hb2
  have own2 := (own1.ext hb1).ext hb2
  clear hc own1 own0 hkp1 hk hk0 hk1 hkl
  go_wp2_with fail
  go_loopg [8, 12] (T.length + 1) (fun q u k wr => ∃ (a : Int) (f : List Lev), k = .int .i64 a ∧ -1 ≤ a ∧ a ≤ 1099511627776 ∧ (0 ≤ a → a ∈ T ∧ q + cnt T (a - 1) = T.length + 1) ∧ f.length + q ≤ 2 * T.length + 2 ∧ Owns ELev wr W0.heap.size 39 u f ∧ Hid (LB T a f) ∧ Ext W0 wr ∧ Owns EInt wr w1.heap.size 3 (.slice A2 T.length c2) T)
  case atStart => exact ⟨0, [], rfl, by omega, by omega, fun _ => ⟨t3, by rw [show cnt T (0 - 1) = 0 from by unfold cnt; rw [List.countP_eq_zero]; intro x _; simp [inR]; omega]⟩, by simp; omega, own2, Lib.hid (LB.start T), hx02, hR2⟩
  case round =>
    obtain ⟨a, f, rfl, a0, a1, haq, hfq, hu, hLB, hx, hRT⟩ := hrel
    by_cases ha : 0 ≤ a
    · obtain ⟨haT, hq⟩ := haq ha
      have hcl : cnt T (a - 1) < cnt T a := cnt_lt haT ha (by omega) (Int.le_refl _)
      have hcT : cnt T a ≤ T.length := List.countP_le_length
      have Hq := Lib.hid (And.intro hq hfq)
      have Hcl := Lib.hid hcl
      have HaT := Lib.hid haT
      clear haq hq hfq haT hcl
      obtain ⟨wo, rfl⟩ : ∃ wo, wo = wr := ⟨_, rfl⟩
      obtain ⟨gko, rfl⟩ : ∃ g, g = gk := ⟨_, rfl⟩
      go_wp2_with fail
      go_loopg [13, 14, 15] T.length (fun q u v k wz => ∃ (m : Nat) (r : Int), m + q = T.length ∧ k = .int .i64 m ∧ u = .int .i64 (cnt (T.take m) a : Nat) ∧ v = .int .i64 r ∧ Hid (NX a (T.take m) r) ∧ -1 ≤ r ∧ r ≤ 1099511627776 ∧ wz = wo)
      case atStart => exact ⟨0, -1, by omega, rfl, rfl, rfl, Lib.hid (NX.nil a), by omega, by omega, rfl⟩
      case round =>
        obtain ⟨m, r, hmq, rfl, rfl, rfl, hnx, r0, r1, rfl⟩ := hrel
        have Hmq := Lib.hid hmq
        have hmN : m ≤ T.length := by omega
        clear hmq
        by_cases hlt2 : m < T.length
        · obtain ⟨b, o, rfl, hbl, hcm⟩ := hRT.rd.int hlt2
          have hct := cnt_take2 hlt2 a
          have htk : T.take (m + 1) = T.take m ++ [T[m]] := List.take_succ_eq_append_getElem hlt2
          have hxb := HT2.out _ (List.getElem_mem hlt2)
          have hC : cnt (T.take m) a ≤ (T.take m).length := List.countP_le_length
          rw [List.length_take] at hC
          have hC2 : cnt (T.take m) a ≤ 1000000 := by omega
          clear hC
          have Hct := Lib.hid hct
          have Htk := Lib.hid htk
          clear hct htk
          generalize cnt (T.take m) a = C at *
          generalize T[m] = x at *
          by_cases x0 : 0 ≤ x
          · have d0 : decide (0 ≤ x) = true := decide_eq_true x0
            by_cases xa : x ≤ a
            · have d1 : decide (x ≤ a) = true := decide_eq_true xa
              have d2 : decide (a < x) = false := decide_eq_false (by omega)
              have Hc1 := Lib.hid (show cnt (T.take (m + 1)) a = C + 1 by rw [Hct.out, if_pos (by simp only [inR, decide_eq_true_eq]; omega)])
              have Hn1 := Lib.hid (show NX a (T.take (m + 1)) r by rw [Htk.out]; exact hnx.out.keep (.inl xa) ha)
              clear xa x0
              go_wp2
              go_roundg (gk - 1)
              case measure => have := Hmq.out; omega
              case rel => exact ⟨m + 1, r, by have := Hmq.out; omega, by go_num, by rw [Hc1.out]; rfl, rfl, Hn1, r0, r1, rfl⟩
            · have d1 : decide (x ≤ a) = false := decide_eq_false xa
              have d2 : decide (a < x) = true := decide_eq_true (by omega)
              have Hc1 := Lib.hid (show cnt (T.take (m + 1)) a = C by rw [Hct.out, if_neg (by simp only [inR, decide_eq_true_eq]; omega)]; rfl)
              by_cases hr : r < 0
              · have d3 : decide (r < 0) = true := decide_eq_true hr
                have Hn1 := Lib.hid (show NX a (T.take (m + 1)) x by rw [Htk.out]; exact hnx.out.take (by omega) (.inl hr) ha)
                have hx0 := Lib.hid (And.intro x0 hxb.2)
                clear xa x0 hr
                go_wp2
                go_roundg (gk - 1)
                case measure => have := Hmq.out; omega
                case rel => exact ⟨m + 1, x, by have := Hmq.out; omega, by go_num, by rw [Hc1.out], rfl, Hn1, by have := hx0.out; omega, by have := hx0.out; omega, rfl⟩
              · have d3 : decide (r < 0) = false := decide_eq_false hr
                by_cases hxr : x < r
                · have d4 : decide (x < r) = true := decide_eq_true hxr
                  have Hn1 := Lib.hid (show NX a (T.take (m + 1)) x by rw [Htk.out]; exact hnx.out.take (by omega) (.inr hxr) ha)
                  have hx0 := Lib.hid (And.intro x0 hxb.2)
                  clear xa x0 hr hxr
                  go_wp2
                  go_roundg (gk - 1)
                  case measure => have := Hmq.out; omega
                  case rel => exact ⟨m + 1, x, by have := Hmq.out; omega, by go_num, by rw [Hc1.out], rfl, Hn1, by have := hx0.out; omega, by have := hx0.out; omega, rfl⟩
                · have d4 : decide (x < r) = false := decide_eq_false hxr
                  have Hn1 := Lib.hid (show NX a (T.take (m + 1)) r by rw [Htk.out]; exact hnx.out.keep (.inr ⟨by omega, by omega⟩) ha)
                  clear xa x0 hr hxr
                  go_wp2
                  go_roundg (gk - 1)
                  case measure => have := Hmq.out; omega
                  case rel => exact ⟨m + 1, r, by have := Hmq.out; omega, by go_num, by rw [Hc1.out], rfl, Hn1, r0, r1, rfl⟩
          · have d0 : decide (0 ≤ x) = false := decide_eq_false x0
            have d2 : decide (a < x) = false := decide_eq_false (by omega)
            have Hc1 := Lib.hid (show cnt (T.take (m + 1)) a = C by rw [Hct.out, if_neg (by simp only [inR, decide_eq_true_eq]; omega)]; rfl)
            have Hn1 := Lib.hid (show NX a (T.take (m + 1)) r by rw [Htk.out]; exact hnx.out.keep (.inl (by omega)) ha)
            clear x0
            go_wp2
            go_roundg (gk - 1)
            case measure => have := Hmq.out; omega
            case rel => exact ⟨m + 1, r, by have := Hmq.out; omega, by go_num, by rw [Hc1.out], rfl, Hn1, r0, r1, rfl⟩
        · have he : m = T.length := by omega
          subst he
          rw [List.take_length] at hnx ⊢
          have hLB2 := Lib.hid (hLB.out.step ha HaT.out hnx.out)
          have hnx2 := hnx.out
          have HNX := Lib.hid hnx2
          clear hnx2 hnx
          obtain ⟨Au, cu, rfl, _⟩ := hu.form
          have hfl : f.length ≤ 2 * T.length + 2 := by have := Hq.out; omega
          have Hca := Lib.hid (show cnt T a ≤ T.length from List.countP_le_length)
          generalize hC : cnt T a = C at *
          have HC := Lib.hid hC
          clear hC
          have hCm : C ≤ 1000000 := by omega
          have hsz := hx.size
          go_wp2_with (at_builtin; refine wpList_push rfl (.tmp 78) (.tmp 82) _ (by rfl) W0.heap.size 39 i0 _ 16 Tryz.underlying28 hi0 hz0 hz1 hz2 (by rfl) (.slice Au f.length cu) (by rfl) (hu.ext ((Ext.refl _).alloc _)) wr.heap.size (⟨a, (C : Nat)⟩ : Lev) (by rfl) (Blk.new wr _ _) (by simp only [maxLen]; omega) (by omega) (by simp; omega) ?_; intro v6 w6 hv6 hg6 hat6)
          have hx6 := ext_grown (hx.alloc _) (hu.ext ((Ext.refl _).alloc _)) (Nat.le_refl _) hg6
          have hT6 := (hRT.ext ((Ext.refl _).alloc (.cells #[.int .i64 a, .int .i64 (C : Nat)] 39))).keptd (hu.ext ((Ext.refl _).alloc _)) (by decide) hg6
          have HREL : ∃ q', q' < gko ∧ (0 ≤ r → r ∈ T ∧ q' + cnt T (r - 1) = T.length + 1) ∧ (f ++ [(⟨a, (C : Nat)⟩ : Lev)]).length + q' ≤ 2 * T.length + 2 := by
            have h1 := Hq.out
            have h2 := Hcl.out
            have h3 := Hca.out
            have hlen : (f ++ [(⟨a, (C : Nat)⟩ : Lev)]).length = f.length + 1 := by simp
            rw [hlen]
            rcases HNX.out with ⟨e, _⟩ | ⟨e1, e2, _⟩
            · exact ⟨0, by omega, fun hh => by omega, by omega⟩
            · have h4 : cnt T a ≤ cnt T (r - 1) := cnt_mono T (by omega)
              have h5 : cnt T (r - 1) ≤ T.length := List.countP_le_length
              rw [HC.out] at h4
              exact ⟨T.length + 1 - cnt T (r - 1), by omega, fun _ => ⟨e1, by omega⟩, by omega⟩
          obtain ⟨q', hq1, hq2, hq3⟩ := HREL
          go_roundg q'
          case measure => exact hq1
          case rel => exact ⟨r, _, rfl, r0, r1, hq2, hq3, hv6, hLB2, hx6, hT6⟩
    · have HL := Lib.hid (hP.out f (hLB.out.done (by omega)))
      obtain ⟨Au, cu, rfl, hRo⟩ := hu.form
      have da : decide (0 ≤ a) = false := decide_eq_false ha
      clear ha haq hfq
      go_wp2
      go_ret2
      exact ⟨Au, cu, f, 0, rfl, hRo, hB0.trans hx, HL.out⟩

end Go.Proofs.YtifopbkhflpbfaaGreat

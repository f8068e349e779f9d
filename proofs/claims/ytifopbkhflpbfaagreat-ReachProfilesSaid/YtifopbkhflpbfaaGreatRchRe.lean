
/- Layer 26 (reach): Reached. -/
import Derived.Test.YtifopbkhflpbfaaGreatRchSo
import Derived.Test.YtifopbkhflpbfaaGreatRchQ
import Derived.Test.YtifopbkhflpbfaaGreatJrW6
namespace Go.Proofs.YtifopbkhflpbfaaGreat
set_option linter.unusedVariables false
set_option linter.unusedSimpArgs false
open Go.RowKit Go.Shelf
attribute [local go_sem] Oper.semAt_some

/-- One cell of an element of a list of the call's own is written. -/
theorem Owns.set_one {α : Type} {E : Elt α} {w : World} {base : Nat} {e : TypeId} {g n c : Nat} {m : List α} (h : Owns E w base e (.slice (some ⟨g, 0, none⟩) n c) m) {k : Nat} (hk : k < m.length) (y : α) (j : Nat) (u : Value) (hj : j < E.size)
    (hy : ∀ i, i < E.size → (E.cells y)[i]? = if i = j then some u else (E.cells m[k])[i]?) : Owns E (w.setCell ⟨g, k * E.size + j, none⟩ u) base e (.slice (some ⟨g, 0, none⟩) n c) (m.set k y) := by
  have hn := h.len
  subst hn
  rcases h.2 with ⟨h1, _⟩ | ⟨g', cap, cur, h1, hg, hh, hnc, hcap, hsz, ht⟩
  · cases h1
  · injection h1 with h2 h3 h4
    injection h2 with h2
    injection h2 with h2
    subst h2 h4
    have hb := (show Blk w g e cur from hh).set_ (k * E.size + j) u
    have hle : (k + 1) * E.size ≤ m.length * E.size := Nat.mul_le_mul_right _ hk
    have hle2 : m.length * E.size ≤ c * E.size := Nat.mul_le_mul_right _ hnc
    rw [Nat.add_mul, Nat.one_mul] at hle
    refine ⟨by rw [E.all_len], .inr ⟨g, c, _, by rw [List.length_set], hg, hb, by rw [List.length_set]; exact hnc, hcap, by rw [Array.size_setIfInBounds]; exact hsz, ?_⟩⟩
    rw [List.length_set]
    have hcur : ∀ q, q < m.length * E.size → cur[q]? = (E.all m)[q]? := fun q hq => by
      rw [← ht, List.getElem?_take_of_lt hq, Array.getElem?_toList]
    apply List.ext_getElem?
    intro q
    rw [all_set k y m hk q]
    by_cases hq : q < m.length * E.size
    · rw [List.getElem?_take_of_lt hq, Array.getElem?_toList, Array.getElem?_setIfInBounds]
      by_cases hr : k * E.size ≤ q ∧ q < k * E.size + E.size
      · obtain ⟨i, rfl⟩ : ∃ i, q = k * E.size + i := ⟨q - k * E.size, by omega⟩
        have e1 : k * E.size + i - k * E.size = i := by omega
        rw [if_pos hr, e1, hy i (by omega)]
        by_cases e : i = j
        · subst e
          rw [if_pos rfl, if_pos rfl, if_pos (by omega)]
        · rw [if_neg (by omega), if_neg e, hcur _ hq, E.all_at m k hk i (by omega)]
      · rw [if_neg hr, if_neg (by omega), hcur _ hq]
    · rw [List.getElem?_take_eq_none (by omega), if_neg (by omega), List.getElem?_eq_none (by rw [E.all_len]; omega)]
theorem Owns.head {α : Type} {E : Elt α} {w : World} {base : Nat} {e : TypeId} {A : Option Addr} {n c : Nat} {l : List α} (h : Owns E w base e (.slice A n c) l) (hl : 0 < l.length) : ∃ b, A = some ⟨b, 0, none⟩ ∧ base ≤ b := by
  rcases h.2 with ⟨_, h2⟩ | ⟨g, cap, cur, h1, hg, _⟩
  · omega
  · injection h1 with h1
    exact ⟨g, h1, hg⟩
theorem rl_one (S : List Int) (k : Nat) : rl S (k + 1) = rlStep (rl S k) k (gi S (k : Int)) := rfl

theorem pred_re (w0 : World) : PredI w0 26 #[] (fun x => x == -1) where
  enters := enters_of Tryz.func26 (by kernel_rfl) rfl
  says := fun x w hw => by
    show Calls Tryz.prog 26 #[_] w _
    go_enter Tryz.func26, Tryz.ntmps26
    go_wp2
    go_ret
    exact ⟨rfl, Ext.refl _⟩

/-- What Reached returns. -/
def RchP (p : Pln) (src n : Int) (out : List Lev) (e : Int) : Prop := if p.rv n [src] = 0 then e = 0 ∧ LS (p.arrs src 0 n) out else e = p.rv n [src] ∧ out = []
theorem RchP.unique {p : Pln} {src n : Int} {out out' : List Lev} {e e' : Int} (h : RchP p src n out e) (h' : RchP p src n out' e') : out = out' ∧ e = e' := by
  unfold RchP at h h'
  split at h
  · rename_i h0
    rw [if_pos h0] at h'
    exact ⟨h.2.unique h'.2, h.1.trans h'.1.symm⟩
  · rename_i h0
    rw [if_neg h0] at h'
    exact ⟨h.2.trans h'.2.symm, h.1.trans h'.1.symm⟩
def RcdR (p : Pln) (src n : Int) (w : World) (e : Ending) (w' : World) : Prop :=
  ∃ (A : Option Addr) (c : Nat) (out : List Lev) (er : Int), e = .returned (.tuple #[.slice A out.length c, .int .i64 er]) ∧ Rd ELev w' A out ∧ Ext w w' ∧ RchP p src n out er
theorem Pln.rv1 {p : Pln} {src n : Int} (h : p.rv n [src] = 0) : p.Ok ∧ p.chk = 0 ∧ p.argF src 0 n = true := by
  unfold Pln.rv at h
  split at h
  · rename_i h0
    split at h
    · rename_i h1
      simp only [Pln.argR, decide_eq_true_eq, List.mem_cons, List.not_mem_nil, or_false, forall_eq] at h1
      refine ⟨Pln.ok_of h0, h0, ?_⟩
      simp only [Pln.argF, decide_eq_true_eq]
      omega
    · omega
  · omega
theorem Pln.arrs_lo {p : Pln} {src n : Int} (h : p.Ok) (hF : p.argF src 0 n = true) : (p.arrs src 0 n).length = p.quo.length ∧ (∀ x ∈ p.arrs src 0 n, -1 ≤ x ∧ x ≤ 1099511627776) ∧ (0 : Int) ∈ p.arrs src 0 n := by
  have hL := Pln.arrs_least h hF
  have J := Pln.jc h hF
  refine ⟨hL.len, fun x hx => ?_, ?_⟩
  · obtain ⟨i, hi, rfl⟩ := List.getElem_of_mem hx
    have hi2 := hi
    rw [hL.len] at hi2
    have := hL.snd (i : Int) (by omega) (by omega)
    rw [gi_get hi] at this
    rcases this with e | e
    · omega
    · have := RA.rng J e; omega
  · have h1 := hL.srcT J
    have h2 := J.s0
    have h3 := J.s1
    have h4 : src.toNat < (p.arrs src 0 n).length := by rw [hL.len]; omega
    have h5 := gi_mem h4
    rw [h1] at h5
    exact h5

set_option maxRecDepth 100000 in
set_option maxHeartbeats 4000000 in
theorem Reached_any (Aq : Option Addr) (cq : Nat) (Ac : Option Addr) (cc : Nat) (p : Pln) (src n : Int) (w : World) (h : PlnRd w Aq cq Ac cc p) (h12 : p.quo.length ≤ 12) :
    Calls Tryz.prog 10 #[p.val Aq cq Ac cc, .int .i64 src, .int .i64 n] w (RcdR p src n w) := by
  obtain ⟨W0, hW0, hB0, hk0, hlt0⟩ := box1 w #[.slice Aq p.quo.length cq, .slice Ac p.cons.length cc] 25
  obtain ⟨W, hW, hB1, hk1, hlt1⟩ := box1 W0 #[.int .i64 src] 3
  have hB := hB0.trans hB1
  have hk := hk0.ext hB1
  have hc := hk0.cell
  have hlt := hk.lt
  have hrd := h.ext hB
  have hv : Calls Tryz.prog 22 #[p.val Aq cq Ac cc, .int .i64 n, .slice (some ⟨W0.heap.size, 0, none⟩) 1 1] W fun e w' => e = .returned (.int .i64 (p.rv n [src])) ∧ Ext W w' :=
    rvalid_any Aq cq Ac cc p n (some ⟨W0.heap.size, 0, none⟩) 1 [src] W hrd (rd_blk hk1) (by simp)
  by_cases h0 : p.rv n [src] = 0
  case' neg =>
    have hR := Lib.hid (show RchP p src n [] (p.rv n [src]) by unfold RchP; rw [if_neg h0]; exact ⟨rfl, rfl⟩)
    have d0 : (p.rv n [src] != 0) = true := by simpa using h0
    generalize p.rv n [src] = rv at *
    clear h0
    unfold Pln.val at hv ⊢
    go_enter Tryz.func10, Tryz.ntmps10
    go_wp2_with fail
    clear hW hW0
    refine hv.mono ?_
    rintro e w1 ⟨rfl, hb1⟩
    go_wp2
    go_ret2
    exact ⟨none, 0, [], rv, rfl, Rd.nil, hB.trans hb1, hR.out⟩
  obtain ⟨hok, hck, hF⟩ := Pln.rv1 h0
  have hfE : p.forE src 0 n = 0 := by unfold Pln.forE; rw [if_pos hck, hF]; rfl
  have hfT : p.forT src 0 n = p.arrs src 0 n := by unfold Pln.forT; rw [if_pos hfE]
  have hlo := Pln.arrs_lo hok hF
  have hfo := fun w h => Foremost_any Aq cq Ac cc p src 0 n w h
  rw [hfE, hfT] at hfo
  rw [h0] at hv
  have hP := Lib.hid (show ∀ out, LS (p.arrs src 0 n) out → RchP p src n out 0 from fun out ho => by unfold RchP; rw [if_pos h0]; exact ⟨rfl, ho⟩)
  obtain ⟨T, hT⟩ : ∃ T, p.arrs src 0 n = T := ⟨_, rfl⟩
  rw [hT] at hlo hfo hP
  obtain ⟨t1, t2, t3⟩ := hlo
  have HT1 := Lib.hid t1
  have HT2 := Lib.hid t2
  have HT3 := Lib.hid t3
  have hTl : T.length ≤ 12 := by omega
  clear t1 t2 t3 hT hfT hfE hF hck hok h0
  unfold Pln.val at hv hfo ⊢
  go_enter Tryz.func10, Tryz.ntmps10
  go_wp2_with fail
  clear hW hW0
  refine hv.mono ?_
  clear hv
  rintro e w1 ⟨rfl, hb1⟩
  have hkp1 := hk.ext hb1
  replace hc := hkp1.cell
  go_wp2_with fail
  refine (hfo _ (hrd.ext hb1)).mono ?_
  clear hfo
  rintro e w2 ⟨A2, c2, rfl, hR2, hb2, _⟩
  clear hc
  go_wp2_with fail
  refine (cloneInt_any A2 c2 T w2 hR2 (by omega)).mono ?_
  rintro e w3 ⟨v3, rfl, ho3, hb3⟩
  go_wp2_with fail
  refine (deleteI_any v3 T 26 #[] (fun x => x == -1) w2 w3 w2.heap.size ho3 (by omega) hb3 (Nat.le_refl _) (pred_re w2)).mono ?_
  rintro e w4 ⟨A4, c4, rfl, ho4, hb4⟩
  have hpos : 0 < (T.filter fun x => !(x == -1)).length := List.length_pos_iff.2 (List.ne_nil_of_mem (List.mem_filter.2 ⟨HT3.out, by simp⟩))
  have hle : (T.filter fun x => !(x == -1)).length ≤ 12 := Nat.le_trans (List.length_filter_le _ _) hTl
  have HF := Lib.hid (show (T.filter fun x => !(x == -1)) = T.filter fun x => !(x == -1) from rfl)
  obtain ⟨F, hFe⟩ : ∃ F, (T.filter fun x => !(x == -1)) = F := ⟨_, rfl⟩
  rw [hFe] at hpos hle ho4 ⊢
  have HFe := Lib.hid hFe
  clear hFe HF
  go_wp2_with fail
  refine (sort_any (.slice A4 F.length c4) F w2 w4 w2.heap.size ho4 hle hpos hb4 (Nat.le_refl _)).mono ?_
  rintro e w5 ⟨rfl, S, ho5, hpm, hpw, hb5⟩
  have hSl : F.length = S.length := hpm.length_eq.symm
  rw [hSl] at ho5 hle hpos ⊢
  have hSR := ho5.rd
  have HL := Lib.hid (show LS T (rl S S.length) from rl_ls (fun x hx => (HT2.out x hx).1) (by rw [HFe.out]; exact hpm) hpw)
  have hE5 := ((hB.trans hb1).trans hb2).trans hb5
  obtain ⟨i0, hi0, hz0, hz1, hz2⟩ := info_parts info_lev
  clear ho3 ho4 ho5 hpm hpw hb3 hb4 hR2
  go_wp2_with fail
  go_loopg [11, 37] S.length (fun q u k wr => ∃ j : Nat, j + q = S.length ∧ k = .int .i64 j ∧ Owns ELev wr w5.heap.size 39 u (rl S j) ∧ Ext w5 wr)
  case atStart => exact ⟨0, by omega, rfl, Owns.none_ _ _, Ext.refl _⟩
  case round =>
    obtain ⟨j, hjq, rfl, hu, hx⟩ := hrel
    have Hjq := Lib.hid hjq
    have hjN : j ≤ S.length := by omega
    clear hjq
    by_cases hlt2 : j < S.length
    · obtain ⟨b, o, rfl, hbl, hcj⟩ := (hSR.ext hx).int hlt2
      have hst := rl_one S j
      rw [gi_get hlt2] at hst
      have hol := rl_len S j
      have Hst := Lib.hid hst
      clear hst
      generalize S[j] = x at *
      obtain ⟨out, hout⟩ : ∃ out, rl S j = out := ⟨_, rfl⟩
      rw [hout] at hu hol Hst
      clear hout
      obtain ⟨Au, cu, rfl, _⟩ := hu.form
      have hsz := hx.size
      by_cases hL0 : out.length = 0
      · obtain rfl : out = [] := List.eq_nil_of_length_eq_zero hL0
        have HNX := Lib.hid (show rl S (j + 1) = [] ++ [⟨x, (j : Int) + 1⟩] by rw [Hst.out]; unfold rlStep; rw [if_neg (by simp)])
        simp only [List.length_nil] at hu ⊢
        clear hL0
        go_wp2_with (at_builtin; refine wpList_push rfl (.tmp 63) (.tmp 68) _ (by rfl) w5.heap.size 39 i0 _ 16 Tryz.underlying28 hi0 hz0 hz1 hz2 (by rfl) (.slice Au 0 cu) (by rfl) (hu.ext ((Ext.refl _).alloc _)) wr.heap.size (⟨x, (j : Int) + 1⟩ : Lev) (by rfl) (Blk.new wr _ _) (by simp [maxLen]) (by simp) (by simp; omega) ?_; intro v6 w6 hv6 hg6 hat6)
        have hx6 := ext_grown (hx.alloc _) (hu.ext ((Ext.refl _).alloc _)) (Nat.le_refl _) hg6
        go_roundg (gk - 1)
        case measure => have := Hjq.out; omega
        case rel => exact ⟨j + 1, by have := Hjq.out; omega, by go_num, by rw [HNX.out]; exact hv6, hx6⟩
      · obtain ⟨L, hL⟩ : ∃ L, out.length = L + 1 := ⟨out.length - 1, by omega⟩
        obtain ⟨g, rfl, hg⟩ := hu.head (by omega)
        obtain ⟨cur, hbk, hszc, hcc, hcell⟩ := hu.there_
        have hLl : L < out.length := by omega
        have cl0 := (hbk.cell (L * 2 + 0)).trans (hcell L hLl 0 (by decide))
        have cl1 := (hbk.cell (L * 2 + 1)).trans (hcell L hLl 1 (by decide))
        have hfz := hbk.frozen
        have hgl := hbk.lt
        simp only [ELev, Lev.cells, Nat.add_zero] at cl0 cl1
        have hwL : IntKind.i64.wrap (L : Int) = (L : Int) := IntWalk.i64_in _ (by omega)
        have hLm : L ≤ 12 := by omega
        have hset : ∀ W, Ext wr W → out[L].tm = x → Owns ELev (W.setCell ⟨g, L * 2 + 1, none⟩ (.int .i64 ((j : Int) + 1))) w5.heap.size 39 (.slice (some ⟨g, 0, none⟩) (L + 1) cu) (out.set L ⟨x, (j : Int) + 1⟩) := fun W hW hh => by
          have h1 := (hu.ext hW).set_one hLl (⟨x, (j : Int) + 1⟩ : Lev) 1 (.int .i64 ((j : Int) + 1)) (by decide) (fun i hi => by
            have hi2 : i < 2 := hi
            match i, hi2 with
            | 0, _ => simp [ELev, Lev.cells, hh]
            | 1, _ => simp [ELev, Lev.cells])
          rw [hL] at h1
          exact h1
        have HST1 := Lib.hid (fun hh : out[L].tm = x => show rl S (j + 1) = out.set L ⟨x, (j : Int) + 1⟩ by
          rw [Hst.out]; unfold rlStep
          have e1 : out.length - 1 = L := by omega
          rw [e1, if_pos ⟨by omega, by rw [gl_get hLl]; exact hh⟩])
        have HST2 := Lib.hid (fun hh : ¬ out[L].tm = x => show rl S (j + 1) = out ++ [⟨x, (j : Int) + 1⟩] by
          rw [Hst.out]; unfold rlStep
          have e1 : out.length - 1 = L := by omega
          rw [e1, if_neg (fun h9 => hh (by rw [← gl_get hLl]; exact h9.2))])
        have HL2 := Lib.hid hL
        have Hset := Lib.hid hset
        rw [hL] at hu ⊢
        clear hL hcell hset hL0 hbk hcc hszc hol
        by_cases hxy : out[L].tm = x
        · have d0 : (out[L].tm == x) = true := by simpa using hxy
          have Hxy := Lib.hid hxy
          clear hxy
          generalize out[L].tm = yt at *
          go_wp2
          go_roundg (gk - 1)
          case measure => have := Hjq.out; omega
          case rel => exact ⟨j + 1, by have := Hjq.out; omega, by go_num, by rw [HST1.out Hxy.out]; exact Hset.out _ (Ext.refl _) Hxy.out, hx.setCell hg _⟩
        · have d0 : (out[L].tm == x) = false := by simpa using hxy
          have Hxy := Lib.hid hxy
          clear hxy
          have HST3 := Lib.hid (HST2.out Hxy.out)
          have hLb : L + 1 ≤ 1000000 := by omega
          clear HST1 HST2 Hxy Hset
          generalize out[L].tm = yt at *
          go_wp2_with (at_builtin; refine wpList_push rfl (.tmp 63) (.tmp 68) _ (by rfl) w5.heap.size 39 i0 _ 16 Tryz.underlying28 hi0 hz0 hz1 hz2 (by rfl) (.slice (some ⟨g, 0, none⟩) (L + 1) cu) (by rfl) (hu.ext ((Ext.refl _).alloc _)) wr.heap.size (⟨x, (j : Int) + 1⟩ : Lev) (by rfl) (Blk.new wr _ _) (by simp only [maxLen]; have := HL2.out; omega) (by have := HL2.out; omega) (by simp; omega) ?_; intro v6 w6 hv6 hg6 hat6)
          have hx6 := ext_grown (hx.alloc _) (hu.ext ((Ext.refl _).alloc _)) (Nat.le_refl _) hg6
          go_roundg (gk - 1)
          case measure => have := Hjq.out; omega
          case rel => exact ⟨j + 1, by have := Hjq.out; omega, by go_num, by rw [HST3.out]; exact hv6, hx6⟩
    · have he : j = S.length := by omega
      subst he
      obtain ⟨Au, cu, rfl, hRo⟩ := hu.form
      go_wp2
      go_ret2
      exact ⟨Au, cu, _, 0, rfl, hRo, hE5.trans hx, hP.out _ HL.out⟩

end Go.Proofs.YtifopbkhflpbfaaGreat

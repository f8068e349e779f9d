
/- Layer 26 (reach): the matrix. -/
import Derived.Test.YtifopbkhflpbfaaGreatRchM
namespace Go.Proofs.YtifopbkhflpbfaaGreat
set_option linter.unusedVariables false
set_option linter.unusedSimpArgs false
open Go.RowKit Go.Shelf
attribute [local go_sem] Oper.semAt_some

/-- A list of any kind by its header. -/
def EHdr : Elt (Option Addr × Nat × Nat) := ⟨fun x => [.slice x.1 x.2.1 x.2.2], 1, fun _ => rfl, by omega, fun x u hu => by simp at hu; subst hu; rfl⟩
theorem Rd.hdr {w : World} {A : Option Addr} {l : List (Option Addr × Nat × Nat)} (h : Rd EHdr w A l) {k : Nat} (hk : k < l.length) : ∃ b o, A = some ⟨b, o, none⟩ ∧ b < w.heap.size ∧ w.cell? ⟨b, o + k, none⟩ = some (.slice l[k].1 l[k].2.1 l[k].2.2) := by
  obtain ⟨b, o, rfl, hb, hc⟩ := h.at hk
  refine ⟨b, o, rfl, hb, ?_⟩
  have := hc 0 (.slice l[k].1 l[k].2.1 l[k].2.2) rfl
  simpa [EHdr] using this
theorem info_slb : (Tryz.prog.info? 59).map (fun i => (i.zero, i.size, i.bytes)) = some (some (.slice none 0 0), 1, 24) := by kernel_rfl
/-- A matrix lies in memory. -/
def MatRd (w : World) (base : Nat) (v : Value) (rows : List (List Bool)) : Prop :=
  ∃ hs : List (Option Addr × Nat × Nat), Owns EHdr w base 59 v hs ∧ hs.length = rows.length ∧ ∀ (i : Nat) (h : i < hs.length) (h2 : i < rows.length), Owns EBool w base 4 (.slice hs[i].1 hs[i].2.1 hs[i].2.2) rows[i]
theorem MatRd.nil (w : World) (base : Nat) : MatRd w base (.slice none 0 0) [] := ⟨[], Owns.none_ _ _, rfl, fun i h => by simp at h⟩
theorem MatRd.ext {w w' : World} {base : Nat} {v : Value} {rows : List (List Bool)} (h : MatRd w base v rows) (hb : Ext w w') : MatRd w' base v rows := by
  obtain ⟨hs, h1, h2, h3⟩ := h
  exact ⟨hs, h1.ext hb, h2, fun i hi hj => (h3 i hi hj).ext hb⟩
theorem MatRd.mono {w : World} {base base' : Nat} {v : Value} {rows : List (List Bool)} (h : MatRd w base v rows) (hb : base' ≤ base) : MatRd w base' v rows := by
  obtain ⟨hs, h1, h2, h3⟩ := h
  exact ⟨hs, h1.mono hb, h2, fun i hi hj => (h3 i hi hj).mono hb⟩
theorem Owns.keptd {α β : Type} {E : Elt α} {E' : Elt β} {w w' : World} {base base' : Nat} {e e' : TypeId} {v v' : Value} {l : List α} {l' : List β} (h : Owns E w base e v l) (h' : Owns E' w base' e' v' l') (hne : e ≠ e') (hg : w.grownBy w' v'.ownBlock) : Owns E w' base e v l :=
  h.kept hg (fun g hv e2 => by
    obtain ⟨c1, f1, h1⟩ := h.celld hv
    obtain ⟨c2, f2, h2⟩ := h'.celld e2.symm
    rw [h1] at h2
    injection h2 with h2
    injection h2 with _ h2 _
    exact hne h2)
theorem MatRd.push {w w' : World} {base : Nat} {v v' : Value} {rows : List (List Bool)} {r : List Bool} {hs : List (Option Addr × Nat × Nat)} {x : Option Addr × Nat × Nat} (ho : Owns EHdr w base 59 v hs) (hl : hs.length = rows.length)
    (hrd : ∀ (i : Nat) (h : i < hs.length) (h2 : i < rows.length), Owns EBool w base 4 (.slice hs[i].1 hs[i].2.1 hs[i].2.2) rows[i]) (hx : Owns EBool w base 4 (.slice x.1 x.2.1 x.2.2) r)
    (hv : Owns EHdr w' base 59 v' (hs ++ [x])) (hg : w.grownBy w' v.ownBlock) : MatRd w' base v' (rows ++ [r]) := by
  refine ⟨hs ++ [x], hv, by simp [hl], fun i hi hj => ?_⟩
  rw [List.length_append, List.length_singleton] at hi
  by_cases h : i < hs.length
  · simp only [List.getElem_append_left h, List.getElem_append_left (show i < rows.length by omega)]
    exact (hrd i h (by omega)).keptd ho (by decide) hg
  · have e : i = hs.length := by omega
    subst e
    rw [List.getElem_append_right (by omega), List.getElem_append_right (by omega)]
    simp only [hl, Nat.sub_self, List.getElem_cons_zero]
    exact hx.keptd ho (by decide) hg
theorem Pln.mat_take (p : Pln) (r d n : Int) {j : Nat} (h : j < p.quo.length) : (p.mat r d n).take (j + 1) = (p.mat r d n).take j ++ [p.row (j : Int) r d n] := by
  have h2 : j < (p.mat r d n).length := by rw [Pln.mat_len]; exact h
  have e : (p.mat r d n)[j]? = some (p.row (j : Int) r d n) := by
    unfold Pln.mat
    simp only [List.getElem?_map, List.getElem?_range h, Option.map_some]
  rw [List.take_add_one, e]
  rfl
/-- What Matrix returns, in memory. -/
def MatR (p : Pln) (r d n : Int) (w : World) (e : Ending) (w' : World) : Prop :=
  ∃ A c, e = .returned (.tuple #[.slice A (p.matM r d n).length c, .int .i64 (p.matE r d n)]) ∧ MatRd w' w.heap.size (.slice A (p.matM r d n).length c) (p.matM r d n) ∧ Ext w w'
theorem Pln.matE_ok {p : Pln} {r d n : Int} (h : p.matE r d n = 0) : p.chk = 0 ∧ (1 ≤ n ∧ n ≤ 65536) ∧ (0 ≤ r ∧ r ≤ d ∧ d ≤ 1099511627776) := by
  unfold Pln.matE at h
  split at h
  · rename_i h0
    split at h
    · rename_i h1
      unfold winB at h1
      rw [decide_eq_true_eq] at h1
      unfold Pln.rv at h0
      split at h0
      · rename_i h2
        split at h0
        · rename_i h3
          simp only [Pln.argR, decide_eq_true_eq] at h3
          exact ⟨h2, ⟨h3.1, h3.2.1⟩, h1⟩
        · omega
      · omega
    · omega
  · rename_i h0; exact absurd h h0

set_option maxRecDepth 100000 in
set_option maxHeartbeats 4000000 in
theorem Matrix_any (Aq : Option Addr) (cq : Nat) (Ac : Option Addr) (cc : Nat) (p : Pln) (r d n : Int) (w : World) (h : PlnRd w Aq cq Ac cc p) :
    Calls Tryz.prog 29 #[p.val Aq cq Ac cc, .int .i64 r, .int .i64 d, .int .i64 n] w (MatR p r d n w) := by
  obtain ⟨j0, hj0, hy0, hy1, hy2⟩ := info_parts info_slb
  obtain ⟨W1, hW1, hB1, hk1, hl1⟩ := box1 w #[.slice Aq p.quo.length cq, .slice Ac p.cons.length cc] 25
  have s1 : W1.heap.size = w.heap.size + 1 := by rw [← hW1]; simp
  obtain ⟨W2, hW2, hB2, hk2, hl2⟩ := box1 W1 #[.int .i64 r] 3
  have s2 : W2.heap.size = w.heap.size + 2 := by rw [← hW2]; simp [s1]
  obtain ⟨W3, hW3, hB3, hk3, hl3⟩ := box1 W2 #[.int .i64 d] 3
  have s3 : W3.heap.size = w.heap.size + 3 := by rw [← hW3]; simp [s2]
  obtain ⟨W4, hW4, hB4, hk4, hl4⟩ := box1 W3 #[.int .i64 n] 3
  have s4 : W4.heap.size = w.heap.size + 4 := by rw [← hW4]; simp [s3]
  rw [s1] at hk2
  rw [s2] at hk3
  rw [s3] at hk4
  have E4 := (hB1.trans hB2).trans (hB3.trans hB4)
  have k1 := ((hk1.ext hB2).ext hB3).ext hB4
  have k2 := (hk2.ext hB3).ext hB4
  have k3 := hk3.ext hB4
  have hc1 := k1.cell
  have hc2 := k2.cell
  have hc3 := k3.cell
  have hc4 := hk4.cell
  have htm := times_any Aq cq Ac cc p r d n W4 (h.ext E4)
  by_cases h0 : p.matE r d n = 0
  · rw [h0] at htm
    obtain ⟨a0, a1, a2⟩ := Pln.matE_ok h0
    have hn16 := (Pln.ok_of a0).n16
    have HE := Lib.hid h0
    have HM := Lib.hid (show p.matM r d n = p.mat r d n by unfold Pln.matM; rw [if_pos h0])
    have hrow := fun i wz h hi kp kr kn kd => row_any Aq cq Ac cc p r d n (w.heap.size) (w.heap.size + 1) (w.heap.size + 3) (w.heap.size + 2) i wz h a0 a1 ⟨a2.1, by omega⟩ hi kp kr kn kd
    clear h0
    unfold Pln.val at htm ⊢
    go_enter Tryz.func29, Tryz.ntmps29
    go_wp2_with fail
    clear hW1 hW2 hW3 hW4
    refine htm.mono ?_
    clear htm hc1 hc2 hc3 hc4
    rintro e w1 ⟨rfl, hb1⟩
    have x1 := k1.ext hb1
    have hE1 := E4.trans hb1
    have hw1 := hE1.size
    have Hrow := Lib.hid hrow
    have hcx := x1.cell
    clear hrow s1 s2 s3 s4
    go_wp2_with fail
    clear hcx
    go_loopg [12, 26] p.quo.length (fun q u k wr => ∃ (j : Nat) (A : Option Addr) (c : Nat), j + q = p.quo.length ∧ k = .int .i64 j ∧ u = .slice A j c ∧ Hid (MatRd wr w1.heap.size u ((p.mat r d n).take j)) ∧ Ext w1 wr)
    case atStart => exact ⟨0, none, 0, by omega, rfl, rfl, Lib.hid (MatRd.nil _ _), Ext.refl _⟩
    case round =>
      obtain ⟨j, A, c, hjq, rfl, rfl, hm, hx⟩ := hrel
      have Hjq := Lib.hid hjq
      have hjN : j ≤ p.quo.length := by omega
      clear hjq
      by_cases hlt : j < p.quo.length
      · have hro := Hrow.out (j : Int) wr ((h.ext hE1).ext hx) (by omega) (x1.ext hx) (((k2.ext hb1).ext hx)) ((hk4.ext hb1).ext hx) ((k3.ext hb1).ext hx)
        go_wp2_with fail
        refine hro.mono ?_
        clear hro
        rintro e w2 ⟨g, rfl, ho2, hx2⟩
        obtain ⟨hs, o1, o2, o3⟩ := hm.out.ext hx2
        have hl1 : hs.length = j := by rw [o2, List.length_take, Pln.mat_len]; omega
        have Hl1 := Lib.hid hl1
        have Ho2 := Lib.hid o2
        have Ho3 := Lib.hid o3
        have hwr := hx.size
        have hw2 := hx2.size
        clear hl1 o2 o3
        go_wp2_with (at_builtin; refine wpList_push rfl (.tmp 29) (.tmp 33) _ (by rfl) w1.heap.size 59 j0 _ 24 Tryz.underlying56 hj0 hy0 hy1 hy2 (by rfl) (.slice A j c) (by rfl) (o1.ext ((Ext.refl _).alloc _)) w2.heap.size (some ⟨g, 0, none⟩, p.quo.length, p.quo.length) (by rfl) (Blk.new w2 _ _) (by rw [Hl1.out]; simp only [maxLen]; omega) (by rw [Hl1.out]; omega) (by simp; omega) ?_; intro v6 w6 hv6 hg6 hat6; obtain ⟨A6, c6, hv6e, _⟩ := hv6.form; rw [List.length_append, Hl1.out, List.length_singleton] at hv6e; subst hv6e)
        have hx6 := ext_grown ((hx.trans hx2).alloc _) (o1.ext ((Ext.refl _).alloc _)) (Nat.le_refl _) hg6
        go_roundg (gk - 1)
        case measure => have := Hjq.out; omega
        case rel =>
          refine ⟨j + 1, A6, c6, by have := Hjq.out; omega, by go_num, rfl, Lib.hid ?_, hx6⟩
          rw [Pln.mat_take p r d n hlt]
          exact MatRd.push (o1.ext ((Ext.refl _).alloc _)) Ho2.out (fun i h1 h2 => (Ho3.out i h1 h2).ext ((Ext.refl _).alloc _)) ((ho2.mono hwr).ext ((Ext.refl _).alloc _)) hv6 hg6
      · have he : j = p.quo.length := by omega
        subst he
        go_wp2
        go_ret2
        have hm2 := hm.out
        rw [List.take_of_length_le (by rw [Pln.mat_len]; exact Nat.le_refl _), ← HM.out] at hm2
        have hl : (p.matM r d n).length = p.quo.length := by rw [HM.out, Pln.mat_len]
        exact ⟨A, c, by rw [HE.out, hl]; rfl, by rw [hl]; exact hm2.mono hw1, hE1.trans hx⟩
  · have HM := Lib.hid (show p.matM r d n = [] by unfold Pln.matM; rw [if_neg h0])
    have d1 : (p.matE r d n != 0) = true := by simpa using h0
    have HE : Hid (p.matE r d n = p.matE r d n) := Lib.hid rfl
    obtain ⟨er, her⟩ : ∃ er, p.matE r d n = er := ⟨_, rfl⟩
    rw [her] at htm d1
    have Her := Lib.hid her
    clear h0 her HE
    unfold Pln.val at htm ⊢
    go_enter Tryz.func29, Tryz.ntmps29
    go_wp2_with fail
    clear hW1 hW2 hW3 hW4
    refine htm.mono ?_
    clear htm hc1 hc2 hc3 hc4
    rintro e w1 ⟨rfl, hb1⟩
    go_wp2
    go_ret2
    exact ⟨none, 0, by rw [Her.out, HM.out]; rfl, by rw [HM.out]; exact MatRd.nil _ _, E4.trans hb1⟩

end Go.Proofs.YtifopbkhflpbfaaGreat

/- Layer 26 (reach): slices.Clone and slices.DeleteFunc of numbers. · Replay windows: New, Check, kept, slices.Compact of numbers that ascend. -/
import Derived.Shelf.Slices.Clone
import Derived.Laws.ResultCell
import Derived.BigQuiet
import Derived.Test.YtemkpimngbbpkaaGreatTopR01
import Derived.Test.YtemkpimngbbpkaaGreatTopR03
namespace Go.Proofs.YtemkpimngbbpkaaGreat
set_option linter.unusedVariables false
set_option linter.unusedSimpArgs false
set_option linter.unusedVariables false
set_option linter.unusedSimpArgs false
open Go.RowKit Go.Shelf

theorem info_intD : (Tryz.prog.info? 3).map (fun i => (i.zero, i.size, i.bytes)) = some (some (.int .i64 0), 1, 8) := by kernel_rfl
set_option maxHeartbeats 1000000 in
theorem cloneInt_any (A : Option Addr) (c : Nat) (l : List Int) (w : World) (hA : Rd EInt w A l) (hmax : l.length ≤ 1000000) :
    Calls Tryz.prog 54 #[.slice A l.length c] w fun e w' => ∃ v, e = .returned v ∧ Owns EInt w' w.heap.size 3 v l ∧ Ext w w' := by
  obtain ⟨i0, hi0, hz0, hz1, hz2⟩ := info_parts info_intD
  have q22 : ∀ (w : World) (a : Option Addr) (n c n' c' : Nat), (binOp .eql 30 (.slice a n c) (.slice none n' c')).run Tryz.prog w = .ok (.bool a.isNone) w := fun w a n c n' c' => Lib.run_eql_slice_nil w _ _ a n c n' c' Tryz.underlying30
  cases A with
  | none =>
    have hl : l = [] := by
      cases l with
      | nil => rfl
      | cons x l => obtain ⟨b, o, h, _⟩ := hA.at (k := 0) (by simp); cases h
    subst hl
    go_enter Tryz.func54, Tryz.ntmps54
    go_wp2
    go_ret
    exact ⟨_, rfl, Owns.none_ _ _, Ext.refl _⟩
  | some a =>
    go_enter Tryz.func54, Tryz.ntmps54
    go_wp2_with (at_builtin; refine wpList_cat rfl (.tmp 5) (.tmp 6) _ rfl w.heap.size 3 i0 _ 8 Tryz.underlying30 hi0 hz0 hz1 hz2 rfl (.slice (some ⟨w.heap.size, 0, none⟩) 0 0) rfl (Owns.made w w.heap.size _ (Nat.le_refl _)) c _ rfl rfl (hA.ext ((Ext.refl _).alloc _)) (by simp [maxLen]; omega) (by simp; omega) (by simp) ?_; intro v6 w6 hv6 hg6 hat6)
    go_ret
    exact ⟨_, rfl, hv6, ext_grown ((Ext.refl w).alloc _) (Owns.made (E := EInt) w w.heap.size _ (Nat.le_refl _)) (Nat.le_refl _) hg6⟩
theorem PredI.mono {w0 w : World} {f : FuncId} {cs : Array Value} {p : Int → Bool} (h : PredI w0 f cs p) (hb : Ext w0 w) : PredI w f cs p :=
  ⟨h.enters, fun x w' hw => h.says x w' (hb.trans hw)⟩
theorem Owns.ints {w : World} {base : Nat} {e : TypeId} {g n c : Nat} {m : List Int} (h : Owns EInt w base e (.slice (some ⟨g, 0, none⟩) n c) m) {k : Nat} (hk : k < m.length) :
    g < w.heap.size ∧ (∀ i, w.frozen? ⟨g, i, none⟩ = false) ∧ w.cell? ⟨g, k, none⟩ = some (.int .i64 m[k]) := by
  have h1 := h.gi (i := (k : Int)) (by simpa using hk)
  rw [gi_get hk, Int.toNat_natCast] at h1
  exact ⟨h.free.1, h.free.2, h1⟩
/-- The beginning of a list of the call's own, where the rest was written. -/
theorem Owns.cutoff {α : Type} {E : Elt α} {w : World} {base : Nat} {e : TypeId} {g n c : Nat} {m : List α} (h : Owns E w base e (.slice (some ⟨g, 0, none⟩) n c) m) {a : Nat} (ha : a ≤ m.length) (vs : List Value) (hvs : a * E.size + vs.length ≤ c * E.size) :
    Owns E (w.setCells g (a * E.size) vs) base e (.slice (some ⟨g, 0, none⟩) a c) (m.take a) := by
  have hn := h.len
  subst hn
  rcases h.2 with ⟨h1, _⟩ | ⟨g', cap, cur, h1, hg, hh, hnc, hcap, hsz, ht⟩
  · cases h1
  · injection h1 with h2 h3 h4
    injection h2 with h2
    injection h2 with h2
    subst h2 h4
    have hb := Blk.setCells_ vs (show Blk w g e cur from hh) (a * E.size)
    have hl : (m.take a).length = a := by rw [List.length_take, Nat.min_eq_left ha]
    refine ⟨by rw [E.all_len], .inr ⟨g, c, _, by rw [hl], hg, hb, by omega, hcap, by rw [arrSets_size]; exact hsz, ?_⟩⟩
    rw [hl]
    have hle : a * E.size ≤ m.length * E.size := Nat.mul_le_mul_right _ ha
    have he : E.all m = E.all (m.take a) ++ E.all (m.drop a) := by rw [← E.all_append, List.take_append_drop]
    have hla : (E.all (m.take a)).length = a * E.size := by rw [E.all_len, hl]
    apply List.ext_getElem?
    intro q
    by_cases hq : q < a * E.size
    · rw [List.getElem?_take_of_lt hq, Array.getElem?_toList, arrSets_get _ _ _ _ (by rw [hsz]; exact hvs), if_neg (by omega)]
      have h5 : (E.all m)[q]? = (E.all (m.take a))[q]? := by rw [he, List.getElem?_append_left (by omega)]
      rw [← h5, ← ht, List.getElem?_take_of_lt (by omega), Array.getElem?_toList]
    · rw [List.getElem?_take_eq_none (by omega), List.getElem?_eq_none (by omega)]
end Go.Proofs.YtemkpimngbbpkaaGreat

namespace Go.Proofs.YtemkpimngbbpkaaGreat
set_option linter.unusedVariables false
set_option linter.unusedSimpArgs false
set_option linter.unusedVariables false
set_option linter.unusedSimpArgs false
open Go.RowKit Go.Shelf
attribute [local go_sem] Oper.semAt_some

theorem results_cell_tmpR {fn : Func} {p q : Tmp} {ty : TypeId} (h : fn.results = #[.cell p ty, .tmp q]) (tmps : Array Value) (P : Program) (w : World) :
    (results fn tmps).run P w = ((asAddr (tmps.getD p undef)).run P w).andThen fun a w₁ => ((loadVar ty a).run P w₁).andThen fun v w₂ => .ok (.tuple #[v, tmps.getD q undef]) w₂ := by
  simp only [results, h]
  simp [Sem.run_bind, Result.andThen]
theorem results_cellR {fn : Func} {p : Tmp} {ty : TypeId} (h : fn.results = #[.cell p ty]) (tmps : Array Value) (P : Program) (w : World) :
    (results fn tmps).run P w = ((asAddr (tmps.getD p undef)).run P w).andThen fun a w₁ => (loadVar ty a).run P w₁ := by
  simp only [results, h]
  simp [Sem.run_bind, Result.andThen]

set_option maxHeartbeats 4000000 in
theorem rpNew_any (n : Int) (w : World) (h : 1 ≤ n ∧ n ≤ 64) :
    Calls Tryz.prog 8 #[.int .i64 n] w fun e w' => e = .returned (.tuple #[.agg #[.int .i64 n, .int .i64 (-1), .slice none 0 0], .int .i64 0]) ∧ Ext w w' := by
  obtain ⟨W1, hW1, hB1, hk1, hl1⟩ := box1 w #[.int .i64 0, .int .i64 0, .slice none 0 0] 32
  have c1 := hk1.cell
  have c3 := hk1.frozen
  obtain ⟨h1, h2⟩ := h
  go_enter Tryz.func8, Tryz.ntmps8
  go_wp2
  clear hW1
  obtain ⟨w7, hw7, hz7, hE7⟩ : ∃ w7, W1.setCells w.heap.size 0 [.int .i64 n, .int .i64 (-1), .slice none 0 0] = w7 ∧ Blk w7 w.heap.size 32 #[.int .i64 n, .int .i64 (-1), .slice none 0 0] ∧ Ext w w7 :=
    ⟨_, rfl, hk1.setCells_ [.int .i64 n, .int .i64 (-1), .slice none 0 0] 0, ext_setCells hB1 (Nat.le_refl _) 0 _⟩
  simp only [World.setCells, Nat.zero_add, Nat.reduceAdd] at hw7
  rw [hw7]
  have hc7 := hz7.cell
  refine bodyPost_ret (v := .tuple #[.agg #[.int .i64 n, .int .i64 (-1), .slice none 0 0], .int .i64 0]) (by rw [results_cell_tmpR rfl]; simp [asAddr, Result.andThen, hc7, go_sem]) rfl ?_
  exact ⟨rfl, hE7⟩

theorem pw_len : ∀ {l : List Int} {a b : Int}, l.Pairwise (· < ·) → (∀ n ∈ l, a < n ∧ n ≤ b) → a ≤ b → (l.length : Int) ≤ b - a
  | [], _, _, _, _, h => by simp; omega
  | x :: l, a, b, hp, hm, _ => by
    have h1 := hm x (by simp)
    rw [List.pairwise_cons] at hp
    have := pw_len (l := l) (a := x) (b := b) hp.2 (fun n hn => ⟨hp.1 n hn, (hm n (by simp [hn])).2⟩) h1.2
    rw [List.length_cons]
    omega
theorem Win.Ok.len {w : Win} (h : w.Ok) : w.seen.length ≤ 64 := by
  have h1 := h.s1
  have h2 := h.s2
  have := pw_len (a := w.top - w.size) (b := w.top) h.pw (fun n hn => ⟨(h.mem n hn).2.2, (h.mem n hn).2.1⟩) (by omega)
  omega

set_option maxRecDepth 100000 in
set_option maxHeartbeats 16000000 in
theorem rpCheck_ok (W : Win) (A : Option Addr) (cc : Nat) (w : World) (hok : W.Ok) (hR : Rd EInt w A W.seen) :
    Calls Tryz.prog 51 #[.agg #[.int .i64 W.size, .int .i64 W.top, .slice A W.seen.length cc]] w fun e w' => e = .returned (.int .i64 0) ∧ Ext w w' := by
  have hlen := hok.len
  have s1 := hok.s1
  have s2 := hok.s2
  have t1 := hok.t1
  have t2 := hok.t2
  have Hm := Lib.hid hok.mem
  have Hp := Lib.hid (List.pairwise_iff_getElem.1 hok.pw)
  have Hl := Lib.hid hok.last
  clear hok
  obtain ⟨size, top, seen⟩ := W
  dsimp only at *
  obtain ⟨W1, hW1, hB1, hk1, hl1⟩ := box1 w #[.int .i64 size, .int .i64 top, .slice A seen.length cc] 32
  have c1 := hk1.cell
  have hR1 := hR.ext hB1
  go_enter Tryz.func51, Tryz.ntmps51
  go_wp2_with fail
  clear hW1
  go_loopg [26] seen.length (fun n v wr => ∃ k : Nat, k + n = seen.length ∧ v = .int .i64 k ∧ wr = W1)
  case atStart => exact ⟨0, by omega, by go_num, rfl⟩
  case round =>
    obtain ⟨k, hkn, rfl, rfl⟩ := hrel
    have Hkn := Lib.hid hkn
    by_cases hlt : k < seen.length
    · obtain ⟨b, o, rfl, hb, c0⟩ := hR1.int hlt
      obtain ⟨m1, m2, m3⟩ := Hm.out _ (List.getElem_mem hlt)
      by_cases hk0 : k = 0
      · have hk0' : ¬ 0 < (k : Int) := by omega
        generalize seen[k] = x at *
        clear hkn hk0
        go_wp2
        go_roundg (gk - 1)
        case measure => have := Hkn.out; omega
        case rel => exact ⟨k + 1, by have := Hkn.out; omega, by go_num, rfl⟩
      · obtain ⟨j, rfl⟩ : ∃ j, k = j + 1 := ⟨k - 1, by omega⟩
        obtain ⟨b', o', e', hb', d0⟩ := hR1.int (show j < seen.length by omega)
        injection e' with e'
        injection e' with e1 e2
        subst e1 e2
        have hxy := Hp.out j (j + 1) (by omega) hlt (by omega)
        generalize seen[j + 1] = x at *
        generalize seen[j] = y at *
        clear hkn
        go_wp2
        go_roundg (gk - 1)
        case measure => have := Hkn.out; omega
        case rel => exact ⟨j + 1 + 1, by have := Hkn.out; omega, by go_num, rfl⟩
    · clear hkn
      have hN := Near.refl wr
      rcases Hl.out with ⟨h1, h2⟩ | ⟨h1, h2⟩
      · subst h1
        go_wp2
        have hq := quiet_near hN
        refine wp_region_quiet_below (by kernel_rfl) (by kernel_rfl) ?_
        repeat (first | go_big_quiet_skip | (go_big_quiet_want; go_big_quiet_op; first | go_big_quiet_on | (apply Exists.intro; refine ⟨fun _ => ?_, ?_⟩; (focus (first | fail)); go_big_quiet_on)))
        refine wpQuiet_nil ?_
        intro w1 hw1
        clear hq
        replace hw1 := quiet_ext hw1
        replace hN := hN.step hw1
        have hC := hN.2
        go_wp2
        go_ret
        exact ⟨rfl, hB1.trans hN.1⟩
      · have hne : seen ≠ [] := by intro e; subst e; simp at h2
        have hpos : 0 < seen.length := List.length_pos_iff.2 hne
        rw [List.getLast?_eq_some_getLast hne, List.getLast_eq_getElem] at h2
        injection h2 with h2
        obtain ⟨i, hi⟩ : ∃ i, seen.length = i + 1 := ⟨seen.length - 1, by omega⟩
        obtain ⟨b, o, rfl, hb, c0⟩ := hR1.int (show i < seen.length by omega)
        have h3 : seen[i] = top := by rw [← h2]; congr 1; omega
        rw [h3] at c0
        have z1 : (top == -1) = false := by rw [beq_eq_false_iff_ne]; omega
        have z2 : (top != -1) = true := by rw [bne_iff_ne]; omega
        rw [hi] at *
        have z3 : (((i : Int) + 1) == 0) = false := by rw [beq_eq_false_iff_ne]; omega
        clear h2 h3
        go_wp2
        have hq := quiet_near hN
        refine wp_region_quiet_below (by kernel_rfl) (by kernel_rfl) ?_
        repeat (first | go_big_quiet_skip | (go_big_quiet_want; go_big_quiet_op; first | go_big_quiet_on | (apply Exists.intro; refine ⟨fun _ => ?_, ?_⟩; (focus (first | fail)); go_big_quiet_on)))
        refine wpQuiet_nil ?_
        intro w1 hw1
        clear hq
        replace hw1 := quiet_ext hw1
        replace hN := hN.step hw1
        have hC := hN.2
        go_wp2
        go_ret
        exact ⟨rfl, hB1.trans hN.1⟩

set_option maxHeartbeats 8000000 in
theorem kept_any (A : Option Addr) (c : Nat) (l : List Int) (f : FuncId) (cs : Array Value) (p : Int → Bool) (w : World) (hA : Rd EInt w A l) (hl : l.length ≤ 1000) (hp : PredI w f cs p) :
    Calls Tryz.prog 137 #[.slice A l.length c, .func (.func f) #[] cs] w fun e w' => ∃ u, e = .returned u ∧ Owns EInt w' w.heap.size 3 u (l.filter p) ∧ Ext w w' := by
  obtain ⟨i0, hi0, hz0, hz1, hz2⟩ := info_parts info_intD
  have hen := hp.enters
  go_enter Tryz.func137, Tryz.ntmps137
  go_wp2_with fail
  go_loopg [5, 10] l.length (fun n u v wr => ∃ k : Nat, k + n = l.length ∧ v = .int .i64 k ∧ Owns EInt wr w.heap.size 3 u ((l.take k).filter p) ∧ Ext w wr)
  case atStart => exact ⟨0, by omega, by go_num, Owns.none_ _ _, Ext.refl _⟩
  case round =>
    obtain ⟨k, hkn, rfl, ho, hE⟩ := hrel
    have Hkn := Lib.hid hkn
    by_cases hlt : k < l.length
    · obtain ⟨b, o, rfl, hb, c0⟩ := (hA.ext hE).int hlt
      have Hst := Lib.hid (show (l.take (k + 1)).filter p = (l.take k).filter p ++ (if p l[k] then [l[k]] else []) by rw [← List.take_append_getElem hlt, List.filter_append, List.filter_cons, List.filter_nil])
      have hml : ((l.take k).filter p).length ≤ k := Nat.le_trans (List.length_filter_le _ _) (List.length_take_le _ _)
      have hsy := hp.says
      generalize hxe : l[k] = x at *
      have Hx := Lib.hid hxe
      clear hxe hkn
      generalize (l.take k).filter p = m at *
      have hk1 : k < 1000 := by omega
      cases hpx : p x
      · have Hpx := Lib.hid hpx
        go_wp2_with fail
        refine (hsy x _ hE).mono ?_
        rintro e w1 ⟨rfl, hb1⟩
        rw [hpx]
        go_wp2
        go_roundg (gk - 1)
        case measure => have := Hkn.out; omega
        case rel => exact ⟨k + 1, by have := Hkn.out; omega, by go_num, by rw [Hst.out, if_neg (by rw [Hpx.out]; simp), List.append_nil]; exact ho.ext hb1, hE.trans hb1⟩
      · have Hpx := Lib.hid hpx
        go_wp2_with fail
        refine (hsy x _ hE).mono ?_
        rintro e w1 ⟨rfl, hb1⟩
        rw [hpx]
        have ho1 := ho.ext hb1
        have hE1 := hE.trans hb1
        have y1 := hE1.size
        go_wp2_with (at_builtin; refine wpList_push rfl (.tmp 17) (.tmp 19) _ (by rfl) w.heap.size 3 i0 _ 8 Tryz.underlying30 hi0 hz0 hz1 hz2 (by rfl) u5 (by rfl) (ho1.ext ((Ext.refl _).alloc _)) w1.heap.size x (by rfl) (Blk.new w1 _ _) (by simp only [maxLen]; omega) (by omega) (by simp; omega) ?_; intro v6 w6 hv6 hg6 hat6)
        have hx6 := ext_grown (hE1.alloc _) (ho1.ext ((Ext.refl _).alloc _)) (Nat.le_refl _) hg6
        go_roundg (gk - 1)
        case measure => have := Hkn.out; omega
        case rel => exact ⟨k + 1, by have := Hkn.out; omega, by go_num, by rw [Hst.out, if_pos Hpx.out]; exact hv6, hx6⟩
    · obtain rfl : k = l.length := by have := Hkn.out; omega
      rw [List.take_of_length_le (Nat.le_refl _)] at ho
      go_wp2
      go_ret
      exact ⟨_, rfl, ho, hE⟩

set_option maxRecDepth 100000 in
set_option maxHeartbeats 8000000 in
theorem compactI_asc (A : Option Addr) (c : Nat) (l : List Int) (w : World) (hA : Rd EInt w A l) (hl : l.length ≤ 1000) (hp : l.Pairwise (· < ·)) :
    Calls Tryz.prog 138 #[.slice A l.length c] w fun e w' => e = .returned (.slice A l.length c) ∧ Ext w w' := by
  by_cases h2 : l.length < 2
  · go_enter Tryz.func138, Tryz.ntmps138
    go_wp2
    go_ret
    exact ⟨rfl, Ext.refl _⟩
  have Hp := Lib.hid (List.pairwise_iff_getElem.1 hp)
  clear hp
  go_enter Tryz.func138, Tryz.ntmps138
  go_wp2_with fail
  go_loopg [3] l.length (fun n v wr => ∃ k : Nat, 1 ≤ k ∧ k + n = l.length + 1 ∧ v = .int .i64 k ∧ Ext w wr)
  case atStart => exact ⟨1, by omega, by omega, by go_num, Ext.refl _⟩
  case round =>
    obtain ⟨k, hk1, hkn, rfl, hE⟩ := hrel
    have Hkn := Lib.hid hkn
    by_cases hlt : k < l.length
    · obtain ⟨j, rfl⟩ : ∃ j, k = j + 1 := ⟨k - 1, by omega⟩
      obtain ⟨b, o, rfl, hb, c0⟩ := (hA.ext hE).int hlt
      obtain ⟨b', o', e', hb', d0⟩ := (hA.ext hE).int (show j < l.length by omega)
      injection e' with e'
      injection e' with e1 e2
      subst e1 e2
      have hxy := Hp.out j (j + 1) (by omega) hlt (by omega)
      generalize l[j + 1] = x at *
      generalize l[j] = y at *
      have z1 : (x == y) = false := by rw [beq_eq_false_iff_ne]; omega
      clear hkn
      have hN := Near.refl wr
      go_wp2
      have hq := quiet_near hN
      refine wp_region_quiet_below (by kernel_rfl) (by kernel_rfl) ?_
      repeat (first | go_big_quiet_skip | (go_big_quiet_want; go_big_quiet_op; first | go_big_quiet_on | (apply Exists.intro; refine ⟨fun _ => ?_, ?_⟩; (focus (first | fail)); go_big_quiet_on)))
      refine wpQuiet_nil ?_
      intro w1 hw1
      clear hq
      replace hw1 := quiet_ext hw1
      replace hN := hN.step hw1
      have hC := hN.2
      go_wp2
      go_roundg (gk - 1)
      case measure => have := Hkn.out; omega
      case rel => exact ⟨j + 1 + 1, by omega, by have := Hkn.out; omega, by go_num, hE.trans hN.1⟩
    · go_wp2
      go_ret
      exact ⟨rfl, hE⟩
end Go.Proofs.YtemkpimngbbpkaaGreat

/- TopMirror, the example: lists of labels. · TopMirror, the example: DeleteFunc and SortFunc on labels. -/
import Derived.Deep.RegionHeld3
import Derived.BigQuiet
import Derived.Test.YtemkpimngbbpkaaGreatTopR18
import Derived.Test.YtemkpimngbbpkaaGreatTopR19
import Derived.Test.YtemkpimngbbpkaaGreatTopR20
import Derived.Test.YtemkpimngbbpkaaGreatTopR22
namespace Go.Proofs.YtemkpimngbbpkaaGreat
set_option linter.unusedVariables false
set_option linter.unusedSimpArgs false
set_option linter.unusedVariables false
set_option linter.unusedSimpArgs false
open Go.RowKit Go.Shelf
attribute [local go_sem] Oper.semAt_some

theorem rd_new3M (W : World) (t : TypeId) (a b c : Int) : Rd EInt (W.alloc (.cells #[.int .i64 a, .int .i64 b, .int .i64 c] t)).drew (some ⟨W.heap.size, 0, none⟩) [a, b, c] := rd_blk3 (t := t) (show Blk (W.alloc (.cells #[.int .i64 a, .int .i64 b, .int .i64 c] t)).drew W.heap.size t #[.int .i64 a, .int .i64 b, .int .i64 c] from Blk.new W t _)
/-- What compare answers. -/
def lbC (x y : Lb) : Int := orL [cmpI x.tm y.tm, cmpI x.node y.node, cmpI x.fr y.fr]
set_option maxRecDepth 100000 in
set_option maxHeartbeats 4000000 in
theorem lcompare_any (x y : Lb) (w : World) :
    Calls Tryz.prog 200 #[.agg #[.int .i64 x.node, .int .i64 x.fr, .int .i64 x.til, .int .i64 x.tm], .agg #[.int .i64 y.node, .int .i64 y.fr, .int .i64 y.til, .int .i64 y.tm]] w fun e w' => e = .returned (.int .i64 (lbC x y)) ∧ Ext w w' := by
  obtain ⟨W, hW, hB, hk, hk2, hlt, hlt2⟩ := box2 w #[.int .i64 x.node, .int .i64 x.fr, .int .i64 x.til, .int .i64 x.tm] #[.int .i64 y.node, .int .i64 y.fr, .int .i64 y.til, .int .i64 y.tm] 308 308
  have hc := hk.cell
  have hc2 := hk2.cell
  go_enter Tryz.func200, Tryz.ntmps200
  go_wp2_with fail
  clear hW
  have hN := Near.refl W
  go_region_held3 (fun w' => Ext W w' ∧ ∀ b o, b < W.heap.size → w'.cell? ⟨b, o, none⟩ = W.cell? ⟨b, o, none⟩) (first | exact hN.drew | exact near_alloc (by assumption) _ | assumption)
    (first | (go_at_call 68; refine (cmp_any _ _ _).mono ?_; rintro e w1 ⟨rfl, rfl⟩) | (go_at_call 67; refine (or_any _ 3 [cmpI x.tm y.tm, cmpI x.node y.node, cmpI x.fr y.fr] _ (by first | exact rd_blk3 (Blk.new _ _ _) | exact rd_new3M _ _ _ _ _) (by simp)).mono ?_; rintro e w1 ⟨rfl, rfl⟩))
  all_goals
    clear hN
    go_wp2
    go_ret
    exact ⟨rfl, hB.trans (And.left ‹Ext W _ ∧ _›)⟩

set_option maxRecDepth 100000 in
set_option maxHeartbeats 4000000 in
theorem lab1_any (bx : Nat) (x y : Lb) (w : World) (kx : Blk w bx 308 #[.int .i64 x.node, .int .i64 x.fr, .int .i64 x.til, .int .i64 x.tm]) :
    Calls Tryz.prog 202 #[.agg #[.int .i64 y.node, .int .i64 y.fr, .int .i64 y.til, .int .i64 y.tm], .pointer (some ⟨bx, 0, none⟩)] w fun e w' => e = .returned (.bool (lbSame x y)) ∧ Ext w w' := by
  obtain ⟨W, hW, hB, hk, hlt⟩ := box1 w #[.int .i64 y.node, .int .i64 y.fr, .int .i64 y.til, .int .i64 y.tm] 308
  have hc := hk.cell
  have kx2 := kx.ext hB
  have hc2 := kx2.cell
  have hl2 := kx2.lt
  have hs := fun w => same_any x y w
  unfold Lb.val at hs
  go_enter Tryz.func202, Tryz.ntmps202
  go_wp2_with fail
  refine (hs _).mono ?_
  rintro e w1 ⟨rfl, hb1⟩
  go_wp2
  go_ret
  exact ⟨rfl, hB.trans hb1⟩
set_option maxRecDepth 100000 in
set_option maxHeartbeats 4000000 in
theorem lab2_any (bx : Nat) (x y : Lb) (h0 h1 h2 h3 : Int) (w : World) (kx : Blk w bx 313 #[.int .i64 x.node, .int .i64 x.fr, .int .i64 x.til, .int .i64 x.tm, .int .i64 h0, .int .i64 h1, .int .i64 h2, .int .i64 h3]) :
    Calls Tryz.prog 205 #[.agg #[.int .i64 y.node, .int .i64 y.fr, .int .i64 y.til, .int .i64 y.tm], .pointer (some ⟨bx, 0, none⟩)] w fun e w' => e = .returned (.bool (lbSame x y)) ∧ Ext w w' := by
  obtain ⟨W, hW, hB, hk, hlt⟩ := box1 w #[.int .i64 y.node, .int .i64 y.fr, .int .i64 y.til, .int .i64 y.tm] 308
  have hc := hk.cell
  have kx2 := kx.ext hB
  have hc2 := kx2.cell
  have hl2 := kx2.lt
  have hs := fun w => same_any x y w
  unfold Lb.val at hs
  go_enter Tryz.func205, Tryz.ntmps205
  go_wp2_with fail
  refine (hs _).mono ?_
  rintro e w1 ⟨rfl, hb1⟩
  go_wp2
  go_ret
  exact ⟨rfl, hB.trans hb1⟩

set_option maxRecDepth 100000 in
set_option maxHeartbeats 4000000 in
theorem idx1_hit (A : Option Addr) (c bx : Nat) (x : Lb) (w : World) (hR : Rd ELb w A [x]) (kx : Blk w bx 308 #[.int .i64 x.node, .int .i64 x.fr, .int .i64 x.til, .int .i64 x.tm]) :
    Calls Tryz.prog 267 #[.slice A 1 c, .func (.func 202) #[] #[.pointer (some ⟨bx, 0, none⟩)]] w fun e w' => e = .returned (.int .i64 0) ∧ Ext w w' := by
  obtain ⟨b, o, rfl, hb, c0, c1, c2, c3⟩ := hR.lb (k := 0) (by simp)
  simp only [List.getElem_cons_zero, Nat.zero_mul, Nat.add_zero] at c0 c1 c2 c3
  have hla := fun w h => lab1_any bx x x w h
  have hss : lbSame x x = true := by simp [lbSame]
  rw [hss] at hla
  clear hss
  go_enter Tryz.func267, Tryz.ntmps267
  go_wp2_with fail
  go_loopg [8] 1 (fun n k wr => k = .int .i64 0 ∧ wr = w)
  case atStart => exact ⟨rfl, rfl⟩
  case round =>
    obtain ⟨rfl, rfl⟩ := hrel
    go_wp2_with fail
    refine (hla _ kx).mono ?_
    rintro e w1 ⟨rfl, hb1⟩
    go_wp2
    go_ret
    exact ⟨rfl, hb1⟩

set_option maxRecDepth 100000 in
set_option maxHeartbeats 4000000 in
theorem cnt2_none (A : Option Addr) (c bx : Nat) (x : Lb) (h0 h1 h2 h3 : Int) (l : List Lb) (w : World) (hR : Rd ELb w A l) (hm : l.length ≤ 64) (kx : Blk w bx 313 #[.int .i64 x.node, .int .i64 x.fr, .int .i64 x.til, .int .i64 x.tm, .int .i64 h0, .int .i64 h1, .int .i64 h2, .int .i64 h3]) (hn : ∀ k (h : k < l.length), lbSame x l[k] = false) :
    Calls Tryz.prog 204 #[.slice A l.length c, .func (.func 205) #[] #[.pointer (some ⟨bx, 0, none⟩)]] w fun e w' => e = .returned (.bool false) ∧ Ext w w' := by
  have hix : Calls Tryz.prog 267 #[.slice A l.length c, .func (.func 205) #[] #[.pointer (some ⟨bx, 0, none⟩)]] w fun e w' => e = .returned (.int .i64 (-1)) ∧ Ext w w' := by
    have Hn := Lib.hid hn
    clear hn
    go_enter Tryz.func267, Tryz.ntmps267
    go_wp2_with fail
    go_loopg [8] l.length (fun n k wr => ∃ j : Nat, j + n = l.length ∧ k = .int .i64 j ∧ Ext w wr)
    case atStart => exact ⟨0, by omega, rfl, Ext.refl _⟩
    case round =>
      obtain ⟨j, hjk, rfl, hx⟩ := hrel
      have Hjk := Lib.hid hjk
      have hjl : j ≤ l.length := by omega
      clear hjk
      by_cases hlt : j < l.length
      · obtain ⟨b, o, rfl, hb, c0, c1, c2, c3⟩ := (hR.ext hx).lb hlt
        have hla := fun w h => lab2_any bx x l[j] h0 h1 h2 h3 w h
        rw [Hn.out j hlt] at hla
        generalize l[j] = y at *
        go_wp2_with fail
        refine (hla _ (kx.ext hx)).mono ?_
        rintro e w1 ⟨rfl, hb1⟩
        go_wp2
        go_roundg (gk - 1)
        case measure => have := Hjk.out; omega
        case rel => exact ⟨j + 1, by have := Hjk.out; omega, by go_num, hx.trans hb1⟩
      · go_wp2
        go_ret
        exact ⟨rfl, hx⟩
  clear hn
  go_enter Tryz.func204, Tryz.ntmps204
  go_wp2_with fail
  refine hix.mono ?_
  rintro e w1 ⟨rfl, hb1⟩
  go_wp2
  go_ret
  exact ⟨rfl, hb1⟩

set_option maxRecDepth 100000 in
set_option maxHeartbeats 4000000 in
theorem min1_any (A : Option Addr) (c : Nat) (x : Lb) (f : Value) (w : World) (hR : Rd ELb w A [x]) :
    Calls Tryz.prog 199 #[.slice A 1 c, f] w fun e w' => e = .returned (.agg #[.int .i64 x.node, .int .i64 x.fr, .int .i64 x.til, .int .i64 x.tm]) ∧ Ext w w' := by
  obtain ⟨W1, hW1, hB1, hk1, hl1⟩ := box1 w #[.int .i64 0, .int .i64 0, .int .i64 0, .int .i64 0] 308
  obtain ⟨W2, hW2, hB2, hk2, hl2⟩ := box1 W1 #[.int .i64 x.node, .int .i64 x.fr, .int .i64 x.til, .int .i64 x.tm] 308
  obtain ⟨b, o, rfl, hb, c0, c1, c2, c3⟩ := (hR.ext hB1).lb (k := 0) (by simp)
  simp only [List.getElem_cons_zero, Nat.zero_mul, Nat.add_zero] at c0 c1 c2 c3
  have k3 := hk1.ext hB2
  have a0 := hk2.cell
  have a1 := hk2.lt
  have a2 := k3.cell
  have a3 := k3.lt
  have a4 := k3.frozen
  go_enter Tryz.func199, Tryz.ntmps199
  go_wp2_with fail
  go_loopg [6] 1 (fun n k wr => k = .int .i64 1 ∧ wr = W2)
  case atStart => exact ⟨rfl, rfl⟩
  case round =>
    obtain ⟨rfl, rfl⟩ := hrel
    go_wp2_with fail
    obtain ⟨w7, hw7, hz7, hE7⟩ : ∃ w7, wr.setCells w.heap.size 0 [.int .i64 x.node, .int .i64 x.fr, .int .i64 x.til, .int .i64 x.tm] = w7 ∧ Blk w7 w.heap.size 308 #[.int .i64 x.node, .int .i64 x.fr, .int .i64 x.til, .int .i64 x.tm] ∧ Ext w w7 :=
      ⟨_, rfl, k3.setCells_ [.int .i64 x.node, .int .i64 x.fr, .int .i64 x.til, .int .i64 x.tm] 0, ext_setCells (hB1.trans hB2) (Nat.le_refl _) 0 _⟩
    simp only [World.setCells, Nat.zero_add, Nat.reduceAdd] at hw7
    try rw [hw7]
    have hc7 := hz7.cell
    refine bodyPost_ret (v := .agg #[.int .i64 x.node, .int .i64 x.fr, .int .i64 x.til, .int .i64 x.tm]) (by rw [results_cell1 rfl]; simp [asAddr, Result.andThen, hc7, go_sem]) rfl ?_
    exact ⟨rfl, hE7⟩

end Go.Proofs.YtemkpimngbbpkaaGreat

namespace Go.Proofs.YtemkpimngbbpkaaGreat
set_option linter.unusedVariables false
set_option linter.unusedSimpArgs false
set_option linter.unusedVariables false
set_option linter.unusedSimpArgs false
open Go.RowKit Go.Shelf
attribute [local go_sem] Oper.semAt_some

theorem zero_lb : ∀ w, (zeroValue 308).run Tryz.prog w = .ok (.agg #[.int .i64 0, .int .i64 0, .int .i64 0, .int .i64 0]) w := fun w => by kernel_rfl
theorem run_clear_lb {w : World} {g : Nat} {e : TypeId} {cur : Array Value} {c : Nat} (hk : Blk w g e cur) (hn : 4 ≤ cur.size) (ty : TypeId) :
    (Builtin.clear_ #[229] ty #[.slice (some ⟨g, 0, none⟩) 1 c]).run Tryz.prog w = .ok (.tuple #[]) (w.setCells g 0 [.int .i64 0, .int .i64 0, .int .i64 0, .int .i64 0]) := by
  have hst := run_storeCells_cells (P := Tryz.prog) g 0 [.int .i64 0, .int .i64 0, .int .i64 0, .int .i64 0] 0 w
    (fun j hj => by
      rw [hk.cell]
      simp only [List.length_cons, List.length_nil] at hj
      rw [Array.getElem?_eq_getElem (by omega)]
      rfl)
    (fun j hj => hk.frozen _) (fun v hv => by simp only [List.mem_cons, List.mem_nil_iff, or_false, or_self] at hv; subst hv; rfl)
  rw [Nat.add_zero] at hst
  have hz : (Builtin.zeroCells #[.int .i64 0, .int .i64 0, .int .i64 0, .int .i64 0] 1).toList = [.int .i64 0, .int .i64 0, .int .i64 0, .int .i64 0] := by kernel_rfl
  simp only [Builtin.clear_]
  simp [run_underlying Tryz.underlying229, zero_lb, Value.cells, hz, hst]

set_option maxRecDepth 100000 in
set_option maxHeartbeats 4000000 in
theorem del1_any (g c bx : Nat) (x : Lb) (base : Nat) (w : World) (hv : Owns ELb w base 308 (.slice (some ⟨g, 0, none⟩) 1 c) [x]) (kx : Blk w bx 308 #[.int .i64 x.node, .int .i64 x.fr, .int .i64 x.til, .int .i64 x.tm]) :
    Calls Tryz.prog 201 #[.slice (some ⟨g, 0, none⟩) 1 c, .func (.func 202) #[] #[.pointer (some ⟨bx, 0, none⟩)]] w fun e w' => e = .returned (.slice (some ⟨g, 0, none⟩) 0 c) ∧ Owns ELb w' base 308 (.slice (some ⟨g, 0, none⟩) 0 c) [] ∧ ∃ w1 vs, Ext w w1 ∧ w' = w1.setCells g 0 vs := by
  obtain ⟨i0, hi0, hz0, hz1, hz2⟩ := info_parts info_lb
  have hix := idx1_hit (some ⟨g, 0, none⟩) c bx x w hv.rd kx
  have hc1 := hv.cap
  simp only [List.length_cons, List.length_nil] at hc1
  go_enter Tryz.func201, Tryz.ntmps201
  go_wp2_with fail
  refine hix.mono ?_
  rintro e w1 ⟨rfl, hb1⟩
  have hv1 := hv.ext hb1
  obtain ⟨cur, hkc, hcs, hlc, _⟩ := hv1.there_
  have hct1 : ∀ w, (Instr.slice 229 (.slice (some ⟨g, 0, none⟩) 1 c) (some (.int .i64 0)) none none).run Tryz.prog w = .ok (.slice (some ⟨g, 0, none⟩) 1 c) w := fun w => by
    have h := run_cut (P := Tryz.prog) (A := some ⟨g, 0, none⟩) Tryz.underlying229 hi0 hz1 (n := 1) (c := c) (k := 0) (by omega) w
    rw [cutA, if_neg (by omega)] at h
    simpa [Addr.add_lit, ELb] using h
  have hct2 : ∀ w, (Instr.sliceAt 229 (.slice (some ⟨g, 0, none⟩) 1 c) (some (.int .i64 0)) none none).run Tryz.prog w = .ok (.slice (some ⟨g, 0, none⟩) 1 c) w := fun w => by
    have h := run_cutAt (P := Tryz.prog) (A := some ⟨g, 0, none⟩) Tryz.underlying229 hi0 hz1 (n := 1) (c := c) (k := 0) (by omega) w
    rw [cutA, if_neg (by omega)] at h
    simpa [Addr.add_lit, ELb] using h
  have hct3 : ∀ w, (Instr.slice 229 (.slice (some ⟨g, 0, none⟩) 1 c) none (some (.int .i64 0)) none).run Tryz.prog w = .ok (.slice (some ⟨g, 0, none⟩) 0 c) w := fun w => by
    have h := run_take (P := Tryz.prog) (A := some ⟨g, 0, none⟩) Tryz.underlying229 hi0 (n := 1) (c := c) (k := 0) (by omega) w
    simpa using h
  have hct4 : ∀ w, (Instr.sliceAt 229 (.slice (some ⟨g, 0, none⟩) 1 c) none (some (.int .i64 0)) none).run Tryz.prog w = .ok (.slice (some ⟨g, 0, none⟩) 0 c) w := fun w => by
    have h := run_takeAt (P := Tryz.prog) (A := some ⟨g, 0, none⟩) Tryz.underlying229 hi0 (n := 1) (c := c) (k := 0) (by omega) w
    simpa using h
  have hcl := run_clear_lb (c := c) hkc (by rw [hcs]; show 4 ≤ c * 4; omega)
  have hfin := hv1.cutoff (a := 0) (Nat.zero_le _) [.int .i64 0, .int .i64 0, .int .i64 0, .int .i64 0] (by show 0 * 4 + 4 ≤ c * 4; omega)
  simp only [Nat.zero_mul, List.take_zero] at hfin
  clear hcs hkc hlc
  go_wp2
  go_loopg [5, 6] 1 (fun n i j wr => i = .int .i64 0 ∧ j = .int .i64 1 ∧ wr = w1)
  case atStart => exact ⟨rfl, rfl, rfl⟩
  case round =>
    obtain ⟨rfl, rfl, rfl⟩ := hrel
    go_wp2
    go_ret
    exact ⟨rfl, hfin, wr, _, hb1, rfl⟩

set_option maxRecDepth 100000 in
set_option maxHeartbeats 4000000 in
theorem lins_any (A : Option Addr) (c : Nat) (l : List Lb) (w : World) (hR : Rd ELb w A l) (hm : 1 ≤ l.length ∧ l.length ≤ 12) (hs : ∀ k (h : k + 1 < l.length), ¬ lbC l[k + 1] l[k] < 0) :
    Calls Tryz.prog 308 #[.slice A l.length c, .int .i64 0, .int .i64 l.length, .func (.func 200) #[] #[]] w fun e w' => e = .returned (.tuple #[]) ∧ Ext w w' := by
  have Hs := Lib.hid hs
  clear hs
  go_enter Tryz.func308, Tryz.ntmps308
  go_wp2_with fail
  go_loopg [8] l.length (fun n v wr => ∃ i : Nat, i + 1 + n = l.length + 1 ∧ v = .int .i64 ((i : Int) + 1) ∧ Ext w wr)
  case atStart => exact ⟨0, by omega, by go_num, Ext.refl _⟩
  case round =>
    obtain ⟨i, hik, rfl, hx⟩ := hrel
    have Hik := Lib.hid hik
    have hil : i + 1 ≤ l.length + 1 := by omega
    clear hik
    obtain ⟨wo, rfl⟩ : ∃ wo, wo = wr := ⟨_, rfl⟩
    by_cases hlt : i + 1 < l.length
    · obtain ⟨b, o, e1, hb, c0, c1, c2, c3⟩ := (hR.ext hx).lb (k := i) (by omega)
      obtain ⟨b', o', e2, hb', d0, d1, d2, d3⟩ := (hR.ext hx).lb hlt
      obtain ⟨rfl, rfl⟩ : b = b' ∧ o = o' := by rw [e1] at e2; injection e2 with e2; injection e2 with e3 e4; exact ⟨e3, e4⟩
      subst e1
      have Hc := Lib.hid (Hs.out i hlt)
      have ei : ((i : Int) + 1 - 1) = (i : Int) := by omega
      have en : ((i : Int) + 1).toNat = i + 1 := by omega
      generalize l[i + 1] = y at *
      generalize l[i] = x at *
      obtain ⟨v, hv⟩ : ∃ v, lbC y x = v := ⟨_, rfl⟩
      have hcQ := fun d os => lcompare_any y x (Sort.grow (redrawn wo d) os)
      simp only [hv] at hcQ
      rw [hv] at Hc
      have dv : decide (v < 0) = false := decide_eq_false (by have := Hc.out; omega)
      have di : decide (0 < (i : Int) + 1) = true := decide_eq_true (by omega)
      clear hv
      obtain ⟨gko, rfl⟩ : ∃ g, g = gk := ⟨_, rfl⟩
      go_wp2_with fail
      go_loopg [9] 1 (fun n v wr => v = .int .i64 ((i : Int) + 1) ∧ wr = wo)
      case atStart => exact ⟨rfl, rfl⟩
      case round =>
        obtain ⟨rfl, rfl⟩ := hrel
        have hN := Near.refl wr
        have hC := hN.2
        go_wp2_with fail
        have hq := quiet_near hN
        refine wp_region_quiet_below (by kernel_rfl) (by kernel_rfl) ?_
        repeat (first | go_big_quiet_skip | (go_big_quiet_want; go_big_quiet_op; first | go_big_quiet_on | (apply Exists.intro; refine ⟨fun _ => ?_, ?_⟩; (focus (first | (go_at_call 200; with_reducible exact Calls.regrown_of (hcQ _ _)))); go_big_quiet_on)))
        refine wpQuiet_nil ?_
        intro w1 hw1
        clear hq
        replace hw1 := quiet_ext hw1
        replace hN := hN.step hw1
        have hC := hN.2
        go_wp2
        go_roundg (gko - 1)
        case measure => have := Hik.out; omega
        case rel => exact ⟨i + 1, by have := Hik.out; omega, by go_num, hx.trans hN.1⟩
    · go_wp2
      go_end0
      exact ⟨rfl, hx⟩

set_option maxRecDepth 100000 in
set_option maxHeartbeats 4000000 in
theorem lsort_any (A : Option Addr) (c : Nat) (l : List Lb) (w : World) (hR : Rd ELb w A l) (hm : 1 ≤ l.length ∧ l.length ≤ 12) (hs : ∀ k (h : k + 1 < l.length), ¬ lbC l[k + 1] l[k] < 0) :
    Calls Tryz.prog 206 #[.slice A l.length c, .func (.func 200) #[] #[]] w fun e w' => e = .returned (.tuple #[]) ∧ Ext w w' := by
  have hlen := fun w => len_any (l.length : Int) w (by omega) (by omega)
  have hmx : (l.length : Int) ≤ 12 := by omega
  have hpdq : ∀ (k : Int) w, Rd ELb w A l → Calls Tryz.prog 268 #[.slice A l.length c, .int .i64 0, .int .i64 l.length, .int .i64 k, .func (.func 200) #[] #[]] w fun e w' => e = .returned (.tuple #[]) ∧ Ext w w' := fun k w hR => by
    have hins := lins_any A c l w hR hm hs
    have hd : decide ((l.length : Int) ≤ 12) = true := decide_eq_true hmx
    clear hlen hs
    go_enter Tryz.func268, Tryz.ntmps268
    go_wp2_with fail
    go_loopg [1, 2] 0 (fun q a b wr => a = .int .i64 0 ∧ b = .int .i64 l.length ∧ wr = w)
    case atStart => exact ⟨rfl, rfl, rfl⟩
    case round =>
      obtain ⟨rfl, rfl, rfl⟩ := hrel
      go_wp2_with fail
      refine hins.mono ?_
      rintro e w1 ⟨rfl, h1⟩
      go_wp2_with fail
      refine bodyPost_ret (results_none rfl _ _ _) rfl ?_
      exact ⟨rfl, h1⟩
  clear hs
  go_enter Tryz.func206, Tryz.ntmps206
  go_wp2_with fail
  refine (hlen _).mono ?_
  rintro e w1 ⟨⟨k, rfl⟩, rfl⟩
  go_wp2_with fail
  refine (hpdq k _ hR).mono ?_
  rintro e w2 ⟨rfl, h1⟩
  go_wp2_with fail
  go_end0
  exact ⟨rfl, h1⟩

end Go.Proofs.YtemkpimngbbpkaaGreat

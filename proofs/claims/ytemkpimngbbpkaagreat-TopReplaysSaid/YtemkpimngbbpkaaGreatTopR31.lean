/- The example of the chapters' last parts: its plan, walked. · search.Arrival along a chain of labels; at the example of the chapters' last parts. -/
import Derived.Laws.ResultCell
import Derived.Test.YtemkpimngbbpkaaGreatTopR24
import Derived.Test.YtemkpimngbbpkaaGreatTopR30
namespace Go.Proofs.YtemkpimngbbpkaaGreat
set_option linter.unusedVariables false
set_option linter.unusedSimpArgs false
set_option linter.unusedVariables false
set_option linter.unusedSimpArgs false
open Go.RowKit Go.Shelf

theorem blk_fars5 : ∀ (vs : List Value) {w : World} {g g' : Nat} {t : TypeId} {cs : Array Value} (_ : Blk w g t cs) (_ : g ≠ g') (o : Nat), Blk (w.setCells g' o vs) g t cs
  | [], _, _, _, _, _, h, _, _ => h
  | v :: vs, _, _, g', _, _, h, hn, o => blk_fars5 vs (h.far (p := ⟨g', o, none⟩) hn v) hn (o + 1)
set_option maxHeartbeats 4000000 in
theorem plan5c_any (a b c : Int) (w : World) (h0 : 0 ≤ c) (h1 : c ≤ 1000) : Calls Tryz.prog 120 #[.int .i64 a, .int .i64 b, .int .i64 c] w fun e w' => e = .returned (.agg #[.int .i64 a, .int .i64 b, .int .i64 c, .int .i64 (c + 40), .int .i64 24, .int .i64 2, .int .i64 0]) ∧ Ext w w' := by
  obtain ⟨W, hW, hB, hk, hlt⟩ := box1 w #[.int .i64 0, .int .i64 0, .int .i64 0, .int .i64 0, .int .i64 0, .int .i64 0, .int .i64 0] 61
  have hc := hk.cell
  have hf := hk.frozen
  obtain ⟨w7, hw7, hz7, hE7⟩ : ∃ w7, W.setCells w.heap.size 0 [.int .i64 a, .int .i64 b, .int .i64 c, .int .i64 (c + 40), .int .i64 24, .int .i64 2, .int .i64 0] = w7 ∧ Blk w7 w.heap.size 61 #[.int .i64 a, .int .i64 b, .int .i64 c, .int .i64 (c + 40), .int .i64 24, .int .i64 2, .int .i64 0] ∧ Ext w w7 :=
    ⟨_, rfl, hk.setCells_ [.int .i64 a, .int .i64 b, .int .i64 c, .int .i64 (c + 40), .int .i64 24, .int .i64 2, .int .i64 0] 0, ext_setCells hB (by omega) 0 _⟩
  simp only [World.setCells, Nat.zero_add, Nat.reduceAdd] at hw7
  go_enter Tryz.func120, Tryz.ntmps120
  go_wp2
  have hc7 := hz7.cell
  refine bodyPost_ret (v := .agg #[.int .i64 a, .int .i64 b, .int .i64 c, .int .i64 (c + 40), .int .i64 24, .int .i64 2, .int .i64 0]) (by rw [results_cell1 rfl]; simp [asAddr, Result.andThen, hc7, go_sem]) rfl ?_
  exact ⟨rfl, hE7⟩
theorem ex5_cons : (ECon.all exP5.cons).toArray = #[.int .i64 0, .int .i64 1, .int .i64 5, .int .i64 45, .int .i64 24, .int .i64 2, .int .i64 0, .int .i64 1, .int .i64 2, .int .i64 10, .int .i64 50, .int .i64 24, .int .i64 2, .int .i64 0] := by kernel_rfl
set_option maxRecDepth 100000 in
set_option maxHeartbeats 4000000 in
theorem plan5_any (w : World) : Calls Tryz.prog 42 #[] w fun e w' => ∃ Aq b o, e = .returned (.agg #[.slice Aq 3 3, .slice (some ⟨b, o, none⟩) 2 2]) ∧ PlnRd w' Aq 3 (some ⟨b, o, none⟩) 2 exP5 ∧ Ext w w' := by
  have h1 := fun w => plan5c_any 0 1 5 w (by omega) (by omega)
  have h2 := fun w => plan5c_any 1 2 10 w (by omega) (by omega)
  simp only [Int.reduceAdd] at h1 h2
  obtain ⟨W0, hW0, hB0, hk0, hl0⟩ := box1 w #[.slice none 0 0, .slice none 0 0] 68
  obtain ⟨W1, hW1, hB1, hk1, hl1⟩ := box1 W0 #[.int .i64 100, .int .i64 100, .int .i64 100] 3
  go_enter Tryz.func42, Tryz.ntmps42
  go_wp2_with fail
  clear hW0 hW1
  refine (h1 _).mono ?_
  rintro e w2 ⟨rfl, hb2⟩
  go_wp2_with fail
  refine (h2 _).mono ?_
  rintro e w3 ⟨rfl, hb3⟩
  obtain ⟨W4, hW4, hB4, hk4, hl4⟩ := box1 w3 #[.int .i64 0, .int .i64 1, .int .i64 5, .int .i64 45, .int .i64 24, .int .i64 2, .int .i64 0, .int .i64 1, .int .i64 2, .int .i64 10, .int .i64 50, .int .i64 24, .int .i64 2, .int .i64 0] 61
  have b24 := (hb2.trans hb3).trans hB4
  have k0 := (hk0.ext hB1).ext b24
  have k1 := hk1.ext b24
  have hE4 := (hB0.trans hB1).trans b24
  have f0 := k0.frozen
  have l0 := k0.lt
  have c0 := k0.cell
  have z0 := hB0.size
  have z1 := hB1.size
  have z2 := b24.size
  have z3 := (hb2.trans hb3).size
  have hn1 : W0.heap.size ≠ w.heap.size := by omega
  have hn2 : w3.heap.size ≠ w.heap.size := by omega
  obtain ⟨w8, hw8, hz8, hE8, y1, y4⟩ : ∃ w8, W4.setCells w.heap.size 0 [.slice (some ⟨W0.heap.size, 0, none⟩) 3 3, .slice (some ⟨w3.heap.size, 0, none⟩) 2 2] = w8 ∧ Blk w8 w.heap.size 68 #[.slice (some ⟨W0.heap.size, 0, none⟩) 3 3, .slice (some ⟨w3.heap.size, 0, none⟩) 2 2] ∧ Ext w w8 ∧ Blk w8 W0.heap.size 3 _ ∧ Blk w8 w3.heap.size 61 _ :=
    ⟨_, rfl, k0.setCells_ [.slice (some ⟨W0.heap.size, 0, none⟩) 3 3, .slice (some ⟨w3.heap.size, 0, none⟩) 2 2] 0, ext_setCells hE4 (by omega) 0 _, blk_fars5 _ k1 hn1 0, blk_fars5 _ hk4 hn2 0⟩
  simp only [World.setCells, Nat.zero_add, Nat.reduceAdd] at hw8
  clear hn1 hn2 z0 z1 z2 z3 k1
  go_wp2
  have c9 := hz8.cell
  refine bodyPost_ret (v := .agg #[.slice (some ⟨W0.heap.size, 0, none⟩) 3 3, .slice (some ⟨w3.heap.size, 0, none⟩) 2 2]) (by rw [results_cell1 rfl]; simp [asAddr, Result.andThen, c9, go_sem]) rfl ?_
  exact ⟨_, _, _, rfl, ⟨rd_blk (l := [100, 100, 100]) (e := 3) y1, rd_blk (l := exP5.cons) (e := 61) (by rw [ex5_cons]; exact y4), by simp [exP5], by simp [exP5], by simp [exP5], by simp [exP5]⟩, hE8⟩
end Go.Proofs.YtemkpimngbbpkaaGreat

namespace Go.Proofs.YtemkpimngbbpkaaGreat
set_option linter.unusedVariables false
set_option linter.unusedSimpArgs false
set_option linter.unusedVariables false
set_option linter.unusedSimpArgs false
open Go.RowKit Go.Shelf
attribute [local go_sem] Oper.semAt_some

set_option maxRecDepth 100000 in
set_option maxHeartbeats 8000000 in
theorem sArrival_ch (Aq : Option Addr) (cq : Nat) (Ac : Option Addr) (cc : Nat) (p : Pln) (q : Req) (L : List Lb) (f : Nat → Nat × Con) (AT : Int) (w : World) (h : PlnRd w Aq cq Ac cc p) (h0 : p.chk = 0) (hf : fineR p q = true) (hse : ∀ c ∈ p.cons, c.st < c.en ∧ c.arg q.size = 0) (hqu : ∀ n : Int, 0 ≤ n → n < p.quo.length → q.size ≤ gi p.quo n ∧ gi p.quo n ≤ 1099511627776) (hsz : 1 ≤ q.size ∧ q.size ≤ 65536) (hn16 : p.quo.length ≤ 16 ∧ p.cons.length ≤ 64)
    (C : LbCh p q L f) (hAT : ∀ k (h : k + 1 = L.length), (L[k]'(by omega)).arr q (f k).2 = AT) :
    Calls Tryz.prog 43 #[.agg #[.slice Aq p.quo.length cq, .slice Ac p.cons.length cc, .slice none 0 0, .slice none 0 0], q.val] w fun e w' => e = .returned (.tuple #[.int .i64 AT, .int .i64 0]) ∧ Ext w w' := by
  obtain ⟨W1, hW1, hB1, hk1, hkq, hl1, hlq⟩ := box2 w #[.slice Aq p.quo.length cq, .slice Ac p.cons.length cc, .slice none 0 0, .slice none 0 0] q.cells 83 85
  simp only [Req.cells] at hW1 hkq
  have hbd := build_any Aq cq Ac cc p q W1 (h.ext hB1) h0 hf hse hqu hsz hn16
  have hrd := h.ext hB1
  have r0 := hk1.cell
  have r1 := hkq.cell
  have r2 := hk1.lt
  have r3 := hkq.lt
  have hL12 := C.len
  have H0 := Lib.hid h0
  have Hqu := Lib.hid hqu
  have Hse := Lib.hid hse
  unfold Req.val at hbd ⊢
  clear h0 hf hse hqu
  go_enter Tryz.func43, Tryz.ntmps43
  go_wp2_with fail
  clear hW1 r0 r1 r2 r3
  refine hbd.mono ?_
  clear hbd
  rintro e w2 ⟨B, rfl, hBl, hg, hb2⟩
  go_wp2_with fail
  refine (labels_any Aq cq Ac cc p q _ B L f w2 (hrd.ext hb2) hg C).mono ?_
  rintro e w4 ⟨u, rfl, hu4, hb4⟩
  obtain ⟨Al, cl, rfl, hRl⟩ := hu4.form
  have hx4 := hb2.trans hb4
  have hg4 := hg.ext hb4
  have har := arrival_any Aq cq Ac cc p q W1.heap.size B Al cl L f (fun k => if k < L.length then (0, false) else (AT, true)) w4 (hrd.ext hx4) hg4 hRl (by omega) C.mv (if_pos (by omega)) (fun k hk => by
    rw [if_pos hk]
    unfold aStep
    by_cases h1 : k + 1 < L.length
    · rw [if_pos h1, if_neg (fun hh => (C.next k h1).1 hh.1)]
    · rw [if_neg h1, if_pos ⟨C.last k (by omega), .inl rfl⟩, hAT k (by omega)])
  rw [if_neg (Nat.lt_irrefl _)] at har
  go_wp2_with fail
  refine har.mono ?_
  clear har
  rintro e w6 ⟨rfl, hb6⟩
  go_wp2
  go_ret2
  exact ⟨rfl, hB1.trans (hx4.trans hb6)⟩

def exL5 : List Lb := [⟨0, 0, 1099511627776, 0⟩, ⟨1, 0, 1099511627776, 8⟩]
def exG5 : Nat → Nat × Con := fun k => if k = 0 then (0, ⟨0, 1, 5, 45, 24, 2, 0⟩) else (1, ⟨1, 2, 10, 50, 24, 2, 0⟩)
theorem ex5_mv0 : MvD exP5 exQ5 ⟨0, 0, 1099511627776, 0⟩ 0 ⟨0, 1, 5, 45, 24, 2, 0⟩ where
  at_ := rfl
  one := by
    intro k c h
    match k with
    | 0 => simp [exP5] at h; subst h; simp
    | 1 => simp [exP5] at h; subst h; simp
    | k + 2 => simp [exP5] at h
  n16 := by decide +kernel
  dst := by decide +kernel
  fit := by decide +kernel
  bd := by decide +kernel
  til := by decide +kernel
  dead := by decide +kernel
  room := by decide +kernel
  cust := rfl
theorem ex5_mv1 : MvD exP5 exQ5 ⟨1, 0, 1099511627776, 8⟩ 1 ⟨1, 2, 10, 50, 24, 2, 0⟩ where
  at_ := rfl
  one := by
    intro k c h
    match k with
    | 0 => simp [exP5] at h; subst h; simp
    | 1 => simp [exP5] at h; subst h; simp
    | k + 2 => simp [exP5] at h
  n16 := by decide +kernel
  dst := by decide +kernel
  fit := by decide +kernel
  bd := by decide +kernel
  til := by decide +kernel
  dead := by decide +kernel
  room := by decide +kernel
  cust := rfl
theorem ex5_ch : LbCh exP5 exQ5 exL5 exG5 where
  len := by decide +kernel
  fst := fun _ => rfl
  src := by decide +kernel
  rdy := by decide +kernel
  mv := by
    intro k h
    match k, h with
    | 0, _ => exact ex5_mv0
    | 1, _ => exact ex5_mv1
  next := by
    intro k h
    match k, h with
    | 0, _ =>
      refine ⟨by decide +kernel, by kernel_rfl, ?_⟩
      intro j hj h2
      obtain rfl : j = 0 := by omega
      kernel_rfl
  last := by
    intro k h
    obtain rfl : k = 1 := by simp [exL5] at h; omega
    kernel_rfl
  ord := by
    intro k h
    match k, h with
    | 0, _ => exact (by decide +kernel : ¬ lbC ⟨1, 0, 1099511627776, 8⟩ ⟨0, 0, 1099511627776, 0⟩ < 0)
theorem ex_arrival5 (Aq Ac : Option Addr) (cq cc : Nat) (w : World) (h : PlnRd w Aq cq Ac cc exP5) :
    Calls Tryz.prog 43 #[.agg #[.slice Aq 3 cq, .slice Ac 2 cc, .slice none 0 0, .slice none 0 0], .agg #[.int .i64 0, .int .i64 2, .int .i64 16, .int .i64 0, .int .i64 100, .int .i64 0, .bool false]] w fun e w' => e = .returned (.tuple #[.int .i64 13, .int .i64 0]) ∧ Ext w w' := by
  refine sArrival_ch Aq cq Ac cc exP5 exQ5 exL5 exG5 13 w h exP5_chk exF5 ?_ ?_ (by decide) (by decide) ex5_ch ?_
  · intro c hc
    simp [exP5] at hc
    rcases hc with rfl | rfl <;> decide +kernel
  · intro n h0 h1
    have h2 : n < 3 := h1
    rcases (show n = 0 ∨ n = 1 ∨ n = 2 by omega) with rfl | rfl | rfl <;> decide +kernel
  · intro k h
    obtain rfl : k = 1 := by simp [exL5] at h; omega
    kernel_rfl
end Go.Proofs.YtemkpimngbbpkaaGreat

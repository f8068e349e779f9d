/- Layer 21 (contact): the walk of ContactMonotone. -/
import Derived.Test.YtkahnfjdngiebaaConL3
namespace Go.Proofs.Ytkahnfjdngiebaa
set_option linter.unusedVariables false
open Go.RowKit

theorem Duration_ints (a1 a2 a3 a4 a5 a6 a7 n : Int) (w : World) :
    Calls Try.prog 13 #[.agg #[.int .i64 a1, .int .i64 a2, .int .i64 a3, .int .i64 a4, .int .i64 a5, .int .i64 a6, .int .i64 a7], .int .i64 n] w
      fun e w' => e = .returned (.tuple #[.int .i64 (Con.durR ⟨a1, a2, a3, a4, a5, a6, a7⟩ n), .int .i64 (Con.arg ⟨a1, a2, a3, a4, a5, a6, a7⟩ n)]) ∧ Ext w w' :=
  Duration_any ⟨a1, a2, a3, a4, a5, a6, a7⟩ n w

set_option maxHeartbeats 8000000 in
theorem monotone_ok (c : Con) (n m r l : Int) (w : World) (hn : 0 ≤ n ∧ n ≤ 65535) (hm : 0 ≤ m ∧ m ≤ 65535) (hr0 : 0 ≤ r ∧ r ≤ 255) (hl0 : 0 ≤ l ∧ l ≤ 255) (h0 : c.check = 0) (hok : c.Ok) :
    Calls Try.prog 4 #[c.val, .int .u16 n, .int .u16 m, .int .u8 r, .int .u8 l] w fun e w' => e = .returned (.bool true) ∧ Ext w w' := by
  have hsz : 1 ≤ 1 + n ∧ 1 + n ≤ 65536 := by omega
  have ⟨g1, g2, g3, g4, g5, g6, g7, g8, g9, g10, g11, g12, g13, g14⟩ := hok
  have a1 : c.arg (1 + n) = 0 := Con.arg_ok.2 ⟨hok, hsz⟩
  have p1 : c.passR (1 + n) = c.pass (1 + n) := by simp [Con.passR, a1]
  have d1 : c.durR (1 + n) = c.dur (1 + n) := by simp [Con.durR, a1]
  have pb := Con.pass_bd (c := c) g5 hsz.1 hsz.2
  have db := Con.dur_bd hok hsz.1 hsz.2
  have pd := Con.pass_le_dur (n := 1 + n) hok
  have hbet : ∀ r' l' : Int, c.rate ≤ r' ∧ r' ≤ 1000 → 0 ≤ l' ∧ l' ≤ c.loss → Con.arg ⟨c.src, c.dst, c.st, c.en, r', c.rng, l'⟩ (1 + n) = 0 ∧ Con.durR ⟨c.src, c.dst, c.st, c.en, r', c.rng, l'⟩ (1 + n) ≤ c.durR (1 + n) := fun r' l' h1 h2 => by
    have hok' : Con.Ok ⟨c.src, c.dst, c.st, c.en, r', c.rng, l'⟩ := ⟨g1, g2, g3, g4, by show 1 ≤ r'; omega, by show r' ≤ 1000; omega, g7, g8, by show 0 ≤ l'; omega, by show l' ≤ 16; omega, g11, g12, g13, g14⟩
    have ha' : Con.arg ⟨c.src, c.dst, c.st, c.en, r', c.rng, l'⟩ (1 + n) = 0 := Con.arg_ok.2 ⟨hok', hsz⟩
    refine ⟨ha', ?_⟩
    have e : Con.durR ⟨c.src, c.dst, c.st, c.en, r', c.rng, l'⟩ (1 + n) = Con.dur ⟨c.src, c.dst, c.st, c.en, r', c.rng, l'⟩ (1 + n) := by simp [Con.durR, ha']
    rw [e, d1]
    exact Con.dur_at (c := c) (r := r') (l := l') (n := 1 + n) g5 h1.1 h2 g7 (by omega)
  by_cases hg : 65536 < 1 + n + m
  · have a2 : c.arg 65536 = 0 := Con.arg_ok.2 ⟨hok, by omega⟩
    have p2 : c.passR 65536 = c.pass 65536 := by simp [Con.passR, a2]
    have d2 : c.durR 65536 = c.dur 65536 := by simp [Con.durR, a2]
    have pm := Con.pass_mono (c := c) (a := 1 + n) (b := 65536) g5 (by omega) (by omega)
    have dm := Con.dur_mono (c := c) (a := 1 + n) (b := 65536) g5 (by omega) (by omega)
    rw [← p1, ← p2] at pm
    rw [← d1, ← d2] at dm
    rw [← p1] at pb
    rw [← p1, ← d1] at pd
    clear p1 d1 p2 d2 db
    unfold Con.val
    go_enter Try.func4, Try.ntmps4
    go_wp2_with fail
    obtain ⟨W, hW, hB, hk, hlt⟩ := box1 w c.cells 23
    simp only [Con.cells] at hW hk
    rw [hW]
    clear hW
    have hc := hk.cell
    have hN := Near.refl W
    go_wp2_with (first | (go_at_call 17; refine (check_any c _).mono ?_; rintro e w1 ⟨rfl, hb⟩; replace hN := hN.step hb; have hC := hN.2) | (go_at_call 20; refine (size_ext n _ hn).mono ?_; rintro e w1 ⟨rfl, hb⟩; replace hN := hN.step hb; have hC := hN.2) | (go_at_call 11; refine (Pass_any c _ _).mono ?_; rintro e w1 ⟨rfl, hb⟩; replace hN := hN.step hb; have hC := hN.2) | (go_at_call 13; refine (Duration_any c _ _).mono ?_; rintro e w1 ⟨rfl, hb⟩; replace hN := hN.step hb; have hC := hN.2))
    obtain ⟨W2, hW2, hB2, hk3, hlt3⟩ := box1 w1 c.cells 23
    simp only [Con.cells] at hW2 hk3
    rw [hW2]
    clear hW2
    have hge := hN.1.size
    replace hN := hN.step hB2
    have hC2 := hN.2
    have hc3 := hk3.cell
    have hf3 := hk3.frozen

    by_cases hr : 1000 < c.rate + r
    · by_cases hl : c.loss - l < 0
      · have y0 := hbet (1000) (0) ⟨by omega, by omega⟩ ⟨by omega, by omega⟩
        obtain ⟨y1, y2⟩ := y0
        go_region
        obtain ⟨W3, hW3, hN3, hk4⟩ : ∃ W3, ((W2.setCell ⟨w1.heap.size, 4, none⟩ (.int .i64 (1000))).setCell ⟨w1.heap.size, 6, none⟩ (.int .i64 (0))).drew = W3 ∧ Near W W3 ∧ Blk W3 w1.heap.size 23 #[.int .i64 c.src, .int .i64 c.dst, .int .i64 c.st, .int .i64 c.en, .int .i64 (1000), .int .i64 c.rng, .int .i64 (0)] :=
          ⟨_, rfl, ((hN.set hge _).set hge _).drew, (hk3.set_ 4 _).set_ 6 _⟩
        rw [hW3]
        clear hW3 hc3 hf3 hk3 hC2
        replace hN := hN3
        have hC := hN.2
        have hc4 := hk4.cell
        go_wp2_with (first | (go_at_call 13; refine (Duration_ints _ _ _ _ _ _ _ _ _).mono ?_; rintro e w1 ⟨rfl, hb⟩; replace hN := hN.step hb; have hC := hN.2) | (go_at_call 19; refine (awake_any _).mono ?_; rintro e w1 ⟨rfl, hb⟩; replace hN := hN.step hb; have hC := hN.2))
        all_goals go_ret
        all_goals exact ⟨rfl, hB.trans hN.1⟩
      · have y0 := hbet (1000) (c.loss - l) ⟨by omega, by omega⟩ ⟨by omega, by omega⟩
        obtain ⟨y1, y2⟩ := y0
        go_region
        obtain ⟨W3, hW3, hN3, hk4⟩ : ∃ W3, ((W2.setCell ⟨w1.heap.size, 4, none⟩ (.int .i64 (1000))).setCell ⟨w1.heap.size, 6, none⟩ (.int .i64 (c.loss - l))).drew = W3 ∧ Near W W3 ∧ Blk W3 w1.heap.size 23 #[.int .i64 c.src, .int .i64 c.dst, .int .i64 c.st, .int .i64 c.en, .int .i64 (1000), .int .i64 c.rng, .int .i64 (c.loss - l)] :=
          ⟨_, rfl, ((hN.set hge _).set hge _).drew, (hk3.set_ 4 _).set_ 6 _⟩
        rw [hW3]
        clear hW3 hc3 hf3 hk3 hC2
        replace hN := hN3
        have hC := hN.2
        have hc4 := hk4.cell
        go_wp2_with (first | (go_at_call 13; refine (Duration_ints _ _ _ _ _ _ _ _ _).mono ?_; rintro e w1 ⟨rfl, hb⟩; replace hN := hN.step hb; have hC := hN.2) | (go_at_call 19; refine (awake_any _).mono ?_; rintro e w1 ⟨rfl, hb⟩; replace hN := hN.step hb; have hC := hN.2))
        all_goals go_ret
        all_goals exact ⟨rfl, hB.trans hN.1⟩
    · by_cases hl : c.loss - l < 0
      · have y0 := hbet (c.rate + r) (0) ⟨by omega, by omega⟩ ⟨by omega, by omega⟩
        obtain ⟨y1, y2⟩ := y0
        go_region
        obtain ⟨W3, hW3, hN3, hk4⟩ : ∃ W3, ((W2.setCell ⟨w1.heap.size, 4, none⟩ (.int .i64 (c.rate + r))).setCell ⟨w1.heap.size, 6, none⟩ (.int .i64 (0))).drew = W3 ∧ Near W W3 ∧ Blk W3 w1.heap.size 23 #[.int .i64 c.src, .int .i64 c.dst, .int .i64 c.st, .int .i64 c.en, .int .i64 (c.rate + r), .int .i64 c.rng, .int .i64 (0)] :=
          ⟨_, rfl, ((hN.set hge _).set hge _).drew, (hk3.set_ 4 _).set_ 6 _⟩
        rw [hW3]
        clear hW3 hc3 hf3 hk3 hC2
        replace hN := hN3
        have hC := hN.2
        have hc4 := hk4.cell
        go_wp2_with (first | (go_at_call 13; refine (Duration_ints _ _ _ _ _ _ _ _ _).mono ?_; rintro e w1 ⟨rfl, hb⟩; replace hN := hN.step hb; have hC := hN.2) | (go_at_call 19; refine (awake_any _).mono ?_; rintro e w1 ⟨rfl, hb⟩; replace hN := hN.step hb; have hC := hN.2))
        all_goals go_ret
        all_goals exact ⟨rfl, hB.trans hN.1⟩
      · have y0 := hbet (c.rate + r) (c.loss - l) ⟨by omega, by omega⟩ ⟨by omega, by omega⟩
        obtain ⟨y1, y2⟩ := y0
        go_region
        obtain ⟨W3, hW3, hN3, hk4⟩ : ∃ W3, ((W2.setCell ⟨w1.heap.size, 4, none⟩ (.int .i64 (c.rate + r))).setCell ⟨w1.heap.size, 6, none⟩ (.int .i64 (c.loss - l))).drew = W3 ∧ Near W W3 ∧ Blk W3 w1.heap.size 23 #[.int .i64 c.src, .int .i64 c.dst, .int .i64 c.st, .int .i64 c.en, .int .i64 (c.rate + r), .int .i64 c.rng, .int .i64 (c.loss - l)] :=
          ⟨_, rfl, ((hN.set hge _).set hge _).drew, (hk3.set_ 4 _).set_ 6 _⟩
        rw [hW3]
        clear hW3 hc3 hf3 hk3 hC2
        replace hN := hN3
        have hC := hN.2
        have hc4 := hk4.cell
        go_wp2_with (first | (go_at_call 13; refine (Duration_ints _ _ _ _ _ _ _ _ _).mono ?_; rintro e w1 ⟨rfl, hb⟩; replace hN := hN.step hb; have hC := hN.2) | (go_at_call 19; refine (awake_any _).mono ?_; rintro e w1 ⟨rfl, hb⟩; replace hN := hN.step hb; have hC := hN.2))
        all_goals go_ret
        all_goals exact ⟨rfl, hB.trans hN.1⟩
  · have a2 : c.arg (1 + n + m) = 0 := Con.arg_ok.2 ⟨hok, by omega⟩
    have p2 : c.passR (1 + n + m) = c.pass (1 + n + m) := by simp [Con.passR, a2]
    have d2 : c.durR (1 + n + m) = c.dur (1 + n + m) := by simp [Con.durR, a2]
    have pm := Con.pass_mono (c := c) (a := 1 + n) (b := 1 + n + m) g5 (by omega) (by omega)
    have dm := Con.dur_mono (c := c) (a := 1 + n) (b := 1 + n + m) g5 (by omega) (by omega)
    rw [← p1, ← p2] at pm
    rw [← d1, ← d2] at dm
    rw [← p1] at pb
    rw [← p1, ← d1] at pd
    clear p1 d1 p2 d2 db
    unfold Con.val
    go_enter Try.func4, Try.ntmps4
    go_wp2_with fail
    obtain ⟨W, hW, hB, hk, hlt⟩ := box1 w c.cells 23
    simp only [Con.cells] at hW hk
    rw [hW]
    clear hW
    have hc := hk.cell
    have hN := Near.refl W
    go_wp2_with (first | (go_at_call 17; refine (check_any c _).mono ?_; rintro e w1 ⟨rfl, hb⟩; replace hN := hN.step hb; have hC := hN.2) | (go_at_call 20; refine (size_ext n _ hn).mono ?_; rintro e w1 ⟨rfl, hb⟩; replace hN := hN.step hb; have hC := hN.2) | (go_at_call 11; refine (Pass_any c _ _).mono ?_; rintro e w1 ⟨rfl, hb⟩; replace hN := hN.step hb; have hC := hN.2) | (go_at_call 13; refine (Duration_any c _ _).mono ?_; rintro e w1 ⟨rfl, hb⟩; replace hN := hN.step hb; have hC := hN.2))
    obtain ⟨W2, hW2, hB2, hk3, hlt3⟩ := box1 w1 c.cells 23
    simp only [Con.cells] at hW2 hk3
    rw [hW2]
    clear hW2
    have hge := hN.1.size
    replace hN := hN.step hB2
    have hC2 := hN.2
    have hc3 := hk3.cell
    have hf3 := hk3.frozen

    by_cases hr : 1000 < c.rate + r
    · by_cases hl : c.loss - l < 0
      · have y0 := hbet (1000) (0) ⟨by omega, by omega⟩ ⟨by omega, by omega⟩
        obtain ⟨y1, y2⟩ := y0
        go_region
        obtain ⟨W3, hW3, hN3, hk4⟩ : ∃ W3, ((W2.setCell ⟨w1.heap.size, 4, none⟩ (.int .i64 (1000))).setCell ⟨w1.heap.size, 6, none⟩ (.int .i64 (0))).drew = W3 ∧ Near W W3 ∧ Blk W3 w1.heap.size 23 #[.int .i64 c.src, .int .i64 c.dst, .int .i64 c.st, .int .i64 c.en, .int .i64 (1000), .int .i64 c.rng, .int .i64 (0)] :=
          ⟨_, rfl, ((hN.set hge _).set hge _).drew, (hk3.set_ 4 _).set_ 6 _⟩
        rw [hW3]
        clear hW3 hc3 hf3 hk3 hC2
        replace hN := hN3
        have hC := hN.2
        have hc4 := hk4.cell
        go_wp2_with (first | (go_at_call 13; refine (Duration_ints _ _ _ _ _ _ _ _ _).mono ?_; rintro e w1 ⟨rfl, hb⟩; replace hN := hN.step hb; have hC := hN.2) | (go_at_call 19; refine (awake_any _).mono ?_; rintro e w1 ⟨rfl, hb⟩; replace hN := hN.step hb; have hC := hN.2))
        all_goals go_ret
        all_goals exact ⟨rfl, hB.trans hN.1⟩
      · have y0 := hbet (1000) (c.loss - l) ⟨by omega, by omega⟩ ⟨by omega, by omega⟩
        obtain ⟨y1, y2⟩ := y0
        go_region
        obtain ⟨W3, hW3, hN3, hk4⟩ : ∃ W3, ((W2.setCell ⟨w1.heap.size, 4, none⟩ (.int .i64 (1000))).setCell ⟨w1.heap.size, 6, none⟩ (.int .i64 (c.loss - l))).drew = W3 ∧ Near W W3 ∧ Blk W3 w1.heap.size 23 #[.int .i64 c.src, .int .i64 c.dst, .int .i64 c.st, .int .i64 c.en, .int .i64 (1000), .int .i64 c.rng, .int .i64 (c.loss - l)] :=
          ⟨_, rfl, ((hN.set hge _).set hge _).drew, (hk3.set_ 4 _).set_ 6 _⟩
        rw [hW3]
        clear hW3 hc3 hf3 hk3 hC2
        replace hN := hN3
        have hC := hN.2
        have hc4 := hk4.cell
        go_wp2_with (first | (go_at_call 13; refine (Duration_ints _ _ _ _ _ _ _ _ _).mono ?_; rintro e w1 ⟨rfl, hb⟩; replace hN := hN.step hb; have hC := hN.2) | (go_at_call 19; refine (awake_any _).mono ?_; rintro e w1 ⟨rfl, hb⟩; replace hN := hN.step hb; have hC := hN.2))
        all_goals go_ret
        all_goals exact ⟨rfl, hB.trans hN.1⟩
    · by_cases hl : c.loss - l < 0
      · have y0 := hbet (c.rate + r) (0) ⟨by omega, by omega⟩ ⟨by omega, by omega⟩
        obtain ⟨y1, y2⟩ := y0
        go_region
        obtain ⟨W3, hW3, hN3, hk4⟩ : ∃ W3, ((W2.setCell ⟨w1.heap.size, 4, none⟩ (.int .i64 (c.rate + r))).setCell ⟨w1.heap.size, 6, none⟩ (.int .i64 (0))).drew = W3 ∧ Near W W3 ∧ Blk W3 w1.heap.size 23 #[.int .i64 c.src, .int .i64 c.dst, .int .i64 c.st, .int .i64 c.en, .int .i64 (c.rate + r), .int .i64 c.rng, .int .i64 (0)] :=
          ⟨_, rfl, ((hN.set hge _).set hge _).drew, (hk3.set_ 4 _).set_ 6 _⟩
        rw [hW3]
        clear hW3 hc3 hf3 hk3 hC2
        replace hN := hN3
        have hC := hN.2
        have hc4 := hk4.cell
        go_wp2_with (first | (go_at_call 13; refine (Duration_ints _ _ _ _ _ _ _ _ _).mono ?_; rintro e w1 ⟨rfl, hb⟩; replace hN := hN.step hb; have hC := hN.2) | (go_at_call 19; refine (awake_any _).mono ?_; rintro e w1 ⟨rfl, hb⟩; replace hN := hN.step hb; have hC := hN.2))
        all_goals go_ret
        all_goals exact ⟨rfl, hB.trans hN.1⟩
      · have y0 := hbet (c.rate + r) (c.loss - l) ⟨by omega, by omega⟩ ⟨by omega, by omega⟩
        obtain ⟨y1, y2⟩ := y0
        go_region
        obtain ⟨W3, hW3, hN3, hk4⟩ : ∃ W3, ((W2.setCell ⟨w1.heap.size, 4, none⟩ (.int .i64 (c.rate + r))).setCell ⟨w1.heap.size, 6, none⟩ (.int .i64 (c.loss - l))).drew = W3 ∧ Near W W3 ∧ Blk W3 w1.heap.size 23 #[.int .i64 c.src, .int .i64 c.dst, .int .i64 c.st, .int .i64 c.en, .int .i64 (c.rate + r), .int .i64 c.rng, .int .i64 (c.loss - l)] :=
          ⟨_, rfl, ((hN.set hge _).set hge _).drew, (hk3.set_ 4 _).set_ 6 _⟩
        rw [hW3]
        clear hW3 hc3 hf3 hk3 hC2
        replace hN := hN3
        have hC := hN.2
        have hc4 := hk4.cell
        go_wp2_with (first | (go_at_call 13; refine (Duration_ints _ _ _ _ _ _ _ _ _).mono ?_; rintro e w1 ⟨rfl, hb⟩; replace hN := hN.step hb; have hC := hN.2) | (go_at_call 19; refine (awake_any _).mono ?_; rintro e w1 ⟨rfl, hb⟩; replace hN := hN.step hb; have hC := hN.2))
        all_goals go_ret
        all_goals exact ⟨rfl, hB.trans hN.1⟩

theorem monotone_walk (c : Con) (n m r l : Int) (w : World) (hn : 0 ≤ n ∧ n ≤ 65535) (hm : 0 ≤ m ∧ m ≤ 65535) (hr0 : 0 ≤ r ∧ r ≤ 255) (hl0 : 0 ≤ l ∧ l ≤ 255) :
    Calls Try.prog 4 #[c.val, .int .u16 n, .int .u16 m, .int .u8 r, .int .u8 l] w fun e w' => e = .returned (.bool true) ∧ Ext w w' := by
  by_cases h0 : c.check = 0
  · exact monotone_ok c n m r l w hn hm hr0 hl0 h0 ((Con.check_iff c).1 h0)
  · unfold Con.val
    go_enter Try.func4, Try.ntmps4
    go_wp2_with fail
    obtain ⟨W, hW, hB, hk, hlt⟩ := box1 w c.cells 23
    simp only [Con.cells] at hW hk
    rw [hW]
    clear hW
    have hc := hk.cell
    have hN := Near.refl W
    go_wp2_with (first | (go_at_call 17; refine (check_any c _).mono ?_; rintro e w1 ⟨rfl, hb⟩; replace hN := hN.step hb; have hC := hN.2) | (go_at_call 19; refine (awake_any _).mono ?_; rintro e w1 ⟨rfl, hb⟩; replace hN := hN.step hb; have hC := hN.2))
    go_ret
    exact ⟨rfl, hB.trans hN.1⟩

end Go.Proofs.Ytkahnfjdngiebaa

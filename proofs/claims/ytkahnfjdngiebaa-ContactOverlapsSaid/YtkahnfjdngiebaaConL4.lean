/- Layer 21 (contact): the walks of the laws that stand without the reference, third part. -/
import Derived.Test.YtkahnfjdngiebaaConL3
namespace Go.Proofs.Ytkahnfjdngiebaa
set_option linter.unusedVariables false
open Go.RowKit

theorem Con.overlap_symm (a b : Con) : a.overlapB b = b.overlapB a := by
  rw [Bool.eq_iff_iff]
  simp only [Con.overlapB, Bool.and_eq_true, decide_eq_true_eq]
  omega
theorem Con.overlap_self {a : Con} (h : a.check = 0) : a.overlapB a = true := by
  rw [Con.overlap_eq h h]
  have := ((Con.check_iff a).1 h).st1
  simp; omega
theorem Con.overlap_next {a b : Con} (h : b.st = a.en) : a.overlapB b = false := by
  rw [Bool.eq_false_iff]
  simp only [ne_eq, Con.overlapB, Bool.and_eq_true, decide_eq_true_eq]
  omega

theorem Overlap_ints (a1 a2 a3 a4 a5 a6 a7 b1 b2 b3 b4 b5 b6 b7 : Int) (w : World) :
    Calls Try.prog 29 #[.agg #[.int .i64 a1, .int .i64 a2, .int .i64 a3, .int .i64 a4, .int .i64 a5, .int .i64 a6, .int .i64 a7], .agg #[.int .i64 b1, .int .i64 b2, .int .i64 b3, .int .i64 b4, .int .i64 b5, .int .i64 b6, .int .i64 b7]] w
      fun e w' => e = .returned (.bool (Con.overlapB ⟨a1, a2, a3, a4, a5, a6, a7⟩ ⟨b1, b2, b3, b4, b5, b6, b7⟩)) ∧ Ext w w' :=
  Overlap_any ⟨a1, a2, a3, a4, a5, a6, a7⟩ ⟨b1, b2, b3, b4, b5, b6, b7⟩ w

set_option maxHeartbeats 4000000 in
theorem overlaps_walk (a b : Con) (w : World) :
    Calls Try.prog 10 #[a.val, b.val] w fun e w' => e = .returned (.bool true) ∧ Ext w w' := by
  have hsym := Con.overlap_symm b a
  by_cases h0 : a.check = 0
  · by_cases h1 : b.check = 0
    · have hself := Con.overlap_self h0
      have ⟨g1, g2, g3, g4, g5, g6, g7, g8, g9, g10, g11, g12, g13, g14⟩ := (Con.check_iff a).1 h0
      unfold Con.val
      go_enter Try.func10, Try.ntmps10
      go_wp2_with fail
      obtain ⟨W, hW, hB, hk, hk2, hlt, hlt2⟩ := box2 w a.cells b.cells 23 23
      simp only [Con.cells] at hW hk hk2
      rw [hW]
      clear hW
      have hc := hk.cell
      have hc2 := hk2.cell
      have hN := Near.refl W
      have hq := quiet_near hN
      refine wp_region_quiet_below (by kernel_rfl) (by kernel_rfl) ?_
      repeat (first | go_big_quiet_skip | (go_big_quiet_want; go_big_quiet_op; first | go_big_quiet_on | (apply Exists.intro; refine ⟨fun _ => ?_, ?_⟩; (focus (first | (go_at_call 29; exact Calls.regrown_of (Overlap_any _ _ _)))); go_big_quiet_on)))
      refine wpQuiet_nil ?_
      intro w1 hw1
      clear hq
      replace hw1 := quiet_ext hw1
      replace hN := hN.step hw1
      have hC := hN.2
      go_wp2_with (go_at_call 17; refine (check_any _ _).mono ?_; rintro e w1 ⟨rfl, hb⟩; replace hN := hN.step hb; have hC := hN.2)
      obtain ⟨W2, hW2, hB2, hk3, hlt3⟩ := box1 w1 a.cells 23
      simp only [Con.cells] at hW2 hk3
      rw [hW2]
      clear hW2
      have hge0 := hN.1.size
      replace hN := hN.step hB2
      have hC2 := hN.2
      have hc3 := hk3.cell
      have hf3 := hk3.frozen
      have hge : W.heap.size ≤ w1.heap.size := hge0
      go_region
      obtain ⟨W3, hW3, hN3, hk4⟩ : ∃ W3, ((W2.setCell ⟨w1.heap.size, 2, none⟩ (.int .i64 a.en)).setCell ⟨w1.heap.size, 3, none⟩ (.int .i64 (a.en + 1))).drew = W3 ∧ Near W W3 ∧ Blk W3 w1.heap.size 23 #[.int .i64 a.src, .int .i64 a.dst, .int .i64 a.en, .int .i64 (a.en + 1), .int .i64 a.rate, .int .i64 a.rng, .int .i64 a.loss] :=
        ⟨_, rfl, ((hN.set hge _).set hge _).drew, (hk3.set_ 2 _).set_ 3 _⟩
      rw [hW3]
      have hBn := hB.trans hN3.1
      have hka := hk.ext hN3.1
      have hkb := hk2.ext hN3.1
      clear hW3 hc3 hf3 hk3 hC2 hN hB hB2 hk hk2 hc hc2 hlt3 hlt hlt2 hge hge0 hN3
      have hlt := hka.lt
      have hlt2 := hkb.lt
      have hlt4 := hk4.lt
      have hc := hka.cell
      have hc2 := hkb.cell
      have hc4 := hk4.cell
      generalize w1.heap.size = g at *
      obtain ⟨W, rfl⟩ : ∃ W, W = W3 := ⟨_, rfl⟩
      have hB := hBn
      have hN := Near.refl W
      have hnx : ∀ c : Con, c.st = a.en → a.overlapB c = false := fun c h => Con.overlap_next h
      have hnext : Con.overlapB ⟨a.src, a.dst, a.st, a.en, a.rate, a.rng, a.loss⟩ ⟨a.src, a.dst, a.en, a.en + 1, a.rate, a.rng, a.loss⟩ = false := hnx _ rfl
      clear hnx
      have hov := Lib.hid (Con.overlap_eq h0 h1)
      have hself' : Con.overlapB ⟨a.src, a.dst, a.st, a.en, a.rate, a.rng, a.loss⟩ ⟨a.src, a.dst, a.st, a.en, a.rate, a.rng, a.loss⟩ = true := hself
      clear hself hsym
      by_cases e1 : a.src = b.src
      · by_cases e2 : a.dst = b.dst
        · have e1' : (a.src == b.src) = true := by simpa using e1
          have e2' : (a.dst == b.dst) = true := by simpa using e2
          have E1 := Lib.hid e1
          have E2 := Lib.hid e2
          clear e1 e2
          by_cases m1 : a.st < b.en ∧ b.st < a.en
          · have hv : Con.overlapB ⟨a.src, a.dst, a.st, a.en, a.rate, a.rng, a.loss⟩ ⟨b.src, b.dst, b.st, b.en, b.rate, b.rng, b.loss⟩ = true := by show a.overlapB b = true; rw [hov.out]; simp [E1.out, E2.out, m1]
            obtain ⟨m2, m3⟩ := m1
            have st1 := ((Con.check_iff b).1 h1).st1
            go_wp2_with (first | (go_at_call 29; refine (Overlap_ints _ _ _ _ _ _ _ _ _ _ _ _ _ _ _).mono ?_; rintro e w1 ⟨rfl, hb⟩; replace hN := hN.step hb; have hC := hN.2) | (go_at_call 19; refine (awake_any _).mono ?_; rintro e w1 ⟨rfl, hb⟩; replace hN := hN.step hb; have hC := hN.2))
            all_goals go_ret
            all_goals exact ⟨by first | rfl | exact ret_bool (by simp; omega), hB.trans hN.1⟩
          · have hv : Con.overlapB ⟨a.src, a.dst, a.st, a.en, a.rate, a.rng, a.loss⟩ ⟨b.src, b.dst, b.st, b.en, b.rate, b.rng, b.loss⟩ = false := by show a.overlapB b = false; rw [hov.out]; simp [E1.out, E2.out]; omega
            have st1 := ((Con.check_iff b).1 h1).st1
            by_cases m2 : a.st < b.en
            · have m3 : a.en ≤ b.st := by omega
              clear m1
              go_wp2_with (first | (go_at_call 29; refine (Overlap_ints _ _ _ _ _ _ _ _ _ _ _ _ _ _ _).mono ?_; rintro e w1 ⟨rfl, hb⟩; replace hN := hN.step hb; have hC := hN.2) | (go_at_call 19; refine (awake_any _).mono ?_; rintro e w1 ⟨rfl, hb⟩; replace hN := hN.step hb; have hC := hN.2))
              all_goals go_ret
              all_goals exact ⟨by first | rfl | exact ret_bool (by simp; omega), hB.trans hN.1⟩
            · have m3 : b.en ≤ a.st := by omega
              clear m1
              go_wp2_with (first | (go_at_call 29; refine (Overlap_ints _ _ _ _ _ _ _ _ _ _ _ _ _ _ _).mono ?_; rintro e w1 ⟨rfl, hb⟩; replace hN := hN.step hb; have hC := hN.2) | (go_at_call 19; refine (awake_any _).mono ?_; rintro e w1 ⟨rfl, hb⟩; replace hN := hN.step hb; have hC := hN.2))
              all_goals go_ret
              all_goals exact ⟨by first | rfl | exact ret_bool (by simp; omega), hB.trans hN.1⟩
        · have e1' : (a.src == b.src) = true := by simpa using e1
          have e2' : (a.dst == b.dst) = false := by simpa using e2
          have hv : Con.overlapB ⟨a.src, a.dst, a.st, a.en, a.rate, a.rng, a.loss⟩ ⟨b.src, b.dst, b.st, b.en, b.rate, b.rng, b.loss⟩ = false := by show a.overlapB b = false; rw [hov.out]; simp [e2]
          clear e1 e2
          go_wp2_with (first | (go_at_call 29; refine (Overlap_ints _ _ _ _ _ _ _ _ _ _ _ _ _ _ _).mono ?_; rintro e w1 ⟨rfl, hb⟩; replace hN := hN.step hb; have hC := hN.2) | (go_at_call 19; refine (awake_any _).mono ?_; rintro e w1 ⟨rfl, hb⟩; replace hN := hN.step hb; have hC := hN.2))
          all_goals go_ret
          all_goals exact ⟨by first | rfl | exact ret_bool (by simp; omega), hB.trans hN.1⟩
      · have e1' : (a.src == b.src) = false := by simpa using e1
        have hv : Con.overlapB ⟨a.src, a.dst, a.st, a.en, a.rate, a.rng, a.loss⟩ ⟨b.src, b.dst, b.st, b.en, b.rate, b.rng, b.loss⟩ = false := by show a.overlapB b = false; rw [hov.out]; simp [e1]
        clear e1
        go_wp2_with (first | (go_at_call 29; refine (Overlap_ints _ _ _ _ _ _ _ _ _ _ _ _ _ _ _).mono ?_; rintro e w1 ⟨rfl, hb⟩; replace hN := hN.step hb; have hC := hN.2) | (go_at_call 19; refine (awake_any _).mono ?_; rintro e w1 ⟨rfl, hb⟩; replace hN := hN.step hb; have hC := hN.2))
        all_goals go_ret
        all_goals exact ⟨by first | rfl | exact ret_bool (by simp; omega), hB.trans hN.1⟩
    · have hov : a.overlapB b = false := by simp [Con.overlapB, h1]
      clear hsym
      have hov2 : b.overlapB a = false := by simp [Con.overlapB, h1]
      unfold Con.val
      go_enter Try.func10, Try.ntmps10
      go_wp2_with fail
      obtain ⟨W, hW, hB, hk, hk2, hlt, hlt2⟩ := box2 w a.cells b.cells 23 23
      simp only [Con.cells] at hW hk hk2
      rw [hW]
      clear hW
      have hc := hk.cell
      have hc2 := hk2.cell
      have hN := Near.refl W
      have hq := quiet_near hN
      refine wp_region_quiet_below (by kernel_rfl) (by kernel_rfl) ?_
      repeat (first | go_big_quiet_skip | (go_big_quiet_want; go_big_quiet_op; first | go_big_quiet_on | (apply Exists.intro; refine ⟨fun _ => ?_, ?_⟩; (focus (first | (go_at_call 29; exact Calls.regrown_of (Overlap_any _ _ _)))); go_big_quiet_on)))
      refine wpQuiet_nil ?_
      intro w1 hw1
      clear hq
      replace hw1 := quiet_ext hw1
      replace hN := hN.step hw1
      have hC := hN.2
      go_wp2_with (first | (go_at_call 17; refine (check_any _ _).mono ?_; rintro e w1 ⟨rfl, hb⟩; replace hN := hN.step hb; have hC := hN.2) | (go_at_call 29; refine (Overlap_any _ _ _).mono ?_; rintro e w1 ⟨rfl, hb⟩; replace hN := hN.step hb; have hC := hN.2) | (go_at_call 19; refine (awake_any _).mono ?_; rintro e w1 ⟨rfl, hb⟩; replace hN := hN.step hb; have hC := hN.2))
      go_ret
      exact ⟨rfl, hB.trans hN.1⟩
  · have hov : a.overlapB b = false := by simp [Con.overlapB, h0]
    clear hsym
    have hov2 : b.overlapB a = false := by simp [Con.overlapB, h0]
    unfold Con.val
    go_enter Try.func10, Try.ntmps10
    go_wp2_with fail
    obtain ⟨W, hW, hB, hk, hk2, hlt, hlt2⟩ := box2 w a.cells b.cells 23 23
    simp only [Con.cells] at hW hk hk2
    rw [hW]
    clear hW
    have hc := hk.cell
    have hc2 := hk2.cell
    have hN := Near.refl W
    have hq := quiet_near hN
    refine wp_region_quiet_below (by kernel_rfl) (by kernel_rfl) ?_
    repeat (first | go_big_quiet_skip | (go_big_quiet_want; go_big_quiet_op; first | go_big_quiet_on | (apply Exists.intro; refine ⟨fun _ => ?_, ?_⟩; (focus (first | (go_at_call 29; exact Calls.regrown_of (Overlap_any _ _ _)))); go_big_quiet_on)))
    refine wpQuiet_nil ?_
    intro w1 hw1
    clear hq
    replace hw1 := quiet_ext hw1
    replace hN := hN.step hw1
    have hC := hN.2
    go_wp2_with (first | (go_at_call 17; refine (check_any _ _).mono ?_; rintro e w1 ⟨rfl, hb⟩; replace hN := hN.step hb; have hC := hN.2) | (go_at_call 29; refine (Overlap_any _ _ _).mono ?_; rintro e w1 ⟨rfl, hb⟩; replace hN := hN.step hb; have hC := hN.2) | (go_at_call 19; refine (awake_any _).mono ?_; rintro e w1 ⟨rfl, hb⟩; replace hN := hN.step hb; have hC := hN.2))
    go_ret
    exact ⟨rfl, hB.trans hN.1⟩

end Go.Proofs.Ytkahnfjdngiebaa

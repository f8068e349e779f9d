
/- Layer 21 (contact): the walks, third part: the reference's functions, Volume and Overlap. -/
import Derived.Test.YtifopbkhflpbfaaGreatConW2
namespace Go.Proofs.YtifopbkhflpbfaaGreat
set_option linter.unusedVariables false
open Go.RowKit

set_option maxHeartbeats 1000000 in
theorem rFits_any (c : Con) (b n : Int) (w : World) :
    Calls Tryz.prog 104 #[c.val, .int .i64 b, .int .i64 n] w fun e w' => e = .returned (.bool (c.fitsR b n)) ∧ Ext w w' := by
  by_cases ha : c.arg n = 0
  · have ⟨hok, hn⟩ := Con.arg_ok.1 ha
    have d := Con.dur_bd hok hn.1 hn.2
    have ⟨h1, h2, h3, h4, h5, h6, h7, h8, h9, h10, h11, h12, h13, h14⟩ := hok
    by_cases hs : c.st ≤ b
    · have hd : decide (c.st ≤ b) = true := by simpa using hs
      by_cases ht : b ≤ c.en
      · have hd2 : decide (b ≤ c.en) = true := by simpa using ht
        unfold Con.val
        go_enter Tryz.func104, Tryz.ntmps104
        go_wp2_with fail
        obtain ⟨W, hW, hB, hk, hlt⟩ := box1 w c.cells 42
        simp only [Con.cells] at hW hk
        rw [hW]
        clear hW
        have hc := hk.cell
        have hN := Near.refl W
        have hq := quiet_near hN
        refine wp_region_quiet_below (by kernel_rfl) (by kernel_rfl) ?_
        repeat (first | go_big_quiet_skip | (go_big_quiet_want; go_big_quiet_op; first | go_big_quiet_on | (apply Exists.intro; refine ⟨fun _ => ?_, ?_⟩; (focus (first | (go_at_call 103; exact Calls.regrown_of (rarg_any c _ _)) | (go_at_call 75; exact Calls.regrown_of (rdur_any c _ _ hok hn)))); go_big_quiet_on)))
        refine wpQuiet_nil ?_
        intro w1 hw1
        clear hq
        replace hw1 := quiet_ext hw1
        replace hN := hN.step hw1
        have hC := hN.2
        go_wp2
        go_ret
        refine ⟨ret_bool ?_, hB.trans hN.1⟩
        try go_unwrap
        simp only [Con.fitsR, Con.fitsB, ha, decide_true, Bool.true_and]
        rw [Bool.eq_iff_iff]; simp; omega
      · have hd2 : decide (b ≤ c.en) = false := by simpa using ht
        unfold Con.val
        go_enter Tryz.func104, Tryz.ntmps104
        go_wp2_with fail
        obtain ⟨W, hW, hB, hk, hlt⟩ := box1 w c.cells 42
        simp only [Con.cells] at hW hk
        rw [hW]
        clear hW
        have hc := hk.cell
        have hN := Near.refl W
        have hq := quiet_near hN
        refine wp_region_quiet_below (by kernel_rfl) (by kernel_rfl) ?_
        repeat (first | go_big_quiet_skip | (go_big_quiet_want; go_big_quiet_op; first | go_big_quiet_on | (apply Exists.intro; refine ⟨fun _ => ?_, ?_⟩; (focus (first | (go_at_call 103; exact Calls.regrown_of (rarg_any c _ _)))); go_big_quiet_on)))
        refine wpQuiet_nil ?_
        intro w1 hw1
        clear hq
        replace hw1 := quiet_ext hw1
        replace hN := hN.step hw1
        have hC := hN.2
        go_wp2
        go_ret
        refine ⟨ret_bool ?_, hB.trans hN.1⟩
        simp [Con.fitsR, Con.fitsB, ha]; omega
    · have hd : decide (c.st ≤ b) = false := by simpa using hs
      unfold Con.val
      go_enter Tryz.func104, Tryz.ntmps104
      go_wp2_with fail
      obtain ⟨W, hW, hB, hk, hlt⟩ := box1 w c.cells 42
      simp only [Con.cells] at hW hk
      rw [hW]
      clear hW
      have hc := hk.cell
      have hN := Near.refl W
      have hq := quiet_near hN
      refine wp_region_quiet_below (by kernel_rfl) (by kernel_rfl) ?_
      repeat (first | go_big_quiet_skip | (go_big_quiet_want; go_big_quiet_op; first | go_big_quiet_on | (apply Exists.intro; refine ⟨fun _ => ?_, ?_⟩; (focus (first | (go_at_call 103; exact Calls.regrown_of (rarg_any c _ _)))); go_big_quiet_on)))
      refine wpQuiet_nil ?_
      intro w1 hw1
      clear hq
      replace hw1 := quiet_ext hw1
      replace hN := hN.step hw1
      have hC := hN.2
      go_wp2
      go_ret
      refine ⟨ret_bool ?_, hB.trans hN.1⟩
      simp [Con.fitsR, Con.fitsB, ha]; omega
  · have hd : (c.arg n == 0) = false := by simpa using ha
    unfold Con.val
    go_enter Tryz.func104, Tryz.ntmps104
    go_wp2_with fail
    obtain ⟨W, hW, hB, hk, hlt⟩ := box1 w c.cells 42
    simp only [Con.cells] at hW hk
    rw [hW]
    clear hW
    have hc := hk.cell
    have hN := Near.refl W
    have hq := quiet_near hN
    refine wp_region_quiet_below (by kernel_rfl) (by kernel_rfl) ?_
    repeat (first | go_big_quiet_skip | (go_big_quiet_want; go_big_quiet_op; first | go_big_quiet_on | (apply Exists.intro; refine ⟨fun _ => ?_, ?_⟩; (focus (first | (go_at_call 103; exact Calls.regrown_of (rarg_any c _ _)))); go_big_quiet_on)))
    refine wpQuiet_nil ?_
    intro w1 hw1
    clear hq
    replace hw1 := quiet_ext hw1
    replace hN := hN.step hw1
    have hC := hN.2
    go_wp2
    go_ret
    refine ⟨ret_bool ?_, hB.trans hN.1⟩
    simp [Con.fitsR, ha]

set_option maxHeartbeats 1000000 in
theorem rBegin_any (c : Con) (t n : Int) (w : World) :
    Calls Tryz.prog 98 #[c.val, .int .i64 t, .int .i64 n] w fun e w' => e = .returned (.tuple #[.int .i64 (c.beginT t n), .int .i64 (c.beginE t n)]) ∧ Ext w w' := by
  by_cases ha : c.arg n = 0
  · cases hf : c.fitsR (c.beg t) n
    all_goals
      by_cases ht : t < c.st
      all_goals
        have hx : c.beg t = if t < c.st then c.st else t := rfl
        simp only [ht, if_true, if_false] at hx
        have hx' := Lib.hid hx
        rw [hx] at hf
        clear hx
        unfold Con.val
        go_enter Tryz.func98, Tryz.ntmps98
        go_wp2_with fail
        obtain ⟨W, hW, hB, hk, hlt⟩ := box1 w c.cells 42
        simp only [Con.cells] at hW hk
        rw [hW]
        clear hW
        have hc := hk.cell
        have hN := Near.refl W
        go_wp2_with (first | (go_at_call 103; refine (rarg_any c _ _).mono ?_; rintro e w1 ⟨rfl, hb⟩; replace hN := hN.step hb; have hC := hN.2) | (go_at_call 104; refine (rFits_any c _ _ _).mono ?_; rintro e w1 ⟨rfl, hb⟩; replace hN := hN.step hb; have hC := hN.2))
        go_ret2
        simp only [Con.fitsR, ha] at hf
        exact ⟨by simp_all [Con.beginT, Con.beginE, Con.atE, hx'.out], hB.trans hN.1⟩
  · unfold Con.val
    go_enter Tryz.func98, Tryz.ntmps98
    go_wp2_with fail
    obtain ⟨W, hW, hB, hk, hlt⟩ := box1 w c.cells 42
    simp only [Con.cells] at hW hk
    rw [hW]
    clear hW
    have hc := hk.cell
    have hN := Near.refl W
    go_wp2_with (go_at_call 103; refine (rarg_any c _ _).mono ?_; rintro e w1 ⟨rfl, hb⟩; replace hN := hN.step hb; have hC := hN.2)
    go_ret2
    exact ⟨by simp [Con.beginT, Con.beginE, Con.atE, ha], hB.trans hN.1⟩

set_option maxHeartbeats 1000000 in
theorem rArrival_any (c : Con) (b n : Int) (w : World) :
    Calls Tryz.prog 99 #[c.val, .int .i64 b, .int .i64 n] w fun e w' => e = .returned (.tuple #[.int .i64 (c.arrT b n), .int .i64 (c.atE b n)]) ∧ Ext w w' := by
  by_cases ha : c.arg n = 0
  · have ⟨hok, hn⟩ := Con.arg_ok.1 ha
    have d := Con.dur_bd hok hn.1 hn.2
    have ⟨h1, h2, h3, h4, h5, h6, h7, h8, h9, h10, h11, h12, h13, h14⟩ := hok
    cases hf : c.fitsR b n
    · unfold Con.val
      go_enter Tryz.func99, Tryz.ntmps99
      go_wp2_with fail
      obtain ⟨W, hW, hB, hk, hlt⟩ := box1 w c.cells 42
      simp only [Con.cells] at hW hk
      rw [hW]
      clear hW
      have hc := hk.cell
      have hN := Near.refl W
      go_wp2_with (first | (go_at_call 103; refine (rarg_any c _ _).mono ?_; rintro e w1 ⟨rfl, hb⟩; replace hN := hN.step hb; have hC := hN.2) | (go_at_call 104; refine (rFits_any c _ _ _).mono ?_; rintro e w1 ⟨rfl, hb⟩; replace hN := hN.step hb; have hC := hN.2))
      go_ret2
      simp only [Con.fitsR, ha] at hf
      exact ⟨by simp_all [Con.arrT, Con.aftT, Con.atE], hB.trans hN.1⟩
    · have hb1 : c.st ≤ b ∧ b ≤ c.en - c.dur n := by simpa [Con.fitsB, Con.fitsR, ha] using hf
      unfold Con.val
      go_enter Tryz.func99, Tryz.ntmps99
      go_wp2_with fail
      obtain ⟨W, hW, hB, hk, hlt⟩ := box1 w c.cells 42
      simp only [Con.cells] at hW hk
      rw [hW]
      clear hW
      have hc := hk.cell
      have hN := Near.refl W
      go_wp2_with (first | (go_at_call 103; refine (rarg_any c _ _).mono ?_; rintro e w1 ⟨rfl, hb⟩; replace hN := hN.step hb; have hC := hN.2) | (go_at_call 104; refine (rFits_any c _ _ _).mono ?_; rintro e w1 ⟨rfl, hb⟩; replace hN := hN.step hb; have hC := hN.2))
      go_region_held3 (fun w' => Ext W w' ∧ ∀ b o, b < W.heap.size → w'.cell? ⟨b, o, none⟩ = W.cell? ⟨b, o, none⟩) (first | exact hN.drew | exact Near.step (by assumption) hb)
        (first | (go_at_call 75; refine (rdur_any c _ _ hok hn).mono ?_; rintro e w1 ⟨rfl, hb⟩))
      all_goals (obtain ⟨hE, hC⟩ := ‹Ext W _ ∧ _›; replace hN : Near W _ := ⟨hE, hC⟩)
      go_wp2
      go_ret2
      refine ⟨?_, hB.trans hN.1⟩
      simp only [Con.fitsR, ha] at hf
      simp_all [Con.arrT, Con.aftT, Con.atE]
      go_unwrap
  · unfold Con.val
    go_enter Tryz.func99, Tryz.ntmps99
    go_wp2_with fail
    obtain ⟨W, hW, hB, hk, hlt⟩ := box1 w c.cells 42
    simp only [Con.cells] at hW hk
    rw [hW]
    clear hW
    have hc := hk.cell
    have hN := Near.refl W
    go_wp2_with (go_at_call 103; refine (rarg_any c _ _).mono ?_; rintro e w1 ⟨rfl, hb⟩; replace hN := hN.step hb; have hC := hN.2)
    go_ret2
    exact ⟨by simp [Con.arrT, Con.aftT, Con.atE, ha], hB.trans hN.1⟩

theorem Con.overlap_eq {a b : Con} (ha : a.check = 0) (hb : b.check = 0) : a.overlapB b = decide (a.src = b.src ∧ a.dst = b.dst ∧ a.st < b.en ∧ b.st < a.en) := by
  have h1 := ((Con.check_iff a).1 ha).st1
  have h2 := ((Con.check_iff b).1 hb).st1
  rw [Bool.eq_iff_iff]
  simp [Con.overlapB, ha, hb]
  omega

set_option maxHeartbeats 1000000 in
theorem Overlap_any (a b : Con) (w : World) :
    Calls Tryz.prog 57 #[a.val, b.val] w fun e w' => e = .returned (.bool (a.overlapB b)) ∧ Ext w w' := by
  by_cases ha : a.check = 0
  · by_cases hb0 : b.check = 0
    · have ho := Lib.hid (Con.overlap_eq ha hb0)
      have h1 := ((Con.check_iff a).1 ha).st1
      have h2 := ((Con.check_iff b).1 hb0).st1
      unfold Con.val
      go_enter Tryz.func57, Tryz.ntmps57
      go_wp2_with fail
      obtain ⟨W, hW, hB, hk, hk2, hlt, hlt2⟩ := box2 w a.cells b.cells 42 42
      simp only [Con.cells] at hW hk hk2
      rw [hW]
      clear hW
      have hc := hk.cell
      have hc2 := hk2.cell
      have hN := Near.refl W
      go_wp2_with (go_at_call 54; refine (check_any _ _).mono ?_; rintro e w1 ⟨rfl, hb⟩; replace hN := hN.step hb; have hC := hN.2)
      all_goals go_ret
      all_goals refine ⟨ret_bool ?_, hB.trans hN.1⟩
      all_goals rw [ho.out, Bool.eq_iff_iff]
      all_goals clear ho hc hc2 hk hk2
      all_goals simp_all
      all_goals omega
    · unfold Con.val
      go_enter Tryz.func57, Tryz.ntmps57
      go_wp2_with fail
      obtain ⟨W, hW, hB, hk, hk2, hlt, hlt2⟩ := box2 w a.cells b.cells 42 42
      simp only [Con.cells] at hW hk hk2
      rw [hW]
      clear hW
      have hc := hk.cell
      have hc2 := hk2.cell
      have hN := Near.refl W
      go_wp2_with (go_at_call 54; refine (check_any _ _).mono ?_; rintro e w1 ⟨rfl, hb⟩; replace hN := hN.step hb; have hC := hN.2)
      go_ret
      exact ⟨ret_bool (by simp [Con.overlapB, hb0]), hB.trans hN.1⟩
  · unfold Con.val
    go_enter Tryz.func57, Tryz.ntmps57
    go_wp2_with fail
    obtain ⟨W, hW, hB, hk, hk2, hlt, hlt2⟩ := box2 w a.cells b.cells 42 42
    simp only [Con.cells] at hW hk hk2
    rw [hW]
    clear hW
    have hc := hk.cell
    have hc2 := hk2.cell
    have hN := Near.refl W
    go_wp2_with (go_at_call 54; refine (check_any _ _).mono ?_; rintro e w1 ⟨rfl, hb⟩; replace hN := hN.step hb; have hC := hN.2)
    go_ret
    exact ⟨ret_bool (by simp [Con.overlapB, ha]), hB.trans hN.1⟩

set_option maxHeartbeats 1000000 in
theorem rOverlap_any (a b : Con) (w : World) :
    Calls Tryz.prog 52 #[a.val, b.val] w fun e w' => e = .returned (.bool (a.overlapB b)) ∧ Ext w w' := by
  by_cases ha : a.check = 0
  · by_cases hb0 : b.check = 0
    · have ho := Lib.hid (Con.overlap_eq ha hb0)
      unfold Con.val
      go_enter Tryz.func52, Tryz.ntmps52
      go_wp2_with fail
      obtain ⟨W, hW, hB, hk, hk2, hlt, hlt2⟩ := box2 w a.cells b.cells 42 42
      simp only [Con.cells] at hW hk hk2
      rw [hW]
      clear hW
      have hc := hk.cell
      have hc2 := hk2.cell
      have hN := Near.refl W
      go_wp2_with (go_at_call 51; refine (rcheck_any _ _).mono ?_; rintro e w1 ⟨rfl, hb⟩; replace hN := hN.step hb; have hC := hN.2)
      all_goals go_ret
      all_goals refine ⟨ret_bool ?_, hB.trans hN.1⟩
      all_goals rw [ho.out, Bool.eq_iff_iff]
      all_goals clear ho hc hc2 hk hk2
      all_goals simp_all
      all_goals omega
    · unfold Con.val
      go_enter Tryz.func52, Tryz.ntmps52
      go_wp2_with fail
      obtain ⟨W, hW, hB, hk, hk2, hlt, hlt2⟩ := box2 w a.cells b.cells 42 42
      simp only [Con.cells] at hW hk hk2
      rw [hW]
      clear hW
      have hc := hk.cell
      have hc2 := hk2.cell
      have hN := Near.refl W
      go_wp2_with (go_at_call 51; refine (rcheck_any _ _).mono ?_; rintro e w1 ⟨rfl, hb⟩; replace hN := hN.step hb; have hC := hN.2)
      go_ret
      exact ⟨ret_bool (by simp [Con.overlapB, hb0]), hB.trans hN.1⟩
  · unfold Con.val
    go_enter Tryz.func52, Tryz.ntmps52
    go_wp2_with fail
    obtain ⟨W, hW, hB, hk, hk2, hlt, hlt2⟩ := box2 w a.cells b.cells 42 42
    simp only [Con.cells] at hW hk hk2
    rw [hW]
    clear hW
    have hc := hk.cell
    have hc2 := hk2.cell
    have hN := Near.refl W
    go_wp2_with (go_at_call 51; refine (rcheck_any _ _).mono ?_; rintro e w1 ⟨rfl, hb⟩; replace hN := hN.step hb; have hC := hN.2)
    go_ret
    exact ⟨ret_bool (by simp [Con.overlapB, ha]), hB.trans hN.1⟩

/-- Between two rounds of the halving: what 'low' and 'high' are. -/
def VolRel (c : Con) (W : World) (lo hi : Value) (wr : World) : Prop :=
  ∃ low high : Int, lo = .int .i64 low ∧ hi = .int .i64 high ∧ 0 ≤ low ∧ low ≤ high ∧ high ≤ 65536 ∧ (low = 0 ∨ c.dur low ≤ c.en - c.st) ∧ (high = 65536 ∨ c.en - c.st < c.dur (high + 1)) ∧ Near W wr

end Go.Proofs.YtifopbkhflpbfaaGreat

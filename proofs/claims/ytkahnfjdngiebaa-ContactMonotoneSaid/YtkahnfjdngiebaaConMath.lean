/- Layer 21 (contact): the plain laws on passes and durations. -/
import Derived.Test.YtkahnfjdngiebaaCon
namespace Go.Proofs.Ytkahnfjdngiebaa
set_option linter.unusedVariables false

theorem Con.ticks_le {c : Con} {n k : Int} (h : 1 ≤ c.rate) : c.ticks n ≤ k ↔ n + 8 ≤ k * c.rate := by
  unfold Con.ticks
  constructor
  · intro hk
    have h1 : (n + 8 + c.rate - 1) < ((n + 8 + c.rate - 1) / c.rate + 1) * c.rate := by
      have := Int.lt_ediv_add_one_mul_self (n + 8 + c.rate - 1) (by omega : 0 < c.rate)
      exact this
    have h2 : ((n + 8 + c.rate - 1) / c.rate + 1) * c.rate ≤ (k + 1) * c.rate := Int.mul_le_mul_of_nonneg_right (by omega) (by omega)
    rw [Int.add_mul k 1] at h2
    omega
  · intro hk
    refine Int.le_of_lt_add_one (Int.ediv_lt_of_lt_mul (by omega) ?_)
    rw [Int.add_mul]
    omega
theorem Con.ticks_ub {c : Con} {n : Int} (h : 1 ≤ c.rate) : n + 8 ≤ c.ticks n * c.rate := (Con.ticks_le h).1 (Int.le_refl _)
theorem Con.ticks_lb {c : Con} {n : Int} (h : 1 ≤ c.rate) : (c.ticks n - 1) * c.rate < n + 8 := by
  rcases Int.lt_or_le ((c.ticks n - 1) * c.rate) (n + 8) with h1 | h1
  · exact h1
  · have := (Con.ticks_le h).2 h1
    omega

/-- The same contact, but of another rate and loss. -/
def Con.at (c : Con) (rate loss : Int) : Con := { c with rate := rate, loss := loss }
theorem Con.ticks_at {c : Con} {r l n : Int} (h : 1 ≤ c.rate) (hr : c.rate ≤ r) (hn : 0 ≤ n) : (c.at r l).ticks n ≤ c.ticks n := by
  have t := Con.ticks_bd (c := c) (n := n) h hn
  refine (Con.ticks_le (c := c.at r l) (by show 1 ≤ r; omega)).2 ?_
  have h1 := Con.ticks_ub (c := c) (n := n) h
  have h2 : c.ticks n * c.rate ≤ c.ticks n * r := Int.mul_le_mul_of_nonneg_left hr (by omega)
  show n + 8 ≤ c.ticks n * r
  omega
theorem Con.pass_at {c : Con} {r l n : Int} (h : 1 ≤ c.rate) (hr : c.rate ≤ r) (hn : 0 ≤ n) : (c.at r l).pass n ≤ c.pass n := by
  unfold Con.pass
  have h1 := Con.ticks_at (c := c) (r := r) (l := l) (n := 16) h hr (by omega)
  have h2 := Con.ticks_at (c := c) (r := r) (l := l) (n := n % 16) h hr (by omega)
  have h3 : n / 16 * (c.at r l).ticks 16 ≤ n / 16 * c.ticks 16 := Int.mul_le_mul_of_nonneg_left h1 (by omega)
  split <;> omega
theorem Con.dur_at {c : Con} {r l n : Int} (h : 1 ≤ c.rate) (hr : c.rate ≤ r) (hl : 0 ≤ l ∧ l ≤ c.loss) (hg : 1 ≤ c.rng) (hn : 0 ≤ n) : (c.at r l).dur n ≤ c.dur n := by
  unfold Con.dur
  have h1 := Con.pass_at (c := c) (r := r) (l := l) h hr hn
  have h2 := Con.ticks_at (c := c) (r := r) (l := l) (n := 16) h hr (by omega)
  have t := Con.ticks_bd (c := c.at r l) (n := 16) (by show 1 ≤ r; omega) (by omega)
  have h3 : (c.at r l).loss * (2 * (c.at r l).rng + 1 + (c.at r l).ticks 16) ≤ c.loss * (2 * c.rng + 1 + c.ticks 16) := by
    refine Int.mul_le_mul hl.2 ?_ ?_ (by omega)
    · show 2 * c.rng + 1 + (c.at r l).ticks 16 ≤ _
      omega
    · show 0 ≤ 2 * c.rng + 1 + (c.at r l).ticks 16
      omega
  omega
theorem Con.pass_le_dur {c : Con} {n : Int} (h : c.Ok) : c.pass n ≤ c.dur n := by
  have e := Con.extra_bd h.rate0 h.rng0 h.rng1 h.loss0 h.loss1
  unfold Con.dur
  omega

theorem Con.pass_whole {c : Con} {x y : Int} (hx : x % 16 = 0) : c.pass (x + y) = c.pass x + c.pass y := by
  unfold Con.pass
  have e1 : (x + y) / 16 = x / 16 + y / 16 := by omega
  have e2 : (x + y) % 16 = y % 16 := by omega
  rw [e1, e2, if_neg (by omega : ¬ x % 16 > 0), Int.add_mul]
  omega
/-- Two sums of rounded parts of one total differ by one at most. -/
theorem Con.ticks_two {c : Con} {a b p q : Int} (h : 1 ≤ c.rate) (hs : a + b ≤ p + q) : c.ticks a + c.ticks b ≤ c.ticks p + c.ticks q + 1 := by
  have h1 := Con.ticks_lb (c := c) (n := a) h
  have h2 := Con.ticks_lb (c := c) (n := b) h
  have h3 := Con.ticks_ub (c := c) (n := p) h
  have h4 := Con.ticks_ub (c := c) (n := q) h
  have h5 : (c.ticks a + c.ticks b - 2) * c.rate < (c.ticks p + c.ticks q) * c.rate := by
    have e1 : (c.ticks a + c.ticks b - 2) * c.rate = (c.ticks a - 1) * c.rate + (c.ticks b - 1) * c.rate := by rw [← Int.add_mul]; congr 1; omega
    rw [e1, Int.add_mul]
    omega
  have h6 := Int.lt_of_mul_lt_mul_right h5 (by omega : 0 ≤ c.rate)
  omega
theorem Con.ticks_sub {c : Con} {a p q : Int} (h : 1 ≤ c.rate) (hs : a ≤ p + q + 8) : c.ticks a ≤ c.ticks p + c.ticks q := by
  refine (Con.ticks_le h).2 ?_
  have h3 := Con.ticks_ub (c := c) (n := p) h
  have h4 := Con.ticks_ub (c := c) (n := q) h
  rw [Int.add_mul]
  omega
theorem Con.pass_two {c : Con} {x y : Int} (h : 1 ≤ c.rate) (hx : 1 ≤ x) (hy : 1 ≤ y) : c.pass (x + y) ≤ c.pass x + c.pass y + 1 := by
  by_cases hx0 : x % 16 = 0
  · rw [Con.pass_whole hx0]; omega
  · by_cases hy0 : y % 16 = 0
    · rw [Int.add_comm, Con.pass_whole hy0]; omega
    · unfold Con.pass
      rw [if_pos (by omega : x % 16 > 0), if_pos (by omega : y % 16 > 0)]
      rcases Int.lt_or_le (x % 16 + y % 16) 16 with hs | hs
      · have e1 : (x + y) / 16 = x / 16 + y / 16 := by omega
        have e2 : (x + y) % 16 = x % 16 + y % 16 := by omega
        rw [e1, e2, if_pos (by omega), Int.add_mul]
        have := Con.ticks_sub (c := c) (a := x % 16 + y % 16) (p := x % 16) (q := y % 16) h (by omega)
        omega
      · have e1 : (x + y) / 16 = x / 16 + y / 16 + 1 := by omega
        have e2 : (x + y) % 16 = x % 16 + y % 16 - 16 := by omega
        rw [e1, e2, Int.add_mul, Int.add_mul, Int.one_mul]
        split
        · have := Con.ticks_two (c := c) (a := 16) (b := x % 16 + y % 16 - 16) (p := x % 16) (q := y % 16) h (by omega)
          omega
        · have := Con.ticks_sub (c := c) (a := 16) (p := x % 16) (q := y % 16) h (by omega)
          omega
theorem Con.dur_two {c : Con} {x y : Int} (h : c.Ok) (hx : 1 ≤ x) (hy : 1 ≤ y) : c.dur (x + y) ≤ c.dur x + c.dur y + 1 := by
  have p := Con.pass_two (c := c) h.rate0 hx hy
  have e := Con.extra_bd h.rate0 h.rng0 h.rng1 h.loss0 h.loss1
  unfold Con.dur
  omega
theorem Con.dur_whole {c : Con} {x y : Int} (h : c.Ok) (hx : x % 16 = 0) : c.dur (x + y) ≤ c.dur x + c.dur y := by
  have p := Con.pass_whole (c := c) (y := y) hx
  have e := Con.extra_bd h.rate0 h.rng0 h.rng1 h.loss0 h.loss1
  unfold Con.dur
  omega
theorem Con.dur_lossless {c : Con} {x y : Int} (hl : c.loss = 0) (hx : x % 16 = 0) : c.dur (x + y) = c.dur x + c.dur y := by
  have p := Con.pass_whole (c := c) (y := y) hx
  unfold Con.dur
  rw [hl, Int.zero_mul]
  omega

theorem Con.fits_start {c : Con} {n : Int} (h : c.Ok) : c.fitsR c.st n = (decide (1 ≤ n ∧ n ≤ 65536 ∧ c.dur n ≤ c.en - c.st)) := by
  rw [Bool.eq_iff_iff]
  simp only [Con.fitsR, Con.fitsB, Bool.and_eq_true, decide_eq_true_eq, Con.arg_ok]
  constructor
  · rintro ⟨⟨_, h1⟩, h2⟩; omega
  · intro h1; exact ⟨⟨h, h1.1, h1.2.1⟩, by omega⟩
theorem Con.vol_fits {c : Con} (h : c.Ok) (n : Int) (hn : 1 ≤ n ∧ n ≤ 65536) : c.fitsR c.st n = decide (n ≤ c.volume) := by
  have hv := Con.volume_is c
  have h0 := hv.lo
  have h1 := hv.hi
  rw [Con.fits_start h, Bool.eq_iff_iff]
  simp only [decide_eq_true_eq]
  constructor
  · intro g
    rcases Int.lt_or_le c.volume n with hlt | hge
    · rcases hv.most with e | e
      · omega
      · have := Con.dur_mono (c := c) (a := c.volume + 1) (b := n) h.rate0 (by omega) (by omega)
        omega
    · exact hge
  · intro g
    rcases hv.fits with e | e
    · omega
    · have := Con.dur_mono (c := c) (a := n) (b := c.volume) h.rate0 (by omega) g
      omega

end Go.Proofs.Ytkahnfjdngiebaa

/- Layer 21 (contact): what the program's functions and the reference's compute, as plain functions of seven integers, and their bounds. -/
import Derived.Test.YtmaengcmhopmbaaGreatBase
namespace Go.Proofs.YtmaengcmhopmbaaGreat
set_option linter.unusedVariables false
open Go.RowKit

def inB (n lo hi : Int) : Bool := decide (lo ≤ n ∧ n ≤ hi)

structure Con where
  src : Int
  dst : Int
  st : Int
  en : Int
  rate : Int
  rng : Int
  loss : Int

def Con.cells (c : Con) : Array Value := #[.int .i64 c.src, .int .i64 c.dst, .int .i64 c.st, .int .i64 c.en, .int .i64 c.rate, .int .i64 c.rng, .int .i64 c.loss]
def Con.val (c : Con) : Value := .agg #[.int .i64 c.src, .int .i64 c.dst, .int .i64 c.st, .int .i64 c.en, .int .i64 c.rate, .int .i64 c.rng, .int .i64 c.loss]

def Con.inr (c : Con) : Bool := inB c.src 0 15 && inB c.dst 0 15 && inB c.rate 1 1000 && inB c.rng 1 1048576 && inB c.loss 0 16
def Con.tim (c : Con) : Bool := decide (0 ≤ c.st ∧ c.st < c.en ∧ c.en ≤ 1099511627776 - 2 * c.rng)
/-- api.Errno of contact.Check: 0 OK, 1 ErrArgument, 2 ErrRange. -/
def Con.check (c : Con) : Int := if c.inr = false then 2 else if c.src = c.dst then 1 else if c.tim = false then 2 else 0

structure Con.Ok (c : Con) : Prop where
  src0 : 0 ≤ c.src
  src1 : c.src ≤ 15
  dst0 : 0 ≤ c.dst
  dst1 : c.dst ≤ 15
  rate0 : 1 ≤ c.rate
  rate1 : c.rate ≤ 1000
  rng0 : 1 ≤ c.rng
  rng1 : c.rng ≤ 1048576
  loss0 : 0 ≤ c.loss
  loss1 : c.loss ≤ 16
  ne : c.src ≠ c.dst
  st0 : 0 ≤ c.st
  st1 : c.st < c.en
  en1 : c.en ≤ 1099511627776 - 2 * c.rng

theorem Con.check_iff (c : Con) : c.check = 0 ↔ c.Ok := by
  unfold Con.check
  constructor
  · intro h
    split at h
    · omega
    · rename_i h1
      split at h
      · omega
      · rename_i h2
        split at h
        · omega
        · rename_i h3
          simp only [Bool.not_eq_false] at h1 h3
          simp only [Con.inr, Con.tim, inB, Bool.and_eq_true, decide_eq_true_eq] at h1 h3
          exact ⟨h1.1.1.1.1.1, h1.1.1.1.1.2, h1.1.1.1.2.1, h1.1.1.1.2.2, h1.1.1.2.1, h1.1.1.2.2, h1.1.2.1, h1.1.2.2, h1.2.1, h1.2.2, h2, h3.1, h3.2.1, h3.2.2⟩
  · rintro ⟨h1, h2, h3, h4, h5, h6, h7, h8, h9, h10, h11, h12, h13, h14⟩
    have e1 : c.inr = true := by simp only [Con.inr, inB, Bool.and_eq_true, decide_eq_true_eq]; omega
    have e2 : c.tim = true := by simp only [Con.tim, decide_eq_true_eq]; omega
    simp [e1, e2, h11]

def Con.ticks (c : Con) (n : Int) : Int := (n + 8 + c.rate - 1) / c.rate
def Con.pass (c : Con) (size : Int) : Int := size / 16 * c.ticks 16 + if size % 16 > 0 then c.ticks (size % 16) else 0
def Con.dur (c : Con) (size : Int) : Int := c.pass size + c.loss * (2 * c.rng + 1 + c.ticks 16)

theorem Con.ticks_bd {c : Con} {n : Int} (h : 1 ≤ c.rate) (hn : 0 ≤ n) : 1 ≤ c.ticks n ∧ c.ticks n ≤ n + 8 := by
  unfold Con.ticks
  constructor
  · exact (Int.le_ediv_iff_mul_le (by omega)).2 (by omega)
  · have h1 : n + 8 + c.rate - 1 ≤ (n + 8) * c.rate := by
      have h2 : (n + 8 - 1) * 1 ≤ (n + 8 - 1) * c.rate := Int.mul_le_mul_of_nonneg_left h (by omega)
      have h3 : (n + 8 - 1) * c.rate = (n + 8) * c.rate - c.rate := by rw [Int.sub_mul, Int.one_mul]
      omega
    exact Int.le_of_lt_add_one (Int.ediv_lt_of_lt_mul (by omega) (by rw [Int.add_mul]; omega))

theorem Con.pass_bd {c : Con} {n : Int} (h : 1 ≤ c.rate) (hn : 1 ≤ n) (hn2 : n ≤ 65536) : 1 ≤ c.pass n ∧ c.pass n ≤ 100000 := by
  unfold Con.pass
  have t := Con.ticks_bd (c := c) (n := 16) h (by omega)
  have q0 : 0 ≤ n / 16 := by omega
  have q1 : n / 16 ≤ 4096 := by omega
  have m := mul_le_of q0 q1 (by omega : 0 ≤ c.ticks 16) (by omega : c.ticks 16 ≤ 24)
  split
  · have t2 := Con.ticks_bd (c := c) (n := n % 16) h (by omega)
    omega
  · have q2 : 1 ≤ n / 16 := by omega
    have m2 : 1 * 1 ≤ n / 16 * c.ticks 16 := Int.mul_le_mul q2 t.1 (by omega) (by omega)
    omega

theorem Con.extra_bd {c : Con} (h1 : 1 ≤ c.rate) (h7 : 1 ≤ c.rng) (h8 : c.rng ≤ 1048576) (h9 : 0 ≤ c.loss) (h10 : c.loss ≤ 16) :
    0 ≤ c.loss * (2 * c.rng + 1 + c.ticks 16) ∧ c.loss * (2 * c.rng + 1 + c.ticks 16) ≤ 40000000 := by
  have t := Con.ticks_bd (c := c) (n := 16) h1 (by omega)
  have m := mul_le_of h9 h10 (by omega : 0 ≤ 2 * c.rng + 1 + c.ticks 16) (by omega : 2 * c.rng + 1 + c.ticks 16 ≤ 2097200)
  omega

theorem Con.dur_bd {c : Con} {n : Int} (h : c.Ok) (hn : 1 ≤ n) (hn2 : n ≤ 65536) : 1 ≤ c.dur n ∧ c.dur n ≤ 41000000 := by
  unfold Con.dur
  have p := Con.pass_bd (c := c) h.rate0 hn hn2
  have e := Con.extra_bd h.rate0 h.rng0 h.rng1 h.loss0 h.loss1
  omega

/-- why a contact or a size is not valid -/
def Con.arg (c : Con) (size : Int) : Int := if c.check = 0 then (if inB size 1 65536 then 0 else 2) else 1
theorem Con.arg_ok {c : Con} {size : Int} : c.arg size = 0 ↔ c.Ok ∧ 1 ≤ size ∧ size ≤ 65536 := by
  unfold Con.arg
  rw [← Con.check_iff]
  by_cases h : c.check = 0
  · simp only [h, inB, if_true]
    by_cases h2 : 1 ≤ size ∧ size ≤ 65536 <;> simp [h2]
  · simp [h]
def Con.fitsB (c : Con) (b size : Int) : Bool := decide (c.st ≤ b ∧ b ≤ c.en - c.dur size)
/-- The errno of Begin, and of Arrival and Known at a begin; the times that they return. -/
def Con.atE (c : Con) (b n : Int) : Int := if c.arg n = 0 then (if c.fitsB b n then 0 else 16) else c.arg n
def Con.beg (c : Con) (t : Int) : Int := if t < c.st then c.st else t
def Con.beginT (c : Con) (t n : Int) : Int := if c.atE (c.beg t) n = 0 then c.beg t else 0
def Con.beginE (c : Con) (t n : Int) : Int := c.atE (c.beg t) n
def Con.aftT (c : Con) (b n k : Int) : Int := if c.atE b n = 0 then b + c.dur n + k * c.rng else 0
def Con.arrT (c : Con) (b n : Int) : Int := c.aftT b n 1
def Con.knownT (c : Con) (b n : Int) : Int := c.aftT b n 2
def Con.passR (c : Con) (n : Int) : Int := if c.arg n = 0 then c.pass n else 0
def Con.durR (c : Con) (n : Int) : Int := if c.arg n = 0 then c.dur n else 0
def Con.fitsR (c : Con) (b n : Int) : Bool := decide (c.arg n = 0) && c.fitsB b n
def Con.overlapB (a b : Con) : Bool := decide (a.check = 0) && decide (b.check = 0) && decide (a.src = b.src) && decide (a.dst = b.dst) && decide (max a.st b.st < min a.en b.en)
theorem Con.at_ok {c : Con} {b n : Int} : c.atE b n = 0 ↔ c.Ok ∧ (1 ≤ n ∧ n ≤ 65536) ∧ c.st ≤ b ∧ b ≤ c.en - c.dur n := by
  unfold Con.atE
  by_cases h : c.arg n = 0
  · have h2 := Con.arg_ok.1 h
    rw [if_pos h]
    cases hf : c.fitsB b n
    · have h3 : ¬ (c.st ≤ b ∧ b ≤ c.en - c.dur n) := by simpa [Con.fitsB] using hf
      simp
      intro _ _ _
      omega
    · have h3 : c.st ≤ b ∧ b ≤ c.en - c.dur n := by simpa [Con.fitsB] using hf
      simp [h2, h3]
  · rw [if_neg h]
    have h2 := mt Con.arg_ok.2 h
    constructor
    · intro e; exact absurd e h
    · rintro ⟨a, b, _⟩; exact absurd ⟨a, b⟩ h2
theorem Con.ticks_mono {c : Con} {a b : Int} (h : 1 ≤ c.rate) (hab : a ≤ b) : c.ticks a ≤ c.ticks b := by
  unfold Con.ticks
  exact Int.ediv_le_ediv (by omega) (by omega)
theorem Con.pass_succ {c : Con} {n : Int} (h : 1 ≤ c.rate) (hn : 0 ≤ n) : c.pass n ≤ c.pass (n + 1) := by
  unfold Con.pass
  have t0 := Con.ticks_bd (c := c) (n := (n + 1) % 16) h (by omega)
  have t1 := Con.ticks_mono (c := c) (a := n % 16) (b := (n + 1) % 16) h
  have t2 := Con.ticks_mono (c := c) (a := n % 16) (b := 16) h (by omega)
  by_cases e : n % 16 = 15
  · have e1 : (n + 1) % 16 = 0 := by omega
    have e2 : (n + 1) / 16 = n / 16 + 1 := by omega
    rw [e1, e2, if_pos (by omega), if_neg (by omega), Int.add_mul, Int.one_mul]
    omega
  · have e2 : (n + 1) / 16 = n / 16 := by omega
    have t3 := t1 (by omega)
    rw [e2, if_pos (by omega : (n + 1) % 16 > 0)]
    split <;> omega
theorem Con.pass_mono {c : Con} {a b : Int} (h : 1 ≤ c.rate) (ha : 0 ≤ a) (hab : a ≤ b) : c.pass a ≤ c.pass b := by
  obtain ⟨k, rfl⟩ : ∃ k : Nat, b = a + k := ⟨(b - a).toNat, by omega⟩
  clear hab
  induction k with
  | zero => simp
  | succ k ih =>
    have := Con.pass_succ (c := c) (n := a + k) h (by omega)
    have e : a + ((k + 1 : Nat) : Int) = a + k + 1 := by omega
    rw [e]
    omega
theorem Con.dur_mono {c : Con} {a b : Int} (h : 1 ≤ c.rate) (ha : 0 ≤ a) (hab : a ≤ b) : c.dur a ≤ c.dur b := by
  have := Con.pass_mono (c := c) h ha hab
  unfold Con.dur
  omega

/-- The greatest size that fits (0: none), found by halving; 'n' rounds. -/
def Con.vol (c : Con) : Nat → Int → Int → Int
  | 0, low, _ => low
  | n + 1, low, high => if low < high then (if c.dur ((low + high + 1) / 2) ≤ c.en - c.st then Con.vol c n ((low + high + 1) / 2) high else Con.vol c n low ((low + high + 1) / 2 - 1)) else low
def Con.volume (c : Con) : Int := c.vol 17 0 65536
structure Con.IsVol (c : Con) (v : Int) : Prop where
  lo : 0 ≤ v
  hi : v ≤ 65536
  fits : v = 0 ∨ c.dur v ≤ c.en - c.st
  most : v = 65536 ∨ c.en - c.st < c.dur (v + 1)
theorem Con.vol_is (c : Con) : ∀ (n : Nat) (low high : Int), 0 ≤ low → low ≤ high → high ≤ 65536 → high - low < 2 ^ n → (low = 0 ∨ c.dur low ≤ c.en - c.st) → (high = 65536 ∨ c.en - c.st < c.dur (high + 1)) → c.IsVol (c.vol n low high)
  | 0, low, high, h0, h1, h2, h3, h4, h5 => by
    have e : high = low := by omega
    subst e
    exact ⟨h0, h2, h4, h5⟩
  | n + 1, low, high, h0, h1, h2, h3, h4, h5 => by
    unfold Con.vol
    have hp : (2 : Int) ^ (n + 1) = 2 ^ n * 2 := by rw [Int.pow_succ]
    split
    · split
      · rename_i hd
        exact Con.vol_is c n _ _ (by omega) (by omega) h2 (by omega) (.inr hd) h5
      · rename_i hd
        exact Con.vol_is c n _ _ h0 (by omega) (by omega) (by omega) h4 (.inr (by rw [show (low + high + 1) / 2 - 1 + 1 = (low + high + 1) / 2 by omega]; omega))
    · have e : high = low := by omega
      subst e
      exact ⟨h0, h2, h4, h5⟩
theorem Con.volume_is (c : Con) : c.IsVol c.volume := Con.vol_is c 17 0 65536 (by omega) (by omega) (by omega) (by decide) (.inl rfl) (.inl rfl)
theorem Con.vol_unique {c : Con} (h : 1 ≤ c.rate) {v u : Int} (hv : c.IsVol v) (hu : c.IsVol u) : v = u := by
  have key : ∀ {v u : Int}, c.IsVol v → c.IsVol u → ¬ v < u := by
    intro v u hv hu hlt
    have h1 := hv.lo
    have h2 := hu.hi
    rcases hv.most with e | e
    · omega
    · rcases hu.fits with e2 | e2
      · omega
      · have := Con.dur_mono (c := c) (a := v + 1) (b := u) h (by omega) (by omega)
        omega
  have a := key hv hu
  have b := key hu hv
  omega
def Con.volT (c : Con) : Int := if c.check = 0 then c.volume else 0
def Con.volE (c : Con) : Int := if c.check = 0 then (if c.volume = 0 then 15 else 0) else 1

end Go.Proofs.YtmaengcmhopmbaaGreat

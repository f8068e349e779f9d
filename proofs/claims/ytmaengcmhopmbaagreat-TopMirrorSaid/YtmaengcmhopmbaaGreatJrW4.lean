
/- Layer 24 (journey): the walk of the frontier's next. -/
import Derived.Test.YtmaengcmhopmbaaGreatJrWA
namespace Go.Proofs.YtmaengcmhopmbaaGreat
set_option linter.unusedVariables false
open Go.RowKit Go.Shelf

def EBool : Elt Bool := ⟨fun x => [.bool x], 1, fun _ => rfl, by omega, fun x u hu => by simp at hu; subst hu; rfl⟩
theorem Owns.gb {w : World} {base : Nat} {e : TypeId} {g n c : Nat} {m : List Bool} (h : Owns EBool w base e (.slice (some ⟨g, 0, none⟩) n c) m) {i : Int} (hi : i.toNat < m.length) :
    w.cell? ⟨g, i.toNat, none⟩ = some (.bool (gb m i)) := by
  obtain ⟨cur, hb, _, _, hc⟩ := h.there_
  have h1 := hc i.toNat hi 0 (by decide)
  have e1 : i.toNat * EBool.size + 0 = i.toNat := by show i.toNat * 1 + 0 = _; omega
  rw [e1] at h1
  rw [hb.cell, h1]
  simp [EBool, Go.Proofs.YtmaengcmhopmbaaGreat.gb, hi]
theorem Owns.freeb {w : World} {base : Nat} {e : TypeId} {g n c : Nat} {m : List Bool} (h : Owns EBool w base e (.slice (some ⟨g, 0, none⟩) n c) m) : g < w.heap.size ∧ ∀ i, w.frozen? ⟨g, i, none⟩ = false := by
  obtain ⟨cur, hb, _, _, hc⟩ := h.there_
  exact ⟨hb.lt, hb.frozen⟩
theorem Owns.setb {w : World} {base : Nat} {e : TypeId} {g n c : Nat} {m : List Bool} (h : Owns EBool w base e (.slice (some ⟨g, 0, none⟩) n c) m) {k : Nat} (hk : k < m.length) (y : Bool) :
    Owns EBool (w.setCell ⟨g, k, none⟩ (.bool y)) base e (.slice (some ⟨g, 0, none⟩) n c) (m.set k y) := by
  have h1 := h.set_ hk y
  have e1 : k * EBool.size = k := Nat.mul_one k
  rw [e1] at h1
  exact h1

/-- The node with the least time that was not left, among the first k. -/
def IsNext (m : List Int) (lf : List Bool) (k : Nat) (r : Int) : Prop :=
  (r = -1 ∧ ∀ i : Int, 0 ≤ i → i < k → gb lf i = false → 0 ≤ gi m i → False) ∨
  (0 ≤ r ∧ r < k ∧ gb lf r = false ∧ 0 ≤ gi m r ∧ ∀ i : Int, 0 ≤ i → i < k → gb lf i = false → 0 ≤ gi m i → gi m r ≤ gi m i)
theorem IsNext.zero (m : List Int) (lf : List Bool) : IsNext m lf 0 (-1) := .inl ⟨rfl, fun i h0 h1 => by omega⟩
theorem IsNext.skip {m : List Int} {lf : List Bool} {k : Nat} {r : Int} (h : IsNext m lf k r) (hs : gi m (k : Int) < 0 ∨ gb lf (k : Int) = true) : IsNext m lf (k + 1) r := by
  have key : ∀ i : Int, 0 ≤ i → i < ((k + 1 : Nat) : Int) → gb lf i = false → 0 ≤ gi m i → i < k := fun i h0 h1 h2 h3 => by
    apply Classical.byContradiction
    intro hh
    have e : i = k := by omega
    subst e
    rcases hs with hs | hs
    · omega
    · rw [hs] at h2; cases h2
  rcases h with ⟨h1, h2⟩ | ⟨h1, h2, h3, h4, h5⟩
  · exact .inl ⟨h1, fun i a b c d => h2 i a (key i a b c d) c d⟩
  · exact .inr ⟨h1, by omega, h3, h4, fun i a b c d => h5 i a (key i a b c d) c d⟩
theorem IsNext.keep {m : List Int} {lf : List Bool} {k : Nat} {r : Int} (h : IsNext m lf k r) (hr : 0 ≤ r) (hs : gi m r ≤ gi m (k : Int)) : IsNext m lf (k + 1) r := by
  rcases h with ⟨h1, h2⟩ | ⟨h1, h2, h3, h4, h5⟩
  · omega
  · refine .inr ⟨h1, by omega, h3, h4, fun i a b c d => ?_⟩
    by_cases e : i = k
    · rw [e]; exact hs
    · exact h5 i a (by omega) c d
theorem IsNext.take {m : List Int} {lf : List Bool} {k : Nat} {r : Int} (h : IsNext m lf k r) (h0 : 0 ≤ gi m (k : Int)) (hl : gb lf (k : Int) = false) (hs : r < 0 ∨ gi m (k : Int) < gi m r) : IsNext m lf (k + 1) (k : Int) := by
  refine .inr ⟨by omega, by omega, hl, h0, fun i a b c d => ?_⟩
  by_cases e : i = k
  · rw [e]; exact Int.le_refl _
  · rcases h with ⟨h1, h2⟩ | ⟨h1, h2, h3, h4, h5⟩
    · exact (h2 i a (by omega) c d).elim
    · have := h5 i a (by omega) c d; omega
theorem IsNext.rng {m : List Int} {lf : List Bool} {k : Nat} {r : Int} (h : IsNext m lf k r) : -1 ≤ r ∧ r < k := by
  rcases h with ⟨h1, h2⟩ | ⟨h1, h2, h3, h4, h5⟩ <;> omega

def NextP (m : List Int) (lf : List Bool) (N g2 : Nat) (w : World) (e : Ending) (w' : World) : Prop :=
  ∃ r : Int, e = .returned (.int .i64 r) ∧ IsNext m lf N r ∧ ((r = -1 ∧ w' = w) ∨ (0 ≤ r ∧ w' = w.setCell ⟨g2, r.toNat, none⟩ (.bool true)))

set_option maxRecDepth 100000 in
set_option maxHeartbeats 4000000 in
theorem next_any (F g1 g2 c1 c2 base N : Nat) (m : List Int) (lf : List Bool) (w : World) (hF : Blk w F 102 #[.slice (some ⟨g1, 0, none⟩) N c1, .slice (some ⟨g2, 0, none⟩) N c2])
    (hm : Owns EInt w base 3 (.slice (some ⟨g1, 0, none⟩) N c1) m) (hl : Owns EBool w base 4 (.slice (some ⟨g2, 0, none⟩) N c2) lf) (hN : N ≤ 16) :
    Calls Tryz.prog 42 #[.pointer (some ⟨F, 0, none⟩)] w (NextP m lf N g2 w) := by
  have hc := hF.cell
  have hlm := hm.len
  have hll := hl.len
  have Hlm := Lib.hid hlm
  have Hll := Lib.hid hll
  obtain ⟨hgl, hfz⟩ := hl.freeb
  clear hlm hll
  go_enter Tryz.func42, Tryz.ntmps42
  go_wp2
  go_loop [3, 11] (fun r i => ∃ k : Nat, ∃ b : Int, k ≤ N ∧ i = .int .i64 k ∧ r = .int .i64 b ∧ IsNext m lf k b) (fun _ i => N - (intOf i).toNat)
  case atStart => exact ⟨0, -1, Nat.zero_le _, rfl, rfl, IsNext.zero _ _⟩
  case round =>
    obtain ⟨k, b, hk, rfl, rfl, hx⟩ := hrel
    have Hx := Lib.hid hx
    obtain ⟨b1, b2⟩ := hx.rng
    clear hx
    by_cases hlt : k < N
    · have hck := hm.gi (i := (k : Int)) (by have := Hlm.out; omega)
      have hcl := hl.gb (i := (k : Int)) (by have := Hll.out; omega)
      rw [Int.toNat_natCast] at hck hcl
      by_cases h0 : 0 ≤ gi m (k : Int)
      · cases hlk : gb lf (k : Int)
        · rw [hlk] at hcl
          by_cases hb0 : b < 0
          · have hd1 : decide (b < 0) = true := by simpa using hb0
            go_wp2
            go_round
            case rel => exact ⟨k + 1, (k : Int), by omega, by go_num, rfl, Hx.out.take h0 hlk (.inl hb0)⟩
            case measure => simp [intOf]; omega
          · have hd1 : decide (b < 0) = false := by simpa using hb0
            have hb0' : 0 ≤ b := by omega
            have hcb := hm.gi (i := b) (by have := Hlm.out; omega)
            by_cases hbt : gi m (k : Int) < gi m b
            · have hd2 : decide (gi m (k : Int) < gi m b) = true := by simpa using hbt
              go_wp2
              go_round
              case rel => exact ⟨k + 1, (k : Int), by omega, by go_num, rfl, Hx.out.take h0 hlk (.inr hbt)⟩
              case measure => simp [intOf]; omega
            · have hd2 : decide (gi m (k : Int) < gi m b) = false := by simpa using hbt
              go_wp2
              go_round
              case rel => exact ⟨k + 1, b, by omega, by go_num, rfl, Hx.out.keep hb0' (by omega)⟩
              case measure => simp [intOf]; omega
        · rw [hlk] at hcl
          go_wp2
          go_round
          case rel => exact ⟨k + 1, b, by omega, by go_num, rfl, Hx.out.skip (.inr hlk)⟩
          case measure => simp [intOf]; omega
      · have hd0 : decide (0 ≤ gi m (k : Int)) = false := by simpa using h0
        go_wp2
        go_round
        case rel => exact ⟨k + 1, b, by omega, by go_num, rfl, Hx.out.skip (.inl (by omega))⟩
        case measure => simp [intOf]; omega
    · have he : k = N := by omega
      subst he
      by_cases hb0 : 0 ≤ b
      · have hcb := hl.gb (i := b) (by have := Hll.out; omega)
        go_wp2
        go_ret
        exact ⟨b, rfl, Hx.out, .inr ⟨hb0, rfl⟩⟩
      · have hd0 : decide (0 ≤ b) = false := by simpa using hb0
        have e : b = -1 := by omega
        subst e
        go_wp2
        go_ret
        exact ⟨-1, rfl, Hx.out, .inl ⟨rfl, rfl⟩⟩

end Go.Proofs.YtmaengcmhopmbaaGreat

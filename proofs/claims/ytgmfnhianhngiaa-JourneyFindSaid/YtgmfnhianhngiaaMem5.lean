/- Lists of integers of the call's own: reading and writing one; what stays when one block is written. -/
import Derived.Test.YtgmfnhianhngiaaMemI
import Derived.Maps.AppendAt
import Derived.Laws.MakeOwn
namespace Go.Proofs.Ytgmfnhianhngiaa
set_option linter.unusedVariables false
open Go.RowKit

/-- An element of a list of numbers. -/
def gi (m : List Int) (i : Int) : Int := m.getD i.toNat 0
theorem gi_get {m : List Int} {k : Nat} (h : k < m.length) : gi m (k : Int) = m[k] := by simp [gi, h]
theorem gi_of {m : List Int} {i : Int} (h0 : 0 ≤ i) (h : i.toNat < m.length) : gi m i = m[i.toNat] := by simp [gi, h]
theorem gi_mem {m : List Int} {i : Int} (h : i.toNat < m.length) : gi m i ∈ m := by simp [gi, h]
theorem gi_set {m : List Int} {i j v : Int} (hi : i.toNat < m.length) : gi (m.set i.toNat v) j = if j.toNat = i.toNat then v else gi m j := by
  unfold gi
  simp only [List.getD_eq_getElem?_getD]
  by_cases h : j.toNat = i.toNat
  · rw [if_pos h, h, List.getElem?_set_self hi]; rfl
  · rw [if_neg h, List.getElem?_set_ne (by omega)]

theorem Owns.gi {w : World} {base : Nat} {e : TypeId} {g n c : Nat} {m : List Int} (h : Owns EInt w base e (.slice (some ⟨g, 0, none⟩) n c) m) {i : Int} (hi : i.toNat < m.length) :
    w.cell? ⟨g, i.toNat, none⟩ = some (.int .i64 (gi m i)) := by
  obtain ⟨cur, hb, _, _, hc⟩ := h.there_
  have h1 := hc i.toNat hi 0 (by decide)
  have e1 : i.toNat * EInt.size + 0 = i.toNat := by show i.toNat * 1 + 0 = _; omega
  rw [e1] at h1
  rw [hb.cell, h1]
  simp [EInt, Go.Proofs.Ytgmfnhianhngiaa.gi, hi]
theorem Owns.free {w : World} {base : Nat} {e : TypeId} {g n c : Nat} {m : List Int} (h : Owns EInt w base e (.slice (some ⟨g, 0, none⟩) n c) m) : g < w.heap.size ∧ ∀ i, w.frozen? ⟨g, i, none⟩ = false := by
  obtain ⟨cur, hb, _, _, hc⟩ := h.there_
  exact ⟨hb.lt, hb.frozen⟩
theorem Owns.seti {w : World} {base : Nat} {e : TypeId} {g n c : Nat} {m : List Int} (h : Owns EInt w base e (.slice (some ⟨g, 0, none⟩) n c) m) {k : Nat} (hk : k < m.length) (y : Int) :
    Owns EInt (w.setCell ⟨g, k, none⟩ (.int .i64 y)) base e (.slice (some ⟨g, 0, none⟩) n c) (m.set k y) := by
  have h1 := h.set_ hk y
  have e1 : k * EInt.size = k := Nat.mul_one k
  rw [e1] at h1
  exact h1
theorem grown_setCell {a w : World} {g : Nat} (h : a.grownBy w (some g)) (o : Nat) (u : Value) : a.grownBy (w.setCell ⟨g, o, none⟩ u) (some g) := grown_setCells [u] h o
theorem grown_ext {a w w' : World} {row : Option Nat} (h : a.grownBy w row) (hb : Ext w w') : a.grownBy w' row :=
  ⟨hb.os.trans h.os, hb.tape.trans h.tape, hb.output.trans h.output, Nat.le_trans h.size hb.size, fun i hi hn => (hb.block i (Nat.lt_of_lt_of_le hi h.size)).trans (h.block i hi hn)⟩
theorem ext_of_grown {w0 a w : World} {g : Nat} (h0 : Ext w0 a) (h : a.grownBy w (some g)) (hg : w0.heap.size ≤ g) : Ext w0 w :=
  Below.grown h0 h h0.size (fun k hk => by injection hk with hk; omega)
theorem Blk.keptg {a w : World} {g b : Nat} {t : TypeId} {cs : Array Value} (h : Blk a b t cs) (hg : a.grownBy w (some g)) (hne : b ≠ g) : Blk w b t cs :=
  Blk.kept h hg (fun e => hne (by injection e))
theorem Owns.madeInts (w : World) (base : Nat) (e : TypeId) (n : Nat) (hb : base ≤ w.heap.size) (hm : n ≤ maxLen) (cur : Array Value) (hc : cur = Array.replicate n (.int .i64 0)) :
    Owns EInt (w.alloc (.cells cur e)) base e (.slice (some ⟨w.heap.size, 0, none⟩) n n) (List.replicate n 0) := by
  subst hc
  refine ⟨by rw [EInt.all_len], .inr ⟨w.heap.size, n, _, by simp, hb, heap_alloc_new w _, by simp, hm, by simp [EInt], ?_⟩⟩
  have e1 : EInt.all (List.replicate n (0 : Int)) = List.replicate n (.int .i64 0) := by
    unfold Elt.all EInt
    induction n with
    | zero => rfl
    | succ k ih => simp [List.replicate_succ, ih (by omega)]
  rw [e1]
  simp [EInt]

theorem Rd.gi {w : World} {b o : Nat} {l : List Int} (h : Rd EInt w (some ⟨b, o, none⟩) l) {i : Int} (hi : i.toNat < l.length) : w.cell? ⟨b, o + i.toNat, none⟩ = some (.int .i64 (gi l i)) ∧ b < w.heap.size := by
  obtain ⟨b', o', e', hb', hc⟩ := h.int hi
  injection e' with e'
  injection e' with e1 e2 _
  subst e1 e2
  refine ⟨?_, hb'⟩
  rw [hc]
  simp [Go.Proofs.Ytgmfnhianhngiaa.gi, hi]
theorem Owns.cap {α : Type} {E : Elt α} {w : World} {base : Nat} {e : TypeId} {A : Option Addr} {n c : Nat} {m : List α} (h : Owns E w base e (.slice A n c) m) : m.length ≤ c := by
  rcases h.2 with ⟨h1, h2⟩ | ⟨g', cap, cur, h1, hg, hh, hnc, _⟩
  · omega
  · injection h1 with _ _ h4
    omega
theorem madeCells_one (z : Value) (n : Nat) : madeCells #[z] n = Array.replicate n z := by
  apply Array.ext
  · simp [madeCells]
  · intro i h1 h2
    simp [madeCells, Nat.mod_one]
theorem run_make1 {P : Program} {t e : TypeId} {i : TypeInfo} {z : Value} (ht : P.underlying t = some (.slice e)) (hi : P.info? e = some i) (hz : i.zero = some z) (hsz : i.size = 1) (hby : i.bytes ≤ 64) (hzc : z.cells = #[z]) {n : Nat} (hn : n ≤ 1000000) (w : World) :
    (Instr.makeSlice t (.int .i64 (n : Int)) (.int .i64 (n : Int))).run P w = .ok (.slice (some ⟨w.heap.size, 0, none⟩) n n) (w.alloc (.cells (Array.replicate n z) e)) := by
  have hb : (i.bytes : Int) * (n : Int) ≤ 281474976710656 := by
    have h1 : i.bytes * n ≤ 64 * 1000000 := Nat.mul_le_mul hby hn
    have h2 : ((i.bytes * n : Nat) : Int) ≤ 281474976710656 := by omega
    rwa [Int.natCast_mul] at h2
  have hr := run_make (P := P) w t e i z ht hi hz .i64 .i64 n n (by omega) (by omega) hb (by omega)
  rw [hzc, hsz] at hr
  simp only [Int.toNat_natCast, Nat.mul_one, madeCells_one] at hr
  exact hr
theorem fill_step (n j : Nat) (a b : Int) (h : j < n) : (List.replicate j a ++ List.replicate (n - j) b).set j a = List.replicate (j + 1) a ++ List.replicate (n - (j + 1)) b := by
  rw [List.set_append_right _ _ (by simp)]
  simp only [List.length_replicate, Nat.sub_self]
  obtain ⟨d, hd⟩ : ∃ d, n - j = d + 1 := ⟨n - j - 1, by omega⟩
  rw [hd, show n - (j + 1) = d by omega, List.replicate_succ, List.set_cons_zero, List.replicate_succ', List.append_assoc]
  rfl

end Go.Proofs.Ytgmfnhianhngiaa

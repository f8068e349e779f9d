/- Lists in memory: append of a whole list to a list of the call's own. -/
import Derived.Test.YtgmfnhianhngiaaMem2
import Derived.ChangeKeysEq
namespace Go.Proofs.Ytgmfnhianhngiaa
set_option linter.unusedVariables false
open Go.RowKit

section
variable {α : Type} {E : Elt α} {w w' : World} {A : Option Addr} {l m : List α} {P : Program}
theorem Owns.rd {base : Nat} {e : TypeId} {n c : Nat} (h : Owns E w base e (.slice A n c) l) : Rd E w A l := by
  obtain ⟨A2, c2, h2, hr⟩ := h.form
  injection h2 with h3 h4 h5
  rw [h3]; exact hr
theorem Owns.len {base : Nat} {e : TypeId} {n c : Nat} (h : Owns E w base e (.slice A n c) l) : n = l.length := by
  obtain ⟨A2, c2, h2, hr⟩ := h.form
  injection h2

theorem rd_blk {g : Nat} {e : TypeId} (h : Blk w g e (E.all l).toArray) : Rd E w (some ⟨g, 0, none⟩) l :=
  ⟨E.all_len l, fun _ => ⟨_, rfl, h.lt, fun j u hu => by
    rw [Addr.add_lit, Nat.zero_add, h.cell]
    simpa using hu⟩⟩
theorem Owns.made (w : World) (base : Nat) (e : TypeId) (hb : base ≤ w.heap.size) : Owns E (w.alloc (.cells #[] e)) base e (.slice (some ⟨w.heap.size, 0, none⟩) 0 0) [] :=
  World.ownsRow_made w #[] 0 hb (by unfold maxLen; omega) (by simp)

theorem step_push {ops : Array Oper} {o : Oper} {a : Act} {K : Act → World → Prop} {Q : Exit → Act → World → Prop} {Z : Prop} (hgd : o.guard = none) (s x : Operand) (t : TypeId)
    (ho : o.op = .call { callee := .builtin .append, args := #[s, x], argTypes := #[t, t] })
    (base : Nat) (e : TypeId) (i : TypeInfo) (z : Value) (bytes : Nat) (ht : P.underlying t = some (.slice e)) (hi : P.info? e = some i) (hz : i.zero = some z)
    (hsize : i.size = E.size) (hby : i.bytes = bytes) (hzs : z.cells.size = E.size)
    (v : Value) (hs : a.eval s = v) (hown : Owns E w base e v l)
    (g : Nat) (y : α) (hx : a.eval x = .slice (some ⟨g, 0, none⟩) 1 1) (hy : Blk w g e (E.cells y).toArray)
    (h63 : l.length + 1 ≤ maxLen) (hbytes : (l.length + 1) * bytes ≤ 140737488355328) (hbase : base ≤ w.heap.size)
    (h : ∀ v' w', Owns E w' base e v' (l ++ [y]) → w.grownBy w' v.ownBlock → (v'.ownBlock = v.ownBlock ∨ v'.ownBlock = some w.heap.size) → K (a.put o.dst v') w') :
    if Region.wanted o (yielded ops a.tmps) = true then Oper.wp P o a w K Q else Z :=
  step_append_any w hgd s x t ho base e i z E.size bytes ht hi hz hsize hby hzs E.pos v l.length (E.all l) hs hown w.heap.size _ 1 1 (E.cells y) hx (reads_one hy) (E.one y) h63 hbytes hbase
    fun v' w' h1 h2 h3 => h v' w' (by
      unfold Owns
      rw [E.all_append, List.length_append]
      simpa [Elt.all] using h1) h2 h3

/-- Where 's[k:]' lies. -/
def cutA (A : Option Addr) (c k s : Nat) : Option Addr := if c = k then A else A.map (·.add (k * s))
theorem Rd.cut {c k : Nat} (h : Rd E w A l) (hk : k ≤ l.length) (hc : l.length ≤ c) : Rd E w (cutA A c k E.size) (l.drop k) := by
  have h1 := Reads.cut h hk hc
  have h2 : (E.all l).drop (k * E.size) = E.all (l.drop k) := by
    have : E.all l = E.all (l.take k) ++ E.all (l.drop k) := by rw [← E.all_append, List.take_append_drop]
    rw [this, List.drop_append, List.drop_eq_nil_of_le (by rw [E.all_len, List.length_take]; rw [Nat.min_eq_left hk]; exact Nat.le_refl _), E.all_len, List.length_take, Nat.min_eq_left hk, Nat.sub_self, List.drop_zero, List.nil_append]
  unfold Rd
  rw [List.length_drop, ← h2]
  exact h1
theorem run_cut {t e : TypeId} {i : TypeInfo} {sz : Nat} (ht : P.underlying t = some (.slice e)) (hi : P.info? e = some i) (hsz : i.size = sz) {n c k : Nat} (hk : k ≤ n) (w : World) :
    (Instr.slice t (.slice A n c) (some (.int .i64 (k : Int))) none none).run P w = .ok (.slice (cutA A c k sz) (n - k) (c - k)) w := by
  have he : P.elem t = e := by simp [Program.elem, ht]
  rw [run_slice_l w t A n c (by rw [he]; exact ht) .i64 (k : Int) (by omega) (by omega), he, run_sizeOf w hi]
  simp [Result.andThen, sliced, cutA, Program.cellsOf, hi, hsz]
theorem run_cutAt {t e : TypeId} {i : TypeInfo} {sz : Nat} (ht : P.underlying t = some (.slice e)) (hi : P.info? e = some i) (hsz : i.size = sz) {n c k : Nat} (hk : k ≤ n) (w : World) :
    (Instr.sliceAt t (.slice A n c) (some (.int .i64 (k : Int))) none none).run P w = .ok (.slice (cutA A c k sz) (n - k) (c - k)) w := by
  have he : P.elem t = e := by simp [Program.elem, ht]
  rw [run_sliceAt_slice w t _ _ _ _ (by rw [he]; exact ht), run_cut ht hi hsz hk]

theorem wpList_cat {ops : Array Oper} {rest : List Oper} {o : Oper} {a : Act} {Q : Exit → Act → World → Prop} (hgd : o.guard = none) (s x : Operand) (t : TypeId)
    (ho : o.op = .call { callee := .builtin .append, args := #[s, x], argTypes := #[t, t] })
    (base : Nat) (e : TypeId) (i : TypeInfo) (z : Value) (bytes : Nat) (ht : P.underlying t = some (.slice e)) (hi : P.info? e = some i) (hz : i.zero = some z)
    (hsize : i.size = E.size) (hby : i.bytes = bytes) (hzs : z.cells.size = E.size)
    (v : Value) (hs : a.eval s = v) (hown : Owns E w base e v l)
    (c n : Nat) (hx : a.eval x = .slice A n c) (hn : n = m.length) (hr : Rd E w A m)
    (h63 : l.length + m.length ≤ maxLen) (hbytes : (l.length + m.length) * bytes ≤ 140737488355328) (hbase : base ≤ w.heap.size)
    (h : ∀ v' w', Owns E w' base e v' (l ++ m) → w.grownBy w' v.ownBlock → (v'.ownBlock = v.ownBlock ∨ v'.ownBlock = some w.heap.size) → wpList P ops Q rest (a.put o.dst v') w') : wpList P ops Q (o :: rest) a w := by
  subst hn
  exact wpList_append_any w hgd s x t ho base e i z E.size bytes ht hi hz hsize hby hzs E.pos v l.length (E.all l) hs hown w.heap.size A m.length c (E.all m) hx hr (E.all_one m) h63 hbytes hbase
    fun v' w' h1 h2 h3 => h v' w' (by
      unfold Owns
      rw [E.all_append, List.length_append]
      exact h1) h2 h3
end

end Go.Proofs.Ytgmfnhianhngiaa

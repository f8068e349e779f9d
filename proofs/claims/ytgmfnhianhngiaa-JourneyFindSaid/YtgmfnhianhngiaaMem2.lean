/- Lists in memory: append of one element to a list of the call's own. -/
import Derived.Test.YtgmfnhianhngiaaMem
namespace Go.Proofs.Ytgmfnhianhngiaa
set_option linter.unusedVariables false
open Go.RowKit

section
variable {α : Type} {E : Elt α} {w w' : World} {A : Option Addr} {l : List α} {P : Program}
theorem reads_one {g : Nat} {e : TypeId} {y : α} (h : Blk w g e (E.cells y).toArray) : Reads w w.heap.size E.size (some ⟨g, 0, none⟩) 1 (E.cells y) :=
  ⟨by rw [E.len, Nat.one_mul], fun _ => ⟨_, rfl, h.lt, fun j u hu => by
    rw [Addr.add_lit, Nat.zero_add, h.cell]
    simpa using hu⟩⟩

theorem wpList_push {ops : Array Oper} {rest : List Oper} {o : Oper} {a : Act} {Q : Exit → Act → World → Prop} (hgd : o.guard = none) (s x : Operand) (t : TypeId)
    (ho : o.op = .call { callee := .builtin .append, args := #[s, x], argTypes := #[t, t] })
    (base : Nat) (e : TypeId) (i : TypeInfo) (z : Value) (bytes : Nat) (ht : P.underlying t = some (.slice e)) (hi : P.info? e = some i) (hz : i.zero = some z)
    (hsize : i.size = E.size) (hby : i.bytes = bytes) (hzs : z.cells.size = E.size)
    (v : Value) (hs : a.eval s = v) (hown : Owns E w base e v l)
    (g : Nat) (y : α) (hx : a.eval x = .slice (some ⟨g, 0, none⟩) 1 1) (hy : Blk w g e (E.cells y).toArray)
    (h63 : l.length + 1 ≤ maxLen) (hbytes : (l.length + 1) * bytes ≤ 140737488355328) (hbase : base ≤ w.heap.size)
    (h : ∀ v' w', Owns E w' base e v' (l ++ [y]) → w.grownBy w' v.ownBlock → (v'.ownBlock = v.ownBlock ∨ v'.ownBlock = some w.heap.size) → wpList P ops Q rest (a.put o.dst v') w') : wpList P ops Q (o :: rest) a w :=
  wpList_append_any w hgd s x t ho base e i z E.size bytes ht hi hz hsize hby hzs E.pos v l.length (E.all l) hs hown w.heap.size _ 1 1 (E.cells y) hx (reads_one hy) (E.one y) h63 hbytes hbase
    fun v' w' h1 h2 h3 => h v' w' (by
      unfold Owns
      rw [E.all_append, List.length_append]
      simpa [Elt.all] using h1) h2 h3

/-- The world behind an append: old memory stays. -/
theorem ext_grown {w0 : World} {base : Nat} {e : TypeId} {v : Value} (h0 : Ext w0 w) (hown : Owns E w base e v l) (hb : w0.heap.size ≤ base) (hg : w.grownBy w' v.ownBlock) : Ext w0 w' :=
  Below.grown h0 hg h0.size (fun k hk => Nat.le_trans hb (hown.block hk).1)
end

end Go.Proofs.Ytgmfnhianhngiaa

/- What plans, contacts and requests that come in read as. · What lists of branches and of numbers that come in read as. · What tables that come in read as. · TopTrees: what requests and groups that come in read as. · Layer 35 (multicast): words for the laws of Grow. -/
import Derived.Test.YtemkpimngbbpkaaGreatRows
import Derived.BigQuiet
import Derived.Test.YtemkpimngbbpkaaGreatQt01
import Derived.Test.YtemkpimngbbpkaaGreatQt02
import Derived.Test.YtemkpimngbbpkaaGreatQt27
import Derived.Test.YtemkpimngbbpkaaGreatQt29
import Derived.Test.YtemkpimngbbpkaaGreatQt30
import Derived.Test.YtemkpimngbbpkaaGreatQt33
namespace Go.Proofs.YtemkpimngbbpkaaGreat
set_option linter.unusedVariables false
set_option linter.unusedSimpArgs false
section
open Go.ChangeShapes Go.WideShapes Go.ChangeAt Go.RowKit Go.Deep
theorem row_own : ownKnob Tryz.prog.godebug = none := by kernel_rfl
theorem row_laid : laidOutB Tryz.prog = true := by kernel_rfl
theorem wf_bd {z : Int} (h : (Lit.int .i64 z).wf = true) : -9223372036854775808 <= z /\ z <= 9223372036854775807 := by
 simp [Lit.wf, IntKind.min, IntKind.max, IntKind.bits, IntKind.signed] at h; omega
def I64 (z : Int) : Prop := -9223372036854775808 <= z /\ z <= 9223372036854775807
set_option maxRecDepth 100000 in
theorem flat_int : flatK Tryz.prog 4 3 = some (List.replicate 1 .i64) := by kernel_rfl
theorem dec_int (cs : List Value) (h : CKs (List.replicate 1 .i64) cs) : ∃ x : Int, cs = EInt.cells x /\ I64 x := by
 obtain ⟨zs, hl, rfl, hw⟩ := CKs.ints h
 match zs, hl with
 | [a], _ => exact ⟨a, rfl, wf_bd (hw _ (by simp))⟩
structure Con.Wf (c : Con) : Prop where
 src : I64 c.src
 dst : I64 c.dst
 st : I64 c.st
 en : I64 c.en
 rate : I64 c.rate
 rng : I64 c.rng
 loss : I64 c.loss
set_option maxRecDepth 100000 in
theorem flat_con : flatK Tryz.prog 4 61 = some (List.replicate 7 .i64) := by kernel_rfl
set_option maxRecDepth 100000 in
theorem dec_con (cs : List Value) (h : CKs (List.replicate 7 .i64) cs) : ∃ x : Con, cs = ECon.cells x /\ x.Wf := by
 obtain ⟨zs, hl, rfl, hw⟩ := CKs.ints h
 match zs, hl with
 | [a, b, c, d, e, f, g], _ => exact ⟨⟨a, b, c, d, e, f, g⟩, rfl, ⟨wf_bd (hw _ (by simp)), wf_bd (hw _ (by simp)), wf_bd (hw _ (by simp)), wf_bd (hw _ (by simp)), wf_bd (hw _ (by simp)), wf_bd (hw _ (by simp)), wf_bd (hw _ (by simp))⟩⟩
section
variable {H : Type} {enc : TypeId × Value -> H} {w : World} {base : Nat} {spare : Nat -> Bool} {held : Bool} {r : Reach} {b0 : Nat} {v : Value} {d : DataW H} {p : List MemPlace}
set_option maxRecDepth 100000 in
theorem open_plan (hv : Value.okWide Tryz.prog w r b0 68 v) (h : DataW.Trod enc Tryz.prog w base spare held 68 v d p) :
 ∃ Aq cq Ac cc, ∃ p : Pln, v = p.val Aq cq Ac cc /\ Rd EInt w Aq p.quo /\ Rd ECon w Ac p.cons /\ p.quo.length <= cq /\ p.cons.length <= cc /\ cq <= maxLen /\ cc <= maxLen /\ (∀ x ∈ p.quo, I64 x) /\ ∀ c ∈ p.cons, c.Wf := by
 obtain ⟨v0, v1, m, y0, y1, rfl, h0, h1⟩ := open_two Tryz.underlying68 (by kernel_rfl) (by kernel_rfl) hv h
 obtain ⟨Aq, cq, lq, rfl, g1, g2, g3, g4⟩ := open_list_cell EInt I64 Tryz.underlying30 flat_int (by kernel_rfl) dec_int h0
 obtain ⟨Ac, cc, lc, rfl, k1, k2, k3, k4⟩ := open_list_cell ECon Con.Wf Tryz.underlying46 flat_con (by kernel_rfl) dec_con h1
 exact ⟨Aq, cq, Ac, cc, ⟨lq, lc⟩, rfl, g1, k1, g2, k2, g3, k3, g4, k4⟩
structure Req.Wf (q : Req) : Prop where
 src : I64 q.src
 dst : I64 q.dst
 size : I64 q.size
 ready : I64 q.ready
 dead : I64 q.dead
 prio : I64 q.prio
set_option maxRecDepth 100000 in
theorem flat_req : flatK Tryz.prog 4 85 = some (List.replicate 6 .i64 ++ [.bool]) := by kernel_rfl
end
end
section
open Go.ChangeShapes Go.WideShapes Go.ChangeAt Go.RowKit Go.Deep
section
variable {H : Type} {enc : TypeId × Value -> H} {w : World} {base : Nat} {spare : Nat -> Bool} {held : Bool} {r : Reach} {b0 : Nat} {v : Value} {d : DataW H} {p : List MemPlace}
end
end
section
open Go.ChangeShapes Go.WideShapes Go.ChangeAt Go.RowKit Go.Deep
section
variable {H : Type} {enc : TypeId × Value -> H} {w : World} {base : Nat} {spare : Nat -> Bool} {held : Bool} {r : Reach} {b0 : Nat} {v : Value} {d : DataW H} {p : List MemPlace}
end
end
section
open Go.ChangeShapes Go.WideShapes Go.ChangeAt Go.RowKit Go.Deep
section
variable {H : Type} {enc : TypeId × Value -> H} {P : Program} {w : World} {base : Nat} {spare : Nat -> Bool} {held : Bool}
theorem open_list_dec {α : Type} (E : Elt α) (wf : α -> Prop) {t e : TypeId} {v : Value} {d : DataW H} {p : List MemPlace} (ht : P.underlying t = some (.slice e)) (hC : P.cellsOf e = E.size)
 (dec : ∀ cs m y, cs.length = E.size -> DataW.trod enc P w base spare held m e cs = some y -> ∃ x : α, cs = E.cells x /\ wf x) (hone : v.cells.toList = [v]) (h : DataW.Trod enc P w base spare held t v d p) :
 ∃ (A : Option Addr) (c : Nat) (l : List α), v = .slice A l.length c /\ Rd E w A l /\ l.length <= c /\ c <= maxLen /\ ∀ x ∈ l, wf x := by
 obtain ⟨fuel, hf⟩ := h
 rcases open_slice ht hf with ⟨h1, _⟩ | ⟨a, len, cap, m, n', D, Pl, h1, hb, hl, hm, hmm, _, hi⟩
 ·rw [hone] at h1
  injection h1 with h1
  subst h1
  exact ⟨none, 0, [], rfl, Rd.nil, Nat.le_refl _, Nat.zero_le _, by simp⟩
 ·rw [hone] at h1
  injection h1 with h1
  subst h1
  have hlm : len <= m := by rw [hmm]; split <;> omega
  obtain ⟨l, hll, hq⟩ := list_of (q := fun i (x : α) => wf x /\ w.cells? base (a.add (i * P.cellsOf e)) (P.cellsOf e) = some (E.cells x)) len (fun i hil => by
   obtain ⟨cs', hc, ht'⟩ := hi i (by omega)
   obtain ⟨_, hlen, _⟩ := World.cells?_some hc
   obtain ⟨x, hx, hwf⟩ := dec cs' _ _ (hlen.trans hC) ht'
   exact ⟨x, hwf, by rw [hc, hx]⟩)
  subst hll
  refine ⟨some a, cap, l, rfl, ⟨E.all_len l, fun hn => ⟨a, rfl, ?_, ?_⟩⟩, hl, hm, ?_⟩
  ·have h0 := (hq 0 hn).2
   obtain ⟨_, hcl, hat⟩ := World.cells?_some h0
   have h2 := hat 0 (by rw [hC]; exact E.pos)
   have h3 : (E.cells l[0])[0]? = some ((E.cells l[0])[0]'(by rw [E.len]; exact E.pos)) := List.getElem?_eq_getElem _
   rw [h3] at h2
   have := cell_lt h2
   simpa [block_of_add] using this
  ·intro j u hu
   have hpos := E.pos
   have hj : j < (E.all l).length := (List.getElem?_eq_some_iff.1 hu).1
   rw [E.all_len] at hj
   have hk1 : j / E.size < l.length := Nat.div_lt_of_lt_mul (by rw [Nat.mul_comm]; exact hj)
   have hr : j % E.size < E.size := Nat.mod_lt _ hpos
   have e1 : j / E.size * E.size + j % E.size = j := by rw [Nat.mul_comm]; exact Nat.div_add_mod j E.size
   have h2 := E.all_at l (j / E.size) hk1 (j % E.size) hr
   rw [e1, hu] at h2
   obtain ⟨_, hcl, hat⟩ := World.cells?_some (hq _ hk1).2
   have h3 := hat (j % E.size) (by rw [hC]; exact hr)
   rw [<- h2, hC, Go.Deep.add_add, e1] at h3
   exact h3
  ·intro x hx
   obtain ⟨i, hi', he⟩ := List.getElem_of_mem hx
   rw [<- he]
   exact (hq i hi').1
end
structure Gp where
 A : Option Addr
 c : Nat
 ls : List Int
def EGp : Elt Gp := ⟨fun x => [.slice x.A x.ls.length x.c], 1, fun _ => rfl, by omega, fun x u hu => by simp at hu; subst hu; rfl⟩
theorem Rd.gp {w : World} {A : Option Addr} {l : List Gp} (h : Rd EGp w A l) {k : Nat} (hk : k < l.length) : ∃ b o, A = some ⟨b, o, none⟩ /\ b < w.heap.size /\ w.cell? ⟨b, o + k, none⟩ = some (.slice l[k].A l[k].ls.length l[k].c) := by
 obtain ⟨b, o, rfl, hb, hc⟩ := h.at hk
 refine ⟨b, o, rfl, hb, ?_⟩
 have := hc 0 (.slice l[k].A l[k].ls.length l[k].c) rfl
 simpa [EGp] using this
structure Gp.Wf (w : World) (x : Gp) : Prop where
 rd : Rd EInt w x.A x.ls
 cap : x.ls.length <= x.c
 max : x.c <= maxLen
def EReq : Elt Req := ⟨fun q => [.int .i64 q.src, .int .i64 q.dst, .int .i64 q.size, .int .i64 q.ready, .int .i64 q.dead, .int .i64 q.prio, .bool q.cust], 7, fun _ => rfl, by omega, fun x u hu => by simp at hu; rcases hu with h | h | h | h | h | h | h <;> subst h <;> rfl⟩
theorem Rd.req {w : World} {A : Option Addr} {l : List Req} (h : Rd EReq w A l) {k : Nat} (hk : k < l.length) : ∃ b o, A = some ⟨b, o, none⟩ /\ b < w.heap.size /\
 w.cell? ⟨b, o + k * 7, none⟩ = some (.int .i64 l[k].src) /\ w.cell? ⟨b, o + k * 7 + 1, none⟩ = some (.int .i64 l[k].dst) /\ w.cell? ⟨b, o + k * 7 + 2, none⟩ = some (.int .i64 l[k].size) /\ w.cell? ⟨b, o + k * 7 + 3, none⟩ = some (.int .i64 l[k].ready) /\ w.cell? ⟨b, o + k * 7 + 4, none⟩ = some (.int .i64 l[k].dead) /\ w.cell? ⟨b, o + k * 7 + 5, none⟩ = some (.int .i64 l[k].prio) /\ w.cell? ⟨b, o + k * 7 + 6, none⟩ = some (.bool l[k].cust) := by
 obtain ⟨b, o, rfl, hb, hc⟩ := h.at hk
 exact ⟨b, o, rfl, hb, hc 0 _ rfl, hc 1 _ rfl, hc 2 _ rfl, hc 3 _ rfl, hc 4 _ rfl, hc 5 _ rfl, hc 6 _ rfl⟩
theorem dec_req (cs : List Value) (h : CKs (List.replicate 6 .i64 ++ [.bool]) cs) : ∃ q : Req, cs = EReq.cells q /\ q.Wf := by
 obtain ⟨us, ws, rfl, h1, h2⟩ := CKs.split h
 obtain ⟨zs, hl, rfl, hw⟩ := CKs.ints h1
 obtain ⟨b', rfl⟩ : ∃ b', ws = [.bool b'] := by
  cases ws with
  | nil => exact h2.elim
  | cons x xs =>
    cases xs with
    | nil =>
      obtain ⟨⟨b', hb⟩, _⟩ := h2
      exact ⟨b', by rw [hb]⟩
    | cons y ys => exact h2.2.elim
 match zs, hl with
 | [a, b, c, d, e, f], _ => exact ⟨⟨a, b, c, d, e, f, b'⟩, rfl, ⟨wf_bd (hw _ (by simp)), wf_bd (hw _ (by simp)), wf_bd (hw _ (by simp)), wf_bd (hw _ (by simp)), wf_bd (hw _ (by simp)), wf_bd (hw _ (by simp))⟩⟩
section
variable {H : Type} {enc : TypeId × Value -> H} {w : World} {base : Nat} {spare : Nat -> Bool} {held : Bool} {r : Reach} {b0 : Nat} {v : Value} {d : DataW H} {p : List MemPlace}
set_option maxRecDepth 100000 in
theorem open_reqs (hv : Value.okWide Tryz.prog w r b0 77 v) (h : DataW.Trod enc Tryz.prog w base spare held 77 v d p) : ∃ A c l, v = .slice A l.length c /\ Rd EReq w A l /\ l.length <= c /\ c <= maxLen /\ ∀ x ∈ l, x.Wf := by
 obtain ⟨A, c, l, h1, h2, h3, h4, h5⟩ := open_list EReq Req.Wf Tryz.underlying77 flat_req (by kernel_rfl) dec_req hv h
 exact ⟨A, c, l, h1, h2, h3, h4, h5⟩
set_option maxRecDepth 100000 in
theorem open_groups (hv : Value.okWide Tryz.prog w r b0 78 v) (h : DataW.Trod enc Tryz.prog w base spare held 78 v d p) : ∃ A c l, v = .slice A l.length c /\ Rd EGp w A l /\ l.length <= c /\ c <= maxLen /\ ∀ x ∈ l, x.Wf w := by
 obtain ⟨A, c, l, h1, h2, h3, h4, h5⟩ := open_list_dec EGp (Gp.Wf w) Tryz.underlying78 (by kernel_rfl) (fun cs m y hl ht => by
  match cs, hl with
  | [v0], _ =>
    obtain ⟨A, c, l, rfl, g1, g2, g3, _⟩ := open_list_cell EInt I64 Tryz.underlying30 flat_int (by kernel_rfl) dec_int ht
    exact ⟨⟨A, c, l⟩, rfl, ⟨g1, g2, g3⟩⟩) (by obtain ⟨a, l, c, rfl⟩ := okWide_slice Tryz.underlying78 hv; rfl) h
 exact ⟨A, c, l, h1, h2, h3, h4, h5⟩
end
end
section
open Go.RowKit Go.Shelf
theorem gcOf {p : Pln} {q : Req} {bk : List Bk} (hb : p.bkChk bk = 0) (hf : fineR p q = true) : GC p bk q := by
 have h := (fineR_of hf).2
 simp only [Req.okB, decide_eq_true_eq] at h
 exact ⟨hb, by omega, by omega⟩
end
end Go.Proofs.YtemkpimngbbpkaaGreat

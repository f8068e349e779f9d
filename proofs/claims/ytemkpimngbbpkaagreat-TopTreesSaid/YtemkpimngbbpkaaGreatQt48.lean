/- Bookings: slices.Insert at bookings. · Bookings: slices.Insert at bookings, walked. · Bookings: Clone, insert; intervals that overlap with none. -/
import Derived.Shelf.RegionOpenPlain
import Derived.Lib.Overlaps
import Derived.Lib.AppendZerosOnto
import Derived.Laws.CopyRow
import Derived.Test.YtemkpimngbbpkaaGreatQt24
import Derived.Test.YtemkpimngbbpkaaGreatQt36
import Derived.Test.YtemkpimngbbpkaaGreatQt42
import Derived.Test.YtemkpimngbbpkaaGreatQt47
namespace Go.Proofs.YtemkpimngbbpkaaGreat
set_option linter.unusedVariables false
set_option linter.unusedSimpArgs false
section
open Go.RowKit Go.Shelf
attribute [local go_sem] Oper.semAt_some
theorem info_bkI : (Tryz.prog.info? 100).map (fun i => (i.zero, i.size, i.bytes)) = some (some (.agg #[.int .i64 0, .int .i64 0, .int .i64 0, .int .i64 0]), 4, 32) := by kernel_rfl
theorem run_copy_rowK {P : Program} (w : World) (dT sT ty elem : TypeId) (sz g o dLen dCap : Nat) (a : Addr) (sLen sCap : Nat) (cur : Array Value) (t : TypeId) (cs : List Value)
 (hu : P.underlying dT = some (.slice elem)) (hs : (P.info? elem).map (·.size) = some sz)
 (hg : w.heap[g]? = some (.cells cur t (0, 0))) (k : Nat) (hk : Nat.min sLen dLen = k) (hn : cs.length = k * sz)
 (hsrc : ∀ j v, cs[j]? = some v -> w.cell? (a.add j) = some v) (hfit : o + cs.length <= cur.size) (h1 : ∀ v ∈ cs, v.oneCell' = true) :
 (Builtin.copy_ #[dT, sT] ty #[.slice (some ⟨g, o, none⟩) dLen dCap, .slice (some a) sLen sCap]).run P w =
  .ok (goInt k) (w.setRow g (cur.toList.take o ++ cs ++ cur.toList.drop (o + cs.length)).toArray) := by
 have hl := run_loadCells_list (P := P) w a cs hsrc
 have hst := run_storeCells_at P g o t cs 0 cur w hg (by simpa using hfit) h1
 cases hq : P.info? elem with
 | none => simp [hq] at hs
 | some i =>
   have hi : i.size = sz := by simpa [hq] using hs
   simp [Builtin.copy_, run_underlying hu, Builtin.lenOf, Builtin.firstCells, sizeOf, typeInfo, hq, hi, hk, <- hn, hl, hst]
section
variable {α : Type} (E : Elt α)
theorem all_take (l : List α) (k : Nat) (hk : k <= l.length) : E.all (l.take k) = (E.all l).take (k * E.size) := by
 have h : E.all l = E.all (l.take k) ++ E.all (l.drop k) := by rw [<- E.all_append, List.take_append_drop]
 rw [h, List.take_left' (by rw [E.all_len, List.length_take, Nat.min_eq_left hk])]
theorem all_drop (l : List α) (k : Nat) (hk : k <= l.length) : E.all (l.drop k) = (E.all l).drop (k * E.size) := by
 have h : E.all l = E.all (l.take k) ++ E.all (l.drop k) := by rw [<- E.all_append, List.take_append_drop]
 rw [h, List.drop_left' (by rw [E.all_len, List.length_take, Nat.min_eq_left hk])]
theorem all_ins (l : List α) (k : Nat) (y : α) : E.all (l.take k ++ y :: l.drop k) = E.all (l.take k) ++ (E.cells y ++ E.all (l.drop k)) := by
 rw [E.all_append]
 rfl
theorem owns_row {w : World} {base g c : Nat} {e : TypeId} {cur : Array Value} {m : List α} (hh : w.heap[g]? = some (.cells cur e (0, 0))) (hb : base <= g) (hnc : m.length <= c) (hcm : c <= maxLen) (hsz : cur.size = c * E.size) (ht : cur.toList.take (m.length * E.size) = E.all m) :
 Owns E w base e (.slice (some ⟨g, 0, none⟩) m.length c) m := ⟨E.all_len m, .inr ⟨g, c, cur, rfl, hb, hh, hnc, hcm, hsz, ht⟩⟩
theorem ins_grow {l : List α} {i : Nat} {y : α} (hi : i <= l.length) (cur c3 c4 : List Value) (h0 : cur.take (i * E.size) = E.all (l.take i)) (R R' : List Value) (h3 : c3 = cur.take (i * E.size) ++ E.cells y ++ R) (h4 : c4 = c3.take ((i + 1) * E.size) ++ E.all (l.drop i) ++ R') :
 c4.take ((l.length + 1) * E.size) = E.all (l.take i ++ y :: l.drop i) := by
 have hl1 : (E.all (l.take i)).length = i * E.size := by rw [E.all_len, List.length_take, Nat.min_eq_left hi]
 have hl2 : (E.all (l.drop i)).length = (l.length - i) * E.size := by rw [E.all_len, List.length_drop]
 have e3 : c3.take ((i + 1) * E.size) = E.all (l.take i) ++ E.cells y := by
  rw [h3, h0, List.take_left' (by rw [List.length_append, hl1, E.len, Nat.add_mul, Nat.one_mul])]
 rw [h4, e3, all_ins, List.append_assoc (E.all (l.take i)), List.take_left']
 rw [List.length_append, List.length_append, hl1, E.len, hl2, <- Nat.add_assoc, Nat.add_mul, Nat.one_mul]
 have : i * E.size + (l.length - i) * E.size = l.length * E.size := by rw [<- Nat.add_mul]; congr 1; omega
 omega
theorem ins_room {l : List α} {i : Nat} {y : α} (hi : i <= l.length) (cur c3 c4 : List Value) (h0 : cur.take (i * E.size) = E.all (l.take i)) (hcl : (i + 1) * E.size <= cur.length) (R : List Value) (h3 : c3 = cur.take ((i + 1) * E.size) ++ E.all (l.drop i) ++ R) (h4 : c4 = c3.take (i * E.size) ++ E.cells y ++ c3.drop (i * E.size + (E.cells y).length)) :
 c4.take ((l.length + 1) * E.size) = E.all (l.take i ++ y :: l.drop i) := by
 have hl1 : (E.all (l.take i)).length = i * E.size := by rw [E.all_len, List.length_take, Nat.min_eq_left hi]
 have hl2 : (E.all (l.drop i)).length = (l.length - i) * E.size := by rw [E.all_len, List.length_drop]
 have hpos := E.pos
 have hmul : (i + 1) * E.size = i * E.size + E.size := by rw [Nat.add_mul, Nat.one_mul]
 have hct : (cur.take ((i + 1) * E.size)).length = (i + 1) * E.size := by rw [List.length_take, Nat.min_eq_left hcl]
 have e3 : c3.take (i * E.size) = E.all (l.take i) := by
  rw [h3, List.append_assoc, List.take_append_of_le_length (by rw [hct]; omega), List.take_take, Nat.min_eq_left (by omega), h0]
 have e4 : c3.drop (i * E.size + (E.cells y).length) = E.all (l.drop i) ++ R := by
  rw [h3, List.append_assoc, E.len, <- hmul, List.drop_left' hct]
 rw [h4, e3, e4, all_ins, <- List.append_assoc, List.take_left']
 ·simp only [List.append_assoc]
 ·rw [List.length_append, List.length_append, hl1, E.len, hl2, Nat.add_mul, Nat.one_mul]
  have : i * E.size + (l.length - i) * E.size = l.length * E.size := by rw [<- Nat.add_mul]; congr 1; omega
  omega
end
end
section
open Go.RowKit Go.Shelf
attribute [local go_sem] Oper.semAt_some
theorem wpList_copyK {P : Program} {w w' : World} {ops : Array Oper} {rest : List Oper} {o : Oper} {a : Act} {Q : Exit -> Act -> World -> Prop} (hgd : o.guard = none) (d x : Operand) (t u : TypeId)
 (ho : o.op = .call { callee := .builtin .copy, args := #[d, x], argTypes := #[t, u] }) {v xv v' : Value} (hs : a.eval d = v) (hx : a.eval x = xv)
 (hr : (Builtin.copy_ #[t, u] o.type #[v, xv]).run P w = .ok v' w') (h : wpList P ops Q rest (a.put o.dst v') w') : wpList P ops Q (o :: rest) a w := by
 refine wpList_plain hgd fun K hK => ?_
 unfold Oper.wp execOp
 simp only [ho, resolve, invoke, builtin, Sem.run_bind, Sem.run_pure, Result.andThen_ok, List.map_toArray, List.map_cons, List.map_nil, hs, hx, hr]
 exact hK _ _ h
theorem step_copyK {P : Program} {ops : Array Oper} {o : Oper} {a : Act} {w : World} {K : Act -> World -> Prop} {Q : Exit -> Act -> World -> Prop} {E : Prop}
 (hg : o.guard = none) (d x : Operand) (t u : TypeId) (hop : o.op = Op.call { callee := Callee.builtin Builtin.copy, args := #[d, x], argTypes := #[t, u] })
 {v xv : Value} (hd : a.eval d = v) (hx : a.eval x = xv) {v' : Value} {w' : World} (hr : (Builtin.copy_ #[t, u] o.type #[v, xv]).run P w = .ok v' w') (hK : K (a.put o.dst v') w') :
 if Region.wanted o (yielded ops a.tmps) = true then Oper.wp P o a w K Q else E := by
 have hw : Region.wanted o (yielded ops a.tmps) = true := by simp [Region.wanted, hg]
 rw [if_pos hw]
 unfold Oper.wp
 simp [execOp, hop, resolve, invoke, builtin, hd, hx, hr, Result.andThen]
 exact hK
theorem run_high {P : Program} {t e : TypeId} {i : TypeInfo} (ht : P.underlying t = some (.slice e)) (hi : P.info? e = some i) {A : Option Addr} {n c k : Nat} (hk : k <= c) (hA : ∀ a, A = some a -> a.spot = none) (w : World) :
 (Instr.slice t (.slice A n c) none (some (.int .i64 (k : Int))) none).run P w = .ok (.slice A k c) w := by
 have he : P.elem t = e := by simp [Program.elem, ht]
 rw [run_slice_h w t A n c (by rw [he]; exact ht) .i64 (k : Int) (by omega) (by omega), he, run_sizeOf w hi]
 have : A.map (fun a => a.add 0) = A := by
  cases A with
  | none => rfl
  | some a => simp [Addr.add]
 simp [Result.andThen, sliced, this]
theorem run_from {P : Program} {t e : TypeId} {i : TypeInfo} {sz : Nat} (ht : P.underlying t = some (.slice e)) (hi : P.info? e = some i) (hsz : i.size = sz) {g n c k : Nat} (hk : k <= n) (hc : k < c) (w : World) :
 (Instr.slice t (.slice (some ⟨g, 0, none⟩) n c) (some (.int .i64 (k : Int))) none none).run P w = .ok (.slice (some ⟨g, k * sz, none⟩) (n - k) (c - k)) w := by
 rw [run_cut ht hi hsz hk]
 unfold cutA
 rw [if_neg (by omega)]
 simp [Addr.add_lit]
theorem setRow_kept {w : World} {g : Nat} {cs : Array Value} : w.grownBy (w.setRow g cs) (some g) := ⟨rfl, rfl, rfl, by simp [World.setRow], fun k hk hne => setRow_other w g k cs (fun e => hne (by rw [e]))⟩
set_option maxRecDepth 100000 in
set_option maxHeartbeats 8000000 in
theorem insBk_end (A : Option Addr) (c : Nat) (l : List Bk) (b : Bk) (gv base : Nat) (w w0 : World) (ho : Owns EBk w base 100 (.slice A l.length c) l) (hl : l.length <= 600) (hv : Blk w gv 100 #[.int .i64 b.con, .int .i64 b.beg, .int .i64 b.en, .int .i64 b.tic]) (hE : Ext w0 w) (h0 : w0.heap.size <= base) (hb : base <= w.heap.size) :
 Calls Tryz.prog 171 #[.slice A l.length c, .int .i64 l.length, .slice (some ⟨gv, 0, none⟩) 1 1] w fun e w' => ∃ u, e = .returned u /\ Owns EBk w' base 100 u (l ++ [b]) /\ Ext w0 w' := by
 obtain ⟨i0, hi0, hz0, hz1, hz2⟩ := info_parts info_bkI
 have q1 := fun w => run_cut (P := Tryz.prog) (A := A) (n := l.length) (c := c) (k := l.length) Tryz.underlying80 hi0 hz1 (Nat.le_refl _) w
 obtain ⟨cA, hcA⟩ : ∃ cA, cutA A c l.length 4 = cA := ⟨_, rfl⟩
 rw [hcA] at q1
 clear hcA
 go_enter Tryz.func171, Tryz.ntmps171
 go_wp2_with (at_builtin; refine wpList_push rfl (.tmp 23) (.tmp 24) _ (by rfl) base 100 i0 _ 32 Tryz.underlying80 hi0 hz0 hz1 hz2 (by rfl) (.slice A l.length c) (by rfl) ho gv b (by rfl) hv (by simp only [maxLen]; omega) (by omega) hb ?_; intro v9 w9 hv9 hg9 hat9)
 go_ret
 exact ⟨v9, rfl, hv9, ext_grown hE ho h0 hg9⟩
set_option maxRecDepth 100000 in
set_option maxHeartbeats 8000000 in
theorem insBk_grow (g c i : Nat) (l : List Bk) (b : Bk) (gv base : Nat) (w w0 : World) (ho : Owns EBk w base 100 (.slice (some ⟨g, 0, none⟩) l.length c) l) (hi : i < l.length) (hl : l.length <= 600) (hc : c < l.length + 1) (hv : Blk w gv 100 #[.int .i64 b.con, .int .i64 b.beg, .int .i64 b.en, .int .i64 b.tic]) (hne : gv ≠ g) (hE : Ext w0 w) (h0 : w0.heap.size <= base) (hb : base <= w.heap.size) :
 Calls Tryz.prog 171 #[.slice (some ⟨g, 0, none⟩) l.length c, .int .i64 i, .slice (some ⟨gv, 0, none⟩) 1 1] w fun e w' => ∃ u, e = .returned u /\ Owns EBk w' base 100 u (l.take i ++ b :: l.drop i) /\ Ext w0 w' := by
 obtain ⟨i0, hi0, hz0, hz1, hz2⟩ := info_parts info_bkI
 have hnc := ho.cap
 obtain rfl : c = l.length := by omega
 obtain ⟨cur0, hk0, hs0, _, _⟩ := ho.there_
 have hR := ho.rd
 obtain ⟨n, hn⟩ : ∃ n, l.length = n := ⟨_, rfl⟩
 obtain ⟨k, hk⟩ : ∃ k, n = i + k := ⟨n - i, by omega⟩
 have hcells : ∀ j u, (EBk.all l)[j]? = some u -> w.cell? ⟨g, j, none⟩ = some u := fun j u hu => by
  obtain ⟨ad, e, _, h2⟩ := hR.2 (by omega)
  injection e with e
  subst e
  have := h2 j u hu
  rwa [Addr.add_lit, Nat.zero_add] at this
 have hlt : (EBk.all (l.take i)).length = i * 4 := by rw [EBk.all_len, List.length_take, Nat.min_eq_left (by omega)]; rfl
 have hld : (EBk.all (l.drop i)).length = k * 4 := by rw [EBk.all_len, List.length_drop, hn, hk, Nat.add_sub_cancel_left]; rfl
 have hat : EBk.all (l.take i) = (EBk.all l).take (i * 4) := all_take EBk l i (by omega)
 have had : EBk.all (l.drop i) = (EBk.all l).drop (i * 4) := all_drop EBk l i (by omega)
 have holds : (Builtin.firstCells i0.size i (.slice (some ⟨g, 0, none⟩) i n)).run Tryz.prog w.drew = .ok (EBk.all (l.take i)).toArray w.drew := by
  have h1 := run_loadCells_list (P := Tryz.prog) w.drew ⟨g, 0, none⟩ (EBk.all (l.take i)) (fun j u hu => by
   rw [Addr.add_lit, Nat.zero_add]
   refine hcells j u ?_
   rw [hat, List.getElem?_take] at hu
   split at hu
   ·exact hu
   ·cases hu)
  rw [hlt] at h1
  simp only [Builtin.firstCells, hz1]
  exact h1
 obtain ⟨k1, hk1⟩ : ∃ k1, k1 = k + 1 := ⟨_, rfl⟩
 have hnx : Builtin.nextslicecap (i + k1) n <= 2 * (i + k1) := nextslicecap_le (by omega)
 have hrz : ∀ ty, (Builtin.append_ #[80, 3] ty #[.slice (some ⟨g, 0, none⟩) i n, .int .i64 k1]).run Tryz.prog w = _ := fun ty =>
  Lib.run_append_grow_zeros w 80 3 ty 100 i0 _ .i64 .i64 Tryz.underlying80 Tryz.underlying3 hi0 hz0 (some ⟨g, 0, none⟩) i n (EBk.all (l.take i)) holds k1 (by omega) (by omega) (by omega) (by omega)
   (by rw [hz2]; omega) (by rw [hz2]; omega)
 have hG1 := grownCap_ge w (i + k1) n 100
 have hG2 := grownCap_le_maxLen w (i + k1) n 100 (by unfold maxLen; omega)
 obtain ⟨G, hG⟩ : ∃ G, grownCap w (i + k1) n 100 = G := ⟨_, rfl⟩
 rw [hG] at hrz hG1 hG2
 have hn1 : i + k1 = n + 1 := by omega
 rw [hn1] at hrz hG1
 obtain ⟨cur, hcur⟩ : ∃ cur, ((EBk.all (l.take i)).toArray ++ Builtin.zeroCells (Value.agg #[.int .i64 0, .int .i64 0, .int .i64 0, .int .i64 0]).cells k1 ++ Builtin.zeroCells (Value.agg #[.int .i64 0, .int .i64 0, .int .i64 0, .int .i64 0]).cells (G - (n + 1))) = cur := ⟨_, rfl⟩
 have hcs : cur.size = G * 4 := by
  rw [<- hcur]
  simp [Builtin.zeroCells, Value.cells, hlt]
  omega
 have hct : cur.toList.take (i * 4) = EBk.all (l.take i) := by
  rw [<- hcur]
  simp only [Array.toList_append, List.append_assoc]
  exact List.take_left' hlt
 rw [hcur] at hrz
 obtain ⟨W2, hW2⟩ : ∃ W2, w.drew.alloc (.cells cur 100) = W2 := ⟨_, rfl⟩
 have hB2 : Ext w W2 := by rw [<- hW2]; exact (Ext.refl w).drew.alloc _
 have hk2 : W2.heap[w.heap.size]? = some (.cells cur 100 (0, 0)) := by rw [<- hW2]; exact Blk.new w.drew _ _
 rw [hW2] at hrz
 have hv2 := hv.ext hB2
 have c1 := fun ty => run_copy_rowK (P := Tryz.prog) W2 80 80 ty 100 4 w.heap.size (i * 4) k1 (G - i) ⟨gv, 0, none⟩ 1 1 cur 100 b.cells Tryz.underlying80 (by rw [hi0]; simp [hz1]) hk2 1 (by show min 1 k1 = 1; omega) rfl
  (fun j u hu => by rw [Addr.add_lit, Nat.zero_add, hv2.cell, List.getElem?_toArray]; exact hu) (by show i * 4 + 4 <= cur.size; rw [hcs]; omega) (fun v hvv => EBk.one b v hvv)
 obtain ⟨c3, hc3⟩ : ∃ c3, cur.toList.take (i * 4) ++ b.cells ++ cur.toList.drop (i * 4 + b.cells.length) = c3 := ⟨_, rfl⟩
 rw [hc3] at c1
 have hl3 : c3.length = G * 4 := by rw [<- hc3]; simp only [List.length_append, List.length_take, List.length_drop, Array.length_toList, hcs]; show min (i * 4) (G * 4) + 4 + (G * 4 - (i * 4 + 4)) = G * 4; omega
 obtain ⟨W3, hW3⟩ : ∃ W3, W2.setRow w.heap.size c3.toArray = W3 := ⟨_, rfl⟩
 rw [hW3] at c1
 have hk3 : W3.drew.heap[w.heap.size]? = some (.cells c3.toArray 100 (0, 0)) := by rw [<- hW3]; exact setRow_heap W2 _ _ _ _ _ hk2
 have hg3 : W2.grownBy W3 (some w.heap.size) := by rw [<- hW3]; exact setRow_kept
 have hgl : g < w.heap.size := hk0.lt
 have hB3 : Ext w W3 := ext_of_grown hB2 hg3 (Nat.le_refl _)
 have c2 := fun ty => run_copy_rowK (P := Tryz.prog) W3.drew 80 80 ty 100 4 w.heap.size ((i + 1) * 4) k (G - (i + 1)) ⟨g, i * 4, none⟩ k k c3.toArray 100 (EBk.all (l.drop i)) Tryz.underlying80 (by rw [hi0]; simp [hz1]) hk3 k (by show min k k = k; omega) hld
  (fun j u hu => by
   rw [Addr.add_lit]
   refine (hB3.cell (p := ⟨g, i * 4 + j, none⟩) hgl).trans (hcells _ _ ?_)
   rw [had, List.getElem?_drop] at hu
   exact hu) (by rw [hld, List.size_toArray, hl3]; omega) (fun v hvv => EBk.all_one _ v hvv)
 obtain ⟨c4, hc4⟩ : ∃ c4, c3.toArray.toList.take ((i + 1) * 4) ++ EBk.all (l.drop i) ++ c3.toArray.toList.drop ((i + 1) * 4 + (EBk.all (l.drop i)).length) = c4 := ⟨_, rfl⟩
 rw [hc4] at c2
 have hl4 : c4.length = G * 4 := by rw [<- hc4]; simp only [List.length_append, List.length_take, List.length_drop, hld, hl3]; omega
 obtain ⟨W4, hW4⟩ : ∃ W4, W3.drew.setRow w.heap.size c4.toArray = W4 := ⟨_, rfl⟩
 rw [hW4] at c2
 have hk4 : W4.heap[w.heap.size]? = some (.cells c4.toArray 100 (0, 0)) := by rw [<- hW4]; exact setRow_heap W3.drew _ _ _ _ _ hk3
 have hg4 : W3.drew.grownBy W4 (some w.heap.size) := by rw [<- hW4]; exact setRow_kept
 have hB4 : Ext w W4 := ext_of_grown hB3.drew hg4 (Nat.le_refl _)
 have hins := ins_grow EBk (y := b) (show i <= l.length by omega) cur.toList c3 c4 hct _ _ hc3.symm hc4.symm
 have hml : (l.take i ++ b :: l.drop i).length = n + 1 := by simp; omega
 have hfin : Owns EBk W4 base 100 (.slice (some ⟨w.heap.size, 0, none⟩) (n + 1) G) (l.take i ++ b :: l.drop i) := by
  have := owns_row EBk (m := l.take i ++ b :: l.drop i) (c := G) (base := base) hk4 hb (by rw [hml]; exact hG1) hG2 (by rw [List.size_toArray, hl4]; rfl) (by rw [hml, <- hn]; exact hins)
  rw [hml] at this
  exact this
 have HF := Lib.hid (And.intro hfin (hE.trans hB4))
 have q1 : ∀ w, (Instr.slice 80 (.slice (some ⟨g, 0, none⟩) n n) (some (.int .i64 i)) none none).run Tryz.prog w = .ok (.slice (some ⟨g, i * 4, none⟩) k k) w := fun w => by
  have := run_from (P := Tryz.prog) (g := g) (n := n) (c := n) (k := i) Tryz.underlying80 hi0 hz1 (by omega) (by omega) w
  rw [show n - i = k by omega] at this
  exact this
 have q2 : ∀ w, (Instr.slice 80 (.slice (some ⟨g, 0, none⟩) n n) none (some (.int .i64 i)) none).run Tryz.prog w = .ok (.slice (some ⟨g, 0, none⟩) i n) w := fun w => run_high Tryz.underlying80 hi0 (by omega) (fun a e => by injection e with e; subst e; rfl) w
 have q3 : ∀ w', (Instr.slice 80 (.slice (some ⟨w.heap.size, 0, none⟩) (n + 1) G) (some (.int .i64 i)) none none).run Tryz.prog w' = .ok (.slice (some ⟨w.heap.size, i * 4, none⟩) k1 (G - i)) w' := fun w' => by
  have := run_from (P := Tryz.prog) (g := w.heap.size) (n := n + 1) (c := G) (k := i) Tryz.underlying80 hi0 hz1 (by omega) (by omega) w'
  rw [show n + 1 - i = k1 by omega] at this
  exact this
 have q4 : ∀ w', (Instr.slice 80 (.slice (some ⟨w.heap.size, 0, none⟩) (n + 1) G) (some (.int .i64 ((i : Int) + 1))) none none).run Tryz.prog w' = .ok (.slice (some ⟨w.heap.size, (i + 1) * 4, none⟩) k (G - (i + 1))) w' := fun w' => by
  have := run_from (P := Tryz.prog) (g := w.heap.size) (n := n + 1) (c := G) (k := i + 1) Tryz.underlying80 hi0 hz1 (by omega) (by omega) w'
  rw [show n + 1 - (i + 1) = k by omega] at this
  rw [show ((i : Int) + 1) = ((i + 1 : Nat) : Int) by omega]
  exact this
 have e1 : (n : Int) + 1 - (i : Int) = (k1 : Int) := by omega
 have d1 : ((i : Int) == (n : Int)) = false := by rw [beq_eq_false_iff_ne]; omega
 have hmix : Tryz.prog.follows .mixedOrders = true := by kernel_rfl
 have hw1 : IntKind.i64.wrap ((i : Int) + 1) = (i : Int) + 1 := by rw [IntKind.wrap_i64]; omega
 have hn6 : n <= 600 := by omega
 have hin : i < n := by omega
 rw [hn]
 clear hfin hins hml hk4 hg4 hB4 hl4 hc4 hk3 hg3 hB3 hl3 hc3 hv2 hk2 hB2 hct hcs hcur hG holds had hat hld hlt hcells hR hk0 hs0 ho hnx hc hnc hn hk hk1 hn1
 go_enter Tryz.func171, Tryz.ntmps171
 go_wp2_with (first | (at_builtin; refine wpList_appendEq rfl (.tmp 34) (.tmp 39) _ _ (by rfl) (by rfl) (by rfl) (hrz _) ?_) | (at_builtin; refine wpList_copyK rfl (.tmp 43) (.tmp 44) _ _ (by rfl) (by rfl) (by rfl) (c1 _) ?_))
 go_region_law_o (refine step_copyK rfl (.tmp 50) (.tmp 53) _ _ rfl (by simp [Act.eval, Act.put]) (by simp [Act.eval, Act.put]) (c2 _) ?_)
 go_wp2
 go_ret
 exact ⟨_, rfl, HF.out.1, HF.out.2⟩
set_option maxRecDepth 100000 in
set_option maxHeartbeats 8000000 in
theorem insBk_room (g c i : Nat) (l : List Bk) (b : Bk) (gv base : Nat) (w w0 : World) (ho : Owns EBk w base 100 (.slice (some ⟨g, 0, none⟩) l.length c) l) (hi : i < l.length) (hl : l.length <= 600) (hc : l.length + 1 <= c) (hv : Blk w gv 100 #[.int .i64 b.con, .int .i64 b.beg, .int .i64 b.en, .int .i64 b.tic]) (hne : gv ≠ g) (hE : Ext w0 w) (h0 : w0.heap.size <= base) :
 Calls Tryz.prog 171 #[.slice (some ⟨g, 0, none⟩) l.length c, .int .i64 i, .slice (some ⟨gv, 0, none⟩) 1 1] w fun e w' => ∃ u, e = .returned u /\ Owns EBk w' base 100 u (l.take i ++ b :: l.drop i) /\ Ext w0 w' := by
 obtain ⟨i0, hi0, hz0, hz1, hz2⟩ := info_parts info_bkI
 obtain ⟨cur, hbg, hk0, hcm, hcs, hcl⟩ : ∃ cur : Array Value, base <= g /\ w.heap[g]? = some (.cells cur 100 (0, 0)) /\ c <= maxLen /\ cur.size = c * 4 /\ cur.toList.take (l.length * 4) = EBk.all l := by
  rcases ho.2 with ⟨h, _⟩ | ⟨g', cap, cur, hv', hgb, hh, hnc, hcm, hsz, ht⟩
  ·cases h
  ·injection hv' with e1 e2 e3
   injection e1 with e1
   injection e1 with e1
   subst e1 e3
   exact ⟨cur, hgb, hh, hcm, hsz, ht⟩
 have hR := ho.rd
 obtain ⟨n, hn⟩ : ∃ n, l.length = n := ⟨_, rfl⟩
 obtain ⟨k, hk⟩ : ∃ k, n = i + k := ⟨n - i, by omega⟩
 rw [hn] at hcl hc
 have hcells : ∀ j u, (EBk.all l)[j]? = some u -> w.cell? ⟨g, j, none⟩ = some u := fun j u hu => by
  obtain ⟨ad, e, _, h2⟩ := hR.2 (by omega)
  injection e with e
  subst e
  have := h2 j u hu
  rwa [Addr.add_lit, Nat.zero_add] at this
 have hld : (EBk.all (l.drop i)).length = k * 4 := by rw [EBk.all_len, List.length_drop, hn, hk, Nat.add_sub_cancel_left]; rfl
 have hat : EBk.all (l.take i) = (EBk.all l).take (i * 4) := all_take EBk l i (by omega)
 have had : EBk.all (l.drop i) = (EBk.all l).drop (i * 4) := all_drop EBk l i (by omega)
 have hct : cur.toList.take (i * 4) = EBk.all (l.take i) := by
  rw [hat, <- hcl, List.take_take, Nat.min_eq_left (by omega)]
 obtain ⟨k1, hk1⟩ : ∃ k1, k1 = k + 1 := ⟨_, rfl⟩
 have hgl : g < w.heap.size := (Array.getElem?_eq_some_iff.1 hk0).1
 have c1 := fun ty => run_copy_rowK (P := Tryz.prog) w.drew 80 80 ty 100 4 g ((i + 1) * 4) k (c - (i + 1)) ⟨g, i * 4, none⟩ k1 (c - i) cur 100 (EBk.all (l.drop i)) Tryz.underlying80 (by rw [hi0]; simp [hz1]) hk0 k (by show min k1 k = k; omega) hld
  (fun j u hu => by
   rw [Addr.add_lit]
   refine hcells _ _ ?_
   rw [had, List.getElem?_drop] at hu
   exact hu) (by rw [hld, hcs]; omega) (fun v hvv => EBk.all_one _ v hvv)
 obtain ⟨c3, hc3⟩ : ∃ c3, cur.toList.take ((i + 1) * 4) ++ EBk.all (l.drop i) ++ cur.toList.drop ((i + 1) * 4 + (EBk.all (l.drop i)).length) = c3 := ⟨_, rfl⟩
 rw [hc3] at c1
 have hl3 : c3.length = c * 4 := by rw [<- hc3]; simp only [List.length_append, List.length_take, List.length_drop, Array.length_toList, hld, hcs]; omega
 obtain ⟨W3, hW3⟩ : ∃ W3, w.drew.setRow g c3.toArray = W3 := ⟨_, rfl⟩
 rw [hW3] at c1
 have hk3 : W3.heap[g]? = some (.cells c3.toArray 100 (0, 0)) := by rw [<- hW3]; exact setRow_heap w.drew _ _ _ _ _ hk0
 have hg3 : w.drew.grownBy W3 (some g) := by rw [<- hW3]; exact setRow_kept
 have hB3 : Ext w0 W3 := ext_of_grown hE.drew hg3 (by omega)
 have hv3 : Blk W3 gv 100 #[.int .i64 b.con, .int .i64 b.beg, .int .i64 b.en, .int .i64 b.tic] := Blk.kept (w := w.drew) hv hg3 (fun e => by injection e with e; exact hne e)
 have c2 := fun ty => run_copy_rowK (P := Tryz.prog) W3 80 80 ty 100 4 g (i * 4) k1 (c - i) ⟨gv, 0, none⟩ 1 1 c3.toArray 100 b.cells Tryz.underlying80 (by rw [hi0]; simp [hz1]) hk3 1 (by show min 1 k1 = 1; omega) rfl
  (fun j u hu => by rw [Addr.add_lit, Nat.zero_add, hv3.cell, List.getElem?_toArray]; exact hu) (by show i * 4 + 4 <= c3.toArray.size; rw [List.size_toArray, hl3]; omega) (fun v hvv => EBk.one b v hvv)
 obtain ⟨c4, hc4⟩ : ∃ c4, c3.toArray.toList.take (i * 4) ++ b.cells ++ c3.toArray.toList.drop (i * 4 + b.cells.length) = c4 := ⟨_, rfl⟩
 rw [hc4] at c2
 have hl4 : c4.length = c * 4 := by rw [<- hc4]; simp only [List.length_append, List.length_take, List.length_drop, hl3]; show min (i * 4) (c * 4) + 4 + (c * 4 - (i * 4 + 4)) = c * 4; omega
 obtain ⟨W4, hW4⟩ : ∃ W4, W3.setRow g c4.toArray = W4 := ⟨_, rfl⟩
 rw [hW4] at c2
 have hk4 : W4.heap[g]? = some (.cells c4.toArray 100 (0, 0)) := by rw [<- hW4]; exact setRow_heap W3 _ _ _ _ _ hk3
 have hg4 : W3.grownBy W4 (some g) := by rw [<- hW4]; exact setRow_kept
 have hB4 : Ext w0 W4 := ext_of_grown hB3 hg4 (by omega)
 have hins := ins_room EBk (y := b) (show i <= l.length by omega) cur.toList c3 c4 hct (by rw [Array.length_toList, hcs]; show (i + 1) * 4 <= c * 4; omega) _ hc3.symm hc4.symm
 have hml : (l.take i ++ b :: l.drop i).length = n + 1 := by simp; omega
 have hfin : Owns EBk W4 base 100 (.slice (some ⟨g, 0, none⟩) (n + 1) c) (l.take i ++ b :: l.drop i) := by
  have := owns_row EBk (m := l.take i ++ b :: l.drop i) (c := c) (base := base) hk4 hbg (by rw [hml]; exact hc) hcm (by rw [List.size_toArray, hl4]; rfl) (by rw [hml, <- hn]; exact hins)
  rw [hml] at this
  exact this
 have HF := Lib.hid (And.intro hfin hB4)
 have hov : ∀ lb cb, (callFunc 247 #[.slice (some ⟨gv, 0, none⟩) 1 1, .slice (some ⟨g, (i + 1) * 4, none⟩) lb cb]).run Tryz.prog w = .ok (.value (.bool false)) w := fun lb cb => by
  rw [run_callFunc_extern Tryz.func247 (by kernel_rfl) (by kernel_rfl) (by kernel_rfl) (e := Extern.SlicesOverlaps.overlaps #[80, 80] #[4]) (by kernel_rfl),
   Lib.run_overlaps_apart w 80 4 100 Tryz.underlying80 4 (fun w => by rw [run_sizeOf w hi0, show Tryz.prog.cellsOf 100 = 4 by kernel_rfl]) ⟨gv, 0, none⟩ ⟨g, (i + 1) * 4, none⟩ 1 1 lb cb hne 100 100 4 (c * 4) (by have h := hv; unfold Blk at h; simp [World.shape?, h]) (by simp [World.shape?, hk0, hcs]) (by omega) (hv.frozen 0) (hv.frozen 4)]
  rfl
 have q1 : ∀ w, (Instr.slice 80 (.slice (some ⟨g, 0, none⟩) n c) (some (.int .i64 i)) none none).run Tryz.prog w = .ok (.slice (some ⟨g, i * 4, none⟩) k (c - i)) w := fun w => by
  have := run_from (P := Tryz.prog) (g := g) (n := n) (c := c) (k := i) Tryz.underlying80 hi0 hz1 (by omega) (by omega) w
  rw [show n - i = k by omega] at this
  exact this
 have q2 : ∀ w, (Instr.slice 80 (.slice (some ⟨g, 0, none⟩) n c) none (some (.int .i64 ((n : Int) + 1))) none).run Tryz.prog w = .ok (.slice (some ⟨g, 0, none⟩) (n + 1) c) w := fun w => by
  rw [show ((n : Int) + 1) = ((n + 1 : Nat) : Int) by omega]
  exact run_high Tryz.underlying80 hi0 (by omega) (fun a e => by injection e with e; subst e; rfl) w
 have q5 : ∀ w, (Instr.slice 80 (.slice (some ⟨g, 0, none⟩) (n + 1) c) (some (.int .i64 i)) none none).run Tryz.prog w = .ok (.slice (some ⟨g, i * 4, none⟩) k1 (c - i)) w := fun w => by
  have := run_from (P := Tryz.prog) (g := g) (n := n + 1) (c := c) (k := i) Tryz.underlying80 hi0 hz1 (by omega) (by omega) w
  rw [show n + 1 - i = k1 by omega] at this
  exact this
 have q4 : ∀ w, (Instr.slice 80 (.slice (some ⟨g, 0, none⟩) (n + 1) c) (some (.int .i64 ((i : Int) + 1))) none none).run Tryz.prog w = .ok (.slice (some ⟨g, (i + 1) * 4, none⟩) k (c - (i + 1))) w := fun w => by
  have := run_from (P := Tryz.prog) (g := g) (n := n + 1) (c := c) (k := i + 1) Tryz.underlying80 hi0 hz1 (by omega) (by omega) w
  rw [show n + 1 - (i + 1) = k by omega] at this
  rw [show ((i : Int) + 1) = ((i + 1 : Nat) : Int) by omega]
  exact this
 have d1 : ((i : Int) == (n : Int)) = false := by rw [beq_eq_false_iff_ne]; omega
 have d2 : decide ((c : Int) < (n : Int) + 1) = false := decide_eq_false (by omega)
 have d3 : decide (c < n + 1) = false := decide_eq_false (by omega)
 have hmix : Tryz.prog.follows .mixedOrders = true := by kernel_rfl
 have hw1 : IntKind.i64.wrap ((i : Int) + 1) = (i : Int) + 1 := by rw [IntKind.wrap_i64]; omega
 have hn6 : n <= 600 := by omega
 have hin : i < n := by omega
 rw [hn]
 clear hfin hins hml hk4 hg4 hB4 hl4 hc4 hk3 hg3 hB3 hl3 hc3 hv3 hct hcs had hat hld hcells hR hk0 ho hn hk hk1 hcl hcm
 go_enter Tryz.func171, Tryz.ntmps171
 go_wp2_with (simp only [hov])
 go_region_law_o (refine step_copyK rfl (.tmp 73) (.tmp 76) _ _ rfl (by simp [Act.eval, Act.put]) (by simp [Act.eval, Act.put]) (c1 _) ?_)
 go_wp2_with (at_builtin; refine wpList_copyK rfl (.tmp 80) (.tmp 81) _ _ (by rfl) (by rfl) (by rfl) (c2 _) ?_)
 go_ret
 exact ⟨_, rfl, HF.out.1, HF.out.2⟩
end
section
open Go.RowKit Go.Shelf
attribute [local go_sem] Oper.semAt_some
set_option maxHeartbeats 1000000 in
theorem cloneBk_any (A : Option Addr) (c : Nat) (l : List Bk) (w : World) (hA : Rd EBk w A l) (hmax : l.length <= 1000000) :
 Calls Tryz.prog 172 #[.slice A l.length c] w fun e w' => ∃ v, e = .returned v /\ Owns EBk w' w.heap.size 100 v l /\ Ext w w' := by
 obtain ⟨i0, hi0, hz0, hz1, hz2⟩ := info_parts info_bkI
 have q22 : ∀ (w : World) (a : Option Addr) (n c n' c' : Nat), (binOp .eql 80 (.slice a n c) (.slice none n' c')).run Tryz.prog w = .ok (.bool a.isNone) w := fun w a n c n' c' => Lib.run_eql_slice_nil w _ _ a n c n' c' Tryz.underlying80
 cases A with
 | none =>
   have hl : l = [] := by
    cases l with
    | nil => rfl
    | cons x l => obtain ⟨b, o, h, _⟩ := hA.at (k := 0) (by simp); cases h
   subst hl
   go_enter Tryz.func172, Tryz.ntmps172
   go_wp2
   go_ret
   exact ⟨_, rfl, Owns.none_ _ _, Ext.refl _⟩
 | some a =>
   go_enter Tryz.func172, Tryz.ntmps172
   go_wp2_with (at_builtin; refine wpList_cat rfl (.tmp 5) (.tmp 6) _ rfl w.heap.size 100 i0 _ 32 Tryz.underlying80 hi0 hz0 hz1 hz2 rfl (.slice (some ⟨w.heap.size, 0, none⟩) 0 0) rfl (Owns.made w w.heap.size _ (Nat.le_refl _)) c _ rfl rfl (hA.ext ((Ext.refl _).alloc _)) (by simp [maxLen]; omega) (by simp; omega) (by simp) ?_; intro v6 w6 hv6 hg6 hat6)
   go_ret
   exact ⟨_, rfl, hv6, ext_grown ((Ext.refl w).alloc _) (Owns.made (E := EBk) w w.heap.size _ (Nat.le_refl _)) (Nat.le_refl _) hg6⟩
theorem insBk_any (A : Option Addr) (c : Nat) (l : List Bk) (b : Bk) (gv i base : Nat) (w w0 : World) (ho : Owns EBk w base 100 (.slice A l.length c) l) (hi : i <= l.length) (hl : l.length <= 600) (hv : Blk w gv 100 #[.int .i64 b.con, .int .i64 b.beg, .int .i64 b.en, .int .i64 b.tic]) (hne : ∀ g, (Value.slice A l.length c).ownBlock = some g -> gv ≠ g) (hE : Ext w0 w) (h0 : w0.heap.size <= base) (hb : base <= w.heap.size) :
 Calls Tryz.prog 171 #[.slice A l.length c, .int .i64 i, .slice (some ⟨gv, 0, none⟩) 1 1] w fun e w' => ∃ u, e = .returned u /\ Owns EBk w' base 100 u (l.take i ++ b :: l.drop i) /\ Ext w0 w' := by
 rcases Nat.eq_or_lt_of_le hi with rfl | hlt
 ·rw [List.take_of_length_le (Nat.le_refl _), List.drop_eq_nil_of_le (Nat.le_refl _)]
  exact insBk_end A c l b gv base w w0 ho hl hv hE h0 hb
 ·have h2 := ho
  rcases h2.2 with ⟨_, h3⟩ | ⟨g, cap, cur, hv', _⟩
  ·omega
  ·injection hv' with e1 e2 e3
   subst e1
   by_cases hc : c < l.length + 1
   ·exact insBk_grow g c i l b gv base w w0 ho hlt hl hc hv (hne g rfl) hE h0 hb
   ·exact insBk_room g c i l b gv base w w0 ho hlt hl (by omega) hv (hne g rfl) hE h0
set_option maxRecDepth 100000 in
set_option maxHeartbeats 4000000 in
theorem insert_any (A : Option Addr) (c : Nat) (l : List Bk) (b : Bk) (w : World) (hA : Rd EBk w A l) (hl : l.length <= 600) (hm : ∀ x y, x <= y -> y < l.length -> bkCmp (gbk l y) b < 0 -> bkCmp (gbk l x) b < 0) :
 Calls Tryz.prog 92 #[.slice A l.length c, b.val] w fun e w' => ∃ i u, e = .returned u /\ BsP l b i /\ Owns EBk w' w.heap.size 100 u (l.take i ++ b :: l.drop i) /\ Ext w w' := by
 have G1 := Lib.hid (fun w h => bsearchBk_any A c l b w h (by omega) hm)
 have G2 := Lib.hid (fun w h => cloneBk_any A c l w h (by omega))
 have G3 := Lib.hid (fun A' c' gv i base w w0 ho hi hv hne hE h0 hb => insBk_any A' c' l b gv i base w w0 ho hi hl hv hne hE h0 hb)
 clear hm
 obtain ⟨bc, bb, be, bt⟩ := b
 unfold Bk.val at G1 ⊢
 dsimp only at G1 G3 ⊢
 obtain ⟨W1, hW1, hB1, hk1, hl1⟩ := box1 w #[.int .i64 bc, .int .i64 bb, .int .i64 be, .int .i64 bt] 100
 have c1 := hk1.cell
 have c2 := hk1.lt
 go_enter Tryz.func92, Tryz.ntmps92
 go_wp2_with fail
 clear hW1
 refine Calls.mono (G1.out W1 (hA.ext hB1)) ?_
 rintro e w2 ⟨i, f, rfl, hbs, hb2⟩
 have hE2 := hB1.trans hb2
 have kb2 := hk1.ext hb2
 have HBS := Lib.hid hbs
 have hil := hbs.le
 clear c1 c2 hbs
 have c1 := kb2.cell
 have c2 := kb2.lt
 go_upto_region 2 with fail
 have near := near_of9 w2
 refine wp_region_P (fun _ => false) (fun w' => Ext w2 w' /\ ∀ b o, b < w2.heap.size -> w'.cell? ⟨b, o, none⟩ = w2.cell? ⟨b, o, none⟩) (by kernel_rfl) (near _ (Ext.refl w2).drew) (fun _ => ?_)
 refine pT 0 (v := ?_) rfl (fun _ _ _ h => h) (by kernel_rfl) ?_ ?_
 rotate_left
 ·intro w'; go_simp; first | done | with_reducible rfl
 try simp only [Act.put, List.getElem_toArray, List.getElem_cons_succ, List.getElem_cons_zero, sp1]
 refine pT 2 (v := ?_) rfl (fun _ _ _ h => h) (by kernel_rfl) ?_ ?_
 rotate_left
 ·intro w'; go_simp; first | done | with_reducible rfl
 try simp only [Act.put, List.getElem_toArray, List.getElem_cons_succ, List.getElem_cons_zero, sp1]
 refine pK 3 (v := ?_) rfl (fun _ _ _ h => h) (by kernel_rfl) ?_ (by assumption) ?_
 rotate_left
 ·intro w' hw'
  (try have hC := hw'.2)
  (try have hC9 := hw'.1)
  go_simp
  first | done | with_reducible rfl
 try simp only [Act.put, List.getElem_toArray, List.getElem_cons_succ, List.getElem_cons_zero, sp1]
 refine wpAnyP_ready (rs := [1, 4]) (by kernel_rfl) (by simp) ?_
 refine AllReadyP.cons rfl (fun K hK => ?_) (AllReadyP.cons rfl (fun K hK => ?_) AllReadyP.nil)
 ·go_simp
  refine Calls.mono (G2.out w2.drew (hA.ext (hE2.drew))) ?_
  rintro e w7 ⟨u7, rfl, ho7, hb7⟩
  obtain ⟨A7, c7, rfl, hR7⟩ := ho7.form
  have hx7 := (Ext.refl w2).drew.trans hb7
  refine hK.out _ _ (fun _ _ => near _ hx7) ?_
  clear hK K
  obtain ⟨w8, hV8, hB8, kz8, lz8⟩ := box1 w7 #[.int .i64 bc, .int .i64 bb, .int .i64 be, .int .i64 bt] 100
  have hx8 := hx7.trans hB8
  refine pO 4 rfl (fun K hK => ?_)
  go_simp
  refine hK.out _ _ (fun _ _ => near _ hx8) ?_
  clear hK K hV8
  refine pO 5 rfl (fun K hK => ?_)
  go_simp
  refine Calls.mono (G3.out A7 c7 w7.heap.size i w2.heap.size w8 w2 (ho7.ext hB8) hil kz8 (fun g hg e => by have := (ho7.block hg).2; omega) hx8 (Nat.le_refl _) hx8.size) ?_
  rintro e w9 ⟨u9, rfl, ho9, hx9⟩
  refine hK.out _ _ (fun _ _ => near _ hx9) ?_
  clear hK K
  refine pT 6 (v := ?_) rfl (fun _ _ _ h => h) (by kernel_rfl) ?_ ?_
  rotate_left
  ·intro w'; go_simp; first | done | with_reducible rfl
  try simp only [Act.put, List.getElem_toArray, List.getElem_cons_succ, List.getElem_cons_zero, sp1]
  (try simp only [List.getElem_toArray, List.getElem_cons_succ, List.getElem_cons_zero, Act.put, sp1])
  refine wpAnyP_done (by kernel_rfl) ?_ _
  go_wp2
  go_ret
  exact ⟨i, u9, rfl, HBS.out, ho9.mono hE2.size, hE2.trans hx9⟩
 ·obtain ⟨w7, hV7, hB7, kz7, lz7⟩ := box1 w2.drew #[.int .i64 bc, .int .i64 bb, .int .i64 be, .int .i64 bt] 100
  have hx7 := (Ext.refl w2).drew.trans hB7
  go_simp
  refine hK.out _ _ (fun _ _ => near _ hx7) ?_
  clear hK K hV7
  refine pO 1 rfl (fun K hK => ?_)
  go_simp
  refine Calls.mono (G2.out w7 (hA.ext (hE2.trans hx7))) ?_
  rintro e w8 ⟨u8, rfl, ho8, hb8⟩
  obtain ⟨A8, c8, rfl, hR8⟩ := ho8.form
  have hx8 := hx7.trans hb8
  have lz7' : w2.heap.size < w7.heap.size := lz7
  refine hK.out _ _ (fun _ _ => near _ hx8) ?_
  clear hK K
  refine pO 5 rfl (fun K hK => ?_)
  go_simp
  refine Calls.mono (G3.out A8 c8 w2.heap.size i w7.heap.size w8 w2 ho8 hil (kz7.ext hb8) (fun g hg e => by have := (ho8.block hg).1; omega) hx8 (by omega) hb8.size) ?_
  rintro e w9 ⟨u9, rfl, ho9, hx9⟩
  refine hK.out _ _ (fun _ _ => near _ hx9) ?_
  clear hK K
  refine pT 6 (v := ?_) rfl (fun _ _ _ h => h) (by kernel_rfl) ?_ ?_
  rotate_left
  ·intro w'; go_simp; first | done | with_reducible rfl
  try simp only [Act.put, List.getElem_toArray, List.getElem_cons_succ, List.getElem_cons_zero, sp1]
  (try simp only [List.getElem_toArray, List.getElem_cons_succ, List.getElem_cons_zero, Act.put, sp1])
  refine wpAnyP_done (by kernel_rfl) ?_ _
  go_wp2
  go_ret
  exact ⟨i, u9, rfl, HBS.out, ho9.mono (by have := hE2.size; omega), hE2.trans hx9⟩
end
end Go.Proofs.YtemkpimngbbpkaaGreat

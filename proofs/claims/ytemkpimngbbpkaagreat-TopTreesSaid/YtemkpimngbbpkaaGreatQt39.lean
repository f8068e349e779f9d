/- Update: the table of newest changes, read and written. · Update: the table of newest changes, with what it holds. · Update: the closure of contacts; the names of contacts are keys. · Update: equality of changes, run. · Update: a look-up answers one change, whatever has been laid since. · Update: what contacts keeps, plain. · slices.SortFunc of a slice of the call's own, at structs, empty ones too. -/
import Derived.Maps.Views
import Derived.Laws.StructEq
import Derived.Shelf.SlSortCmp.NoneTotal
import Derived.Test.YtemkpimngbbpkaaGreatQt01
import Derived.Test.YtemkpimngbbpkaaGreatQt02
import Derived.Test.YtemkpimngbbpkaaGreatQt37
import Derived.Test.YtemkpimngbbpkaaGreatQt38
namespace Go.Proofs.YtemkpimngbbpkaaGreat
set_option linter.unusedVariables false
set_option linter.unusedSimpArgs false
section
open Go.RowKit Go.Shelf Go.Sort
theorem nameCells : Tryz.prog.cellsOf 244 = 3 := by kernel_rfl
theorem intCells : Tryz.prog.cellsOf 3 = 1 := by kernel_rfl
theorem nameType : Tryz.prog.keyType 244 = true := by kernel_rfl
theorem nameLits (d : Nat) {a b c : Int} (ha : (Lit.int .i64 a).wf = true) (hb : (Lit.int .i64 b).wf = true) (hc : (Lit.int .i64 c).wf = true) :
 Tryz.prog.keyLits (d + 2) 244 [.int .i64 a, .int .i64 b, .int .i64 c] = some [.int .i64 a, .int .i64 b, .int .i64 c] := by
 simp [Program.keyLits, Tryz.underlying244, Tryz.underlying3, nameCells, intCells, ha, hb, hc]
theorem nameKey {a b c : Int} (ha : (Lit.int .i64 a).wf = true) (hb : (Lit.int .i64 b).wf = true) (hc : (Lit.int .i64 c).wf = true) :
 ∃ kl, keyOf Tryz.prog 244 (.agg #[.int .i64 a, .int .i64 b, .int .i64 c]) = some kl := by
 obtain ⟨d, hd⟩ : ∃ d, Tryz.prog.types.size + 1 = d + 2 := ⟨Tryz.prog.types.size - 1, by have h : (0 : Nat) < Tryz.prog.types.size := Nat.lt_of_le_of_lt (Nat.zero_le _) nameRow; omega⟩
 have hf : (Value.agg #[.int .i64 a, .int .i64 b, .int .i64 c]).formed Tryz.prog 244 = true := by simp [Value.formed, Tryz.underlying244, nameCells]
 unfold keyOf
 rw [Tryz.underlying244]
 simp only [nameType, hf, Bool.and_self, if_true]
 rw [hd]
 have h := nameLits d ha hb hc
 simp only [Value.cells]
 rw [h]
 exact ⟨_, rfl⟩
open Classical in
noncomputable def RChg (v : Value) : Option (DataW Unit × List MemPlace) := if ∃ y : Chg, v = .agg y.arr then some (.nil, []) else none
theorem RChg.of (y : Chg) : RChg (.agg y.arr) = some (.nil, []) := by unfold RChg; rw [if_pos ⟨y, rfl⟩]
theorem RChg.inv {v : Value} {z : DataW Unit × List MemPlace} (h : RChg v = some z) : ∃ y : Chg, v = .agg y.arr := by
 unfold RChg at h
 split at h
 ·assumption
 ·cases h
def TabU (w : World) (b n : Nat) : Prop := ∃ D, w.ownsMap Tryz.prog 244 RChg b n D
theorem TabU.made (w : World) : TabU (w.alloc (.map #[] 0)) w.heap.size 0 := ⟨_, World.ownsMap_made w _ _ _⟩
end
section
open Go.RowKit Go.Shelf Go.Sort
def TabS (S : Chg -> Prop) (K : Lit -> Prop) (w : World) (b n : Nat) : Prop := ∃ es clock D, w.heap[b]? = some (.map es clock) /\ WideElems.Fit Tryz.prog 244 RChg es clock /\ es.size <= n /\ D = .map ((es.toList.map (WideElems.rg Tryz.prog 244 RChg)).foldr DataW.insert []) /\
 (∀ e ∈ es.toList, ∃ y : Chg, S y /\ e.val = .agg y.arr) /\ (∀ k, K k -> ∀ zd, DataW.atKey D k zd = .nil)
theorem TabS.made (S : Chg -> Prop) (w : World) : TabS S (fun _ => False) (w.alloc (.map #[] 0)) w.heap.size 0 := by
 obtain ⟨D, es, clock, h1, h2, h3, h4⟩ := TabU.made w
 have : es = #[] := Array.eq_empty_of_size_eq_zero (by omega)
 subst this
 exact ⟨_, clock, D, h1, h2, h3, h4, by simp, fun k h => h.elim⟩
theorem TabS.look2 {S : Chg -> Prop} {K : Lit -> Prop} {w : World} {b n : Nat} (h : TabS S K w b n) {key : Value} {kl : Lit} (hkey : keyOf Tryz.prog 244 key = some kl) :
 ∃ (y : Chg) (is : Bool), (Instr.lookup 252 (.map (some b)) key true).run Tryz.prog w = .ok (.tuple #[.agg y.arr, .bool is]) w /\ (is = true -> TabS S (fun k => K k ∨ k = kl) w b n) := by
 obtain ⟨es, clock, D, hb, F, h3, rfl, hS, hK⟩ := h
 have hz : (zeroValue 63).run Tryz.prog w = .ok (.agg (Chg.arr ⟨0, 0, 0, 0, ⟨0, 0, 0, 0, 0, 0, 0⟩⟩)) w := by kernel_rfl
 rcases Maps.fit_look true nameKeyed Tryz.underlying252 hz hb F hkey with ⟨hr, _⟩ | ⟨e0, y, he0, _, hr, hR, hat, _⟩
 ·exact ⟨_, false, hr, fun h => absurd h Bool.false_ne_true⟩
 ·obtain ⟨y', hy'⟩ := RChg.inv hR
  refine ⟨y', true, by rw [hr, hy']; rfl, fun _ => ⟨es, clock, _, hb, F, h3, rfl, hS, ?_⟩⟩
  have hy1 : y = (.nil, []) := by
   have h9 := RChg.of y'
   rw [<- hy'] at h9
   exact Option.some.inj (hR.symm.trans h9)
  intro k hk zd
  rcases hk with hk | hk
  ·exact hK k hk zd
  ·subst hk
   rw [hat zd, hy1]
theorem TabS.put {S : Chg -> Prop} {K : Lit -> Prop} {w : World} {b n : Nat} (h : TabS S K w b n) (hn : n < maxLen) {key : Value} {kl : Lit} (hkey : keyOf Tryz.prog 244 key = some kl) (y : Chg) (hy : S y) :
 ∃ w', (Instr.mapUpdate 252 (.map (some b)) key (.agg y.arr)).run Tryz.prog w = .ok () w' /\ TabS S (fun k => K k ∨ k = kl) w' b (n + 1) /\ w.grownBy w' (some b) := by
 obtain ⟨es, clock, D, hb, F, hs, rfl, hS, hK⟩ := h
 obtain ⟨es', clock', hrun, F', hput, _, _, hall⟩ := Maps.fit_store (R' := RChg) nameKeyed Tryz.underlying252 hb F (Nat.lt_of_le_of_lt hs hn) (fun _ _ _ _ hz => hz) hkey (RChg.of y)
 refine ⟨_, hrun, ⟨es', clock', _, ChangeMaps.heap_setBlock_same hb _, F', ?_, rfl, ?_, ?_⟩, ⟨rfl, rfl, rfl, by simp [ChangeMaps.setBlock], fun i _ hi => ChangeMaps.heap_setBlock_other hb _ (fun e => hi (by rw [e]))⟩⟩
 ·have e1 : es'.size = ((es'.toList.map (WideElems.rg Tryz.prog 244 RChg)).foldr DataW.insert []).length := by rw [length_sorted]; simp
  rw [e1, hput]
  unfold ChangeMaps.putKey
  rw [length_insert]
  have e2 := List.length_filter_le (ChangeMaps.notKey kl) ((es.toList.map (WideElems.rg Tryz.prog 244 RChg)).foldr DataW.insert [])
  rw [length_sorted] at e2
  simp at e2
  omega
 ·intro e he
  rcases hall e he with ⟨h1, _⟩ | ⟨_, h2⟩
  ·exact hS e h1
  ·exact ⟨y, hy, h2⟩
 ·intro k hk zd
  have hD : (DataW.map ((es'.toList.map (WideElems.rg Tryz.prog 244 RChg)).foldr DataW.insert []) : DataW Unit) = (DataW.map ((es.toList.map (WideElems.rg Tryz.prog 244 RChg)).foldr DataW.insert [])).put kl .nil := by
   rw [DataW.put_eq, hput]
  rw [hD]
  by_cases e : k = kl
  ·subst e
   exact Maps.atKey_put_same ⟨_, rfl⟩ (nameKeyed.key hkey) _ _
  ·rw [Maps.atKey_put_other e]
   exact hK k (hk.resolve_right e) zd
theorem TabS.ext {S : Chg -> Prop} {K : Lit -> Prop} {w w' : World} {b n : Nat} (h : TabS S K w b n) (hx : Ext w w') : TabS S K w' b n := by
 obtain ⟨es, clock, D, hb, h⟩ := h
 exact ⟨es, clock, D, by rw [hx.block b (Array.getElem?_eq_some_iff.1 hb).1]; exact hb, h⟩
end
section
open Go.RowKit Go.Shelf Go.Sort
attribute [local go_sem] Oper.semAt_some
theorem con1_pred (g : Nat) (x : Chg) (w : World) (hg : Blk w g 63 x.arr) : PredC w 148 #[.pointer (some ⟨g, 0, none⟩)] (fun d => d.overlapB x.con) := by
 refine ⟨enters_of Tryz.func148 (by kernel_rfl) rfl, fun d w1 hw => ?_⟩
 obtain ⟨W, hW, hB, hk, hlt⟩ := box1 w1 #[.int .i64 d.src, .int .i64 d.dst, .int .i64 d.st, .int .i64 d.en, .int .i64 d.rate, .int .i64 d.rng, .int .i64 d.loss] 61
 have hc := hk.cell
 have hd := ((hg.ext hw).ext hB).cell
 have he := ((hg.ext hw).ext hB).lt
 unfold Chg.arr at hd
 have ho := fun w => Overlap_any d x.con w
 unfold Con.val at ho
 obtain ⟨v, hv⟩ : ∃ v, d.overlapB x.con = v := ⟨_, rfl⟩
 rw [hv] at ho ⊢
 clear hv
 go_enter Tryz.func148, Tryz.ntmps148
 go_wp2_with fail
 clear hW
 refine (ho _).mono ?_
 rintro e w2 ⟨rfl, hb2⟩
 go_wp2
 go_ret
 exact ⟨rfl, hB.trans hb2⟩
def ConK (c : Con) : Prop := (0 <= c.src /\ c.src <= 1099511627776) /\ (0 <= c.dst /\ c.dst <= 1099511627776) /\ (0 <= c.st /\ c.st <= 1099511627776)
theorem wf_i64 {a : Int} (h : 0 <= a /\ a <= 1099511627776) : (Lit.int .i64 a).wf = true := by
 have h1 : IntKind.i64.min = -9223372036854775808 := by decide
 have h2 : IntKind.i64.max = 9223372036854775807 := by decide
 simp only [Lit.wf, h1, h2, Bool.and_eq_true, decide_eq_true_eq]
 omega
theorem ConK.key {c : Con} (h : ConK c) : ∃ kl, keyOf Tryz.prog 244 (.agg #[.int .i64 c.src, .int .i64 c.dst, .int .i64 c.st]) = some kl :=
 nameKey (wf_i64 h.1) (wf_i64 h.2.1) (wf_i64 h.2.2)
end
section
open Go.RowKit Go.Shelf Go.Sort
theorem eqlCon_run (x y : Con) (d : Nat) (w : World) : (Op.equalIn (d + 2) 61 (.agg #[.int .i64 x.src, .int .i64 x.dst, .int .i64 x.st, .int .i64 x.en, .int .i64 x.rate, .int .i64 x.rng, .int .i64 x.loss]) (.agg #[.int .i64 y.src, .int .i64 y.dst, .int .i64 y.st, .int .i64 y.en, .int .i64 y.rate, .int .i64 y.rng, .int .i64 y.loss])).run Tryz.prog w = .ok (conEq x y) w := by
 have hs : Tryz.prog.stoodInHeld 61 = false := by kernel_rfl
 have hu := Tryz.underlying61
 have hf : Tryz.prog.underlying 61 = some (.struct (Tryz.prog.fieldsOf 61)) := by rw [hu]; simp [Program.fieldsOf, hu]
 rw [run_equalIn_struct w (d + 1) _ _ _ hf hs]
 simp [Program.fieldsOf, hu, Op.eqFields, go_sem, Result.andThen, Tryz.underlying3, Tryz.isAgg3, Tryz.sizeOf3, conEq]
 by_cases h0 : x.src = y.src <;> simp [h0]
 by_cases h1 : x.dst = y.dst <;> simp [h1]
 by_cases h2 : x.st = y.st <;> simp [h2]
 by_cases h3 : x.en = y.en <;> simp [h3]
 by_cases h4 : x.rate = y.rate <;> simp [h4]
 by_cases h5 : x.rng = y.rng <;> simp [h5]
 by_cases h6 : x.loss = y.loss <;> simp [h6]
theorem eqChg_in (x y : Chg) (w : World) : (Op.equalIn 10000 63 (.agg x.arr) (.agg y.arr)).run Tryz.prog w = .ok (chgEq x y) w := by
 have hs : Tryz.prog.stoodInHeld 63 = false := by kernel_rfl
 have hu := Tryz.underlying63
 have hf : Tryz.prog.underlying 63 = some (.struct (Tryz.prog.fieldsOf 63)) := by rw [hu]; simp [Program.fieldsOf, hu]
 have hc := eqlCon_run x.con y.con 9997 w
 rw [show (10000 : Nat) = 9999 + 1 from rfl, run_equalIn_struct w 9999 _ _ _ hf hs]
 unfold Chg.arr
 simp [Program.fieldsOf, hu, Op.eqFields, go_sem, Result.andThen, Tryz.underlying3, Tryz.isAgg3, Tryz.sizeOf3, Tryz.isAgg61, Tryz.sizeOf61, hc]
 unfold chgEq
 by_cases h0 : x.org = y.org <;> simp [h0]
 by_cases h1 : x.cnt = y.cnt <;> simp [h1]
 by_cases h2 : x.stp = y.stp <;> simp [h2]
 by_cases h3 : x.kind = y.kind <;> simp [h3]
 cases conEq x.con y.con <;> simp
theorem eqlChg_run (x y : Chg) (w : World) : (binOp .eql 63 (.agg x.arr) (.agg y.arr)).run Tryz.prog w = .ok (.bool (chgEq x y)) w := by
 rw [run_eql_struct, eqChg_in]
 rfl
end
section
open Go.RowKit Go.Shelf Go.Sort
theorem same_of_keys : ∀ {es : List MapEntry}, (es.map (·.key)).Nodup -> ∀ {a b : MapEntry}, a ∈ es -> b ∈ es -> a.key = b.key -> a = b
 | [], _, a, _, ha, _, _ => by cases ha
 | x :: r, h, a, b, ha, hb, e => by
   rw [List.map_cons, List.nodup_cons] at h
   rcases List.mem_cons.1 ha with ha1 | ha1
   ·rcases List.mem_cons.1 hb with hb1 | hb1
    ·rw [ha1, hb1]
    ·exact absurd (List.mem_map.2 ⟨b, hb1, by rw [<- e, ha1]⟩) h.1
   ·rcases List.mem_cons.1 hb with hb1 | hb1
    ·exact absurd (List.mem_map.2 ⟨a, ha1, by rw [e, hb1]⟩) h.1
    ·exact same_of_keys h.2 ha1 hb1 e
theorem TabS.lookE {S : Chg -> Prop} {K : Lit -> Prop} {w : World} {b n : Nat} (h : TabS S K w b n) {key : Value} {kl : Lit} (hkey : keyOf Tryz.prog 244 key = some kl) (hk : K kl) :
 ∃ y : Chg, S y /\ ∀ w', Ext w w' -> (Instr.lookup 252 (.map (some b)) key false).run Tryz.prog w' = .ok (.agg y.arr) w' := by
 obtain ⟨es, clock, D, hb, F, h3, rfl, hS, hK⟩ := h
 have hz : ∀ w, (zeroValue 63).run Tryz.prog w = .ok (.agg (Chg.arr ⟨0, 0, 0, 0, ⟨0, 0, 0, 0, 0, 0, 0⟩⟩)) w := fun w => by kernel_rfl
 have all : ∀ w', Ext w w' -> ∃ e0, e0 ∈ es.toList /\ e0.key = key /\ (Instr.lookup 252 (.map (some b)) key false).run Tryz.prog w' = .ok e0.val w' := fun w' hx => by
  have hb' : w'.heap[b]? = some (.map es clock) := by rw [hx.block b (Array.getElem?_eq_some_iff.1 hb).1]; exact hb
  rcases Maps.fit_look false nameKeyed Tryz.underlying252 (hz w') hb' F hkey with ⟨_, _, hat⟩ | ⟨e0, y, he0, hke, hr, _⟩
  ·have h1 := hat (.lit (.int .i64 0))
   rw [hK kl hk] at h1
   cases h1
  ·exact ⟨e0, he0, hke, hr⟩
 obtain ⟨e0, he0, hke0, _⟩ := all w (Ext.refl w)
 obtain ⟨y, hy, hy'⟩ := hS e0 he0
 refine ⟨y, hy, fun w' hx => ?_⟩
 obtain ⟨e1, he1, hke1, hr1⟩ := all w' hx
 have he : e1 = e0 := same_of_keys F.stamped.2.2 he1 he0 (hke1.trans hke0.symm)
 rw [hr1, he, hy']
end
section
open Go.RowKit
theorem keepC_step {l : List Con} {k : Nat} (h : k < l.length) : keepC (l.take (k + 1)) = if (keepC (l.take k)).any (fun d => d.overlapB l[k]) then keepC (l.take k) else keepC (l.take k) ++ [l[k]] := by
 rw [<- List.take_append_getElem h]
 unfold keepC
 rw [List.foldl_append]
 rfl
theorem keepC_len (l : List Con) : (keepC l).length <= l.length := by
 have := (keepF_spec l [] .nil).2.2
 rw [List.length_nil, Nat.zero_add] at this
 exact this
theorem hChk_ok {n : Int} {l : List Chg} (h : hChk n l = 0) : (1 <= n /\ n <= 16) /\ l.length <= 1000 /\ ∀ y ∈ l, y.ok n = true := by
 unfold hChk at h
 split at h
 ·omega
 ·split at h
  ·omega
  ·refine ⟨by omega, by omega, fun y hy => ?_⟩
   obtain ⟨i, hi, rfl⟩ := List.mem_iff_getElem.1 hy
   exact (chkF_at h i hi).1
theorem Chg.ok_con {n : Int} {y : Chg} (h : y.ok n = true) (hn : n <= 16) : ConK y.con /\ (y.kind = 1 -> y.con.Ok /\ y.con.src < n /\ y.con.dst < n) := by
 unfold Chg.ok Chg.cok inN at h
 simp only [Bool.and_eq_true, decide_eq_true_eq] at h
 obtain ⟨_, h1, h2, h3⟩ := h
 unfold ConK
 split at h3
 ·simp only [decide_eq_true_eq] at h3
  have h4 := (Con.check_iff _).1 h3
  have h5 := h4.st0
  have h6 := h4.st1
  have h8 := h4.rng0
  have h7 := h4.en1
  exact ⟨by omega, fun _ => ⟨h4, h1.2, h2.2⟩⟩
 ·rename_i e1
  split at h3
  ·simp only [Bool.and_eq_true, decide_eq_true_eq] at h3
   exact ⟨by omega, fun e => absurd e e1⟩
  ·cases h3
end
section
open Go.RowKit Go.Shelf Go.Sort
theorem sortF_own0 {α : Type} [Inhabited α] (E : Elt α) {P : Program} {ρ : Ren} (L : Go.Proofs.SlLaysF0.n6 P ρ) (cf : α -> α -> Int) (fv : Value) (base : Nat) (t : TypeId) (u : Value) (zs : List α) (w : World) (hu : Owns E w base t u zs) (h0 : zs.length = 0) :
 Calls P (ρ.f 6) #[u, fv] w fun e w' => e = .returned (.tuple #[]) /\ ∃ ts : List α, ts.Perm zs /\ ts.Pairwise (fun x y => ltOf cf y x = false) /\ Owns E w' base t u ts /\ w.grownBy w' u.ownBlock := by
 obtain rfl : zs = [] := List.eq_nil_of_length_eq_zero h0
 obtain ⟨A, c, rfl, _⟩ := hu.form
 refine (AnyF.slices_SortFunc_none L A c fv w).mono ?_
 rintro e w' ⟨rfl, rfl⟩
 exact ⟨rfl, [], .nil, .nil, hu, World.grownBy.refl _ _⟩
theorem sortNew_all (base : Nat) (u : Value) (zs : List Chg) (w : World) (hu : Owns EChg w base 63 u zs) (hm : zs.length <= 1000000) :
 Calls Tryz.prog 60 #[u, .func (.func 147) #[] #[]] w fun e w' => e = .returned (.tuple #[]) /\ ∃ ts : List Chg, ts.Perm zs /\ ts.Pairwise (fun x y => ltOf newC y x = false) /\ Owns EChg w' base 63 u ts /\ w.grownBy w' u.ownBlock := by
 rcases Nat.eq_zero_or_pos zs.length with h | h
 ·exact sortF_own0 EChg Tryz.sortChg newC _ base _ u zs w hu h
 ·exact sortNew_own base u zs w hu ⟨h, hm⟩
theorem sortCon_all (base : Nat) (u : Value) (zs : List Con) (w : World) (hu : Owns ECon w base 61 u zs) (hm : zs.length <= 1000000) :
 Calls Tryz.prog 65 #[u, .func (.func 66) #[] #[]] w fun e w' => e = .returned (.tuple #[]) /\ ∃ ts : List Con, ts.Perm zs /\ ts.Pairwise (fun x y => ltOf conC y x = false) /\ Owns ECon w' base 61 u ts /\ w.grownBy w' u.ownBlock := by
 rcases Nat.eq_zero_or_pos zs.length with h | h
 ·exact sortF_own0 ECon Tryz.sortCon conC _ base _ u zs w hu h
 ·exact sortCon_own base u zs w hu ⟨h, hm⟩
end
end Go.Proofs.YtemkpimngbbpkaaGreat

/- slices.SortFunc at changes and at contacts: the library's contract, laid at this seat by the kit's lay-plain.mjs. · slices.SortFunc of a slice of the call's own, at structs. · Update: sorting changes and contacts; update.with. · Update: with. · Update: Put. · Update: the table of newest changes (keys: names). · Update: the table of newest changes, read and written. · Update: the table of newest changes, with what it holds. · Update: the closure of contacts; the names of contacts are keys. · Update: equality of changes, run. · Update: a look-up answers one change, whatever has been laid since. · Update: what contacts keeps, plain. · slices.SortFunc of a slice of the call's own, at structs, empty ones too. -/
import Derived.Shelf.SlSortCmp.WholeK
import Derived.Sort.OwnSortedInts
import Derived.BigRegion
import Derived.DeepKeys4
import Derived.Maps.Own
import Derived.Maps.OwnOps
import Derived.Maps.OwnSet
import Derived.Maps.Views
import Derived.Laws.StructEq
import Derived.Shelf.SlSortCmp.NoneTotal
import Derived.Test.YtemkpimngbbpkaaGreatQs01
import Derived.Test.YtemkpimngbbpkaaGreatQs03
import Derived.Test.YtemkpimngbbpkaaGreatQs10
import Derived.Test.YtemkpimngbbpkaaGreatQs37
namespace Go.Proofs
set_option linter.unusedVariables false
set_option linter.unusedSimpArgs false
open Go.Shelf
def Tryz.sortChg_ren : Go.Shelf.Ren := ⟨fun | 6 => 60 | 15 => 146 | 14 => 145 | 28 => 223 | 29 => 224 | 20 => 215 | 21 => 216 | 22 => 217 | 23 => 218 | 24 => 219 | 25 => 220 | 26 => 221 | 27 => 222 | 46 => 281 | 47 => 282 | 48 => 283 | 49 => 284 | 50 => 285 | 57 => 321 | n => n, fun | 22 => 54 | 24 => 63 | 25 => 149 | 3 => 3 | 39 => 251 | 0 => 0 | 53 => 335 | 55 => 323 | 4 => 4 | 46 => 329 | 45 => 328 | 50 => 227 | 5 => 5 | 9 => 9 | 66 => 400 | 70 => 202 | 76 => 438 | 77 => 439 | n => n, fun | n => n⟩
theorem Tryz.sortChg : Go.Proofs.SlLaysF0.n6 Tryz.prog Tryz.sortChg_ren := {
 mixed := by kernel_rfl
 f6 := ⟨Tryz.f60.name, by decide, Tryz.func60.trans (congrArg some (by kernel_rfl))⟩
 f14 := ⟨Tryz.f145.name, by decide, Tryz.func145.trans (congrArg some (by kernel_rfl))⟩
 f15 := Tryz.func146.trans (congrArg some (by kernel_rfl))
 f20 := ⟨Tryz.f215.name, by decide, Tryz.func215.trans (congrArg some (by kernel_rfl))⟩
 f21 := ⟨Tryz.f216.name, by decide, Tryz.func216.trans (congrArg some (by kernel_rfl))⟩
 f22 := ⟨Tryz.f217.name, by decide, Tryz.func217.trans (congrArg some (by kernel_rfl))⟩
 f23 := ⟨Tryz.f218.name, by decide, Tryz.func218.trans (congrArg some (by kernel_rfl))⟩
 f24 := ⟨Tryz.f219.name, by decide, Tryz.func219.trans (congrArg some (by kernel_rfl))⟩
 f25 := ⟨Tryz.f220.name, by decide, Tryz.func220.trans (congrArg some (by kernel_rfl))⟩
 f26 := ⟨Tryz.f221.name, by decide, Tryz.func221.trans (congrArg some (by kernel_rfl))⟩
 f27 := ⟨Tryz.f222.name, by decide, Tryz.func222.trans (congrArg some (by kernel_rfl))⟩
 f28 := Tryz.func223.trans (congrArg some (by kernel_rfl))
 f29 := Tryz.func224.trans (congrArg some (by kernel_rfl))
 f46 := ⟨Tryz.f281.name, by decide, Tryz.func281.trans (congrArg some (by kernel_rfl))⟩
 f47 := Tryz.func282.trans (congrArg some (by kernel_rfl))
 f48 := Tryz.func283.trans (congrArg some (by kernel_rfl))
 f49 := ⟨Tryz.f284.name, by decide, Tryz.func284.trans (congrArg some (by kernel_rfl))⟩
 f50 := ⟨Tryz.f285.name, by decide, Tryz.func285.trans (congrArg some (by kernel_rfl))⟩
 f57 := ⟨Tryz.f321.name, by decide, Tryz.func321.trans (congrArg some (by kernel_rfl))⟩
 t0 := Tryz.underlying0
 a0 := Tryz.isAgg0
 z0 := Tryz.sizeOf0
 v0 := Tryz.zeroValue0
 t3 := Tryz.underlying3
 a3 := Tryz.isAgg3
 z3 := Tryz.sizeOf3
 v3 := Tryz.zeroValue3
 t4 := Tryz.underlying4
 a4 := Tryz.isAgg4
 z4 := Tryz.sizeOf4
 v4 := Tryz.zeroValue4
 t5 := Tryz.underlying5
 a5 := Tryz.isAgg5
 z5 := Tryz.sizeOf5
 v5 := Tryz.zeroValue5
 t9 := Tryz.underlying9
 a9 := Tryz.isAgg9
 z9 := Tryz.sizeOf9
 v9 := Tryz.zeroValue9
 t22 := Tryz.underlying54
 a22 := Tryz.isAgg54
 z22 := Tryz.sizeOf54
 v22 := Tryz.zeroValue54
 t25 := Tryz.underlying149
 a25 := Tryz.isAgg149
 z25 := Tryz.sizeOf149
 v25 := Tryz.zeroValue149
 t39 := Tryz.underlying251
 a39 := Tryz.isAgg251
 z39 := Tryz.sizeOf251
 v39 := Tryz.zeroValue251
 t45 := Tryz.underlying328
 a45 := Tryz.isAgg328
 z45 := Tryz.sizeOf328
 v45 := Tryz.zeroValue328
 t46 := Tryz.underlying329
 a46 := Tryz.isAgg329
 z46 := Tryz.sizeOf329
 v46 := Tryz.zeroValue329
 t50 := Tryz.underlying227
 a50 := Tryz.isAgg227
 z50 := Tryz.sizeOf227
 v50 := Tryz.zeroValue227
 t53 := Tryz.underlying335
 a53 := Tryz.isAgg335
 z53 := Tryz.sizeOf335
 v53 := Tryz.zeroValue335
 t55 := Tryz.underlying323
 a55 := Tryz.isAgg323
 z55 := Tryz.sizeOf323
 v55 := Tryz.zeroValue323
 t66 := Tryz.underlying400
 a66 := Tryz.isAgg400
 z66 := Tryz.sizeOf400
 v66 := Tryz.zeroValue400
 t70 := Tryz.underlying202
 a70 := Tryz.isAgg202
 z70 := Tryz.sizeOf202
 v70 := Tryz.zeroValue202
 t76 := Tryz.underlying438
 a76 := Tryz.isAgg438
 z76 := Tryz.sizeOf438
 v76 := Tryz.zeroValue438
 t77 := Tryz.underlying439
 a77 := Tryz.isAgg439
 z77 := Tryz.sizeOf439
 v77 := Tryz.zeroValue439 }
def Tryz.sortCon_ren : Go.Shelf.Ren := ⟨fun | 6 => 65 | 15 => 146 | 14 => 149 | 28 => 223 | 29 => 224 | 20 => 225 | 21 => 226 | 22 => 227 | 23 => 228 | 24 => 229 | 25 => 230 | 26 => 231 | 27 => 232 | 46 => 286 | 47 => 282 | 48 => 283 | 49 => 287 | 50 => 288 | 57 => 322 | n => n, fun | 22 => 46 | 24 => 61 | 25 => 157 | 3 => 3 | 39 => 251 | 0 => 0 | 53 => 335 | 55 => 323 | 4 => 4 | 46 => 329 | 45 => 328 | 50 => 227 | 5 => 5 | 9 => 9 | 66 => 400 | 70 => 202 | 76 => 438 | 77 => 439 | n => n, fun | n => n⟩
theorem Tryz.sortCon : Go.Proofs.SlLaysF0.n6 Tryz.prog Tryz.sortCon_ren := {
 mixed := by kernel_rfl
 f6 := ⟨Tryz.f65.name, by decide, Tryz.func65.trans (congrArg some (by kernel_rfl))⟩
 f14 := ⟨Tryz.f149.name, by decide, Tryz.func149.trans (congrArg some (by kernel_rfl))⟩
 f15 := Tryz.func146.trans (congrArg some (by kernel_rfl))
 f20 := ⟨Tryz.f225.name, by decide, Tryz.func225.trans (congrArg some (by kernel_rfl))⟩
 f21 := ⟨Tryz.f226.name, by decide, Tryz.func226.trans (congrArg some (by kernel_rfl))⟩
 f22 := ⟨Tryz.f227.name, by decide, Tryz.func227.trans (congrArg some (by kernel_rfl))⟩
 f23 := ⟨Tryz.f228.name, by decide, Tryz.func228.trans (congrArg some (by kernel_rfl))⟩
 f24 := ⟨Tryz.f229.name, by decide, Tryz.func229.trans (congrArg some (by kernel_rfl))⟩
 f25 := ⟨Tryz.f230.name, by decide, Tryz.func230.trans (congrArg some (by kernel_rfl))⟩
 f26 := ⟨Tryz.f231.name, by decide, Tryz.func231.trans (congrArg some (by kernel_rfl))⟩
 f27 := ⟨Tryz.f232.name, by decide, Tryz.func232.trans (congrArg some (by kernel_rfl))⟩
 f28 := Tryz.func223.trans (congrArg some (by kernel_rfl))
 f29 := Tryz.func224.trans (congrArg some (by kernel_rfl))
 f46 := ⟨Tryz.f286.name, by decide, Tryz.func286.trans (congrArg some (by kernel_rfl))⟩
 f47 := Tryz.func282.trans (congrArg some (by kernel_rfl))
 f48 := Tryz.func283.trans (congrArg some (by kernel_rfl))
 f49 := ⟨Tryz.f287.name, by decide, Tryz.func287.trans (congrArg some (by kernel_rfl))⟩
 f50 := ⟨Tryz.f288.name, by decide, Tryz.func288.trans (congrArg some (by kernel_rfl))⟩
 f57 := ⟨Tryz.f322.name, by decide, Tryz.func322.trans (congrArg some (by kernel_rfl))⟩
 t0 := Tryz.underlying0
 a0 := Tryz.isAgg0
 z0 := Tryz.sizeOf0
 v0 := Tryz.zeroValue0
 t3 := Tryz.underlying3
 a3 := Tryz.isAgg3
 z3 := Tryz.sizeOf3
 v3 := Tryz.zeroValue3
 t4 := Tryz.underlying4
 a4 := Tryz.isAgg4
 z4 := Tryz.sizeOf4
 v4 := Tryz.zeroValue4
 t5 := Tryz.underlying5
 a5 := Tryz.isAgg5
 z5 := Tryz.sizeOf5
 v5 := Tryz.zeroValue5
 t9 := Tryz.underlying9
 a9 := Tryz.isAgg9
 z9 := Tryz.sizeOf9
 v9 := Tryz.zeroValue9
 t22 := Tryz.underlying46
 a22 := Tryz.isAgg46
 z22 := Tryz.sizeOf46
 v22 := Tryz.zeroValue46
 t25 := Tryz.underlying157
 a25 := Tryz.isAgg157
 z25 := Tryz.sizeOf157
 v25 := Tryz.zeroValue157
 t39 := Tryz.underlying251
 a39 := Tryz.isAgg251
 z39 := Tryz.sizeOf251
 v39 := Tryz.zeroValue251
 t45 := Tryz.underlying328
 a45 := Tryz.isAgg328
 z45 := Tryz.sizeOf328
 v45 := Tryz.zeroValue328
 t46 := Tryz.underlying329
 a46 := Tryz.isAgg329
 z46 := Tryz.sizeOf329
 v46 := Tryz.zeroValue329
 t50 := Tryz.underlying227
 a50 := Tryz.isAgg227
 z50 := Tryz.sizeOf227
 v50 := Tryz.zeroValue227
 t53 := Tryz.underlying335
 a53 := Tryz.isAgg335
 z53 := Tryz.sizeOf335
 v53 := Tryz.zeroValue335
 t55 := Tryz.underlying323
 a55 := Tryz.isAgg323
 z55 := Tryz.sizeOf323
 v55 := Tryz.zeroValue323
 t66 := Tryz.underlying400
 a66 := Tryz.isAgg400
 z66 := Tryz.sizeOf400
 v66 := Tryz.zeroValue400
 t70 := Tryz.underlying202
 a70 := Tryz.isAgg202
 z70 := Tryz.sizeOf202
 v70 := Tryz.zeroValue202
 t76 := Tryz.underlying438
 a76 := Tryz.isAgg438
 z76 := Tryz.sizeOf438
 v76 := Tryz.zeroValue438
 t77 := Tryz.underlying439
 a77 := Tryz.isAgg439
 z77 := Tryz.sizeOf439
 v77 := Tryz.zeroValue439 }
namespace YtemkpimngbbpkaaGreat
open Go.RowKit Go.Sort
end YtemkpimngbbpkaaGreat
end Go.Proofs
namespace Go.Proofs.YtemkpimngbbpkaaGreat
set_option linter.unusedVariables false
set_option linter.unusedSimpArgs false
section
open Go.RowKit Go.Shelf Go.Sort
theorem flat_all {α : Type} [Inhabited α] (E : Elt α) (d : Array α) : (Go.Sort.flatK E.cells E.size d).toList = E.all d.toList := by
 apply List.ext_getElem?
 intro t
 by_cases h : t < d.size * E.size
 ·have hk : t / E.size < d.size := (Nat.div_lt_iff_lt_mul E.pos).2 h
  have hm : t % E.size < E.size := Nat.mod_lt _ E.pos
  have h1 := E.all_at d.toList (t / E.size) (by simpa using hk) (t % E.size) hm
  rw [Nat.mul_comm, Nat.div_add_mod] at h1
  rw [h1, Array.getElem?_toList, Array.getElem?_eq_getElem (by simpa using h)]
  have h2 := get_flatK E.cells E.size d t h
  rw [getElem!_pos _ t (by simpa using h), getElem!_pos d _ hk] at h2
  rw [h2]
  have hl : t % E.size < (E.cells d[t / E.size]).length := by rw [E.len]; exact hm
  simp [List.getElem?_eq_getElem hl, hl]
 ·rw [List.getElem?_eq_none (by simp; omega), List.getElem?_eq_none (by rw [E.all_len]; simp; omega)]
theorem holds_of_blockV {w : World} {g : Nat} {cur : Array Value} {e : TypeId} {vs : List Value} (hb : w.heap[g]? = some (.cells cur e (0, 0))) (ht : cur.toList.take vs.length = vs) : Holds id w g 0 vs.toArray := by
 intro j hj
 have hj' : j < vs.length := by simpa using hj
 refine ⟨?_, by simp [World.frozen?, hb]⟩
 have h1 : (cur.toList.take vs.length)[j]? = vs[j]? := by rw [ht]
 rw [List.getElem?_take_of_lt hj'] at h1
 simp only [World.cell?, hb, Nat.zero_add]
 simp only [Option.isSome_none, Bool.false_eq_true, if_false]
 rw [<- Array.getElem?_toList, h1]
 simp [hj']
theorem heap_sortedV {w : World} {g n : Nat} {os : Array Obj} {cur : Array Value} {e : TypeId} {fr : Nat × Nat} (d : Array Value) (hb : w.heap[g]? = some (.cells cur e fr)) :
 (grow (putRow id (Sort.ahead w n) g 0 d) os).heap[g]? = some (.cells (putCells id 0 d cur) e fr) := by
 have hg : g < w.heap.size := (Array.getElem?_eq_some_iff.1 hb).1
 rw [heap_grow_old _ _ (by simpa using hg)]
 simp [putRow, mapBlock, Sort.ahead, Array.getElem?_modify, hb, onCells]
theorem grownBy_sortedV {w : World} {g n : Nat} {os : Array Obj} (d : Array Value) : w.grownBy (grow (putRow id (Sort.ahead w n) g 0 d) os) (some g) := by
 refine ⟨rfl, rfl, rfl, by simp, fun k hk hne => ?_⟩
 rw [heap_grow_old _ _ (by simpa using hk)]
 have : g ≠ k := fun e => hne (by rw [e])
 simp [putRow, mapBlock, Sort.ahead, Array.getElem?_modify, this]
theorem take_putCellsV (cur : Array Value) (ts : List Value) (h : ts.length <= cur.size) : (putCells id 0 ts.toArray cur).toList.take ts.length = ts := by
 apply List.ext_getElem?
 intro j
 by_cases hj : j < ts.length
 ·rw [List.getElem?_take_of_lt hj, Array.getElem?_toList]
  simp [putCells, hj, show j < cur.size by omega]
 ·rw [List.getElem?_take_eq_none (by omega), List.getElem?_eq_none (by omega)]
theorem perm_toList {α : Type} [Inhabited α] {d d' : Array α} (h : PermIn 0 d.size d d') : d'.toList.Perm d.toList := by
 obtain ⟨hs, _, hp⟩ := h
 rw [show d.extract 0 d.size = d by simp] at hp
 rwa [show d'.extract 0 d.size = d' by rw [<- hs]; simp] at hp
theorem sorted_toList {α : Type} [Inhabited α] {lt : α -> α -> Bool} {d' : Array α} {n : Nat} (hn : d'.size = n) (h : SortedIn lt 0 n d') : d'.toList.Pairwise (fun x y => lt y x = false) := by
 subst hn
 rw [List.pairwise_iff_getElem]
 intro i j hi hj hij
 have h1 := h i j (Nat.zero_le _) hij (by simpa using hj)
 rw [getElem!_pos d' j (by simpa using hj), getElem!_pos d' i (by simpa using hi)] at h1
 simpa using h1
theorem sortF_own {α : Type} [Inhabited α] (E : Elt α) {P : Program} {ρ : Ren} (L : Go.Proofs.SlLaysF0.n6 P ρ) (aE : ∀ w, (isAgg (ρ.t 24)).run P w = .ok true w) (zE : ∀ w, (Go.sizeOf (ρ.t 24)).run P w = .ok E.size w) (cf : α -> α -> Int) (hO : SWO (ltOf cf)) (f : Nat)
 (ef : ∀ args w, (callFunc f args).run P w = .ok (.enter f args) w) (hcmp : ∀ blk off size w, CmpLays P f #[] E.cells E.size cf blk off size w)
 (base : Nat) (t : TypeId) (u : Value) (zs : List α) (w : World) (hu : Owns E w base t u zs) (hm : 1 <= zs.length /\ zs.length <= 1000000) :
 Calls P (ρ.f 6) #[u, .func (.func f) #[] #[]] w fun e w' => e = .returned (.tuple #[]) /\ ∃ ts : List α, ts.Perm zs /\ ts.Pairwise (fun x y => ltOf cf y x = false) /\ Owns E w' base t u ts /\ w.grownBy w' u.ownBlock := by
 rcases hu.2 with ⟨rfl, h0⟩ | ⟨g, cap, cur, rfl, hg, hh, h1, h2, h3, h4⟩
 ·omega
 ·have hcon := AnyQ.slices_SortFunc L E.size aE zE E.cells E.len E.one cf hO f #[] g 0 cap zs.toArray w ef (hcmp _ _ _ _) (by
   have := holds_of_blockV (vs := E.all zs) hh (by rw [E.all_len]; exact h4)
   unfold HoldsK
   rwa [<- Array.toArray_toList (xs := Go.Sort.flatK E.cells E.size zs.toArray), flat_all]) (Array.getElem?_eq_some_iff.1 hh).1 (by simp; omega)
  simp only [List.size_toArray] at hcon
  refine hcon.mono ?_
  rintro e w' ⟨rfl, d', n, os, hp, hs, rfl⟩
  have hsz : d'.size = zs.length := by simpa using hp.1
  refine ⟨rfl, d'.toList, by simpa using perm_toList hp, sorted_toList hsz hs, ?_, ?_⟩
  ·have hx : sortWorldK E.cells E.size w g 0 n d' os = grow (putRow id (Sort.ahead w n) g 0 (E.all d'.toList).toArray) os := by
    unfold sortWorldK putRowK
    rw [<- Array.toArray_toList (xs := Go.Sort.flatK E.cells E.size d'), flat_all]
   have hL : (E.all d'.toList).length = zs.length * E.size := by rw [E.all_len]; simp [hsz]
   rw [hx]
   refine ⟨by rw [E.all_len], .inr ⟨g, cap, _, by simp [hsz], hg, heap_sortedV _ hh, by simpa [hsz] using h1, h2, by simpa [putCells] using h3, ?_⟩⟩
   have h5 : zs.length * E.size <= cur.size := by rw [h3]; exact Nat.mul_le_mul_right _ h1
   have h6 := take_putCellsV cur (E.all d'.toList) (by rw [hL]; exact h5)
   rw [E.all_len] at h6
   exact h6
  ·exact grownBy_sortedV _
end
section
open Go.RowKit Go.Shelf Go.Sort
attribute [local go_sem] Oper.semAt_some
theorem cmpI_neg {x y : Int} : cmpI x y < 0 ↔ x < y := by unfold cmpI; split <;> (try split) <;> omega
theorem orL2_neg (a b : Int) : orL [a, b] < 0 ↔ a < 0 ∨ a = 0 /\ b < 0 := by
 simp only [orL]
 split <;> (try split) <;> omega
theorem orL3_neg (a b c : Int) : orL [a, b, c] < 0 ↔ a < 0 ∨ a = 0 /\ (b < 0 ∨ b = 0 /\ c < 0) := by
 simp only [orL]
 split <;> (try split) <;> (try split) <;> omega
theorem orgC_neg (x y : Chg) : orgC x y < 0 ↔ x.org < y.org ∨ x.org = y.org /\ x.cnt < y.cnt := by
 unfold orgC; rw [orL2_neg, cmpI_neg, cmpI_neg, cmpI_zero]
theorem newC_neg (x y : Chg) : newC x y < 0 ↔ y.stp < x.stp ∨ y.stp = x.stp /\ y.org < x.org := by
 unfold newC; rw [orL2_neg, cmpI_neg, cmpI_neg, cmpI_zero]
theorem conC_neg (x y : Con) : conC x y < 0 ↔ x.src < y.src ∨ x.src = y.src /\ (x.dst < y.dst ∨ x.dst = y.dst /\ x.st < y.st) := by
 unfold conC; rw [orL3_neg, cmpI_neg, cmpI_neg, cmpI_neg, cmpI_zero, cmpI_zero]
theorem swo_org : SWO (ltOf orgC) where
 irrefl x := by unfold ltOf; rw [decide_eq_false_iff_not, orgC_neg]; omega
 trans x y z h1 h2 := by unfold ltOf at *; rw [decide_eq_true_iff, orgC_neg] at *; omega
 ntrans x y z h1 h2 := by unfold ltOf at *; rw [decide_eq_false_iff_not, orgC_neg] at *; omega
theorem swo_new : SWO (ltOf newC) where
 irrefl x := by unfold ltOf; rw [decide_eq_false_iff_not, newC_neg]; omega
 trans x y z h1 h2 := by unfold ltOf at *; rw [decide_eq_true_iff, newC_neg] at *; omega
 ntrans x y z h1 h2 := by unfold ltOf at *; rw [decide_eq_false_iff_not, newC_neg] at *; omega
theorem swo_con : SWO (ltOf conC) where
 irrefl x := by unfold ltOf; rw [decide_eq_false_iff_not, conC_neg]; omega
 trans x y z h1 h2 := by unfold ltOf at *; rw [decide_eq_true_iff, conC_neg] at *; omega
 ntrans x y z h1 h2 := by unfold ltOf at *; rw [decide_eq_false_iff_not, conC_neg] at *; omega
instance : Inhabited Chg := ⟨⟨0, 0, 0, 0, ⟨0, 0, 0, 0, 0, 0, 0⟩⟩⟩
instance : Inhabited Con := ⟨⟨0, 0, 0, 0, 0, 0, 0⟩⟩
theorem sortOrg_own (base : Nat) (u : Value) (zs : List Chg) (w : World) (hu : Owns EChg w base 63 u zs) (hm : 1 <= zs.length /\ zs.length <= 1000000) :
 Calls Tryz.prog 60 #[u, .func (.func 61) #[] #[]] w fun e w' => e = .returned (.tuple #[]) /\ ∃ ts : List Chg, ts.Perm zs /\ ts.Pairwise (fun x y => ltOf orgC y x = false) /\ Owns EChg w' base 63 u ts /\ w.grownBy w' u.ownBlock :=
 sortF_own EChg Tryz.sortChg Tryz.isAgg63 Tryz.sizeOf63 orgC swo_org 61 (enters_of Tryz.func61 (by kernel_rfl) rfl) (fun _ _ _ _ => lays_of (fun x y w => byOrgD_any x y w) _ _ _ _) base _ u zs w hu hm
theorem sortNew_own (base : Nat) (u : Value) (zs : List Chg) (w : World) (hu : Owns EChg w base 63 u zs) (hm : 1 <= zs.length /\ zs.length <= 1000000) :
 Calls Tryz.prog 60 #[u, .func (.func 147) #[] #[]] w fun e w' => e = .returned (.tuple #[]) /\ ∃ ts : List Chg, ts.Perm zs /\ ts.Pairwise (fun x y => ltOf newC y x = false) /\ Owns EChg w' base 63 u ts /\ w.grownBy w' u.ownBlock :=
 sortF_own EChg Tryz.sortChg Tryz.isAgg63 Tryz.sizeOf63 newC swo_new 147 (enters_of Tryz.func147 (by kernel_rfl) rfl) (fun _ _ _ _ => lays_of (fun x y w => newerD_any x y w) _ _ _ _) base _ u zs w hu hm
theorem sortCon_own (base : Nat) (u : Value) (zs : List Con) (w : World) (hu : Owns ECon w base 61 u zs) (hm : 1 <= zs.length /\ zs.length <= 1000000) :
 Calls Tryz.prog 65 #[u, .func (.func 66) #[] #[]] w fun e w' => e = .returned (.tuple #[]) /\ ∃ ts : List Con, ts.Perm zs /\ ts.Pairwise (fun x y => ltOf conC y x = false) /\ Owns ECon w' base 61 u ts /\ w.grownBy w' u.ownBlock :=
 sortF_own ECon Tryz.sortCon Tryz.isAgg61 Tryz.sizeOf61 conC swo_con 66 (enters_of Tryz.func66 (by kernel_rfl) rfl) (fun _ _ _ _ => lays_of (fun x y w => conOrd_any x y w) _ _ _ _) base _ u zs w hu hm
end
section
open Go.RowKit Go.Shelf Go.Sort
attribute [local go_sem] Oper.semAt_some
def WithC (m : List Chg) (base : Nat) (w0 : World) (u : Value) (w : World) : Prop := ∃ A c, u = .slice A m.length c /\ Owns EChg w base 63 (.slice A m.length c) m /\ Ext w0 w
set_option maxRecDepth 100000 in
set_option maxHeartbeats 16000000 in
theorem with_any (n : Int) (A : Option Addr) (c : Nat) (l : List Chg) (x : Chg) (w : World) (hA : Rd EChg w A l) (hl : l.length < 1000) :
 Calls Tryz.prog 119 #[.agg #[.int .i64 n, .slice A l.length c], .agg x.arr] w fun e w' => ∃ u ts, e = .returned (.tuple #[.agg #[.int .i64 n, u], .int .i64 0]) /\ ts.Perm (l ++ [x]) /\ ts.Pairwise (fun x y => ltOf orgC y x = false) /\ Owns EChg w' w.heap.size 63 u ts /\ Ext w w' := by
 obtain ⟨i0, hi0, hz0, hz1, hz2⟩ := info_parts info_chg
 have hlz := Lib.hid hl
 obtain ⟨ln, hln⟩ : ∃ ln, l.length = ln := ⟨_, rfl⟩
 have HLN := Lib.hid hln
 obtain ⟨W1, hW1, hB1, hk1, hl1⟩ := box1 w #[.int .i64 n, .slice A l.length c] 56
 obtain ⟨W2, hW2, hB2, hk2, hl2⟩ := box1 W1 #[.int .i64 x.org, .int .i64 x.cnt, .int .i64 x.stp, .int .i64 x.kind, .int .i64 x.con.src, .int .i64 x.con.dst, .int .i64 x.con.st, .int .i64 x.con.en, .int .i64 x.con.rate, .int .i64 x.con.rng, .int .i64 x.con.loss] 63
 obtain ⟨W3, hW3, hB3, hk3, hl3⟩ := box1 W2 #[.int .i64 0, .slice none 0 0] 56
 have kh := (hk1.ext hB2).ext hB3
 have kx := hk2.ext hB3
 have e1 := kh.cell
 have e2 := kh.lt
 have e3 := kx.cell
 have e4 := kx.lt
 have hE3 := (hB1.trans hB2).trans hB3
 have hA3 := hA.ext hE3
 have f2 := fun w h => cloneChg_any A c l w h (by omega)
 have hd : decide ((l.length : Int) = 1000) = false := decide_eq_false (by omega)
 have hq : ((l.length : Int) == 1000) = false := by rw [beq_eq_false_iff_ne]; omega
 have HCL := Lib.hid (show (EChg.cells x).toArray = #[.int .i64 x.org, .int .i64 x.cnt, .int .i64 x.stp, .int .i64 x.kind, .int .i64 x.con.src, .int .i64 x.con.dst, .int .i64 x.con.st, .int .i64 x.con.en, .int .i64 x.con.rate, .int .i64 x.con.rng, .int .i64 x.con.loss] from rfl)
 clear hln
 unfold Chg.arr
 go_enter Tryz.func119, Tryz.ntmps119
 go_wp2_with fail
 clear hW1 hW2 hW3
 (try simp only [hq])
 have y1 := hB1.size
 have y2 := hB2.size
 have y3 := hB3.size
 go_cut [6] from 12 to 17 (fun u wx => WithC (l ++ [x]) W3.heap.size W3 u wx)
 case first =>
  have near : ∀ w', Ext W3 w' -> Ext W3 w' /\ ∀ b o, b < W3.heap.size -> w'.cell? ⟨b, o, none⟩ = W3.cell? ⟨b, o, none⟩ := fun w' h => ⟨h, fun b o hb => h.cell hb⟩
  refine wp_region_P (fun _ => false) (fun w' => Ext W3 w' /\ ∀ b o, b < W3.heap.size -> w'.cell? ⟨b, o, none⟩ = W3.cell? ⟨b, o, none⟩) (by kernel_rfl) (near _ (Ext.refl W3).drew) (fun _ => ?_)
  refine pT 0 (v := ?_) rfl (fun _ _ _ h => h) (by rfl) ?_ ?_
  rotate_left
  ·intro w'; go_simp; first | done | with_reducible rfl
  try simp only [Act.put, sp1]
  refine pK 1 (v := ?_) rfl (fun _ _ _ h => h) (by rfl) ?_ (by assumption) ?_
  rotate_left
  ·intro w' hw'
   (try have hC := hw'.2)
   (try have hC9 := hw'.1)
   go_simp
   first | done | with_reducible rfl
  try simp only [Act.put, sp1]
  refine pK 3 (v := ?_) rfl (fun _ _ _ h => h) (by rfl) ?_ (by assumption) ?_
  rotate_left
  ·intro w' hw'
   (try have hC := hw'.2)
   (try have hC9 := hw'.1)
   go_simp
   first | done | with_reducible rfl
  try simp only [Act.put, sp1]
  refine wpAnyP_ready (rs := [2, 4]) (by kernel_rfl) (by simp) ?_
  refine AllReadyP.cons rfl (fun K hK => ?_) (AllReadyP.cons rfl (fun K hK => ?_) AllReadyP.nil)
  ·go_simp
   refine (f2 W3.drew (hA3.ext (Ext.refl W3).drew)).mono ?_
   rintro e w4 ⟨u4, rfl, ho4, hb4⟩
   have hx4 := (Ext.refl W3).drew.trans hb4
   replace ho4 : Owns EChg w4 W3.heap.size 63 u4 l := ho4
   obtain ⟨A4, c4, rfl, hR4⟩ := ho4.form
   have hz4 := hx4.size
   refine hK.out _ _ (fun _ _ => near _ hx4) ?_
   clear hK K
   refine pO 4 rfl (fun K hK => ?_)
   go_simp
   refine hK.out _ _ (fun _ _ => near _ (hx4.alloc _)) ?_
   clear hK K
   refine pO 5 rfl (fun K hK => ?_)
   refine step_push (y := x) (by rfl) (.tmp 14) (.tmp 16) _ (by rfl) W3.heap.size 63 i0 _ 88 Tryz.underlying54 hi0 hz0 hz1 hz2 (by rfl) (.slice A4 l.length c4) (by rfl) (ho4.ext ((Ext.refl _).alloc _)) w4.heap.size (by rfl) (by rw [HCL.out]; exact Blk.new w4 _ _) (by have := hlz.out; simp only [maxLen]; omega) (by have := hlz.out; omega) (by simp; omega) ?_
   intro v6 w6 hv6 hg6 hat6
   have hx6 := ext_grown (hx4.alloc _) (ho4.ext ((Ext.refl _).alloc _)) (Nat.le_refl _) hg6
   obtain ⟨A6, c6, rfl, hR6⟩ := hv6.form
   refine hK.out _ _ (fun _ _ => near _ hx6) ?_
   clear hK K
   refine pT 6 (v := ?_) rfl (fun _ _ _ h => h) (by rfl) ?_ ?_
   rotate_left
   ·intro w'; go_simp; first | done | with_reducible rfl
   try simp only [Act.put, sp1]
   simp only [List.getElem_toArray, List.getElem_cons_succ, List.getElem_cons_zero, Act.put, sp1]
   refine wpAnyP_done (by kernel_rfl) ?_ _
   go_wp2
   go_meet
   exact ⟨A6, c6, by rw [List.length_append, List.length_singleton], hv6, hx6⟩
  ·obtain ⟨W5, hW5, hB5, hk5, hl5⟩ := box1 W3.drew #[.int .i64 x.org, .int .i64 x.cnt, .int .i64 x.stp, .int .i64 x.kind, .int .i64 x.con.src, .int .i64 x.con.dst, .int .i64 x.con.st, .int .i64 x.con.en, .int .i64 x.con.rate, .int .i64 x.con.rng, .int .i64 x.con.loss] 63
   have hx5 := (Ext.refl W3).drew.trans hB5
   go_simp
   refine hK.out _ _ (fun _ _ => near _ hx5) ?_
   clear hK K hW5
   refine pO 2 rfl (fun K hK => ?_)
   go_simp
   refine (f2 W5 (hA3.ext hx5)).mono ?_
   rintro e w4 ⟨u4, rfl, ho4, hb4⟩
   have hx4 := hx5.trans hb4
   have hz5 := hx5.size
   replace ho4 : Owns EChg w4 W3.heap.size 63 u4 l := ho4.mono hz5
   obtain ⟨A4, c4, rfl, hR4⟩ := ho4.form
   have hz4 := hx4.size
   have hk9 := hk5.ext hb4
   refine hK.out _ _ (fun _ _ => near _ hx4) ?_
   clear hK K
   refine pO 5 rfl (fun K hK => ?_)
   refine step_push (y := x) (by rfl) (.tmp 14) (.tmp 16) _ (by rfl) W3.heap.size 63 i0 _ 88 Tryz.underlying54 hi0 hz0 hz1 hz2 (by rfl) (.slice A4 l.length c4) (by rfl) (ho4) W3.heap.size (by rfl) (by rw [HCL.out]; exact hk9) (by have := hlz.out; simp only [maxLen]; omega) (by have := hlz.out; omega) (by omega) ?_
   intro v6 w6 hv6 hg6 hat6
   have hx6 := ext_grown (hx4) (ho4) (Nat.le_refl _) hg6
   obtain ⟨A6, c6, rfl, hR6⟩ := hv6.form
   refine hK.out _ _ (fun _ _ => near _ hx6) ?_
   clear hK K
   refine pT 6 (v := ?_) rfl (fun _ _ _ h => h) (by rfl) ?_ ?_
   rotate_left
   ·intro w'; go_simp; first | done | with_reducible rfl
   try simp only [Act.put, sp1]
   simp only [List.getElem_toArray, List.getElem_cons_succ, List.getElem_cons_zero, Act.put, sp1]
   refine wpAnyP_done (by kernel_rfl) ?_ _
   go_wp2
   go_meet
   exact ⟨A6, c6, by rw [List.length_append, List.length_singleton], hv6, hx6⟩
 case rest =>
  obtain ⟨A4, c4, rfl, ho4, hx4⟩ := hcut
  have hz4 := hx4.size
  have f3 := sortOrg_own W3.heap.size _ (l ++ [x]) wc ho4 ⟨by rw [List.length_append, List.length_singleton]; omega, by rw [List.length_append, List.length_singleton]; omega⟩
  obtain ⟨m, hm⟩ : ∃ m, l ++ [x] = m := ⟨_, rfl⟩
  rw [hm] at f3 ho4 ⊢
  have HM := Lib.hid hm
  have kz := hk3.ext hx4
  have kn := kh.ext hx4
  clear hm e1 e3
  go_wp2_with fail
  refine f3.mono ?_
  rintro e w5 ⟨rfl, ts, hp, hs, ho5, hg5⟩
  have hx5 := ext_grown hx4 ho4 (Nat.le_refl _) hg5
  have kz5 := hk3.ext hx5
  have kn5 := kh.ext hx5
  have f1 := kz5.cell
  have f2 := kz5.lt
  have f3 := kz5.frozen
  have g1 := kn5.cell
  have g2 := kn5.lt
  obtain ⟨w7, hw7, hz7, hgr, hE7⟩ : ∃ w7, (w5.setCell ⟨W2.heap.size, 0, none⟩ (.int .i64 n)).setCell ⟨W2.heap.size, 1, none⟩ (.slice A4 m.length c4) = w7 /\ Blk w7 W2.heap.size 56 #[.int .i64 n, .slice A4 m.length c4] /\ w5.grownBy w7 (some W2.heap.size) /\ Ext w w7 :=
   ⟨_, rfl, (kz5.set_ 0 _).set_ 1 _, grown_setCell (grown_setCell (World.grownBy.refl w5 _) _ _) _ _, ((hE3.trans hx5).setCell (by dsimp only; omega) _).setCell (by dsimp only; omega) _⟩
  have ho7 := ho5.kept hgr (fun g hgg e' => by injection e' with e'; have := (ho5.block hgg).1; omega)
  go_wp2
  (try rw [hw7])
  have hc7 := hz7.cell
  refine bodyPost_ret (v := .tuple #[.agg #[.int .i64 n, .slice A4 m.length c4], .int .i64 0]) (by rw [results_cell_tmp rfl]; simp [asAddr, Result.andThen, hc7, go_sem]) rfl ?_
  exact ⟨_, ts, rfl, by rw [HM.out]; exact hp, hs, ho7.mono (by omega), hE7⟩
end
section
open Go.RowKit Go.Shelf Go.Sort
attribute [local go_sem] Oper.semAt_some
set_option maxRecDepth 100000 in
set_option maxHeartbeats 16000000 in
theorem uPut_any (n : Int) (A : Option Addr) (cc : Nat) (l : List Chg) (o : Int) (c : Con) (w : World) (hA : Rd EChg w A l) (hl : l.length < 1000) (hb : ∀ y ∈ l, ChB y) (h0 : hChk n l = 0) (h1 : (nextC l o 1 c).ok n = true) :
 Calls Tryz.prog 41 #[.agg #[.int .i64 n, .slice A l.length cc], .int .i64 o, c.val] w fun e w' => ∃ u ts, e = .returned (.tuple #[.agg #[.int .i64 n, u], .int .i64 0]) /\ ts.Perm (l ++ [nextC l o 1 c]) /\ ts.Pairwise (fun x y => ltOf orgC y x = false) /\ Owns EChg w' w.heap.size 63 u ts /\ Ext w w' := by
 have g0 := fun w h => hCheck_any n A cc l w h
 rw [h0] at g0
 have g1 := fun w h => uNext_any n A cc l o 1 c w h hb (by omega)
 obtain ⟨y, hy⟩ : ∃ y, nextC l o 1 c = y := ⟨_, rfl⟩
 rw [hy] at g1 h1 ⊢
 have g2 := fun w => vChg_any n y w
 rw [h1] at g2
 have g3 := fun w h => with_any n A cc l y w h hl
 clear hy hb h0 h1
 unfold Chg.arr at g1 g2 g3
 obtain ⟨src, dst, st, en, rate, rng, loss⟩ := c
 unfold Con.val at g1 ⊢
 dsimp only at g1 ⊢
 obtain ⟨W1, hW1, hB1, hk1, hl1⟩ := box1 w #[.int .i64 n, .slice A l.length cc] 56
 obtain ⟨W2, hW2, hB2, hk2, hl2⟩ := box1 W1 #[.int .i64 src, .int .i64 dst, .int .i64 st, .int .i64 en, .int .i64 rate, .int .i64 rng, .int .i64 loss] 61
 obtain ⟨W3, hW3, hB3, hk3, hl3⟩ := box1 W2 #[.int .i64 0, .slice none 0 0] 56
 have kh := (hk1.ext hB2).ext hB3
 have kc := hk2.ext hB3
 have e1 := kh.cell
 have e2 := kh.lt
 have hE3 := (hB1.trans hB2).trans hB3
 have y1 := hB1.size
 have y2 := hB2.size
 have y3 := hB3.size
 go_enter Tryz.func41, Tryz.ntmps41
 go_wp2_with fail
 clear hW1 hW2 hW3
 refine (g0 _ (hA.ext hE3)).mono ?_
 rintro e w4 ⟨rfl, hb4⟩
 have hE4 := hE3.trans hb4
 have kh4 := kh.ext hb4
 have kc4 := kc.ext hb4
 have a1 := kh4.cell
 have a2 := kh4.lt
 have a3 := kc4.cell
 have a4 := kc4.lt
 clear e1 e2
 go_wp2_with fail
 refine (g1 _ (hA.ext hE4)).mono ?_
 rintro e w5 ⟨rfl, hb5⟩
 obtain ⟨W6, hW6, hB6, hk6, hl6⟩ := box1 w5 #[.int .i64 y.org, .int .i64 y.cnt, .int .i64 y.stp, .int .i64 y.kind, .int .i64 y.con.src, .int .i64 y.con.dst, .int .i64 y.con.st, .int .i64 y.con.en, .int .i64 y.con.rate, .int .i64 y.con.rng, .int .i64 y.con.loss] 63
 have hE6 := (hE4.trans hb5).trans hB6
 have kh6 := (kh4.ext hb5).ext hB6
 have b1 := kh6.cell
 have b2 := kh6.lt
 have b3 := hk6.cell
 clear a1 a2 a3 a4
 go_wp2_with fail
 clear hW6
 refine (g2 _).mono ?_
 rintro e w7 ⟨rfl, hb7⟩
 have hE7 := hE6.trans hb7
 have kh7 := kh6.ext hb7
 have kx7 := hk6.ext hb7
 have c1 := kh7.cell
 have c2 := kh7.lt
 have c3 := kx7.cell
 have c4 := kx7.lt
 clear b1 b2 b3
 go_wp2_with fail
 refine (g3 _ (hA.ext hE7)).mono ?_
 rintro e w8 ⟨u, ts, rfl, hp, hs, ho8, hb8⟩
 have hE8 := hE7.trans hb8
 have kz8 := ((((hk3.ext hb4).ext hb5).ext hB6).ext hb7).ext hb8
 have f1 := kz8.cell
 have f2 := kz8.lt
 have f3 := kz8.frozen
 have z7 := hE7.size
 have z8 := hb4.size
 have z9 := hb5.size
 have z10 := hB6.size
 have z11 := hb7.size
 obtain ⟨A8, c8, rfl, hR8⟩ := ho8.form
 obtain ⟨w9, hw9, hz9, hgr, hE9⟩ : ∃ w9, (w8.setCell ⟨W2.heap.size, 0, none⟩ (.int .i64 n)).setCell ⟨W2.heap.size, 1, none⟩ (.slice A8 ts.length c8) = w9 /\ Blk w9 W2.heap.size 56 #[.int .i64 n, .slice A8 ts.length c8] /\ w8.grownBy w9 (some W2.heap.size) /\ Ext w w9 :=
  ⟨_, rfl, (kz8.set_ 0 _).set_ 1 _, grown_setCell (grown_setCell (World.grownBy.refl w8 _) _ _) _ _, (hE8.setCell (by dsimp only; omega) _).setCell (by dsimp only; omega) _⟩
 have ho9 := ho8.kept hgr (fun g hgg e' => by injection e' with e'; have := (ho8.block hgg).1; omega)
 clear c1 c2 c3 c4
 go_wp2
 (try rw [hw9])
 have hc9 := hz9.cell
 refine bodyPost_ret (v := .tuple #[.agg #[.int .i64 n, .slice A8 ts.length c8], .int .i64 0]) (by rw [results_cell_tmp rfl]; simp [asAddr, Result.andThen, hc9, go_sem]) rfl ?_
 exact ⟨_, ts, rfl, hp, hs, ho9.mono (by omega), hE9⟩
end
section
open Go.RowKit Go.Shelf Go.Sort
theorem laidOutZ : laidOutB Tryz.prog = true := by kernel_rfl
theorem nameRow : (244 : TypeId) < Tryz.prog.types.size := of_decide_eq_true (by kernel_rfl)
theorem nameLaw : WideMaps.KeyLaw Tryz.prog 244 := deep_law_laid laidOutZ (m := 2) (by omega) nameRow (by kernel_rfl) (by kernel_rfl)
theorem nameKeyed : Maps.Keyed Tryz.prog 244 := Maps.Keyed.of_law nameLaw
end
section
open Go.RowKit Go.Shelf Go.Sort
theorem nameCells : Tryz.prog.cellsOf 244 = 3 := by kernel_rfl
theorem intCells : Tryz.prog.cellsOf 3 = 1 := by kernel_rfl
theorem nameType : Tryz.prog.keyType 244 = true := by kernel_rfl
theorem nameLits (d : Nat) {a b c : Int} (ha : (Lit.int .i64 a).wf = true) (hb : (Lit.int .i64 b).wf = true) (hc : (Lit.int .i64 c).wf = true) :
 Tryz.prog.keyLits (d + 2) 244 [.int .i64 a, .int .i64 b, .int .i64 c] = some [.int .i64 a, .int .i64 b, .int .i64 c] := by
 simp [Program.keyLits, Tryz.underlying244, Tryz.underlying3, nameCells, intCells, ha, hb, hc]
theorem nameKey {a b c : Int} (ha : (Lit.int .i64 a).wf = true) (hb : (Lit.int .i64 b).wf = true) (hc : (Lit.int .i64 c).wf = true) :
 ∃ kl, keyOf Tryz.prog 244 (.agg #[.int .i64 a, .int .i64 b, .int .i64 c]) = some kl := by
 obtain ⟨d, hd⟩ : ∃ d, Tryz.prog.types.size + 1 = d + 2 := ⟨Tryz.prog.types.size - 1, by have h : (0 : Nat) < Tryz.prog.types.size := Nat.lt_of_le_of_lt (Nat.zero_le _) nameRow; omega⟩
 have hf : (Value.agg #[.int .i64 a, .int .i64 b, .int .i64 c]).formed Tryz.prog 244 = true := by simp [Value.formed, Tryz.underlying244, nameCells]
 unfold keyOf
 rw [Tryz.underlying244]
 simp only [nameType, hf, Bool.and_self, if_true]
 rw [hd]
 have h := nameLits d ha hb hc
 simp only [Value.cells]
 rw [h]
 exact ⟨_, rfl⟩
open Classical in
noncomputable def RChg (v : Value) : Option (DataW Unit × List MemPlace) := if ∃ y : Chg, v = .agg y.arr then some (.nil, []) else none
theorem RChg.of (y : Chg) : RChg (.agg y.arr) = some (.nil, []) := by unfold RChg; rw [if_pos ⟨y, rfl⟩]
theorem RChg.inv {v : Value} {z : DataW Unit × List MemPlace} (h : RChg v = some z) : ∃ y : Chg, v = .agg y.arr := by
 unfold RChg at h
 split at h
 ·assumption
 ·cases h
def TabU (w : World) (b n : Nat) : Prop := ∃ D, w.ownsMap Tryz.prog 244 RChg b n D
theorem TabU.made (w : World) : TabU (w.alloc (.map #[] 0)) w.heap.size 0 := ⟨_, World.ownsMap_made w _ _ _⟩
end
section
open Go.RowKit Go.Shelf Go.Sort
def TabS (S : Chg -> Prop) (K : Lit -> Prop) (w : World) (b n : Nat) : Prop := ∃ es clock D, w.heap[b]? = some (.map es clock) /\ WideElems.Fit Tryz.prog 244 RChg es clock /\ es.size <= n /\ D = .map ((es.toList.map (WideElems.rg Tryz.prog 244 RChg)).foldr DataW.insert []) /\
 (∀ e ∈ es.toList, ∃ y : Chg, S y /\ e.val = .agg y.arr) /\ (∀ k, K k -> ∀ zd, DataW.atKey D k zd = .nil)
theorem TabS.made (S : Chg -> Prop) (w : World) : TabS S (fun _ => False) (w.alloc (.map #[] 0)) w.heap.size 0 := by
 obtain ⟨D, es, clock, h1, h2, h3, h4⟩ := TabU.made w
 have : es = #[] := Array.eq_empty_of_size_eq_zero (by omega)
 subst this
 exact ⟨_, clock, D, h1, h2, h3, h4, by simp, fun k h => h.elim⟩
theorem TabS.look2 {S : Chg -> Prop} {K : Lit -> Prop} {w : World} {b n : Nat} (h : TabS S K w b n) {key : Value} {kl : Lit} (hkey : keyOf Tryz.prog 244 key = some kl) :
 ∃ (y : Chg) (is : Bool), (Instr.lookup 252 (.map (some b)) key true).run Tryz.prog w = .ok (.tuple #[.agg y.arr, .bool is]) w /\ (is = true -> TabS S (fun k => K k ∨ k = kl) w b n) := by
 obtain ⟨es, clock, D, hb, F, h3, rfl, hS, hK⟩ := h
 have hz : (zeroValue 63).run Tryz.prog w = .ok (.agg (Chg.arr ⟨0, 0, 0, 0, ⟨0, 0, 0, 0, 0, 0, 0⟩⟩)) w := by kernel_rfl
 rcases Maps.fit_look true nameKeyed Tryz.underlying252 hz hb F hkey with ⟨hr, _⟩ | ⟨e0, y, he0, _, hr, hR, hat, _⟩
 ·exact ⟨_, false, hr, fun h => absurd h Bool.false_ne_true⟩
 ·obtain ⟨y', hy'⟩ := RChg.inv hR
  refine ⟨y', true, by rw [hr, hy']; rfl, fun _ => ⟨es, clock, _, hb, F, h3, rfl, hS, ?_⟩⟩
  have hy1 : y = (.nil, []) := by
   have h9 := RChg.of y'
   rw [<- hy'] at h9
   exact Option.some.inj (hR.symm.trans h9)
  intro k hk zd
  rcases hk with hk | hk
  ·exact hK k hk zd
  ·subst hk
   rw [hat zd, hy1]
theorem TabS.put {S : Chg -> Prop} {K : Lit -> Prop} {w : World} {b n : Nat} (h : TabS S K w b n) (hn : n < maxLen) {key : Value} {kl : Lit} (hkey : keyOf Tryz.prog 244 key = some kl) (y : Chg) (hy : S y) :
 ∃ w', (Instr.mapUpdate 252 (.map (some b)) key (.agg y.arr)).run Tryz.prog w = .ok () w' /\ TabS S (fun k => K k ∨ k = kl) w' b (n + 1) /\ w.grownBy w' (some b) := by
 obtain ⟨es, clock, D, hb, F, hs, rfl, hS, hK⟩ := h
 obtain ⟨es', clock', hrun, F', hput, _, _, hall⟩ := Maps.fit_store (R' := RChg) nameKeyed Tryz.underlying252 hb F (Nat.lt_of_le_of_lt hs hn) (fun _ _ _ _ hz => hz) hkey (RChg.of y)
 refine ⟨_, hrun, ⟨es', clock', _, ChangeMaps.heap_setBlock_same hb _, F', ?_, rfl, ?_, ?_⟩, ⟨rfl, rfl, rfl, by simp [ChangeMaps.setBlock], fun i _ hi => ChangeMaps.heap_setBlock_other hb _ (fun e => hi (by rw [e]))⟩⟩
 ·have e1 : es'.size = ((es'.toList.map (WideElems.rg Tryz.prog 244 RChg)).foldr DataW.insert []).length := by rw [length_sorted]; simp
  rw [e1, hput]
  unfold ChangeMaps.putKey
  rw [length_insert]
  have e2 := List.length_filter_le (ChangeMaps.notKey kl) ((es.toList.map (WideElems.rg Tryz.prog 244 RChg)).foldr DataW.insert [])
  rw [length_sorted] at e2
  simp at e2
  omega
 ·intro e he
  rcases hall e he with ⟨h1, _⟩ | ⟨_, h2⟩
  ·exact hS e h1
  ·exact ⟨y, hy, h2⟩
 ·intro k hk zd
  have hD : (DataW.map ((es'.toList.map (WideElems.rg Tryz.prog 244 RChg)).foldr DataW.insert []) : DataW Unit) = (DataW.map ((es.toList.map (WideElems.rg Tryz.prog 244 RChg)).foldr DataW.insert [])).put kl .nil := by
   rw [DataW.put_eq, hput]
  rw [hD]
  by_cases e : k = kl
  ·subst e
   exact Maps.atKey_put_same ⟨_, rfl⟩ (nameKeyed.key hkey) _ _
  ·rw [Maps.atKey_put_other e]
   exact hK k (hk.resolve_right e) zd
theorem TabS.ext {S : Chg -> Prop} {K : Lit -> Prop} {w w' : World} {b n : Nat} (h : TabS S K w b n) (hx : Ext w w') : TabS S K w' b n := by
 obtain ⟨es, clock, D, hb, h⟩ := h
 exact ⟨es, clock, D, by rw [hx.block b (Array.getElem?_eq_some_iff.1 hb).1]; exact hb, h⟩
end
section
open Go.RowKit Go.Shelf Go.Sort
attribute [local go_sem] Oper.semAt_some
theorem con1_pred (g : Nat) (x : Chg) (w : World) (hg : Blk w g 63 x.arr) : PredC w 148 #[.pointer (some ⟨g, 0, none⟩)] (fun d => d.overlapB x.con) := by
 refine ⟨enters_of Tryz.func148 (by kernel_rfl) rfl, fun d w1 hw => ?_⟩
 obtain ⟨W, hW, hB, hk, hlt⟩ := box1 w1 #[.int .i64 d.src, .int .i64 d.dst, .int .i64 d.st, .int .i64 d.en, .int .i64 d.rate, .int .i64 d.rng, .int .i64 d.loss] 61
 have hc := hk.cell
 have hd := ((hg.ext hw).ext hB).cell
 have he := ((hg.ext hw).ext hB).lt
 unfold Chg.arr at hd
 have ho := fun w => Overlap_any d x.con w
 unfold Con.val at ho
 obtain ⟨v, hv⟩ : ∃ v, d.overlapB x.con = v := ⟨_, rfl⟩
 rw [hv] at ho ⊢
 clear hv
 go_enter Tryz.func148, Tryz.ntmps148
 go_wp2_with fail
 clear hW
 refine (ho _).mono ?_
 rintro e w2 ⟨rfl, hb2⟩
 go_wp2
 go_ret
 exact ⟨rfl, hB.trans hb2⟩
def ConK (c : Con) : Prop := (0 <= c.src /\ c.src <= 1099511627776) /\ (0 <= c.dst /\ c.dst <= 1099511627776) /\ (0 <= c.st /\ c.st <= 1099511627776)
theorem wf_i64 {a : Int} (h : 0 <= a /\ a <= 1099511627776) : (Lit.int .i64 a).wf = true := by
 have h1 : IntKind.i64.min = -9223372036854775808 := by decide
 have h2 : IntKind.i64.max = 9223372036854775807 := by decide
 simp only [Lit.wf, h1, h2, Bool.and_eq_true, decide_eq_true_eq]
 omega
theorem ConK.key {c : Con} (h : ConK c) : ∃ kl, keyOf Tryz.prog 244 (.agg #[.int .i64 c.src, .int .i64 c.dst, .int .i64 c.st]) = some kl :=
 nameKey (wf_i64 h.1) (wf_i64 h.2.1) (wf_i64 h.2.2)
end
section
open Go.RowKit Go.Shelf Go.Sort
theorem eqlCon_run (x y : Con) (d : Nat) (w : World) : (Op.equalIn (d + 2) 61 (.agg #[.int .i64 x.src, .int .i64 x.dst, .int .i64 x.st, .int .i64 x.en, .int .i64 x.rate, .int .i64 x.rng, .int .i64 x.loss]) (.agg #[.int .i64 y.src, .int .i64 y.dst, .int .i64 y.st, .int .i64 y.en, .int .i64 y.rate, .int .i64 y.rng, .int .i64 y.loss])).run Tryz.prog w = .ok (conEq x y) w := by
 have hs : Tryz.prog.stoodInHeld 61 = false := by kernel_rfl
 have hu := Tryz.underlying61
 have hf : Tryz.prog.underlying 61 = some (.struct (Tryz.prog.fieldsOf 61)) := by rw [hu]; simp [Program.fieldsOf, hu]
 rw [run_equalIn_struct w (d + 1) _ _ _ hf hs]
 simp [Program.fieldsOf, hu, Op.eqFields, go_sem, Result.andThen, Tryz.underlying3, Tryz.isAgg3, Tryz.sizeOf3, conEq]
 by_cases h0 : x.src = y.src <;> simp [h0]
 by_cases h1 : x.dst = y.dst <;> simp [h1]
 by_cases h2 : x.st = y.st <;> simp [h2]
 by_cases h3 : x.en = y.en <;> simp [h3]
 by_cases h4 : x.rate = y.rate <;> simp [h4]
 by_cases h5 : x.rng = y.rng <;> simp [h5]
 by_cases h6 : x.loss = y.loss <;> simp [h6]
theorem eqChg_in (x y : Chg) (w : World) : (Op.equalIn 10000 63 (.agg x.arr) (.agg y.arr)).run Tryz.prog w = .ok (chgEq x y) w := by
 have hs : Tryz.prog.stoodInHeld 63 = false := by kernel_rfl
 have hu := Tryz.underlying63
 have hf : Tryz.prog.underlying 63 = some (.struct (Tryz.prog.fieldsOf 63)) := by rw [hu]; simp [Program.fieldsOf, hu]
 have hc := eqlCon_run x.con y.con 9997 w
 rw [show (10000 : Nat) = 9999 + 1 from rfl, run_equalIn_struct w 9999 _ _ _ hf hs]
 unfold Chg.arr
 simp [Program.fieldsOf, hu, Op.eqFields, go_sem, Result.andThen, Tryz.underlying3, Tryz.isAgg3, Tryz.sizeOf3, Tryz.isAgg61, Tryz.sizeOf61, hc]
 unfold chgEq
 by_cases h0 : x.org = y.org <;> simp [h0]
 by_cases h1 : x.cnt = y.cnt <;> simp [h1]
 by_cases h2 : x.stp = y.stp <;> simp [h2]
 by_cases h3 : x.kind = y.kind <;> simp [h3]
 cases conEq x.con y.con <;> simp
theorem eqlChg_run (x y : Chg) (w : World) : (binOp .eql 63 (.agg x.arr) (.agg y.arr)).run Tryz.prog w = .ok (.bool (chgEq x y)) w := by
 rw [run_eql_struct, eqChg_in]
 rfl
end
section
open Go.RowKit Go.Shelf Go.Sort
theorem same_of_keys : ∀ {es : List MapEntry}, (es.map (·.key)).Nodup -> ∀ {a b : MapEntry}, a ∈ es -> b ∈ es -> a.key = b.key -> a = b
 | [], _, a, _, ha, _, _ => by cases ha
 | x :: r, h, a, b, ha, hb, e => by
   rw [List.map_cons, List.nodup_cons] at h
   rcases List.mem_cons.1 ha with ha1 | ha1
   ·rcases List.mem_cons.1 hb with hb1 | hb1
    ·rw [ha1, hb1]
    ·exact absurd (List.mem_map.2 ⟨b, hb1, by rw [<- e, ha1]⟩) h.1
   ·rcases List.mem_cons.1 hb with hb1 | hb1
    ·exact absurd (List.mem_map.2 ⟨a, ha1, by rw [e, hb1]⟩) h.1
    ·exact same_of_keys h.2 ha1 hb1 e
theorem TabS.lookE {S : Chg -> Prop} {K : Lit -> Prop} {w : World} {b n : Nat} (h : TabS S K w b n) {key : Value} {kl : Lit} (hkey : keyOf Tryz.prog 244 key = some kl) (hk : K kl) :
 ∃ y : Chg, S y /\ ∀ w', Ext w w' -> (Instr.lookup 252 (.map (some b)) key false).run Tryz.prog w' = .ok (.agg y.arr) w' := by
 obtain ⟨es, clock, D, hb, F, h3, rfl, hS, hK⟩ := h
 have hz : ∀ w, (zeroValue 63).run Tryz.prog w = .ok (.agg (Chg.arr ⟨0, 0, 0, 0, ⟨0, 0, 0, 0, 0, 0, 0⟩⟩)) w := fun w => by kernel_rfl
 have all : ∀ w', Ext w w' -> ∃ e0, e0 ∈ es.toList /\ e0.key = key /\ (Instr.lookup 252 (.map (some b)) key false).run Tryz.prog w' = .ok e0.val w' := fun w' hx => by
  have hb' : w'.heap[b]? = some (.map es clock) := by rw [hx.block b (Array.getElem?_eq_some_iff.1 hb).1]; exact hb
  rcases Maps.fit_look false nameKeyed Tryz.underlying252 (hz w') hb' F hkey with ⟨_, _, hat⟩ | ⟨e0, y, he0, hke, hr, _⟩
  ·have h1 := hat (.lit (.int .i64 0))
   rw [hK kl hk] at h1
   cases h1
  ·exact ⟨e0, he0, hke, hr⟩
 obtain ⟨e0, he0, hke0, _⟩ := all w (Ext.refl w)
 obtain ⟨y, hy, hy'⟩ := hS e0 he0
 refine ⟨y, hy, fun w' hx => ?_⟩
 obtain ⟨e1, he1, hke1, hr1⟩ := all w' hx
 have he : e1 = e0 := same_of_keys F.stamped.2.2 he1 he0 (hke1.trans hke0.symm)
 rw [hr1, he, hy']
end
section
open Go.RowKit
theorem keepC_step {l : List Con} {k : Nat} (h : k < l.length) : keepC (l.take (k + 1)) = if (keepC (l.take k)).any (fun d => d.overlapB l[k]) then keepC (l.take k) else keepC (l.take k) ++ [l[k]] := by
 rw [<- List.take_append_getElem h]
 unfold keepC
 rw [List.foldl_append]
 rfl
theorem keepC_len (l : List Con) : (keepC l).length <= l.length := by
 have := (keepF_spec l [] .nil).2.2
 rw [List.length_nil, Nat.zero_add] at this
 exact this
theorem hChk_ok {n : Int} {l : List Chg} (h : hChk n l = 0) : (1 <= n /\ n <= 16) /\ l.length <= 1000 /\ ∀ y ∈ l, y.ok n = true := by
 unfold hChk at h
 split at h
 ·omega
 ·split at h
  ·omega
  ·refine ⟨by omega, by omega, fun y hy => ?_⟩
   obtain ⟨i, hi, rfl⟩ := List.mem_iff_getElem.1 hy
   exact (chkF_at h i hi).1
theorem Chg.ok_con {n : Int} {y : Chg} (h : y.ok n = true) (hn : n <= 16) : ConK y.con /\ (y.kind = 1 -> y.con.Ok /\ y.con.src < n /\ y.con.dst < n) := by
 unfold Chg.ok Chg.cok inN at h
 simp only [Bool.and_eq_true, decide_eq_true_eq] at h
 obtain ⟨_, h1, h2, h3⟩ := h
 unfold ConK
 split at h3
 ·simp only [decide_eq_true_eq] at h3
  have h4 := (Con.check_iff _).1 h3
  have h5 := h4.st0
  have h6 := h4.st1
  have h8 := h4.rng0
  have h7 := h4.en1
  exact ⟨by omega, fun _ => ⟨h4, h1.2, h2.2⟩⟩
 ·rename_i e1
  split at h3
  ·simp only [Bool.and_eq_true, decide_eq_true_eq] at h3
   exact ⟨by omega, fun e => absurd e e1⟩
  ·cases h3
end
section
open Go.RowKit Go.Shelf Go.Sort
theorem sortF_own0 {α : Type} [Inhabited α] (E : Elt α) {P : Program} {ρ : Ren} (L : Go.Proofs.SlLaysF0.n6 P ρ) (cf : α -> α -> Int) (fv : Value) (base : Nat) (t : TypeId) (u : Value) (zs : List α) (w : World) (hu : Owns E w base t u zs) (h0 : zs.length = 0) :
 Calls P (ρ.f 6) #[u, fv] w fun e w' => e = .returned (.tuple #[]) /\ ∃ ts : List α, ts.Perm zs /\ ts.Pairwise (fun x y => ltOf cf y x = false) /\ Owns E w' base t u ts /\ w.grownBy w' u.ownBlock := by
 obtain rfl : zs = [] := List.eq_nil_of_length_eq_zero h0
 obtain ⟨A, c, rfl, _⟩ := hu.form
 refine (AnyF.slices_SortFunc_none L A c fv w).mono ?_
 rintro e w' ⟨rfl, rfl⟩
 exact ⟨rfl, [], .nil, .nil, hu, World.grownBy.refl _ _⟩
theorem sortNew_all (base : Nat) (u : Value) (zs : List Chg) (w : World) (hu : Owns EChg w base 63 u zs) (hm : zs.length <= 1000000) :
 Calls Tryz.prog 60 #[u, .func (.func 147) #[] #[]] w fun e w' => e = .returned (.tuple #[]) /\ ∃ ts : List Chg, ts.Perm zs /\ ts.Pairwise (fun x y => ltOf newC y x = false) /\ Owns EChg w' base 63 u ts /\ w.grownBy w' u.ownBlock := by
 rcases Nat.eq_zero_or_pos zs.length with h | h
 ·exact sortF_own0 EChg Tryz.sortChg newC _ base _ u zs w hu h
 ·exact sortNew_own base u zs w hu ⟨h, hm⟩
theorem sortCon_all (base : Nat) (u : Value) (zs : List Con) (w : World) (hu : Owns ECon w base 61 u zs) (hm : zs.length <= 1000000) :
 Calls Tryz.prog 65 #[u, .func (.func 66) #[] #[]] w fun e w' => e = .returned (.tuple #[]) /\ ∃ ts : List Con, ts.Perm zs /\ ts.Pairwise (fun x y => ltOf conC y x = false) /\ Owns ECon w' base 61 u ts /\ w.grownBy w' u.ownBlock := by
 rcases Nat.eq_zero_or_pos zs.length with h | h
 ·exact sortF_own0 ECon Tryz.sortCon conC _ base _ u zs w hu h
 ·exact sortCon_own base u zs w hu ⟨h, hm⟩
end
end Go.Proofs.YtemkpimngbbpkaaGreat

/- slices.Sort at []int: the library's contract, laid at this seat by the kit's lay-shelf.mjs and lay-plain.mjs. -/
import Derived.Sort.OwnSortedInts
import Derived.Shelf.Sort.Plain
import Derived.Shelf.Slices.In.SortNone
import Derived.Test.YtemkpimngbbpkaaGreatProg
import Derived.Test.YtemkpimngbbpkaaGreatQt01
namespace Go.Proofs
set_option linter.unusedVariables false
set_option linter.unusedSimpArgs false
open Go.Shelf
def Tryz.lays189_ren : Go.Shelf.Ren := ⟨fun | 189 => 136 | 125 => 146 | 257 => 213 | 128 => 223 | 129 => 224 | 294 => 273 | 295 => 274 | 296 => 275 | 297 => 276 | 298 => 277 | 299 => 278 | 216 => 211 | 300 => 279 | 301 => 280 | 328 => 318 | 329 => 282 | 330 => 283 | 331 => 319 | 332 => 320 | 215 => 150 | 343 => 335 | n => n, fun | 28 => 30 | 3 => 3 | 46 => 251 | 0 => 0 | 51 => 335 | 53 => 323 | 4 => 4 | 183 => 329 | 182 => 328 | 131 => 227 | 5 => 5 | 9 => 9 | 218 => 400 | 222 => 202 | 228 => 438 | 229 => 439 | n => n, fun | n => n⟩
theorem Tryz.lays189 : Go.Proofs.Lays.n189 Tryz.prog Tryz.lays189_ren := {
 mixed := by kernel_rfl
 f125 := Tryz.func146.trans (congrArg some (by kernel_rfl))
 f128 := Tryz.func223.trans (congrArg some (by kernel_rfl))
 f129 := Tryz.func224.trans (congrArg some (by kernel_rfl))
 f189 := Tryz.func136.trans (congrArg some (by kernel_rfl))
 f215 := Tryz.func150.trans (congrArg some (by kernel_rfl))
 f216 := Tryz.func211.trans (congrArg some (by kernel_rfl))
 f257 := Tryz.func213.trans (congrArg some (by kernel_rfl))
 f294 := Tryz.func273.trans (congrArg some (by kernel_rfl))
 f295 := Tryz.func274.trans (congrArg some (by kernel_rfl))
 f296 := Tryz.func275.trans (congrArg some (by kernel_rfl))
 f297 := Tryz.func276.trans (congrArg some (by kernel_rfl))
 f298 := Tryz.func277.trans (congrArg some (by kernel_rfl))
 f299 := Tryz.func278.trans (congrArg some (by kernel_rfl))
 f300 := Tryz.func279.trans (congrArg some (by kernel_rfl))
 f301 := Tryz.func280.trans (congrArg some (by kernel_rfl))
 f328 := Tryz.func318.trans (congrArg some (by kernel_rfl))
 f329 := Tryz.func282.trans (congrArg some (by kernel_rfl))
 f330 := Tryz.func283.trans (congrArg some (by kernel_rfl))
 f331 := Tryz.func319.trans (congrArg some (by kernel_rfl))
 f332 := Tryz.func320.trans (congrArg some (by kernel_rfl))
 f343 := Tryz.func335.trans (congrArg some (by kernel_rfl))
 t0 := Tryz.underlying0
 a0 := Tryz.isAgg0
 z0 := Tryz.sizeOf0
 v0 := Tryz.zeroValue0
 t3 := Tryz.underlying3
 a3 := Tryz.isAgg3
 z3 := Tryz.sizeOf3
 v3 := Tryz.zeroValue3
 t4 := Tryz.underlying4
 a4 := Tryz.isAgg4
 z4 := Tryz.sizeOf4
 v4 := Tryz.zeroValue4
 t5 := Tryz.underlying5
 a5 := Tryz.isAgg5
 z5 := Tryz.sizeOf5
 v5 := Tryz.zeroValue5
 t9 := Tryz.underlying9
 a9 := Tryz.isAgg9
 z9 := Tryz.sizeOf9
 v9 := Tryz.zeroValue9
 t28 := Tryz.underlying30
 a28 := Tryz.isAgg30
 z28 := Tryz.sizeOf30
 v28 := Tryz.zeroValue30
 t46 := Tryz.underlying251
 a46 := Tryz.isAgg251
 z46 := Tryz.sizeOf251
 v46 := Tryz.zeroValue251
 t51 := Tryz.underlying335
 a51 := Tryz.isAgg335
 z51 := Tryz.sizeOf335
 v51 := Tryz.zeroValue335
 t53 := Tryz.underlying323
 a53 := Tryz.isAgg323
 z53 := Tryz.sizeOf323
 v53 := Tryz.zeroValue323
 t131 := Tryz.underlying227
 a131 := Tryz.isAgg227
 z131 := Tryz.sizeOf227
 v131 := Tryz.zeroValue227
 t182 := Tryz.underlying328
 a182 := Tryz.isAgg328
 z182 := Tryz.sizeOf328
 v182 := Tryz.zeroValue328
 t183 := Tryz.underlying329
 a183 := Tryz.isAgg329
 z183 := Tryz.sizeOf329
 v183 := Tryz.zeroValue329
 t218 := Tryz.underlying400
 a218 := Tryz.isAgg400
 z218 := Tryz.sizeOf400
 v218 := Tryz.zeroValue400
 t222 := Tryz.underlying202
 a222 := Tryz.isAgg202
 z222 := Tryz.sizeOf202
 v222 := Tryz.zeroValue202
 t228 := Tryz.underlying438
 a228 := Tryz.isAgg438
 z228 := Tryz.sizeOf438
 v228 := Tryz.zeroValue438
 t229 := Tryz.underlying439
 a229 := Tryz.isAgg439
 z229 := Tryz.sizeOf439
 v229 := Tryz.zeroValue439 }
open Go.Sort Go.RowKit in
theorem Tryz.slices_Sort_int (blk off cap : Nat) (zs : List Int) (w : World) (hH : Holds (Value.int .i64) w blk off zs.toArray) (hblk : blk < w.heap.size) (hsz : zs.length < 4611686018427387904) :
 Calls Tryz.prog 136 #[.slice (some ⟨blk, off, none⟩) zs.length cap] w fun e w' =>
  e = .returned (.tuple #[]) /\ ∃ n os, w' = grow (putRow (Value.int .i64) (Sort.ahead w n) blk off (zs.mergeSort fun x y => decide (x <= y)).toArray) os := Any.slices_Sort_int Tryz.lays189 blk off cap zs w hH hblk hsz
open Go.RowKit Go.Sort in
theorem Tryz.slices_Sort_int_none (p : Option Addr) (cap : Nat) (w : World) :
 Calls Tryz.prog 136 #[.slice p 0 cap] w fun e w' => e = .returned (.tuple #[]) /\ w' = w := Any.slices_Sort_int_none Tryz.lays189 p cap w
end Go.Proofs
namespace Go.Proofs.YtemkpimngbbpkaaGreat
set_option linter.unusedVariables false
set_option linter.unusedSimpArgs false
open Go.RowKit Go.Sort
theorem sort_own (base : Nat) (u : Value) (zs : List Int) (w : World) (hu : Owns EInt w base 3 u zs) (hm : zs.length <= 1000000) :
 Calls Tryz.prog 136 #[u] w fun e w' => e = .returned (.tuple #[]) /\ Owns EInt w' base 3 u (zs.mergeSort fun x y => decide (x <= y)) /\ w.grownBy w' u.ownBlock := by
 have hl : (zs.mergeSort fun x y => decide (x <= y)).length = zs.length := List.length_mergeSort _
 have hall : ∀ l : List Int, EInt.all l = l.map (Value.int .i64) := fun l => by
  unfold Elt.all
  induction l with
  | nil => rfl
  | cons x l ih => simp_all [EInt]
 rcases hu.2 with ⟨rfl, h0⟩ | ⟨g, cap, cur, rfl, hg, hh, h1, h2, h3, h4⟩
 ·have hz : zs = [] := List.eq_nil_of_length_eq_zero h0
  subst hz
  refine (Tryz.slices_Sort_int_none none 0 w).mono ?_
  rintro e w' ⟨rfl, rfl⟩
  refine ⟨rfl, ?_, World.grownBy.refl _ _⟩
  rw [show ([] : List Int).mergeSort (fun x y => decide (x <= y)) = [] by simp]
  exact Owns.none_ _ _
 ·have h4' : cur.toList.take zs.length = zs.map (Value.int .i64) := by
   have h5 := h4
   rw [hall] at h5
   simpa [EInt] using h5
  refine (Tryz.slices_Sort_int g 0 cap zs w (holds_of_blockI hh h4') (Array.getElem?_eq_some_iff.1 hh).1 (by omega)).mono ?_
  rintro e w' ⟨rfl, n, os, rfl⟩
  refine ⟨rfl, ?_, grownBy_sortedI _⟩
  have h6 := ownsRow_sortedI (n := n) (os := os) hl hg hh h1 h2 (by simpa [EInt] using h3)
  unfold Owns
  rw [hall, hl]
  exact h6
end Go.Proofs.YtemkpimngbbpkaaGreat

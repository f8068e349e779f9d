/- slices.Sort at []int: the library's contract, laid at this seat by the kit's lay-shelf.mjs and lay-plain.mjs. -/
import Derived.Test.YtbgdglcnminbaaaMemA
import Derived.Sort.OwnSortedInts
import Derived.Shelf.Sort.Plain
import Derived.Shelf.Slices.In.SortNone
import Derived.Test.YtbgdglcnminbaaaProg
namespace Go.Proofs
open Go.Shelf
def Try.lays189_ren : Go.Shelf.Ren := ⟨fun | 189 => 88 | 125 => 97 | 257 => 96 | 128 => 111 | 129 => 112 | 294 => 102 | 295 => 103 | 296 => 104 | 297 => 105 | 298 => 106 | 299 => 107 | 216 => 108 | 300 => 109 | 301 => 110 | 328 => 115 | 329 => 116 | 330 => 117 | 331 => 118 | 332 => 119 | 215 => 77 | 343 => 120 | n => n, fun | 28 => 22 | 3 => 3 | 46 => 139 | 0 => 0 | 51 => 154 | 53 => 157 | 4 => 4 | 183 => 172 | 182 => 171 | 131 => 148 | 5 => 5 | 9 => 9 | 218 => 182 | 222 => 186 | 228 => 188 | 229 => 189 | n => n, fun | n => n⟩
theorem Try.lays189 : Go.Proofs.Lays.n189 Try.prog Try.lays189_ren := {
  mixed := by kernel_rfl
  f125 := Try.func97.trans (congrArg some (by kernel_rfl))
  f128 := Try.func111.trans (congrArg some (by kernel_rfl))
  f129 := Try.func112.trans (congrArg some (by kernel_rfl))
  f189 := Try.func88.trans (congrArg some (by kernel_rfl))
  f215 := Try.func77.trans (congrArg some (by kernel_rfl))
  f216 := Try.func108.trans (congrArg some (by kernel_rfl))
  f257 := Try.func96.trans (congrArg some (by kernel_rfl))
  f294 := Try.func102.trans (congrArg some (by kernel_rfl))
  f295 := Try.func103.trans (congrArg some (by kernel_rfl))
  f296 := Try.func104.trans (congrArg some (by kernel_rfl))
  f297 := Try.func105.trans (congrArg some (by kernel_rfl))
  f298 := Try.func106.trans (congrArg some (by kernel_rfl))
  f299 := Try.func107.trans (congrArg some (by kernel_rfl))
  f300 := Try.func109.trans (congrArg some (by kernel_rfl))
  f301 := Try.func110.trans (congrArg some (by kernel_rfl))
  f328 := Try.func115.trans (congrArg some (by kernel_rfl))
  f329 := Try.func116.trans (congrArg some (by kernel_rfl))
  f330 := Try.func117.trans (congrArg some (by kernel_rfl))
  f331 := Try.func118.trans (congrArg some (by kernel_rfl))
  f332 := Try.func119.trans (congrArg some (by kernel_rfl))
  f343 := Try.func120.trans (congrArg some (by kernel_rfl))
  t0 := Try.underlying0
  a0 := Try.isAgg0
  z0 := Try.sizeOf0
  v0 := Try.zeroValue0
  t3 := Try.underlying3
  a3 := Try.isAgg3
  z3 := Try.sizeOf3
  v3 := Try.zeroValue3
  t4 := Try.underlying4
  a4 := Try.isAgg4
  z4 := Try.sizeOf4
  v4 := Try.zeroValue4
  t5 := Try.underlying5
  a5 := Try.isAgg5
  z5 := Try.sizeOf5
  v5 := Try.zeroValue5
  t9 := Try.underlying9
  a9 := Try.isAgg9
  z9 := Try.sizeOf9
  v9 := Try.zeroValue9
  t28 := Try.underlying22
  a28 := Try.isAgg22
  z28 := Try.sizeOf22
  v28 := Try.zeroValue22
  t46 := Try.underlying139
  a46 := Try.isAgg139
  z46 := Try.sizeOf139
  v46 := Try.zeroValue139
  t51 := Try.underlying154
  a51 := Try.isAgg154
  z51 := Try.sizeOf154
  v51 := Try.zeroValue154
  t53 := Try.underlying157
  a53 := Try.isAgg157
  z53 := Try.sizeOf157
  v53 := Try.zeroValue157
  t131 := Try.underlying148
  a131 := Try.isAgg148
  z131 := Try.sizeOf148
  v131 := Try.zeroValue148
  t182 := Try.underlying171
  a182 := Try.isAgg171
  z182 := Try.sizeOf171
  v182 := Try.zeroValue171
  t183 := Try.underlying172
  a183 := Try.isAgg172
  z183 := Try.sizeOf172
  v183 := Try.zeroValue172
  t218 := Try.underlying182
  a218 := Try.isAgg182
  z218 := Try.sizeOf182
  v218 := Try.zeroValue182
  t222 := Try.underlying186
  a222 := Try.isAgg186
  z222 := Try.sizeOf186
  v222 := Try.zeroValue186
  t228 := Try.underlying188
  a228 := Try.isAgg188
  z228 := Try.sizeOf188
  v228 := Try.zeroValue188
  t229 := Try.underlying189
  a229 := Try.isAgg189
  z229 := Try.sizeOf189
  v229 := Try.zeroValue189 }
open Go.Sort Go.RowKit in
theorem Try.slices_Sort_int (blk off cap : Nat) (zs : List Int) (w : World) (hH : Holds (Value.int .i64) w blk off zs.toArray) (hblk : blk < w.heap.size) (hsz : zs.length < 4611686018427387904) :
    Calls Try.prog 88 #[.slice (some ⟨blk, off, none⟩) zs.length cap] w fun e w' =>
      e = .returned (.tuple #[]) ∧ ∃ n os, w' = grow (putRow (Value.int .i64) (Sort.ahead w n) blk off (zs.mergeSort fun x y => decide (x ≤ y)).toArray) os := Any.slices_Sort_int Try.lays189 blk off cap zs w hH hblk hsz
open Go.RowKit Go.Sort in
/-- .. and plain. (LAID: no walk: one application.) -/
theorem Try.slices_Sort_int_none (p : Option Addr) (cap : Nat) (w : World) :
    Calls Try.prog 88 #[.slice p 0 cap] w fun e w' => e = .returned (.tuple #[]) ∧ w' = w := Any.slices_Sort_int_none Try.lays189 p cap w
end Go.Proofs

namespace Go.Proofs.Ytbgdglcnminbaaa
set_option linter.unusedVariables false
open Go.RowKit Go.Sort

/-- slices.Sort of a list of the call's own. -/
theorem sort_own (base : Nat) (u : Value) (zs : List Int) (w : World) (hu : Owns EInt w base 3 u zs) (hm : zs.length ≤ 1000000) :
    Calls Try.prog 88 #[u] w fun e w' => e = .returned (.tuple #[]) ∧ Owns EInt w' base 3 u (zs.mergeSort fun x y => decide (x ≤ y)) ∧ w.grownBy w' u.ownBlock := by
  have hl : (zs.mergeSort fun x y => decide (x ≤ y)).length = zs.length := List.length_mergeSort _
  have hall : ∀ l : List Int, EInt.all l = l.map (Value.int .i64) := fun l => by
    unfold Elt.all
    induction l with
    | nil => rfl
    | cons x l ih => simp_all [EInt]
  rcases hu.2 with ⟨rfl, h0⟩ | ⟨g, cap, cur, rfl, hg, hh, h1, h2, h3, h4⟩
  · have hz : zs = [] := List.eq_nil_of_length_eq_zero h0
    subst hz
    refine (Try.slices_Sort_int_none none 0 w).mono ?_
    rintro e w' ⟨rfl, rfl⟩
    refine ⟨rfl, ?_, World.grownBy.refl _ _⟩
    rw [show ([] : List Int).mergeSort (fun x y => decide (x ≤ y)) = [] by simp]
    exact Owns.none_ _ _
  · have h4' : cur.toList.take zs.length = zs.map (Value.int .i64) := by
      have h5 := h4
      rw [hall] at h5
      simpa [EInt] using h5
    refine (Try.slices_Sort_int g 0 cap zs w (holds_of_blockI hh h4') (Array.getElem?_eq_some_iff.1 hh).1 (by omega)).mono ?_
    rintro e w' ⟨rfl, n, os, rfl⟩
    refine ⟨rfl, ?_, grownBy_sortedI _⟩
    have h6 := ownsRow_sortedI (n := n) (os := os) hl hg hh h1 h2 (by simpa [EInt] using h3)
    unfold Owns
    rw [hall, hl]
    exact h6

end Go.Proofs.Ytbgdglcnminbaaa

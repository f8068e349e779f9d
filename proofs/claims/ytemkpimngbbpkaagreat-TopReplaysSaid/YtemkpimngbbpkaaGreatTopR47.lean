/- slices.BinarySearch at []int: the library's contract, laid at this seat by the kit's lay-shelf.mjs and lay-plain.mjs. -/
import Derived.Ground.Names2Prog
import Derived.Shelf.Slices.SearchI
import Derived.Test.YtemkpimngbbpkaaGreatProg
import Derived.Test.YtemkpimngbbpkaaGreatTopR01
namespace Go.Proofs
set_option linter.unusedVariables false
set_option linter.unusedSimpArgs false
open Go.Shelf
def Tryz.laysNm225_ren : Go.Shelf.Ren := ⟨fun | 25 => 135 | 31 => 211 | 32 => 212 | 37 => 150 | n => n, fun | 22 => 30 | 3 => 3 | 4 => 4 | 40 => 251 | 0 => 0 | n => n, fun | n => n⟩
theorem Tryz.laysNm225 : Go.Proofs.Lays2.n25 Tryz.prog Tryz.laysNm225_ren := {
  mixed := by kernel_rfl
  f25 := Tryz.func135.trans (congrArg some (by kernel_rfl))
  f31 := Tryz.func211.trans (congrArg some (by kernel_rfl))
  f32 := Tryz.func212.trans (congrArg some (by kernel_rfl))
  f37 := Tryz.func150.trans (congrArg some (by kernel_rfl))
  t0 := Tryz.underlying0
  a0 := Tryz.isAgg0
  z0 := Tryz.sizeOf0
  v0 := Tryz.zeroValue0
  t3 := Tryz.underlying3
  a3 := Tryz.isAgg3
  z3 := Tryz.sizeOf3
  v3 := Tryz.zeroValue3
  t4 := Tryz.underlying4
  a4 := Tryz.isAgg4
  z4 := Tryz.sizeOf4
  v4 := Tryz.zeroValue4
  t22 := Tryz.underlying30
  a22 := Tryz.isAgg30
  z22 := Tryz.sizeOf30
  v22 := Tryz.zeroValue30
  t40 := Tryz.underlying251
  a40 := Tryz.isAgg251
  z40 := Tryz.sizeOf251
  v40 := Tryz.zeroValue251 }
open Go.RowKit Go.Lib in
theorem Tryz.slices_BinarySearch_int (b off n c : Nat) (zs : List Int) (x : Int) (w : World) (hz : n ≤ zs.length) (hbig : n < 4611686018427387904) (hc : ∀ j, j < zs.length → w.cell? ⟨b, off + j, none⟩ = some (.int .i64 (zs.getD j 0))) (hs : (zs.take n).Pairwise (· ≤ ·)) :
    Calls Tryz.prog 135 #[.slice (some ⟨b, off, none⟩) n c, .int .i64 x] w fun e w' => e = .returned (.tuple #[.int .i64 ((zs.take n).countP (· < x) : Nat), .bool ((zs.take n).contains x)]) ∧ ∃ q, w' = w.drewN q := Any.slices_BinarySearch_int Tryz.laysNm225 b off n c zs x w hz hbig hc hs
end Go.Proofs

namespace Go.Proofs.YtemkpimngbbpkaaGreat
set_option linter.unusedVariables false
set_option linter.unusedSimpArgs false
set_option linter.unusedVariables false
open Go.RowKit

theorem bsI_nil (A : Option Addr) (c : Nat) (x : Int) (w : World) : Calls Tryz.prog 135 #[.slice A 0 c, .int .i64 x] w fun e w' => e = .returned (.tuple #[.int .i64 0, .bool false]) ∧ Ext w w' := by
  go_enter Tryz.func135, Tryz.ntmps135
  go_wp2_with fail
  refine wp_loop_rounds 1 ?_
  rw [rounds_succ]
  go_wp2
  go_ret2
  exact ⟨rfl, Ext.refl _⟩
/-- slices.BinarySearch of numbers in order. -/
theorem bsI_any (A : Option Addr) (c : Nat) (l : List Int) (x : Int) (w : World) (hA : Rd EInt w A l) (hl : l.length ≤ 1000000) (hs : l.Pairwise (· ≤ ·)) :
    Calls Tryz.prog 135 #[.slice A l.length c, .int .i64 x] w fun e w' => (∃ i : Int, e = .returned (.tuple #[.int .i64 i, .bool (l.contains x)])) ∧ Ext w w' := by
  cases A with
  | none =>
    have hn : l = [] := by
      cases l with
      | nil => rfl
      | cons x l => obtain ⟨b, o, h, _⟩ := hA.at (k := 0) (by simp); cases h
    subst hn
    refine (bsI_nil none c x w).mono ?_
    rintro e w' ⟨rfl, hx⟩
    exact ⟨⟨_, rfl⟩, hx⟩
  | some a =>
    rcases Nat.eq_zero_or_pos l.length with h0 | h0
    · have hn := List.eq_nil_of_length_eq_zero h0
      subst hn
      refine (bsI_nil _ c x w).mono ?_
      rintro e w' ⟨rfl, hx⟩
      exact ⟨⟨_, rfl⟩, hx⟩
    · obtain ⟨b, o, ha, _, _⟩ := hA.int h0
      injection ha with ha
      subst ha
      refine (Tryz.slices_BinarySearch_int b o l.length c l x w (Nat.le_refl _) (by omega) (fun j hj => ?_) (by rw [List.take_of_length_le (Nat.le_refl _)]; exact hs)).mono ?_
      · obtain ⟨b', o', e', _, hc⟩ := hA.int hj
        injection e' with e'
        injection e' with e1 e2
        subst e1 e2
        rw [hc, List.getD_eq_getElem?_getD, List.getElem?_eq_getElem hj]; rfl
      · rintro e w' ⟨rfl, q, rfl⟩
        rw [List.take_of_length_le (Nat.le_refl _)]
        exact ⟨⟨_, rfl⟩, (Ext.refl w).drewN q⟩
end Go.Proofs.YtemkpimngbbpkaaGreat

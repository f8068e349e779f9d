/- Layer 44 (custody): the walks of the comparisons. -/
import Derived.Test.YtlhdmhgbclfneaaCusW1
namespace Go.Proofs.Ytlhdmhgbclfneaa
set_option linter.unusedVariables false
open Go.RowKit

def EInt : Elt Int := ⟨fun x => [.int .i64 x], 1, fun _ => rfl, by omega, fun x u hu => by simp at hu; subst hu; rfl⟩
theorem Rd.int {w : World} {A : Option Addr} {l : List Int} (h : Rd EInt w A l) {k : Nat} (hk : k < l.length) : ∃ b o, A = some ⟨b, o, none⟩ ∧ b < w.heap.size ∧ w.cell? ⟨b, o + k, none⟩ = some (.int .i64 l[k]) := by
  obtain ⟨b, o, rfl, hb, hc⟩ := h.at hk
  refine ⟨b, o, rfl, hb, ?_⟩
  have := hc 0 (.int .i64 l[k]) rfl
  simpa [EInt] using this
theorem lexC_step {l m : List Int} {k : Nat} (h1 : k < l.length) (h2 : k < m.length) : lexC (l.drop k) (m.drop k) = if cmpI l[k] m[k] = 0 then lexC (l.drop (k + 1)) (m.drop (k + 1)) else cmpI l[k] m[k] := by
  rw [List.drop_eq_getElem_cons h1, List.drop_eq_getElem_cons h2]
  rfl

set_option maxHeartbeats 800000 in
theorem scompare_any (A B : Option Addr) (c d : Nat) (l m : List Int) (w : World) (hA : Rd EInt w A l) (hB : Rd EInt w B m) (hlm : l.length ≤ m.length) (hml : m.length ≤ l.length) (hmax : l.length ≤ 1000000) :
    Calls Try.prog 48 #[.slice A l.length c, .slice B m.length d] w fun e w' => e = .returned (.int .i64 (lexC l m)) ∧ w = w' := by
  go_enter Try.func48, Try.ntmps48
  go_wp2
  go_loop [11] (fun i => ∃ k : Nat, k ≤ l.length ∧ i = .int .i64 k ∧ Hid (lexC l m = lexC (l.drop k) (m.drop k))) (fun i => l.length - (intOf i).toNat)
  case atStart => exact ⟨0, Nat.zero_le _, rfl, Lib.hid rfl⟩
  case round =>
    obtain ⟨k, hk, rfl, hx⟩ := hrel
    by_cases hlt : k < l.length
    · have hlt2 : k < m.length := by omega
      obtain ⟨b1, o1, rfl, _, hc1⟩ := hA.int hlt
      obtain ⟨b2, o2, rfl, _, hc2⟩ := hB.int hlt2
      have hst := Lib.hid (lexC_step hlt hlt2)
      by_cases hz : cmpI l[k] m[k] = 0
      · go_wp2_with (go_at_call 43; refine (cmp_any _ _ _).mono ?_; rintro e w1 ⟨rfl, rfl⟩)
        go_round
        case rel => exact ⟨k + 1, by omega, by go_num, Lib.hid (by rw [hx.out, hst.out, if_pos hz])⟩
        case measure => simp [intOf]; omega
      · go_wp2_with (go_at_call 43; refine (cmp_any _ _ _).mono ?_; rintro e w1 ⟨rfl, rfl⟩)
        go_ret
        exact ⟨ret_i64 (by rw [hx.out, hst.out, if_neg hz]), rfl⟩
    · go_wp2
      go_ret
      refine ⟨ret_i64 ?_, rfl⟩
      rw [hx.out, List.drop_eq_nil_of_le (by omega), List.drop_eq_nil_of_le (by omega)]
      rfl

theorem rd_block5 {w : World} {g : Nat} {t : TypeId} {a b c d e : Int} (h : Blk w g t #[.int .i64 a, .int .i64 b, .int .i64 c, .int .i64 d, .int .i64 e]) : Rd EInt w (some ⟨g, 0, none⟩) [a, b, c, d, e] := by
  refine ⟨rfl, fun _ => ⟨_, rfl, h.lt, fun j u hu => ?_⟩⟩
  rw [Addr.add_lit, Nat.zero_add, h.cell]
  rw [← hu]
  match j with
  | 0 | 1 | 2 | 3 | 4 => rfl
  | j + 5 => rfl

set_option maxHeartbeats 800000 in
theorem compareIds_any (x y : Bid) (w : World) :
    Calls Try.prog 46 #[x.val, y.val] w fun e w' => e = .returned (.int .i64 (lexC x.ints y.ints)) ∧ Ext w w' := by
  unfold Bid.val
  go_enter Try.func46, Try.ntmps46
  go_wp2_with fail
  obtain ⟨W, hW, hB, k1, k2⟩ : ∃ W, (((w.alloc (.cells #[.int .i64 x.a, .int .i64 x.b, .int .i64 x.c, .int .i64 x.d, .int .i64 x.e] 24)).alloc (.cells #[.int .i64 y.a, .int .i64 y.b, .int .i64 y.c, .int .i64 y.d, .int .i64 y.e] 24)).alloc (.cells #[.int .i64 x.a, .int .i64 x.b, .int .i64 x.c, .int .i64 x.d, .int .i64 x.e] 3)).alloc (.cells #[.int .i64 y.a, .int .i64 y.b, .int .i64 y.c, .int .i64 y.d, .int .i64 y.e] 3) = W ∧ Ext w W ∧
      Blk W (w.heap.size + 1 + 1) 3 #[.int .i64 x.a, .int .i64 x.b, .int .i64 x.c, .int .i64 x.d, .int .i64 x.e] ∧ Blk W (w.heap.size + 1 + 1 + 1) 3 #[.int .i64 y.a, .int .i64 y.b, .int .i64 y.c, .int .i64 y.d, .int .i64 y.e] := by
    refine ⟨_, rfl, ((((Ext.refl w).alloc _).alloc _).alloc _).alloc _, ?_, ?_⟩
    · have := (Blk.new ((w.alloc (.cells #[.int .i64 x.a, .int .i64 x.b, .int .i64 x.c, .int .i64 x.d, .int .i64 x.e] 24)).alloc (.cells #[.int .i64 y.a, .int .i64 y.b, .int .i64 y.c, .int .i64 y.d, .int .i64 y.e] 24)) 3 #[.int .i64 x.a, .int .i64 x.b, .int .i64 x.c, .int .i64 x.d, .int .i64 x.e]).ext ((Ext.refl _).alloc (.cells #[.int .i64 y.a, .int .i64 y.b, .int .i64 y.c, .int .i64 y.d, .int .i64 y.e] 3))
      simpa only [World.size_alloc] using this
    · have := Blk.new (((w.alloc (.cells #[.int .i64 x.a, .int .i64 x.b, .int .i64 x.c, .int .i64 x.d, .int .i64 x.e] 24)).alloc (.cells #[.int .i64 y.a, .int .i64 y.b, .int .i64 y.c, .int .i64 y.d, .int .i64 y.e] 24)).alloc (.cells #[.int .i64 x.a, .int .i64 x.b, .int .i64 x.c, .int .i64 x.d, .int .i64 x.e] 3)) 3 #[.int .i64 y.a, .int .i64 y.b, .int .i64 y.c, .int .i64 y.d, .int .i64 y.e]
      simpa only [World.size_alloc] using this
  rw [hW]
  clear hW
  have h := scompare_any _ _ 5 5 _ _ W (rd_block5 k1) (rd_block5 k2) (by simp) (by simp) (by simp)
  refine h.mono ?_
  rintro e w1 ⟨rfl, rfl⟩
  go_wp2
  go_ret
  exact ⟨rfl, hB⟩

end Go.Proofs.Ytlhdmhgbclfneaa

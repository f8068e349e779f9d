/- Layer 44 (custody): separate. -/
import Derived.Test.YtlhdmhgbclfneaaCusW7
import Derived.Test.YtlhdmhgbclfneaaMem2
namespace Go.Proofs.Ytlhdmhgbclfneaa
set_option linter.unusedVariables false
open Go.RowKit

theorem info_off : (Try.prog.info? 26).map (fun i => (i.zero, i.size, i.bytes)) = some (some (.agg #[.int .i64 0, .int .i64 0, .int .i64 0, .int .i64 0, .int .i64 0, .int .i64 0, .int .i64 0, .int .i64 0]), 8, 64) := by kernel_rfl

/-- A function value that answers p, and makes memory at most. -/
structure Pred (w0 : World) (f : FuncId) (cs : Array Value) (p : Off → Bool) : Prop where
  enters : ∀ args w, (callFunc f args).run Try.prog w = .ok (.enter f args) w
  says : ∀ (x : Off) (w : World), Ext w0 w → Calls Try.prog f (#[.agg #[.int .i64 x.id.a, .int .i64 x.id.b, .int .i64 x.id.c, .int .i64 x.id.d, .int .i64 x.id.e, .int .i64 x.con, .int .i64 x.due, .int .i64 x.tries]] ++ cs) w fun e w' => e = .returned (.bool (p x)) ∧ Ext w w'

/-- Two lists of the call's own, which share nothing. -/
def Sep (w : World) (l m : List Off) (e : Ending) (w' : World) : Prop :=
  ∃ u v, e = .returned (.tuple #[u, v]) ∧ Owns EOff w' w.heap.size 26 u l ∧ Owns EOff w' w.heap.size 26 v m ∧ (∀ g, u.ownBlock = some g → v.ownBlock ≠ some g) ∧ Ext w w'

theorem take_snoc {α : Type} {l : List α} {k : Nat} {x : α} (h : k < l.length) (hx : l[k] = x) : l.take (k + 1) = l.take k ++ [x] := by
  rw [List.take_succ_eq_append_getElem h, hx]

set_option maxHeartbeats 4000000 in
theorem separate_any (A : Option Addr) (c : Nat) (l : List Off) (f : FuncId) (cs : Array Value) (p : Off → Bool) (w : World) (hA : Rd EOff w A l) (hmax : l.length ≤ 1000000) (hp : Pred w f cs p) :
    Calls Try.prog 26 #[.slice A l.length c, .func (.func f) #[] cs] w (Sep w (l.filter p) (l.filter fun x => !p x)) := by
  have hen := hp.enters
  obtain ⟨i0, hi0, hz0, hz1, hz2⟩ := info_parts info_off
  go_enter Try.func26, Try.ntmps26
  go_wp2
  go_loopw [6, 7, 12] (fun u v i wr => ∃ k : Nat, k ≤ l.length ∧ i = .int .i64 k ∧ Owns EOff wr w.heap.size 26 u ((l.take k).filter p) ∧ Owns EOff wr w.heap.size 26 v ((l.take k).filter (fun x => !p x)) ∧ (∀ g, u.ownBlock = some g → v.ownBlock ≠ some g) ∧ Ext w wr) (fun _ _ i _ => l.length - (intOf i).toNat)
  case atStart => exact ⟨0, Nat.zero_le _, rfl, Owns.none_ _ _, Owns.none_ _ _, by simp [Value.ownBlock], Ext.refl _⟩
  case round =>
    obtain ⟨k, hk, rfl, hu, hv, hne, hN⟩ := hrel
    by_cases hlt : k < l.length
    · obtain ⟨b, o, rfl, hb, c0, c1, c2, c3, c4, c5, c6, c7⟩ := (hA.ext hN).off hlt
      generalize hxe : l[k] = x at *
      have Hx := Lib.hid hxe
      clear hxe
      go_wp2_with fail
      obtain ⟨W, hW, hB, hkb, hltW⟩ := box1 wr x.cells.toArray 26
      simp only [Off.cells] at hW hkb
      rw [hW]
      clear hW
      refine (hp.says x W (hN.trans hB)).mono ?_
      rintro e w1 ⟨rfl, hb1⟩
      have hk1 := hkb.ext hb1
      have hc := hk1.cell
      have hu1 := (hu.ext hB).ext hb1
      have hv1 := (hv.ext hB).ext hb1
      have hN1 := (hN.trans hB).trans hb1
      have fl : ((l.take k).filter p).length ≤ k := Nat.le_trans (List.length_filter_le _ _) (List.length_take_le _ _)
      have fl2 : ((l.take k).filter (fun x => !p x)).length ≤ k := Nat.le_trans (List.length_filter_le _ _) (List.length_take_le _ _)
      cases hpx : p x
      · go_wp2_with (at_builtin; refine wpList_push rfl (.tmp 23) (.tmp 25) _ rfl w.heap.size 26 i0 _ 64 Try.underlying22 hi0 hz0 hz1 hz2 rfl u7 rfl (hv1.ext ((Ext.refl _).alloc _)) w1.heap.size x rfl (Blk.new w1 _ _) (by simp only [maxLen]; omega) (by omega) (by have := hN1.size; simp; omega) ?_; intro v' w2 hv2 hg2 hat2)
        refine ⟨⟨k + 1, by omega, by go_num, ?_, ?_, ?_, ?_⟩, by simp [intOf]; omega⟩
        · have h := (hu1.ext ((Ext.refl w1).alloc _)).kept hg2 (fun g hg e => hne g hg e.symm)
          rw [take_snoc hlt Hx.out, List.filter_append]
          simpa [hpx] using h
        · rw [take_snoc hlt Hx.out, List.filter_append]
          simpa [hpx] using hv2
        · intro g hg
          rcases hat2 with e | e
          · rw [e]; exact hne g hg
          · rw [e]
            have := (hu1.block hg).2
            intro e2
            injection e2 with e2
            simp at e2
            omega
        · exact ext_grown (hN1.alloc _) (hv1.ext ((Ext.refl w1).alloc _)) (Nat.le_refl _) hg2
      · go_wp2_with (at_builtin; refine wpList_push rfl (.tmp 19) (.tmp 21) _ rfl w.heap.size 26 i0 _ 64 Try.underlying22 hi0 hz0 hz1 hz2 rfl u6 rfl (hu1.ext ((Ext.refl _).alloc _)) w1.heap.size x rfl (Blk.new w1 _ _) (by simp only [maxLen]; omega) (by omega) (by have := hN1.size; simp; omega) ?_; intro v' w2 hv2 hg2 hat2)
        refine ⟨⟨k + 1, by omega, by go_num, ?_, ?_, ?_, ?_⟩, by simp [intOf]; omega⟩
        · rw [take_snoc hlt Hx.out, List.filter_append]
          simpa [hpx] using hv2
        · have h := (hv1.ext ((Ext.refl w1).alloc _)).kept hg2 (fun g hg e => hne g e.symm hg)
          rw [take_snoc hlt Hx.out, List.filter_append]
          simpa [hpx] using h
        · intro g hg
          rcases hat2 with e | e
          · rw [e] at hg; exact hne g hg
          · rw [e] at hg
            injection hg with hg
            intro e2
            have := (hv1.block e2).2
            simp at hg
            omega
        · exact ext_grown (hN1.alloc _) (hu1.ext ((Ext.refl w1).alloc _)) (Nat.le_refl _) hg2
    · go_wp2
      go_ret2
      have e : l.take k = l := List.take_of_length_le (by omega)
      rw [e] at hu hv
      exact ⟨_, _, rfl, hu, hv, hne, hN⟩

end Go.Proofs.Ytlhdmhgbclfneaa

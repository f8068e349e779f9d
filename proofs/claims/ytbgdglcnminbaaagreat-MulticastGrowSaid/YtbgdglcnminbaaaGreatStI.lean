
/- Layer 28 (storage): levels, most, Check; layer 29: CheckTables. -/
import Derived.Test.YtbgdglcnminbaaaGreatStH
import Derived.Laws.EntriesVeiled
namespace Go.Proofs.YtbgdglcnminbaaaGreat
set_option linter.unusedVariables false
set_option linter.unusedSimpArgs false
open Go.RowKit Go.Shelf Go.Maps
attribute [local go_sem] Oper.semAt_some

theorem ownm_ext {w w' : World} {gm c : Nat} {D : DataW Unit} (h : OMap w gm c D) (hb : Ext w w') : OMap w' gm c D := by
  obtain ⟨es, clock, h1, rest⟩ := h
  exact ⟨es, clock, (Below.block hb gm (Array.getElem?_eq_some_iff.1 h1).1).trans h1, rest⟩
/-- The levels of what a node stores. -/
def lvStep (E : List (Int × Int)) (s : Int × List Lev) (t : Int) : Int × List Lev := if chg E t = 0 then s else (s.1 + chg E t, s.2 ++ [⟨t, s.1 + chg E t⟩])
def srt (ts : List Int) : List Int := ts.mergeSort fun x y => decide (x ≤ y)
def levL (l : List Hd) (n : Int) : List Lev := ((srt (tms (evs l n))).foldl (lvStep (evs l n)) (0, [])).2
def mostL (f : List Lev) : Int := f.foldl (fun a x => max a x.val) 0
theorem srt_len (ts : List Int) : (srt ts).length = ts.length := List.length_mergeSort _
theorem lv_bd' {E : List (Int × Int)} (hE : ∀ e ∈ E, -65536 ≤ e.2 ∧ e.2 ≤ 65536) (hl : E.length ≤ 1024) : ∀ (ts : List Int) (s : Int × List Lev), s.1 - 67108864 * (ts.length : Int) ≤ (ts.foldl (lvStep E) s).1 ∧ (ts.foldl (lvStep E) s).1 ≤ s.1 + 67108864 * (ts.length : Int) ∧ (ts.foldl (lvStep E) s).2.length ≤ s.2.length + ts.length
  | [], s => by simp
  | t :: ts, s => by
    have ih := lv_bd' hE hl ts (lvStep E s t)
    have hb := chg_bd t hE
    have h1 : s.1 - 67108864 ≤ (lvStep E s t).1 ∧ (lvStep E s t).1 ≤ s.1 + 67108864 ∧ (lvStep E s t).2.length ≤ s.2.length + 1 := by
      unfold lvStep
      split
      · omega
      · simp only [List.length_append, List.length_singleton]
        omega
    rw [List.foldl_cons, List.length_cons]
    omega
theorem lv_bd {E : List (Int × Int)} (hE : ∀ e ∈ E, -65536 ≤ e.2 ∧ e.2 ≤ 65536) (hl : E.length ≤ 1024) (ts : List Int) : -67108864 * (ts.length : Int) ≤ (ts.foldl (lvStep E) (0, [])).1 ∧ (ts.foldl (lvStep E) (0, [])).1 ≤ 67108864 * (ts.length : Int) ∧ (ts.foldl (lvStep E) (0, [])).2.length ≤ ts.length := by
  have h := lv_bd' hE hl ts (0, [])
  simp only [List.length_nil] at h
  omega
theorem lv_snoc {E : List (Int × Int)} {S : List Int} {j : Nat} {t : Int} (h : j < S.length) (hx : S[j] = t) (s : Int × List Lev) : (S.take (j + 1)).foldl (lvStep E) s = lvStep E ((S.take j).foldl (lvStep E) s) t := by
  rw [List.take_succ_eq_append_getElem h, List.foldl_append, hx]; rfl
theorem info_lev : (Tryz.prog.info? 135).map (fun i => (i.zero, i.size, i.bytes)) = some (some (.agg #[.int .i64 0, .int .i64 0]), 2, 16) := by kernel_rfl

set_option maxRecDepth 100000 in
set_option maxHeartbeats 4000000 in
theorem most_any (A : Option Addr) (c : Nat) (f : List Lev) (w : World) (hf : Rd ELev w A f) (hm : f.length ≤ 1000000) :
    Calls Tryz.prog 74 #[.slice A f.length c] w fun e w' => e = .returned (.int .i64 (mostL f)) ∧ Ext w w' := by
  go_enter Tryz.func74, Tryz.ntmps74
  go_wp2
  go_loopg [3, 8] f.length (fun q a k wr => ∃ j : Nat, j + q = f.length ∧ k = .int .i64 j ∧ a = .int .i64 ((f.take j).foldl (fun a x => max a x.val) 0) ∧ Ext w wr)
  case atStart => exact ⟨0, by omega, rfl, rfl, Ext.refl _⟩
  case round =>
    obtain ⟨j, hjq, rfl, rfl, hx⟩ := hrel
    have Hjq := Lib.hid hjq
    have hjN : j ≤ f.length := by omega
    clear hjq
    by_cases hlt : j < f.length
    · obtain ⟨b, o, rfl, hb, c0, c1⟩ := (hf.ext hx).lev hlt
      have hsn : (f.take (j + 1)).foldl (fun a x => max a x.val) 0 = max ((f.take j).foldl (fun a x => max a x.val) 0) f[j].val := by
        rw [List.take_succ_eq_append_getElem hlt, List.foldl_append]; rfl
      generalize f[j] = x at *
      obtain ⟨m, hmE⟩ : ∃ m, (f.take j).foldl (fun a x => max a x.val) 0 = m := ⟨_, rfl⟩
      rw [hmE] at hsn ⊢
      have Hsn := Lib.hid hsn
      obtain ⟨W3, hW3, hB3, hk3, hl3⟩ := box1 wr #[.int .i64 x.tm, .int .i64 x.val] 135
      have s0 := hk3.cell
      clear hsn hmE
      go_wp2_with fail
      go_roundg (gk - 1)
      case measure => have := Hjq.out; omega
      case rel => exact ⟨j + 1, by have := Hjq.out; omega, by go_num, by rw [Hsn.out], hx.trans hB3⟩
    · obtain rfl : j = f.length := by omega
      rw [List.take_length]
      go_wp2
      go_ret
      exact ⟨rfl, hx⟩

end Go.Proofs.YtbgdglcnminbaaaGreat

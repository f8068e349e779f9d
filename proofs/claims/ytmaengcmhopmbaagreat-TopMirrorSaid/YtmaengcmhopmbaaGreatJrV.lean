
/- slices.Reverse of a list of hops of the call's own. -/
import Derived.Test.YtmaengcmhopmbaaGreatPlnA
import Derived.Test.YtmaengcmhopmbaaGreatMemA
import Derived.Test.YtmaengcmhopmbaaGreatRows
import Derived.BigRegion
namespace Go.Proofs.YtmaengcmhopmbaaGreat
set_option linter.unusedVariables false
open Go.RowKit

theorem Owns.some2 {α : Type} {E : Elt α} {w : World} {base : Nat} {e : TypeId} {A : Option Addr} {n c : Nat} {l : List α} (h : Owns E w base e (.slice A n c) l) (hl : 0 < l.length) : ∃ b, A = some ⟨b, 0, none⟩ ∧ base ≤ b := by
  have hn := h.len
  rcases h.2 with ⟨e1, e2⟩ | ⟨g, cap, cur, e1, _⟩
  · injection e1 with e1 e3
    omega
  · injection e1 with e1
    subst e1
    exact ⟨g, rfl, (h.block (g := g) rfl).1⟩
/-- i elements at each end have been exchanged. -/
def RevP {α : Type} (l m : List α) (i : Nat) : Prop := m.length = l.length ∧ ∀ k, k < l.length → m[k]? = if k < i ∨ l.length - 1 - k < i then l[l.length - 1 - k]? else l[k]?
theorem RevP.zero {α : Type} (l : List α) : RevP l l 0 := ⟨rfl, fun k _ => by rw [if_neg (by omega)]⟩
theorem RevP.step {α : Type} {l m : List α} {i j : Nat} (h : RevP l m i) (hij : i + j + 1 = l.length) (hlt : i < j) (h1 : i < m.length) (h2 : j < m.length) : RevP l ((m.set i m[j]).set j m[i]) (i + 1) := by
  refine ⟨by simp [h.1], fun k hk => ?_⟩
  have e1 : m[j]? = some m[j] := List.getElem?_eq_getElem h2
  have e2 : m[i]? = some m[i] := List.getElem?_eq_getElem h1
  have g1 := h.2 i (by omega)
  have g2 := h.2 j (by omega)
  rw [if_neg (by omega)] at g1 g2
  by_cases hkj : k = j
  · subst hkj
    rw [List.getElem?_set_self (by simpa using h2), if_pos (by omega), ← e2, g1]
    congr 1; omega
  · rw [List.getElem?_set_ne (by omega)]
    by_cases hki : k = i
    · subst hki
      rw [List.getElem?_set_self h1, if_pos (by omega), ← e1, g2]
      congr 1; omega
    · rw [List.getElem?_set_ne (by omega), h.2 k hk]
      by_cases hc : k < i ∨ l.length - 1 - k < i
      · rw [if_pos hc, if_pos (by omega)]
      · rw [if_neg hc, if_neg (by omega)]
theorem RevP.done {α : Type} {l m : List α} {i j : Nat} (h : RevP l m i) (hij : i + j + 1 = l.length) (hge : j ≤ i) : m = l.reverse := by
  apply List.ext_getElem?
  intro k
  by_cases hk : k < l.length
  · rw [List.getElem?_reverse hk, h.2 k hk]
    split
    · rfl
    · rename_i hc
      congr 1; omega
  · rw [List.getElem?_eq_none (by rw [h.1]; omega), List.getElem?_eq_none (by simp; omega)]

set_option maxRecDepth 100000 in
set_option maxHeartbeats 4000000 in
theorem reverse_any (A : Option Addr) (n c : Nat) (l : List Hp) (base : Nat) (w : World) (h : Owns EHp w base 40 (.slice A n c) l) (hmax : l.length ≤ 1099511627776) :
    Calls Tryz.prog 20 #[.slice A n c] w fun e w' => (∃ v, e = .returned v) ∧ Owns EHp w' base 40 (.slice A n c) l.reverse ∧ (∃ w1, w.grownBy w1 (Value.slice A n c).ownBlock ∧ w' = w1) := by
  have hn := h.len
  subst hn
  by_cases hl : l = []
  · subst hl
    go_enter Tryz.func20, Tryz.ntmps20
    go_wp2
    go_loopg [2, 3] 0 (fun q i j wr => q = 0 ∧ i = .int .i64 0 ∧ j = .int .i64 (-1) ∧ wr = w)
    case atStart => exact ⟨rfl, rfl, rfl, rfl⟩
    case round =>
      obtain ⟨_, rfl, rfl, rfl⟩ := hrel
      go_wp2
      go_end0
      exact ⟨⟨_, rfl⟩, h, _, World.grownBy.refl _ _, rfl⟩
  · have hpos : 0 < l.length := by cases l <;> simp_all
    obtain ⟨g, rfl, hg⟩ := h.some2 hpos
    clear hl
    go_enter Tryz.func20, Tryz.ntmps20
    go_wp2
    go_loopg [2, 3] (l.length - 1) (fun q u x wr => ∃ (i j : Nat) (m : List Hp), u = .int .i64 i ∧ x = .int .i64 j ∧ i + j + 1 = l.length ∧ q = j ∧ Hid (RevP l m i) ∧ Owns EHp wr base 40 (.slice (some ⟨g, 0, none⟩) l.length c) m ∧ w.grownBy wr (some g))
    case atStart =>
      refine ⟨0, l.length - 1, l, rfl, ?_, by omega, ?_, Lib.hid (RevP.zero l), h, World.grownBy.refl _ _⟩
      · congr 1; omega
      · rfl
    case round =>
      obtain ⟨i, j, m, rfl, rfl, hij, hq, hR, hu, hG⟩ := hrel
      have Hij := Lib.hid hij
      have Hq := Lib.hid hq
      have hil : i < l.length := by omega
      have hjl : j < l.length := by omega
      have hml := hR.out.1
      have him : i < m.length := by omega
      have hjm : j < m.length := by omega
      obtain ⟨cur, hb, hsz, hcc, hcell⟩ := hu.there_
      clear hij hq hml
      by_cases hlt : i < j
      · have ci0 := (hb.cell (i * 4 + 0)).trans (hcell i him 0 (by decide))
        have ci1 := (hb.cell (i * 4 + 1)).trans (hcell i him 1 (by decide))
        have ci2 := (hb.cell (i * 4 + 2)).trans (hcell i him 2 (by decide))
        have ci3 := (hb.cell (i * 4 + 3)).trans (hcell i him 3 (by decide))
        have cj0 := (hb.cell (j * 4 + 0)).trans (hcell j hjm 0 (by decide))
        have cj1 := (hb.cell (j * 4 + 1)).trans (hcell j hjm 1 (by decide))
        have cj2 := (hb.cell (j * 4 + 2)).trans (hcell j hjm 2 (by decide))
        have cj3 := (hb.cell (j * 4 + 3)).trans (hcell j hjm 3 (by decide))
        have hfz := hb.frozen
        have hgl := hb.lt
        generalize hyi : m[i] = yi at *
        generalize hyj : m[j] = yj at *
        have Hyi := Lib.hid hyi
        have Hyj := Lib.hid hyj
        simp only [EHp, Hp.cells, Nat.add_zero] at ci0 ci1 ci2 ci3 cj0 cj1 cj2 cj3
        clear hcell hyi hyj
        have hne : i ≠ j := by omega
        go_wp2_with fail
        go_region
        obtain ⟨W5, hW5, hu5, hG5⟩ : ∃ W5, ((World.setCells (World.setCells wr g (i * 4) (Hp.cells yj)) g (j * 4) (Hp.cells yi)).drew) = W5 ∧ Owns EHp W5 base 40 (.slice (some ⟨g, 0, none⟩) l.length c) ((m.set i yj).set j yi) ∧ w.grownBy W5 (some g) := by
          refine ⟨_, rfl, ?_, grown_ext (grown_setCells _ (grown_setCells _ hG _) _) ((Ext.refl _).drew)⟩
          exact ((hu.set_ him yj).set_ (k := j) (by simpa using hjm) yi).ext ((Ext.refl _).drew)
        simp only [World.setCells, Hp.cells, Nat.add_assoc, Nat.reduceAdd] at hW5
        rw [hW5]
        clear hW5
        go_wp2_with fail
        go_roundg (j - 1)
        case measure => have := Hq.out; omega
        case rel =>
          refine ⟨i + 1, j - 1, _, by go_num, ?_, by have := Hij.out; omega, rfl, Lib.hid ?_, hu5, hG5⟩
          · congr 1; omega
          · have := hR.out.step Hij.out hlt him hjm
            rw [Hyi.out, Hyj.out] at this
            exact this
      · have hfin := hR.out.done Hij.out (by omega)
        have Hfin := Lib.hid hfin
        clear hfin
        go_wp2
        go_end0
        refine ⟨⟨_, rfl⟩, ?_, _, hG, rfl⟩
        rw [← Hfin.out]
        exact hu

end Go.Proofs.YtmaengcmhopmbaaGreat

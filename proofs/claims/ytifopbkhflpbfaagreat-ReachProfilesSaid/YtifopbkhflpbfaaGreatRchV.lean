/- Layer 26 (reach): a profile's values as plain data. -/
import Derived.Test.YtifopbkhflpbfaaGreatRchF
namespace Go.Proofs.YtifopbkhflpbfaaGreat
set_option linter.unusedVariables false
open Go.RowKit

section
variable {p : Pln} {src dst n : Int}
theorem lvl_at {l : List Stp} {t : Int} (hl : l ≠ []) {k : Nat} (hk : k < l.length) (h : k < (lvl l t).length) : (lvl l t)[k] = ⟨l[k].fr, l[k].val⟩ := by
  have e : (lvl l t)[k]? = some ⟨l[k].fr, l[k].val⟩ := by
    unfold lvl
    rw [if_neg hl, List.getElem?_append_left (by rw [lvs_len]; exact hk)]
    unfold lvs
    rw [List.getElem?_map, List.getElem?_eq_getElem hk]
    rfl
  rw [List.getElem?_eq_getElem h] at e
  injection e
theorem lvl_last {l : List Stp} {t : Int} (hl : l ≠ []) (h : l.length < (lvl l t).length) : (lvl l t)[l.length] = ⟨t, 0⟩ := by
  have e : (lvl l t)[l.length]? = some ⟨t, 0⟩ := by
    unfold lvl
    rw [if_neg hl, List.getElem?_append_right (by rw [lvs_len]; exact Nat.le_refl _), lvs_len, Nat.sub_self]
    rfl
  rw [List.getElem?_eq_getElem h] at e
  injection e
theorem Chn.levOk (h : PA p src dst n) {l : List Stp} {t : Int} (hc : Chn p src dst n l t) (hl : l.length < 1000) : LevOk (lvl l t) := by
  by_cases hn : l = []
  · have e : lvl l t = [] := by unfold lvl; rw [if_pos hn]
    rw [e]
    exact ⟨by simp, fun x hx => by simp at hx, fun i hi => by simp at hi, fun hi => by simp at hi⟩
  have hlen := lvl_len (t := t) hn
  have hrg := hc.rng h
  have hv := fun (k : Nat) (hk : k < l.length) => hc.vals h l[k] (List.getElem_mem hk)
  have hpos : 0 < l.length := List.length_pos_iff.2 hn
  refine ⟨by omega, fun x hx => ?_, fun i hi => ?_, fun hi => ?_⟩
  · obtain ⟨k, hk, rfl⟩ := List.getElem_of_mem hx
    by_cases e : k < l.length
    · rw [lvl_at hn e]
      have := hv k e
      obtain ⟨a1, a2, a3, a4, a5, _⟩ := this
      dsimp only
      omega
    · have e2 : k = l.length := by omega
      subst e2
      rw [lvl_last hn]
      dsimp only
      omega
  · by_cases e : i + 1 < l.length
    · rw [lvl_at hn e, lvl_at hn (by omega)]
      have hr := hc.rise h (List.getElem?_eq_getElem (show i < l.length by omega)) (List.getElem?_eq_getElem e) (Nat.lt_succ_self i)
      have := hv i (by omega)
      obtain ⟨a1, a2, a3, a4, a5, _⟩ := this
      dsimp only
      omega
    · have e2 : i + 1 = l.length := by omega
      have hlast := lvl_last (t := t) hn (by omega)
      have e3 : (lvl l t)[i + 1] = ⟨t, 0⟩ := by
        have : (lvl l t)[i + 1]? = (lvl l t)[l.length]? := by rw [e2]
        rw [List.getElem?_eq_getElem hi, List.getElem?_eq_getElem (by omega), hlast] at this
        injection this
      rw [e3, lvl_at hn (by omega)]
      have := hv i (by omega)
      obtain ⟨a1, a2, a3, a4, a5, _⟩ := this
      dsimp only
      omega
  · rw [lvl_at hn hpos]
    have := hv 0 hpos
    obtain ⟨a1, a2, a3, a4, a5, _⟩ := this
    dsimp only
    omega
theorem LevOk.monod {f : List Lev} (h : LevOk f) (i : Nat) (hi : i < f.length) : ∀ (d : Nat) (hj : i + 1 + d < f.length), f[i].tm < f[i + 1 + d].tm
  | 0, hj => (h.ord i hj).1
  | d + 1, hj => Int.lt_trans (h.monod i hi d (by omega)) (h.ord (i + 1 + d) hj).1
theorem LevOk.mono {f : List Lev} (h : LevOk f) {i j : Nat} (hj : j < f.length) (hij : i < j) : (f[i]'(by omega)).tm < f[j].tm := by
  obtain ⟨d, rfl⟩ : ∃ d, j = i + 1 + d := ⟨j - (i + 1), by omega⟩
  exact h.monod i (by omega) d hj
theorem LevOk.cutAt {f : List Lev} (h : LevOk f) {k : Nat} {r : Int} (hk : k < f.length) (e : f[k].tm = r) : IsCut f r k :=
  ⟨by omega, fun j hj hjk => by rw [← e]; exact h.mono hk hjk, fun j hj hkj => by
    rcases Nat.lt_or_eq_of_le hkj with hh | hh
    · rw [← e]; exact Int.le_of_lt (h.mono hj hh)
    · subst hh; rw [e]; exact Int.le_refl _⟩
theorem LevOk.cutIn {f : List Lev} (h : LevOk f) {k : Nat} {r : Int} (hk : k < f.length) (e : f[k].tm < r) (e2 : ∀ hh : k + 1 < f.length, r ≤ f[k + 1].tm) : IsCut f r (k + 1) :=
  ⟨by omega, fun j hj hjk => by
    rcases Nat.lt_or_eq_of_le (Nat.le_of_lt_succ hjk) with hh | hh
    · exact Int.lt_trans (h.mono hk hh) e
    · subst hh; exact e, fun j hj hkj => by
    rcases Nat.lt_or_eq_of_le hkj with hh | hh
    · exact Int.le_trans (e2 (by omega)) (Int.le_of_lt (h.mono hj hh))
    · subst hh; exact e2 hj⟩
theorem valI_at {f : List Lev} {k : Nat} {r : Int} (hk : k < f.length) (e : f[k].tm = r) : valI f r k = f[k].val := by
  unfold valI
  rw [gl_get hk, if_pos ⟨hk, e⟩]
theorem valI_in {f : List Lev} {k : Nat} {r : Int} (hk : k < f.length) (e2 : ∀ hh : k + 1 < f.length, r ≠ f[k + 1].tm) : valI f r (k + 1) = f[k].val := by
  unfold valI
  rw [if_neg (fun hh => e2 hh.1 (hh.2.symm.trans (congrArg Lev.tm (gl_get hh.1)))), if_neg (by omega), Nat.add_sub_cancel, gl_get hk]
/-- The value of a profile is the earliest arrival. -/
theorem Chn.value (h : PA p src dst n) {l : List Stp} {t : Int} (hc : Chn p src dst n l t) (hs : p.stopAt src dst n t) (hl : l.length < 1000) {r : Int} (r0 : 0 ≤ r) (r1 : r ≤ 1099511627776) {i : Nat} (hi : IsCut (lvl l t) r i) : valI (lvl l t) r i = max (p.ear src dst n r) 0 := by
  have hrg := hc.rng h
  have hok := hc.levOk h hl
  by_cases hn : l = []
  · have e : lvl l t = [] := by unfold lvl; rw [if_pos hn]
    have ht := hc.empty hn
    rw [stop_ear h hrg.1 hrg.2.1 hs (by omega) r1]
    rw [e] at hi ⊢
    have h0 : i = 0 := by have := hi.1; simpa using this
    subst h0
    rfl
  have hlen := lvl_len (t := t) hn
  by_cases hr : r < t
  · obtain ⟨k, s, hk, h1, h2⟩ := hc.cover h r r0 hr
    have hkl := (List.getElem?_eq_some_iff.1 hk).1
    have hke := (List.getElem?_eq_some_iff.1 hk).2
    have hv := hc.vals h s (List.mem_of_getElem? hk)
    obtain ⟨a1, a2, a3, a4, a5, a6, a7, a8⟩ := hv
    have hfk := lvl_at (t := t) hn hkl (by omega)
    rw [hke] at hfk
    rw [a8 r h1 h2]
    have hm : max s.val 0 = s.val := by omega
    rw [hm]
    by_cases e : s.fr = r
    · have hcut := hok.cutAt (k := k) (r := r) (by omega) (by rw [hfk]; exact e)
      rw [hi.unique hcut, valI_at (by omega) (by rw [hfk]; exact e), hfk]
    · have hnext : ∀ hh : k + 1 < (lvl l t).length, r < (lvl l t)[k + 1].tm := fun hh => by
        have hnx := hc.next h k s hk
        by_cases e3 : k + 1 < l.length
        · rw [lvl_at hn e3]
          have := hnx.1 _ (List.getElem?_eq_getElem e3)
          dsimp only
          omega
        · have e4 : k + 1 = l.length := by omega
          have := hnx.2 e4
          have e5 : (lvl l t)[k + 1] = ⟨t, 0⟩ := by
            have e6 : (lvl l t)[k + 1]? = (lvl l t)[l.length]? := by rw [e4]
            rw [List.getElem?_eq_getElem hh, List.getElem?_eq_getElem (by omega), lvl_last hn] at e6
            injection e6
          rw [e5]
          exact hr
      have hcut := hok.cutIn (k := k) (r := r) (by omega) (by rw [hfk]; dsimp only; omega) (fun hh => Int.le_of_lt (hnext hh))
      rw [hi.unique hcut, valI_in (by omega) (fun hh e9 => by have := hnext hh; omega), hfk]
  · rw [stop_ear h hrg.1 hrg.2.1 hs (by omega) r1]
    have hla := lvl_last (t := t) hn (by omega)
    by_cases e : t = r
    · have hcut := hok.cutAt (k := l.length) (r := r) (by omega) (by rw [hla]; exact e)
      rw [hi.unique hcut, valI_at (by omega) (by rw [hla]; exact e), hla]
      rfl
    · have hcut := hok.cutIn (k := l.length) (r := r) (by omega) (by rw [hla]; dsimp only; omega) (fun hh => by omega)
      rw [hi.unique hcut, valI_in (by omega) (fun hh => by omega), hla]
      rfl
end

end Go.Proofs.YtifopbkhflpbfaaGreat

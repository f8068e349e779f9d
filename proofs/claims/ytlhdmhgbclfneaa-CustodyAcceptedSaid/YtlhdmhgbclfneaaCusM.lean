/- Layer 44 (custody): the plain laws. -/
import Derived.Test.YtlhdmhgbclfneaaCusW16
namespace Go.Proofs.Ytlhdmhgbclfneaa
set_option linter.unusedVariables false
open Go.RowKit

theorem cmpI_trans {a b c : Int} (h1 : cmpI a b < 0) (h2 : cmpI b c < 0) : cmpI a c < 0 := by
  unfold cmpI at *; split at h1 <;> (try split at h1) <;> split at h2 <;> (try split at h2) <;> (first | omega | (rw [if_pos (by omega)]; omega))
theorem lexC_trans : ∀ {l m n : List Int}, l.length = m.length → m.length = n.length → lexC l m < 0 → lexC m n < 0 → lexC l n < 0
  | [], [], [], _, _, h, _ => by simp [lexC] at h
  | x :: l, y :: m, z :: n, e1, e2, h1, h2 => by
    simp only [lexC] at *
    by_cases a : cmpI x y = 0
    · rw [if_pos a] at h1
      have a2 := cmpI_zero.1 a
      subst a2
      by_cases b : cmpI x z = 0
      · rw [if_pos b] at h2 ⊢
        exact lexC_trans (by simpa using e1) (by simpa using e2) h1 h2
      · rw [if_neg b] at h2 ⊢
        exact h2
    · rw [if_neg a] at h1
      by_cases b : cmpI y z = 0
      · rw [if_pos b] at h2
        have b2 := cmpI_zero.1 b
        subst b2
        rw [if_neg a]; exact h1
      · rw [if_neg b] at h2
        have h3 := cmpI_trans h1 h2
        rw [if_neg (by omega)]; exact h3

theorem Off.lt_trans {x y z : Off} (h1 : x.lt y = true) (h2 : y.lt z = true) : x.lt z = true := by
  have g1 : lexC x.key y.key < 0 := of_decide_eq_true (p := x.cmp y < 0) h1
  have g2 : lexC y.key z.key < 0 := of_decide_eq_true (p := y.cmp z < 0) h2
  exact decide_eq_true (lexC_trans (l := x.key) (m := y.key) (n := z.key) rfl rfl g1 g2)
theorem Off.lt_irrefl (x : Off) : x.lt x = false := by
  have := (lexC_zero x.key x.key rfl).2 rfl
  simp [Off.lt, Off.cmp, this]
theorem Off.lt_of_not {x y : Off} (h : x.lt y = false) (hk : x.key ≠ y.key) : y.lt x = true := by
  have g1 : ¬ lexC x.key y.key < 0 := of_decide_eq_false (p := x.cmp y < 0) h
  have h1 := lexC_neg x.key y.key
  have h2 : lexC x.key y.key ≠ 0 := fun e => hk ((lexC_zero x.key y.key rfl).1 e)
  exact decide_eq_true (show lexC y.key x.key < 0 by omega)
theorem keyEq_iff {x y : Off} : keyEq x y = true ↔ x.key = y.key := by
  simp [keyEq, idEq, Off.key, and_assoc]

theorem chkL_some : ∀ (l : List Off) (p : Off), chkL (some p) l = 0 ↔ (∀ x ∈ l, x.ok = true) ∧ (p :: l).Pairwise (fun x y => x.lt y = true)
  | [], p => by simp [chkL]
  | x :: l, p => by
    have ih := chkL_some l x
    simp only [chkL]
    cases hx : x.ok
    · simp [hx]
    · cases hp : p.lt x
      · simp [hp]
      · simp only [Bool.true_eq_false, if_false, if_true, ih]
        constructor
        · rintro ⟨h1, h2⟩
          refine ⟨by intro y hy; simp at hy; rcases hy with rfl | hy; exact hx; exact h1 y hy, ?_⟩
          rw [List.pairwise_cons]
          refine ⟨?_, h2⟩
          intro y hy
          simp at hy
          rcases hy with rfl | hy
          · exact hp
          · exact Off.lt_trans hp ((List.pairwise_cons.1 h2).1 y hy)
        · rintro ⟨h1, h2⟩
          exact ⟨fun y hy => h1 y (by simp [hy]), (List.pairwise_cons.1 h2).2⟩
theorem chkL_none : ∀ l : List Off, chkL none l = 0 ↔ (∀ x ∈ l, x.ok = true) ∧ l.Pairwise (fun x y => x.lt y = true)
  | [] => by simp [chkL]
  | x :: l => by
    simp only [chkL]
    cases hx : x.ok
    · simp [hx]
    · simp only [Bool.true_eq_false, if_false, chkL_some]
      simp [hx]
theorem chk_iff (l : List Off) : chk l = 0 ↔ l.length ≤ 64 ∧ (∀ x ∈ l, x.ok = true) ∧ l.Pairwise (fun x y => x.lt y = true) := by
  unfold chk
  by_cases h : 64 < l.length
  · rw [if_pos h]; constructor
    · intro h; cases h
    · intro g; omega
  · rw [if_neg h, chkL_none]
    constructor
    · exact fun g => ⟨by omega, g⟩
    · exact fun g => g.2
theorem chk_sub {l m : List Off} (h : chk l = 0) (hs : List.Sublist m l) : chk m = 0 := by
  rw [chk_iff] at h ⊢
  exact ⟨Nat.le_trans hs.length_le h.1, fun x hx => h.2.1 x (hs.subset hx), List.Pairwise.sublist hs h.2.2⟩

theorem sorted_takeWhile : ∀ {l : List Off} (o : Off), l.Pairwise (fun x y => x.lt y = true) → l.takeWhile (fun a => a.lt o) = l.filter (fun a => a.lt o) ∧ l.dropWhile (fun a => a.lt o) = l.filter (fun a => !a.lt o)
  | [], _, _ => by simp
  | x :: l, o, h => by
    obtain ⟨h1, h2⟩ := List.pairwise_cons.1 h
    have ih := sorted_takeWhile o h2
    by_cases hx : x.lt o = true
    · simp [List.takeWhile_cons, List.dropWhile_cons, List.filter_cons, hx, ih.1, ih.2]
    · have hall : ∀ y ∈ l, y.lt o = false := fun y hy => by
        cases hy2 : y.lt o
        · rfl
        · exact absurd (Off.lt_trans (h1 y hy) hy2) hx
      have e1 : l.filter (fun a => a.lt o) = [] := by
        rw [List.filter_eq_nil_iff]; intro y hy; rw [hall y hy]; decide
      have e2 : l.filter (fun a => !a.lt o) = l := by
        rw [List.filter_eq_self]; intro y hy; rw [hall y hy]; rfl
      simp [List.takeWhile_cons, List.dropWhile_cons, List.filter_cons, hx, e1, e2]

theorem isKey_id {x : Bid} {con : Int} {o : Off} (h : isKey x con o = true) : idEq o.id x = true := by
  simp [isKey, keyEq] at h; exact h.1
theorem keyEq_beg (l : List Off) (x : Bid) (con due : Int) (o : Off) : keyEq o (begO l x con due) = isKey x con o := rfl
theorem any_same (l : List Off) (x : Bid) (con due : Int) : (l.filter fun o => idEq o.id x).any (fun o => keyEq o (begO l x con due)) = l.any (isKey x con) := by
  rw [Bool.eq_iff_iff, List.any_eq_true, List.any_eq_true]
  constructor
  · rintro ⟨o, ho, h⟩
    exact ⟨o, (List.mem_filter.1 ho).1, h⟩
  · rintro ⟨o, ho, h⟩
    exact ⟨o, List.mem_filter.2 ⟨ho, isKey_id h⟩, h⟩
theorem ok_beg {l : List Off} (x : Bid) (con due : Int) (h : l.length ≤ 1000000) : (begO l x con due).ok = (off0 x con due 0).ok := by
  have : (l.filter fun o => idEq o.id x).length ≤ l.length := List.length_filter_le _ _
  have e : ∀ t : Int, (⟨x, con, due, t⟩ : Off).ok = (x.ok && decide (0 ≤ con ∧ con < 64 ∧ 0 ≤ due ∧ due ≤ 1099511627777 ∧ 0 ≤ t ∧ t ≤ 1152921504606846976)) := fun t => rfl
  unfold begO off0
  rw [e, e]
  congr 1
  rw [Bool.eq_iff_iff]
  simp only [decide_eq_true_eq]
  omega

theorem begE_eq (l : List Off) (x : Bid) (con due : Int) (h : l.length ≤ 1000000) : rbegE l x con due = begE l x con due := by
  unfold rbegE begE
  rw [any_same, ok_beg x con due h]
theorem begE_chk {l : List Off} {x : Bid} {con due : Int} (h : begE l x con due = 0) : chk l = 0 ∧ (begO l x con due).ok = true ∧ l.any (isKey x con) = false ∧ l.length ≠ 64 := by
  unfold begE at h
  rw [any_same] at h
  split at h
  · rename_i h0
    split at h
    · rename_i h1
      split at h
      · cases h
      · rename_i h2
        split at h
        · cases h
        · rename_i h3
          exact ⟨h0, h1, by simpa using h2, h3⟩
    · cases h
  · cases h
theorem begL_eq (l : List Off) (x : Bid) (con due : Int) (h : l.length ≤ 1000000) : rbegL l x con due = begL l x con due := by
  unfold rbegL begL
  rw [begE_eq l x con due h]
  split
  · rename_i h0
    have hc := (chk_iff l).1 (begE_chk h0).1
    rw [(sorted_takeWhile _ hc.2.2).1, (sorted_takeWhile _ hc.2.2).2]
  · rfl
theorem begL_nil {l : List Off} {x : Bid} {con due : Int} (h : begE l x con due ≠ 0) : begL l x con due = [] := by
  unfold begL; rw [if_neg h]
theorem begL_len {l : List Off} {x : Bid} {con due : Int} (h : begE l x con due = 0) : (begL l x con due).length = l.length + 1 := by
  unfold begL; rw [if_pos h]
  have : ∀ m : List Off, ∀ p : Off → Bool, (m.filter p).length + (m.filter (fun x => !p x)).length = m.length := by
    intro m p
    induction m with
    | nil => rfl
    | cons y m ih =>
      cases hy : p y <;> simp [List.filter_cons, hy] <;> omega
  have := this l (fun o => o.lt (begO l x con due))
  simp only [List.length_append, List.length_cons, List.length_nil]
  omega

theorem begL_chk {l : List Off} {x : Bid} {con due : Int} (h : begE l x con due = 0) : chk (begL l x con due) = 0 := by
  have hlen := begL_len h
  obtain ⟨h1, h2, h3, h4⟩ := begE_chk h
  obtain ⟨h5, h6, h7⟩ := (chk_iff l).1 h1
  rw [chk_iff]
  refine ⟨by omega, ?_, ?_⟩
  · intro y hy
    unfold begL at hy; rw [if_pos h] at hy
    simp only [List.mem_append, List.mem_filter, List.mem_singleton] at hy
    rcases hy with (⟨hy, _⟩ | rfl) | ⟨hy, _⟩
    · exact h6 y hy
    · exact h2
    · exact h6 y hy
  · unfold begL; rw [if_pos h]
    have key : ∀ y ∈ l, y.lt (begO l x con due) = false → (begO l x con due).lt y = true := by
      intro y hy hn
      refine Off.lt_of_not hn ?_
      intro e
      have := List.any_eq_false.1 h3 y hy
      rw [← keyEq_beg l x con due, keyEq_iff.2 e] at this
      exact this rfl
    rw [List.append_assoc, List.pairwise_append]
    refine ⟨List.Pairwise.sublist List.filter_sublist h7, ?_, ?_⟩
    · rw [List.singleton_append, List.pairwise_cons]
      refine ⟨?_, List.Pairwise.sublist List.filter_sublist h7⟩
      intro y hy
      rw [List.mem_filter] at hy
      exact key y hy.1 (by simpa using hy.2)
    · intro a ha b hb
      rw [List.mem_filter] at ha
      rw [List.mem_append, List.mem_singleton, List.mem_filter] at hb
      rcases hb with rfl | ⟨hb, hb2⟩
      · exact ha.2
      · exact Off.lt_trans ha.2 (key b hb (by simpa using hb2))

theorem begO_key {l m : List Off} (x : Bid) (con due : Int) : isKey x con (begO l x con due) = true := by
  simp [isKey, keyEq, idEq, begO]
theorem begL_any {l : List Off} {x : Bid} {con due : Int} (h : begE l x con due = 0) : (begL l x con due).any (isKey x con) = true := by
  rw [List.any_eq_true]
  refine ⟨begO l x con due, ?_, begO_key (m := l) x con due⟩
  unfold begL; rw [if_pos h]; simp
/-- Begun twice: it is there already. -/
theorem begE_twice {l : List Off} {x : Bid} {con due : Int} (h : begE l x con due = 0) : begE (begL l x con due) x con due = 6 := by
  have h1 := begL_chk h
  have h2 := begE_chk h
  have h3 := (chk_iff _).1 h1
  unfold begE
  rw [if_pos h1, any_same, ok_beg x con due (by omega), ← ok_beg (l := l) x con due (by have := ((chk_iff _).1 h2.1).1; omega), if_pos h2.2.1, if_pos (begL_any h)]
/-- What begins is undone by a refusal. -/
theorem begL_refuse {l : List Off} {x : Bid} {con due : Int} (h : begE l x con due = 0) : (begL l x con due).filter (fun o => !isKey x con o) = l := by
  have h2 := begE_chk h
  have h3 := (chk_iff _).1 h2.1
  have hn : ∀ m : List Off, (∀ y ∈ m, y ∈ l) → m.filter (fun o => !isKey x con o) = m := by
    intro m hm
    rw [List.filter_eq_self]
    intro y hy
    have := List.any_eq_false.1 h2.2.2.1 y (hm y hy)
    simpa using this
  unfold begL; rw [if_pos h]
  rw [List.filter_append, List.filter_append, hn _ (fun y hy => (List.mem_filter.1 hy).1), hn _ (fun y hy => (List.mem_filter.1 hy).1)]
  have e1 : [begO l x con due].filter (fun o => !isKey x con o) = [] := by
    rw [List.filter_eq_nil_iff]
    intro y hy
    rw [List.mem_singleton] at hy
    subst hy
    rw [begO_key (m := l)]; decide
  rw [e1, List.append_nil]
  have hs := sorted_takeWhile (begO l x con due) h3.2.2
  rw [← hs.1, ← hs.2, List.takeWhile_append_dropWhile]

theorem none_iff (l : List Off) (x : Bid) (con : Int) : l.filter (isKey x con) = [] ↔ l.any (isKey x con) = false := by
  rw [List.filter_eq_nil_iff, List.any_eq_false]
theorem sigN_eq (l : List Off) (x : Bid) (con : Int) (acc : Bool) : rsigN l x con acc = sigN l x con acc := by
  unfold rsigN sigN
  by_cases h0 : chk l = 0
  · rw [if_pos h0, if_pos h0]
    by_cases h : l.filter (isKey x con) = []
    · rw [if_pos h, (none_iff l x con).1 h]; rfl
    · have h2 : l.any (isKey x con) = true := by cases h2 : l.any (isKey x con) with | true => rfl | false => exact absurd ((none_iff l x con).2 h2) h
      rw [if_neg h, if_pos h2]
  · rw [if_neg h0, if_neg h0]
theorem keepS_eq (x : Bid) (con : Int) (acc : Bool) (o : Off) : keepS x con acc o = if acc then !idEq o.id x else !isKey x con o := by
  unfold keepS
  cases acc
  · simp
  · cases hk : isKey x con o
    · simp
    · simp [isKey_id hk]
theorem sigL_eq (l : List Off) (x : Bid) (con : Int) (acc : Bool) : rsigL l x con acc = sigL l x con acc := by
  unfold rsigL sigL
  by_cases h0 : chk l = 0
  · rw [if_pos h0, if_pos h0]
    by_cases h : l.filter (isKey x con) = []
    · rw [if_pos h, (none_iff l x con).1 h]; rfl
    · have h2 : l.any (isKey x con) = true := by cases h2 : l.any (isKey x con) with | true => rfl | false => exact absurd ((none_iff l x con).2 h2) h
      rw [if_neg h, if_pos h2]
      cases acc
      · exact List.filter_congr fun o _ => keepS_eq x con false o
      · exact List.filter_congr fun o _ => keepS_eq x con true o
  · rw [if_neg h0, if_neg h0]

end Go.Proofs.Ytlhdmhgbclfneaa

/- TopMerged: the walk. · TopConverges: the histories before the exchange, in memory. -/
import Derived.Test.YtemkpimngbbpkaaGreatQc34
import Derived.Test.YtemkpimngbbpkaaGreatQc39
import Derived.Test.YtemkpimngbbpkaaGreatQc47
namespace Go.Proofs.YtemkpimngbbpkaaGreat
set_option linter.unusedVariables false
set_option linter.unusedSimpArgs false
open Go.RowKit Go.Shelf
attribute [local go_sem] Oper.semAt_some
theorem plan_of {l : List Chg} {cs ts : List Con} (hS : ContS l cs) (hok : ∀ y ∈ l, y.ok 4 = true) (hl : l.length <= 64) (hp : ts.Perm cs) {quo : List Int} (hq : quo.length = 4) (hq2 : ∀ q ∈ quo, 0 <= q /\ q <= 1073741824) : (⟨quo, ts⟩ : Pln).chk = 0 := by
 have hcl := hS.len
 obtain ⟨cand, hc, rfl, _, _⟩ := hS
 refine plan_ok (p := ⟨quo, ts⟩) (by show 1 <= quo.length; omega) (by show quo.length <= 16; omega) hq2 (by show ts.length <= 64; rw [hp.length_eq]; omega) (fun c hcc => ?_) ?_
 ·have h1 := keepC_mem (hp.mem_iff.1 hcc)
  obtain ⟨y, hy, rfl⟩ := List.mem_map.1 h1
  have h2 := (Chg.ok_con (hok y (hc y hy).1) (by omega)).2 (hc y hy).2
  show y.con.Ok /\ y.con.src < (quo.length : Int) /\ y.con.dst < (quo.length : Int)
  rw [hq]
  exact h2
 ·exact (keepC_pw _).perm hp.symm (fun {a b} h => by rw [overlap_comm]; exact h)
end Go.Proofs.YtemkpimngbbpkaaGreat
namespace Go.Proofs.YtemkpimngbbpkaaGreat
set_option linter.unusedVariables false
set_option linter.unusedSimpArgs false
open Go.RowKit Go.Shelf
structure BefAt (w : World) (base5 base : Nat) (v : Value) (L : Nat -> List Chg) (K : Nat -> Nat -> Nat) (xs : List Hs) : Prop where
 own : Owns EHs w base5 56 v xs
 len : xs.length = 3
 hs : ∀ (p : Nat) (x : Hs), xs[p]? = some x -> Owns EChg w base 63 (.slice x.A x.n x.c) (hist L (K p))
section
variable {w w' : World} {base5 base B : Nat} {v : Value} {L : Nat -> List Chg} {K K' : Nat -> Nat -> Nat} {xs ys : List Hs}
theorem BefAt.ext (h : BefAt w base5 base v L K xs) (hb : Ext w w') : BefAt w' base5 base v L K xs := ⟨h.own.ext hb, h.len, fun p x hx => (h.hs p x hx).ext hb⟩
theorem BefAt.set (h : BefAt w base5 base v L K xs) (hH : HAt w base B L K' ys) (hB : B < base5) (o : Nat) (vs : List Value) : BefAt (w.setCells B o vs) base5 base v L K xs := by
 have hg : w.grownBy (w.setCells B o vs) (Value.slice (some ⟨B, 0, none⟩) 3 3).ownBlock := grown_setCells _ (World.grownBy.refl w _) _
 exact ⟨h.own.kept hg (fun g hv e => by injection e with e; subst e; have := (h.own.block hv).1; omega), h.len, fun p x hx => (h.hs p x hx).kepttZ hH.own (by decide) hg⟩
theorem BefAt.at_ {A : Option Addr} {c : Nat} (h : BefAt w base5 base (.slice A 3 c) L K xs) {p : Nat} (hp : p < 3) : ∃ (b o : Nat) (A' : Option Addr) (c' : Nat), A = some ⟨b, o, none⟩ /\ b < w.heap.size /\ w.cell? ⟨b, o + p * 2, none⟩ = some (.int .i64 4) /\ w.cell? ⟨b, o + p * 2 + 1, none⟩ = some (.slice A' (hist L (K p)).length c') /\ Rd EChg w A' (hist L (K p)) := by
 have hp' : p < xs.length := by rw [h.len]; exact hp
 obtain ⟨b, o, rfl, hb, hc⟩ := h.own.rd.at hp'
 have h1 := h.hs p xs[p] (List.getElem?_eq_getElem hp')
 refine ⟨b, o, xs[p].A, xs[p].c, rfl, hb, hc 0 _ rfl, ?_, h1.rd⟩
 rw [<- h1.len]
 exact hc 1 _ rfl
theorem HAt.all {T : List Chg} (h : HAt w base B L K xs) (hs : ∀ p, p < 3 -> hist L (K p) = T) {p : Nat} (hp : p < 3) : ∃ (A : Option Addr) (c : Nat), Rd EChg w A T /\ w.cell? ⟨B, p * 2, none⟩ = some (.int .i64 4) /\ w.cell? ⟨B, p * 2 + 1, none⟩ = some (.slice A T.length c) := by
 obtain ⟨A, c, h1, h2, h3⟩ := h.at_ hp
 rw [hs p hp] at h1 h3
 exact ⟨A, c, h1, h2, h3⟩
end
end Go.Proofs.YtemkpimngbbpkaaGreat

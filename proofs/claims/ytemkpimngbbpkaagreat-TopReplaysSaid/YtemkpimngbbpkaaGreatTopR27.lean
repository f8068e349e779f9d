/- Layer 28 (storage): holds as plain data; what a node stores, walked. · What plans, contacts and requests that come in read as. · What lists of branches and of numbers that come in read as. · What tables that come in read as. · What a bundle and bytes that come in read as. · Sets of numbers kept in a map[int]bool. -/
import Derived.Maps.OwnSet
import Derived.Maps.OwnOps
import Derived.Sort.OwnSortedInts
import Derived.Laws.EntriesVeiled
import Derived.Test.YtemkpimngbbpkaaGreatRows
import Derived.Test.YtemkpimngbbpkaaGreatTopR01
import Derived.Test.YtemkpimngbbpkaaGreatTopR04
import Derived.Test.YtemkpimngbbpkaaGreatTopR24
import Derived.Test.YtemkpimngbbpkaaGreatTopR25
import Derived.Test.YtemkpimngbbpkaaGreatTopR26
namespace Go.Proofs.YtemkpimngbbpkaaGreat
set_option linter.unusedVariables false
set_option linter.unusedSimpArgs false
set_option linter.unusedVariables false
set_option linter.unusedSimpArgs false
open Go.RowKit Go.Shelf Go.Maps
attribute [local go_sem] Oper.semAt_some

/-- A hold. -/
structure Hd where
  nod : Int
  fr : Int
  til : Int
  siz : Int
  tic : Int
def Hd.cells (b : Hd) : List Value := [.int .i64 b.nod, .int .i64 b.fr, .int .i64 b.til, .int .i64 b.siz, .int .i64 b.tic]
def Hd.val (b : Hd) : Value := .agg #[.int .i64 b.nod, .int .i64 b.fr, .int .i64 b.til, .int .i64 b.siz, .int .i64 b.tic]
def EHd : Elt Hd := ⟨Hd.cells, 5, fun _ => rfl, by omega, fun x u hu => by simp [Hd.cells] at hu; rcases hu with h | h | h | h | h <;> subst h <;> rfl⟩
theorem Rd.hd {w : World} {A : Option Addr} {l : List Hd} (h : Rd EHd w A l) {k : Nat} (hk : k < l.length) : ∃ b o, A = some ⟨b, o, none⟩ ∧ b < w.heap.size ∧
    w.cell? ⟨b, o + k * 5, none⟩ = some (.int .i64 l[k].nod) ∧ w.cell? ⟨b, o + k * 5 + 1, none⟩ = some (.int .i64 l[k].fr) ∧ w.cell? ⟨b, o + k * 5 + 2, none⟩ = some (.int .i64 l[k].til) ∧ w.cell? ⟨b, o + k * 5 + 3, none⟩ = some (.int .i64 l[k].siz) ∧ w.cell? ⟨b, o + k * 5 + 4, none⟩ = some (.int .i64 l[k].tic) := by
  obtain ⟨b, o, rfl, hb, hc⟩ := h.at hk
  exact ⟨b, o, rfl, hb, hc 0 _ rfl, hc 1 _ rfl, hc 2 _ rfl, hc 3 _ rfl, hc 4 _ rfl⟩

/-- The times of the changes, each once, as they are met. -/
def tms (E : List (Int × Int)) : List Int := E.foldl (fun ts e => if e.1 ∈ ts then ts else ts ++ [e.1]) []
theorem tms_snoc (E : List (Int × Int)) (t n : Int) : tms (E ++ [(t, n)]) = if t ∈ tms E then tms E else tms E ++ [t] := by
  unfold tms; rw [List.foldl_append]; rfl
/-- How much changes at a time. -/
def chg (E : List (Int × Int)) (t : Int) : Int := E.foldl (fun a e => if e.1 = t then a + e.2 else a) 0
theorem chg_snoc (E : List (Int × Int)) (t n x : Int) : chg (E ++ [(t, n)]) x = if t = x then chg E x + n else chg E x := by
  unfold chg; rw [List.foldl_append]; rfl
/-- The datum of a map of changes. -/
def MD (E : List (Int × Int)) (D : DataW Unit) : Prop := Maps.IsMap D ∧ ∀ t : Int, Maps.has D (.int .i64 t) = decide (t ∈ tms E) ∧ D.atKey (.int .i64 t) (.lit (.int .i64 0)) = .lit (.int .i64 (chg E t))
theorem MD.nil : MD [] (.map []) := ⟨isMap_empty, fun t => ⟨rfl, rfl⟩⟩
theorem key_intH (k : Int) : WideAt.IsKeyLit (Lit.int .i64 k) := trivial
theorem lit_neH {j k : Int} (h : k ≠ j) : (Lit.int .i64 k) ≠ (Lit.int .i64 j) := fun e => h (by injection e)
theorem MD.put {E : List (Int × Int)} {D : DataW Unit} (h : MD E D) (t n : Int) : MD (E ++ [(t, n)]) (D.put (.int .i64 t) (.lit (.int .i64 (chg E t + n)))) := by
  refine ⟨h.1.put _ _, fun x => ?_⟩
  rw [chg_snoc]
  by_cases e : x = t
  · subst e
    rw [has_put_same h.1 (key_intH _), atKey_put_same h.1 (key_intH _), if_pos rfl]
    refine ⟨(decide_eq_true ?_).symm, rfl⟩
    rw [tms_snoc]
    split
    · assumption
    · simp
  · rw [has_put_other (lit_neH e), atKey_put_other (lit_neH e), if_neg (fun h => e h.symm)]
    refine ⟨?_, (h.2 x).2⟩
    rw [(h.2 x).1, tms_snoc]
    split
    · rfl
    · simp [e]
theorem law_intH : Keyed Tryz.prog 3 := int_keyed Tryz.underlying3
theorem wf64H {z : Int} (h : -9223372036854775808 ≤ z ∧ z ≤ 9223372036854775807) : (Lit.int .i64 z).wf = true := by
  simp [Lit.wf, IntKind.min, IntKind.max, IntKind.bits, IntKind.signed]; omega
end Go.Proofs.YtemkpimngbbpkaaGreat

namespace Go.Proofs.YtemkpimngbbpkaaGreat
set_option linter.unusedVariables false
set_option linter.unusedSimpArgs false
set_option linter.unusedVariables false
open Go.ChangeShapes Go.WideShapes Go.ChangeAt Go.RowKit Go.Deep

theorem row_own : ownKnob Tryz.prog.godebug = none := by kernel_rfl
theorem row_laid : laidOutB Tryz.prog = true := by kernel_rfl

theorem wf_bd8 {z : Int} (h : (Lit.int .u8 z).wf = true) : 0 ≤ z ∧ z ≤ 255 := by
  simp [Lit.wf, IntKind.min, IntKind.max, IntKind.bits, IntKind.signed] at h; omega

section
variable {H : Type} {enc : TypeId × Value → H} {w : World} {base : Nat} {spare : Nat → Bool} {held : Bool} {r : Reach} {b0 : Nat} {v : Value} {d : DataW H} {p : List MemPlace}
end

end Go.Proofs.YtemkpimngbbpkaaGreat

namespace Go.Proofs.YtemkpimngbbpkaaGreat
set_option linter.unusedVariables false
set_option linter.unusedSimpArgs false
set_option linter.unusedVariables false
open Go.ChangeShapes Go.WideShapes Go.ChangeAt Go.RowKit Go.Deep

section
variable {H : Type} {enc : TypeId × Value → H} {w : World} {base : Nat} {spare : Nat → Bool} {held : Bool} {r : Reach} {b0 : Nat} {v : Value} {d : DataW H} {p : List MemPlace}
end
end Go.Proofs.YtemkpimngbbpkaaGreat

namespace Go.Proofs.YtemkpimngbbpkaaGreat
set_option linter.unusedVariables false
set_option linter.unusedSimpArgs false
set_option linter.unusedVariables false
open Go.ChangeShapes Go.WideShapes Go.ChangeAt Go.RowKit Go.Deep

section
variable {H : Type} {enc : TypeId × Value → H} {w : World} {base : Nat} {spare : Nat → Bool} {held : Bool} {r : Reach} {b0 : Nat} {v : Value} {d : DataW H} {p : List MemPlace}
end
end Go.Proofs.YtemkpimngbbpkaaGreat

namespace Go.Proofs.YtemkpimngbbpkaaGreat
set_option linter.unusedVariables false
set_option linter.unusedSimpArgs false
set_option linter.unusedVariables false
open Go.ChangeShapes Go.WideShapes Go.ChangeAt Go.RowKit Go.Deep

def EU8 : Elt Int := ⟨fun x => [.int .u8 x], 1, fun _ => rfl, by omega, fun x u hu => by simp at hu; subst hu; rfl⟩
theorem Rd.u8 {w : World} {A : Option Addr} {l : List Int} (h : Rd EU8 w A l) {k : Nat} (hk : k < l.length) : ∃ b o, A = some ⟨b, o, none⟩ ∧ b < w.heap.size ∧ w.cell? ⟨b, o + k, none⟩ = some (.int .u8 l[k]) := by
  obtain ⟨b, o, rfl, hb, hc⟩ := h.at hk
  refine ⟨b, o, rfl, hb, ?_⟩
  have := hc 0 (.int .u8 l[k]) rfl
  simpa [EU8] using this
set_option maxRecDepth 100000 in
theorem flat_u8 : Go.Proofs.YtemkpimngbbpkaaGreat.flatK Tryz.prog 4 5 = some [.num .u8] := by kernel_rfl
theorem strV_of (ba : ByteArray) : ∃ l : Bts, Value.string ba = strV l := ⟨ba.data.toList, by unfold strV; congr 1⟩
set_option maxRecDepth 100000 in
theorem flat_bl : flatK Tryz.prog 4 116 = some [.i64, .i64, .str] := by kernel_rfl
theorem CKs.str1 {ws : List Value} (h : CKs [.str] ws) : ∃ b : ByteArray, ws = [.string b] := by
  cases ws with
  | nil => exact h.elim
  | cons x xs =>
    cases xs with
    | nil =>
      obtain ⟨⟨b, hb⟩, _⟩ := h
      exact ⟨b, by rw [hb]⟩
    | cons y ys => exact h.2.elim
theorem dec_bl (cs : List Value) (h : CKs [.i64, .i64, .str] cs) : ∃ x : Bl, cs = EBl.cells x ∧ True := by
  obtain ⟨us, ws, rfl, h1, h2⟩ := CKs.split (ks := List.replicate 2 .i64) (ls := [.str]) h
  obtain ⟨zs, hl, rfl, _⟩ := CKs.ints h1
  obtain ⟨c, rfl⟩ := CKs.str1 h2
  obtain ⟨l, hc⟩ := strV_of c
  match zs, hl with
  | [a, b], _ => exact ⟨⟨a, b, l⟩, by rw [hc]; rfl, trivial⟩
section
variable {H : Type} {enc : TypeId × Value → H} {w : World} {base : Nat} {spare : Nat → Bool} {held : Bool} {r : Reach} {b0 : Nat} {v : Value} {d : DataW H} {p : List MemPlace}
set_option maxRecDepth 100000 in
theorem open_u8s (hv : Value.okWide Tryz.prog w r b0 22 v) (h : DataW.Trod enc Tryz.prog w base spare held 22 v d p) : ∃ A c l, v = .slice A l.length c ∧ Rd EU8 w A l ∧ l.length ≤ c ∧ c ≤ maxLen ∧ ∀ x ∈ l, 0 ≤ x ∧ x ≤ 255 := by
  obtain ⟨A, c, l, h1, h2, h3, h4, h5⟩ := open_list EU8 (fun x => 0 ≤ x ∧ x ≤ 255) Tryz.underlying22 flat_u8 (by kernel_rfl) (fun cs hcs => by
    match cs, hcs with
    | [u], h => obtain ⟨⟨z, rfl, hz⟩, _⟩ := h; exact ⟨z, rfl, wf_bd8 hz⟩) hv h
  exact ⟨A, c, l, h1, h2, h3, h4, h5⟩
theorem field_at {P : Program} {t : TypeId} {fs : Array Field} {fuel : Nat} {cs : List Value} {x : DataW H × List MemPlace} (hs : P.underlying t = some (.struct fs)) (hf : DataW.trod enc P w base spare held fuel t cs = some x) :
    ∃ n, ∀ (i : Nat) (f : Field), fs[i]? = some f → ∃ y, DataW.trod enc P w base spare held n f.type ((cs.drop f.offset).take (P.cellsOf f.type)) = some y := by
  obtain ⟨xs, n, _, hx, _, hlen, hg⟩ := DataW.trod_struct hs hf
  refine ⟨n, fun i f hi => ?_⟩
  have hl : i < fs.size := (Array.getElem?_eq_some_iff.1 hi).1
  have h1 := hg i f hi
  exact ⟨xs[i]'(by omega), h1.trans (List.getElem?_eq_getElem _)⟩
set_option maxRecDepth 100000 in
theorem flat_id : flatK Tryz.prog 4 24 = some (List.replicate 5 .i64) := by kernel_rfl
set_option maxRecDepth 100000 in
theorem flat_ep : flatK Tryz.prog 4 26 = some (List.replicate 2 .i64) := by kernel_rfl
theorem flat_i : flatK Tryz.prog 4 3 = some (List.replicate 1 .i64) := by kernel_rfl
theorem flat_s : flatK Tryz.prog 4 9 = some [.str] := by kernel_rfl
set_option maxRecDepth 100000 in
set_option maxHeartbeats 2000000 in
theorem open_bundle (hv : Value.okWide Tryz.prog w r b0 29 v) (h : DataW.Trod enc Tryz.prog w base spare held 29 v d p) : ∃ (b : Bu) (A : Option Addr) (c : Nat), v = .agg (b.cells A c) ∧ Rd EBl w A b.blocks := by
  have k1 : Tryz.prog.cellsOf 24 = 5 := by kernel_rfl
  have k2 : Tryz.prog.cellsOf 26 = 2 := by kernel_rfl
  have k3 : Tryz.prog.cellsOf 3 = 1 := by kernel_rfl
  have k4 : Tryz.prog.cellsOf 27 = 1 := by kernel_rfl
  have k5 : Tryz.prog.cellsOf 9 = 1 := by kernel_rfl
  have kC : Tryz.prog.cellsOf 29 = 12 := by kernel_rfl
  obtain ⟨cs, rfl, hsz⟩ := okWide_struct Tryz.underlying29 hv
  obtain ⟨l⟩ := cs
  obtain ⟨fuel, hf⟩ := h
  obtain ⟨n, H⟩ := field_at Tryz.underlying29 hf
  match l, hsz.trans kC with
  | [c0, c1, c2, c3, c4, c5, c6, c7, c8, c9, c10, c11], _ =>
    obtain ⟨y0, h0⟩ := H 0 _ rfl
    obtain ⟨y1, h1⟩ := H 1 _ rfl
    obtain ⟨y2, h2⟩ := H 2 _ rfl
    obtain ⟨y3, h3⟩ := H 3 _ rfl
    obtain ⟨y4, h4⟩ := H 4 _ rfl
    obtain ⟨y5, h5⟩ := H 5 _ rfl
    obtain ⟨y6, h6⟩ := H 6 _ rfl
    replace h0 : DataW.trod enc Tryz.prog w base spare held n 24 (([c0, c1, c2, c3, c4, c5, c6, c7, c8, c9, c10, c11].drop 0).take (Tryz.prog.cellsOf 24)) = some y0 := h0
    replace h1 : DataW.trod enc Tryz.prog w base spare held n 26 (([c0, c1, c2, c3, c4, c5, c6, c7, c8, c9, c10, c11].drop 5).take (Tryz.prog.cellsOf 26)) = some y1 := h1
    replace h2 : DataW.trod enc Tryz.prog w base spare held n 3 (([c0, c1, c2, c3, c4, c5, c6, c7, c8, c9, c10, c11].drop 7).take (Tryz.prog.cellsOf 3)) = some y2 := h2
    replace h3 : DataW.trod enc Tryz.prog w base spare held n 3 (([c0, c1, c2, c3, c4, c5, c6, c7, c8, c9, c10, c11].drop 8).take (Tryz.prog.cellsOf 3)) = some y3 := h3
    replace h4 : DataW.trod enc Tryz.prog w base spare held n 3 (([c0, c1, c2, c3, c4, c5, c6, c7, c8, c9, c10, c11].drop 9).take (Tryz.prog.cellsOf 3)) = some y4 := h4
    replace h5 : DataW.trod enc Tryz.prog w base spare held n 27 (([c0, c1, c2, c3, c4, c5, c6, c7, c8, c9, c10, c11].drop 10).take (Tryz.prog.cellsOf 27)) = some y5 := h5
    replace h6 : DataW.trod enc Tryz.prog w base spare held n 9 (([c0, c1, c2, c3, c4, c5, c6, c7, c8, c9, c10, c11].drop 11).take (Tryz.prog.cellsOf 9)) = some y6 := h6
    rw [k1] at h0
    rw [k2] at h1
    rw [k3] at h2 h3 h4
    rw [k4] at h5
    rw [k5] at h6
    have g0 := flat_trod 4 _ _ flat_id _ _ _ h0
    have g1 := flat_trod 4 _ _ flat_ep _ _ _ h1
    have g2 := flat_trod 4 _ _ flat_i _ _ _ h2
    have g3 := flat_trod 4 _ _ flat_i _ _ _ h3
    have g4 := flat_trod 4 _ _ flat_i _ _ _ h4
    have g6 := flat_trod 4 _ _ flat_s _ _ _ h6
    simp only [Value.cells, List.drop, List.take] at g0 g1 g2 g3 g4 g6 h5
    obtain ⟨z0, l0, e0, _⟩ := CKs.ints g0
    obtain ⟨z1, l1, e1, _⟩ := CKs.ints g1
    obtain ⟨z2, l2, e2, _⟩ := CKs.ints g2
    obtain ⟨z3, l3, e3, _⟩ := CKs.ints g3
    obtain ⟨z4, l4, e4, _⟩ := CKs.ints g4
    obtain ⟨sb, e6⟩ := CKs.str1 g6
    match z0, l0, z1, l1, z2, l2, z3, l3, z4, l4 with
    | [a0, a1, a2, a3, a4], _, [a5, a6], _, [a7], _, [a8], _, [a9], _ =>
    simp only [List.map, List.cons.injEq, and_true] at e0 e1 e2 e3 e4 e6
    obtain ⟨rfl, rfl, rfl, rfl, rfl⟩ := e0
    obtain ⟨rfl, rfl⟩ := e1
    subst e2 e3 e4 e6
    obtain ⟨A, c, bl, rfl, hR, _⟩ := open_list_cell EBl (fun _ => True) Tryz.underlying27 flat_bl (by kernel_rfl) dec_bl h5
    obtain ⟨pay, hpay⟩ := strV_of sb
    exact ⟨⟨a0, a1, a2, a3, a4, a5, a6, a7, a8, a9, bl, pay⟩, A, c, by rw [hpay]; rfl, hR⟩
end
end Go.Proofs.YtemkpimngbbpkaaGreat

namespace Go.Proofs.YtemkpimngbbpkaaGreat
set_option linter.unusedVariables false
set_option linter.unusedSimpArgs false
set_option linter.unusedVariables false
set_option linter.unusedSimpArgs false
open Go.RowKit Go.Shelf Go.Maps

/-- The datum of a set of numbers. -/
def MB (S : List Int) (D : DataW Unit) : Prop := Maps.IsMap D ∧ ∀ t : Int, D.atKey (.int .i64 t) (.lit (.bool false)) = .lit (.bool (decide (t ∈ S)))
theorem MB.nil : MB [] (.map []) := ⟨isMap_empty, fun t => rfl⟩
theorem MB.put {S : List Int} {D : DataW Unit} (h : MB S D) (t : Int) : MB (S ++ [t]) (D.put (.int .i64 t) (.lit (.bool true))) := by
  refine ⟨h.1.put _ _, fun x => ?_⟩
  by_cases e : x = t
  · subst e
    rw [atKey_put_same h.1 (key_intH _)]
    simp
  · rw [atKey_put_other (lit_neH e), h.2 x]
    simp [e]
abbrev OMapB (w : World) (g c : Nat) (D : DataW Unit) : Prop := w.ownsMap Tryz.prog 3 (plainElem Tryz.prog 4) g c D
theorem ownb_ext {w w' : World} {g c : Nat} {D : DataW Unit} (h : OMapB w g c D) (hb : Ext w w') : OMapB w' g c D := by
  obtain ⟨es, clock, h1, rest⟩ := h
  exact ⟨es, clock, (Below.block hb g (Array.getElem?_eq_some_iff.1 h1).1).trans h1, rest⟩
theorem zero_boolB (w : World) : (zeroValue 4).run Tryz.prog w = .ok (.bool false) w := by kernel_rfl
set_option maxRecDepth 100000 in
theorem plainElem_bool_inv {v : Value} {z : DataW Unit × List MemPlace} (h : plainElem Tryz.prog 4 v = some z) : ∃ b, v = .bool b ∧ z = (.lit (.bool b), []) := by
  unfold plainElem at h
  rw [Tryz.underlying4] at h
  cases v <;> simp at h
  exact ⟨_, rfl, h.symm⟩
set_option maxRecDepth 100000 in
theorem updB {w : World} {g c : Nat} {D : DataW Unit} (h : OMapB w g c D) (hc : c < 1000) {x : Int} (hx : -9223372036854775808 ≤ x ∧ x ≤ 9223372036854775807) :
    ∃ w', (Instr.mapUpdate 39 (.map (some g)) (.int .i64 x) (.bool true)).run Tryz.prog w = .ok () w' ∧ OMapB w' g (c + 1) (D.put (.int .i64 x) (.lit (.bool true))) ∧ w.grownBy w' (some g) :=
  h.update law_intH Tryz.underlying39 (by unfold maxLen; omega) (keyOf_int_mk (P := Tryz.prog) Tryz.underlying3 (wf64H hx)) (plainElem_bool Tryz.underlying4 true)
set_option maxRecDepth 100000 in
theorem lookBd {w : World} {g c : Nat} {D : DataW Unit} (h : OMapB w g c D) {S : List Int} (hm : MB S D) {x : Int} (hx : -9223372036854775808 ≤ x ∧ x ≤ 9223372036854775807) :
    (Instr.lookup 39 (.map (some g)) (.int .i64 x) false).run Tryz.prog w = .ok (.bool (decide (x ∈ S))) w := by
  obtain ⟨v, ps, hrun, hv⟩ := h.lookup law_intH Tryz.underlying39 (zero_boolB w) (plainElem_bool Tryz.underlying4 false) (keyOf_int_mk (P := Tryz.prog) Tryz.underlying3 (wf64H hx))
  obtain ⟨b, rfl, hz⟩ := plainElem_bool_inv hv
  rw [hm.2 x] at hz
  injection hz with hz _
  injection hz with hz
  injection hz with hz
  rw [hrun, ← hz]
theorem ownb_grown {w w' : World} {g c : Nat} {D : DataW Unit} {ob : Option Nat} (h : OMapB w g c D) (hg : w.grownBy w' ob) (hne : ob ≠ some g) : OMapB w' g c D := World.ownsMap.kept h hg (fun e => hne e.symm)
end Go.Proofs.YtemkpimngbbpkaaGreat

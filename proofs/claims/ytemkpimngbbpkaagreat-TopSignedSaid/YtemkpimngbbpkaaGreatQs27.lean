/- Layer 28 (storage): holds as plain data; what a node stores, walked. · What plans, contacts and requests that come in read as. · What lists of branches and of numbers that come in read as. · What tables that come in read as. · What a bundle and bytes that come in read as. · What the hops of TopSigned that come in read as. -/
import Derived.Maps.OwnSet
import Derived.Maps.OwnOps
import Derived.Sort.OwnSortedInts
import Derived.Laws.EntriesVeiled
import Derived.Test.YtemkpimngbbpkaaGreatRows
import Derived.Test.YtemkpimngbbpkaaGreatQs01
import Derived.Test.YtemkpimngbbpkaaGreatQs04
import Derived.Test.YtemkpimngbbpkaaGreatQs05
import Derived.Test.YtemkpimngbbpkaaGreatQs08
import Derived.Test.YtemkpimngbbpkaaGreatQs25
import Derived.Test.YtemkpimngbbpkaaGreatQs26
namespace Go.Proofs.YtemkpimngbbpkaaGreat
set_option linter.unusedVariables false
set_option linter.unusedSimpArgs false
section
open Go.RowKit Go.Shelf Go.Maps
attribute [local go_sem] Oper.semAt_some
structure Hd where
 nod : Int
 fr : Int
 til : Int
 siz : Int
 tic : Int
end
section
open Go.ChangeShapes Go.WideShapes Go.ChangeAt Go.RowKit Go.Deep
theorem row_own : ownKnob Tryz.prog.godebug = none := by kernel_rfl
theorem row_laid : laidOutB Tryz.prog = true := by kernel_rfl
theorem wf_bd16 {z : Int} (h : (Lit.int .u16 z).wf = true) : 0 <= z /\ z <= 65535 := by
 simp [Lit.wf, IntKind.min, IntKind.max, IntKind.bits, IntKind.signed] at h; omega
theorem wf_bd8 {z : Int} (h : (Lit.int .u8 z).wf = true) : 0 <= z /\ z <= 255 := by
 simp [Lit.wf, IntKind.min, IntKind.max, IntKind.bits, IntKind.signed] at h; omega
section
variable {H : Type} {enc : TypeId × Value -> H} {w : World} {base : Nat} {spare : Nat -> Bool} {held : Bool} {r : Reach} {b0 : Nat} {v : Value} {d : DataW H} {p : List MemPlace}
end
end
section
open Go.ChangeShapes Go.WideShapes Go.ChangeAt Go.RowKit Go.Deep
section
variable {H : Type} {enc : TypeId × Value -> H} {w : World} {base : Nat} {spare : Nat -> Bool} {held : Bool} {r : Reach} {b0 : Nat} {v : Value} {d : DataW H} {p : List MemPlace}
end
end
section
open Go.ChangeShapes Go.WideShapes Go.ChangeAt Go.RowKit Go.Deep
section
variable {H : Type} {enc : TypeId × Value -> H} {w : World} {base : Nat} {spare : Nat -> Bool} {held : Bool} {r : Reach} {b0 : Nat} {v : Value} {d : DataW H} {p : List MemPlace}
end
end
section
open Go.ChangeShapes Go.WideShapes Go.ChangeAt Go.RowKit Go.Deep
theorem strV_of (ba : ByteArray) : ∃ l : Bts, Value.string ba = strV l := ⟨ba.data.toList, by unfold strV; congr 1⟩
set_option maxRecDepth 100000 in
theorem flat_bl : flatK Tryz.prog 4 116 = some [.i64, .i64, .str] := by kernel_rfl
theorem CKs.str1 {ws : List Value} (h : CKs [.str] ws) : ∃ b : ByteArray, ws = [.string b] := by
 cases ws with
 | nil => exact h.elim
 | cons x xs =>
   cases xs with
   | nil =>
     obtain ⟨⟨b, hb⟩, _⟩ := h
     exact ⟨b, by rw [hb]⟩
   | cons y ys => exact h.2.elim
theorem dec_bl (cs : List Value) (h : CKs [.i64, .i64, .str] cs) : ∃ x : Bl, cs = EBl.cells x /\ True := by
 obtain ⟨us, ws, rfl, h1, h2⟩ := CKs.split (ks := List.replicate 2 .i64) (ls := [.str]) h
 obtain ⟨zs, hl, rfl, _⟩ := CKs.ints h1
 obtain ⟨c, rfl⟩ := CKs.str1 h2
 obtain ⟨l, hc⟩ := strV_of c
 match zs, hl with
 | [a, b], _ => exact ⟨⟨a, b, l⟩, by rw [hc]; rfl, trivial⟩
section
variable {H : Type} {enc : TypeId × Value -> H} {w : World} {base : Nat} {spare : Nat -> Bool} {held : Bool} {r : Reach} {b0 : Nat} {v : Value} {d : DataW H} {p : List MemPlace}
theorem field_at {P : Program} {t : TypeId} {fs : Array Field} {fuel : Nat} {cs : List Value} {x : DataW H × List MemPlace} (hs : P.underlying t = some (.struct fs)) (hf : DataW.trod enc P w base spare held fuel t cs = some x) :
 ∃ n, ∀ (i : Nat) (f : Field), fs[i]? = some f -> ∃ y, DataW.trod enc P w base spare held n f.type ((cs.drop f.offset).take (P.cellsOf f.type)) = some y := by
 obtain ⟨xs, n, _, hx, _, hlen, hg⟩ := DataW.trod_struct hs hf
 refine ⟨n, fun i f hi => ?_⟩
 have hl : i < fs.size := (Array.getElem?_eq_some_iff.1 hi).1
 have h1 := hg i f hi
 exact ⟨xs[i]'(by omega), h1.trans (List.getElem?_eq_getElem _)⟩
set_option maxRecDepth 100000 in
theorem flat_id : flatK Tryz.prog 4 24 = some (List.replicate 5 .i64) := by kernel_rfl
set_option maxRecDepth 100000 in
theorem flat_ep : flatK Tryz.prog 4 26 = some (List.replicate 2 .i64) := by kernel_rfl
theorem flat_i : flatK Tryz.prog 4 3 = some (List.replicate 1 .i64) := by kernel_rfl
theorem flat_s : flatK Tryz.prog 4 9 = some [.str] := by kernel_rfl
set_option maxRecDepth 100000 in
set_option maxHeartbeats 2000000 in
theorem open_bundle (hv : Value.okWide Tryz.prog w r b0 29 v) (h : DataW.Trod enc Tryz.prog w base spare held 29 v d p) : ∃ (b : Bu) (A : Option Addr) (c : Nat), v = .agg (b.cells A c) /\ Rd EBl w A b.blocks := by
 have k1 : Tryz.prog.cellsOf 24 = 5 := by kernel_rfl
 have k2 : Tryz.prog.cellsOf 26 = 2 := by kernel_rfl
 have k3 : Tryz.prog.cellsOf 3 = 1 := by kernel_rfl
 have k4 : Tryz.prog.cellsOf 27 = 1 := by kernel_rfl
 have k5 : Tryz.prog.cellsOf 9 = 1 := by kernel_rfl
 have kC : Tryz.prog.cellsOf 29 = 12 := by kernel_rfl
 obtain ⟨cs, rfl, hsz⟩ := okWide_struct Tryz.underlying29 hv
 obtain ⟨l⟩ := cs
 obtain ⟨fuel, hf⟩ := h
 obtain ⟨n, H⟩ := field_at Tryz.underlying29 hf
 match l, hsz.trans kC with
 | [c0, c1, c2, c3, c4, c5, c6, c7, c8, c9, c10, c11], _ =>
   obtain ⟨y0, h0⟩ := H 0 _ rfl
   obtain ⟨y1, h1⟩ := H 1 _ rfl
   obtain ⟨y2, h2⟩ := H 2 _ rfl
   obtain ⟨y3, h3⟩ := H 3 _ rfl
   obtain ⟨y4, h4⟩ := H 4 _ rfl
   obtain ⟨y5, h5⟩ := H 5 _ rfl
   obtain ⟨y6, h6⟩ := H 6 _ rfl
   replace h0 : DataW.trod enc Tryz.prog w base spare held n 24 (([c0, c1, c2, c3, c4, c5, c6, c7, c8, c9, c10, c11].drop 0).take (Tryz.prog.cellsOf 24)) = some y0 := h0
   replace h1 : DataW.trod enc Tryz.prog w base spare held n 26 (([c0, c1, c2, c3, c4, c5, c6, c7, c8, c9, c10, c11].drop 5).take (Tryz.prog.cellsOf 26)) = some y1 := h1
   replace h2 : DataW.trod enc Tryz.prog w base spare held n 3 (([c0, c1, c2, c3, c4, c5, c6, c7, c8, c9, c10, c11].drop 7).take (Tryz.prog.cellsOf 3)) = some y2 := h2
   replace h3 : DataW.trod enc Tryz.prog w base spare held n 3 (([c0, c1, c2, c3, c4, c5, c6, c7, c8, c9, c10, c11].drop 8).take (Tryz.prog.cellsOf 3)) = some y3 := h3
   replace h4 : DataW.trod enc Tryz.prog w base spare held n 3 (([c0, c1, c2, c3, c4, c5, c6, c7, c8, c9, c10, c11].drop 9).take (Tryz.prog.cellsOf 3)) = some y4 := h4
   replace h5 : DataW.trod enc Tryz.prog w base spare held n 27 (([c0, c1, c2, c3, c4, c5, c6, c7, c8, c9, c10, c11].drop 10).take (Tryz.prog.cellsOf 27)) = some y5 := h5
   replace h6 : DataW.trod enc Tryz.prog w base spare held n 9 (([c0, c1, c2, c3, c4, c5, c6, c7, c8, c9, c10, c11].drop 11).take (Tryz.prog.cellsOf 9)) = some y6 := h6
   rw [k1] at h0
   rw [k2] at h1
   rw [k3] at h2 h3 h4
   rw [k4] at h5
   rw [k5] at h6
   have g0 := flat_trod 4 _ _ flat_id _ _ _ h0
   have g1 := flat_trod 4 _ _ flat_ep _ _ _ h1
   have g2 := flat_trod 4 _ _ flat_i _ _ _ h2
   have g3 := flat_trod 4 _ _ flat_i _ _ _ h3
   have g4 := flat_trod 4 _ _ flat_i _ _ _ h4
   have g6 := flat_trod 4 _ _ flat_s _ _ _ h6
   simp only [Value.cells, List.drop, List.take] at g0 g1 g2 g3 g4 g6 h5
   obtain ⟨z0, l0, e0, _⟩ := CKs.ints g0
   obtain ⟨z1, l1, e1, _⟩ := CKs.ints g1
   obtain ⟨z2, l2, e2, _⟩ := CKs.ints g2
   obtain ⟨z3, l3, e3, _⟩ := CKs.ints g3
   obtain ⟨z4, l4, e4, _⟩ := CKs.ints g4
   obtain ⟨sb, e6⟩ := CKs.str1 g6
   match z0, l0, z1, l1, z2, l2, z3, l3, z4, l4 with
   | [a0, a1, a2, a3, a4], _, [a5, a6], _, [a7], _, [a8], _, [a9], _ =>
   simp only [List.map, List.cons.injEq, and_true] at e0 e1 e2 e3 e4 e6
   obtain ⟨rfl, rfl, rfl, rfl, rfl⟩ := e0
   obtain ⟨rfl, rfl⟩ := e1
   subst e2 e3 e4 e6
   obtain ⟨A, c, bl, rfl, hR, _⟩ := open_list_cell EBl (fun _ => True) Tryz.underlying27 flat_bl (by kernel_rfl) dec_bl h5
   obtain ⟨pay, hpay⟩ := strV_of sb
   exact ⟨⟨a0, a1, a2, a3, a4, a5, a6, a7, a8, a9, bl, pay⟩, A, c, by rw [hpay]; rfl, hR⟩
end
end
section
open Go.ChangeShapes Go.WideShapes Go.ChangeAt Go.RowKit Go.Deep
structure Thp where
 node : Int
 el : Int
def EThp : Elt Thp := ⟨fun x => [.int .i64 x.node, .int .i64 x.el], 2, fun _ => rfl, by omega, fun x u hu => by simp at hu; rcases hu with h | h <;> subst h <;> rfl⟩
theorem Rd.thp {w : World} {A : Option Addr} {l : List Thp} (h : Rd EThp w A l) {k : Nat} (hk : k < l.length) : ∃ b o, A = some ⟨b, o, none⟩ /\ b < w.heap.size /\ w.cell? ⟨b, o + k * 2, none⟩ = some (.int .i64 l[k].node) /\ w.cell? ⟨b, o + k * 2 + 1, none⟩ = some (.int .i64 l[k].el) := by
 obtain ⟨b, o, rfl, hb, hc⟩ := h.at hk
 exact ⟨b, o, rfl, hb, hc 0 _ rfl, hc 1 _ rfl⟩
set_option maxRecDepth 100000 in
theorem flat_thp : Go.Proofs.YtemkpimngbbpkaaGreat.flatK Tryz.prog 4 107 = some (List.replicate 2 .i64) := by kernel_rfl
theorem dec_thp (cs : List Value) (h : CKs (List.replicate 2 .i64) cs) : ∃ x : Thp, cs = EThp.cells x /\ True := by
 obtain ⟨zs, hl, rfl, hw⟩ := CKs.ints h
 match zs, hl with
 | [a, b], _ => exact ⟨⟨a, b⟩, rfl, trivial⟩
section
variable {H : Type} {enc : TypeId × Value -> H} {w : World} {base : Nat} {spare : Nat -> Bool} {held : Bool} {r : Reach} {b0 : Nat} {v : Value} {d : DataW H} {p : List MemPlace}
set_option maxRecDepth 100000 in
theorem open_thops (hv : Value.okWide Tryz.prog w r b0 103 v) (h : DataW.Trod enc Tryz.prog w base spare held 103 v d p) : ∃ A c l, v = .slice A l.length c /\ Rd EThp w A l /\ l.length <= maxLen := by
 obtain ⟨A, c, l, h1, h2, h3, h4, h5⟩ := open_list EThp (fun _ => True) Tryz.underlying103 flat_thp (by kernel_rfl) dec_thp hv h
 exact ⟨A, c, l, h1, h2, Nat.le_trans h3 h4⟩
end
end
end Go.Proofs.YtemkpimngbbpkaaGreat

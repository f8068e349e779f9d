/- Layer 24 (journey): the walks of hop (the program's and the reference's). · Layer 24 (journey): the reference's round, start, arrivals. · Layer 24 (journey): the walk of the frontier's next. · Layer 24 (journey): the iterator over the hops from a node. · A function whose plain loop holds a range over a function: the blocks for the deferred calls pile up. · Security: what makes a bundle valid: the small checks. · Security: block.Check. · Security: bundle.checkId. · Security: a bundle's value; bundle.checkPayload. -/
import Derived.Laws.ResultCell
import Derived.Laws.IdiomCopy
import Derived.Deep.AppendLies
import Derived.Deep.RegionLaw
import Derived.Deep.CutRange
import Derived.BigRegion
import Derived.Test.YtemkpimngbbpkaaGreatQs01
import Derived.Test.YtemkpimngbbpkaaGreatQs03
namespace Go.Proofs.YtemkpimngbbpkaaGreat
set_option linter.unusedVariables false
set_option linter.unusedSimpArgs false
section
open Go.RowKit Go.Shelf
end
section
open Go.RowKit Go.Shelf
theorem info_int : (Tryz.prog.info? 3).map (fun i => (i.zero, i.size, i.bytes)) = some (some (.int .i64 0), 1, 8) := by kernel_rfl
end
section
open Go.RowKit Go.Shelf
end
section
open Go.RowKit Go.Shelf
attribute [local go_sem] Oper.semAt_some
structure KpX (n g : Nat) (W W' : World) : Prop where
 os : W'.os = W.os
 tape : W'.tape = W.tape
 output : W'.output = W.output
 size : W.heap.size <= W'.heap.size
 block : ∀ k, k < n -> k ≠ g -> W'.heap[k]? = W.heap[k]?
theorem KpX.refl (n g : Nat) (W : World) : KpX n g W W := ⟨rfl, rfl, rfl, Nat.le_refl _, fun _ _ _ => rfl⟩
theorem KpX.trans {n g : Nat} {A B C : World} (h : KpX n g A B) (k : KpX n g B C) : KpX n g A C :=
 ⟨k.os.trans h.os, k.tape.trans h.tape, k.output.trans h.output, Nat.le_trans h.size k.size, fun i h1 h2 => (k.block i h1 h2).trans (h.block i h1 h2)⟩
theorem KpX.of_ext {n g : Nat} {W W' : World} (hn : n <= W.heap.size) (h : Ext W W') : KpX n g W W' :=
 ⟨h.os, h.tape, h.output, h.size, fun k hk _ => h.block k (by omega)⟩
theorem KpX.setCell {n g : Nat} (W : World) (o : Nat) (v : Value) : KpX n g W (W.setCell ⟨g, o, none⟩ v) :=
 ⟨rfl, rfl, rfl, by simp [World.setCell], fun k _ hne => Below.heap_setCell W ⟨g, o, none⟩ v k (fun e => hne (by rw [e]))⟩
theorem KpX.blk {n g : Nat} {W W' : World} (h : KpX n g W W') {b : Nat} {t : TypeId} {cs : Array Value} (hb : Blk W b t cs) (h1 : b < n) (h2 : b ≠ g) : Blk W' b t cs := (h.block b h1 h2).trans hb
theorem KpX.below {n g B : Nat} {W W' : World} (h : KpX n g W W') (h1 : B <= n) (h2 : B <= g) : Below B W W' :=
 ⟨h.os, h.tape, h.output, h.size, fun k hk => h.block k (by omega) (by omega)⟩
theorem KpX.ext {n g : Nat} {w W W' : World} (h : KpX n g W W') (hw : Ext w W) (h1 : w.heap.size <= n) (h2 : w.heap.size <= g) : Ext w W' := Below.trans hw (h.below h1 h2)
theorem grown_none {W W' : World} (h : Ext W W') : W.grownBy W' none := grown_ext (World.grownBy.refl W none) h
theorem abides_ext {β : Type} {B : Nat} {J : β -> World -> Prop} (h : AbidesFrom B J) {s : β} {W W' : World} (hs : J s W) (he : Ext W W') : J s W' :=
 h s W W' none hs (grown_none he) (fun r e => by cases e)
end
section
open Go.RowKit Go.Shelf
def mkD (D : Nat) : Deferred := { target := .collected D, args := #[] }
def DSx (hi lo : Nat) (ds : List Deferred) (w : World) : Prop := ∃ Ds : List Nat, ds = Ds.map mkD /\ Ds.Nodup /\ ∀ D ∈ Ds, lo <= D /\ D < hi /\ w.heap[D]? = some (.deferred (some []))
theorem DSx.nil (hi lo : Nat) (w : World) : DSx hi lo [] w := ⟨[], rfl, List.nodup_nil, by simp⟩
theorem DSx.keeps {hi lo : Nat} {ds : List Deferred} {w w' : World} (h : DSx hi lo ds w) (hk : KeepsOthers w w') : DSx hi lo ds w' := by
 obtain ⟨Ds, h1, h2, h3⟩ := h
 exact ⟨Ds, h1, h2, fun D hD => ⟨(h3 D hD).1, (h3 D hD).2.1, hk.same D _ (h3 D hD).2.2 rfl⟩⟩
theorem DSx.ext {hi lo : Nat} {ds : List Deferred} {w w' : World} (h : DSx hi lo ds w) (hk : Ext w w') : DSx hi lo ds w' := h.keeps hk.keeps
theorem DSx.setCell {hi lo : Nat} {ds : List Deferred} {w : World} (h : DSx hi lo ds w) (p : Addr) (v : Value) : DSx hi lo ds (w.setCell p v) := h.keeps (KeepsOthers.setCell w p v)
theorem DSx.more {hi hi' lo : Nat} {ds : List Deferred} {w : World} (h : DSx hi lo ds w) (hh : hi <= hi') : DSx hi' lo ds w := by
 obtain ⟨Ds, h1, h2, h3⟩ := h
 exact ⟨Ds, h1, h2, fun D hD => ⟨(h3 D hD).1, by have := (h3 D hD).2.1; omega, (h3 D hD).2.2⟩⟩
theorem DSx.top {hi lo : Nat} {ds : List Deferred} {w : World} (h : DSx hi lo ds w) : DSx w.heap.size lo ds w := by
 obtain ⟨Ds, h1, h2, h3⟩ := h
 exact ⟨Ds, h1, h2, fun D hD => ⟨(h3 D hD).1, (Array.getElem?_eq_some_iff.1 (h3 D hD).2.2).1, (h3 D hD).2.2⟩⟩
theorem DSx.cons {hi lo D : Nat} {ds : List Deferred} {w : World} (h : DSx hi lo ds w) (hD : hi <= D) (hlo : lo <= D) (hk : w.heap[D]? = some (.deferred (some []))) : DSx w.heap.size lo (mkD D :: ds) w := by
 obtain ⟨Ds, h1, h2, h3⟩ := h
 refine ⟨D :: Ds, by rw [h1]; rfl, List.nodup_cons.2 ⟨fun hm => by have := (h3 D hm).2.1; omega, h2⟩, fun D' hD' => ?_⟩
 rcases List.mem_cons.1 hD' with rfl | hm
 ·exact ⟨hlo, (Array.getElem?_eq_some_iff.1 hk).1, hk⟩
 ·exact ⟨(h3 D' hm).1, (Array.getElem?_eq_some_iff.1 (h3 D' hm).2.2).1, (h3 D' hm).2.2⟩
theorem DSx.kept {hi lo : Nat} {ds : List Deferred} {w w' : World} (h : DSx hi lo ds w) {row : Option Nat} (hg : w.grownBy w' row) (hr : ∀ r, row = some r -> hi <= r) : DSx hi lo ds w' := by
 obtain ⟨Ds, h1, h2, h3⟩ := h
 refine ⟨Ds, h1, h2, fun D hD => ⟨(h3 D hD).1, (h3 D hD).2.1, ?_⟩⟩
 have h4 := (h3 D hD).2.2
 exact (hg.block D (Array.getElem?_eq_some_iff.1 h4).1 (fun e => by have := hr D e.symm; have := (h3 D hD).2.1; omega)).trans h4
theorem Owns.keptc {α : Type} {E : Elt α} {w w' : World} {base : Nat} {e : TypeId} {v : Value} {l : List α} (h : Owns E w base e v l) {row : Option Nat} (hg : w.grownBy w' row) (hr : ∀ r, row = some r -> ∃ o : Obj, w.heap[r]? = some o /\ o.isCells = false) : Owns E w' base e v l := by
 refine h.kept hg (fun g hv e' => ?_)
 obtain ⟨o, ho, hc⟩ := hr g e'.symm
 rcases h.2 with ⟨rfl, _⟩ | ⟨g', cap, cur, rfl, _, hh, _⟩
 ·cases hv
 ·injection hv with hv
  subst hv
  rw [hh] at ho
  injection ho with ho
  subst ho
  cases hc
theorem Blk.keptc {w w' : World} {g : Nat} {t : TypeId} {cs : Array Value} (h : Blk w g t cs) {row : Option Nat} (hg : w.grownBy w' row) (hr : ∀ r, row = some r -> ∃ o : Obj, w.heap[r]? = some o /\ o.isCells = false) : Blk w' g t cs :=
 h.kept hg (fun e' => by
  obtain ⟨o, ho, hc⟩ := hr g e'.symm
  have h2 : w.heap[g]? = some (.cells cs t (0, 0)) := h
  rw [h2] at ho; cases ho; cases hc)
theorem Ext.keptb {w0 w w' : World} (h : Ext w0 w) {row : Option Nat} (hg : w.grownBy w' row) (hr : ∀ r, row = some r -> w0.heap.size <= r) : Ext w0 w' :=
 Below.grown h hg h.size (fun k e => hr k e)
theorem leavesM_ds {F : Fence} {n : Nat} {P : Program} {fn : Func} {tmps : Array Value} {R : Ending -> World -> Prop} {lo : Nat} : ∀ (Ds : List Nat) (w : World), Ds.Nodup -> (∀ D ∈ Ds, lo <= D /\ w.heap[D]? = some (.deferred (some []))) ->
 (∀ w', (∀ I : World -> Prop, OwnFrom lo (fun (_ : Unit) W => I W) -> I w -> I w') -> LeavesIn F n P fn tmps R [] .returning w') -> LeavesInM F n P fn tmps R (Ds.map mkD) .returning w
 | [], w, _, _, h => h w (fun I _ hI => hI)
 | D :: Ds, w, hnd, hD, h => by
   have hnd2 := List.nodup_cons.1 hnd
   have hk := (hD D (by simp)).2
   refine ⟨by simp, .inl ⟨D, _, rfl, run_takeDeferred hk, ?_⟩⟩
   refine leavesM_ds Ds _ hnd2.2 (fun D' hm => ⟨(hD D' (by simp [hm])).1, ?_⟩) (fun w' hw' => h w' (fun I hI hi => hw' I hI (hI.putObj (s := ()) _ hi (hD D (by simp)).1 hk rfl)))
   rw [World.putObj_heap_other (fun e => hnd2.1 (by rw [<- e]; exact hm))]
   exact (hD D' (by simp [hm])).2
theorem DSx.leaves {F : Fence} {n : Nat} {P : Program} {fn : Func} {tmps : Array Value} {R : Ending -> World -> Prop} {hi lo : Nat} {ds : List Deferred} {w : World} (hd : DSx hi lo ds w)
 (h : ∀ w', (∀ I : World -> Prop, OwnFrom lo (fun (_ : Unit) W => I W) -> I w -> I w') -> LeavesIn F n P fn tmps R [] .returning w') : LeavesInM F n P fn tmps R ds .returning w := by
 obtain ⟨Ds, rfl, h2, h3⟩ := hd
 exact leavesM_ds Ds w h2 (fun D hD => ⟨(h3 D hD).1, (h3 D hD).2.2⟩) h
end
section
open Go.RowKit Go.Shelf
attribute [local go_sem] Oper.semAt_some
def epE (k n : Int) : Int := if k = 1 then (if n < 0 ∨ 16 <= n then 2 else 0) else if k = 2 then (if n < 0 ∨ 8 <= n then 2 else 0) else 8
set_option maxHeartbeats 2000000 in
theorem ep_any (k n : Int) (w : World) :
 Calls Tryz.prog 174 #[.agg #[.int .i64 k, .int .i64 n]] w fun e w' => e = .returned (.int .i64 (epE k n)) /\ Ext w w' := by
 obtain ⟨W, hW, hB, hk, hlt⟩ := box1 w #[.int .i64 k, .int .i64 n] 26
 have hc := hk.cell
 by_cases h1 : k = 1
 ·subst h1
  by_cases hn : n < 0
  ·have HV := Lib.hid (show epE 1 n = 2 by unfold epE; rw [if_pos rfl, if_pos (by omega)])
   go_enter Tryz.func174, Tryz.ntmps174
   go_wp2
   go_ret
   exact ⟨by rw [HV.out]; rfl, hB⟩
  ·by_cases hn2 : 16 <= n
   ·have HV := Lib.hid (show epE 1 n = 2 by unfold epE; rw [if_pos rfl, if_pos (by omega)])
    go_enter Tryz.func174, Tryz.ntmps174
    go_wp2
    go_ret
    exact ⟨by rw [HV.out]; rfl, hB⟩
   ·have HV := Lib.hid (show epE 1 n = 0 by unfold epE; rw [if_pos rfl, if_neg (by omega)])
    go_enter Tryz.func174, Tryz.ntmps174
    go_wp2
    go_ret
    exact ⟨by rw [HV.out]; rfl, hB⟩
 ·have b1 : (k == 1) = false := by rw [beq_eq_false_iff_ne]; exact h1
  by_cases h2 : k = 2
  ·subst h2
   by_cases hn : n < 0
   ·have HV := Lib.hid (show epE 2 n = 2 by unfold epE; rw [if_neg (by omega), if_pos rfl, if_pos (by omega)])
    go_enter Tryz.func174, Tryz.ntmps174
    go_wp2
    go_ret
    exact ⟨by rw [HV.out]; rfl, hB⟩
   ·by_cases hn2 : 8 <= n
    ·have HV := Lib.hid (show epE 2 n = 2 by unfold epE; rw [if_neg (by omega), if_pos rfl, if_pos (by omega)])
     go_enter Tryz.func174, Tryz.ntmps174
     go_wp2
     go_ret
     exact ⟨by rw [HV.out]; rfl, hB⟩
    ·have HV := Lib.hid (show epE 2 n = 0 by unfold epE; rw [if_neg (by omega), if_pos rfl, if_neg (by omega)])
     go_enter Tryz.func174, Tryz.ntmps174
     go_wp2
     go_ret
     exact ⟨by rw [HV.out]; rfl, hB⟩
  ·have b2 : (k == 2) = false := by rw [beq_eq_false_iff_ne]; exact h2
   have HV := Lib.hid (show epE k n = 8 by unfold epE; rw [if_neg h1, if_neg h2])
   go_enter Tryz.func174, Tryz.ntmps174
   go_wp2
   go_ret
   exact ⟨by rw [HV.out]; rfl, hB⟩
set_option maxHeartbeats 1000000 in
theorem buWithin_any (n lo hi : Int) (w : World) :
 Calls Tryz.prog 175 #[.int .i64 n, .int .i64 lo, .int .i64 hi] w fun e w' => e = .returned (.bool (decide (lo <= n /\ n <= hi))) /\ w = w' := by
 by_cases h1 : lo <= n
 ·by_cases h2 : n <= hi
  ·rw [decide_eq_true (show lo <= n /\ n <= hi from ⟨h1, h2⟩)]
   go_enter Tryz.func175, Tryz.ntmps175
   go_wp2
   go_ret
   exact ⟨rfl, rfl⟩
  ·rw [decide_eq_false (show ¬ (lo <= n /\ n <= hi) from fun h => h2 h.2)]
   go_enter Tryz.func175, Tryz.ntmps175
   go_wp2
   go_ret
   exact ⟨rfl, rfl⟩
 ·rw [decide_eq_false (show ¬ (lo <= n /\ n <= hi) from fun h => h1 h.1)]
  go_enter Tryz.func175, Tryz.ntmps175
  go_wp2
  go_ret
  exact ⟨rfl, rfl⟩
def idE (a b c d e : Int) : Int := if ¬ (0 <= a /\ a <= 15) ∨ ¬ (0 <= b /\ b <= 1099511627776) ∨ ¬ (0 <= c /\ c <= 1099511627776) then 2 else if d = 0 /\ e = 0 then 0 else if ¬ (1 <= e /\ e <= 4096) ∨ ¬ (0 <= d /\ d <= e - 1) then 2 else 0
end
section
open Go.RowKit Go.Shelf
attribute [local go_sem] Oper.semAt_some
def Bl.err (b : Bl) : Int := if b.kind < 1 ∨ 255 < b.kind then 8 else if b.flags < 0 ∨ 15 < b.flags then 2 else if 1024 < b.data.length then 4 else 0
set_option maxHeartbeats 4000000 in
theorem blChk_any (b : Bl) (w : World) :
 Calls Tryz.prog 131 #[.agg #[.int .i64 b.kind, .int .i64 b.flags, strV b.data]] w fun e w' => e = .returned (.int .i64 b.err) /\ Ext w w' := by
 obtain ⟨sv, hsv, hsz⟩ : ∃ sv : ByteArray, ⟨b.data.toArray⟩ = sv /\ sv.size = b.data.length := ⟨_, rfl, by show b.data.toArray.size = b.data.length; simp⟩
 unfold strV
 rw [hsv]
 clear hsv
 obtain ⟨W, hW, hB, hk, hlt⟩ := box1 w #[.int .i64 b.kind, .int .i64 b.flags, .string sv] 116
 have hc := hk.cell
 obtain ⟨v, hv⟩ : ∃ v, b.err = v := ⟨_, rfl⟩
 have HV := Lib.hid hv
 rw [hv]
 clear hv
 obtain ⟨kd, fl, dt⟩ := b
 dsimp only at *
 generalize hln : dt.length = ln at *
 have HL := Lib.hid hln
 clear hln
 have hs0 : 0 <= (ln : Int) := by omega
 by_cases h1 : kd < 1
 ·have HX := Lib.hid (show v = 8 by rw [<- HV.out]; unfold Bl.err; dsimp only; rw [if_pos (by omega)])
  go_enter Tryz.func131, Tryz.ntmps131
  go_wp2
  go_ret
  exact ⟨by rw [HX.out]; rfl, hB⟩
 by_cases h2 : 255 < kd
 ·have HX := Lib.hid (show v = 8 by rw [<- HV.out]; unfold Bl.err; dsimp only; rw [if_pos (by omega)])
  go_enter Tryz.func131, Tryz.ntmps131
  go_wp2
  go_ret
  exact ⟨by rw [HX.out]; rfl, hB⟩
 by_cases h3 : fl < 0
 ·have HX := Lib.hid (show v = 2 by rw [<- HV.out]; unfold Bl.err; dsimp only; rw [if_neg (by omega), if_pos (by omega)])
  go_enter Tryz.func131, Tryz.ntmps131
  go_wp2
  go_ret
  exact ⟨by rw [HX.out]; rfl, hB⟩
 by_cases h4 : 15 < fl
 ·have HX := Lib.hid (show v = 2 by rw [<- HV.out]; unfold Bl.err; dsimp only; rw [if_neg (by omega), if_pos (by omega)])
  go_enter Tryz.func131, Tryz.ntmps131
  go_wp2
  go_ret
  exact ⟨by rw [HX.out]; rfl, hB⟩
 by_cases h5 : 1024 < ln
 ·have HX := Lib.hid (show v = 4 by rw [<- HV.out]; unfold Bl.err; dsimp only; rw [if_neg (by omega), if_neg (by omega), if_pos (by rw [HL.out]; exact h5)])
  go_enter Tryz.func131, Tryz.ntmps131
  go_wp2
  go_ret
  exact ⟨by rw [HX.out]; rfl, hB⟩
 have HX := Lib.hid (show v = 0 by rw [<- HV.out]; unfold Bl.err; dsimp only; rw [if_neg (by omega), if_neg (by omega), if_neg (by rw [HL.out]; exact h5)])
 go_enter Tryz.func131, Tryz.ntmps131
 go_wp2
 go_ret
 exact ⟨by rw [HX.out]; rfl, hB⟩
end
section
open Go.RowKit Go.Shelf
attribute [local go_sem] Oper.semAt_some
set_option maxHeartbeats 8000000 in
theorem chkId_any (a b c d t : Int) (w : World) :
 Calls Tryz.prog 173 #[.agg #[.int .i64 a, .int .i64 b, .int .i64 c, .int .i64 d, .int .i64 t]] w fun e w' => e = .returned (.int .i64 (idE a b c d t)) /\ Ext w w' := by
 obtain ⟨W, hW, hB, hk, hlt⟩ := box1 w #[.int .i64 a, .int .i64 b, .int .i64 c, .int .i64 d, .int .i64 t] 24
 have hc := hk.cell
 have f1 := fun w => buWithin_any a 0 15 w
 have f2 := fun w => buWithin_any b 0 1099511627776 w
 have f3 := fun w => buWithin_any c 0 1099511627776 w
 have f4 := fun w => buWithin_any t 1 4096 w
 have f5 := fun w => buWithin_any d 0 (t - 1) w
 obtain ⟨v, hv⟩ : ∃ v, idE a b c d t = v := ⟨_, rfl⟩
 have HV := Lib.hid hv
 rw [hv]
 clear hv
 by_cases x1 : 0 <= a /\ a <= 15
 case neg =>
  rw [decide_eq_false x1] at f1
  have HX := Lib.hid (show v = 2 by rw [<- HV.out]; unfold idE; rw [if_pos (by omega)])
  go_enter Tryz.func173, Tryz.ntmps173
  go_wp2_with fail
  refine (f1 _).mono ?_
  rintro e w1 ⟨rfl, rfl⟩
  go_wp2
  go_ret
  exact ⟨by rw [HX.out]; rfl, hB⟩
 rw [decide_eq_true x1] at f1
 by_cases x2 : 0 <= b /\ b <= 1099511627776
 case neg =>
  rw [decide_eq_false x2] at f2
  have HX := Lib.hid (show v = 2 by rw [<- HV.out]; unfold idE; rw [if_pos (by omega)])
  go_enter Tryz.func173, Tryz.ntmps173
  go_wp2_with fail
  refine (f1 _).mono ?_
  rintro e w1 ⟨rfl, rfl⟩
  go_wp2_with fail
  refine (f2 _).mono ?_
  rintro e w1 ⟨rfl, rfl⟩
  go_wp2
  go_ret
  exact ⟨by rw [HX.out]; rfl, hB⟩
 rw [decide_eq_true x2] at f2
 by_cases x3 : 0 <= c /\ c <= 1099511627776
 case neg =>
  rw [decide_eq_false x3] at f3
  have HX := Lib.hid (show v = 2 by rw [<- HV.out]; unfold idE; rw [if_pos (by omega)])
  go_enter Tryz.func173, Tryz.ntmps173
  go_wp2_with fail
  refine (f1 _).mono ?_
  rintro e w1 ⟨rfl, rfl⟩
  go_wp2_with fail
  refine (f2 _).mono ?_
  rintro e w1 ⟨rfl, rfl⟩
  go_wp2_with fail
  refine (f3 _).mono ?_
  rintro e w1 ⟨rfl, rfl⟩
  go_wp2
  go_ret
  exact ⟨by rw [HX.out]; rfl, hB⟩
 rw [decide_eq_true x3] at f3
 by_cases y1 : d = 0 /\ t = 0
 case pos =>
  obtain ⟨rfl, rfl⟩ := y1
  have HX := Lib.hid (show v = 0 by rw [<- HV.out]; unfold idE; rw [if_neg (by omega), if_pos ⟨rfl, rfl⟩])
  go_enter Tryz.func173, Tryz.ntmps173
  go_wp2_with fail
  refine (f1 _).mono ?_
  rintro e w1 ⟨rfl, rfl⟩
  go_wp2_with fail
  refine (f2 _).mono ?_
  rintro e w1 ⟨rfl, rfl⟩
  go_wp2_with fail
  refine (f3 _).mono ?_
  rintro e w1 ⟨rfl, rfl⟩
  go_wp2
  go_ret
  exact ⟨by rw [HX.out]; rfl, hB⟩
 have y2 : (d == 0) = false ∨ ((d == 0) = true /\ (t == 0) = false) := by
  simp only [beq_eq_false_iff_ne, beq_iff_eq, ne_eq]
  omega
 by_cases x4 : 1 <= t /\ t <= 4096
 case neg =>
  rw [decide_eq_false x4] at f4
  rcases y2 with y2 | ⟨y2, y3⟩
  ·have HX := Lib.hid (show v = 2 by rw [<- HV.out]; unfold idE; rw [if_neg (by omega), if_neg y1, if_pos (by omega)])
   go_enter Tryz.func173, Tryz.ntmps173
   go_wp2_with fail
   refine (f1 _).mono ?_
   rintro e w1 ⟨rfl, rfl⟩
   go_wp2_with fail
   refine (f2 _).mono ?_
   rintro e w1 ⟨rfl, rfl⟩
   go_wp2_with fail
   refine (f3 _).mono ?_
   rintro e w1 ⟨rfl, rfl⟩
   go_wp2_with fail
   refine (f4 _).mono ?_
   rintro e w1 ⟨rfl, rfl⟩
   go_wp2
   go_ret
   exact ⟨by rw [HX.out]; rfl, hB⟩
  ·have HX := Lib.hid (show v = 2 by rw [<- HV.out]; unfold idE; rw [if_neg (by omega), if_neg y1, if_pos (by omega)])
   go_enter Tryz.func173, Tryz.ntmps173
   go_wp2_with fail
   refine (f1 _).mono ?_
   rintro e w1 ⟨rfl, rfl⟩
   go_wp2_with fail
   refine (f2 _).mono ?_
   rintro e w1 ⟨rfl, rfl⟩
   go_wp2_with fail
   refine (f3 _).mono ?_
   rintro e w1 ⟨rfl, rfl⟩
   go_wp2_with fail
   refine (f4 _).mono ?_
   rintro e w1 ⟨rfl, rfl⟩
   go_wp2
   go_ret
   exact ⟨by rw [HX.out]; rfl, hB⟩
 rw [decide_eq_true x4] at f4
 by_cases x5 : 0 <= d /\ d <= t - 1
 case neg =>
  rw [decide_eq_false x5] at f5
  rcases y2 with y2 | ⟨y2, y3⟩
  ·have HX := Lib.hid (show v = 2 by rw [<- HV.out]; unfold idE; rw [if_neg (by omega), if_neg y1, if_pos (by omega)])
   go_enter Tryz.func173, Tryz.ntmps173
   go_wp2_with fail
   refine (f1 _).mono ?_
   rintro e w1 ⟨rfl, rfl⟩
   go_wp2_with fail
   refine (f2 _).mono ?_
   rintro e w1 ⟨rfl, rfl⟩
   go_wp2_with fail
   refine (f3 _).mono ?_
   rintro e w1 ⟨rfl, rfl⟩
   go_wp2_with fail
   refine (f4 _).mono ?_
   rintro e w1 ⟨rfl, rfl⟩
   go_wp2_with fail
   refine (f5 _).mono ?_
   rintro e w1 ⟨rfl, rfl⟩
   go_wp2
   go_ret
   exact ⟨by rw [HX.out]; rfl, hB⟩
  ·have HX := Lib.hid (show v = 2 by rw [<- HV.out]; unfold idE; rw [if_neg (by omega), if_neg y1, if_pos (by omega)])
   go_enter Tryz.func173, Tryz.ntmps173
   go_wp2_with fail
   refine (f1 _).mono ?_
   rintro e w1 ⟨rfl, rfl⟩
   go_wp2_with fail
   refine (f2 _).mono ?_
   rintro e w1 ⟨rfl, rfl⟩
   go_wp2_with fail
   refine (f3 _).mono ?_
   rintro e w1 ⟨rfl, rfl⟩
   go_wp2_with fail
   refine (f4 _).mono ?_
   rintro e w1 ⟨rfl, rfl⟩
   go_wp2_with fail
   refine (f5 _).mono ?_
   rintro e w1 ⟨rfl, rfl⟩
   go_wp2
   go_ret
   exact ⟨by rw [HX.out]; rfl, hB⟩
 rw [decide_eq_true x5] at f5
 rcases y2 with y2 | ⟨y2, y3⟩
 ·have HX := Lib.hid (show v = 0 by rw [<- HV.out]; unfold idE; rw [if_neg (by omega), if_neg y1, if_neg (by omega)])
  go_enter Tryz.func173, Tryz.ntmps173
  go_wp2_with fail
  refine (f1 _).mono ?_
  rintro e w1 ⟨rfl, rfl⟩
  go_wp2_with fail
  refine (f2 _).mono ?_
  rintro e w1 ⟨rfl, rfl⟩
  go_wp2_with fail
  refine (f3 _).mono ?_
  rintro e w1 ⟨rfl, rfl⟩
  go_wp2_with fail
  refine (f4 _).mono ?_
  rintro e w1 ⟨rfl, rfl⟩
  go_wp2_with fail
  refine (f5 _).mono ?_
  rintro e w1 ⟨rfl, rfl⟩
  go_wp2
  go_ret
  exact ⟨by rw [HX.out]; rfl, hB⟩
 ·have HX := Lib.hid (show v = 0 by rw [<- HV.out]; unfold idE; rw [if_neg (by omega), if_neg y1, if_neg (by omega)])
  go_enter Tryz.func173, Tryz.ntmps173
  go_wp2_with fail
  refine (f1 _).mono ?_
  rintro e w1 ⟨rfl, rfl⟩
  go_wp2_with fail
  refine (f2 _).mono ?_
  rintro e w1 ⟨rfl, rfl⟩
  go_wp2_with fail
  refine (f3 _).mono ?_
  rintro e w1 ⟨rfl, rfl⟩
  go_wp2_with fail
  refine (f4 _).mono ?_
  rintro e w1 ⟨rfl, rfl⟩
  go_wp2_with fail
  refine (f5 _).mono ?_
  rintro e w1 ⟨rfl, rfl⟩
  go_wp2
  go_ret
  exact ⟨by rw [HX.out]; rfl, hB⟩
end
section
open Go.RowKit Go.Shelf
attribute [local go_sem] Oper.semAt_some
def Bu.cells (b : Bu) (A : Option Addr) (c : Nat) : Array Value := #[.int .i64 b.src, .int .i64 b.cr, .int .i64 b.seq, .int .i64 b.off, .int .i64 b.tot, .int .i64 b.dk, .int .i64 b.dn, .int .i64 b.life, .int .i64 b.prio, .int .i64 b.flags, .slice A b.blocks.length c, strV b.pay]
def payE (off tot : Int) (n : Nat) : Int := if 4096 < n then 4 else if 0 < tot /\ ¬ (1 <= (n : Int) /\ (n : Int) <= tot - off) then 10 else 0
set_option maxHeartbeats 8000000 in
theorem chkPay_any (b : Bu) (A : Option Addr) (cap : Nat) (w : World) (h0 : 0 <= b.off /\ b.off <= 4096) (h1 : 0 <= b.tot /\ b.tot <= 4096) :
 Calls Tryz.prog 178 #[.agg (b.cells A cap)] w fun e w' => e = .returned (.int .i64 (payE b.off b.tot b.pay.length)) /\ Ext w w' := by
 obtain ⟨src, cr, seq, off, tot, dk, dn, life, prio, flags, bl, pay⟩ := b
 unfold Bu.cells strV
 dsimp only at *
 obtain ⟨sv, hsv, hsz⟩ : ∃ sv : ByteArray, ⟨pay.toArray⟩ = sv /\ sv.size = pay.length := ⟨_, rfl, by show pay.toArray.size = pay.length; simp⟩
 rw [hsv]
 clear hsv
 generalize pay.length = n at *
 obtain ⟨W, hW, hB, hk, hlt⟩ := box1 w #[.int .i64 src, .int .i64 cr, .int .i64 seq, .int .i64 off, .int .i64 tot, .int .i64 dk, .int .i64 dn, .int .i64 life, .int .i64 prio, .int .i64 flags, .slice A bl.length cap, .string sv] 29
 have hc := hk.cell
 have f1 := fun w => buWithin_any n 1 (tot - off) w
 obtain ⟨v, hv⟩ : ∃ v, payE off tot n = v := ⟨_, rfl⟩
 have HV := Lib.hid hv
 rw [hv]
 clear hv
 by_cases x1 : 4096 < n
 case pos =>
  have HX := Lib.hid (show v = 4 by rw [<- HV.out]; unfold payE; rw [if_pos x1])
  go_enter Tryz.func178, Tryz.ntmps178
  go_wp2
  go_ret
  exact ⟨by rw [HX.out]; rfl, hB⟩
 by_cases x2 : 0 < tot
 case neg =>
  have HX := Lib.hid (show v = 0 by rw [<- HV.out]; unfold payE; rw [if_neg x1, if_neg (fun h => x2 h.1)])
  go_enter Tryz.func178, Tryz.ntmps178
  go_wp2
  go_ret
  exact ⟨by rw [HX.out]; rfl, hB⟩
 by_cases x3 : 1 <= (n : Int) /\ (n : Int) <= tot - off
 case neg =>
  rw [decide_eq_false x3] at f1
  have HX := Lib.hid (show v = 10 by rw [<- HV.out]; unfold payE; rw [if_neg x1, if_pos ⟨x2, x3⟩])
  go_enter Tryz.func178, Tryz.ntmps178
  go_wp2_with fail
  refine (f1 _).mono ?_
  rintro e w1 ⟨rfl, rfl⟩
  go_wp2
  go_ret
  exact ⟨by rw [HX.out]; rfl, hB⟩
 rw [decide_eq_true x3] at f1
 have HX := Lib.hid (show v = 0 by rw [<- HV.out]; unfold payE; rw [if_neg x1, if_neg (fun h => h.2 x3)])
 go_enter Tryz.func178, Tryz.ntmps178
 go_wp2_with fail
 refine (f1 _).mono ?_
 rintro e w1 ⟨rfl, rfl⟩
 go_wp2
 go_ret
 exact ⟨by rw [HX.out]; rfl, hB⟩
end
end Go.Proofs.YtemkpimngbbpkaaGreat

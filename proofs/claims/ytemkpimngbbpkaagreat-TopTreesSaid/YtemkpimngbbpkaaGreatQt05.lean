/- slices.Reverse of a list of hops of the call's own. · Rows of bytes of the call's own, with or without the mark of a conversion. · Security: signatures, plain functions. · Layer 24 (journey): lists of numbers compared. · Update: what a node knows and what it is missing, plain. · Update: what slices.Compact leaves, step by step; plain. · Three nodes' play: what is known of whom, plain. · Lists of integers and of hops compared: the walks. -/
import Derived.Test.YtemkpimngbbpkaaGreatRows
import Derived.BigRegion
import Derived.Lib.FrozenHead
import Derived.Lib.ConvBytes
import Derived.Laws.BytesString
import Derived.Laws.StructEq
import Derived.LaidEql
import Derived.Test.YtemkpimngbbpkaaGreatQt01
namespace Go.Proofs.YtemkpimngbbpkaaGreat
set_option linter.unusedVariables false
set_option linter.unusedSimpArgs false
section
open Go.RowKit
end
section
open Go.RowKit Go.Lib
def byC (b : UInt8) : Value := .int .u8 (b.toNat : Int)
theorem eb_all (l : Bts) : EB.all l = l.map byC := by
 induction l with
 | nil => rfl
 | cons x l ih => simp only [Elt.all, List.flatMap_cons, List.map_cons] at ih ⊢; rw [ih]; rfl
theorem strCells_mk (l : Bts) : strCells ⟨l.toArray⟩ = l.map byC := by simp [strCells, byC]
theorem bsize_mk (l : Bts) : (⟨l.toArray⟩ : ByteArray).size = l.length := by simp [ByteArray.size]
def OwnsB (w : World) (base : Nat) (e : TypeId) (v : Value) (l : Bts) : Prop :=
 (v = .slice none 0 0 /\ l = []) ∨
 ∃ g cap cur fz, v = .slice (some ⟨g, 0, none⟩) l.length cap /\ base <= g /\ w.heap[g]? = some (.cells cur e fz) /\ (fz = (0, 0) ∨ fz = (cur.size, cur.size + 1)) /\ l.length <= cap /\ cap <= maxLen /\ cur.size = cap /\ cur.toList.take l.length = l.map byC
theorem OwnsB.of {w : World} {base : Nat} {e : TypeId} {v : Value} {l : Bts} (h : Owns EB w base e v l) : OwnsB w base e v l := by
 have h1 := h
 unfold Owns at h1
 rw [eb_all] at h1
 rcases h1.2 with ⟨rfl, h2⟩ | ⟨g, cap, cur, rfl, h2, h3, h4, h5, h6, h7⟩
 ·exact .inl ⟨rfl, List.eq_nil_of_length_eq_zero h2⟩
 ·have e1 : EB.size = 1 := rfl
  rw [e1, Nat.mul_one] at h6 h7
  exact .inr ⟨g, cap, cur, (0, 0), rfl, h2, h3, .inl rfl, h4, h5, h6, h7⟩
theorem OwnsB.ext {w w' : World} {base : Nat} {e : TypeId} {v : Value} {l : Bts} (h : OwnsB w base e v l) (hb : Ext w w') : OwnsB w' base e v l := by
 rcases h with h | ⟨g, cap, cur, fz, rfl, h2, h3, h4⟩
 ·exact .inl h
 ·exact .inr ⟨g, cap, cur, fz, rfl, h2, (hb.block g (Array.getElem?_eq_some_iff.1 h3).1).trans h3, h4⟩
theorem OwnsB.block {w : World} {base : Nat} {e : TypeId} {v : Value} {l : Bts} (h : OwnsB w base e v l) {g : Nat} (hg : v.ownBlock = some g) : base <= g /\ g < w.heap.size := by
 rcases h with ⟨rfl, _⟩ | ⟨g', cap, cur, fz, rfl, h2, h3, _⟩
 ·simp [Value.ownBlock] at hg
 ·simp [Value.ownBlock] at hg
  subst hg
  exact ⟨h2, (Array.getElem?_eq_some_iff.1 h3).1⟩
theorem OwnsB.form {w : World} {base : Nat} {e : TypeId} {v : Value} {l : Bts} (h : OwnsB w base e v l) : ∃ A c, v = .slice A l.length c /\ Rd EB w A l := by
 rcases h with ⟨rfl, rfl⟩ | ⟨g, cap, cur, fz, rfl, h2, h3, h4, h5, h6, h7, h8⟩
 ·exact ⟨none, 0, rfl, Rd.nil⟩
 ·refine ⟨_, _, rfl, ?_⟩
  unfold Rd
  rw [eb_all]
  refine ⟨by simp [EB], fun _ => ⟨_, rfl, (Array.getElem?_eq_some_iff.1 h3).1, fun j u hu => ?_⟩⟩
  rw [Addr.add_lit, Nat.zero_add, cell_of_row w g j cur e fz h3]
  rw [<- h8, List.getElem?_take] at hu
  split at hu
  ·simpa using hu
  ·cases hu
theorem run_storeCells_atB (P : Program) (g o : Nat) (t : TypeId) (fz : Nat × Nat) : ∀ (vs : List Value) (i : Nat) (cur : Array Value) (w : World), w.heap[g]? = some (.cells cur t fz) -> (fz = (0, 0) ∨ fz = (cur.size, cur.size + 1)) -> o + i + vs.length <= cur.size -> (∀ v ∈ vs, v.oneCell' = true) ->
 (storeCells ⟨g, o, none⟩ vs i).run P w = .ok () (w.setRow g (cur.toList.take (o + i) ++ vs ++ cur.toList.drop (o + i + vs.length)).toArray)
 | [], i, cur, w, hg, _, _, _ => by
   simp only [storeCells, List.append_nil, List.length_nil, Nat.add_zero, List.take_append_drop, Array.toArray_toList]
   rw [setRow_self w g cur t fz hg]
   rfl
 | v :: rest, i, cur, w, hg, hfz, hl, h1 => by
   have hi : o + i < cur.size := by simp at hl; omega
   have hadd : (⟨g, o, none⟩ : Addr).add i = ⟨g, o + i, none⟩ := by unfold Addr.add; split <;> simp_all
   have hcell : w.cell? ⟨g, o + i, none⟩ = some cur[o + i] := by simp [World.cell?, hg, hi]
   have hfro : w.frozen? ⟨g, o + i, none⟩ = false := by
    rcases hfz with rfl | rfl <;> simp [World.frozen?, hg] <;> omega
   have hst : (store ((⟨g, o, none⟩ : Addr).add i) v).run P w = .ok () (w.setRow g (cur.setIfInBounds (o + i) v)) := by
    rw [hadd, run_store P w _ v _ (h1 v (by simp)), hcell]
    simp [hfro, setCell_eq_setRow w g (o + i) cur t fz v hg]
   have ih := run_storeCells_atB P g o t fz rest (i + 1) (cur.setIfInBounds (o + i) v) (w.setRow g (cur.setIfInBounds (o + i) v)) (setRow_heap w g cur _ t _ hg) (by simpa using hfz) (by simp at hl ⊢; omega) (fun x hx => h1 x (by simp [hx]))
   simp only [storeCells, Sem.run_bind, hst, Result.andThen_ok, ih, setRow_setRow]
   congr 3
   have e := list_seg_step cur.toList (o + i) v rest (by simp at hl ⊢; omega)
   simpa [Array.toList_setIfInBounds, Nat.add_assoc] using e
section
variable {P : Program} (w : World)
theorem run_append_room_stringB (t u ty e : TypeId) (i : TypeInfo) (ht : P.underlying t = some (.slice e)) (hu : P.underlying u = some .string) (hi : P.info? e = some i) (hs1 : i.size = 1)
 (g sLen sCap : Nat) (cur : Array Value) (fz : Nat × Nat) (hg : w.heap[g]? = some (.cells cur e fz)) (hfz : fz = (0, 0) ∨ fz = (cur.size, cur.size + 1)) (s : ByteArray)
 (hroom : sLen + s.size <= sCap) (hfit : sLen + s.size <= cur.size) :
 (Builtin.append_ #[t, u] ty #[.slice (some ⟨g, 0, none⟩) sLen sCap, .string s]).run P w =
  .ok (.slice (some ⟨g, 0, none⟩) (sLen + s.size) sCap) (w.setRow g (cur.toList.take sLen ++ strCells s ++ cur.toList.drop (sLen + s.size)).toArray) := by
 have hf := run_firstCells_string (P := P) w 1 s
 have hst := run_storeCells_atB P g sLen e fz (strCells s) 0 cur w hg hfz (by simpa [strCells_length] using hfit) (strCells_oneCell s)
 simp only [Nat.add_zero, strCells_length] at hst
 simp [Builtin.append_, run_underlying ht, run_underlying hu, sizeOf, typeInfo, hi, hs1, Builtin.lenOf, hroom, hf, Addr.add_lit, hst]
theorem run_append_stringB (base : Nat) (t u ty e : TypeId) (i : TypeInfo) (ht : P.underlying t = some (.slice e)) (hu : P.underlying u = some .string) (hi : P.info? e = some i) (hz : i.zero = some (.int .u8 0))
 (hsize : i.size = 1) (hby : i.bytes = 1) (v : Value) (l : Bts) (hown : OwnsB w base e v l) (s : Bts)
 (hn : l.length + s.length <= 140737488355328) (hbase : base <= w.heap.size) :
 ∃ v' w', (Builtin.append_ #[t, u] ty #[v, strV s]).run P w = .ok v' w' /\ OwnsB w' base e v' (l ++ s) /\ w.grownBy w' v.ownBlock := by
 have h63 : l.length + s.length <= maxLen := by simp only [maxLen]; omega
 have hss : (⟨s.toArray⟩ : ByteArray).size = s.length := bsize_mk s
 have hsc := strCells_mk s
 unfold strV
 rcases hown with ⟨rfl, rfl⟩ | ⟨g, cap, cur, fz, rfl, hbg, hg, hfz, hnc, hcm, hcs, htake⟩
 ·obtain ⟨v', w', h1, h2, h3, h4⟩ := run_append_own_string (P := P) w base t u ty e i ht hu hi hz hsize hby (.slice none 0 0) 0 [] (World.ownsRow_nil w base e 1) ⟨s.toArray⟩ (by rw [hss]; simpa using h63) (by rw [hss]; simpa using hn) hbase
  refine ⟨v', w', h1, OwnsB.of ?_, h3⟩
  unfold Owns
  rw [eb_all, List.nil_append, <- hsc]
  rw [hss] at h2
  simpa [EB] using h2
 ·by_cases hroom : l.length + s.length <= cap
  ·have hr := run_append_room_stringB (P := P) w t u ty e i ht hu hi hsize g l.length cap cur fz hg hfz ⟨s.toArray⟩ (by rw [hss]; exact hroom) (by rw [hss]; omega)
   rw [hss, hsc] at hr
   have hlen : (List.take l.length cur.toList ++ List.map byC s ++ List.drop (l.length + s.length) cur.toList).length = cur.size := by
    simp only [List.length_append, List.length_take, List.length_drop, Array.length_toList, List.length_map]
    omega
   refine ⟨_, _, hr, .inr ⟨g, cap, _, fz, by rw [List.length_append], hbg, setRow_heap w g cur _ e _ hg, ?_, by rw [List.length_append]; exact hroom, hcm, by rw [List.size_toArray, hlen]; exact hcs, ?_⟩, ⟨rfl, rfl, rfl, by simp, fun k _ hk => setRow_other w g k _ (fun e => hk (by simp [Value.ownBlock, e]))⟩⟩
   ·rw [List.size_toArray, hlen]; exact hfz
   ·rw [htake, List.map_append]
    have : (List.map byC l ++ List.map byC s).length = (l ++ s).length := by simp
    rw [<- this]
    exact List.take_left
  ·have holds : ∀ j u, (l.map byC)[j]? = some u -> w.cell? ((⟨g, 0, none⟩ : Addr).add j) = some u := by
    intro j u hu
    rw [Addr.add_lit, Nat.zero_add, cell_of_row w g j cur e fz hg]
    rw [<- htake, List.getElem?_take] at hu
    split at hu
    ·simpa using hu
    ·cases hu
   have hr := run_append_grow_string (P := P) w t u ty e i (.int .u8 0) ht hu hi hz ⟨g, 0, none⟩ l.length cap (l.map byC) (by rw [hsize]; simp) holds ⟨s.toArray⟩ (by rw [hss]; omega) (by rw [hss]; simp only [maxLen] at h63; omega) (by rw [hby, hss]; exact growslice_fits (by omega) (by omega))
   have hge := grownCap_ge w (l.length + s.length) cap e
   have hcm2 : grownCap w (l.length + s.length) cap e <= maxLen := grownCap_le_maxLen w (l.length + s.length) cap e h63
   rw [hss, hsc] at hr
   refine ⟨_, _, hr, .inr ⟨w.heap.size, _, _, (0, 0), by rw [List.length_append], hbase, heap_alloc_new w.drew _, .inl rfl, by rw [List.length_append]; exact hge, hcm2, ?_, ?_⟩, ⟨rfl, rfl, rfl, by simp, fun k hk _ => heap_alloc_old w.drew _ hk⟩⟩
   ·have hz1 : (Value.int IntKind.u8 0).cells.size = 1 := rfl
    simp only [Array.size_append, List.size_toArray, size_zeroCells, hz1, List.length_map]
    omega
   ·simp only [Array.toList_append, List.append_assoc]
    rw [<- List.append_assoc, <- List.map_append]
    have : (List.map byC (l ++ s)).length = (l ++ s).length := by simp
    rw [<- this]
    exact List.take_left
end
theorem conv_bytes {P : Program} (w : World) (src dst e : TypeId) (s : Bts) {u : TypeDesc} (hs : P.underlying src = some u) (hd : P.underlying dst = some (.slice e)) (he : P.underlying e = some (.int .u8)) (hn : s.length <= 140737488355328) :
 ∃ cap w', (convert src dst (strV s)).run P w = .ok (.slice (some ⟨w.heap.size, 0, none⟩) s.length cap) w' /\ OwnsB w' w.heap.size e (.slice (some ⟨w.heap.size, 0, none⟩) s.length cap) s /\ Ext w w' /\ w'.heap.size = w.heap.size + 1 := by
 have h1 := Go.Lib.run_convert_string_bytes (P := P) w src dst e ⟨s.toArray⟩ hs hd he
 have hz : (⟨s.toArray⟩ : ByteArray).size = s.length := bsize_mk s
 rw [hz] at h1
 have h63 : s.length <= maxLen := by simp only [maxLen]; omega
 have hge := grownCap_ge w s.length 0 e
 have hcm := grownCap_le_maxLen w s.length 0 e h63
 refine ⟨_, _, h1, .inr ⟨w.heap.size, _, _, _, rfl, Nat.le_refl _, bytesWorld_at_new w e ⟨s.toArray⟩, .inr rfl, hge, hcm, ?_, ?_⟩, ⟨?_, ?_, ?_, ?_, fun k hk => bytesWorld_at_old w e _ k hk⟩, bytesWorld_size w e _⟩
 ·simp only [bytesCells, hz, Array.size_append, Array.size_map, Array.size_replicate, List.size_toArray]
  omega
 ·simp only [bytesCells, hz, Array.toList_append, Array.toList_map]
  have e2 : (List.map (fun b : UInt8 => Value.int .u8 (b.toNat : Int)) s) = List.map byC s := rfl
  rw [e2]
  have : (List.map byC s).length = s.length := by simp
  rw [<- this]
  exact List.take_left
 ·rfl
 ·rfl
 ·rfl
 ·rw [bytesWorld_size]; omega
theorem conv_str {P : Program} (w : World) (src dst e : TypeId) (A : Option Addr) (c : Nat) (l : Bts) (hs : P.underlying src = some (.slice e)) (he : P.underlying e = some (.int .u8)) (hd : P.underlying dst = some .string) (hR : Rd EB w A l) :
 (convert src dst (.slice A l.length c)).run P w = .ok (strV l) w := by
 by_cases h0 : l = []
 ·subst h0
  cases A with
  | none => rw [run_convert_bytes_string w src dst e none _ c hs he hd]; simp [Conv.bytesToString, strV]; rfl
  | some a => exact run_convert_bytes_back w src dst e a c [] hs he hd (fun j hj => by simp at hj)
 ·have hp : 0 < l.length := by cases l with
   | nil => exact absurd rfl h0
   | cons x l => simp
  obtain ⟨b, o, rfl, hb, hc⟩ := hR.at hp
  refine run_convert_bytes_back w src dst e _ c l hs he hd (fun j hj => ?_)
  obtain ⟨b', o', e1, _, hc'⟩ := hR.at hj
  injection e1 with e1
  injection e1 with e2 e3
  subst e2 e3
  have := hc' 0 _ rfl
  have e9 : EB.size = 1 := rfl
  rw [e9, Nat.mul_one, Nat.add_zero] at this
  rw [Addr.add_lit]
  exact this
end
section
open Go.RowKit
abbrev Sg := UInt8 × Bts
def sgAt (d : Bts) (i : Nat) : Sg := (d.getD (9 * i) 0, (d.drop (9 * i + 1)).take 8)
def sigs (d : Bts) : List Sg := (List.range (d.length / 9)).map (sgAt d)
def sflat (l : List Sg) : Bts := l.flatMap fun x => x.1 :: x.2
theorem sigs_len (d : Bts) : (sigs d).length = d.length / 9 := by simp [sigs]
theorem sgAt_len {d : Bts} {i : Nat} (h : i < d.length / 9) : (sgAt d i).2.length = 8 := by
 unfold sgAt
 simp only [List.length_take, List.length_drop]
 omega
theorem sigs_8 {d : Bts} : ∀ x ∈ sigs d, x.2.length = 8 := by
 intro x hx
 simp only [sigs, List.mem_map, List.mem_range] at hx
 obtain ⟨i, hi, rfl⟩ := hx
 exact sgAt_len hi
theorem sflat_len {l : List Sg} (h : ∀ x ∈ l, x.2.length = 8) : (sflat l).length = 9 * l.length := by
 induction l with
 | nil => rfl
 | cons x l ih =>
   have h1 := h x (by simp)
   have h2 := ih (fun y hy => h y (by simp [hy]))
   simp only [sflat, List.flatMap_cons, List.length_append, List.length_cons] at h2 ⊢
   omega
theorem sgAt_flat0 (x : Sg) (r : Bts) (h : x.2.length = 8) : sgAt (x.1 :: x.2 ++ r) 0 = x := by
 obtain ⟨a, t⟩ := x
 unfold sgAt
 simp only [Nat.mul_zero, Nat.zero_add, List.cons_append, List.getD_cons_zero, List.drop_succ_cons, List.drop_zero]
 rw [show (8 : Nat) = t.length from h.symm, List.take_left]
theorem sgAt_flatS (x : Sg) (r : Bts) (h : x.2.length = 8) (i : Nat) : sgAt (x.1 :: x.2 ++ r) (i + 1) = sgAt r i := by
 obtain ⟨a, t⟩ := x
 have h' : t.length = 8 := h
 unfold sgAt
 have e1 : 9 * (i + 1) = (9 * i) + (a :: t).length := by rw [List.length_cons, h']; omega
 rw [e1, show (9 * i) + (a :: t).length + 1 = (9 * i + 1) + (a :: t).length by omega]
 have e2 : ∀ k, List.drop (k + (a :: t).length) (a :: t ++ r) = List.drop k r := fun k => by
  rw [Nat.add_comm, List.drop_append, Nat.add_sub_cancel_left, List.drop_eq_nil_of_le (by omega), List.nil_append]
 refine Prod.ext ?_ ?_
 ·simp only [List.getD_eq_getElem?_getD]
  congr 1
  rw [List.getElem?_append_right (by omega), Nat.add_sub_cancel]
 ·show List.take 8 (List.drop _ _) = _
  rw [e2]
theorem sigs_flat {l : List Sg} (h : ∀ x ∈ l, x.2.length = 8) : sigs (sflat l) = l := by
 induction l with
 | nil => rfl
 | cons x l ih =>
   have h1 := h x (by simp)
   have h2 : ∀ y ∈ l, y.2.length = 8 := fun y hy => h y (by simp [hy])
   have ih := ih h2
   have hl := sflat_len h2
   have e : sflat (x :: l) = x.1 :: x.2 ++ sflat l := by simp [sflat]
   have hlen : (sflat (x :: l)).length / 9 = (sflat l).length / 9 + 1 := by
    rw [e, List.length_append, List.length_cons, h1]; omega
   unfold sigs at ih ⊢
   rw [hlen, List.range_succ_eq_map, List.map_cons, List.map_map, e, sgAt_flat0 x _ h1]
   congr 1
   refine Eq.trans ?_ ih
   refine List.map_congr_left (fun i _ => ?_)
   exact sgAt_flatS x _ h1 i
def okS : Int -> List Sg -> Bool
 | _, [] => true
 | last, x :: r => decide (last < (x.1.toNat : Int) /\ x.1.toNat < 16) && okS (x.1.toNat : Int) r
def damB (d : Bts) : Bool := !okS (-1) (sigs d) || decide (d.length = 0) || decide (d.length % 9 ≠ 0)
def findS (l : List Sg) (n : Nat) : Option Bts := (l.find? (fun x => x.1.toNat == n)).map (·.2)
def insS (m : Sg) : List Sg -> List Sg
 | [] => [m]
 | x :: r => if m.1.toNat < x.1.toNat then m :: x :: r else x :: insS m r
theorem insS_len (m : Sg) (l : List Sg) : (insS m l).length = l.length + 1 := by
 induction l with
 | nil => rfl
 | cons x r ih => unfold insS; split <;> simp [ih]
theorem insS_8 {m : Sg} {l : List Sg} (hm : m.2.length = 8) (h : ∀ x ∈ l, x.2.length = 8) : ∀ x ∈ insS m l, x.2.length = 8 := by
 induction l with
 | nil => intro x hx; simp [insS] at hx; subst hx; exact hm
 | cons y r ih =>
   intro x hx
   unfold insS at hx
   split at hx
   ·rcases List.mem_cons.1 hx with rfl | hx
    ·exact hm
    ·exact h x hx
   ·rcases List.mem_cons.1 hx with rfl | hx
    ·exact h _ (by simp)
    ·exact ih (fun z hz => h z (by simp [hz])) x hx
theorem insS_ok {m : Sg} (hm : m.1.toNat < 16) : ∀ {l : List Sg} {last : Int}, okS last l = true -> last < (m.1.toNat : Int) -> findS l m.1.toNat = none -> okS last (insS m l) = true
 | [], last, _, h1, _ => by simp [insS, okS, h1, hm]
 | x :: r, last, h, h1, h2 => by
   simp only [okS, Bool.and_eq_true, decide_eq_true_eq] at h
   unfold insS
   split
   ·rename_i h3
    simp only [okS, Bool.and_eq_true, decide_eq_true_eq]
    exact ⟨⟨h1, hm⟩, ⟨by omega, h.1.2⟩, h.2⟩
   ·rename_i h3
    have hne : ¬ x.1.toNat = m.1.toNat := by
     intro e
     simp [findS, e] at h2
    have h2' : findS r m.1.toNat = none := by
     unfold findS at h2 ⊢
     rw [List.find?_cons_of_neg (by simpa using hne)] at h2
     exact h2
    simp only [okS, Bool.and_eq_true, decide_eq_true_eq]
    exact ⟨h.1, insS_ok hm h.2 (by omega) h2'⟩
theorem insS_find {m : Sg} : ∀ {l : List Sg}, findS l m.1.toNat = none -> findS (insS m l) m.1.toNat = some m.2
 | [], _ => by simp [insS, findS]
 | x :: r, h2 => by
   unfold insS
   split
   ·simp [findS]
   ·have hne : ¬ x.1.toNat = m.1.toNat := by
     intro e
     simp [findS, e] at h2
    have h2' : findS r m.1.toNat = none := by
     unfold findS at h2 ⊢
     rw [List.find?_cons_of_neg (by simpa using hne)] at h2
     exact h2
    unfold findS
    rw [List.find?_cons_of_neg (by simpa using hne)]
    exact insS_find h2'
def putS (m : Sg) (s : List Sg × Bool) (x : Sg) : List Sg × Bool := if !s.2 && decide (m.1.toNat < x.1.toNat) then (s.1 ++ [m, x], true) else (s.1 ++ [x], s.2)
def putR (m : Sg) (l : List Sg) : List Sg × Bool := l.foldl (putS m) ([], false)
theorem putR_snoc (m : Sg) (l : List Sg) (x : Sg) : putR m (l ++ [x]) = putS m (putR m l) x := by simp [putR]
theorem putF_true (m : Sg) : ∀ (l : List Sg) (o : List Sg), l.foldl (putS m) (o, true) = (o ++ l, true)
 | [], o => by simp
 | x :: r, o => by
   rw [List.foldl_cons, show putS m (o, true) x = (o ++ [x], true) from rfl, putF_true m r]
   simp
theorem putF_ins (m : Sg) : ∀ (l : List Sg) (o : List Sg), (let s := l.foldl (putS m) (o, false); if s.2 then s.1 else s.1 ++ [m]) = o ++ insS m l
 | [], o => by simp [insS]
 | x :: r, o => by
   rw [List.foldl_cons]
   by_cases h : m.1.toNat < x.1.toNat
   ·rw [show putS m (o, false) x = (o ++ [m, x], true) by simp [putS, h], putF_true]
    simp [insS, h]
   ·rw [show putS m (o, false) x = (o ++ [x], false) by simp [putS, h], putF_ins m r]
    simp [insS, h]
theorem putR_ins (m : Sg) (l : List Sg) : (if (putR m l).2 then (putR m l).1 else (putR m l).1 ++ [m]) = insS m l := by
 have h := putF_ins m l []
 rw [List.nil_append] at h
 exact h
end
section
open Go.RowKit
end
section
open Go.RowKit
end
section
open Go.RowKit
end
section
open Go.RowKit
section
variable {t : Nat} {L : Nat -> List Chg} {K : Nat -> Nat -> Nat}
end
end
section
open Go.RowKit
end
end Go.Proofs.YtemkpimngbbpkaaGreat

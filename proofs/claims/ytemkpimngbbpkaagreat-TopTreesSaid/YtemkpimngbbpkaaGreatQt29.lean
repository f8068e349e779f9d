/- Layer 28 (storage): holds as plain data; what a node stores, walked. · Layer 28 (storage): levels, most, Check; layer 29: CheckTables. -/
import Derived.Maps.OwnSet
import Derived.Maps.OwnOps
import Derived.Sort.OwnSortedInts
import Derived.Laws.EntriesVeiled
import Derived.Test.YtemkpimngbbpkaaGreatQt27
import Derived.Test.YtemkpimngbbpkaaGreatQt28
namespace Go.Proofs.YtemkpimngbbpkaaGreat
set_option linter.unusedVariables false
set_option linter.unusedSimpArgs false
section
open Go.RowKit Go.Shelf Go.Maps
attribute [local go_sem] Oper.semAt_some
structure Hd where
 nod : Int
 fr : Int
 til : Int
 siz : Int
 tic : Int
def Hd.cells (b : Hd) : List Value := [.int .i64 b.nod, .int .i64 b.fr, .int .i64 b.til, .int .i64 b.siz, .int .i64 b.tic]
def Hd.val (b : Hd) : Value := .agg #[.int .i64 b.nod, .int .i64 b.fr, .int .i64 b.til, .int .i64 b.siz, .int .i64 b.tic]
def EHd : Elt Hd := ⟨Hd.cells, 5, fun _ => rfl, by omega, fun x u hu => by simp [Hd.cells] at hu; rcases hu with h | h | h | h | h <;> subst h <;> rfl⟩
theorem Rd.hd {w : World} {A : Option Addr} {l : List Hd} (h : Rd EHd w A l) {k : Nat} (hk : k < l.length) : ∃ b o, A = some ⟨b, o, none⟩ /\ b < w.heap.size /\
 w.cell? ⟨b, o + k * 5, none⟩ = some (.int .i64 l[k].nod) /\ w.cell? ⟨b, o + k * 5 + 1, none⟩ = some (.int .i64 l[k].fr) /\ w.cell? ⟨b, o + k * 5 + 2, none⟩ = some (.int .i64 l[k].til) /\ w.cell? ⟨b, o + k * 5 + 3, none⟩ = some (.int .i64 l[k].siz) /\ w.cell? ⟨b, o + k * 5 + 4, none⟩ = some (.int .i64 l[k].tic) := by
 obtain ⟨b, o, rfl, hb, hc⟩ := h.at hk
 exact ⟨b, o, rfl, hb, hc 0 _ rfl, hc 1 _ rfl, hc 2 _ rfl, hc 3 _ rfl, hc 4 _ rfl⟩
def evH (n : Int) (h : Hd) : List (Int × Int) := if h.nod = n then [(h.fr, h.siz), (h.til, -h.siz)] else []
def evs (l : List Hd) (n : Int) : List (Int × Int) := l.flatMap (evH n)
theorem evs_snoc {l : List Hd} {n : Int} {j : Nat} (h : j < l.length) : evs (l.take (j + 1)) n = evs (l.take j) n ++ evH n l[j] := by
 unfold evs
 rw [List.take_succ_eq_append_getElem h, List.flatMap_append]
 simp
theorem evs_len (l : List Hd) (n : Int) : (evs l n).length <= 2 * l.length := by
 induction l with
 | nil => simp [evs]
 | cons x l ih =>
   unfold evs at ih ⊢
   rw [List.flatMap_cons, List.length_append, List.length_cons]
   have : (evH n x).length <= 2 := by unfold evH; split <;> simp
   omega
def tms (E : List (Int × Int)) : List Int := E.foldl (fun ts e => if e.1 ∈ ts then ts else ts ++ [e.1]) []
theorem tms_snoc (E : List (Int × Int)) (t n : Int) : tms (E ++ [(t, n)]) = if t ∈ tms E then tms E else tms E ++ [t] := by
 unfold tms; rw [List.foldl_append]; rfl
theorem tms_len : ∀ (E : List (Int × Int)) (ts : List Int), (E.foldl (fun ts e => if e.1 ∈ ts then ts else ts ++ [e.1]) ts).length <= ts.length + E.length
 | [], _ => by simp
 | e :: E, ts => by
   rw [List.foldl_cons]
   have h := tms_len E (if e.1 ∈ ts then ts else ts ++ [e.1])
   rw [List.length_cons]
   split at h
   ·rename_i h1; rw [if_pos h1]; omega
   ·rename_i h1; rw [if_neg h1]; rw [List.length_append, List.length_singleton] at h; omega
theorem tms_le (E : List (Int × Int)) : (tms E).length <= E.length := by have := tms_len E []; simpa [tms] using this
theorem tms_mem {E : List (Int × Int)} : ∀ {ts : List Int} {x : Int}, x ∈ E.foldl (fun ts e => if e.1 ∈ ts then ts else ts ++ [e.1]) ts ↔ x ∈ ts ∨ ∃ e ∈ E, e.1 = x := by
 induction E with
 | nil => intro ts x; simp
 | cons e E ih =>
   intro ts x
   rw [List.foldl_cons, ih]
   simp only [List.mem_cons, exists_eq_or_imp]
   by_cases h1 : e.1 ∈ ts
   ·rw [if_pos h1]
    constructor
    ·intro h
     rcases h with h | h
     ·exact .inl h
     ·exact .inr (.inr h)
    ·intro h
     rcases h with h | h | h
     ·exact .inl h
     ·exact .inl (h ▸ h1)
     ·exact .inr h
   ·rw [if_neg h1, List.mem_append, List.mem_singleton]
    constructor
    ·intro h
     rcases h with (h | h) | h
     ·exact .inl h
     ·exact .inr (.inl h.symm)
     ·exact .inr (.inr h)
    ·intro h
     rcases h with h | h | h
     ·exact .inl (.inl h)
     ·exact .inl (.inr h.symm)
     ·exact .inr h
theorem mem_tms {E : List (Int × Int)} {x : Int} : x ∈ tms E ↔ ∃ e ∈ E, e.1 = x := by
 unfold tms; rw [tms_mem]; simp
def chg (E : List (Int × Int)) (t : Int) : Int := E.foldl (fun a e => if e.1 = t then a + e.2 else a) 0
theorem chg_snoc (E : List (Int × Int)) (t n x : Int) : chg (E ++ [(t, n)]) x = if t = x then chg E x + n else chg E x := by
 unfold chg; rw [List.foldl_append]; rfl
theorem chg_bd {E : List (Int × Int)} (t : Int) (h : ∀ e ∈ E, -65536 <= e.2 /\ e.2 <= 65536) : -65536 * (E.length : Int) <= chg E t /\ chg E t <= 65536 * (E.length : Int) := by
 have key : ∀ (E : List (Int × Int)) (a : Int), (∀ e ∈ E, -65536 <= e.2 /\ e.2 <= 65536) -> a - 65536 * (E.length : Int) <= E.foldl (fun a e => if e.1 = t then a + e.2 else a) a /\ E.foldl (fun a e => if e.1 = t then a + e.2 else a) a <= a + 65536 * (E.length : Int) := by
  intro E
  induction E with
  | nil => intro a _; simp
  | cons e E ih =>
    intro a h
    rw [List.foldl_cons, List.length_cons]
    have h1 := h e (List.mem_cons_self ..)
    have h2 := ih (if e.1 = t then a + e.2 else a) (fun x hx => h x (List.mem_cons_of_mem _ hx))
    split at h2
    ·rename_i h3; rw [if_pos h3]; omega
    ·rename_i h3; rw [if_neg h3]; omega
 have := key E 0 h
 unfold chg
 omega
def HdB (h : Hd) : Prop := 0 <= h.fr /\ h.fr <= 1099511627776 /\ 0 <= h.til /\ h.til <= 1099511627776 /\ 1 <= h.siz /\ h.siz <= 65536
theorem evs_bd {l : List Hd} {n : Int} (h : ∀ x ∈ l, HdB x) : ∀ e ∈ evs l n, (-65536 <= e.2 /\ e.2 <= 65536) /\ 0 <= e.1 /\ e.1 <= 1099511627776 := by
 intro e he
 unfold evs at he
 obtain ⟨x, hx, hxe⟩ := List.mem_flatMap.1 he
 have hb := h x hx
 unfold HdB at hb
 unfold evH at hxe
 split at hxe
 ·rcases List.mem_cons.1 hxe with rfl | hxe
  ·dsimp only; omega
  ·obtain rfl := List.mem_singleton.1 hxe
   dsimp only; omega
 ·cases hxe
def MD (E : List (Int × Int)) (D : DataW Unit) : Prop := Maps.IsMap D /\ ∀ t : Int, Maps.has D (.int .i64 t) = decide (t ∈ tms E) /\ D.atKey (.int .i64 t) (.lit (.int .i64 0)) = .lit (.int .i64 (chg E t))
theorem MD.nil : MD [] (.map []) := ⟨isMap_empty, fun t => ⟨rfl, rfl⟩⟩
theorem key_intH (k : Int) : WideAt.IsKeyLit (Lit.int .i64 k) := trivial
theorem lit_neH {j k : Int} (h : k ≠ j) : (Lit.int .i64 k) ≠ (Lit.int .i64 j) := fun e => h (by injection e)
theorem MD.put {E : List (Int × Int)} {D : DataW Unit} (h : MD E D) (t n : Int) : MD (E ++ [(t, n)]) (D.put (.int .i64 t) (.lit (.int .i64 (chg E t + n)))) := by
 refine ⟨h.1.put _ _, fun x => ?_⟩
 rw [chg_snoc]
 by_cases e : x = t
 ·subst e
  rw [has_put_same h.1 (key_intH _), atKey_put_same h.1 (key_intH _), if_pos rfl]
  refine ⟨(decide_eq_true ?_).symm, rfl⟩
  rw [tms_snoc]
  split
  ·assumption
  ·simp
 ·rw [has_put_other (lit_neH e), atKey_put_other (lit_neH e), if_neg (fun h => e h.symm)]
  refine ⟨?_, (h.2 x).2⟩
  rw [(h.2 x).1, tms_snoc]
  split
  ·rfl
  ·simp [e]
theorem law_intH : Keyed Tryz.prog 3 := int_keyed Tryz.underlying3
theorem zero_intH (w : World) : (zeroValue 3).run Tryz.prog w = .ok (.int .i64 0) w := by kernel_rfl
theorem wf64H {z : Int} (h : -9223372036854775808 <= z /\ z <= 9223372036854775807) : (Lit.int .i64 z).wf = true := by
 simp [Lit.wf, IntKind.min, IntKind.max, IntKind.bits, IntKind.signed]; omega
theorem lit_inj {a b : Int} (h : (DataW.lit (.int .i64 a) : DataW Unit) = .lit (.int .i64 b)) : b = a := by
 injection h with h; injection h with _ h; exact h.symm
abbrev OMap (w : World) (gm c : Nat) (D : DataW Unit) : Prop := w.ownsMap Tryz.prog 3 (plainElem Tryz.prog 3) gm c D
theorem KpY.grownA {n a b : Nat} {W W' : World} (hn : n <= W.heap.size) (h : W.grownBy W' (some a)) : KpY n a b W W' :=
 ⟨h.os, h.tape, h.output, h.size, fun k hk h1 _ => h.block k (by omega) (fun e => by injection e with e; exact h1 e)⟩
theorem KpY.grownB {n a b : Nat} {W W' : World} (hn : n <= W.heap.size) (h : W.grownBy W' (some b)) : KpY n a b W W' :=
 ⟨h.os, h.tape, h.output, h.size, fun k hk _ h2 => h.block k (by omega) (fun e => by injection e with e; exact h2 e)⟩
theorem KpY.grownU {n a b : Nat} {W W' : World} {row : Option Nat} (hn : n <= W.heap.size) (h : W.grownBy W' row) (hr : ∀ r, row = some r -> n <= r) : KpY n a b W W' :=
 ⟨h.os, h.tape, h.output, h.size, fun k hk _ _ => h.block k (by omega) (fun e => by have := hr k e.symm; omega)⟩
def NoteP (t n : Int) (gt gm c base : Nat) (u : Value) (E : List (Int × Int)) (w : World) (e : Ending) (w' : World) : Prop :=
 (∃ r, e = .returned r) /\ ∃ u' D', Owns EInt w' base 3 u' (tms (E ++ [(t, n)])) /\ Blk w' gt 30 #[u'] /\ OMap w' gm (c + 1) D' /\ MD (E ++ [(t, n)]) D' /\ KpY base gt gm w w' /\ ∀ k, k < w.heap.size -> k ≠ gt -> k ≠ gm -> u.ownBlock ≠ some k -> w'.heap[k]? = w.heap[k]?
set_option maxRecDepth 100000 in
set_option maxHeartbeats 4000000 in
theorem note_any (t n : Int) (gc gt gm c base : Nat) (u : Value) (E : List (Int × Int)) (D : DataW Unit) (w : World) (hb : base <= w.heap.size)
 (kc : Blk w gc 412 #[.map (some gm)]) (kt : Blk w gt 30 #[u]) (hm : OMap w gm c D) (hMD : MD E D) (hu : Owns EInt w base 3 u (tms E))
 (h1 : gc < base) (h2 : gt < base) (h3 : gm < base) (h4 : gt ≠ gm) (h5 : gt ≠ gc) (h6 : gc ≠ gm) (ht0 : 0 <= t) (ht1 : t <= 1099511627776) (hn0 : -65536 <= n) (hn1 : n <= 65536) (hE : E.length <= 100000) (hEb : ∀ e ∈ E, -65536 <= e.2 /\ e.2 <= 65536) (hc : c <= 100000) :
 Calls Tryz.prog 292 #[.int .i64 t, .int .i64 n, .pointer (some ⟨gc, 0, none⟩), .pointer (some ⟨gt, 0, none⟩)] w (NoteP t n gt gm c base u E w) := by
 obtain ⟨i0, hi0, hz0, hz1, hz2⟩ := info_parts info_int
 have hcb := chg_bd t hEb
 have hle := tms_le E
 have hkey := keyOf_int_mk (P := Tryz.prog) Tryz.underlying3 (wf64H (z := t) (by omega))
 have hput := Lib.hid (hMD.put t n)
 have htb := tms_snoc E t n
 have hh := (hMD.2 t).1
 have hat := (hMD.2 t).2
 generalize chg E t = cv at *
 generalize hTS : tms (E ++ [(t, n)]) = TS at *
 generalize tms E = ts at *
 have HTS := Lib.hid hTS
 clear hTS
 have c1 := kc.cell
 have c2 := kc.lt
 have c3 := kt.cell
 have c4 := kt.lt
 have c5 := kt.frozen
 have hw0 : IntKind.i64.wrap (cv + n) = cv + n := IntWalk.i64_in _ (by omega)
 by_cases hin : t ∈ ts
 ·rw [if_pos hin] at htb
  rw [decide_eq_true hin] at hh
  have Hh := Lib.hid hh
  clear hin hh
  go_enter Tryz.func292, Tryz.ntmps292
  go_wp2_with (first
   | (at_lookup; refine wpList_lookup_own_ok_int _ rfl _ _ 412 rfl 3 3 .i64 law_intH Tryz.underlying412 Tryz.underlying3 (zero_intH _) gm c D rfl hm _ _ rfl hkey ?_; intro c0 hc0 hwc; rw [Hh.out])
   | (at_lookup; refine wpList_lookup_own_int _ rfl _ _ 412 rfl 3 3 .i64 law_intH Tryz.underlying412 Tryz.underlying3 (zero_intH _) gm c D rfl hm _ _ rfl hkey ?_; intro c1 hc1 hwc1; obtain rfl := lit_inj (hat.symm.trans hc1))
   | (refine wpList_mapUpdate_own _ rfl _ _ _ 412 rfl 3 3 law_intH Tryz.underlying412 (plainElem Tryz.prog 3) gm c D rfl hm (by unfold maxLen; omega) _ _ _ rfl rfl hkey _ [] (plainElem_int Tryz.underlying3 (wf64H (by omega))) ?_; intro w6 hown6 hg6))
  go_end0
  refine ⟨⟨_, rfl⟩, u, _, ?_, kt.kept hg6 (fun e => by injection e with e; exact h4 e), hown6, hput.out, KpY.grownB hb hg6, fun k hk k1 k2 k3 => hg6.block k hk (fun e => by injection e with e; exact k2 e)⟩
  rw [HTS.out, htb]
  exact hu.kept hg6 (fun g hg e => by injection e with e; have := (hu.block hg).1; omega)
 ·rw [if_neg hin] at htb
  rw [decide_eq_false hin] at hh
  have Hh := Lib.hid hh
  clear hin hh
  obtain ⟨A, cap, rfl, hR⟩ := hu.form
  have hcap := hu.cap
  go_enter Tryz.func292, Tryz.ntmps292
  go_wp2_with (first
   | (at_lookup; refine wpList_lookup_own_ok_int _ rfl _ _ 412 rfl 3 3 .i64 law_intH Tryz.underlying412 Tryz.underlying3 (zero_intH _) gm c D rfl hm _ _ rfl hkey ?_; intro c0 hc0 hwc; rw [Hh.out])
   | (at_builtin; refine wpList_push rfl (.tmp 16) (.tmp 18) _ (by rfl) base 3 i0 _ 8 Tryz.underlying30 hi0 hz0 hz1 hz2 (by rfl) (.slice A ts.length cap) (by rfl) (hu.ext ((Ext.refl _).alloc _)) w.heap.size t (by rfl) (Blk.new w _ _) (by simp only [maxLen]; omega) (by omega) (by simp; omega) ?_; intro v6 w6 hv6 hg6 hat6; have hK6 : KpY base gt gm w w6 := (KpY.of_ext hb ((Ext.refl w).alloc _)).trans (KpY.grownU (by simp; omega) hg6 (fun r e => (hu.block e).1)); have hf6 : ∀ k, k < w.heap.size -> (Value.slice A ts.length cap).ownBlock ≠ some k -> w6.heap[k]? = w.heap[k]? := fun k hk hn => (hg6.block k (by simp; omega) (fun e => hn e.symm)).trans (Below.heap_alloc w _ k hk); have hne6 : ∀ k, k < base -> some k ≠ (Value.slice A ts.length cap).ownBlock := fun k hk e => by { have := (hu.block e.symm).1; omega }; have kt6 := Blk.kept (kt.ext ((Ext.refl _).alloc _)) hg6 (hne6 _ h2); have kc6 := Blk.kept (kc.ext ((Ext.refl _).alloc _)) hg6 (hne6 _ h1); have hm6 : OMap w6 gm c D := (hm.alloc _).kept hg6 (hne6 _ h3); have c36 := kt6.cell; have c46 := kt6.lt; have c56 := kt6.frozen; have c66 := kc6.cell; have c76 := kc6.lt; have hs6 := hg6.size; obtain ⟨A6, d6, rfl, hR6⟩ := hv6.form; simp only [List.length_append, List.length_cons, List.length_nil, Nat.zero_add] at hv6; have hgs := grown_setCell (World.grownBy.refl w6 (some gt)) 0 (.slice A6 (ts.length + 1) d6); have hm7 : OMap (w6.setCell ⟨gt, 0, none⟩ (.slice A6 (ts.length + 1) d6)) gm c D := hm6.kept hgs (fun e => by injection e with e; omega))
   | (at_lookup; refine wpList_lookup_own_int _ rfl _ _ 412 rfl 3 3 .i64 law_intH Tryz.underlying412 Tryz.underlying3 (zero_intH _) gm c D rfl hm7 _ _ rfl hkey ?_; intro c1 hc1 hwc1; obtain rfl := lit_inj (hat.symm.trans hc1))
   | (refine wpList_mapUpdate_own _ rfl _ _ _ 412 rfl 3 3 law_intH Tryz.underlying412 (plainElem Tryz.prog 3) gm c D rfl hm7 (by unfold maxLen; omega) _ _ _ rfl rfl hkey _ [] (plainElem_int Tryz.underlying3 (wf64H (by omega))) ?_; intro w8 hown8 hg8))
  go_end0
  have kt7 : Blk (w6.setCell ⟨gt, 0, none⟩ (.slice A6 (ts.length + 1) d6)) gt 30 #[.slice A6 (ts.length + 1) d6] := kt6.set0 _
  have hu7 : Owns EInt (w6.setCell ⟨gt, 0, none⟩ (.slice A6 (ts.length + 1) d6)) base 3 (.slice A6 (ts.length + 1) d6) (ts ++ [t]) := hv6.kept hgs (fun g hg e => by injection e with e; have := (hv6.block hg).1; omega)
  have hK7 : KpY base gt gm w (w6.setCell ⟨gt, 0, none⟩ (.slice A6 (ts.length + 1) d6)) := hK6.trans (KpY.grownA (by have := hg6.size; simp at this; omega) hgs)
  refine ⟨⟨_, rfl⟩, .slice A6 (ts.length + 1) d6, _, ?_, kt7.kept hg8 (fun e => by injection e with e; exact h4 e), hown8, hput.out, hK7.trans (KpY.grownB (by have := hK7.size; omega) hg8), fun k hk k1 k2 k3 => ?_⟩
  ·rw [HTS.out, htb]
   exact hu7.kept hg8 (fun g hg e => by injection e with e; have := (hu7.block hg).1; omega)
  ·have hs7 := hK7.size
   exact (hg8.block k (by omega) (fun e => by injection e with e; exact k2 e)).trans ((hgs.block k (by have := hg6.size; simp at this; omega) (fun e => by injection e with e; exact k1 e)).trans (hf6 k hk k3))
end
section
open Go.RowKit Go.Shelf Go.Maps
attribute [local go_sem] Oper.semAt_some
theorem ownm_ext {w w' : World} {gm c : Nat} {D : DataW Unit} (h : OMap w gm c D) (hb : Ext w w') : OMap w' gm c D := by
 obtain ⟨es, clock, h1, rest⟩ := h
 exact ⟨es, clock, (Below.block hb gm (Array.getElem?_eq_some_iff.1 h1).1).trans h1, rest⟩
def lvStep (E : List (Int × Int)) (s : Int × List Lev) (t : Int) : Int × List Lev := if chg E t = 0 then s else (s.1 + chg E t, s.2 ++ [⟨t, s.1 + chg E t⟩])
def srt (ts : List Int) : List Int := ts.mergeSort fun x y => decide (x <= y)
def levL (l : List Hd) (n : Int) : List Lev := ((srt (tms (evs l n))).foldl (lvStep (evs l n)) (0, [])).2
def mostL (f : List Lev) : Int := f.foldl (fun a x => max a x.val) 0
theorem srt_len (ts : List Int) : (srt ts).length = ts.length := List.length_mergeSort _
theorem lv_bd' {E : List (Int × Int)} (hE : ∀ e ∈ E, -65536 <= e.2 /\ e.2 <= 65536) (hl : E.length <= 1024) : ∀ (ts : List Int) (s : Int × List Lev), s.1 - 67108864 * (ts.length : Int) <= (ts.foldl (lvStep E) s).1 /\ (ts.foldl (lvStep E) s).1 <= s.1 + 67108864 * (ts.length : Int) /\ (ts.foldl (lvStep E) s).2.length <= s.2.length + ts.length
 | [], s => by simp
 | t :: ts, s => by
   have ih := lv_bd' hE hl ts (lvStep E s t)
   have hb := chg_bd t hE
   have h1 : s.1 - 67108864 <= (lvStep E s t).1 /\ (lvStep E s t).1 <= s.1 + 67108864 /\ (lvStep E s t).2.length <= s.2.length + 1 := by
    unfold lvStep
    split
    ·omega
    ·simp only [List.length_append, List.length_singleton]
     omega
   rw [List.foldl_cons, List.length_cons]
   omega
theorem lv_bd {E : List (Int × Int)} (hE : ∀ e ∈ E, -65536 <= e.2 /\ e.2 <= 65536) (hl : E.length <= 1024) (ts : List Int) : -67108864 * (ts.length : Int) <= (ts.foldl (lvStep E) (0, [])).1 /\ (ts.foldl (lvStep E) (0, [])).1 <= 67108864 * (ts.length : Int) /\ (ts.foldl (lvStep E) (0, [])).2.length <= ts.length := by
 have h := lv_bd' hE hl ts (0, [])
 simp only [List.length_nil] at h
 omega
theorem lv_snoc {E : List (Int × Int)} {S : List Int} {j : Nat} {t : Int} (h : j < S.length) (hx : S[j] = t) (s : Int × List Lev) : (S.take (j + 1)).foldl (lvStep E) s = lvStep E ((S.take j).foldl (lvStep E) s) t := by
 rw [List.take_succ_eq_append_getElem h, List.foldl_append, hx]; rfl
theorem info_lev : (Tryz.prog.info? 383).map (fun i => (i.zero, i.size, i.bytes)) = some (some (.agg #[.int .i64 0, .int .i64 0]), 2, 16) := by kernel_rfl
set_option maxRecDepth 100000 in
set_option maxHeartbeats 4000000 in
theorem most_any (A : Option Addr) (c : Nat) (f : List Lev) (w : World) (hf : Rd ELev w A f) (hm : f.length <= 1000000) :
 Calls Tryz.prog 241 #[.slice A f.length c] w fun e w' => e = .returned (.int .i64 (mostL f)) /\ Ext w w' := by
 go_enter Tryz.func241, Tryz.ntmps241
 go_wp2
 go_loopg [3, 8] f.length (fun q a k wr => ∃ j : Nat, j + q = f.length /\ k = .int .i64 j /\ a = .int .i64 ((f.take j).foldl (fun a x => max a x.val) 0) /\ Ext w wr)
 case atStart => exact ⟨0, by omega, rfl, rfl, Ext.refl _⟩
 case round =>
  obtain ⟨j, hjq, rfl, rfl, hx⟩ := hrel
  have Hjq := Lib.hid hjq
  have hjN : j <= f.length := by omega
  clear hjq
  by_cases hlt : j < f.length
  ·obtain ⟨b, o, rfl, hb, c0, c1⟩ := (hf.ext hx).lev hlt
   have hsn : (f.take (j + 1)).foldl (fun a x => max a x.val) 0 = max ((f.take j).foldl (fun a x => max a x.val) 0) f[j].val := by
    rw [List.take_succ_eq_append_getElem hlt, List.foldl_append]; rfl
   generalize f[j] = x at *
   obtain ⟨m, hmE⟩ : ∃ m, (f.take j).foldl (fun a x => max a x.val) 0 = m := ⟨_, rfl⟩
   rw [hmE] at hsn ⊢
   have Hsn := Lib.hid hsn
   obtain ⟨W3, hW3, hB3, hk3, hl3⟩ := box1 wr #[.int .i64 x.tm, .int .i64 x.val] 383
   have s0 := hk3.cell
   clear hsn hmE
   go_wp2_with fail
   go_roundg (gk - 1)
   case measure => have := Hjq.out; omega
   case rel => exact ⟨j + 1, by have := Hjq.out; omega, by go_num, by rw [Hsn.out], hx.trans hB3⟩
  ·obtain rfl : j = f.length := by omega
   rw [List.take_length]
   go_wp2
   go_ret
   exact ⟨rfl, hx⟩
end
end Go.Proofs.YtemkpimngbbpkaaGreat

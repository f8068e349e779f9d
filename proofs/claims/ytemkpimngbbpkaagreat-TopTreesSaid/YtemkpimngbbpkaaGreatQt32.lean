/- Layer 28 (storage): levels. -/
import Derived.Laws.EntriesVeiled
import Derived.Test.YtemkpimngbbpkaaGreatQt29
namespace Go.Proofs.YtemkpimngbbpkaaGreat
set_option linter.unusedVariables false
set_option linter.unusedSimpArgs false
open Go.RowKit Go.Shelf Go.Maps
attribute [local go_sem] Oper.semAt_some
set_option maxRecDepth 100000 in
set_option maxHeartbeats 8000000 in
theorem levels_any (Al : Option Addr) (cl : Nat) (l : List Hd) (n : Int) (w : World) (hl : Rd EHd w Al l) (hlm : l.length <= 512) (hb : ∀ x ∈ l, HdB x) :
 Calls Tryz.prog 242 #[.slice Al l.length cl, .int .i64 n] w fun e w' => ∃ u, e = .returned u /\ Owns ELev w' w.heap.size 383 u (levL l n) /\ Ext w w' := by
 have hmm := @run_makeMap Tryz.prog
 obtain ⟨i0, hi0, hz0, hz1, hz2⟩ := info_parts info_lev
 obtain ⟨W0, hW0, hB0⟩ : ∃ W0, w.alloc (.map #[] 0) = W0 /\ Ext w W0 := ⟨_, rfl, (Ext.refl _).alloc _⟩
 have hm0 : OMap W0 w.heap.size 0 (.map []) := by rw [<- hW0]; exact World.ownsMap_made (H := Unit) w Tryz.prog 3 (plainElem Tryz.prog 3)
 have hs0 : W0.heap.size = w.heap.size + 1 := by rw [<- hW0]; simp
 obtain ⟨W1, hW1, hB1, hk1, hl1⟩ := box1 W0 #[.map (some w.heap.size)] 412
 obtain ⟨W2, hW2, hB2, hk2, hl2⟩ := box1 W1 #[.slice none 0 0] 30
 have hE := (hB0.trans hB1).trans hB2
 have c2 := hk2.cell
 have hzz : W0.heap.size < W1.heap.size := hk1.lt
 rw [hs0] at hk1
 have hm2 := ownm_ext (ownm_ext hm0 hB1) hB2
 have kc2 := hk1.ext hB2
 have hl2' := hk1.lt
 have hl3' := hk2.lt
 have hzz2 : W1.heap.size < W2.heap.size := hk2.lt
 have hevb := evs_bd (n := n) hb
 have hevl := evs_len l n
 go_enter Tryz.func242, Tryz.ntmps242
 go_wp2_with fail
 clear hW0 hW1 hW2 c2
 go_loopg [18] l.length (fun q k wr => ∃ (j : Nat) (u : Value) (D : DataW Unit), j + q = l.length /\ k = .int .i64 j /\ Blk wr W1.heap.size 30 #[u] /\ Owns EInt wr W2.heap.size 3 u (tms (evs (l.take j) n)) /\ OMap wr w.heap.size (2 * j) D /\ MD (evs (l.take j) n) D /\ KpY W2.heap.size W1.heap.size w.heap.size W2 wr)
 case atStart => exact ⟨0, _, _, by omega, rfl, hk2, Owns.none_ _ _, hm2, MD.nil, KpY.refl _ _ _ _⟩
 case round =>
  obtain ⟨j, u, D, hjq, rfl, kt, hu, hm, hMD, hK⟩ := hrel
  have Hjq := Lib.hid hjq
  have hjN : j <= l.length := by omega
  clear hjq
  have hsz := hK.size
  have kc := hK.blk kc2 (by omega) (by omega) (by omega)
  have hxr : Ext w wr := hK.out hE (by omega) (by omega) (by omega)
  by_cases hlt : j < l.length
  ·obtain ⟨bl, ol, rfl, hbl, g0, g1, g2, g3, g4⟩ := (hl.ext hxr).hd hlt
   have hsn := evs_snoc (n := n) hlt
   have hxb := hb l[j] (List.getElem_mem hlt)
   have hEb : ∀ e ∈ evs (l.take j) n, -65536 <= e.2 /\ e.2 <= 65536 := fun e he => ((evs_bd (n := n) (fun x hx => hb x (List.mem_of_mem_take hx))) e he).1
   have hEl := evs_len (l.take j) n
   have htk : (l.take j).length <= j := List.length_take_le _ _
   generalize l[j] = x at *
   generalize evs (l.take j) n = E at *
   have Hsn := Lib.hid hsn
   clear hsn
   unfold HdB at hxb
   obtain ⟨x0, x1, x2, x3, x4, x5⟩ := hxb
   obtain ⟨W5, hW5, hB5, hk5, hl5⟩ := box1 wr #[.int .i64 x.nod, .int .i64 x.fr, .int .i64 x.til, .int .i64 x.siz, .int .i64 x.tic] 350
   have s0 := hk5.cell
   have hs5 := hB5.size
   by_cases hno : x.nod = n
   ·have hev : evH n x = [(x.fr, x.siz), (x.til, -x.siz)] := if_pos hno
    have Hev := Lib.hid hev
    have dno : (x.nod == n) = true := by simpa using hno
    clear hno hev
    have h1 := note_any x.fr x.siz (w.heap.size + 1) W1.heap.size w.heap.size (2 * j) W2.heap.size u E D W5 (by omega) (kc.ext hB5) (kt.ext hB5) (ownm_ext hm hB5) hMD (hu.ext hB5) (by omega) (by omega) (by omega) (by omega) (by omega) (by omega) x0 x1 (by omega) x5 (by omega) hEb (by omega)
    go_wp2_with fail
    clear hW5
    refine h1.mono ?_
    clear h1
    rintro e w6 ⟨⟨r, rfl⟩, u6, D6, hu6, kt6, hm6, hMD6, hK6, hf6⟩
    have hs6 := hK6.size
    have kc6 := hK6.blk (kc.ext hB5) (by omega) (by omega) (by omega)
    have hub : ∀ k, k < W2.heap.size ∨ wr.heap.size <= k -> u.ownBlock ≠ some k := fun k hk e => by have := hu.block e; omega
    have hk6 : Blk w6 wr.heap.size 350 #[.int .i64 x.nod, .int .i64 x.fr, .int .i64 x.til, .int .i64 x.siz, .int .i64 x.tic] := (hf6 _ hk5.lt (by omega) (by omega) (hub _ (.inr (Nat.le_refl _)))).trans hk5
    have hK56 : KpY W2.heap.size W1.heap.size w.heap.size W2 w6 := (hK.ext (by omega) hB5).trans hK6
    have hEb6 : ∀ e ∈ E ++ [(x.fr, x.siz)], -65536 <= e.2 /\ e.2 <= 65536 := fun e he => by
     rcases List.mem_append.1 he with h | h
     ·exact hEb e h
     ·obtain rfl := List.mem_singleton.1 h; dsimp only; omega
    have h2 := note_any x.til (-x.siz) (w.heap.size + 1) W1.heap.size w.heap.size (2 * j + 1) W2.heap.size u6 (E ++ [(x.fr, x.siz)]) D6 w6 (by omega) kc6 kt6 hm6 hMD6 hu6 (by omega) (by omega) (by omega) (by omega) (by omega) (by omega) x2 x3 (by omega) (by omega) (by rw [List.length_append, List.length_singleton]; omega) hEb6 (by omega)
    have t0 := hk6.cell
    have t1 := hk6.lt
    have hwn : IntKind.i64.wrap (-x.siz) = -x.siz := IntWalk.i64_in _ (by omega)
    clear s0
    go_wp2_with fail
    refine h2.mono ?_
    clear h2
    rintro e w7 ⟨⟨r, rfl⟩, u7, D7, hu7, kt7, hm7, hMD7, hK7, hf7⟩
    have e7 : E ++ [(x.fr, x.siz)] ++ [(x.til, -x.siz)] = E ++ evH n x := by rw [Hev.out, List.append_assoc]; rfl
    rw [e7] at hu7 hMD7
    go_wp2
    go_roundg (gk - 1)
    case measure => have := Hjq.out; omega
    case rel => exact ⟨j + 1, u7, D7, by have := Hjq.out; omega, by go_num, kt7, by rw [Hsn.out]; exact hu7, hm7.mono (by omega), by rw [Hsn.out]; exact hMD7, hK56.trans hK7⟩
   ·have hev : evH n x = [] := if_neg hno
    have Hev := Lib.hid hev
    have dno : (x.nod == n) = false := by simpa using hno
    clear hno hev
    go_wp2_with fail
    clear hW5
    go_roundg (gk - 1)
    case measure => have := Hjq.out; omega
    case rel => exact ⟨j + 1, u, D, by have := Hjq.out; omega, by go_num, kt.ext hB5, by rw [Hsn.out, Hev.out, List.append_nil]; exact hu.ext hB5, (ownm_ext hm hB5).mono (by omega), by rw [Hsn.out, Hev.out, List.append_nil]; exact hMD, hK.ext (by omega) hB5⟩
  ·obtain rfl : j = l.length := by omega
   rw [List.take_length] at hu hMD
   have htl := tms_le (evs l n)
   have hso := fun w' hu' => sort_own W2.heap.size u (tms (evs l n)) w' hu' (by omega)
   have HS := Lib.hid (show levL l n = ((srt (tms (evs l n))).foldl (lvStep (evs l n)) (0, [])).2 from rfl)
   have hbd := fun ts => lv_bd (fun e he => (hevb e he).1) (by omega) ts
   have hub := fun g hg => hu.block (g := g) hg
   have hsl := srt_len (tms (evs l n))
   obtain ⟨A, cap, rfl, hR⟩ := hu.form
   have c3 := kt.cell
   have c4 := kt.lt
   generalize hE9 : evs l n = E at *
   generalize hts : tms E = ts at *
   have Hts := Lib.hid hts
   clear hts hE9
   go_wp2_with fail
   refine (hso _ hu).mono ?_
   clear hso
   rintro e w6 ⟨rfl, hu6, hg6⟩
   change Owns EInt w6 W2.heap.size 3 (.slice A ts.length cap) (srt ts) at hu6
   have hne : ∀ k, k < W2.heap.size -> some k ≠ (Value.slice A ts.length cap).ownBlock := fun k hk e => by have := (hub _ e.symm).1; omega
   have kt6 := kt.kept hg6 (hne _ (by omega))
   have kc6 := kc.kept hg6 (hne _ (by omega))
   have hm6 : OMap w6 w.heap.size (2 * l.length) D := hm.kept hg6 (hne _ (by omega))
   have hK6 := hK.trans (KpY.grownU (a := W1.heap.size) (b := w.heap.size) (by omega) hg6 (fun r e => (hub r e).1))
   have hE6 : Ext w w6 := hK6.out hE (by omega) (by omega) (by omega)
   have hSb : ∀ t ∈ srt ts, 0 <= t /\ t <= 1099511627776 := fun t ht => by
    have ht2 : t ∈ ts := (List.mem_mergeSort).1 ht
    rw [<- Hts.out] at ht2
    obtain ⟨e, he, rfl⟩ := mem_tms.1 ht2
    exact (hevb e he).2
   generalize srt ts = S at *
   rw [<- hsl] at hu6 kt6 ⊢
   have c5 := kt6.cell
   have c6 := kt6.lt
   have hS1 : S.length <= 1024 := by omega
   have hEl : E.length <= 1024 := by omega
   clear hsl hR c3 c4 kt hu hub hne hm kc hK hg6 hevl htl
   go_wp2_with fail
   go_loopg [10, 11, 44] S.length (fun q a b k wr => ∃ (j : Nat), j + q = S.length /\ k = .int .i64 j /\ b = .int .i64 ((S.take j).foldl (lvStep E) (0, [])).1 /\ Owns ELev wr w6.heap.size 383 a ((S.take j).foldl (lvStep E) (0, [])).2 /\ Ext w6 wr)
   case atStart => exact ⟨0, by omega, rfl, rfl, Owns.none_ _ _, Ext.refl _⟩
   case round =>
    obtain ⟨j, hjq, rfl, rfl, ho, hx⟩ := hrel
    have Hiq := Lib.hid hjq
    have hjS : j <= S.length := by omega
    clear hjq
    have kc7 := kc6.ext hx
    have hm7 := ownm_ext hm6 hx
    have d0 := kc7.cell
    have d1 := kc7.lt
    by_cases hlt2 : j < S.length
    ·obtain ⟨bs, os, rfl, hbs, f0⟩ := (hu6.rd.ext hx).int hlt2
     have hsn := lv_snoc (E := E) hlt2 rfl (0, [])
     have hb2 := hbd (S.take j)
     have htb := hSb S[j] (List.getElem_mem hlt2)
     have htk2 : (S.take j).length <= j := List.length_take_le _ _
     generalize S[j] = t at *
     obtain ⟨s, hs⟩ : ∃ s, (S.take j).foldl (lvStep E) (0, []) = s := ⟨_, rfl⟩
     rw [hs] at hsn ho hb2 ⊢
     have Hsn := Lib.hid hsn
     have hcb := chg_bd t (fun e he => (hevb e he).1)
     have hat := (hMD.2 t).2
     have hkey := keyOf_int_mk (P := Tryz.prog) Tryz.underlying3 (wf64H (z := t) (by omega))
     clear hs hsn
     by_cases h0 : chg E t = 0
     ·have Hst := Lib.hid (show lvStep E s t = s from if_pos h0)
      rw [h0] at hat
      clear h0 hcb
      go_wp2_with (first
       | (at_lookup; refine wpList_lookup_own_int _ rfl _ _ 412 rfl 3 3 .i64 law_intH Tryz.underlying412 Tryz.underlying3 (zero_intH _) w.heap.size (2 * l.length) D rfl hm7 _ _ rfl hkey ?_; intro c1 hc1 hwc1; obtain rfl := lit_inj (hat.symm.trans hc1)))
      go_roundg (gk - 1)
      case measure => have := Hiq.out; omega
      case rel => exact ⟨j + 1, by have := Hiq.out; omega, by go_num, by rw [Hsn.out, Hst.out], by rw [Hsn.out, Hst.out]; exact ho, hx⟩
     ·have Hst := Lib.hid (show lvStep E s t = (s.1 + chg E t, s.2 ++ [⟨t, s.1 + chg E t⟩]) from if_neg h0)
      generalize chg E t = cv at *
      have dh : (cv == 0) = false := by simpa using h0
      clear h0
      obtain ⟨Ao, co, rfl, hRo⟩ := ho.form
      have hcapo := ho.cap
      have hxs := hx.size
      obtain ⟨s1, hs1⟩ : ∃ s1, s.1 = s1 := ⟨_, rfl⟩
      have Hs1 := Lib.hid hs1
      rw [hs1] at hb2 ⊢
      clear hs1
      have hw0 : IntKind.i64.wrap (s1 + cv) = s1 + cv := IntWalk.i64_in _ (by omega)
      go_wp2_with (first
       | (at_lookup; refine wpList_lookup_own_int _ rfl _ _ 412 rfl 3 3 .i64 law_intH Tryz.underlying412 Tryz.underlying3 (zero_intH _) w.heap.size (2 * l.length) D rfl hm7 _ _ rfl hkey ?_; intro c1 hc1 hwc1; obtain rfl := (lit_inj (hat.symm.trans hc1)).symm)
       | (at_builtin; refine wpList_push rfl (.tmp 57) (.tmp 61) _ (by rfl) w6.heap.size 383 i0 _ 16 Tryz.underlying354 hi0 hz0 hz1 hz2 (by rfl) (.slice Ao s.2.length co) (by rfl) (ho.ext ((Ext.refl _).alloc _)) wr.heap.size (⟨t, s1 + cv⟩ : Lev) (by rfl) (Blk.new wr _ _) (by simp only [maxLen]; omega) (by omega) (by simp; omega) ?_; intro v8 w8 hv8 hg8 hat8; have hx8 : Ext w6 w8 := ext_grown (hx.alloc _) (ho.ext ((Ext.refl _).alloc _)) (Nat.le_refl _) hg8))
      go_roundg (gk - 1)
      case measure => have := Hiq.out; omega
      case rel => exact ⟨j + 1, by have := Hiq.out; omega, by go_num, by rw [Hsn.out, Hst.out, <- Hs1.out], by rw [Hsn.out, Hst.out, Hs1.out]; exact hv8, hx8⟩
    ·obtain rfl : j = S.length := by omega
     rw [List.take_length] at ho
     go_wp2
     go_ret
     exact ⟨_, rfl, by rw [HS.out]; exact ho.mono hE6.size, hE6.trans hx⟩
end Go.Proofs.YtemkpimngbbpkaaGreat

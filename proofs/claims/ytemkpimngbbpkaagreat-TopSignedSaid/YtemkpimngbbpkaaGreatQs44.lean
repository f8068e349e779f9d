/- Decoding: bundle.Decode of what was encoded, and of what cannot be opened. -/
import Derived.Test.YtemkpimngbbpkaaGreatQs30
import Derived.Test.YtemkpimngbbpkaaGreatQs34
namespace Go.Proofs.YtemkpimngbbpkaaGreat
set_option linter.unusedVariables false
set_option linter.unusedSimpArgs false
open Go.RowKit Go.Shelf
attribute [local go_sem] Oper.semAt_some
theorem arrSets12d (u0 u1 u2 u3 u4 u5 u6 u7 u8 u9 u10 u11 v0 v1 v2 v3 v4 v5 v6 v7 v8 v9 v10 v11 : Value) : arrSets #[u0, u1, u2, u3, u4, u5, u6, u7, u8, u9, u10, u11] 0 [v0, v1, v2, v3, v4, v5, v6, v7, v8, v9, v10, v11] = #[v0, v1, v2, v3, v4, v5, v6, v7, v8, v9, v10, v11] := by
 simp [arrSets]
theorem owns_far {α : Type} {E : Elt α} {w : World} {base : Nat} {e : TypeId} {A : Option Addr} {n c : Nat} {l : List α} (h : Owns E w base e (.slice A n c) l) : ∀ ad, A = some ad -> base <= ad.block := by
 rintro ad rfl
 rcases h.2 with ⟨h1, _⟩ | ⟨g', cap, cur, h1, hg, _⟩
 ·cases h1
 ·injection h1 with h2 _ _
  injection h2 with h2
  subst h2
  exact hg
def partB (l : List Int) (k : Nat) : Array Value := ((l.take k ++ List.replicate (10 - k) 0).map (Value.int .i64) ++ [.slice none 0 0, .string ⟨#[]⟩]).toArray
theorem partB_get (a0 a1 a2 a3 a4 a5 a6 a7 a8 a9 : Int) {k : Nat} (hk : k < 10) : (partB [a0, a1, a2, a3, a4, a5, a6, a7, a8, a9] k)[k]? = some (.int .i64 0) := by
 have h : k = 0 ∨ k = 1 ∨ k = 2 ∨ k = 3 ∨ k = 4 ∨ k = 5 ∨ k = 6 ∨ k = 7 ∨ k = 8 ∨ k = 9 := by omega
 rcases h with rfl | rfl | rfl | rfl | rfl | rfl | rfl | rfl | rfl | rfl <;> rfl
theorem partB_set (a0 a1 a2 a3 a4 a5 a6 a7 a8 a9 : Int) {k : Nat} (hk : k < [a0, a1, a2, a3, a4, a5, a6, a7, a8, a9].length) : (partB [a0, a1, a2, a3, a4, a5, a6, a7, a8, a9] k).setIfInBounds k (.int .i64 ([a0, a1, a2, a3, a4, a5, a6, a7, a8, a9][k])) = partB [a0, a1, a2, a3, a4, a5, a6, a7, a8, a9] (k + 1) := by
 have h : k = 0 ∨ k = 1 ∨ k = 2 ∨ k = 3 ∨ k = 4 ∨ k = 5 ∨ k = 6 ∨ k = 7 ∨ k = 8 ∨ k = 9 := by simp only [List.length_cons, List.length_nil] at hk; omega
 rcases h with rfl | rfl | rfl | rfl | rfl | rfl | rfl | rfl | rfl | rfl <;> rfl
set_option maxRecDepth 100000 in
set_option maxHeartbeats 8000000 in
theorem buDec_bad (s : Bts) (w : World) (hs : s.length <= 1000000) (h : (opn s).1 ≠ 0) :
 Calls Tryz.prog 33 #[strV s] w fun e w' => (∃ u, u ≠ 0 /\ e = .returned (.tuple #[.agg zeroB, .int .i64 u])) /\ Ext w w' := by
 have f1 := fun w => Open_any s w hs
 obtain ⟨er, hv⟩ : ∃ er, (opn s).1 = er := ⟨_, rfl⟩
 obtain ⟨x, hx⟩ : ∃ x, strV (opn s).2.1 = x := ⟨_, rfl⟩
 generalize (opn s).2.2 = sz at *
 rw [hv, hx] at f1
 rw [hv] at h
 obtain ⟨sv, hsv⟩ : ∃ sv, strV s = sv := ⟨_, rfl⟩
 rw [hsv] at f1 ⊢
 have hb : (er != 0) = true := by rw [bne_iff_ne]; exact h
 unfold zeroB
 obtain ⟨W0, hW0, hB0, hk0, hl0⟩ := box1 w #[.int .i64 0, .int .i64 0, .int .i64 0, .int .i64 0, .int .i64 0, .int .i64 0, .int .i64 0, .int .i64 0, .int .i64 0, .int .i64 0, .slice none 0 0, .string ⟨#[]⟩] 29
 clear hv hx hsv
 go_enter Tryz.func33, Tryz.ntmps33
 go_wp2_with fail
 clear hW0
 refine (f1 _).mono ?_
 clear f1
 rintro e w1 ⟨rfl, hb1⟩
 have hk1 := hk0.ext hb1
 have z1 := hk1.cell
 have z2 := hk1.lt
 have z3 := hk1.frozen
 have hs9 := hk1.setCells_ [.int .i64 0, .int .i64 0, .int .i64 0, .int .i64 0, .int .i64 0, .int .i64 0, .int .i64 0, .int .i64 0, .int .i64 0, .int .i64 0, .slice none 0 0, .string ⟨#[]⟩] 0
 rw [arrSets12d] at hs9
 obtain ⟨WX, hWX, hkX, hBX⟩ : ∃ WX, w1.setCells w.heap.size 0 [.int .i64 0, .int .i64 0, .int .i64 0, .int .i64 0, .int .i64 0, .int .i64 0, .int .i64 0, .int .i64 0, .int .i64 0, .int .i64 0, .slice none 0 0, .string ⟨#[]⟩] = WX /\ Blk WX w.heap.size 29 #[.int .i64 0, .int .i64 0, .int .i64 0, .int .i64 0, .int .i64 0, .int .i64 0, .int .i64 0, .int .i64 0, .int .i64 0, .int .i64 0, .slice none 0 0, .string ⟨#[]⟩] /\ Ext w WX :=
  ⟨_, rfl, hs9, ext_setCells (hB0.trans hb1) (Nat.le_refl _) 0 _⟩
 simp only [World.setCells, Nat.zero_add, Nat.reduceAdd] at hWX
 clear hs9
 go_wp2
 (try rw [hWX])
 have hcX := hkX.cell
 refine bodyPost_ret (v := .tuple #[.agg #[.int .i64 0, .int .i64 0, .int .i64 0, .int .i64 0, .int .i64 0, .int .i64 0, .int .i64 0, .int .i64 0, .int .i64 0, .int .i64 0, .slice none 0 0, .string ⟨#[]⟩], .int .i64 er]) (by rw [results_cell_tmp rfl]; simp [asAddr, Result.andThen, hcX, go_sem]) rfl ?_
 exact ⟨⟨er, h, rfl⟩, hBX⟩
set_option maxRecDepth 100000 in
set_option maxHeartbeats 16000000 in
theorem buDec_ok (b : Bu) (w : World) (hv : buE b = 0) :
 Calls Tryz.prog 33 #[strV b.enc] w fun e w' => ∃ A c, e = .returned (.tuple #[.agg (b.cells A c), .int .i64 0]) /\ Rd EBl w' A b.blocks /\ (∀ ad, A = some ad -> w.heap.size <= ad.block) /\ Ext w w' := by
 have hbl := (buE_all hv).2.2.2.2.2.1
 have hpl := bu_pay hv
 have le := encAll_len hbl
 have lp := vtext_len b.pay
 have ln := bu_nums hv
 have l0 := vtext_len [77, 66, 49]
 have l1 := flatMap_len_le (l := b.nums) (f := vint) (m := 10) (fun x _ => vint_len x)
 have hnl : b.nums.length = 10 := rfl
 obtain ⟨T, hT⟩ : ∃ T, vtext [77, 66, 49] ++ b.nums.flatMap vint ++ encAll b.blocks ++ vtext b.pay = T := ⟨_, rfl⟩
 have hTl : T.length <= 65000 := by rw [<- hT]; simp only [List.length_append]; simp only [List.length_cons, List.length_nil] at l0; omega
 have hE : b.enc = sealB T := by rw [<- hT]; rfl
 have hsl := sealB_len T
 have f1 := fun w => Open_any b.enc w (by rw [hE]; omega)
 have e1 : opn b.enc = (0, T, b.enc.length) := by
  have := opn_seal (t := T) (by omega) []
  rw [List.append_nil] at this
  rw [hE, this]
 rw [e1] at f1
 dsimp only at f1
 obtain ⟨pos, hpos⟩ : ∃ pos : Nat -> Nat, ∀ k, pos k = (vtext [77, 66, 49]).length + ((b.nums.take k).flatMap vint).length := ⟨fun k => (vtext [77, 66, 49]).length + ((b.nums.take k).flatMap vint).length, fun _ => rfl⟩
 have d0 : T.drop 0 = vtext [77, 66, 49] ++ (b.nums.flatMap vint ++ encAll b.blocks ++ vtext b.pay) := by rw [<- hT, List.drop_zero]; simp only [List.append_assoc]
 have dk : ∀ k, T.drop (pos k) = (b.nums.drop k).flatMap vint ++ encAll b.blocks ++ vtext b.pay := fun k => by
  rw [hpos, <- List.drop_drop, <- hT, List.append_assoc, List.append_assoc, List.drop_left]
  have : b.nums.flatMap vint = (b.nums.take k).flatMap vint ++ (b.nums.drop k).flatMap vint := by rw [<- List.flatMap_append, List.take_append_drop]
  rw [this, List.append_assoc, List.drop_left, List.append_assoc]
 have dle : ∀ k, pos k <= T.length := fun k => by
  rw [hpos, <- hT]
  have : b.nums.flatMap vint = (b.nums.take k).flatMap vint ++ (b.nums.drop k).flatMap vint := by rw [<- List.flatMap_append, List.take_append_drop]
  rw [this]
  simp only [List.length_append]
  omega
 have dB : T.drop (pos 10) = encAll b.blocks ++ vtext b.pay := by rw [dk 10]; rfl
 have dP : T.drop (pos 10 + (encAll b.blocks).length) = vtext b.pay ++ [] := by rw [drop_app dB, List.append_nil]
 have lP : pos 10 + (encAll b.blocks).length + (vtext b.pay).length = T.length := by
  rw [hpos, <- hT, show b.nums.take 10 = b.nums from rfl]
  simp only [List.length_append]
 have f2 := fun g w hk => dtext_ok g T 0 [77, 66, 49] _ w hk (by omega) (by simp) d0 (by omega)
 have f3 : ∀ (k : Nat) (hk : k < b.nums.length) (g : Nat) (w : World), Blk w g 214 #[strV T, .int .i64 (pos k : Nat), .bool false] -> Calls Tryz.prog 111 #[.pointer (some ⟨g, 0, none⟩)] w (DecR g T (pos k) (vint b.nums[k]).length (.int .i64 b.nums[k]) w) := fun k hk g w hb => by
  have := dk k
  rw [List.drop_eq_getElem_cons hk, List.flatMap_cons, List.append_assoc, List.append_assoc] at this
  exact dint_ok g T (pos k) b.nums[k] _ w hb (by omega) (ln _ (List.getElem_mem hk)) this (dle k)
 have hps : ∀ (k : Nat) (hk : k < b.nums.length), pos (k + 1) = pos k + (vint b.nums[k]).length := fun k hk => by
  rw [hpos, hpos, <- List.take_append_getElem hk, List.flatMap_append]
  simp only [List.flatMap_cons, List.flatMap_nil, List.append_nil, List.length_append]
  omega
 have f4 := fun g w hk => dblocks_ok g T (pos 10) b.blocks (vtext b.pay) w hk (by omega) hbl dB (dle 10)
 have f5 := fun g w hk => dtext_ok g T (pos 10 + (encAll b.blocks).length) b.pay [] w hk (by omega) (by omega) dP (by omega)
 have f6 := fun g w hk => drest_ok g T T.length w hk (Nat.le_refl _)
 rw [List.drop_length, nil_str] at f6
 have f7 := fun A c w h => buChk_any b A c w h
 rw [hv] at f7
 have hp0 : pos 0 = (vtext [77, 66, 49]).length := by rw [hpos]; rfl
 unfold DecR at f2 f3 f4 f5
 rw [Nat.zero_add, <- hp0] at f2
 rw [lP] at f5
 have hmg : strV [77, 66, 49] = .string ⟨#[77, 66, 49]⟩ := rfl
 rw [hmg] at f2
 generalize (encAll b.blocks).length = k2 at *
 obtain ⟨sv, hsv, hss⟩ := strV_str b.enc
 obtain ⟨sz, hsz⟩ : ∃ sz, b.enc.length = sz := ⟨_, rfl⟩
 rw [hsv] at f1 ⊢
 rw [hsz] at f1 hss
 obtain ⟨tb, htb, htv, hts⟩ := str_name T
 rw [htv] at f1 f2 f3 f4 f5 f6
 obtain ⟨pb, hpb, hpv, -⟩ := str_name b.pay
 rw [hpv] at f5
 obtain ⟨src, cr, seq, off, tot, dk', dn, life, prio, fl, bl, pay⟩ := b
 have hgetB : ∀ k, k < 10 -> (partB [src, cr, seq, off, tot, dk', dn, life, prio, fl] k)[k]? = some (.int .i64 0) := fun k hk => partB_get _ _ _ _ _ _ _ _ _ _ hk
 have hsetB := fun (k : Nat) (hk : k < [src, cr, seq, off, tot, dk', dn, life, prio, fl].length) => partB_set _ _ _ _ _ _ _ _ _ _ hk
 unfold Bu.nums at f3 hps
 dsimp only at f3 hps f4 f5 hpv
 unfold Bu.cells at f7 ⊢
 dsimp only at f7 ⊢
 rw [hpv] at f7 ⊢
 obtain ⟨NL, hNL⟩ : ∃ NL, [src, cr, seq, off, tot, dk', dn, life, prio, fl] = NL := ⟨_, rfl⟩
 have hNl : NL.length = 10 := by rw [<- hNL]; rfl
 have hend : partB NL 10 = #[.int .i64 src, .int .i64 cr, .int .i64 seq, .int .i64 off, .int .i64 tot, .int .i64 dk', .int .i64 dn, .int .i64 life, .int .i64 prio, .int .i64 fl, .slice none 0 0, .string ⟨#[]⟩] := by rw [<- hNL]; rfl
 have hbeg : partB NL 0 = #[.int .i64 0, .int .i64 0, .int .i64 0, .int .i64 0, .int .i64 0, .int .i64 0, .int .i64 0, .int .i64 0, .int .i64 0, .int .i64 0, .slice none 0 0, .string ⟨#[]⟩] := by rw [<- hNL]; rfl
 rw [hNL] at hgetB hsetB f3 hps
 have F3 := Lib.hid f3
 have HPS := Lib.hid hps
 have HG := Lib.hid hgetB
 have HSB := Lib.hid hsetB
 have HNL := Lib.hid hNl
 have HEND := Lib.hid hend
 have F7 := Lib.hid f7
 have HPI := Lib.hid ptrs_index
 obtain ⟨tl, htl⟩ : ∃ tl, T.length = tl := ⟨_, rfl⟩
 rw [htl] at f5 f6
 clear f3 hps hgetB hsetB hNl hend f7 hNL hpos d0 dk dle dB dP lP hv hbl hpl le lp ln l0 l1 hnl hT hTl hE hsl e1 hp0 hmg hsv hsz htb htv hts hpb hpv htl
 obtain ⟨W0, hW0, hB0, hk0, hl0⟩ := box1 w #[.int .i64 0, .int .i64 0, .int .i64 0, .int .i64 0, .int .i64 0, .int .i64 0, .int .i64 0, .int .i64 0, .int .i64 0, .int .i64 0, .slice none 0 0, .string ⟨#[]⟩] 29
 go_enter Tryz.func33, Tryz.ntmps33
 go_wp2_with fail
 clear hW0
 refine (f1 _).mono ?_
 clear f1
 rintro e w1 ⟨rfl, hb1⟩
 obtain ⟨W2, hW2, hB2, hk2, hl2⟩ := box1 w1 #[.string tb, .int .i64 0, .bool false] 214
 obtain ⟨W3, hW3, hB3, hk3, hl3⟩ := box1 W2 #[.int .i64 0, .int .i64 0, .int .i64 0, .int .i64 0, .int .i64 0, .int .i64 0, .int .i64 0, .int .i64 0, .int .i64 0, .int .i64 0, .slice none 0 0, .string ⟨#[]⟩] 29
 go_upto_region 6 with fail
 clear hW2 hW3
 have g0 := hB0.size
 have g1 := hb1.size
 have g2 := hB2.size
 have g3 := hB3.size
 have hE3 := (hB0.trans hb1).trans (hB2.trans hB3)
 have kr3 := ((hk0.ext hb1).ext hB2).ext hB3
 have kd3 := hk2.ext hB3
 rw [<- hbeg] at hk3
 clear hbeg hk0 hk2
 obtain ⟨gr, hgr⟩ : ∃ gr, w.heap.size = gr := ⟨_, rfl⟩
 obtain ⟨gd, hgd⟩ : ∃ gd, w1.heap.size = gd := ⟨_, rfl⟩
 obtain ⟨gb, hgb⟩ : ∃ gb, W2.heap.size = gb := ⟨_, rfl⟩
 have hE0 : Ext w W3 := hE3
 rw [hgr] at kr3
 rw [hgd] at kd3
 rw [hgb] at hk3
 have ne1 : gr < gd := by omega
 have ne2 : gd < gb := by omega
 have hgw : w.heap.size <= gr := by omega
 rw [hgr, hgd, hgb]
 clear hB0 hb1 hB2 hB3 hl0 hl2 hl3 hE3 hgr hgd hgb g0 g1 g2 g3
 have c1 := kd3.lt
 go_wp2_with fail
 refine (f2 _ _ kd3).mono ?_
 clear f2
 rintro e w4 ⟨rfl, hu4, kd4⟩
 have kr4 := hu4.blk kr3 (by omega)
 have kb4 := hu4.blk hk3 (by omega)
 have hE4 := hu4.ext hE0 (by omega)
 have hnum := numbers_any gb w4 kb4.lt
 go_wp2_with fail
 refine hnum.mono ?_
 clear hnum
 rintro e w5 ⟨rfl, hb5⟩
 have kr5 := kr4.ext hb5
 have kb5 := kb4.ext hb5
 have kd5 := kd4.ext hb5
 have hE5 := hE4.trans hb5
 have hpi := HPI.out gb
 obtain ⟨PS, hPS⟩ : ∃ PS, ptrs gb = PS := ⟨_, rfl⟩
 rw [hPS] at hpi ⊢
 have HPI2 := Lib.hid hpi
 clear hPS hpi c1 kr3 kd3 hk3 hE0 hu4
 go_wp2_with fail
 go_loopg [36] 10 (fun m vi wr => ∃ k : Nat, k + m = 10 /\ vi = .int .i64 k /\ Blk wr gb 29 (partB NL k) /\ Blk wr gd 214 #[.string tb, .int .i64 (pos k : Nat), .bool false] /\ Blk wr gr 29 #[.int .i64 0, .int .i64 0, .int .i64 0, .int .i64 0, .int .i64 0, .int .i64 0, .int .i64 0, .int .i64 0, .int .i64 0, .int .i64 0, .slice none 0 0, .string ⟨#[]⟩] /\ Ext w wr)
 case atStart => exact ⟨0, rfl, by go_num, kb5, kd5, kr5, hE5⟩
 case round =>
  obtain ⟨k, hkn, rfl, kb, kd, kr, hE⟩ := hrel
  have Hkn := Lib.hid hkn
  have hk10 : k <= 10 := by omega
  clear hkn kb5 kd5 kr5 kb4 kd4 kr4
  by_cases hlt : k < 10
  ·have hkl : k < NL.length := by rw [HNL.out]; exact hlt
   have a1 := HG.out k hlt
   rw [<- kb.cell] at a1
   have hpk := HPI2.out k hlt
   have h3 := F3.out k hkl gd wr kd
   have hst := HSB.out k hkl
   have HP := Lib.hid (HPS.out k hkl)
   rw [<- HP.out] at h3
   obtain ⟨n, hn⟩ : ∃ n, NL[k] = n := ⟨_, rfl⟩
   rw [hn] at h3 hst
   have HST := Lib.hid hst
   have l1 := kd.lt
   have l2 := kb.lt
   clear hst hn a1
   go_wp2_with fail
   refine h3.mono ?_
   clear h3
   rintro e w6 ⟨rfl, hu6, kd6⟩
   have kr6 := hu6.blk kr (by omega)
   have kb6 := hu6.blk kb (by omega)
   have hE6 := hu6.ext hE (by omega)
   have b1 : w6.cell? ⟨gb, k, none⟩ = some (.int .i64 0) := (kb6.cell k).trans (HG.out k hlt)
   have b2 := kb6.lt
   have b3 := kb6.frozen k
   have kb7 := kb6.set_ k (.int .i64 n)
   rw [HST.out] at kb7
   have kd7 := kd6.far (p := ⟨gb, k, none⟩) (by show gd ≠ gb; omega) (.int .i64 n)
   have kr7 := kr6.far (p := ⟨gb, k, none⟩) (by show gr ≠ gb; omega) (.int .i64 n)
   have hE7 := hE6.setCell (p := ⟨gb, k, none⟩) (by show w.heap.size <= gb; omega) (.int .i64 n)
   clear l1 l2
   go_wp2_with fail
   go_roundg (gk - 1)
   case measure => have := Hkn.out; omega
   case rel => exact ⟨k + 1, by have := Hkn.out; omega, by go_num, kb7, kd7, kr7, hE7⟩
  ·obtain rfl : k = 10 := by omega
   rw [HEND.out] at kb
   have l1 := kd.lt
   have l2 := kb.lt
   go_wp2_with fail
   refine (f4 _ _ kd).mono ?_
   clear f4
   rintro e w6 ⟨A, c, ⟨rfl, hu6, kd6⟩, ho6⟩
   have kr6 := hu6.blk kr (by omega)
   have kb6 := hu6.blk kb (by omega)
   have hE6 := hu6.ext hE (by omega)
   have z1 := kb6.cell
   have z2 := kb6.lt
   have z3 := kb6.frozen
   have s6 := hu6.size
   obtain ⟨W7, hW7, kb7, kd7, kr7, ho7, hE7⟩ : ∃ W7, w6.setCell ⟨gb, 10, none⟩ (.slice A bl.length c) = W7 /\ Blk W7 gb 29 #[.int .i64 src, .int .i64 cr, .int .i64 seq, .int .i64 off, .int .i64 tot, .int .i64 dk', .int .i64 dn, .int .i64 life, .int .i64 prio, .int .i64 fl, .slice A bl.length c, .string ⟨#[]⟩] /\ Blk W7 gd 214 #[.string tb, .int .i64 ((pos 10 + k2 : Nat) : Int), .bool false] /\ Blk W7 gr 29 #[.int .i64 0, .int .i64 0, .int .i64 0, .int .i64 0, .int .i64 0, .int .i64 0, .int .i64 0, .int .i64 0, .int .i64 0, .int .i64 0, .slice none 0 0, .string ⟨#[]⟩] /\ Owns EBl W7 wr.heap.size 116 (.slice A bl.length c) bl /\ Ext w W7 :=
    ⟨_, rfl, kb6.set_ 10 _, kd6.far (by show gd ≠ gb; omega) _, kr6.far (by show gr ≠ gb; omega) _, ho6.setZ kb6 (by decide) 10 _, hE6.setCell (by show w.heap.size <= gb; omega) _⟩
   go_upto_region 14 with fail
   (try rw [hW7])
   clear hW7 z1 z2 z3 l1 l2
   have l1 := kd7.lt
   have l2 := kb7.lt
   go_wp2_with fail
   refine (f5 _ _ kd7).mono ?_
   clear f5
   rintro e w8 ⟨rfl, hu8, kd8⟩
   have kr8 := hu8.blk kr7 (by omega)
   have kb8 := hu8.blk kb7 (by omega)
   have hE8 := hu8.ext hE7 (by omega)
   have ho8 := hu8.owns ho7 (by have := kd.lt; omega)
   have z1 := kb8.cell
   have z2 := kb8.lt
   have z3 := kb8.frozen
   obtain ⟨W9, hW9, kb9, kd9, kr9, ho9, hE9⟩ : ∃ W9, w8.setCell ⟨gb, 11, none⟩ (.string pb) = W9 /\ Blk W9 gb 29 #[.int .i64 src, .int .i64 cr, .int .i64 seq, .int .i64 off, .int .i64 tot, .int .i64 dk', .int .i64 dn, .int .i64 life, .int .i64 prio, .int .i64 fl, .slice A bl.length c, .string pb] /\ Blk W9 gd 214 #[.string tb, .int .i64 (tl : Int), .bool false] /\ Blk W9 gr 29 #[.int .i64 0, .int .i64 0, .int .i64 0, .int .i64 0, .int .i64 0, .int .i64 0, .int .i64 0, .int .i64 0, .int .i64 0, .int .i64 0, .slice none 0 0, .string ⟨#[]⟩] /\ Owns EBl W9 wr.heap.size 116 (.slice A bl.length c) bl /\ Ext w W9 :=
    ⟨_, rfl, kb8.set_ 11 _, kd8.far (by show gd ≠ gb; omega) _, kr8.far (by show gr ≠ gb; omega) _, ho8.setZ kb8 (by decide) 11 _, hE8.setCell (by show w.heap.size <= gb; omega) _⟩
   go_upto_region 15 with fail
   (try rw [hW9])
   clear hW9 z1 z2 z3 l1 l2
   have d1 := kd9.cell
   have d2 := kd9.lt
   have l2 := kb9.lt
   go_wp2_with fail
   refine (f6 _ _ kd9).mono ?_
   clear f6
   rintro e wa ⟨rfl, hba⟩
   have kba := kb9.ext hba
   have z1 := kba.cell
   have z2 := kba.lt
   have hRa := ho9.rd.ext hba
   clear d1 d2 l2
   go_wp2_with fail
   refine (F7.out _ _ _ hRa).mono ?_
   rintro e wb ⟨rfl, hbb⟩
   have hx9 := hba.trans hbb
   have kbb := kb9.ext hx9
   have krb := kr9.ext hx9
   have hEb := hE9.trans hx9
   clear z1 z2
   have z1 := kbb.cell
   have z2 := kbb.lt
   have y1 := krb.cell
   have y2 := krb.lt
   have y3 := krb.frozen
   have hs9 := krb.setCells_ [.int .i64 src, .int .i64 cr, .int .i64 seq, .int .i64 off, .int .i64 tot, .int .i64 dk', .int .i64 dn, .int .i64 life, .int .i64 prio, .int .i64 fl, .slice A bl.length c, .string pb] 0
   rw [arrSets12d] at hs9
   have hob := ho9.ext hx9
   have hlr := kr.lt
   have hoX := hob.kept (grown_setCells [.int .i64 src, .int .i64 cr, .int .i64 seq, .int .i64 off, .int .i64 tot, .int .i64 dk', .int .i64 dn, .int .i64 life, .int .i64 prio, .int .i64 fl, .slice A bl.length c, .string pb] (World.grownBy.refl wb (some gr)) 0) (fun g' hgg e' => by injection e' with e'; have := (hob.block hgg).1; omega)
   obtain ⟨WX, hWX, hkX, hBX, hoX⟩ : ∃ WX, wb.setCells gr 0 [.int .i64 src, .int .i64 cr, .int .i64 seq, .int .i64 off, .int .i64 tot, .int .i64 dk', .int .i64 dn, .int .i64 life, .int .i64 prio, .int .i64 fl, .slice A bl.length c, .string pb] = WX /\ Blk WX gr 29 #[.int .i64 src, .int .i64 cr, .int .i64 seq, .int .i64 off, .int .i64 tot, .int .i64 dk', .int .i64 dn, .int .i64 life, .int .i64 prio, .int .i64 fl, .slice A bl.length c, .string pb] /\ Ext w WX /\ Owns EBl WX wr.heap.size 116 (.slice A bl.length c) bl :=
    ⟨_, rfl, hs9, ext_setCells hEb hgw 0 _, hoX⟩
   simp only [World.setCells, Nat.zero_add, Nat.reduceAdd] at hWX
   clear hs9
   go_wp2
   (try rw [hWX])
   have hcX := hkX.cell
   refine bodyPost_ret (v := .tuple #[.agg #[.int .i64 src, .int .i64 cr, .int .i64 seq, .int .i64 off, .int .i64 tot, .int .i64 dk', .int .i64 dn, .int .i64 life, .int .i64 prio, .int .i64 fl, .slice A bl.length c, .string pb], .int .i64 0]) (by rw [results_cell_tmp rfl]; simp [asAddr, Result.andThen, hcX, go_sem]) rfl ?_
   exact ⟨A, c, rfl, hoX.rd, fun ad h => Nat.le_trans hE.size (owns_far hoX ad h), hBX⟩
end Go.Proofs.YtemkpimngbbpkaaGreat

/- Forwarding: Forward of a valid bundle. -/
import Derived.Test.YtemkpimngbbpkaaGreatQs47
namespace Go.Proofs.YtemkpimngbbpkaaGreat
set_option linter.unusedVariables false
set_option linter.unusedSimpArgs false
open Go.RowKit Go.Shelf
attribute [local go_sem] Oper.semAt_some
theorem ups_rd2 {α : Type} {E : Elt α} {A : Option Addr} {l : List α} {g : Nat} {W W' : World} (h : Ups g W W') (hr : Rd E W A l) (hA : 0 < l.length -> ∀ ad, A = some ad -> ad.block ≠ g) : Rd E W' A l :=
 ⟨hr.1, fun hn => by
  obtain ⟨ad, e, hb, hc⟩ := hr.2 hn
  exact ⟨ad, e, Nat.lt_of_lt_of_le hb h.size, fun j u hu => h.cell (hc j u hu) (by rw [block_of_add]; exact hA hn ad e)⟩⟩
theorem zero_leaf {w W : World} {g : Nat} (z : Blk W g 29 #[.int .i64 0, .int .i64 0, .int .i64 0, .int .i64 0, .int .i64 0, .int .i64 0, .int .i64 0, .int .i64 0, .int .i64 0, .int .i64 0, .slice none 0 0, .string ⟨#[]⟩]) (hE : Ext w W) (hg : w.heap.size <= g) : ∃ WX, (((((((((((W.setCell ⟨g, 0, none⟩ (.int .i64 0)).setCell ⟨g, 1, none⟩ (.int .i64 0)).setCell ⟨g, 2, none⟩ (.int .i64 0)).setCell ⟨g, 3, none⟩ (.int .i64 0)).setCell ⟨g, 4, none⟩ (.int .i64 0)).setCell ⟨g, 5, none⟩ (.int .i64 0)).setCell ⟨g, 6, none⟩ (.int .i64 0)).setCell ⟨g, 7, none⟩ (.int .i64 0)).setCell ⟨g, 8, none⟩ (.int .i64 0)).setCell ⟨g, 9, none⟩ (.int .i64 0)).setCell ⟨g, 10, none⟩ (.slice none 0 0)).setCell ⟨g, 11, none⟩ (.string ⟨#[]⟩) = WX /\ Blk WX g 29 #[.int .i64 0, .int .i64 0, .int .i64 0, .int .i64 0, .int .i64 0, .int .i64 0, .int .i64 0, .int .i64 0, .int .i64 0, .int .i64 0, .slice none 0 0, .string ⟨#[]⟩] /\ Ext w WX := by
 have h := z.setCells_ [.int .i64 0, .int .i64 0, .int .i64 0, .int .i64 0, .int .i64 0, .int .i64 0, .int .i64 0, .int .i64 0, .int .i64 0, .int .i64 0, .slice none 0 0, .string ⟨#[]⟩] 0
 rw [arrSets12d] at h
 exact ⟨_, rfl, h, ext_setCells hE hg 0 [.int .i64 0, .int .i64 0, .int .i64 0, .int .i64 0, .int .i64 0, .int .i64 0, .int .i64 0, .int .i64 0, .int .i64 0, .int .i64 0, .slice none 0 0, .string ⟨#[]⟩]⟩
theorem store12 {W : World} {g : Nat} {t : TypeId} {u0 u1 u2 u3 u4 u5 u6 u7 u8 u9 u10 u11 : Value} (z : Blk W g t #[u0, u1, u2, u3, u4, u5, u6, u7, u8, u9, u10, u11]) (v0 v1 v2 v3 v4 v5 v6 v7 v8 v9 v10 v11 : Value) : ∃ WX, (((((((((((W.setCell ⟨g, 0, none⟩ v0).setCell ⟨g, 1, none⟩ v1).setCell ⟨g, 2, none⟩ v2).setCell ⟨g, 3, none⟩ v3).setCell ⟨g, 4, none⟩ v4).setCell ⟨g, 5, none⟩ v5).setCell ⟨g, 6, none⟩ v6).setCell ⟨g, 7, none⟩ v7).setCell ⟨g, 8, none⟩ v8).setCell ⟨g, 9, none⟩ v9).setCell ⟨g, 10, none⟩ v10).setCell ⟨g, 11, none⟩ v11 = WX /\ Blk WX g t #[v0, v1, v2, v3, v4, v5, v6, v7, v8, v9, v10, v11] /\ Ups g W WX := by
 have h := z.setCells_ [v0, v1, v2, v3, v4, v5, v6, v7, v8, v9, v10, v11] 0
 rw [arrSets12d] at h
 exact ⟨_, rfl, h, ups_setCells g W 0 [v0, v1, v2, v3, v4, v5, v6, v7, v8, v9, v10, v11]⟩
theorem getR_same {b c : Bu} {k : Int} (h : findK c.blocks k = findK b.blocks k) : getR c k = getR b k := by unfold getR; rw [h]
def FwR (b : Bu) (A : Option Addr) (n el : Int) (w : World) (e : Ending) (w' : World) : Prop :=
 (fwE b n el ≠ 0 /\ e = .returned (.tuple #[.agg zeroB, .int .i64 (fwE b n el)])) ∨ (fwE b n el = 0 /\ ∃ A' c', e = .returned (.tuple #[.agg ((fwB b n el).cells A' c'), .int .i64 0]) /\ Rd EBl w' A' (fwB b n el).blocks /\ (A' = A ∨ ∀ ad, A' = some ad -> w.heap.size <= ad.block))
def FwI (w : World) (A : Option Addr) (g h : Nat) (c : Bu) (W : World) : Prop := ∃ A' c', Blk W g 29 (c.cells A' c') /\ Blk W h 29 #[.int .i64 0, .int .i64 0, .int .i64 0, .int .i64 0, .int .i64 0, .int .i64 0, .int .i64 0, .int .i64 0, .int .i64 0, .int .i64 0, .slice none 0 0, .string ⟨#[]⟩] /\ Rd EBl W A' c.blocks /\ (0 < c.blocks.length -> ∀ ad, A' = some ad -> ad.block ≠ g /\ ad.block ≠ h) /\ Ext w W /\ (A' = A ∨ ∀ ad, A' = some ad -> w.heap.size <= ad.block)
set_option maxRecDepth 100000 in
set_option maxHeartbeats 32000000 in
theorem Forward_any (b : Bu) (A : Option Addr) (cap : Nat) (n el : Int) (w : World) (hR : Rd EBl w A b.blocks) (hv : buE b = 0) :
 Calls Tryz.prog 31 #[.agg (b.cells A cap), .int .i64 n, .int .i64 el] w fun e w' => FwR b A n el w e w' /\ Ext w w' := by
 have f1 := fun w h => buChk_any b A cap w h
 rw [hv] at f1
 have f2 := fun w => enode_any n w
 have fa := fun w h => Age_any b A cap w h hv
 have fh := fun w h => Hops_any b A cap w h hv
 have fv := fun w h => Visited_any b A cap w h hv
 have HFX := Lib.hid (show fwE b n el = if isNd n = false ∨ el < 0 ∨ 1099511627776 < el then 2
  else if (getR b 1).1 = 11 ∨ (getR b 2).1 = 11 ∨ (getR b 3).1 = 11 then 11
  else if (getR b 1).1 = 0 /\ b.life <= gi (getR b 1).2 0 + el then 17
  else if (getR b 2).1 = 0 /\ gi (getR b 2).2 0 < gi (getR b 2).2 1 + 1 then 4
  else if (getR b 3).1 = 0 /\ n ∈ (getR b 3).2 then 27 else 0 from rfl)
 have HE3 : ∀ k, (getR b k).1 = 0 ∨ (getR b k).1 = 7 ∨ (getR b k).1 = 11 := fun k => by
  rcases getR_cases b k with ⟨_, h⟩ | ⟨x, _, _, h⟩ | ⟨x, l, _, _, h⟩ <;> rw [h] <;> simp
 have r1 := HE3 1
 have r2 := HE3 2
 have r3 := HE3 3
 have R1 := Lib.hid (@getR_1 b)
 have R2 := Lib.hid (@getR_2 b)
 have R3 := Lib.hid (@getR_3 b)
 have R3e := Lib.hid (@getR_err b 3)
 have HV := Lib.hid hv
 have hlf : b.life <= 1099511627776 := by
  have h1 := (buE_all hv).2.2.1
  have h2 := bu_nums hv
  have h3 := (buE_all hv).1
  unfold idE at h3
  split at h3
  ·omega
  ·omega
 have hfx := Lib.hid (fun (l : List Int) (h : (getR b 3).2 = l) (hl : l.length <= 16) A c w hA => containsInt_any A c l n w hA (by omega))
 have F2 := Lib.hid (fun (h : (getR b 1).1 = 0) => show fw1 b el = setB b 1 (vint (gi (getR b 1).2 0 + el)) by unfold fw1; rw [if_pos h])
 have F2n := Lib.hid (fun (h : (getR b 1).1 ≠ 0) => show fw1 b el = b by unfold fw1; rw [if_neg h])
 have F3 := Lib.hid (fun (h : (getR b 2).1 = 0) c => show fw2 b c = setB c 2 (vint (gi (getR b 2).2 0) ++ vint (gi (getR b 2).2 1 + 1)) by unfold fw2; rw [if_pos h])
 have F3n := Lib.hid (fun (h : (getR b 2).1 ≠ 0) c => show fw2 b c = c by unfold fw2; rw [if_neg h])
 have F4 := Lib.hid (fun (h : (getR b 3).1 = 0) c => show fw3 b c n = setB c 3 (vlist ((getR b 3).2 ++ [n])) by unfold fw3; rw [if_pos h])
 have F4n := Lib.hid (fun (h : (getR b 3).1 ≠ 0) c => show fw3 b c n = c by unfold fw3; rw [if_neg h])
 have G1 := Lib.hid (fun (h : (getR b 1).1 = 0) => getR_ok h)
 have G2 := Lib.hid (fun (h : (getR b 2).1 = 0) => getR_ok h)
 have G3 := Lib.hid (fun (h : (getR b 3).1 = 0) => getR_ok h)
 have W1' := Lib.hid (fw_1 (b := b) el hv)
 have W2' := Lib.hid (fun h1 h2 => fw_2 (b := b) (c := fw1 b el) h1 h2)
 have S1 := Lib.hid (fun age x w hR hx ha => SetAge_ok b A cap age x w hR hv hx ha)
 have GS := Lib.hid (fun (c : Bu) h => getR_same (b := b) (c := c) (k := 3) h)
 obtain ⟨pa, hpa, -⟩ := strV_str b.pay
 have hcs : b.cells A cap = #[.int .i64 b.src, .int .i64 b.cr, .int .i64 b.seq, .int .i64 b.off, .int .i64 b.tot, .int .i64 b.dk, .int .i64 b.dn, .int .i64 b.life, .int .i64 b.prio, .int .i64 b.flags, .slice A b.blocks.length cap, .string pa] := by unfold Bu.cells; rw [hpa]
 have HCS := Lib.hid hcs
 rw [hcs] at f1 fa fh fv S1 ⊢
 unfold FwR
 have HFB := Lib.hid (show fwB b n el = fw3 b (fw2 b (fw1 b el)) n from rfl)
 unfold zeroB
 have hln : gi (getR b 1).2 0 <= 1099511627776 /\ 0 <= gi (getR b 1).2 0 := by
  rcases r1 with h | h | h
  ·obtain ⟨a, ha, h1, h2⟩ := R1.out h
   rw [ha]
   exact ⟨h2, h1⟩
  ·have := getR_err (b := b) (k := 1) (by omega)
   rw [this]
   exact ⟨by decide, by decide⟩
  ·have := getR_err (b := b) (k := 1) (by omega)
   rw [this]
   exact ⟨by decide, by decide⟩
 have hlc : gi (getR b 2).2 0 <= 255 /\ 0 <= gi (getR b 2).2 1 /\ gi (getR b 2).2 1 <= 255 := by
  rcases r2 with h | h | h
  ·obtain ⟨a, c, ha, h1, h2⟩ := R2.out h
   rw [ha]
   exact ⟨h1.2, h2.1, by show c <= 255; omega⟩
  ·have := getR_err (b := b) (k := 2) (by omega)
   rw [this]
   exact ⟨by decide, by decide, by decide⟩
  ·have := getR_err (b := b) (k := 2) (by omega)
   rw [this]
   exact ⟨by decide, by decide, by decide⟩
 obtain ⟨ag, hag⟩ : ∃ ag, gi (getR b 1).2 0 = ag := ⟨_, rfl⟩
 obtain ⟨lm, hlm⟩ : ∃ lm, gi (getR b 2).2 0 = lm := ⟨_, rfl⟩
 obtain ⟨ct, hct⟩ : ∃ ct, gi (getR b 2).2 1 = ct := ⟨_, rfl⟩
 obtain ⟨ea, hea⟩ : ∃ ea, (getR b 1).1 = ea := ⟨_, rfl⟩
 obtain ⟨eh, heh⟩ : ∃ eh, (getR b 2).1 = eh := ⟨_, rfl⟩
 obtain ⟨ev, hev⟩ : ∃ ev, (getR b 3).1 = ev := ⟨_, rfl⟩
 obtain ⟨lv, hlv⟩ : ∃ lv, (getR b 3).2 = lv := ⟨_, rfl⟩
 have hg3 : getR b 3 = (ev, lv) := Prod.ext hev hlv
 have HG3 := Lib.hid hg3
 rw [hag, hea] at fa
 rw [hlm, hct, heh] at fh
 rw [hg3] at fv
 rw [hea, heh, hev, hag, hlm, hct, hlv] at HFX
 rw [hea, hag] at F2
 rw [hea] at F2n G1 r1
 rw [heh, hlm, hct] at F3
 rw [heh] at F3n G2 r2
 rw [hev, hlv] at F4
 rw [hev] at F4n G3 r3
 rw [hag] at hln
 rw [hlm, hct] at hlc
 have R2b := Lib.hid (fun (h : eh = 0) => show 1 <= lm /\ lm <= 255 /\ 0 <= ct by
  obtain ⟨a, c, ha, h1, h2⟩ := R2.out (by rw [heh]; exact h)
  rw [<- hlm, <- hct, ha]
  exact ⟨h1.1, h1.2, h2.1⟩)
 have hl16 : lv.length <= 16 := by
  rcases r3 with h | h | h
  ·have := (R3.out (by rw [hev]; exact h)).2; rw [hlv] at this; exact this
  ·have := R3e.out (by rw [hev]; omega); rw [hlv] at this; rw [this]; simp
  ·have := R3e.out (by rw [hev]; omega); rw [hlv] at this; rw [this]; simp
 have fc := fun A c w h => containsInt_any A c lv n w h (by omega)
 have hsn : seenB lv n = decide (n ∈ lv) := by
  unfold seenB
  rw [Bool.eq_iff_iff, List.any_eq_true, decide_eq_true_eq]
  constructor
  ·rintro ⟨y, hy, he⟩; rw [beq_iff_eq] at he; exact he ▸ hy
  ·intro h; exact ⟨n, h, by simp⟩
 simp only [hsn] at fc
 have FC := Lib.hid fc
 clear fc hsn hfx hv hpa hcs hag hlm hct hea heh hev hlv hg3 HE3 R1 R2 R3 R3e
 obtain ⟨W1, hW1, hB1, hk1, hl1⟩ := box1 w #[.int .i64 b.src, .int .i64 b.cr, .int .i64 b.seq, .int .i64 b.off, .int .i64 b.tot, .int .i64 b.dk, .int .i64 b.dn, .int .i64 b.life, .int .i64 b.prio, .int .i64 b.flags, .slice A b.blocks.length cap, .string pa] 29
 obtain ⟨W2, hW2, hB2, hk2, hl2⟩ := box1 W1 #[.int .i64 0, .int .i64 0, .int .i64 0, .int .i64 0, .int .i64 0, .int .i64 0, .int .i64 0, .int .i64 0, .int .i64 0, .int .i64 0, .slice none 0 0, .string ⟨#[]⟩] 29
 have k1 := hk1.ext hB2
 have hc := k1.cell
 have hl := k1.lt
 have y1 := hB1.size
 have y2 := hB2.size
 have hE2 := hB1.trans hB2
 have HR := Lib.hid (hR.ext hE2)
 have HRA := Lib.hid (show 0 < b.blocks.length -> ∀ ad, A = some ad -> ad.block ≠ w.heap.size /\ ad.block ≠ W1.heap.size from fun hn ad he => by
  obtain ⟨ad', e', hb', _⟩ := hR.2 hn
  rw [he] at e'
  injection e' with e'
  subst e'
  exact ⟨by omega, by omega⟩)
 clear hR
 go_enter Tryz.func31, Tryz.ntmps31
 go_wp2_with fail
 clear hW1 hW2
 refine (f1 _ HR.out).mono ?_
 clear f1
 rintro e w3 ⟨rfl, hb3⟩
 have hE3 := hE2.trans hb3
 have k3 := k1.ext hb3
 have z3 := hk2.ext hb3
 clear hc hl
 have hc := k3.cell
 have hl := k3.lt
 go_wp2_with fail
 refine (f2 _).mono ?_
 clear f2
 rintro e w4 ⟨rfl, rfl⟩
 cases hn : isNd n with
 | false =>
   have HFE := Lib.hid (show fwE b n el = 2 by rw [HFX.out, if_pos (.inl hn)])
   have u1 := z3.cell
   have u2 := z3.lt
   have u3 := z3.frozen
   obtain ⟨WX, hWX, hkX, hBX⟩ := zero_leaf z3 hE3 y1
   go_wp2
   (try rw [hWX])
   have hcX := hkX.cell
   refine bodyPost_ret (v := .tuple #[.agg #[.int .i64 0, .int .i64 0, .int .i64 0, .int .i64 0, .int .i64 0, .int .i64 0, .int .i64 0, .int .i64 0, .int .i64 0, .int .i64 0, .slice none 0 0, .string ⟨#[]⟩], .int .i64 2]) (by rw [results_cell_tmp rfl]; simp [asAddr, Result.andThen, hcX, go_sem]) rfl ?_
   exact ⟨.inl ⟨by rw [HFE.out]; decide, by rw [HFE.out]⟩, hBX⟩
 | true =>
 by_cases h1 : el < 0
 case pos =>
  have HFE := Lib.hid (show fwE b n el = 2 by rw [HFX.out, if_pos (.inr (.inl h1))])
  have u1 := z3.cell
  have u2 := z3.lt
  have u3 := z3.frozen
  obtain ⟨WX, hWX, hkX, hBX⟩ := zero_leaf z3 hE3 y1
  go_wp2
  (try rw [hWX])
  have hcX := hkX.cell
  refine bodyPost_ret (v := .tuple #[.agg #[.int .i64 0, .int .i64 0, .int .i64 0, .int .i64 0, .int .i64 0, .int .i64 0, .int .i64 0, .int .i64 0, .int .i64 0, .int .i64 0, .slice none 0 0, .string ⟨#[]⟩], .int .i64 2]) (by rw [results_cell_tmp rfl]; simp [asAddr, Result.andThen, hcX, go_sem]) rfl ?_
  exact ⟨.inl ⟨by rw [HFE.out]; decide, by rw [HFE.out]⟩, hBX⟩
 by_cases h2 : 1099511627776 < el
 case pos =>
  have HFE := Lib.hid (show fwE b n el = 2 by rw [HFX.out, if_pos (.inr (.inr h2))])
  have u1 := z3.cell
  have u2 := z3.lt
  have u3 := z3.frozen
  obtain ⟨WX, hWX, hkX, hBX⟩ := zero_leaf z3 hE3 y1
  go_wp2
  (try rw [hWX])
  have hcX := hkX.cell
  refine bodyPost_ret (v := .tuple #[.agg #[.int .i64 0, .int .i64 0, .int .i64 0, .int .i64 0, .int .i64 0, .int .i64 0, .int .i64 0, .int .i64 0, .int .i64 0, .int .i64 0, .slice none 0 0, .string ⟨#[]⟩], .int .i64 2]) (by rw [results_cell_tmp rfl]; simp [asAddr, Result.andThen, hcX, go_sem]) rfl ?_
  exact ⟨.inl ⟨by rw [HFE.out]; decide, by rw [HFE.out]⟩, hBX⟩
 rw [if_neg (by rw [hn]; simp; omega)] at HFX
 go_wp2_with fail
 refine (fa _ (HR.out.ext hb3)).mono ?_
 clear fa
 rintro e w5 ⟨rfl, hb5⟩
 have hx5 := hb3.trans hb5
 have k5 := k3.ext hb5
 clear hc hl
 have hc := k5.cell
 have hl := k5.lt
 go_wp2_with fail
 refine (fh _ (HR.out.ext hx5)).mono ?_
 clear fh
 rintro e w6 ⟨rfl, hb6⟩
 have hx6 := hx5.trans hb6
 have k6 := k5.ext hb6
 clear hc hl
 have hc := k6.cell
 have hl := k6.lt
 go_wp2_with fail
 refine (fv _ (HR.out.ext hx6)).mono ?_
 clear fv
 rintro e w7 ⟨⟨A7, c7, rfl, hR7⟩, hb7⟩
 have hx7 := hx6.trans hb7
 have k7 := k6.ext hb7
 have z7 := hk2.ext hx7
 have hE7 := hE2.trans hx7
 clear hc hl k3 k5 k6 hb3 hb5 hb6 hb7 hx5 hx6 z3 hE3
 have hc := k7.cell
 have hl := k7.lt
 dsimp only at hR7 ⊢
 by_cases g0 : ea = 11
 case pos =>
  subst g0
  have HFE := Lib.hid (show fwE b n el = 11 by rw [HFX.out, if_pos (.inl rfl)])
  have u1 := z7.cell
  have u2 := z7.lt
  have u3 := z7.frozen
  obtain ⟨WX, hWX, hkX, hBX⟩ := zero_leaf z7 hE7 y1
  go_wp2
  (try rw [hWX])
  have hcX := hkX.cell
  refine bodyPost_ret (v := .tuple #[.agg #[.int .i64 0, .int .i64 0, .int .i64 0, .int .i64 0, .int .i64 0, .int .i64 0, .int .i64 0, .int .i64 0, .int .i64 0, .int .i64 0, .slice none 0 0, .string ⟨#[]⟩], .int .i64 11]) (by rw [results_cell_tmp rfl]; simp [asAddr, Result.andThen, hcX, go_sem]) rfl ?_
  exact ⟨.inl ⟨by rw [HFE.out]; decide, by rw [HFE.out]⟩, hBX⟩
 by_cases g1 : eh = 11
 case pos =>
  subst g1
  have HFE := Lib.hid (show fwE b n el = 11 by rw [HFX.out, if_pos (.inr (.inl rfl))])
  have gb0 : (ea == 11) = false := by rw [beq_eq_false_iff_ne]; exact g0
  have u1 := z7.cell
  have u2 := z7.lt
  have u3 := z7.frozen
  obtain ⟨WX, hWX, hkX, hBX⟩ := zero_leaf z7 hE7 y1
  go_wp2
  (try rw [hWX])
  have hcX := hkX.cell
  refine bodyPost_ret (v := .tuple #[.agg #[.int .i64 0, .int .i64 0, .int .i64 0, .int .i64 0, .int .i64 0, .int .i64 0, .int .i64 0, .int .i64 0, .int .i64 0, .int .i64 0, .slice none 0 0, .string ⟨#[]⟩], .int .i64 11]) (by rw [results_cell_tmp rfl]; simp [asAddr, Result.andThen, hcX, go_sem]) rfl ?_
  exact ⟨.inl ⟨by rw [HFE.out]; decide, by rw [HFE.out]⟩, hBX⟩
 by_cases g2 : ev = 11
 case pos =>
  subst g2
  have HFE := Lib.hid (show fwE b n el = 11 by rw [HFX.out, if_pos (.inr (.inr rfl))])
  have gb0 : (ea == 11) = false := by rw [beq_eq_false_iff_ne]; exact g0
  have gb1 : (eh == 11) = false := by rw [beq_eq_false_iff_ne]; exact g1
  have u1 := z7.cell
  have u2 := z7.lt
  have u3 := z7.frozen
  obtain ⟨WX, hWX, hkX, hBX⟩ := zero_leaf z7 hE7 y1
  go_wp2
  (try rw [hWX])
  have hcX := hkX.cell
  refine bodyPost_ret (v := .tuple #[.agg #[.int .i64 0, .int .i64 0, .int .i64 0, .int .i64 0, .int .i64 0, .int .i64 0, .int .i64 0, .int .i64 0, .int .i64 0, .int .i64 0, .slice none 0 0, .string ⟨#[]⟩], .int .i64 11]) (by rw [results_cell_tmp rfl]; simp [asAddr, Result.andThen, hcX, go_sem]) rfl ?_
  exact ⟨.inl ⟨by rw [HFE.out]; decide, by rw [HFE.out]⟩, hBX⟩
 rw [if_neg (by omega)] at HFX
 have gb0 : (ea == 11) = false := by rw [beq_eq_false_iff_ne]; exact g0
 have gb1 : (eh == 11) = false := by rw [beq_eq_false_iff_ne]; exact g1
 have gb2 : (ev == 11) = false := by rw [beq_eq_false_iff_ne]; exact g2
 by_cases x17 : ea = 0 /\ b.life <= ag + el
 case pos =>
  obtain ⟨rfl, hle⟩ := x17
  have HFE := Lib.hid (show fwE b n el = 17 by rw [HFX.out, if_pos ⟨rfl, hle⟩])
  have hd : decide (b.life <= ag + el) = true := decide_eq_true hle
  have u1 := z7.cell
  have u2 := z7.lt
  have u3 := z7.frozen
  obtain ⟨WX, hWX, hkX, hBX⟩ := zero_leaf z7 hE7 y1
  go_wp2
  (try rw [hWX])
  have hcX := hkX.cell
  refine bodyPost_ret (v := .tuple #[.agg #[.int .i64 0, .int .i64 0, .int .i64 0, .int .i64 0, .int .i64 0, .int .i64 0, .int .i64 0, .int .i64 0, .int .i64 0, .int .i64 0, .slice none 0 0, .string ⟨#[]⟩], .int .i64 17]) (by rw [results_cell_tmp rfl]; simp [asAddr, Result.andThen, hcX, go_sem]) rfl ?_
  exact ⟨.inl ⟨by rw [HFE.out]; decide, by rw [HFE.out]⟩, hBX⟩
 rw [if_neg x17] at HFX
 have HNA := Lib.hid x17
 go_upto_region 10 with fail
 go_cut [59] from 60 to 69 (fun c wx => c = .bool false /\ wx = w7)
 case first =>
  by_cases x0 : ea = 0
  ·subst x0
   have hd : decide (b.life <= ag + el) = false := decide_eq_false (fun h => x17 ⟨rfl, h⟩)
   go_wp2
   go_meet
   exact ⟨rfl, rfl⟩
  ·have hb0 : (ea == 0) = false := by rw [beq_eq_false_iff_ne]; exact x0
   go_wp2
   go_meet
   exact ⟨rfl, rfl⟩
 case rest =>
 obtain ⟨rfl, he⟩ := hcut
 rw [he]
 clear he
 by_cases x4 : eh = 0 /\ lm < ct + 1
 case pos =>
  obtain ⟨rfl, hle⟩ := x4
  have HFE := Lib.hid (show fwE b n el = 4 by rw [HFX.out, if_pos ⟨rfl, hle⟩])
  have hd : decide (lm < ct + 1) = true := decide_eq_true hle
  have u1 := z7.cell
  have u2 := z7.lt
  have u3 := z7.frozen
  obtain ⟨WX, hWX, hkX, hBX⟩ := zero_leaf z7 hE7 y1
  go_wp2
  (try rw [hWX])
  have hcX := hkX.cell
  refine bodyPost_ret (v := .tuple #[.agg #[.int .i64 0, .int .i64 0, .int .i64 0, .int .i64 0, .int .i64 0, .int .i64 0, .int .i64 0, .int .i64 0, .int .i64 0, .int .i64 0, .slice none 0 0, .string ⟨#[]⟩], .int .i64 4]) (by rw [results_cell_tmp rfl]; simp [asAddr, Result.andThen, hcX, go_sem]) rfl ?_
  exact ⟨.inl ⟨by rw [HFE.out]; decide, by rw [HFE.out]⟩, hBX⟩
 rw [if_neg x4] at HFX
 have HNH := Lib.hid x4
 go_upto_region 12 with fail
 go_cut [71] from 72 to 79 (fun c wx => c = .bool false /\ wx = w7)
 case first =>
  by_cases x0 : eh = 0
  ·subst x0
   have hd : decide (lm < ct + 1) = false := decide_eq_false (fun h => x4 ⟨rfl, h⟩)
   go_wp2
   go_meet
   exact ⟨rfl, rfl⟩
  ·have hb0 : (eh == 0) = false := by rw [beq_eq_false_iff_ne]; exact x0
   go_wp2
   go_meet
   exact ⟨rfl, rfl⟩
 case rest =>
 obtain ⟨rfl, he⟩ := hcut
 rw [he]
 clear he
 by_cases x27 : ev = 0 /\ n ∈ lv
 case pos =>
  obtain ⟨rfl, hle⟩ := x27
  have HFE := Lib.hid (show fwE b n el = 27 by rw [HFX.out, if_pos ⟨rfl, hle⟩])
  have hd : decide (n ∈ lv) = true := decide_eq_true hle
  go_wp2_with fail
  refine (FC.out A7 c7 _ hR7).mono ?_
  rintro e w8 ⟨rfl, hb8⟩
  have z8 := z7.ext hb8
  have hE8 := hE7.trans hb8
  clear hc hl
  have u1 := z8.cell
  have u2 := z8.lt
  have u3 := z8.frozen
  obtain ⟨WX, hWX, hkX, hBX⟩ := zero_leaf z8 hE8 y1
  go_wp2
  (try rw [hWX])
  have hcX := hkX.cell
  refine bodyPost_ret (v := .tuple #[.agg #[.int .i64 0, .int .i64 0, .int .i64 0, .int .i64 0, .int .i64 0, .int .i64 0, .int .i64 0, .int .i64 0, .int .i64 0, .int .i64 0, .slice none 0 0, .string ⟨#[]⟩], .int .i64 27]) (by rw [results_cell_tmp rfl]; simp [asAddr, Result.andThen, hcX, go_sem]) rfl ?_
  exact ⟨.inl ⟨by rw [HFE.out]; decide, by rw [HFE.out]⟩, hBX⟩
 rw [if_neg x27] at HFX
 go_upto_region 14 with fail
 go_cut [81] from 82 to 88 (fun c wx => c = .bool false /\ Ext w7 wx)
 case first =>
  by_cases x0 : ev = 0
  ·subst x0
   have hd : decide (n ∈ lv) = false := decide_eq_false (fun h => x27 ⟨rfl, h⟩)
   go_wp2_with fail
   refine (FC.out A7 c7 _ hR7).mono ?_
   rintro e w8 ⟨rfl, hb8⟩
   rw [hd]
   go_wp2
   go_meet
   exact ⟨rfl, hb8⟩
  ·have hb0 : (ev == 0) = false := by rw [beq_eq_false_iff_ne]; exact x0
   go_wp2
   go_meet
   exact ⟨rfl, Ext.refl _⟩
 case rest =>
 obtain ⟨rfl, hb8⟩ := hcut
 generalize wc = w8 at *
 have HNL := Lib.hid x27
 have HNN := Lib.hid hn
 clear x17 x4 x27 hc hl hn
 have k8 := k7.ext hb8
 have z8 := z7.ext hb8
 have hE8 := hE7.trans hb8
 have hx8 := hx7.trans hb8
 have y7 := hE7.size
 have yw := hb8.size
 have yx := hx8.size
 clear k7 z7 hE7 hR7
 -- the three bundles
 obtain ⟨⟨ok1, _, _⟩, fj1⟩ := W1'.out
 have hf12 := fj1 2 (by decide)
 have hf13 := fj1 3 (by decide)
 obtain ⟨⟨ok2, _, _⟩, fj2⟩ := W2'.out ok1 hf12
 have hf23 := (fj2 3 (by decide)).trans hf13
 have HFE := Lib.hid HFX.out
 have F3c := F3.out
 have F4c := F4.out
 obtain ⟨c1, hc1⟩ : ∃ c, fw1 b el = c := ⟨_, rfl⟩
 rw [hc1] at F2 F2n HFB W2' ok1 hf12 hf13 ok2 hf23 fj1 fj2
 obtain ⟨c2, hc2⟩ : ∃ c, fw2 b c1 = c := ⟨_, rfl⟩
 rw [hc2] at HFB ok2 hf23 fj2
 obtain ⟨c3, hc3⟩ : ∃ c, fw3 b c2 n = c := ⟨_, rfl⟩
 rw [hc3] at HFB
 have S2 := Lib.hid (fun A c x w hR hx hl hc => SetHops_ok c1 A c lm (ct + 1) x w hR ok1 hx hl hc)
 have S3 := Lib.hid (fun A c l x w hR hx hg hn hnl => Visit_ok c2 A c n l x w hR ok2 hx hg hn hnl)
 have F3d := Lib.hid (fun h => (F3.out h c1).symm.trans hc2)
 have F3e := Lib.hid (fun h => hc2.symm.trans (F3n.out h c1))
 have F4d := Lib.hid (fun h => (F4.out h c2).symm.trans hc3)
 have F4e := Lib.hid (fun h => hc3.symm.trans (F4n.out h c2))
 have HX2 := Lib.hid hf12
 have HX3 := Lib.hid hf23
 have GS3 := Lib.hid ((GS.out c2 hf23).trans HG3.out)
 clear hc1 hc2 hc3 F3 F3n F4 F4n F3c F4c W2' W1' fj1 fj2 ok1 ok2 hf12 hf13 hf23 GS HG3 HFX
 have S1' := Lib.hid (fun (h : ea = 0) w hR => show Calls Tryz.prog 101 #[.agg #[.int .i64 b.src, .int .i64 b.cr, .int .i64 b.seq, .int .i64 b.off, .int .i64 b.tot, .int .i64 b.dk, .int .i64 b.dn, .int .i64 b.life, .int .i64 b.prio, .int .i64 b.flags, .slice A b.blocks.length cap, .string pa], .int .i64 (ag + el)] w fun e w' => SetR c1 w e w' /\ Ext w w' by
  obtain ⟨x, hx, _⟩ := G1.out h
  have hq : ag + el < b.life := by
   have := HNA.out
   exact Int.not_le.1 (fun hh => this ⟨h, hh⟩)
  have := S1.out (ag + el) x w hR hx (by omega)
  rw [<- F2.out h] at this
  exact this)
 have S2' := Lib.hid (fun (h : eh = 0) A c w hR => show Calls Tryz.prog 102 #[.agg (c1.cells A c), .int .i64 lm, .int .i64 (ct + 1)] w fun e w' => SetR c2 w e w' /\ Ext w w' by
  obtain ⟨x, hx, _⟩ := G2.out h
  have hq : ct + 1 <= lm := by
   have := HNH.out
   exact Int.not_lt.1 (fun hh => this ⟨h, hh⟩)
  obtain ⟨q1, q2, q3⟩ := R2b.out h
  have := S2.out A c x w hR (HX2.out.trans hx) ⟨q1, q2⟩ (by omega)
  rw [F3d.out h] at this
  exact this)
 have S3' := Lib.hid (fun (h : ev = 0) A c w hR => show Calls Tryz.prog 103 #[.agg (c2.cells A c), .int .i64 n] w fun e w' => SetR c3 w e w' /\ Ext w w' by
  obtain ⟨x, hx, _⟩ := G3.out h
  have := S3.out A c lv x w hR (HX3.out.trans hx) (by rw [GS3.out, h]) HNN.out (fun hh => HNL.out ⟨h, hh⟩)
  rw [F4d.out h] at this
  exact this)
 clear S1 S2 S3 F2 F3d F4d G1 G2 G3 R2b HX2 HX3 GS3 HNN HNL HNA HNH FC
 have HB1 := Lib.hid (fun (h : ea ≠ 0) => F2n.out h)
 clear F2n
 obtain ⟨s1, hs1, -⟩ := strV_str c1.pay
 obtain ⟨s2, hs2, -⟩ := strV_str c2.pay
 obtain ⟨s3, hs3, -⟩ := strV_str c3.pay
 have C1 := Lib.hid (fun A c => show c1.cells A c = #[.int .i64 c1.src, .int .i64 c1.cr, .int .i64 c1.seq, .int .i64 c1.off, .int .i64 c1.tot, .int .i64 c1.dk, .int .i64 c1.dn, .int .i64 c1.life, .int .i64 c1.prio, .int .i64 c1.flags, .slice A c1.blocks.length c, .string s1] by unfold Bu.cells; rw [hs1])
 have C2 := Lib.hid (fun A c => show c2.cells A c = #[.int .i64 c2.src, .int .i64 c2.cr, .int .i64 c2.seq, .int .i64 c2.off, .int .i64 c2.tot, .int .i64 c2.dk, .int .i64 c2.dn, .int .i64 c2.life, .int .i64 c2.prio, .int .i64 c2.flags, .slice A c2.blocks.length c, .string s2] by unfold Bu.cells; rw [hs2])
 have C3 := Lib.hid (fun A c => show c3.cells A c = #[.int .i64 c3.src, .int .i64 c3.cr, .int .i64 c3.seq, .int .i64 c3.off, .int .i64 c3.tot, .int .i64 c3.dk, .int .i64 c3.dn, .int .i64 c3.life, .int .i64 c3.prio, .int .i64 c3.flags, .slice A c3.blocks.length c, .string s3] by unfold Bu.cells; rw [hs3])
 clear hs1 hs2 hs3
 unfold SetR at S1' S2' S3'
 simp only [C1.out] at S1' S2'
 simp only [C2.out] at S2' S3'
 simp only [C3.out] at S3'
 go_upto_if 91 with fail
 go_cut [] from 91 to 99 (fun wx => FwI w A w.heap.size W1.heap.size c1 wx)
 case first =>
  by_cases x0 : ea = 0
  ·have hS := S1'.out x0 w8 (HR.out.ext hx8)
   have hb0 : (ea == 0) = true := by rw [beq_iff_eq]; exact x0
   clear x0
   have hc := k8.cell
   have hl := k8.lt
   go_wp2_with fail
   refine hS.mono ?_
   rintro e w9 ⟨⟨A9, c9, rfl, hR9, hA9⟩, hb9⟩
   have k9 := k8.ext hb9
   clear hc hl
   have u1 := k9.cell
   have u2 := k9.lt
   have u3 := k9.frozen
   obtain ⟨WX, hWX, hkX, hUX⟩ := store12 k9 (.int .i64 c1.src) (.int .i64 c1.cr) (.int .i64 c1.seq) (.int .i64 c1.off) (.int .i64 c1.tot) (.int .i64 c1.dk) (.int .i64 c1.dn) (.int .i64 c1.life) (.int .i64 c1.prio) (.int .i64 c1.flags) (.slice A9 c1.blocks.length c9) (.string s1)
   go_wp2
   (try rw [hWX])
   go_meet
   exact ⟨A9, c9, by rw [C1.out]; exact hkX, hUX.blk (z8.ext hb9) (by omega), ups_rd2 hUX hR9 (fun _ ad h => by have := hA9 ad h; omega), fun _ ad h => by have := hA9 ad h; exact ⟨by omega, by omega⟩, hUX.ext (hE8.trans hb9) (Nat.le_refl _), .inr (fun ad h => by have := hA9 ad h; omega)⟩
  ·have hb0 : (ea == 0) = false := by rw [beq_eq_false_iff_ne]; exact x0
   have he := HB1.out x0
   go_wp2
   go_meet
   refine ⟨A, cap, ?_, z8, by rw [he]; exact HR.out.ext hx8, by rw [he]; exact HRA.out, hE8, .inl rfl⟩
   rw [he, HCS.out]
   exact k8
 case rest =>
 obtain ⟨A1, q1, kk, zz, rr, aa, ee, ff⟩ := hcut
 generalize wc = wa at *
 simp only [C1.out] at kk
 clear k8 z8 hE8 hx8 S1' HB1
 go_upto_if 101 with fail
 go_cut [] from 101 to 109 (fun wx => FwI w A w.heap.size W1.heap.size c2 wx)
 case first =>
  by_cases x0 : eh = 0
  ·have hS := S2'.out x0 A1 q1 wa rr
   have hb0 : (eh == 0) = true := by rw [beq_iff_eq]; exact x0
   clear x0
   have hc := kk.cell
   have hl := kk.lt
   go_wp2_with fail
   refine hS.mono ?_
   rintro e w9 ⟨⟨A9, c9, rfl, hR9, hA9⟩, hb9⟩
   have k9 := kk.ext hb9
   clear hc hl
   have u1 := k9.cell
   have u2 := k9.lt
   have u3 := k9.frozen
   have yz := zz.lt
   have ye := ee.size
   have yk := kk.lt
   obtain ⟨WX, hWX, hkX, hUX⟩ := store12 k9 (.int .i64 c2.src) (.int .i64 c2.cr) (.int .i64 c2.seq) (.int .i64 c2.off) (.int .i64 c2.tot) (.int .i64 c2.dk) (.int .i64 c2.dn) (.int .i64 c2.life) (.int .i64 c2.prio) (.int .i64 c2.flags) (.slice A9 c2.blocks.length c9) (.string s2)
   go_wp2
   (try rw [hWX])
   go_meet
   exact ⟨A9, c9, by rw [C2.out]; exact hkX, hUX.blk (zz.ext hb9) (by omega), ups_rd2 hUX hR9 (fun _ ad h => by have := hA9 ad h; omega), fun _ ad h => by have := hA9 ad h; exact ⟨by omega, by omega⟩, hUX.ext (ee.trans hb9) (Nat.le_refl _), .inr (fun ad h => by have := hA9 ad h; omega)⟩
  ·have hb0 : (eh == 0) = false := by rw [beq_eq_false_iff_ne]; exact x0
   have he := F3e.out x0
   go_wp2
   go_meet
   refine ⟨A1, q1, ?_, zz, by rw [he]; exact rr, by rw [he]; exact aa, ee, ff⟩
   rw [he, C1.out]
   exact kk
 case rest =>
 obtain ⟨A1, q1, kk, zz, rr, aa, ee, ff⟩ := hcut
 generalize wc = wb at *
 simp only [C2.out] at kk
 clear S2' F3e
 go_upto_if 111 with fail
 go_cut [] from 111 to 117 (fun wx => FwI w A w.heap.size W1.heap.size c3 wx)
 case first =>
  by_cases x0 : ev = 0
  ·have hS := S3'.out x0 A1 q1 wb rr
   have hb0 : (ev == 0) = true := by rw [beq_iff_eq]; exact x0
   clear x0
   have hc := kk.cell
   have hl := kk.lt
   go_wp2_with fail
   refine hS.mono ?_
   rintro e w9 ⟨⟨A9, c9, rfl, hR9, hA9⟩, hb9⟩
   have k9 := kk.ext hb9
   clear hc hl
   have u1 := k9.cell
   have u2 := k9.lt
   have u3 := k9.frozen
   have yz := zz.lt
   have ye := ee.size
   have yk := kk.lt
   obtain ⟨WX, hWX, hkX, hUX⟩ := store12 k9 (.int .i64 c3.src) (.int .i64 c3.cr) (.int .i64 c3.seq) (.int .i64 c3.off) (.int .i64 c3.tot) (.int .i64 c3.dk) (.int .i64 c3.dn) (.int .i64 c3.life) (.int .i64 c3.prio) (.int .i64 c3.flags) (.slice A9 c3.blocks.length c9) (.string s3)
   go_wp2
   (try rw [hWX])
   go_meet
   exact ⟨A9, c9, by rw [C3.out]; exact hkX, hUX.blk (zz.ext hb9) (by omega), ups_rd2 hUX hR9 (fun _ ad h => by have := hA9 ad h; omega), fun _ ad h => by have := hA9 ad h; exact ⟨by omega, by omega⟩, hUX.ext (ee.trans hb9) (Nat.le_refl _), .inr (fun ad h => by have := hA9 ad h; omega)⟩
  ·have hb0 : (ev == 0) = false := by rw [beq_eq_false_iff_ne]; exact x0
   have he := F4e.out x0
   go_wp2
   go_meet
   refine ⟨A1, q1, ?_, zz, by rw [he]; exact rr, by rw [he]; exact aa, ee, ff⟩
   rw [he, C2.out]
   exact kk
 case rest =>
 obtain ⟨A1, q1, kk, zz, rr, aa, ee, ff⟩ := hcut
 generalize wc = wd at *
 simp only [C3.out] at kk
 have hc := kk.cell
 have hl := kk.lt
 have u1 := zz.cell
 have u2 := zz.lt
 have u3 := zz.frozen
 obtain ⟨WX, hWX, hkX, hUX⟩ := store12 zz (.int .i64 c3.src) (.int .i64 c3.cr) (.int .i64 c3.seq) (.int .i64 c3.off) (.int .i64 c3.tot) (.int .i64 c3.dk) (.int .i64 c3.dn) (.int .i64 c3.life) (.int .i64 c3.prio) (.int .i64 c3.flags) (.slice A1 c3.blocks.length q1) (.string s3)
 go_wp2
 (try rw [hWX])
 have hcX := hkX.cell
 refine bodyPost_ret (v := .tuple #[.agg #[.int .i64 c3.src, .int .i64 c3.cr, .int .i64 c3.seq, .int .i64 c3.off, .int .i64 c3.tot, .int .i64 c3.dk, .int .i64 c3.dn, .int .i64 c3.life, .int .i64 c3.prio, .int .i64 c3.flags, .slice A1 c3.blocks.length q1, .string s3], .int .i64 0]) (by rw [results_cell_tmp rfl]; simp [asAddr, Result.andThen, hcX, go_sem]) rfl ?_
 refine ⟨.inr ⟨HFE.out, ?_⟩, hUX.ext ee y1⟩
 rw [HFB.out]
 exact ⟨A1, q1, by rw [C3.out], ups_rd2 hUX rr (fun h ad e => (aa h ad e).2), ff⟩
end Go.Proofs.YtemkpimngbbpkaaGreat

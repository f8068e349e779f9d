/- Security: crc.update. -/
import Derived.RangeFuncLeaves
import Derived.Test.YtemkpimngbbpkaaGreatQs10
import Derived.Test.YtemkpimngbbpkaaGreatQs13
namespace Go.Proofs.YtemkpimngbbpkaaGreat
set_option linter.unusedVariables false
set_option linter.unusedSimpArgs false
open Go.RowKit Go.Shelf
attribute [local go_sem] Oper.semAt_some
def CRl (r : UInt32) (bo bt b1 : Nat) (W0 : World) (pre : Bts) (W : World) : Prop := Blk W bo 335 #[.int .u32 ((crcU r pre).toNat : Int)] /\ Blk W bt 445 (tabV tabL) /\ Ext W0 W /\ b1 <= W.heap.size
theorem crl_own {r : UInt32} {bo bt b1 B : Nat} {W0 : World} (hB : W0.heap.size <= B) : OwnFrom B (CRl r bo bt b1 W0) := by
 intro pre X Y row hs hg hr
 obtain ⟨h1, h2, h3, h4⟩ := hs
 exact ⟨h1.keptc hg (fun r e => (hr r e).2), h2.keptc hg (fun r e => (hr r e).2), h3.keptb hg (fun r e => Nat.le_trans hB (hr r e).1), Nat.le_trans h4 hg.size⟩
theorem u8lt (a : UInt8) : a.toNat < 256 := a.toNat_lt
theorem tabL_get (i : UInt8) : tabL[i.toNat]'(by rw [tabL_len]; exact u8lt i) = cst i.toUInt32 := by
 simp only [tabL, List.getElem_map, List.getElem_range]
 congr 1
 apply UInt32.toNat_inj.1
 rw [UInt8.toNat_toUInt32, UInt32.toNat_ofNat']
 have := u8lt i
 omega
theorem crcU_snoc (r : UInt32) (pre : Bts) (x : UInt8) : crcU r (pre ++ [x]) = (crcU r pre >>> 8) ^^^ cst ((crcU r pre).toUInt8 ^^^ x).toUInt32 := by
 unfold crcU
 rw [List.foldl_append]
 rfl
theorem crl_put {r : UInt32} {bo bt b1 : Nat} {W0 W : World} {pre : Bts} {x : UInt8} {y : UInt32} (h : CRl r bo bt b1 W0 pre W) (hy : crcU r (pre ++ [x]) = y) (hne : bo ≠ bt) (hbo : W0.heap.size <= bo) :
 KeepsFrom b1 W (W.setCell ⟨bo, 0, none⟩ (.int .u32 (y.toNat : Int))).drew /\ KpP b1 (fun b => b = bo) W (W.setCell ⟨bo, 0, none⟩ (.int .u32 (y.toNat : Int))).drew /\ CRl r bo bt b1 W0 (pre ++ [x]) (W.setCell ⟨bo, 0, none⟩ (.int .u32 (y.toNat : Int))).drew := by
 obtain ⟨h1, h2, h3, h4⟩ := h
 have hd : Ext (W.setCell ⟨bo, 0, none⟩ (.int .u32 (y.toNat : Int))) (W.setCell ⟨bo, 0, none⟩ (.int .u32 (y.toNat : Int))).drew := (Ext.refl _).drew
 have hs1 : W.heap.size <= (W.setCell ⟨bo, 0, none⟩ (.int .u32 (y.toNat : Int))).heap.size := by simp
 refine ⟨((KeepsOthers.setCell W ⟨bo, 0, none⟩ _).trans hd.keeps).from _, KpP.trans (KpP.setCell (S := fun b => b = bo) (KpP.refl _ _ _) (.inl rfl) _ _) (KpP.of_ext (Nat.le_trans h4 hs1) hd), ?_, (h2.far (fun e => hne (by simpa using e.symm)) _).ext hd, (h3.setCell hbo _).trans hd, Nat.le_trans (Nat.le_trans h4 hs1) hd.size⟩
 rw [hy]
 exact (h1.set0 _).ext hd
set_option maxRecDepth 100000 in
set_option maxHeartbeats 16000000 in
theorem update_any (r : UInt32) (s : Bts) (w : World) (h : s.length <= 1000000) :
 Calls Tryz.prog 302 #[.int .u32 r.toNat, strV s] w fun e w' => e = .returned (.int .u32 (crcU r s).toNat) /\ Ext w w' := by
 obtain ⟨Z, hZ⟩ : ∃ Z, tabV (List.replicate 256 0) = Z := ⟨_, rfl⟩
 have hz := (zero_of_info (P := Tryz.prog) tab_info).1
 rw [hZ] at hz
 have hZs : Z.size = 256 := by rw [<- hZ, tabV_size]; simp
 have HZ := Lib.hid hZ
 clear hZ
 obtain ⟨W1, hW1, hB1, hk1, hl1⟩ := box1 w #[.int .u32 (r.toNat : Int)] 335
 have f1 := fun w => table_any w
 have f2 := fun w => bytes_any s w
 have hs3 := fun B n₁ S w kb hB => bytes_stops B n₁ S s w h kb hB
 obtain ⟨sv, hsv⟩ : ∃ sv, strV s = sv := ⟨_, rfl⟩
 rw [hsv] at f2 hs3 ⊢
 clear hsv h
 refine (callsIn_wide (n := 5)).1 ?_
 refine callsIn_of_wp_marks Tryz.func302 rfl trivial ?_ rfl
 refine wpIn_wide.2 ?_
 refine Code.wp_mono NoPanic.imp ?_
 simp only [Tryz.ntmps302, List.size_toArray, List.length_cons, List.length_nil, Nat.reduceAdd, Nat.reduceSub, Array.replicate_succ, Array.replicate_zero, List.push_toArray, List.append_toArray, List.nil_append, List.cons_append]
 go_wp2_with fail
 clear hW1
 refine (f1 _).mono ?_
 clear f1
 rintro e w2 ⟨rfl, hb2⟩
 obtain ⟨W3, hW3, hB3, hk3, hl3⟩ := box1 w2 Z 445
 go_wp2_with (first | (refine wpList_storeT (T := List.replicate 256 0) rfl rfl rfl rfl (by rw [HZ.out]; exact hk3) (by simp) tabL_len ?_; intro W4 hg4 hk4))
 have hE24 : Ext w2 W4 := hB3.keptb hg4 (by rintro r ⟨rfl⟩; exact Nat.le_refl _)
 have kb4 := (hk1.ext hb2).ext hE24
 have hs24 := hE24.size
 have l4 := hk4.lt
 clear hW3 hg4
 refine (f2 _).mono ?_
 clear f2
 rintro e w8 ⟨rfl, hb8, hs8, z1⟩
 go_wp2_with fail
 have hs12 := hb2.size
 refine (wpIn_wide (n := 5)).1 ?_
 refine wpIn_rangeFunc_ownH rfl (by omega) (gf := 337) (lb := #[.pointer (some ⟨W4.heap.size, 0, none⟩)]) rfl trivial (enters_of Tryz.func337 (by kernel_rfl) rfl)
  (hs3 W4.heap.size w8.heap.size (fun b => b = w.heap.size) w8 z1 ⟨by omega, by omega⟩)
  KpP.trans (fun W l o o' hl _ _ _ => KpP.put W l o' hl) (Below.refl _ _) (fun _ => rfl)
  (CRl r w.heap.size w2.heap.size w8.heap.size w) (fun _ _ _ => False) (crl_own (by have := hB1.size; have := hb8.size; omega)) (fun _ _ _ _ _ hs _ _ => hs)
  ⟨kb4.ext hb8, hk4.ext hb8, ((hB1.trans hb2).trans hE24).trans hb8, Nat.le_refl _⟩
  (fun x a' _ => a' = { tmps := #[.int .u32 (r.toNat : Int), sv, .pointer (some ⟨w.heap.size, 0, none⟩), undef, .int .u32 0, .pointer (some ⟨w2.heap.size, 0, none⟩), .int .u8 (x.toNat : Int), .agg (tabV tabL), sv, .func (.func 337) #[] #[.pointer (some ⟨W4.heap.size, 0, none⟩)], .int .u8 (x.toNat : Int), undef, undef, undef, undef, undef, undef, undef, undef, undef, undef], defers := [] }) (fun _ _ _ _ _ _ hs _ _ => hs) ?assign ?body ?done ?stop
 case assign =>
  rintro li pre x W K hi hK
  simp only [byV]
  gi_wp2
  exact hK _ _ (KeepsFrom.refl _ _) (KpP.refl _ _ _) hi rfl
 case body =>
  rintro li pre x a' W hl _ hC rfl hlen
  obtain ⟨h1, h2, h3, h4⟩ := id hC
  have hsn := crcU_snoc r pre x
  obtain ⟨c, hc⟩ : ∃ c, crcU r pre = c := ⟨_, rfl⟩
  rw [hc] at h1 hsn
  obtain ⟨c1, hc1⟩ : ∃ c1, c >>> 8 = c1 := ⟨_, rfl⟩
  obtain ⟨c2, hc2⟩ : ∃ c2, c.toUInt8 = c2 := ⟨_, rfl⟩
  obtain ⟨ix, hix⟩ : ∃ ix, c2 ^^^ x = ix := ⟨_, rfl⟩
  obtain ⟨t, ht⟩ : ∃ t, cst ix.toUInt32 = t := ⟨_, rfl⟩
  obtain ⟨y, hy⟩ : ∃ y, c1 ^^^ t = y := ⟨_, rfl⟩
  rw [hc1, hc2, hix, ht, hy] at hsn
  have q1 : (c.toNat : Int) / 256 = (c1.toNat : Int) := by
   have h9 : (c >>> 8).toNat = c.toNat / 256 := by rw [UInt32.toNat_shiftRight, Nat.shiftRight_eq_div_pow]; rfl
   rw [<- hc1, h9]
   rfl
  have q2 : (c.toNat : Int) % 256 = (c2.toNat : Int) := by
   rw [<- hc2]
   rfl
  have q5 : IntKind.u8.wrap (c.toNat : Int) = (c2.toNat : Int) := by rw [IntKind.wrap_u8']; exact q2
  have q3 : bits .xor .u8 (c2.toNat : Int) (x.toNat : Int) = (ix.toNat : Int) := by rw [u8_xor_nat _ _ (u8lt _) (u8lt _), <- UInt8.toNat_xor, hix]
  have q4 : bits .xor .u32 (c1.toNat : Int) (t.toNat : Int) = (y.toNat : Int) := by rw [u32_xor, hy]
  have hiL : ix.toNat < tabL.length := by rw [tabL_len]; exact u8lt ix
  have a3 := (h2.cell ix.toNat).trans (tabV_get hiL)
  rw [tabL_get, ht] at a3
  have hPUT := Lib.hid (crl_put hC hsn (show w.heap.size ≠ w2.heap.size by omega) (Nat.le_refl _))
  have i2 : ix.toNat < 256 := u8lt ix
  generalize ix.toNat = n at *
  have i0 : (0 : Int) <= (n : Int) := by omega
  have i1 : (n : Int) < 256 := by omega
  have a1 := h1.cell
  have a2 := h1.lt
  have a4 := h2.lt
  have a5 := h1.frozen
  clear hc hc1 hc2 hix ht hy hsn hiL hC h1 h2
  gi_wp2_with fail
  gi_region
  all_goals
   have FIN := hPUT.out
   clear hPUT a1 a2 a3 a4 a5
   generalize (World.setCell W ⟨w.heap.size, 0, none⟩ (.int .u32 (y.toNat : Int))).drew = WX at *
   gi_wp2
   exact FIN
 case stop =>
  rintro D c pre W _ _ h _
  exact h.elim
 case done =>
  rintro D xs W hDD hF ⟨h1, h2, h3, h4⟩ hK
  obtain rfl : xs = s := hF
  have hd2 := (DSx.nil w8.heap.size w.heap.size W).cons hDD (by have := h3.size; have := hB1.size; have := hb8.size; omega) hK
  clear hK
  have a1 := h1.cell
  have a2 := h1.lt
  go_wp2_with fail
  show LeavesInM _ _ _ _ _ _ _ .returning _
  refine hd2.leaves ?_
  intro w' hw'
  have hfin := hw' (fun W => Ext w W) (fun s X Y row hs hg hr => hs.keptb hg (fun r e => (hr r e).1)) h3
  exact ⟨_, results_tmp rfl _ _ _, rfl, hfin⟩
end Go.Proofs.YtemkpimngbbpkaaGreat

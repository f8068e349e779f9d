/- Security: crc.update. · Security: the checksum of a string, and its frame. · Security: block.Encode; the numbers of a bundle. · Security: keyhash.Sum, keyhash.Chain. · Security: block.EncodeAll, bundle.Encode. · Security: block.Remove, valid, Put. · Security: bundle.Encode. -/
import Derived.RangeFuncLeaves
import Derived.BigRegion
import Derived.Laws.Rows
import Derived.Laws.BytesString
import Derived.Test.YtemkpimngbbpkaaGreatQt03
import Derived.Test.YtemkpimngbbpkaaGreatQt13
import Derived.Test.YtemkpimngbbpkaaGreatQt18
import Derived.Test.YtemkpimngbbpkaaGreatQt20
namespace Go.Proofs.YtemkpimngbbpkaaGreat
set_option linter.unusedVariables false
set_option linter.unusedSimpArgs false
section
open Go.RowKit Go.Shelf
attribute [local go_sem] Oper.semAt_some
def CRl (r : UInt32) (bo bt b1 : Nat) (W0 : World) (pre : Bts) (W : World) : Prop := Blk W bo 335 #[.int .u32 ((crcU r pre).toNat : Int)] /\ Blk W bt 445 (tabV tabL) /\ Ext W0 W /\ b1 <= W.heap.size
theorem crl_own {r : UInt32} {bo bt b1 B : Nat} {W0 : World} (hB : W0.heap.size <= B) : OwnFrom B (CRl r bo bt b1 W0) := by
 intro pre X Y row hs hg hr
 obtain ⟨h1, h2, h3, h4⟩ := hs
 exact ⟨h1.keptc hg (fun r e => (hr r e).2), h2.keptc hg (fun r e => (hr r e).2), h3.keptb hg (fun r e => Nat.le_trans hB (hr r e).1), Nat.le_trans h4 hg.size⟩
theorem u8lt (a : UInt8) : a.toNat < 256 := a.toNat_lt
theorem tabL_get (i : UInt8) : tabL[i.toNat]'(by rw [tabL_len]; exact u8lt i) = cst i.toUInt32 := by
 simp only [tabL, List.getElem_map, List.getElem_range]
 congr 1
 apply UInt32.toNat_inj.1
 rw [UInt8.toNat_toUInt32, UInt32.toNat_ofNat']
 have := u8lt i
 omega
theorem crcU_snoc (r : UInt32) (pre : Bts) (x : UInt8) : crcU r (pre ++ [x]) = (crcU r pre >>> 8) ^^^ cst ((crcU r pre).toUInt8 ^^^ x).toUInt32 := by
 unfold crcU
 rw [List.foldl_append]
 rfl
theorem crl_put {r : UInt32} {bo bt b1 : Nat} {W0 W : World} {pre : Bts} {x : UInt8} {y : UInt32} (h : CRl r bo bt b1 W0 pre W) (hy : crcU r (pre ++ [x]) = y) (hne : bo ≠ bt) (hbo : W0.heap.size <= bo) :
 KeepsFrom b1 W (W.setCell ⟨bo, 0, none⟩ (.int .u32 (y.toNat : Int))).drew /\ KpP b1 (fun b => b = bo) W (W.setCell ⟨bo, 0, none⟩ (.int .u32 (y.toNat : Int))).drew /\ CRl r bo bt b1 W0 (pre ++ [x]) (W.setCell ⟨bo, 0, none⟩ (.int .u32 (y.toNat : Int))).drew := by
 obtain ⟨h1, h2, h3, h4⟩ := h
 have hd : Ext (W.setCell ⟨bo, 0, none⟩ (.int .u32 (y.toNat : Int))) (W.setCell ⟨bo, 0, none⟩ (.int .u32 (y.toNat : Int))).drew := (Ext.refl _).drew
 have hs1 : W.heap.size <= (W.setCell ⟨bo, 0, none⟩ (.int .u32 (y.toNat : Int))).heap.size := by simp
 refine ⟨((KeepsOthers.setCell W ⟨bo, 0, none⟩ _).trans hd.keeps).from _, KpP.trans (KpP.setCell (S := fun b => b = bo) (KpP.refl _ _ _) (.inl rfl) _ _) (KpP.of_ext (Nat.le_trans h4 hs1) hd), ?_, (h2.far (fun e => hne (by simpa using e.symm)) _).ext hd, (h3.setCell hbo _).trans hd, Nat.le_trans (Nat.le_trans h4 hs1) hd.size⟩
 rw [hy]
 exact (h1.set0 _).ext hd
set_option maxRecDepth 100000 in
set_option maxHeartbeats 16000000 in
theorem update_any (r : UInt32) (s : Bts) (w : World) (h : s.length <= 1000000) :
 Calls Tryz.prog 302 #[.int .u32 r.toNat, strV s] w fun e w' => e = .returned (.int .u32 (crcU r s).toNat) /\ Ext w w' := by
 obtain ⟨Z, hZ⟩ : ∃ Z, tabV (List.replicate 256 0) = Z := ⟨_, rfl⟩
 have hz := (zero_of_info (P := Tryz.prog) tab_info).1
 rw [hZ] at hz
 have hZs : Z.size = 256 := by rw [<- hZ, tabV_size]; simp
 have HZ := Lib.hid hZ
 clear hZ
 obtain ⟨W1, hW1, hB1, hk1, hl1⟩ := box1 w #[.int .u32 (r.toNat : Int)] 335
 have f1 := fun w => table_any w
 have f2 := fun w => bytes_any s w
 have hs3 := fun B n₁ S w kb hB => bytes_stops B n₁ S s w h kb hB
 obtain ⟨sv, hsv⟩ : ∃ sv, strV s = sv := ⟨_, rfl⟩
 rw [hsv] at f2 hs3 ⊢
 clear hsv h
 refine (callsIn_wide (n := 5)).1 ?_
 refine callsIn_of_wp_marks Tryz.func302 rfl trivial ?_ rfl
 refine wpIn_wide.2 ?_
 refine Code.wp_mono NoPanic.imp ?_
 simp only [Tryz.ntmps302, List.size_toArray, List.length_cons, List.length_nil, Nat.reduceAdd, Nat.reduceSub, Array.replicate_succ, Array.replicate_zero, List.push_toArray, List.append_toArray, List.nil_append, List.cons_append]
 go_wp2_with fail
 clear hW1
 refine (f1 _).mono ?_
 clear f1
 rintro e w2 ⟨rfl, hb2⟩
 obtain ⟨W3, hW3, hB3, hk3, hl3⟩ := box1 w2 Z 445
 go_wp2_with (first | (refine wpList_storeT (T := List.replicate 256 0) rfl rfl rfl rfl (by rw [HZ.out]; exact hk3) (by simp) tabL_len ?_; intro W4 hg4 hk4))
 have hE24 : Ext w2 W4 := hB3.keptb hg4 (by rintro r ⟨rfl⟩; exact Nat.le_refl _)
 have kb4 := (hk1.ext hb2).ext hE24
 have hs24 := hE24.size
 have l4 := hk4.lt
 clear hW3 hg4
 refine (f2 _).mono ?_
 clear f2
 rintro e w8 ⟨rfl, hb8, hs8, z1⟩
 go_wp2_with fail
 have hs12 := hb2.size
 refine (wpIn_wide (n := 5)).1 ?_
 refine wpIn_rangeFunc_ownH rfl (by omega) (gf := 337) (lb := #[.pointer (some ⟨W4.heap.size, 0, none⟩)]) rfl trivial (enters_of Tryz.func337 (by kernel_rfl) rfl)
  (hs3 W4.heap.size w8.heap.size (fun b => b = w.heap.size) w8 z1 ⟨by omega, by omega⟩)
  KpP.trans (fun W l o o' hl _ _ _ => KpP.put W l o' hl) (Below.refl _ _) (fun _ => rfl)
  (CRl r w.heap.size w2.heap.size w8.heap.size w) (fun _ _ _ => False) (crl_own (by have := hB1.size; have := hb8.size; omega)) (fun _ _ _ _ _ hs _ _ => hs)
  ⟨kb4.ext hb8, hk4.ext hb8, ((hB1.trans hb2).trans hE24).trans hb8, Nat.le_refl _⟩
  (fun x a' _ => a' = { tmps := #[.int .u32 (r.toNat : Int), sv, .pointer (some ⟨w.heap.size, 0, none⟩), undef, .int .u32 0, .pointer (some ⟨w2.heap.size, 0, none⟩), .int .u8 (x.toNat : Int), .agg (tabV tabL), sv, .func (.func 337) #[] #[.pointer (some ⟨W4.heap.size, 0, none⟩)], .int .u8 (x.toNat : Int), undef, undef, undef, undef, undef, undef, undef, undef, undef, undef], defers := [] }) (fun _ _ _ _ _ _ hs _ _ => hs) ?assign ?body ?done ?stop
 case assign =>
  rintro li pre x W K hi hK
  simp only [byV]
  gi_wp2
  exact hK _ _ (KeepsFrom.refl _ _) (KpP.refl _ _ _) hi rfl
 case body =>
  rintro li pre x a' W hl _ hC rfl hlen
  obtain ⟨h1, h2, h3, h4⟩ := id hC
  have hsn := crcU_snoc r pre x
  obtain ⟨c, hc⟩ : ∃ c, crcU r pre = c := ⟨_, rfl⟩
  rw [hc] at h1 hsn
  obtain ⟨c1, hc1⟩ : ∃ c1, c >>> 8 = c1 := ⟨_, rfl⟩
  obtain ⟨c2, hc2⟩ : ∃ c2, c.toUInt8 = c2 := ⟨_, rfl⟩
  obtain ⟨ix, hix⟩ : ∃ ix, c2 ^^^ x = ix := ⟨_, rfl⟩
  obtain ⟨t, ht⟩ : ∃ t, cst ix.toUInt32 = t := ⟨_, rfl⟩
  obtain ⟨y, hy⟩ : ∃ y, c1 ^^^ t = y := ⟨_, rfl⟩
  rw [hc1, hc2, hix, ht, hy] at hsn
  have q1 : (c.toNat : Int) / 256 = (c1.toNat : Int) := by
   have h9 : (c >>> 8).toNat = c.toNat / 256 := by rw [UInt32.toNat_shiftRight, Nat.shiftRight_eq_div_pow]; rfl
   rw [<- hc1, h9]
   rfl
  have q2 : (c.toNat : Int) % 256 = (c2.toNat : Int) := by
   rw [<- hc2]
   rfl
  have q5 : IntKind.u8.wrap (c.toNat : Int) = (c2.toNat : Int) := by rw [IntKind.wrap_u8']; exact q2
  have q3 : bits .xor .u8 (c2.toNat : Int) (x.toNat : Int) = (ix.toNat : Int) := by rw [u8_xor_nat _ _ (u8lt _) (u8lt _), <- UInt8.toNat_xor, hix]
  have q4 : bits .xor .u32 (c1.toNat : Int) (t.toNat : Int) = (y.toNat : Int) := by rw [u32_xor, hy]
  have hiL : ix.toNat < tabL.length := by rw [tabL_len]; exact u8lt ix
  have a3 := (h2.cell ix.toNat).trans (tabV_get hiL)
  rw [tabL_get, ht] at a3
  have hPUT := Lib.hid (crl_put hC hsn (show w.heap.size ≠ w2.heap.size by omega) (Nat.le_refl _))
  have i2 : ix.toNat < 256 := u8lt ix
  generalize ix.toNat = n at *
  have i0 : (0 : Int) <= (n : Int) := by omega
  have i1 : (n : Int) < 256 := by omega
  have a1 := h1.cell
  have a2 := h1.lt
  have a4 := h2.lt
  have a5 := h1.frozen
  clear hc hc1 hc2 hix ht hy hsn hiL hC h1 h2
  gi_wp2_with fail
  gi_region
  all_goals
   have FIN := hPUT.out
   clear hPUT a1 a2 a3 a4 a5
   generalize (World.setCell W ⟨w.heap.size, 0, none⟩ (.int .u32 (y.toNat : Int))).drew = WX at *
   gi_wp2
   exact FIN
 case stop =>
  rintro D c pre W _ _ h _
  exact h.elim
 case done =>
  rintro D xs W hDD hF ⟨h1, h2, h3, h4⟩ hK
  obtain rfl : xs = s := hF
  have hd2 := (DSx.nil w8.heap.size w.heap.size W).cons hDD (by have := h3.size; have := hB1.size; have := hb8.size; omega) hK
  clear hK
  have a1 := h1.cell
  have a2 := h1.lt
  go_wp2_with fail
  show LeavesInM _ _ _ _ _ _ _ .returning _
  refine hd2.leaves ?_
  intro w' hw'
  have hfin := hw' (fun W => Ext w W) (fun s X Y row hs hg hr => hs.keptb hg (fun r e => (hr r e).1)) h3
  exact ⟨_, results_tmp rfl _ _ _, rfl, hfin⟩
end
section
open Go.RowKit Go.Shelf
attribute [local go_sem] Oper.semAt_some
set_option maxHeartbeats 1000000 in
theorem Sum_any (s : Bts) (w : World) (h : s.length <= 1000000) :
 Calls Tryz.prog 251 #[strV s] w fun e w' => e = .returned (.int .i64 (crcS s).toNat) /\ Ext w w' := by
 have f1 := fun w => update_any 4294967295 s w h
 have q1 := u32_xor (crcU 4294967295 s) 4294967295
 obtain ⟨n, hn⟩ : ∃ n, crcS s = n := ⟨_, rfl⟩
 have hn2 : crcU 4294967295 s ^^^ 4294967295 = n := hn
 rw [hn2] at q1
 rw [hn]
 generalize crcU 4294967295 s = u at *
 rw [show (((4294967295 : UInt32).toNat : Nat) : Int) = 4294967295 from rfl] at *
 have q2 : (n.toNat : Int) < 4294967296 := by have := u32lt n; omega
 obtain ⟨sv, hsv⟩ : ∃ sv, strV s = sv := ⟨_, rfl⟩
 rw [hsv] at f1 ⊢
 clear hsv hn hn2
 go_enter Tryz.func251, Tryz.ntmps251
 go_wp2_with fail
 refine (f1 _).mono ?_
 clear f1
 rintro e w1 ⟨rfl, hb1⟩
 go_wp2
 go_ret
 exact ⟨rfl, hb1⟩
set_option maxRecDepth 100000 in
set_option maxHeartbeats 4000000 in
theorem tail_any (s : Bts) (w : World) (h : s.length <= 1000000) :
 Calls Tryz.prog 189 #[strV s] w fun e w' => e = .returned (strV (ctail s)) /\ Ext w w' := by
 have f1 := fun w => Sum_any s w h
 have HT := Lib.hid (show ctail s = [(crcS s).toUInt8, (crcS s >>> 8).toUInt8, (crcS s >>> 16).toUInt8, (crcS s >>> 24).toUInt8] from rfl)
 generalize crcS s = n at *
 have hsh : ∀ k : Nat, k < 32 -> ((n >>> (UInt32.ofNat k)).toNat) = n.toNat / 2 ^ k := fun k hk => by
  rw [UInt32.toNat_shiftRight, Nat.shiftRight_eq_div_pow, UInt32.toNat_ofNat']
  congr 2
  omega
 have h8 := hsh 8 (by omega)
 have h16 := hsh 16 (by omega)
 have h24 := hsh 24 (by omega)
 obtain ⟨m1, e1⟩ : ∃ m, n >>> 8 = m := ⟨_, rfl⟩
 obtain ⟨m2, e2⟩ : ∃ m, n >>> 16 = m := ⟨_, rfl⟩
 obtain ⟨m3, e3⟩ : ∃ m, n >>> 24 = m := ⟨_, rfl⟩
 rw [e1, e2, e3] at HT
 have h8 : m1.toNat = n.toNat / 256 := by rw [<- e1]; exact h8
 have h16 : m2.toNat = n.toNat / 65536 := by rw [<- e2]; exact h16
 have h24 : m3.toNat = n.toNat / 16777216 := by rw [<- e3]; exact h24
 have hw : ∀ (x : UInt32) (k : UInt8), x.toUInt8 = k -> IntKind.u8.wrap (x.toNat : Int) = (k.toNat : Int) := fun x k hk => by rw [IntKind.wrap_u8', <- hk]; rfl
 obtain ⟨n0, g0⟩ : ∃ k, n.toUInt8 = k := ⟨_, rfl⟩
 obtain ⟨n1, g1⟩ : ∃ k, m1.toUInt8 = k := ⟨_, rfl⟩
 obtain ⟨n2, g2⟩ : ∃ k, m2.toUInt8 = k := ⟨_, rfl⟩
 obtain ⟨n3, g3⟩ : ∃ k, m3.toUInt8 = k := ⟨_, rfl⟩
 have p0 := hw _ _ g0
 have p1 := hw _ _ g1
 have p2 := hw _ _ g2
 have p3 := hw _ _ g3
 rw [g0, g1, g2, g3] at HT
 have s1 : (n.toNat : Int) / 256 = (m1.toNat : Int) := by rw [h8]; rfl
 have s2 : (n.toNat : Int) / 65536 = (m2.toNat : Int) := by rw [h16]; rfl
 have s3 : (n.toNat : Int) / 16777216 = (m3.toNat : Int) := by rw [h24]; rfl
 obtain ⟨sv, hsv⟩ : ∃ sv, strV s = sv := ⟨_, rfl⟩
 rw [hsv] at f1 ⊢
 clear hsv e1 e2 e3 g0 g1 g2 g3 hw hsh h8 h16 h24
 go_enter Tryz.func189, Tryz.ntmps189
 go_wp2_with fail
 refine (f1 _).mono ?_
 clear f1
 rintro e w1 ⟨rfl, hb1⟩
 obtain ⟨W2, hW2, hB2, hk2, hl2⟩ := box1 w1 #[.int .u8 (n0.toNat : Int), .int .u8 (n1.toNat : Int), .int .u8 (n2.toNat : Int), .int .u8 (n3.toNat : Int)] 5
 have hR : Rd EB W2 (some ⟨w1.heap.size, 0, none⟩) [n0, n1, n2, n3] := rd_blk hk2
 have q1 := conv_str (P := Tryz.prog) W2 22 9 5 (some ⟨w1.heap.size, 0, none⟩) 4 [n0, n1, n2, n3] Tryz.underlying22 Tryz.underlying5 Tryz.underlying9 hR
 simp only [List.length_cons, List.length_nil, Nat.zero_add, Nat.reduceAdd] at q1
 obtain ⟨tv, htv⟩ : ∃ tv, strV [n0, n1, n2, n3] = tv := ⟨_, rfl⟩
 have HTV := Lib.hid htv
 rw [htv] at q1
 clear htv
 go_wp2
 go_ret
 exact ⟨by rw [HT.out, HTV.out]; rfl, hb1.trans hB2⟩
set_option maxRecDepth 100000 in
set_option maxHeartbeats 4000000 in
theorem Seal_any (s : Bts) (w : World) (h : s.length <= 65536) :
 Calls Tryz.prog 108 #[strV s] w fun e w' => e = .returned (.tuple #[strV (sealB s), .int .i64 0]) /\ Ext w w' := by
 have f1 := fun w => Text_any s w h
 have hv := vint_len (s.length : Int)
 have f2 := fun w => tail_any (vtext s) w (by unfold vtext; rw [List.length_append]; omega)
 have HS := Lib.hid (show sealB s = vtext s ++ ctail (vtext s) from rfl)
 have hle : (vtext s).length + (ctail (vtext s)).length <= 9223372036854775807 := by
  unfold vtext ctail
  simp only [List.length_append, List.length_cons, List.length_nil]
  omega
 have q := bap (vtext s) (ctail (vtext s))
 generalize vtext s = t at *
 generalize ctail t = c at *
 have HSv := Lib.hid (show strV (sealB s) = .string ⟨(t ++ c).toArray⟩ by rw [HS.out]; rfl)
 rw [HSv.out]
 generalize strV s = sv at *
 unfold strV at f1 f2
 go_enter Tryz.func108, Tryz.ntmps108
 go_wp2_with fail
 refine (f1 _).mono ?_
 clear f1
 rintro e w1 ⟨rfl, hb1⟩
 go_wp2_with fail
 refine (f2 _).mono ?_
 clear f2
 rintro e w2 ⟨rfl, hb2⟩
 go_wp2
 go_ret2
 exact ⟨rfl, hb1.trans hb2⟩
end
section
open Go.RowKit Go.Shelf
attribute [local go_sem] Oper.semAt_some
theorem sealB_len (s : Bts) : (sealB s).length <= s.length + 14 := by
 have := vint_len (s.length : Int)
 unfold sealB vtext ctail
 simp only [List.length_append, List.length_cons, List.length_nil]
 omega
theorem vtext_len (s : Bts) : (vtext s).length <= s.length + 10 := by
 have := vint_len (s.length : Int)
 unfold vtext
 rw [List.length_append]
 omega
theorem blErr_ok {b : Bl} (h : b.err = 0) : (1 <= b.kind /\ b.kind <= 255) /\ (0 <= b.flags /\ b.flags <= 15) /\ b.data.length <= 1024 := by
 unfold Bl.err at h
 split at h
 ·omega
 ·split at h
  ·omega
  ·split at h
   ·omega
   ·omega
theorem blEnc_len {b : Bl} (h : b.err = 0) : b.enc.length <= 1100 := by
 obtain ⟨_, _, h3⟩ := blErr_ok h
 unfold Bl.enc
 have h4 := sealB_len (vint b.kind ++ vint b.flags ++ vtext b.data)
 have h5 := vint_len b.kind
 have h6 := vint_len b.flags
 have h7 := vtext_len b.data
 simp only [List.length_append] at h4
 omega
theorem str_name (l : Bts) : ∃ ba : ByteArray, (⟨l.toArray⟩ : ByteArray) = ba /\ strV l = .string ba /\ ba.size = l.length := ⟨_, rfl, rfl, by show l.toArray.size = l.length; simp⟩
set_option maxRecDepth 100000 in
set_option maxHeartbeats 8000000 in
theorem blEnc_any (b : Bl) (w : World) (h : b.err = 0) :
 Calls Tryz.prog 188 #[.agg #[.int .i64 b.kind, .int .i64 b.flags, strV b.data]] w fun e w' => e = .returned (.tuple #[strV b.enc, .int .i64 0]) /\ Ext w w' := by
 obtain ⟨h1, h2, h3⟩ := blErr_ok h
 have f0 := fun w => blChk_any b w
 rw [h] at f0
 have f1 := fun w => Int_any b.kind w ⟨by omega, by omega⟩
 have f2 := fun w => Int_any b.flags w ⟨by omega, by omega⟩
 have f3 := fun w => Text_any b.data w (by omega)
 have l1 := vint_len b.kind
 have l2 := vint_len b.flags
 have l3 := vtext_len b.data
 have f4 := fun w => Seal_any (vint b.kind ++ vint b.flags ++ vtext b.data) w (by simp only [List.length_append]; omega)
 have q1 := bap (vint b.kind) (vint b.flags)
 have q2 := bap (vint b.kind ++ vint b.flags) (vtext b.data)
 have HE := Lib.hid (show b.enc = sealB (vint b.kind ++ vint b.flags ++ vtext b.data) from rfl)
 obtain ⟨n1, hn1⟩ : ∃ l, vint b.kind = l := ⟨_, rfl⟩
 obtain ⟨n2, hn2⟩ : ∃ l, vint b.flags = l := ⟨_, rfl⟩
 obtain ⟨n3, hn3⟩ : ∃ l, vtext b.data = l := ⟨_, rfl⟩
 rw [hn1] at f1 l1 f4 q1 q2 HE
 rw [hn2] at f2 l2 f4 q1 q2 HE
 rw [hn3] at f3 l3 f4 q2 HE
 obtain ⟨a1, ha1, hv1, hs1⟩ := str_name n1
 obtain ⟨a2, ha2, hv2, hs2⟩ := str_name n2
 obtain ⟨a3, ha3, hv3, hs3⟩ := str_name n3
 obtain ⟨a4, ha4, hv4, hs4⟩ := str_name (n1 ++ n2)
 obtain ⟨a5, ha5, hv5, hs5⟩ := str_name (n1 ++ n2 ++ n3)
 rw [ha1, ha2, ha4] at q1
 rw [ha4, ha3, ha5] at q2
 rw [hv1] at f1
 rw [hv2] at f2
 rw [hv3] at f3
 rw [hv5] at f4
 have z1 : a1.size + a2.size <= 9223372036854775807 := by omega
 have z2 : a4.size + a3.size <= 9223372036854775807 := by rw [List.length_append] at hs4; omega
 obtain ⟨sv, hsv⟩ : ∃ sv, strV (sealB (n1 ++ n2 ++ n3)) = sv := ⟨_, rfl⟩
 rw [hsv] at f4
 have HV := Lib.hid (show strV b.enc = sv by rw [HE.out, hsv])
 obtain ⟨ba, hba, _⟩ := strV_str b.data
 rw [hba] at f0 f3 ⊢
 obtain ⟨W, hW, hB, hk, hlt⟩ := box1 w #[.int .i64 b.kind, .int .i64 b.flags, .string ba] 116
 have hc := hk.cell
 clear h l1 l2 l3 hn1 hn2 hn3 ha1 ha2 ha3 ha4 ha5 hv1 hv2 hv3 hv4 hv5 hs1 hs2 hs3 hs4 hs5 hsv hba h1 h2 h3
 rw [HV.out]
 go_enter Tryz.func188, Tryz.ntmps188
 go_wp2_with fail
 clear hW
 refine (f0 _).mono ?_
 rintro e w1 ⟨rfl, hb1⟩
 have hx1 := hb1
 have c1 := (hk.ext hx1).cell
 have e1 := (hk.ext hx1).lt
 clear hc
 go_wp2_with fail
 refine (f1 _).mono ?_
 rintro e w2 ⟨rfl, hb2⟩
 have hx2 := hx1.trans hb2
 have c2 := (hk.ext hx2).cell
 have e2 := (hk.ext hx2).lt
 clear c1 e1
 go_wp2_with fail
 refine (f2 _).mono ?_
 rintro e w3 ⟨rfl, hb3⟩
 have hx3 := hx2.trans hb3
 have c3 := (hk.ext hx3).cell
 have e3 := (hk.ext hx3).lt
 clear c2 e2
 go_wp2_with fail
 refine (f3 _).mono ?_
 rintro e w4 ⟨rfl, hb4⟩
 clear c3 e3
 go_wp2_with fail
 refine (f4 _).mono ?_
 rintro e w5 ⟨rfl, hb5⟩
 go_wp2
 go_ret2
 exact ⟨rfl, (hB.trans hx3).trans (hb4.trans hb5)⟩
def ptrs (B : Nat) : Array Value := #[.pointer (some ⟨B, 0, none⟩), .pointer (some ⟨B, 1, none⟩), .pointer (some ⟨B, 2, none⟩), .pointer (some ⟨B, 3, none⟩), .pointer (some ⟨B, 4, none⟩), .pointer (some ⟨B, 5, none⟩), .pointer (some ⟨B, 6, none⟩), .pointer (some ⟨B, 7, none⟩), .pointer (some ⟨B, 8, none⟩), .pointer (some ⟨B, 9, none⟩)]
theorem ptrs_sets (B : Nat) : arrSets #[.pointer none, .pointer none, .pointer none, .pointer none, .pointer none, .pointer none, .pointer none, .pointer none, .pointer none, .pointer none] 0 (ptrs B).toList = ptrs B := by
 simp [arrSets, ptrs]
theorem ptrs_index (B k : Nat) (hk : k < 10) (w : World) : (Instr.index 203 (.agg (ptrs B)) (.int .i64 (k : Int))).run Tryz.prog w = .ok (.pointer (some ⟨B, k, none⟩)) w := by
 have h : k = 0 ∨ k = 1 ∨ k = 2 ∨ k = 3 ∨ k = 4 ∨ k = 5 ∨ k = 6 ∨ k = 7 ∨ k = 8 ∨ k = 9 := by omega
 rcases h with rfl | rfl | rfl | rfl | rfl | rfl | rfl | rfl | rfl | rfl
 all_goals simp [Instr.index, run_underlying Tryz.underlying203, asIntOf, ptrs, part, go_sem, Tryz.sizeOf202]
set_option maxRecDepth 100000 in
set_option maxHeartbeats 8000000 in
theorem numbers_any (B : Nat) (w : World) (hB : B < w.heap.size) :
 Calls Tryz.prog 105 #[.pointer (some ⟨B, 0, none⟩)] w fun e w' => e = .returned (.agg (ptrs B)) /\ Ext w w' := by
 obtain ⟨W, hW, hB1, hk, hlt⟩ := box1 w #[.pointer none, .pointer none, .pointer none, .pointer none, .pointer none, .pointer none, .pointer none, .pointer none, .pointer none, .pointer none] 203
 have hc := hk.cell
 have hf := hk.frozen
 have hBW : B < W.heap.size := Nat.lt_of_lt_of_le hB hB1.size
 go_enter Tryz.func105, Tryz.ntmps105
 go_wp2_with fail
 clear hW
 go_region
 have hS := Blk.ext (Blk.setCells_ (ptrs B).toList hk 0) (Ext.refl _).drew
 rw [ptrs_sets] at hS
 have hE : Ext w (W.setCells w.heap.size 0 (ptrs B).toList).drew := (ext_setCells hB1 (Nat.le_refl _) 0 _).drew
 change Exit.then _ _ Exit.normal _ (W.setCells w.heap.size 0 (ptrs B).toList).drew
 generalize (W.setCells w.heap.size 0 (ptrs B).toList).drew = W2 at *
 clear hc hf hk
 go_wp2
 refine bodyPost_ret (results_cell_row rfl _ _ w.heap.size 203 (ptrs B) (0, 0) _ rfl hS Tryz.underlying203 rfl (by kernel_rfl)) rfl ?_
 exact ⟨rfl, hE⟩
end
section
open Go.RowKit Go.Shelf
attribute [local go_sem] Oper.semAt_some
theorem strV_nil : strV [] = .string ⟨#[]⟩ := rfl
theorem kSum_any (key : Bts) (w : World) :
 Calls Tryz.prog 124 #[strV key, .string ⟨#[]⟩] w fun e w' => (∃ t, e = .returned (.tuple #[strV t, .int .i64 (if key.length = 16 then 0 else 1)])) /\ Ext w w' := by
 have f1 := fun w h => tag_any key [] w h (by simp)
 obtain ⟨n, hn⟩ : ∃ n, key.length = n := ⟨_, rfl⟩
 have hsz := bsize_mk key
 rw [hn] at hsz f1 ⊢
 obtain ⟨ka, hka⟩ : ∃ ka : ByteArray, ⟨key.toArray⟩ = ka := ⟨_, rfl⟩
 have hkv : strV key = .string ka := by unfold strV; rw [hka]
 rw [hka] at hsz
 rw [hkv] at f1 ⊢
 rw [strV_nil] at f1
 by_cases h16 : n = 16
 ·subst h16
  have f2 := fun w => f1 w rfl
  have HT := Lib.hid (show ∃ T, tagB key [] = T from ⟨_, rfl⟩)
  obtain ⟨tv, htv⟩ : ∃ tv, strV (tagB key []) = tv := ⟨_, rfl⟩
  have HV := Lib.hid htv
  rw [htv] at f2
  clear f1 htv hka hn
  rw [if_pos rfl]
  go_enter Tryz.func124, Tryz.ntmps124
  go_wp2_with fail
  refine (f2 _).mono ?_
  clear f2
  rintro e w1 ⟨rfl, hb1⟩
  go_wp2
  go_ret2
  exact ⟨⟨_, by rw [HV.out]; rfl⟩, hb1⟩
 ·have hb : (((n : Int) != 16) = true) := by
   rw [bne_iff_ne]
   omega
  rw [if_neg h16]
  clear f1 hka hn hkv
  go_enter Tryz.func124, Tryz.ntmps124
  go_wp2
  go_ret2
  exact ⟨⟨[], rfl⟩, Ext.refl _⟩
theorem wpList_appendEq {P : Program} {w w' : World} {ops : Array Oper} {rest : List Oper} {o : Oper} {a : Act} {Q : Exit -> Act -> World -> Prop} (hgd : o.guard = none) (sl x : Operand) (t u : TypeId)
 (ho : o.op = .call { callee := .builtin .append, args := #[sl, x], argTypes := #[t, u] }) {v xv v' : Value} (hs : a.eval sl = v) (hx : a.eval x = xv)
 (hr : (Builtin.append_ #[t, u] o.type #[v, xv]).run P w = .ok v' w') (h : wpList P ops Q rest (a.put o.dst v') w') : wpList P ops Q (o :: rest) a w := by
 refine wpList_plain hgd fun K hK => ?_
 unfold Oper.wp execOp
 simp only [ho, resolve, invoke, builtin, Sem.run_bind, Sem.run_pure, Result.andThen_ok, List.map_toArray, List.map_cons, List.map_nil, hs, hx, hr]
 exact hK _ _ h
def EStr : Elt Bts := ⟨fun s => [strV s], 1, fun _ => rfl, by omega, fun x u hu => by simp at hu; subst hu; rfl⟩
theorem Rd.str {w : World} {A : Option Addr} {l : List Bts} (h : Rd EStr w A l) {k : Nat} (hk : k < l.length) : ∃ b o, A = some ⟨b, o, none⟩ /\ b < w.heap.size /\ w.cell? ⟨b, o + k, none⟩ = some (strV l[k]) := by
 obtain ⟨b, o, rfl, hb, hc⟩ := h.at hk
 refine ⟨b, o, rfl, hb, ?_⟩
 have h0 := hc 0 _ rfl
 have e9 : EStr.size = 1 := rfl
 rw [e9, Nat.mul_one, Nat.add_zero] at h0
 exact h0
theorem chainB_snoc (l : List Bts) (x : Bts) : chainB (l ++ [x]) = chainB l ++ (wby (UInt64.ofNat x.length) ++ x) := by simp [chainB]
theorem chainB_take {l : List Bts} {k : Nat} (h : k < l.length) : chainB (l.take (k + 1)) = chainB (l.take k) ++ wby (UInt64.ofNat l[k].length) ++ l[k] := by
 rw [<- List.take_append_getElem h, chainB_snoc, List.append_assoc]
theorem chainB_mono (l : List Bts) (k : Nat) : (chainB (l.take k)).length <= (chainB l).length := by
 have e : chainB l = chainB (l.take k) ++ chainB (l.drop k) := by
  unfold chainB
  rw [<- List.flatMap_append, List.take_append_drop]
 rw [e, List.length_append]
 omega
theorem wby_length (m : UInt64) : (wby m).length = 8 := by simp [wby]
theorem append_strO (w : World) (ty : TypeId) (base : Nat) (v : Value) (l s : Bts) (ho : Owns EB w base 5 v l) (hn : l.length + s.length <= 1000000) (hb : base <= w.heap.size) :
 ∃ v' w', (Builtin.append_ #[22, 9] ty #[v, strV s]).run Tryz.prog w = .ok v' w' /\ Owns EB w' base 5 v' (l ++ s) /\ w.grownBy w' v.ownBlock := by
 obtain ⟨i0, hi0, hz0, hz1, hz2⟩ := info_parts info_byte
 have hs := bsize_mk s
 obtain ⟨v', w', h1, h2, h3, _⟩ := Go.Lib.run_append_own_string (P := Tryz.prog) w base 22 9 ty 5 i0 Tryz.underlying22 Tryz.underlying9 hi0 hz0 hz1 hz2 v l.length (EB.all l) ho ⟨s.toArray⟩ (by rw [hs]; simp only [maxLen]; omega) (by rw [hs]; omega) hb
 refine ⟨v', w', h1, ?_, h3⟩
 rw [hs, strCells_mk, <- eb_all, <- EB.all_append, <- List.length_append] at h2
 exact h2
set_option maxRecDepth 100000 in
set_option maxHeartbeats 16000000 in
theorem chain_any (key : Bts) (A : Option Addr) (cc : Nat) (l : List Bts) (w : World) (hk : key.length = 16) (hR : Rd EStr w A l) (hl : (chainB l).length <= 65536) (hll : l.length <= 1000) :
 Calls Tryz.prog 125 #[strV key, .slice A l.length cc] w fun e w' => e = .returned (.tuple #[strV (tagB key (chainB l)), .int .i64 0]) /\ Ext w w' := by
 have f1 := fun w => tag_any key (chainB l) w hk hl
 have hsz := bsize_mk key
 obtain ⟨ka, hka⟩ : ∃ ka : ByteArray, ⟨key.toArray⟩ = ka := ⟨_, rfl⟩
 have hkv : strV key = .string ka := by unfold strV; rw [hka]
 rw [hka, hk] at hsz
 rw [hkv] at f1 ⊢
 clear hka hkv hk
 go_enter Tryz.func125, Tryz.ntmps125
 go_wp2_with fail
 go_loopg [6, 14] l.length (fun n u v wr => ∃ k : Nat, k + n = l.length /\ v = .int .i64 k /\ Owns EB wr w.heap.size 5 u (chainB (l.take k)) /\ Ext w wr)
 case atStart => exact ⟨0, by omega, by go_num, Owns.none_ _ _, Ext.refl _⟩
 case round =>
  obtain ⟨k, hkn, rfl, ho, hE⟩ := hrel
  have Hkn := Lib.hid hkn
  by_cases hlt : k < l.length
  ·obtain ⟨b, o, rfl, hb, hc⟩ := (hR.ext hE).str hlt
   have hT := chainB_take hlt
   have hM := chainB_mono l (k + 1)
   have hM0 := chainB_mono l k
   obtain ⟨x, hx⟩ : ∃ x, l[k] = x := ⟨_, rfl⟩
   rw [hx] at hc hT
   obtain ⟨P, hP⟩ : ∃ P, chainB (l.take k) = P := ⟨_, rfl⟩
   rw [hP] at ho hT hM0
   have hlen : P.length + 8 + x.length <= 65536 := by
    rw [hT, List.length_append, List.length_append, wby_length] at hM
    omega
   have HT := Lib.hid hT
   obtain ⟨xn, hxn⟩ : ∃ n, x.length = n := ⟨_, rfl⟩
   have hxs := bsize_mk x
   obtain ⟨xa, hxa⟩ : ∃ xa : ByteArray, ⟨x.toArray⟩ = xa := ⟨_, rfl⟩
   have hxv : strV x = .string xa := by unfold strV; rw [hxa]
   rw [hxa, hxn] at hxs
   rw [hxv] at hc
   rw [hxn] at hlen HT
   obtain ⟨A1, c1, rfl, hR1⟩ := ho.form
   obtain ⟨pn, hpn⟩ : ∃ n, P.length = n := ⟨_, rfl⟩
   rw [hpn] at hlen
   have fa := appendWord_any (.slice A1 P.length c1) P (UInt64.ofNat xn) w.heap.size wr ho (by omega) hE.size
   obtain ⟨y, hy⟩ : ∃ y, UInt64.ofNat xn = y := ⟨_, rfl⟩
   rw [hy] at fa HT
   have hyn : y.toNat = xn := by rw [<- hy, UInt64.toNat_ofNat']; omega
   rw [hpn] at fa ho ⊢
   rw [hyn] at fa
   have Hpn := Lib.hid hpn
   have Hxn := Lib.hid hxn
   have HXV := Lib.hid hxv
   have d1 : decide ((65536 : Int) < (xn : Int)) = false := decide_eq_false (by omega)
   have d2 : decide ((65536 : Int) < (pn : Int) + 8 + (xn : Int)) = false := decide_eq_false (by omega)
   clear hT hM hM0 hx hP hxn hpn hxa hxv hy hkn
   go_wp2_with fail
   refine fa.mono ?_
   clear fa
   rintro e w2 ⟨u2, rfl, ho2, hg2⟩
   have hE2 := ext_grown hE ho (Nat.le_refl _) hg2
   obtain ⟨v3, w3, q3, ho3, hg3⟩ := append_strO w2 22 w.heap.size u2 (P ++ wby y) x ho2 (by rw [List.length_append, wby_length, Hpn.out, Hxn.out]; omega) hE2.size
   rw [HXV.out] at q3
   have hE3 := ext_grown hE2 ho2 (Nat.le_refl _) hg3
   clear hc
   go_wp2_with (at_builtin; refine wpList_appendEq rfl (.tmp 34) (.tmp 35) _ _ (by rfl) (by rfl) (by rfl) q3 ?_)
   go_roundg (gk - 1)
   case measure => have := Hkn.out; omega
   case rel => exact ⟨k + 1, by have := Hkn.out; omega, by go_num, by rw [HT.out]; exact ho3, hE3⟩
  ·obtain rfl : k = l.length := by omega
   rw [List.take_length] at ho
   obtain ⟨A9, c9, rfl, hR9⟩ := ho.form
   have q1 := conv_str (P := Tryz.prog) wr 22 9 5 A9 c9 (chainB l) Tryz.underlying22 Tryz.underlying5 Tryz.underlying9 hR9
   have hf := f1 wr
   generalize strV (chainB l) = sv at *
   generalize (chainB l).length = m at *
   go_wp2_with fail
   refine hf.mono ?_
   rintro e w2 ⟨rfl, hb2⟩
   go_wp2
   go_ret2
   exact ⟨rfl, hE.trans hb2⟩
end
section
open Go.RowKit Go.Shelf
attribute [local go_sem] Oper.semAt_some
theorem str_cat (a b : Bts) {x y z : ByteArray} (h1 : (⟨a.toArray⟩ : ByteArray) = x) (h2 : (⟨b.toArray⟩ : ByteArray) = y) (h3 : (⟨(a ++ b).toArray⟩ : ByteArray) = z) : x ++ y = z := by
 rw [<- h1, <- h2, <- h3, bap]
set_option maxRecDepth 100000 in
set_option maxHeartbeats 16000000 in
theorem encAll_any (A : Option Addr) (cc : Nat) (l : List Bl) (w : World) (hR : Rd EBl w A l) (hv : blksE l = 0) :
 Calls Tryz.prog 107 #[.slice A l.length cc] w fun e w' => e = .returned (.tuple #[strV (encAll l), .int .i64 0]) /\ Ext w w' := by
 obtain ⟨h8, hok, hasc⟩ := blksE_ok.1 hv
 have f1 := fun w => Int_any (l.length : Int) w ⟨by omega, by omega⟩
 have hl0 := vint_len (l.length : Int)
 have HE := Lib.hid (show encAll l = vint l.length ++ l.flatMap Bl.enc from rfl)
 obtain ⟨v0, hv0⟩ : ∃ v, vint (l.length : Int) = v := ⟨_, rfl⟩
 rw [hv0] at f1 hl0
 rw [show vint (l.length : Int) = v0 from hv0] at HE
 have HOK := Lib.hid hok
 have HASC := Lib.hid hasc
 clear hv hok hasc hv0
 go_enter Tryz.func107, Tryz.ntmps107
 go_wp2_with fail
 refine (f1 _).mono ?_
 clear f1
 rintro e w1 ⟨rfl, hb1⟩
 go_wp2_with fail
 go_loopg [4, 21] l.length (fun n u v wr => ∃ (k : Nat) (out : Bts), k + n = l.length /\ v = .int .i64 k /\ u = strV out /\ Hid (out = v0 ++ (l.take k).flatMap Bl.enc) /\ Hid (out.length <= 10 + k * 1100) /\ Ext w wr)
 case atStart => exact ⟨0, v0, by omega, by go_num, rfl, Lib.hid (by simp), Lib.hid (by omega), hb1⟩
 case round =>
  obtain ⟨k, out, hkn, rfl, rfl, ho, hol, hE⟩ := hrel
  have Hkn := Lib.hid hkn
  clear hkn
  by_cases hlt : k < l.length
  ·obtain ⟨b, o, rfl, hb, c0, c1, c2⟩ := (hR.ext hE).bl hlt
   have hyok := HOK.out _ (List.getElem_mem hlt)
   have hen := fun w => blEnc_any l[k] w hyok
   have hel := blEnc_len hyok
   have hnx : Hid (out ++ l[k].enc = v0 ++ (l.take (k + 1)).flatMap Bl.enc) := Lib.hid (by rw [ho.out, <- List.take_append_getElem hlt, List.flatMap_append]; simp)
   have hprev : ∀ j (h : j + 1 = k), (l[j]'(by omega)).kind < l[k].kind := fun j h => List.pairwise_iff_getElem.1 HASC.out j k (by omega) hlt (by omega)
   obtain ⟨y, hy⟩ : ∃ y, l[k] = y := ⟨_, rfl⟩
   rw [hy] at c0 c1 c2 hen hnx hprev hel
   obtain ⟨ba, hba, _⟩ := strV_str y.data
   rw [hba] at c2 hen
   obtain ⟨kd, hkd⟩ : ∃ kd, y.kind = kd := ⟨_, rfl⟩
   obtain ⟨fl, hfl⟩ : ∃ fl, y.flags = fl := ⟨_, rfl⟩
   obtain ⟨E, hEn⟩ : ∃ E, y.enc = E := ⟨_, rfl⟩
   rw [hkd, hfl, hEn] at hen
   rw [hkd] at c0 hprev
   rw [hfl] at c1
   rw [hEn] at hnx hel
   obtain ⟨oa, hoa, hov, hos⟩ := str_name out
   obtain ⟨ea, hea, hev, hes⟩ := str_name E
   obtain ⟨za, hza, hzv, hzs⟩ := str_name (out ++ E)
   have q1 := str_cat out E hoa hea hza
   have z1 : oa.size + ea.size <= 9223372036854775807 := by have := hol.out; omega
   have hnl : Hid ((out ++ E).length <= 10 + (k + 1) * 1100) := Lib.hid (by rw [List.length_append]; have := hol.out; omega)
   have HZV := Lib.hid hzv
   rw [hev] at hen
   rw [hov]
   obtain ⟨W1, hW1, hB1, hk1, hl1⟩ := box1 wr #[.int .i64 kd, .int .i64 fl, .string ba] 116
   have d1 := hk1.cell
   have hxE := hE.trans hB1
   clear hy hba hkd hfl hEn hoa hea hza hos hes hzs hov hev hzv hel hyok
   by_cases hk0 : k = 0
   ·subst hk0
    clear hprev
    simp only [Nat.zero_mul, Nat.add_zero] at c0 c1 c2
    go_wp2_with fail
    clear hW1 c0 c1 c2
    refine (hen _).mono ?_
    clear hen
    rintro e w2 ⟨rfl, hb2⟩
    go_wp2_with fail
    go_region
    go_wp2
    go_roundg (gk - 1)
    case measure => have := Hkn.out; omega
    case rel => exact ⟨1, out ++ E, by have := Hkn.out; omega, by go_num, HZV.out.symm, hnx, hnl, (hxE.trans hb2).drew⟩
   ·obtain ⟨j, rfl⟩ : ∃ j, k = j + 1 := ⟨k - 1, by omega⟩
    have hpv := hprev j rfl
    go_wp2_with fail
    clear hW1 c0 c1 c2
    refine (hen _).mono ?_
    clear hen
    rintro e w2 ⟨rfl, hb2⟩
    have hE2 := hxE.trans hb2
    obtain ⟨b', o', e', _, p0, _, _⟩ := (hR.ext hE2).bl (k := j) (by omega)
    injection e' with e'
    injection e' with e1 e2
    subst e1 e2
    have n1 := (hk1.ext hb2).cell
    have n2 := (hk1.ext hb2).lt
    have hb2' := Nat.lt_of_lt_of_le hb (Nat.le_trans hB1.size hb2.size)
    clear d1 hprev
    generalize (l[j]'(by omega)).kind = pk at *
    have dk : decide (kd <= pk) = false := decide_eq_false (by omega)
    have hj8 : j + 1 < 9 := by omega
    go_wp2_with fail
    go_region
    go_wp2
    go_roundg (gk - 1)
    case measure => have := Hkn.out; omega
    case rel => exact ⟨j + 1 + 1, out ++ E, by have := Hkn.out; omega, by go_num, HZV.out.symm, hnx, hnl, hE2.drew⟩
  ·obtain rfl : k = l.length := by have := Hkn.out; omega
   have HF := Lib.hid (show out = encAll l by rw [ho.out, HE.out, List.take_length])
   obtain ⟨oa, hoa, hov, hos⟩ := str_name out
   have HOV := Lib.hid hov
   rw [hov]
   clear hov hoa hos
   go_wp2
   go_ret2
   exact ⟨by rw [<- HF.out, HOV.out]; rfl, hE⟩
end
section
open Go.RowKit Go.Shelf
attribute [local go_sem] Oper.semAt_some
set_option maxHeartbeats 2000000 in
theorem rem_any (A : Option Addr) (c : Nat) (l : List Bl) (k : Int) (w : World) (hA : Rd EBl w A l) (hmax : l.length <= 1000000) :
 Calls Tryz.prog 210 #[.slice A l.length c, .int .i64 k] w fun e w' => ∃ u, e = .returned u /\ Owns EBl w' w.heap.size 116 u (remK l k) /\ Ext w w' := by
 obtain ⟨W1, hW1, hB1, hk1, hl1⟩ := box1 w #[.int .i64 k] 3
 have hi := filter_any A c l 272 #[.pointer (some ⟨w.heap.size, 0, none⟩)] (fun x => decide (x.kind ≠ k)) W1 (hA.ext hB1) hmax (remove1_pred w.heap.size k W1 hk1)
 rw [show l.filter (fun x => decide (x.kind ≠ k)) = remK l k from rfl] at hi
 obtain ⟨m, hm⟩ : ∃ m, remK l k = m := ⟨_, rfl⟩
 rw [hm] at hi ⊢
 clear hm
 go_enter Tryz.func210, Tryz.ntmps210
 go_wp2_with fail
 clear hW1
 refine hi.mono ?_
 rintro e w2 ⟨u, rfl, ho, hb2⟩
 have hz := hB1.size
 obtain ⟨A2, c2, rfl, hR2⟩ := ho.form
 go_wp2
 go_ret
 exact ⟨_, rfl, ho.mono hz, hB1.trans hb2⟩
theorem valid_any (A : Option Addr) (c : Nat) (l : List Bl) (w : World) (hA : Rd EBl w A l) (hv : blksE l = 0) :
 Calls Tryz.prog 130 #[.slice A l.length c] w fun e w' => e = .returned (.bool true) /\ Ext w w' := by
 have hi := encAll_any A c l w hA hv
 generalize strV (encAll l) = sv at *
 go_enter Tryz.func130, Tryz.ntmps130
 go_wp2_with fail
 refine hi.mono ?_
 rintro e w2 ⟨rfl, hb2⟩
 go_wp2
 go_ret
 exact ⟨rfl, hb2⟩
theorem put1_pred (g : Nat) (b : Bl) (w : World) (hg : Blk w g 116 #[.int .i64 b.kind, .int .i64 b.flags, strV b.data]) : PredB w 133 #[.pointer (some ⟨g, 0, none⟩)] (fun x => decide (x.kind < b.kind)) := by
 refine ⟨enters_of Tryz.func133 (by kernel_rfl) rfl, fun x w1 hw => ?_⟩
 obtain ⟨ba, hba, -⟩ := strV_str x.data
 rw [hba]
 obtain ⟨kd, hkd⟩ : ∃ kd, x.kind = kd := ⟨_, rfl⟩
 obtain ⟨fl, hfl⟩ : ∃ fl, x.flags = fl := ⟨_, rfl⟩
 rw [hkd, hfl]
 obtain ⟨W, hW, hB, hk, hlt⟩ := box1 w1 #[.int .i64 kd, .int .i64 fl, .string ba] 116
 have hc := hk.cell
 have hd := ((hg.ext hw).ext hB).cell
 have he := ((hg.ext hw).ext hB).lt
 obtain ⟨k, hkk⟩ : ∃ k, b.kind = k := ⟨_, rfl⟩
 rw [hkk] at hd ⊢
 obtain ⟨r, hr⟩ : ∃ r, decide (kd < k) = r := ⟨_, rfl⟩
 rw [hr]
 clear hkd hfl hba
 go_enter Tryz.func133, Tryz.ntmps133
 go_wp2
 go_ret
 exact ⟨rfl, hB⟩
theorem put2_pred (g : Nat) (b : Bl) (w : World) (hg : Blk w g 116 #[.int .i64 b.kind, .int .i64 b.flags, strV b.data]) : PredB w 134 #[.pointer (some ⟨g, 0, none⟩)] (fun x => decide (b.kind < x.kind)) := by
 refine ⟨enters_of Tryz.func134 (by kernel_rfl) rfl, fun x w1 hw => ?_⟩
 obtain ⟨ba, hba, -⟩ := strV_str x.data
 rw [hba]
 obtain ⟨kd, hkd⟩ : ∃ kd, x.kind = kd := ⟨_, rfl⟩
 obtain ⟨fl, hfl⟩ : ∃ fl, x.flags = fl := ⟨_, rfl⟩
 rw [hkd, hfl]
 obtain ⟨W, hW, hB, hk, hlt⟩ := box1 w1 #[.int .i64 kd, .int .i64 fl, .string ba] 116
 have hc := hk.cell
 have hd := ((hg.ext hw).ext hB).cell
 have he := ((hg.ext hw).ext hB).lt
 obtain ⟨k, hkk⟩ : ∃ k, b.kind = k := ⟨_, rfl⟩
 rw [hkk] at hd ⊢
 obtain ⟨r, hr⟩ : ∃ r, decide (k < kd) = r := ⟨_, rfl⟩
 rw [hr]
 clear hkd hfl hba
 go_enter Tryz.func134, Tryz.ntmps134
 go_wp2
 go_ret
 exact ⟨rfl, hB⟩
theorem putK_app (l : List Bl) (b : Bl) : putK l b = l.filter (fun x => decide (x.kind < b.kind)) ++ [b] ++ l.filter (fun x => decide (b.kind < x.kind)) := by
 unfold putK
 simp
def PutC (m : List Bl) (base : Nat) (w0 : World) (u : Value) (w : World) : Prop := ∃ A c, u = .slice A m.length c /\ Owns EBl w base 116 (.slice A m.length c) m /\ Ext w0 w
def PutR (l : List Bl) (b : Bl) (w : World) (e : Ending) (w' : World) : Prop :=
 (b.err ≠ 0 /\ e = .returned (.tuple #[.slice none 0 0, .int .i64 b.err])) ∨
 (b.err = 0 /\ 8 < (putK l b).length /\ e = .returned (.tuple #[.slice none 0 0, .int .i64 4])) ∨
 (b.err = 0 /\ (putK l b).length <= 8 /\ ∃ u, e = .returned (.tuple #[u, .int .i64 0]) /\ Owns EBl w' w.heap.size 116 u (putK l b))
set_option maxRecDepth 100000 in
set_option maxHeartbeats 16000000 in
theorem put_any (A : Option Addr) (c : Nat) (l : List Bl) (b : Bl) (w0 : World) (hA : Rd EBl w0 A l) (hv : blksE l = 0) :
 Calls Tryz.prog 50 #[.slice A l.length c, .agg #[.int .i64 b.kind, .int .i64 b.flags, strV b.data]] w0 fun e w' => PutR l b w0 e w' /\ Ext w0 w' := by
 have hll := (blksE_ok.1 hv).1
 obtain ⟨W1, hW1, hB1, hk1, hl1⟩ := box1 w0 #[.int .i64 b.kind, .int .i64 b.flags, strV b.data] 116
 have f0 := fun w h => valid_any A c l w h hv
 have f1 := fun w => blChk_any b w
 have f2 := fun w h hg => filter_any A c l 133 #[.pointer (some ⟨w0.heap.size, 0, none⟩)] (fun x => decide (x.kind < b.kind)) w h (by omega) (put1_pred w0.heap.size b w hg)
 have f3 := fun w h hg => filter_any A c l 134 #[.pointer (some ⟨w0.heap.size, 0, none⟩)] (fun x => decide (b.kind < x.kind)) w h (by omega) (put2_pred w0.heap.size b w hg)
 have hpk := putK_app l b
 have hm1l := List.length_filter_le (fun x : Bl => decide (x.kind < b.kind)) l
 have hm2l := List.length_filter_le (fun x : Bl => decide (b.kind < x.kind)) l
 obtain ⟨m1, hm1⟩ : ∃ m, l.filter (fun x => decide (x.kind < b.kind)) = m := ⟨_, rfl⟩
 obtain ⟨m2, hm2⟩ : ∃ m, l.filter (fun x => decide (b.kind < x.kind)) = m := ⟨_, rfl⟩
 rw [hm1] at f2 hpk hm1l
 rw [hm2] at f3 hpk hm2l
 clear hm1 hm2
 obtain ⟨ba, hba, -⟩ := strV_str b.data
 obtain ⟨er, her⟩ : ∃ er, b.err = er := ⟨_, rfl⟩
 have HER := Lib.hid her
 have hc1 := hk1.cell
 have hBA := Lib.hid hba
 rw [hba] at hW1 hc1 f1 ⊢
 rw [her] at f1
 clear her hba
 by_cases h0 : er = 0
 case neg =>
  have hn0 : (er != 0) = true := by rw [bne_iff_ne]; exact h0
  go_enter Tryz.func50, Tryz.ntmps50
  go_wp2_with fail
  clear hW1
  refine (f0 _ (hA.ext hB1)).mono ?_
  rintro e w2 ⟨rfl, hb2⟩
  have c2 := (hk1.ext hb2).cell
  have l2 := (hk1.ext hb2).lt
  rw [hBA.out] at c2
  clear hc1
  go_wp2_with fail
  refine (f1 _).mono ?_
  rintro e w3 ⟨rfl, hb3⟩
  go_wp2
  go_ret2
  exact ⟨.inl ⟨by rw [HER.out]; exact h0, by rw [HER.out]; rfl⟩, (hB1.trans hb2).trans hb3⟩
 subst h0
 have HPK := Lib.hid hpk
 have HM1 := Lib.hid hm1l
 have HM2 := Lib.hid hm2l
 have HLL := Lib.hid hll
 obtain ⟨i0, hi0, hz0, hz1, hz2⟩ := info_parts info_block
 have HCL := Lib.hid (show (EBl.cells b).toArray = #[.int .i64 b.kind, .int .i64 b.flags, .string ba] by show #[Value.int .i64 b.kind, .int .i64 b.flags, strV b.data] = _; rw [hBA.out])
 clear hpk hm1l hm2l hll
 go_enter Tryz.func50, Tryz.ntmps50
 go_wp2_with fail
 clear hW1
 refine (f0 _ (hA.ext hB1)).mono ?_
 rintro e w2 ⟨rfl, hb2⟩
 have c2 := (hk1.ext hb2).cell
 have l2 := (hk1.ext hb2).lt
 rw [hBA.out] at c2
 clear hc1
 go_wp2_with fail
 refine (f1 _).mono ?_
 rintro e w3 ⟨rfl, hb3⟩
 have hk3 := (hk1.ext hb2).ext hb3
 have c3 := hk3.cell
 have l3 := hk3.lt
 rw [hBA.out] at c3
 have hE3 := (hB1.trans hb2).trans hb3
 have hA3 := hA.ext hE3
 clear c2 l2 f0 f1
 have hz3 := hE3.size
 go_wp2_with fail
 go_cut [7] from 16 to 22 (fun u wx => PutC (m1 ++ [b]) w3.heap.size w3 u wx)
 case first =>
  have near : ∀ w', Ext w3 w' -> Ext w3 w' /\ ∀ b o, b < w3.heap.size -> w'.cell? ⟨b, o, none⟩ = w3.cell? ⟨b, o, none⟩ := fun w' h => ⟨h, fun b o hb => h.cell hb⟩
  refine wp_region_P (fun _ => false) (fun w' => Ext w3 w' /\ ∀ b o, b < w3.heap.size -> w'.cell? ⟨b, o, none⟩ = w3.cell? ⟨b, o, none⟩) (by kernel_rfl) (near _ (Ext.refl w3).drew) (fun _ => ?_)
  refine pT 0 (v := ?_) rfl (fun _ _ _ h => h) (by rfl) ?_ ?_
  rotate_left
  ·intro w'; go_simp; first | done | with_reducible rfl
  try simp only [Act.put, sp1]
  refine pT 1 (v := ?_) rfl (fun _ _ _ h => h) (by rfl) ?_ ?_
  rotate_left
  ·intro w'; go_simp; first | done | with_reducible rfl
  try simp only [Act.put, sp1]
  refine pK 3 (v := ?_) rfl (fun _ _ _ h => h) (by rfl) ?_ (by assumption) ?_
  rotate_left
  ·intro w' hw'
   (try have hC := hw'.2)
   (try have hC9 := hw'.1)
   go_simp
   first | done | with_reducible rfl
  try simp only [Act.put, sp1]
  refine wpAnyP_ready (rs := [2, 4]) (by kernel_rfl) (by simp) ?_
  refine AllReadyP.cons rfl (fun K hK => ?_) (AllReadyP.cons rfl (fun K hK => ?_) AllReadyP.nil)
  ·go_simp
   refine (f2 w3.drew (hA3.ext (Ext.refl w3).drew) (hk3.ext (Ext.refl w3).drew)).mono ?_
   rintro e w4 ⟨u4, rfl, ho4, hb4⟩
   have hx4 := (Ext.refl w3).drew.trans hb4
   replace ho4 : Owns EBl w4 w3.heap.size 116 u4 m1 := ho4
   obtain ⟨A4, c4, rfl, hR4⟩ := ho4.form
   have hz4 := hx4.size
   refine hK.out _ _ (fun _ _ => near _ hx4) ?_
   clear hK K
   refine pO 4 rfl (fun K hK => ?_)
   go_simp
   refine hK.out _ _ (fun _ _ => near _ (hx4.alloc _)) ?_
   clear hK K
   refine pO 5 rfl (fun K hK => ?_)
   refine step_push (y := b) (by rfl) (.tmp 18) (.tmp 20) _ (by rfl) w3.heap.size 116 i0 _ 32 Tryz.underlying27 hi0 hz0 hz1 hz2 (by rfl) (.slice A4 m1.length c4) (by rfl) (ho4.ext ((Ext.refl _).alloc _)) w4.heap.size (by rfl) (by rw [HCL.out]; exact Blk.new w4 _ _) (by have := HM1.out; have := HLL.out; simp only [maxLen]; omega) (by have := HM1.out; have := HLL.out; omega) (by simp; omega) ?_
   intro v6 w6 hv6 hg6 hat6
   have hx6 := ext_grown (hx4.alloc _) (ho4.ext ((Ext.refl _).alloc _)) (Nat.le_refl _) hg6
   obtain ⟨A6, c6, rfl, hR6⟩ := hv6.form
   refine hK.out _ _ (fun _ _ => near _ hx6) ?_
   clear hK K
   refine pT 6 (v := ?_) rfl (fun _ _ _ h => h) (by rfl) ?_ ?_
   rotate_left
   ·intro w'; go_simp; first | done | with_reducible rfl
   try simp only [Act.put, sp1]
   simp only [List.getElem_toArray, List.getElem_cons_succ, List.getElem_cons_zero, Act.put, sp1]
   refine wpAnyP_done (by kernel_rfl) ?_ _
   go_wp2
   go_meet
   exact ⟨A6, c6, by rw [List.length_append, List.length_singleton], hv6, hx6⟩
  ·obtain ⟨W5, hW5, hB5, hk5, hl5⟩ := box1 w3.drew #[.int .i64 b.kind, .int .i64 b.flags, .string ba] 116
   have hx5 := (Ext.refl w3).drew.trans hB5
   go_simp
   refine hK.out _ _ (fun _ _ => near _ hx5) ?_
   clear hK K hW5
   refine pO 2 rfl (fun K hK => ?_)
   go_simp
   refine (f2 W5 (hA3.ext hx5) (hk3.ext hx5)).mono ?_
   rintro e w4 ⟨u4, rfl, ho4, hb4⟩
   have hx4 := hx5.trans hb4
   have hz5 := hx5.size
   replace ho4 : Owns EBl w4 w3.heap.size 116 u4 m1 := ho4.mono hz5
   obtain ⟨A4, c4, rfl, hR4⟩ := ho4.form
   have hz4 := hx4.size
   have hk9 := hk5.ext hb4
   refine hK.out _ _ (fun _ _ => near _ hx4) ?_
   clear hK K
   refine pO 5 rfl (fun K hK => ?_)
   refine step_push (y := b) (by rfl) (.tmp 18) (.tmp 20) _ (by rfl) w3.heap.size 116 i0 _ 32 Tryz.underlying27 hi0 hz0 hz1 hz2 (by rfl) (.slice A4 m1.length c4) (by rfl) (ho4) w3.heap.size (by rfl) (by rw [HCL.out]; exact hk9) (by have := HM1.out; have := HLL.out; simp only [maxLen]; omega) (by have := HM1.out; have := HLL.out; omega) (by omega) ?_
   intro v6 w6 hv6 hg6 hat6
   have hx6 := ext_grown (hx4) (ho4) (Nat.le_refl _) hg6
   obtain ⟨A6, c6, rfl, hR6⟩ := hv6.form
   refine hK.out _ _ (fun _ _ => near _ hx6) ?_
   clear hK K
   refine pT 6 (v := ?_) rfl (fun _ _ _ h => h) (by rfl) ?_ ?_
   rotate_left
   ·intro w'; go_simp; first | done | with_reducible rfl
   try simp only [Act.put, sp1]
   simp only [List.getElem_toArray, List.getElem_cons_succ, List.getElem_cons_zero, Act.put, sp1]
   refine wpAnyP_done (by kernel_rfl) ?_ _
   go_wp2
   go_meet
   exact ⟨A6, c6, by rw [List.length_append, List.length_singleton], hv6, hx6⟩
 case rest =>
  obtain ⟨A4, c4, rfl, ho4, hx4⟩ := hcut
  have hE4 := hE3.trans hx4
  have hz4 := hx4.size
  have hk4 := hk3.ext hx4
  obtain ⟨n1, hn1⟩ : ∃ n, (m1 ++ [b]).length = n := ⟨_, rfl⟩
  rw [hn1] at ho4 ⊢
  have HN1 := Lib.hid hn1
  have hn18 : n1 <= 9 := by rw [<- hn1, List.length_append, List.length_singleton]; have := HM1.out; have := HLL.out; omega
  clear hn1 c3 l3
  go_wp2_with fail
  refine (f3 wc (hA3.ext hx4) hk4).mono ?_
  rintro e w5 ⟨u5, rfl, ho5, hb5⟩
  obtain ⟨A5, c5, rfl, hR5⟩ := ho5.form
  have ho45 := ho4.ext hb5
  have hz5 := hb5.size
  obtain ⟨n2, hn2⟩ : ∃ n, m2.length = n := ⟨_, rfl⟩
  rw [hn2]
  have HN2 := Lib.hid hn2
  have hn28 : n2 <= 8 := by rw [<- hn2]; have := HM2.out; have := HLL.out; omega
  have hlen : n1 + n2 = (putK l b).length := by rw [HPK.out, List.length_append, HN1.out, HN2.out]
  have HLN := Lib.hid hlen
  clear hn2 hlen
  obtain ⟨tot, htot⟩ : ∃ t, n1 + n2 = t := ⟨_, rfl⟩
  have HTOT := Lib.hid htot
  have htl : (m1 ++ [b]).length + m2.length = tot := by rw [HN1.out, HN2.out, htot]
  have HTL := Lib.hid htl
  clear htl
  by_cases h8 : 8 < tot
  ·have hd : decide ((8 : Int) < (tot : Int)) = true := decide_eq_true (by omega)
   clear htot
   go_wp2_with (at_builtin; refine wpList_cat (l := m1 ++ [b]) (m := m2) rfl (.tmp 22) (.tmp 25) _ (by rfl) w3.heap.size 116 i0 _ 32 Tryz.underlying27 hi0 hz0 hz1 hz2 (by rfl) (.slice A4 n1 c4) (by rfl) ho45 c5 n2 (by rfl) (by rw [HN2.out]) hR5 (by rw [HN1.out, HN2.out]; simp only [maxLen]; omega) (by rw [HN1.out, HN2.out]; omega) (by omega) ?_; intro v6 w6 hv6 hg6 hat6; obtain ⟨A6, c6, rfl, hR6⟩ := hv6.form; rw [List.length_append, HTL.out] at hv6 ⊢)
   go_ret2
   exact ⟨.inr (.inl ⟨HER.out, by rw [<- HLN.out, HTOT.out]; exact h8, rfl⟩), hE3.trans (ext_grown (hx4.trans hb5) ho45 (Nat.le_refl _) hg6)⟩
  ·have hd : decide ((8 : Int) < (tot : Int)) = false := decide_eq_false (by omega)
   clear htot
   go_wp2_with (at_builtin; refine wpList_cat (l := m1 ++ [b]) (m := m2) rfl (.tmp 22) (.tmp 25) _ (by rfl) w3.heap.size 116 i0 _ 32 Tryz.underlying27 hi0 hz0 hz1 hz2 (by rfl) (.slice A4 n1 c4) (by rfl) ho45 c5 n2 (by rfl) (by rw [HN2.out]) hR5 (by rw [HN1.out, HN2.out]; simp only [maxLen]; omega) (by rw [HN1.out, HN2.out]; omega) (by omega) ?_; intro v6 w6 hv6 hg6 hat6; obtain ⟨A6, c6, rfl, hR6⟩ := hv6.form; rw [List.length_append, HTL.out] at hv6 ⊢)
   go_ret2
   exact ⟨.inr (.inr ⟨HER.out, by rw [<- HLN.out, HTOT.out]; omega, _, rfl, by rw [HPK.out]; exact hv6.mono hz3⟩), hE3.trans (ext_grown (hx4.trans hb5) ho45 (Nat.le_refl _) hg6)⟩
end
section
open Go.RowKit Go.Shelf
attribute [local go_sem] Oper.semAt_some
theorem flatMap_len_le {α : Type} {f : α -> Bts} {m : Nat} : ∀ {l : List α}, (∀ x ∈ l, (f x).length <= m) -> (l.flatMap f).length <= m * l.length
 | [], _ => by simp
 | x :: l, h => by
   have h1 := h x (by simp)
   have h2 := flatMap_len_le (l := l) (fun y hy => h y (by simp [hy]))
   rw [List.flatMap_cons, List.length_append, List.length_cons, Nat.mul_add]
   omega
theorem encAll_len {l : List Bl} (hv : blksE l = 0) : (encAll l).length <= 8810 := by
 obtain ⟨h8, hok, _⟩ := blksE_ok.1 hv
 have h1 := flatMap_len_le (l := l) (f := Bl.enc) (m := 1100) (fun x hx => blEnc_len (hok x hx))
 have h2 := vint_len (l.length : Int)
 unfold encAll
 rw [List.length_append]
 have : 1100 * l.length <= 1100 * 8 := Nat.mul_le_mul_left _ h8
 omega
theorem buE_all {b : Bu} (h : buE b = 0) : idE b.src b.cr b.seq b.off b.tot = 0 /\ epE b.dk b.dn = 0 /\ (1 <= b.life /\ b.life <= 1099511627776 - b.cr) /\ (0 <= b.prio /\ b.prio <= 2) /\ flgE b.flags b.tot = 0 /\ blksE b.blocks = 0 /\ payE b.off b.tot b.pay.length = 0 := by
 unfold buE at h
 split at h
 ·rename_i h1; exact absurd h h1
 ·rename_i a1
  split at h
  ·rename_i h1; exact absurd h h1
  ·rename_i a2
   split at h
   ·omega
   ·rename_i a3
    split at h
    ·omega
    ·rename_i a4
     split at h
     ·rename_i h1; exact absurd h h1
     ·rename_i a5
      split at h
      ·rename_i h1; exact absurd h h1
      ·rename_i a6
       exact ⟨by simpa using a1, by simpa using a2, by omega, by omega, by simpa using a5, by simpa using a6, h⟩
theorem bu_nums {b : Bu} (h : buE b = 0) : ∀ n ∈ b.nums, -1152921504606846976 <= n /\ n <= 1152921504606846976 := by
 obtain ⟨h1, h2, h3, h4, h5, _, _⟩ := buE_all h
 have i1 : (0 <= b.src /\ b.src <= 15) /\ (0 <= b.cr /\ b.cr <= 1099511627776) /\ (0 <= b.seq /\ b.seq <= 1099511627776) := by
  unfold idE at h1
  split at h1
  ·omega
  ·omega
 obtain ⟨i2, i3, _⟩ := idE_ok h1
 have i4 : (b.dk = 1 ∨ b.dk = 2) /\ 0 <= b.dn /\ b.dn <= 16 := by
  unfold epE at h2
  split at h2
  ·split at h2 <;> omega
  ·split at h2
   ·split at h2 <;> omega
   ·omega
 have i5 : 0 <= b.flags /\ b.flags <= 127 := by
  unfold flgE at h5
  split at h5
  ·omega
  ·omega
 intro n hn
 simp only [Bu.nums, List.mem_cons, List.not_mem_nil, or_false] at hn
 rcases hn with rfl | rfl | rfl | rfl | rfl | rfl | rfl | rfl | rfl | rfl <;> omega
theorem bu_pay {b : Bu} (h : buE b = 0) : b.pay.length <= 4096 := by
 have := (buE_all h).2.2.2.2.2.2
 unfold payE at this
 split at this
 ·omega
 ·omega
theorem nums_cell (b : Bu) (A : Option Addr) (c k : Nat) (hk : k < b.nums.length) : (b.cells A c)[k]? = some (.int .i64 b.nums[k]) := by
 have h : k = 0 ∨ k = 1 ∨ k = 2 ∨ k = 3 ∨ k = 4 ∨ k = 5 ∨ k = 6 ∨ k = 7 ∨ k = 8 ∨ k = 9 := by
  have : b.nums.length = 10 := rfl
  omega
 rcases h with rfl | rfl | rfl | rfl | rfl | rfl | rfl | rfl | rfl | rfl <;> rfl
set_option maxRecDepth 100000 in
set_option maxHeartbeats 16000000 in
theorem buEnc_any (b : Bu) (A : Option Addr) (cap : Nat) (w : World) (hR : Rd EBl w A b.blocks) (hv : buE b = 0) :
 Calls Tryz.prog 32 #[.agg (b.cells A cap)] w fun e w' => e = .returned (.tuple #[strV b.enc, .int .i64 0]) /\ Ext w w' := by
 have f1 := fun w h => buChk_any b A cap w h
 rw [hv] at f1
 have f2 := fun w => Text_any [77, 66, 49] w (by simp)
 have hbl := (buE_all hv).2.2.2.2.2.1
 have f4 := fun w h => encAll_any A cap b.blocks w h hbl
 have hpl := bu_pay hv
 have f5 := fun w => Text_any b.pay w (by omega)
 have le := encAll_len hbl
 have lp := vtext_len b.pay
 have ln := bu_nums hv
 have HE := Lib.hid (show b.enc = sealB (vtext [77, 66, 49] ++ b.nums.flatMap vint ++ encAll b.blocks ++ vtext b.pay) from rfl)
 have l0 := vtext_len [77, 66, 49]
 have l1 := flatMap_len_le (l := b.nums) (f := vint) (m := 10) (fun x _ => vint_len x)
 have hnl : b.nums.length = 10 := rfl
 have hcl := nums_cell b A cap
 obtain ⟨T0, hT0⟩ : ∃ T, vtext [77, 66, 49] = T := ⟨_, rfl⟩
 obtain ⟨T1, hT1⟩ : ∃ T, encAll b.blocks = T := ⟨_, rfl⟩
 obtain ⟨T2, hT2⟩ : ∃ T, vtext b.pay = T := ⟨_, rfl⟩
 rw [hT0] at f2 HE l0
 rw [hT1] at f4 HE le
 rw [hT2] at f5 HE lp
 have f6 := fun w => Seal_any (T0 ++ b.nums.flatMap vint ++ T1 ++ T2) w (by simp only [List.length_append]; simp only [List.length_cons, List.length_nil] at l0; omega)
 obtain ⟨z0, hz0, hzv0, hzs0⟩ := str_name (T0 ++ b.nums.flatMap vint)
 obtain ⟨z1, hz1, hzv1, hzs1⟩ := str_name T1
 obtain ⟨z2, hz2, hzv2, hzs2⟩ := str_name T2
 obtain ⟨z3, hz3, hzv3, hzs3⟩ := str_name (T0 ++ b.nums.flatMap vint ++ T1)
 obtain ⟨z4, hz4, hzv4, hzs4⟩ := str_name (T0 ++ b.nums.flatMap vint ++ T1 ++ T2)
 have q1 := str_cat _ _ hz0 hz1 hz3
 have q2 := str_cat _ _ hz3 hz2 hz4
 simp only [List.length_append, List.length_cons, List.length_nil] at hzs0 hzs3 hzs4 l0
 have y1 : z0.size + z1.size <= 9223372036854775807 := by omega
 have y2 : z3.size + z2.size <= 9223372036854775807 := by omega
 rw [hzv1] at f4
 rw [hzv2] at f5
 rw [hzv4] at f6
 obtain ⟨sv, hsv⟩ : ∃ sv, strV (sealB (T0 ++ b.nums.flatMap vint ++ T1 ++ T2)) = sv := ⟨_, rfl⟩
 rw [hsv] at f6
 have HV := Lib.hid (show strV b.enc = sv by rw [HE.out, hsv])
 obtain ⟨t0, ht0, htv0, hts0⟩ := str_name T0
 rw [htv0] at f2
 have f2' : ∀ w, Calls Tryz.prog 104 #[.string ⟨#[77, 66, 49]⟩] w fun e w' => e = .returned (.tuple #[.string t0, .int .i64 0]) /\ Ext w w' := f2
 obtain ⟨ba, hba, -⟩ := strV_str b.pay
 rw [hba] at f5
 have HZ0 := Lib.hid hzv0
 have hT0l : T0.length <= 13 := by omega
 rw [HV.out]
 have f3 := fun B w h => numbers_any B w h
 have hpi := fun B k hk => ptrs_index B k hk
 obtain ⟨PS, hPS⟩ : ∃ PS, ptrs w.heap.size = PS := ⟨_, rfl⟩
 have f3' := f3 w.heap.size
 have hpi' := hpi w.heap.size
 rw [hPS] at f3' hpi'
 have hcnv := fun w => conv_bytes (P := Tryz.prog) w 9 22 5 T0 Tryz.underlying9 Tryz.underlying22 Tryz.underlying5 (by omega)
 rw [htv0] at hcnv
 have hcells : b.cells A cap = #[.int .i64 b.src, .int .i64 b.cr, .int .i64 b.seq, .int .i64 b.off, .int .i64 b.tot, .int .i64 b.dk, .int .i64 b.dn, .int .i64 b.life, .int .i64 b.prio, .int .i64 b.flags, .slice A b.blocks.length cap, .string ba] := by unfold Bu.cells; rw [hba]
 rw [hcells] at f1 hcl ⊢
 obtain ⟨W, hW, hB, hk, hlt⟩ := box1 w #[.int .i64 b.src, .int .i64 b.cr, .int .i64 b.seq, .int .i64 b.off, .int .i64 b.tot, .int .i64 b.dk, .int .i64 b.dn, .int .i64 b.life, .int .i64 b.prio, .int .i64 b.flags, .slice A b.blocks.length cap, .string ba] 29
 have hc := hk.cell
 have HCL := Lib.hid hcl
 have HLN := Lib.hid ln
 have HNL := Lib.hid hnl
 clear f2 f3 hpi hPS hT0 hT1 hT2 hz0 hz1 hz2 hz3 hz4 hzv0 hzv1 hzv2 hzv3 hzv4 hzs0 hzs1 hzs2 hzs3 hzs4 hsv ht0 htv0 hts0 hba hcells hcl ln hnl le lp l0 l1 hpl hv hbl
 go_enter Tryz.func32, Tryz.ntmps32
 go_wp2_with fail
 clear hW
 refine (f1 _ (hR.ext hB)).mono ?_
 clear f1
 rintro e w1 ⟨rfl, hb1⟩
 have hx1 := hb1
 have c1 := (hk.ext hx1).cell
 clear hc
 go_wp2_with fail
 refine (f2' _).mono ?_
 clear f2'
 rintro e w2 ⟨rfl, hb2⟩
 have hx2 := hx1.trans hb2
 obtain ⟨cp, w3, q3, ho3, hx3, -⟩ := hcnv w2
 have hx3' := hx2.trans hx3
 have e3 := (hk.ext hx3').lt
 clear c1 hcnv
 go_wp2_with fail
 refine (f3' _ e3).mono ?_
 clear f3'
 rintro e w4 ⟨rfl, hb4⟩
 clear q3
 go_wp2_with fail
 go_loopg [7, 28] 10 (fun n u v wr => ∃ k : Nat, k + n = 10 /\ v = .int .i64 k /\ OwnsB wr w2.heap.size 5 u (T0 ++ (b.nums.take k).flatMap vint) /\ Ext w2 wr)
 case atStart => exact ⟨0, rfl, by go_num, by simpa using ho3.ext hb4, hx3.trans hb4⟩
 case round =>
  obtain ⟨k, hkn, rfl, ho, hE⟩ := hrel
  have Hkn := Lib.hid hkn
  have hk10 : k <= 10 := by omega
  clear hkn
  have hxr := hx2.trans hE
  by_cases hlt : k < 10
  ·have hkl : k < b.nums.length := by rw [HNL.out]; exact hlt
   have a1 := ((hk.ext hxr).cell k).trans (HCL.out k hkl)
   have a2 := (hk.ext hxr).lt
   have fi := fun w => Int_any b.nums[k] w (HLN.out _ (List.getElem_mem hkl))
   have hst : Hid (T0 ++ (b.nums.take (k + 1)).flatMap vint = T0 ++ (b.nums.take k).flatMap vint ++ vint b.nums[k]) := Lib.hid (by rw [<- List.take_append_getElem hkl, List.flatMap_append]; simp)
   have hvl := vint_len b.nums[k]
   have hfl := flatMap_len_le (l := b.nums.take k) (f := vint) (m := 10) (fun x _ => vint_len x)
   have hpk := hpi' k hlt
   rw [List.length_take] at hfl
   obtain ⟨n, hn⟩ : ∃ n, b.nums[k] = n := ⟨_, rfl⟩
   rw [hn] at a1 fi hst hvl
   obtain ⟨V, hV⟩ : ∃ V, vint n = V := ⟨_, rfl⟩
   rw [hV] at fi hst hvl
   obtain ⟨P, hP⟩ : ∃ P, T0 ++ (b.nums.take k).flatMap vint = P := ⟨_, rfl⟩
   have hPl : P.length <= 1013 := by rw [<- hP, List.length_append]; omega
   rw [hP] at ho hst
   obtain ⟨i0, hi0, hz0, hz1, hz2⟩ := info_parts info_byte
   obtain ⟨va, hva, hvv, -⟩ := str_name V
   rw [hvv] at fi
   obtain ⟨A1, c1, rfl, hR1⟩ := ho.form
   clear hn hV hP hva hfl
   go_wp2_with fail
   clear a1 a2
   refine (fi _).mono ?_
   clear fi
   rintro e w5 ⟨rfl, hb5⟩
   obtain ⟨v6, w6, q6, ho6, hg6⟩ := run_append_stringB (P := Tryz.prog) w5 w2.heap.size 22 9 22 5 i0 Tryz.underlying22 Tryz.underlying9 hi0 hz0 hz1 hz2 _ P (ho.ext hb5) V (by omega) (by have := hb5.size; have := hE.size; omega)
   rw [hvv] at q6
   have hE6 : Ext w2 w6 := (hE.trans hb5).keptb hg6 (fun r e => (ho.block e).1)
   go_wp2_with (at_builtin; refine wpList_appendEq rfl (.tmp 38) (.tmp 39) _ _ (by rfl) (by rfl) (by rfl) q6 ?_)
   go_roundg (gk - 1)
   case measure => have := Hkn.out; omega
   case rel => exact ⟨k + 1, by have := Hkn.out; omega, by go_num, by rw [hst.out]; exact ho6, hE6⟩
  ·obtain rfl : k = 10 := by omega
   rw [show b.nums.take 10 = b.nums from rfl] at ho
   obtain ⟨FL, hFL⟩ : ∃ FL, T0 ++ b.nums.flatMap vint = FL := ⟨_, rfl⟩
   rw [hFL] at ho HZ0
   clear hFL
   obtain ⟨A1, c1, rfl, hR1⟩ := ho.form
   have hc := (hk.ext hxr).cell
   go_wp2_with fail
   refine (f4 _ ((hR.ext hB).ext hxr)).mono ?_
   clear f4
   rintro e w5 ⟨rfl, hb5⟩
   have hx5 := hxr.trans hb5
   have hc5 := (hk.ext hx5).cell
   have hl5 := (hk.ext hx5).lt
   clear hc
   go_wp2_with fail
   refine (f5 _).mono ?_
   clear f5
   rintro e w6 ⟨rfl, hb6⟩
   have hR6 := (hR1.ext hb5).ext hb6
   have q9 := conv_str (P := Tryz.prog) w6 22 9 5 A1 c1 FL Tryz.underlying22 Tryz.underlying5 Tryz.underlying9 hR6
   rw [HZ0.out] at q9
   clear hc5 hl5
   go_wp2_with fail
   refine (f6 _).mono ?_
   clear f6
   rintro e w7 ⟨rfl, hb7⟩
   go_wp2
   go_ret2
   exact ⟨rfl, (hB.trans hx5).trans (hb6.trans hb7)⟩
end
end Go.Proofs.YtemkpimngbbpkaaGreat

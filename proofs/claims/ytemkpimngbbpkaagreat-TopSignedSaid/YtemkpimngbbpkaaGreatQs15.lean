/- Security: the tag of a string under a key. · Security: the checksum of a string, and its frame. · Security: block.Encode; the numbers of a bundle. · Security: keyhash.Sum, keyhash.Chain. -/
import Derived.RangeFuncLeaves
import Derived.BigRegion
import Derived.Laws.Rows
import Derived.Laws.BytesString
import Derived.Test.YtemkpimngbbpkaaGreatQs05
import Derived.Test.YtemkpimngbbpkaaGreatQs08
import Derived.Test.YtemkpimngbbpkaaGreatQs10
import Derived.Test.YtemkpimngbbpkaaGreatQs13
import Derived.Test.YtemkpimngbbpkaaGreatQs14
namespace Go.Proofs.YtemkpimngbbpkaaGreat
set_option linter.unusedVariables false
set_option linter.unusedSimpArgs false
section
open Go.RowKit Go.Shelf
attribute [local go_sem] Oper.semAt_some
theorem OwnsB.rdB {w : World} {base : Nat} {e : TypeId} {A : Option Addr} {n c : Nat} {l : Bts} (h : OwnsB w base e (.slice A n c) l) : Rd EB w A l := by
 obtain ⟨A', c', e, hR⟩ := h.form
 injection e with e1 _ _
 subst e1
 exact hR
theorem slice_from {P : Program} (t : TypeId) (l : Bts) (k : Nat) (h : P.underlying t = some .string) (hk : k <= l.length) (w : World) :
 (Instr.slice t (strV l) (some (.int .i64 (k : Int))) none none).run P w = .ok (strV (l.drop k)) w := by
 have hs := bsize_mk l
 have h1 := run_slice_string_l w t (⟨l.toArray⟩ : ByteArray) h .i64 (k : Int) (by omega) (by rw [hs]; omega)
 unfold strV
 rw [h1, hs, Int.toNat_natCast, ByteArray.extract_mk]
 rw [List.take_of_length_le (by simp)]
theorem slice_mid {P : Program} (t : TypeId) (l : Bts) (i j : Nat) (h : P.underlying t = some .string) (hij : i <= j) (hj : j <= l.length) (w : World) :
 (Instr.slice t (strV l) (some (.int .i64 (i : Int))) (some (.int .i64 (j : Int))) none).run P w = .ok (strV ((l.drop i).take (j - i))) w := by
 have hs := bsize_mk l
 have h1 := run_slice_string w t (⟨l.toArray⟩ : ByteArray) .i64 .i64 (i : Int) (j : Int) h (by omega) (by omega) (by rw [hs]; omega)
 unfold strV
 rw [h1, Int.toNat_natCast, Int.toNat_natCast, ByteArray.extract_mk]
def QRl (v0 : Q4) (bo b1 : Nat) (W0 : World) (pre : List UInt64) (W : World) : Prop := Blk W bo 391 (pre.foldl Q4.word v0).cells /\ Ext W0 W /\ b1 <= W.heap.size
theorem qrl_own {v0 : Q4} {bo b1 B : Nat} {W0 : World} (hB : W0.heap.size <= B) : OwnFrom B (QRl v0 bo b1 W0) := by
 intro pre X Y row hs hg hr
 obtain ⟨h1, h3, h4⟩ := hs
 exact ⟨h1.keptc hg (fun r e => (hr r e).2), h3.keptb hg (fun r e => Nat.le_trans hB (hr r e).1), Nat.le_trans h4 hg.size⟩
theorem grown_trans {a b c : World} {row : Option Nat} (h : a.grownBy b row) (k : b.grownBy c row) : a.grownBy c row :=
 ⟨k.os.trans h.os, k.tape.trans h.tape, k.output.trans h.output, Nat.le_trans h.size k.size, fun i hi hne => (k.block i (Nat.lt_of_lt_of_le hi h.size) hne).trans (h.block i hi hne)⟩
theorem qrl_put {v0 : Q4} {bo b1 : Nat} {W0 W W' : World} {pre : List UInt64} {x : UInt64} (h : QRl v0 bo b1 W0 pre W) (hbo : W0.heap.size <= bo) (hk : Blk W' bo 391 ((pre ++ [x]).foldl Q4.word v0).cells) (hg : W.grownBy W' (some bo)) :
 KeepsFrom b1 W W' /\ KpQ (fun b => b = bo) W W' /\ QRl v0 bo b1 W0 (pre ++ [x]) W' := by
 obtain ⟨h1, h3, h4⟩ := h
 refine ⟨(KeepsOthers.of_grownBy hg (fun j o e ho => ?_)).from _, KpQ.grown hg (fun r e => by injection e with e; exact e.symm), hk, h3.keptb hg (fun r e => by injection e with e; omega), Nat.le_trans h4 hg.size⟩
 injection e with e
 subst e
 have h2 : W.heap[bo]? = some (.cells _ _ (0, 0)) := h1
 rw [h2] at ho
 injection ho with ho
 subst ho
 rfl
def rndK (v : Q4) : Nat -> Q4
 | 0 => v
 | k + 1 => (rndK v k).rnd
def KyX (a b : UInt64) (w : World) (x y : Value) (w' : World) : Prop := x = .int .u64 a.toNat /\ y = .int .u64 b.toNat /\ Ext w w'
set_option maxRecDepth 100000 in
set_option maxHeartbeats 32000000 in
theorem tag_any (key s : Bts) (w : World) (hk : key.length = 16) (hs : s.length <= 65536) :
 Calls Tryz.prog 207 #[strV key, strV s] w fun e w' => e = .returned (strV (tagB key s)) /\ Ext w w' := by
 obtain ⟨kd, hkd⟩ : ∃ kd, key.drop 8 = kd := ⟨_, rfl⟩
 have hd8 : kd.length = 8 := by rw [<- hkd, List.length_drop, hk]
 have Hk := Lib.hid (show key.length = 16 from hk)
 have Hd := Lib.hid hd8
 have HT := Lib.hid (show tagB key s = wby ((wordsL s).foldl Q4.word (q0 key)).fin from rfl)
 have hq0 : q0 key = ⟨wrd key ^^^ 0x736f6d6570736575, wrd kd ^^^ 0x646f72616e646f6d, wrd key ^^^ 0x6c7967656e657261, wrd kd ^^^ 0x7465646279746573⟩ := by rw [<- hkd]; rfl
 have q8 : ∀ w, (Instr.slice 9 (strV key) (some (.int .i64 8)) none none).run Tryz.prog w = .ok (strV kd) w := fun w => by
  rw [<- hkd]
  exact slice_from 9 key 8 Tryz.underlying9 (by omega) w
 obtain ⟨ka, hka⟩ : ∃ ka : ByteArray, ⟨key.toArray⟩ = ka := ⟨_, rfl⟩
 obtain ⟨kb, hkb⟩ : ∃ kb : ByteArray, ⟨kd.toArray⟩ = kb := ⟨_, rfl⟩
 have ksz : ka.size = 16 := by rw [<- hka, bsize_mk, hk]
 have kex : ka.extract 8 16 = kb := by
  rw [<- hka, <- hkb, <- hkd, ByteArray.extract_mk]
  rw [List.take_of_length_le (by rw [List.length_drop, hk]; omega)]
 unfold strV at q8
 rw [hka, hkb] at q8
 have f2 := fun w => words_any s w
 have hs3 := fun B S w kb hB hS => words_stops B S s w hs kb hB hS
 obtain ⟨sv, hsv⟩ : ∃ sv, strV s = sv := ⟨_, rfl⟩
 rw [hsv] at f2 hs3 ⊢
 rw [show strV key = .string ka by unfold strV; rw [hka]]
 obtain ⟨ra, hra⟩ : ∃ ra, wrd key = ra := ⟨_, rfl⟩
 obtain ⟨rb, hrb⟩ : ∃ rb, wrd kd = rb := ⟨_, rfl⟩
 rw [hra, hrb] at hq0
 have HKA := Lib.hid hra
 have HKB := Lib.hid hrb
 obtain ⟨a0, ha0⟩ : ∃ x, ra ^^^ 0x736f6d6570736575 = x := ⟨_, rfl⟩
 obtain ⟨b0, hb0⟩ : ∃ x, rb ^^^ 0x646f72616e646f6d = x := ⟨_, rfl⟩
 obtain ⟨c0, hc0⟩ : ∃ x, ra ^^^ 0x6c7967656e657261 = x := ⟨_, rfl⟩
 obtain ⟨d0, hd0⟩ : ∃ x, rb ^^^ 0x7465646279746573 = x := ⟨_, rfl⟩
 have x1 : bits .xor .u64 (ra.toNat : Int) 8317987319222330741 = (a0.toNat : Int) := by rw [<- ha0]; exact u64_xor ra 0x736f6d6570736575
 have x2 : bits .xor .u64 (rb.toNat : Int) 7237128888997146477 = (b0.toNat : Int) := by rw [<- hb0]; exact u64_xor rb 0x646f72616e646f6d
 have x3 : bits .xor .u64 (ra.toNat : Int) 7816392313619706465 = (c0.toNat : Int) := by rw [<- hc0]; exact u64_xor ra 0x6c7967656e657261
 have x4 : bits .xor .u64 (rb.toNat : Int) 8387220255154660723 = (d0.toNat : Int) := by rw [<- hd0]; exact u64_xor rb 0x7465646279746573
 rw [ha0, hb0, hc0, hd0] at hq0
 rw [hq0] at HT
 clear hsv hkd hk hd8 ha0 hb0 hc0 hd0 hq0 hra hrb hs
 refine (callsIn_wide (n := 5)).1 ?_
 refine callsIn_of_wp_marks Tryz.func207 rfl trivial ?_ rfl
 refine wpIn_wide.2 ?_
 refine Code.wp_mono NoPanic.imp ?_
 simp only [Tryz.ntmps207, List.size_toArray, List.length_cons, List.length_nil, Nat.reduceAdd, Nat.reduceSub, Array.replicate_succ, Array.replicate_zero, List.push_toArray, List.append_toArray, List.nil_append, List.cons_append]
 go_wp2_with fail
 go_cut [5, 6] from 9 to 16 (fun x y wx => KyX ra rb w x y wx)
 case first =>
  refine wp_region_P (fun _ => false) (fun w' => Ext w w') (by kernel_rfl) (Ext.refl w).drew (fun _ => ?_)
  refine pT 0 (v := ?_) rfl (fun _ _ _ h => h) (by rfl) ?_ ?_
  rotate_left
  ·intro w'; go_simp; first | done | with_reducible rfl
  try simp only [Act.put, sp1]
  refine pT 3 (v := ?_) rfl (fun _ _ _ h => h) (by rfl) ?_ ?_
  rotate_left
  ·intro w'; go_simp; first | done | with_reducible rfl
  try simp only [Act.put, sp1]
  refine pT 4 (v := ?_) rfl (fun _ _ _ h => h) (by rfl) ?_ ?_
  rotate_left
  ·intro w'; go_simp; first | done | with_reducible rfl
  try simp only [Act.put, sp1]
  refine wpAnyP_ready (rs := [1, 5]) (by kernel_rfl) (by simp) ?_
  refine AllReadyP.cons rfl (fun K hK => ?_) (AllReadyP.cons rfl (fun K hK => ?_) AllReadyP.nil)
  ·obtain ⟨c1, w1, q1, ho1, hx1, -⟩ := conv_bytes (P := Tryz.prog) w.drew 9 22 5 key Tryz.underlying9 Tryz.underlying22 Tryz.underlying5 (by have := Hk.out; have := Hd.out; omega)
   unfold strV at q1
   rw [hka] at q1
   have hr1 := ho1.rdB
   go_simp
   refine hK.out _ _ (fun _ _ => ((Ext.refl w).drew).trans hx1) ?_
   clear hK K
   refine wpAnyP_ready (rs := [2, 5]) (by kernel_rfl) (by simp) ?_
   refine AllReadyP.cons rfl (fun K hK => ?_) (AllReadyP.cons rfl (fun K hK => ?_) AllReadyP.nil)
   ·go_simp
    refine (word_any _ _ key w1 hr1 (by have := Hk.out; have := Hd.out; omega)).mono ?_
    rintro e w9 ⟨rfl, rfl⟩
    refine hK.out _ _ (fun _ h => h) ?_
    clear hK K
    refine pO 5 rfl (fun K hK => ?_)
    obtain ⟨c3, w3, q3, ho3, hx3, -⟩ := conv_bytes (P := Tryz.prog) w1 9 22 5 kd Tryz.underlying9 Tryz.underlying22 Tryz.underlying5 (by have := Hk.out; have := Hd.out; omega)
    unfold strV at q3
    rw [hkb] at q3
    have hr3 := ho3.rdB
    go_simp
    refine hK.out _ _ (fun _ _ => ((((Ext.refl w).drew).trans hx1)).trans hx3) ?_
    clear hK K
    have hs3 := Rd.ext hr1 hx3
    refine pO 6 rfl (fun K hK => ?_)
    go_simp
    refine (word_any _ _ kd w3 hr3 (by have := Hk.out; have := Hd.out; omega)).mono ?_
    rintro e w9 ⟨rfl, rfl⟩
    refine hK.out _ _ (fun _ h => h) ?_
    clear hK K
    refine pT 7 (v := ?_) rfl (fun _ _ _ h => h) (by rfl) ?_ ?_
    rotate_left
    ·intro w'; go_simp; first | done | with_reducible rfl
    try simp only [Act.put, sp1]
    refine pT 8 (v := ?_) rfl (fun _ _ _ h => h) (by rfl) ?_ ?_
    rotate_left
    ·intro w'; go_simp; first | done | with_reducible rfl
    try simp only [Act.put, sp1]
    simp only [List.getElem_toArray, List.getElem_cons_succ, List.getElem_cons_zero, Act.put, sp1]
    refine wpAnyP_done (by kernel_rfl) ?_ _
    go_wp2
    go_meet
    exact ⟨by rw [HKA.out], by rw [HKB.out], (((((Ext.refl w).drew).trans hx1)).trans hx3)⟩
   ·obtain ⟨c5, w5, q5, ho5, hx5, -⟩ := conv_bytes (P := Tryz.prog) w1 9 22 5 kd Tryz.underlying9 Tryz.underlying22 Tryz.underlying5 (by have := Hk.out; have := Hd.out; omega)
    unfold strV at q5
    rw [hkb] at q5
    have hr5 := ho5.rdB
    go_simp
    refine hK.out _ _ (fun _ _ => ((((Ext.refl w).drew).trans hx1)).trans hx5) ?_
    clear hK K
    have hs5 := Rd.ext hr1 hx5
    refine pO 2 rfl (fun K hK => ?_)
    go_simp
    refine (word_any _ _ key w5 hs5 (by have := Hk.out; have := Hd.out; omega)).mono ?_
    rintro e w9 ⟨rfl, rfl⟩
    refine hK.out _ _ (fun _ h => h) ?_
    clear hK K
    refine pO 6 rfl (fun K hK => ?_)
    go_simp
    refine (word_any _ _ kd w5 hr5 (by have := Hk.out; have := Hd.out; omega)).mono ?_
    rintro e w9 ⟨rfl, rfl⟩
    refine hK.out _ _ (fun _ h => h) ?_
    clear hK K
    refine pT 7 (v := ?_) rfl (fun _ _ _ h => h) (by rfl) ?_ ?_
    rotate_left
    ·intro w'; go_simp; first | done | with_reducible rfl
    try simp only [Act.put, sp1]
    refine pT 8 (v := ?_) rfl (fun _ _ _ h => h) (by rfl) ?_ ?_
    rotate_left
    ·intro w'; go_simp; first | done | with_reducible rfl
    try simp only [Act.put, sp1]
    simp only [List.getElem_toArray, List.getElem_cons_succ, List.getElem_cons_zero, Act.put, sp1]
    refine wpAnyP_done (by kernel_rfl) ?_ _
    go_wp2
    go_meet
    exact ⟨by rw [HKA.out], by rw [HKB.out], (((((Ext.refl w).drew).trans hx1)).trans hx5)⟩
  ·obtain ⟨c8, w8, q8, ho8, hx8, -⟩ := conv_bytes (P := Tryz.prog) w.drew 9 22 5 kd Tryz.underlying9 Tryz.underlying22 Tryz.underlying5 (by have := Hk.out; have := Hd.out; omega)
   unfold strV at q8
   rw [hkb] at q8
   have hr8 := ho8.rdB
   go_simp
   refine hK.out _ _ (fun _ _ => ((Ext.refl w).drew).trans hx8) ?_
   clear hK K
   refine pO 1 rfl (fun K hK => ?_)
   obtain ⟨c9, w9, q9, ho9, hx9, -⟩ := conv_bytes (P := Tryz.prog) w8 9 22 5 key Tryz.underlying9 Tryz.underlying22 Tryz.underlying5 (by have := Hk.out; have := Hd.out; omega)
   unfold strV at q9
   rw [hka] at q9
   have hr9 := ho9.rdB
   go_simp
   refine hK.out _ _ (fun _ _ => ((((Ext.refl w).drew).trans hx8)).trans hx9) ?_
   clear hK K
   have hs9 := Rd.ext hr8 hx9
   refine pO 2 rfl (fun K hK => ?_)
   go_simp
   refine (word_any _ _ key w9 hr9 (by have := Hk.out; have := Hd.out; omega)).mono ?_
   rintro e w9 ⟨rfl, rfl⟩
   refine hK.out _ _ (fun _ h => h) ?_
   clear hK K
   refine pO 6 rfl (fun K hK => ?_)
   go_simp
   refine (word_any _ _ kd w9 hs9 (by have := Hk.out; have := Hd.out; omega)).mono ?_
   rintro e w9 ⟨rfl, rfl⟩
   refine hK.out _ _ (fun _ h => h) ?_
   clear hK K
   refine pT 7 (v := ?_) rfl (fun _ _ _ h => h) (by rfl) ?_ ?_
   rotate_left
   ·intro w'; go_simp; first | done | with_reducible rfl
   try simp only [Act.put, sp1]
   refine pT 8 (v := ?_) rfl (fun _ _ _ h => h) (by rfl) ?_ ?_
   rotate_left
   ·intro w'; go_simp; first | done | with_reducible rfl
   try simp only [Act.put, sp1]
   simp only [List.getElem_toArray, List.getElem_cons_succ, List.getElem_cons_zero, Act.put, sp1]
   refine wpAnyP_done (by kernel_rfl) ?_ _
   go_wp2
   go_meet
   exact ⟨by rw [HKA.out], by rw [HKB.out], (((((Ext.refl w).drew).trans hx8)).trans hx9)⟩
 case rest =>
  obtain ⟨rfl, rfl, hE⟩ := hcut
  clear kex ksz q8 hka hkb
  obtain ⟨W3, hW3, hB3, hk3, hl3⟩ := box1 wc #[.int .u64 (a0.toNat : Int), .int .u64 (b0.toNat : Int), .int .u64 (c0.toNat : Int), .int .u64 (d0.toNat : Int)] 391
  go_wp2_with fail
  clear hW3
  refine (f2 _).mono ?_
  clear f2
  rintro e w8 ⟨rfl, hb8, hs8, z1⟩
  go_wp2_with fail
  have hw0 := hE.size
  have hw3 := hB3.size
  have hw8 := hb8.size
  have hl8 := (hk3.ext hb8).lt
  refine (wpIn_wide (n := 5)).1 ?_
  refine wpIn_rangeFunc_ownH rfl (by omega) (gf := 316) (lb := #[.pointer (some ⟨W3.heap.size, 0, none⟩)]) rfl trivial (enters_of Tryz.func316 (by kernel_rfl) rfl)
   (hs3 W3.heap.size (fun b => b = wc.heap.size) w8 z1 (by omega) (fun k hk => by subst hk; omega))
   KpQ.trans (fun W l o o' hl h1 h2 h3 => KpQ.put W l o o' h1 h2) (Below.refl _ _) (fun _ => rfl)
   (QRl ⟨a0, b0, c0, d0⟩ wc.heap.size w8.heap.size w) (fun _ _ _ => False) (qrl_own (by omega)) (fun _ _ _ _ _ hs _ _ => hs)
   ⟨hk3.ext hb8, (hE.trans hB3).trans hb8, Nat.le_refl _⟩
   (fun x a' _ => a' = { tmps := #[.string ka, sv, undef, undef, .string ⟨#[]⟩, .int .u64 (ra.toNat : Int), .int .u64 (rb.toNat : Int), .pointer (some ⟨wc.heap.size, 0, none⟩), .int .u64 (x.toNat : Int), u9, u10, u11, u12, u13, u14, u15, .int .u64 (ra.toNat : Int), .int .u64 (a0.toNat : Int), .int .u64 (rb.toNat : Int), .int .u64 (b0.toNat : Int), .int .u64 (ra.toNat : Int), .int .u64 (c0.toNat : Int), .int .u64 (rb.toNat : Int), .int .u64 (d0.toNat : Int), .agg #[.int .u64 (a0.toNat : Int), .int .u64 (b0.toNat : Int), .int .u64 (c0.toNat : Int), .int .u64 (d0.toNat : Int)], sv, .func (.func 316) #[] #[.pointer (some ⟨W3.heap.size, 0, none⟩)], .int .u64 (x.toNat : Int), undef, undef, undef, undef, undef, undef, undef, undef, undef, undef, undef, undef, undef, undef, undef, undef, undef, undef, undef, undef, undef, undef, undef, undef, undef, undef, undef, undef, undef, undef, undef, undef, undef], defers := [] }) (fun _ _ _ _ _ _ hs _ _ => hs) ?assign ?body ?done ?stop
  case assign =>
   rintro li pre x W K hi hK
   simp only [wdV]
   gi_wp2
   exact hK _ _ (KeepsFrom.refl _ _) (KpQ.refl _ _) hi rfl
  case body =>
   rintro li pre x a' W hl _ hC rfl hlen
   obtain ⟨h1, h3, h4⟩ := id hC
   have hsn : (pre ++ [x]).foldl Q4.word ⟨a0, b0, c0, d0⟩ = (pre.foldl Q4.word ⟨a0, b0, c0, d0⟩).word x := by rw [List.foldl_append]; rfl
   obtain ⟨v, hv⟩ : ∃ v, pre.foldl Q4.word ⟨a0, b0, c0, d0⟩ = v := ⟨_, rfl⟩
   rw [hv] at h1 hsn
   obtain ⟨a, b, c, d⟩ := v
   obtain ⟨d1, hd1⟩ : ∃ d1, d ^^^ x = d1 := ⟨_, rfl⟩
   have y1 : bits .xor .u64 (d.toNat : Int) (x.toNat : Int) = (d1.toNat : Int) := by rw [u64_xor, hd1]
   obtain ⟨v2, hv2⟩ : ∃ v2, Q4.rnd ⟨a, b, c, d1⟩ = v2 := ⟨_, rfl⟩
   obtain ⟨v3, hv3⟩ : ∃ v3, Q4.rnd v2 = v3 := ⟨_, rfl⟩
   obtain ⟨a3, b3, c3, d3⟩ := v3
   obtain ⟨a4, ha4⟩ : ∃ a4, a3 ^^^ x = a4 := ⟨_, rfl⟩
   have y2 : bits .xor .u64 (a3.toNat : Int) (x.toNat : Int) = (a4.toNat : Int) := by rw [u64_xor, ha4]
   have hwd : (Q4.mk a b c d).word x = ⟨a4, b3, c3, d3⟩ := by
    unfold Q4.word
    dsimp only
    rw [hd1, hv2, hv3]
    dsimp only
    rw [ha4]
   rw [hwd] at hsn
   have PUT0 := Lib.hid (fun W' hk hg => qrl_put (x := x) (W' := W') hC (show w.heap.size <= wc.heap.size by omega) hk hg)
   have HSN := Lib.hid hsn
   clear hC hsn hv hd1 ha4 hwd
   dsimp only [Q4.cells] at h1
   have m1 := h1.cell
   have m2 := h1.lt
   have m3 := h1.frozen
   have k1 : Blk (W.setCell ⟨wc.heap.size, 3, none⟩ (.int .u64 (d1.toNat : Int))) wc.heap.size 391 (Q4.cells ⟨a, b, c, d1⟩) := h1.set_ 3 _
   have g1 := grown_setCell (World.grownBy.refl W (some wc.heap.size)) 3 (.int .u64 (d1.toNat : Int))
   have HV2 := Lib.hid hv2
   have HV3 := Lib.hid hv3
   clear hv2 hv3
   gi_wp2_with (refine ⟨trivial, ?_⟩; gi_at_call 271; first | (refine (CallsIn.inRound _ (callsIn_wide.2 (round_any wc.heap.size v2 _ k2))).mono ?_; rintro e W3 ⟨⟨r3, rfl⟩, k3, g3⟩; rw [HV3.out] at k3; dsimp only [Q4.cells] at k3; have n1 := k3.cell; have n2 := k3.lt; have n3 := k3.frozen) | (refine (CallsIn.inRound _ (callsIn_wide.2 (round_any wc.heap.size ⟨a, b, c, d1⟩ _ k1))).mono ?_; rintro e W2 ⟨⟨r2, rfl⟩, k2, g2⟩; rw [HV2.out] at k2))
   exact PUT0.out _ (by rw [HSN.out]; exact k3.set_ 0 _) (grown_setCell (grown_trans g1 (grown_trans g2 g3)) 0 _)
  case stop =>
   rintro D c pre W _ _ h _
   exact h.elim
  case done =>
   rintro D xs W hDD hF ⟨h1, h3, h4⟩ hK
   obtain rfl : xs = wordsL s := hF
   have hw3s := h3.size
   have hd2 := (DSx.nil w8.heap.size w.heap.size W).cons hDD (by omega) hK
   clear hK
   obtain ⟨v, hv⟩ : ∃ v, (wordsL s).foldl Q4.word ⟨a0, b0, c0, d0⟩ = v := ⟨_, rfl⟩
   have HT2 : tagB key s = wby v.fin := by rw [HT.out, hv]
   rw [hv] at h1
   have hfin : v.fin = (rndK { v with c := v.c ^^^ 255 } 4).a ^^^ (rndK { v with c := v.c ^^^ 255 } 4).b ^^^ (rndK { v with c := v.c ^^^ 255 } 4).c ^^^ (rndK { v with c := v.c ^^^ 255 } 4).d := rfl
   obtain ⟨a, b, c, d⟩ := v
   dsimp only at hfin
   obtain ⟨c1, hc1⟩ : ∃ c1, c ^^^ 255 = c1 := ⟨_, rfl⟩
   have y1 : bits .xor .u64 (c.toNat : Int) 255 = (c1.toNat : Int) := by rw [<- hc1]; exact u64_xor c 255
   rw [hc1] at hfin
   obtain ⟨v1, hv1⟩ : ∃ v1, Q4.mk a b c1 d = v1 := ⟨_, rfl⟩
   rw [hv1] at hfin
   rw [hfin] at HT2
   have HT3 := Lib.hid HT2
   dsimp only [Q4.cells] at h1
   have m1 := h1.cell
   have m2 := h1.lt
   have m3 := h1.frozen
   have k1 : Blk (W.setCell ⟨wc.heap.size, 2, none⟩ (.int .u64 (c1.toNat : Int))) wc.heap.size 391 (Q4.cells ⟨a, b, c1, d⟩) := h1.set_ 2 _
   have g1 := grown_setCell (World.grownBy.refl W (some wc.heap.size)) 2 (.int .u64 (c1.toNat : Int))
   rw [hv1] at k1
   obtain ⟨WA, hWA⟩ : ∃ WA, W.setCell ⟨wc.heap.size, 2, none⟩ (.int .u64 (c1.toNat : Int)) = WA := ⟨_, rfl⟩
   rw [hWA] at k1 g1
   have hko : KeepsOthers W WA := by rw [<- hWA]; exact KeepsOthers.setCell _ _ _
   have hd3 := hd2.keeps hko
   have hE3 := h3.keptb g1 (fun r e => by injection e with e; omega)
   have hA4 := g1.size
   clear hfin hv hv1 hc1 HT2 HT hd2 hko
   go_wp2_with fail
   clear hWA m1 m2 m3 y1 h1
   go_loopg [44] 4 (fun n i wr => ∃ k : Nat, k + n = 4 /\ i = .int .i64 k /\ Blk wr wc.heap.size 391 (rndK v1 k).cells /\ WA.grownBy wr (some wc.heap.size))
   case atStart => exact ⟨0, rfl, by go_num, k1, World.grownBy.refl _ _⟩
   case round =>
    obtain ⟨k, hkn, rfl, hkb, hg⟩ := hrel
    have Hkn := Lib.hid hkn
    have hk4 : k <= 4 := by omega
    clear hkn
    by_cases hlt : k < 4
    ·go_wp2_with fail
     refine (round_any wc.heap.size (rndK v1 k) _ hkb).mono ?_
     rintro e w9 ⟨⟨r9, rfl⟩, k9, g9⟩
     go_wp2
     go_roundg (gk - 1)
     case measure => have := Hkn.out; omega
     case rel => exact ⟨k + 1, by have := Hkn.out; omega, by go_num, k9, grown_trans hg g9⟩
    ·obtain rfl : k = 4 := by omega
     obtain ⟨v9, hv9⟩ : ∃ v9, rndK v1 4 = v9 := ⟨_, rfl⟩
     have HT4 := Lib.hid (HT3.out)
     rw [hv9] at hkb HT4
     obtain ⟨a9, b9, c9, d9⟩ := v9
     dsimp only at HT4
     obtain ⟨x9, hx9⟩ : ∃ x, a9 ^^^ b9 = x := ⟨_, rfl⟩
     obtain ⟨y9, hy9⟩ : ∃ x, x9 ^^^ c9 = x := ⟨_, rfl⟩
     obtain ⟨z9, hz9⟩ : ∃ x, y9 ^^^ d9 = x := ⟨_, rfl⟩
     have p1 : bits .xor .u64 (a9.toNat : Int) (b9.toNat : Int) = (x9.toNat : Int) := by rw [u64_xor, hx9]
     have p2 : bits .xor .u64 (x9.toNat : Int) (c9.toNat : Int) = (y9.toNat : Int) := by rw [u64_xor, hy9]
     have p3 : bits .xor .u64 (y9.toNat : Int) (d9.toNat : Int) = (z9.toNat : Int) := by rw [u64_xor, hz9]
     rw [hx9, hy9, hz9] at HT4
     have fa := fun w => appendWord_any (.slice none 0 0) [] z9 wr.heap.size w (Owns.none_ _ _) (by simp)
     have hd4 := hd3.keeps (KeepsOthers.of_grownBy hg (fun j o e ho => by
      injection e with e
      subst e
      have h9 : WA.heap[wc.heap.size]? = some (.cells _ _ (0, 0)) := k1
      rw [h9] at ho
      injection ho with ho
      subst ho
      rfl))
     have hE4 := hE3.keptb hg (fun r e => by injection e with e; omega)
     have HP := Lib.hid hx9
     dsimp only [Q4.cells] at hkb
     have m1 := hkb.cell
     have m2 := hkb.lt
     clear hx9 hy9 hz9 hv9 hd3 hE3 hg k1
     go_wp2_with fail
     refine (fa _ (Nat.le_refl _)).mono ?_
     clear fa
     rintro e w9 ⟨u9, rfl, ho9, hg9⟩
     rw [List.nil_append] at ho9
     have hx9 : Ext wr w9 := (Ext.refl wr).keptb hg9 (fun r e => by simp [Value.ownBlock] at e)
     have hd5 := hd4.ext hx9
     have hE5 := hE4.trans hx9
     obtain ⟨A9, e9, rfl, hR9⟩ := ho9.form
     have q1 := conv_str (P := Tryz.prog) w9 22 9 5 A9 e9 (wby z9) Tryz.underlying22 Tryz.underlying5 Tryz.underlying9 hR9
     clear m1 m2 hkb hg9 ho9 hd4
     go_wp2_with fail
     show LeavesInM _ _ _ _ _ _ _ .returning _
     refine hd5.leaves ?_
     intro w' hw'
     have hfin := hw' (fun W => Ext w W) (fun s X Y row hs hg hr => hs.keptb hg (fun r e => (hr r e).1)) hE5
     exact ⟨_, results_tmp rfl _ _ _, by rw [HT4.out]; rfl, hfin⟩
end
section
open Go.RowKit Go.Shelf
attribute [local go_sem] Oper.semAt_some
set_option maxHeartbeats 1000000 in
theorem Sum_any (s : Bts) (w : World) (h : s.length <= 1000000) :
 Calls Tryz.prog 251 #[strV s] w fun e w' => e = .returned (.int .i64 (crcS s).toNat) /\ Ext w w' := by
 have f1 := fun w => update_any 4294967295 s w h
 have q1 := u32_xor (crcU 4294967295 s) 4294967295
 obtain ⟨n, hn⟩ : ∃ n, crcS s = n := ⟨_, rfl⟩
 have hn2 : crcU 4294967295 s ^^^ 4294967295 = n := hn
 rw [hn2] at q1
 rw [hn]
 generalize crcU 4294967295 s = u at *
 rw [show (((4294967295 : UInt32).toNat : Nat) : Int) = 4294967295 from rfl] at *
 have q2 : (n.toNat : Int) < 4294967296 := by have := u32lt n; omega
 obtain ⟨sv, hsv⟩ : ∃ sv, strV s = sv := ⟨_, rfl⟩
 rw [hsv] at f1 ⊢
 clear hsv hn hn2
 go_enter Tryz.func251, Tryz.ntmps251
 go_wp2_with fail
 refine (f1 _).mono ?_
 clear f1
 rintro e w1 ⟨rfl, hb1⟩
 go_wp2
 go_ret
 exact ⟨rfl, hb1⟩
set_option maxRecDepth 100000 in
set_option maxHeartbeats 4000000 in
theorem tail_any (s : Bts) (w : World) (h : s.length <= 1000000) :
 Calls Tryz.prog 189 #[strV s] w fun e w' => e = .returned (strV (ctail s)) /\ Ext w w' := by
 have f1 := fun w => Sum_any s w h
 have HT := Lib.hid (show ctail s = [(crcS s).toUInt8, (crcS s >>> 8).toUInt8, (crcS s >>> 16).toUInt8, (crcS s >>> 24).toUInt8] from rfl)
 generalize crcS s = n at *
 have hsh : ∀ k : Nat, k < 32 -> ((n >>> (UInt32.ofNat k)).toNat) = n.toNat / 2 ^ k := fun k hk => by
  rw [UInt32.toNat_shiftRight, Nat.shiftRight_eq_div_pow, UInt32.toNat_ofNat']
  congr 2
  omega
 have h8 := hsh 8 (by omega)
 have h16 := hsh 16 (by omega)
 have h24 := hsh 24 (by omega)
 obtain ⟨m1, e1⟩ : ∃ m, n >>> 8 = m := ⟨_, rfl⟩
 obtain ⟨m2, e2⟩ : ∃ m, n >>> 16 = m := ⟨_, rfl⟩
 obtain ⟨m3, e3⟩ : ∃ m, n >>> 24 = m := ⟨_, rfl⟩
 rw [e1, e2, e3] at HT
 have h8 : m1.toNat = n.toNat / 256 := by rw [<- e1]; exact h8
 have h16 : m2.toNat = n.toNat / 65536 := by rw [<- e2]; exact h16
 have h24 : m3.toNat = n.toNat / 16777216 := by rw [<- e3]; exact h24
 have hw : ∀ (x : UInt32) (k : UInt8), x.toUInt8 = k -> IntKind.u8.wrap (x.toNat : Int) = (k.toNat : Int) := fun x k hk => by rw [IntKind.wrap_u8', <- hk]; rfl
 obtain ⟨n0, g0⟩ : ∃ k, n.toUInt8 = k := ⟨_, rfl⟩
 obtain ⟨n1, g1⟩ : ∃ k, m1.toUInt8 = k := ⟨_, rfl⟩
 obtain ⟨n2, g2⟩ : ∃ k, m2.toUInt8 = k := ⟨_, rfl⟩
 obtain ⟨n3, g3⟩ : ∃ k, m3.toUInt8 = k := ⟨_, rfl⟩
 have p0 := hw _ _ g0
 have p1 := hw _ _ g1
 have p2 := hw _ _ g2
 have p3 := hw _ _ g3
 rw [g0, g1, g2, g3] at HT
 have s1 : (n.toNat : Int) / 256 = (m1.toNat : Int) := by rw [h8]; rfl
 have s2 : (n.toNat : Int) / 65536 = (m2.toNat : Int) := by rw [h16]; rfl
 have s3 : (n.toNat : Int) / 16777216 = (m3.toNat : Int) := by rw [h24]; rfl
 obtain ⟨sv, hsv⟩ : ∃ sv, strV s = sv := ⟨_, rfl⟩
 rw [hsv] at f1 ⊢
 clear hsv e1 e2 e3 g0 g1 g2 g3 hw hsh h8 h16 h24
 go_enter Tryz.func189, Tryz.ntmps189
 go_wp2_with fail
 refine (f1 _).mono ?_
 clear f1
 rintro e w1 ⟨rfl, hb1⟩
 obtain ⟨W2, hW2, hB2, hk2, hl2⟩ := box1 w1 #[.int .u8 (n0.toNat : Int), .int .u8 (n1.toNat : Int), .int .u8 (n2.toNat : Int), .int .u8 (n3.toNat : Int)] 5
 have hR : Rd EB W2 (some ⟨w1.heap.size, 0, none⟩) [n0, n1, n2, n3] := rd_blk hk2
 have q1 := conv_str (P := Tryz.prog) W2 22 9 5 (some ⟨w1.heap.size, 0, none⟩) 4 [n0, n1, n2, n3] Tryz.underlying22 Tryz.underlying5 Tryz.underlying9 hR
 simp only [List.length_cons, List.length_nil, Nat.zero_add, Nat.reduceAdd] at q1
 obtain ⟨tv, htv⟩ : ∃ tv, strV [n0, n1, n2, n3] = tv := ⟨_, rfl⟩
 have HTV := Lib.hid htv
 rw [htv] at q1
 clear htv
 go_wp2
 go_ret
 exact ⟨by rw [HT.out, HTV.out]; rfl, hb1.trans hB2⟩
set_option maxRecDepth 100000 in
set_option maxHeartbeats 4000000 in
theorem Seal_any (s : Bts) (w : World) (h : s.length <= 65536) :
 Calls Tryz.prog 108 #[strV s] w fun e w' => e = .returned (.tuple #[strV (sealB s), .int .i64 0]) /\ Ext w w' := by
 have f1 := fun w => Text_any s w h
 have hv := vint_len (s.length : Int)
 have f2 := fun w => tail_any (vtext s) w (by unfold vtext; rw [List.length_append]; omega)
 have HS := Lib.hid (show sealB s = vtext s ++ ctail (vtext s) from rfl)
 have hle : (vtext s).length + (ctail (vtext s)).length <= 9223372036854775807 := by
  unfold vtext ctail
  simp only [List.length_append, List.length_cons, List.length_nil]
  omega
 have q := bap (vtext s) (ctail (vtext s))
 generalize vtext s = t at *
 generalize ctail t = c at *
 have HSv := Lib.hid (show strV (sealB s) = .string ⟨(t ++ c).toArray⟩ by rw [HS.out]; rfl)
 rw [HSv.out]
 generalize strV s = sv at *
 unfold strV at f1 f2
 go_enter Tryz.func108, Tryz.ntmps108
 go_wp2_with fail
 refine (f1 _).mono ?_
 clear f1
 rintro e w1 ⟨rfl, hb1⟩
 go_wp2_with fail
 refine (f2 _).mono ?_
 clear f2
 rintro e w2 ⟨rfl, hb2⟩
 go_wp2
 go_ret2
 exact ⟨rfl, hb1.trans hb2⟩
end
section
open Go.RowKit Go.Shelf
attribute [local go_sem] Oper.semAt_some
theorem sealB_len (s : Bts) : (sealB s).length <= s.length + 14 := by
 have := vint_len (s.length : Int)
 unfold sealB vtext ctail
 simp only [List.length_append, List.length_cons, List.length_nil]
 omega
theorem vtext_len (s : Bts) : (vtext s).length <= s.length + 10 := by
 have := vint_len (s.length : Int)
 unfold vtext
 rw [List.length_append]
 omega
theorem blErr_ok {b : Bl} (h : b.err = 0) : (1 <= b.kind /\ b.kind <= 255) /\ (0 <= b.flags /\ b.flags <= 15) /\ b.data.length <= 1024 := by
 unfold Bl.err at h
 split at h
 ·omega
 ·split at h
  ·omega
  ·split at h
   ·omega
   ·omega
theorem blEnc_len {b : Bl} (h : b.err = 0) : b.enc.length <= 1100 := by
 obtain ⟨_, _, h3⟩ := blErr_ok h
 unfold Bl.enc
 have h4 := sealB_len (vint b.kind ++ vint b.flags ++ vtext b.data)
 have h5 := vint_len b.kind
 have h6 := vint_len b.flags
 have h7 := vtext_len b.data
 simp only [List.length_append] at h4
 omega
theorem str_name (l : Bts) : ∃ ba : ByteArray, (⟨l.toArray⟩ : ByteArray) = ba /\ strV l = .string ba /\ ba.size = l.length := ⟨_, rfl, rfl, by show l.toArray.size = l.length; simp⟩
set_option maxRecDepth 100000 in
set_option maxHeartbeats 8000000 in
theorem blEnc_any (b : Bl) (w : World) (h : b.err = 0) :
 Calls Tryz.prog 188 #[.agg #[.int .i64 b.kind, .int .i64 b.flags, strV b.data]] w fun e w' => e = .returned (.tuple #[strV b.enc, .int .i64 0]) /\ Ext w w' := by
 obtain ⟨h1, h2, h3⟩ := blErr_ok h
 have f0 := fun w => blChk_any b w
 rw [h] at f0
 have f1 := fun w => Int_any b.kind w ⟨by omega, by omega⟩
 have f2 := fun w => Int_any b.flags w ⟨by omega, by omega⟩
 have f3 := fun w => Text_any b.data w (by omega)
 have l1 := vint_len b.kind
 have l2 := vint_len b.flags
 have l3 := vtext_len b.data
 have f4 := fun w => Seal_any (vint b.kind ++ vint b.flags ++ vtext b.data) w (by simp only [List.length_append]; omega)
 have q1 := bap (vint b.kind) (vint b.flags)
 have q2 := bap (vint b.kind ++ vint b.flags) (vtext b.data)
 have HE := Lib.hid (show b.enc = sealB (vint b.kind ++ vint b.flags ++ vtext b.data) from rfl)
 obtain ⟨n1, hn1⟩ : ∃ l, vint b.kind = l := ⟨_, rfl⟩
 obtain ⟨n2, hn2⟩ : ∃ l, vint b.flags = l := ⟨_, rfl⟩
 obtain ⟨n3, hn3⟩ : ∃ l, vtext b.data = l := ⟨_, rfl⟩
 rw [hn1] at f1 l1 f4 q1 q2 HE
 rw [hn2] at f2 l2 f4 q1 q2 HE
 rw [hn3] at f3 l3 f4 q2 HE
 obtain ⟨a1, ha1, hv1, hs1⟩ := str_name n1
 obtain ⟨a2, ha2, hv2, hs2⟩ := str_name n2
 obtain ⟨a3, ha3, hv3, hs3⟩ := str_name n3
 obtain ⟨a4, ha4, hv4, hs4⟩ := str_name (n1 ++ n2)
 obtain ⟨a5, ha5, hv5, hs5⟩ := str_name (n1 ++ n2 ++ n3)
 rw [ha1, ha2, ha4] at q1
 rw [ha4, ha3, ha5] at q2
 rw [hv1] at f1
 rw [hv2] at f2
 rw [hv3] at f3
 rw [hv5] at f4
 have z1 : a1.size + a2.size <= 9223372036854775807 := by omega
 have z2 : a4.size + a3.size <= 9223372036854775807 := by rw [List.length_append] at hs4; omega
 obtain ⟨sv, hsv⟩ : ∃ sv, strV (sealB (n1 ++ n2 ++ n3)) = sv := ⟨_, rfl⟩
 rw [hsv] at f4
 have HV := Lib.hid (show strV b.enc = sv by rw [HE.out, hsv])
 obtain ⟨ba, hba, _⟩ := strV_str b.data
 rw [hba] at f0 f3 ⊢
 obtain ⟨W, hW, hB, hk, hlt⟩ := box1 w #[.int .i64 b.kind, .int .i64 b.flags, .string ba] 116
 have hc := hk.cell
 clear h l1 l2 l3 hn1 hn2 hn3 ha1 ha2 ha3 ha4 ha5 hv1 hv2 hv3 hv4 hv5 hs1 hs2 hs3 hs4 hs5 hsv hba h1 h2 h3
 rw [HV.out]
 go_enter Tryz.func188, Tryz.ntmps188
 go_wp2_with fail
 clear hW
 refine (f0 _).mono ?_
 rintro e w1 ⟨rfl, hb1⟩
 have hx1 := hb1
 have c1 := (hk.ext hx1).cell
 have e1 := (hk.ext hx1).lt
 clear hc
 go_wp2_with fail
 refine (f1 _).mono ?_
 rintro e w2 ⟨rfl, hb2⟩
 have hx2 := hx1.trans hb2
 have c2 := (hk.ext hx2).cell
 have e2 := (hk.ext hx2).lt
 clear c1 e1
 go_wp2_with fail
 refine (f2 _).mono ?_
 rintro e w3 ⟨rfl, hb3⟩
 have hx3 := hx2.trans hb3
 have c3 := (hk.ext hx3).cell
 have e3 := (hk.ext hx3).lt
 clear c2 e2
 go_wp2_with fail
 refine (f3 _).mono ?_
 rintro e w4 ⟨rfl, hb4⟩
 clear c3 e3
 go_wp2_with fail
 refine (f4 _).mono ?_
 rintro e w5 ⟨rfl, hb5⟩
 go_wp2
 go_ret2
 exact ⟨rfl, (hB.trans hx3).trans (hb4.trans hb5)⟩
def ptrs (B : Nat) : Array Value := #[.pointer (some ⟨B, 0, none⟩), .pointer (some ⟨B, 1, none⟩), .pointer (some ⟨B, 2, none⟩), .pointer (some ⟨B, 3, none⟩), .pointer (some ⟨B, 4, none⟩), .pointer (some ⟨B, 5, none⟩), .pointer (some ⟨B, 6, none⟩), .pointer (some ⟨B, 7, none⟩), .pointer (some ⟨B, 8, none⟩), .pointer (some ⟨B, 9, none⟩)]
theorem ptrs_sets (B : Nat) : arrSets #[.pointer none, .pointer none, .pointer none, .pointer none, .pointer none, .pointer none, .pointer none, .pointer none, .pointer none, .pointer none] 0 (ptrs B).toList = ptrs B := by
 simp [arrSets, ptrs]
theorem ptrs_index (B k : Nat) (hk : k < 10) (w : World) : (Instr.index 203 (.agg (ptrs B)) (.int .i64 (k : Int))).run Tryz.prog w = .ok (.pointer (some ⟨B, k, none⟩)) w := by
 have h : k = 0 ∨ k = 1 ∨ k = 2 ∨ k = 3 ∨ k = 4 ∨ k = 5 ∨ k = 6 ∨ k = 7 ∨ k = 8 ∨ k = 9 := by omega
 rcases h with rfl | rfl | rfl | rfl | rfl | rfl | rfl | rfl | rfl | rfl
 all_goals simp [Instr.index, run_underlying Tryz.underlying203, asIntOf, ptrs, part, go_sem, Tryz.sizeOf202]
set_option maxRecDepth 100000 in
set_option maxHeartbeats 8000000 in
theorem numbers_any (B : Nat) (w : World) (hB : B < w.heap.size) :
 Calls Tryz.prog 105 #[.pointer (some ⟨B, 0, none⟩)] w fun e w' => e = .returned (.agg (ptrs B)) /\ Ext w w' := by
 obtain ⟨W, hW, hB1, hk, hlt⟩ := box1 w #[.pointer none, .pointer none, .pointer none, .pointer none, .pointer none, .pointer none, .pointer none, .pointer none, .pointer none, .pointer none] 203
 have hc := hk.cell
 have hf := hk.frozen
 have hBW : B < W.heap.size := Nat.lt_of_lt_of_le hB hB1.size
 go_enter Tryz.func105, Tryz.ntmps105
 go_wp2_with fail
 clear hW
 go_region
 have hS := Blk.ext (Blk.setCells_ (ptrs B).toList hk 0) (Ext.refl _).drew
 rw [ptrs_sets] at hS
 have hE : Ext w (W.setCells w.heap.size 0 (ptrs B).toList).drew := (ext_setCells hB1 (Nat.le_refl _) 0 _).drew
 change Exit.then _ _ Exit.normal _ (W.setCells w.heap.size 0 (ptrs B).toList).drew
 generalize (W.setCells w.heap.size 0 (ptrs B).toList).drew = W2 at *
 clear hc hf hk
 go_wp2
 refine bodyPost_ret (results_cell_row rfl _ _ w.heap.size 203 (ptrs B) (0, 0) _ rfl hS Tryz.underlying203 rfl (by kernel_rfl)) rfl ?_
 exact ⟨rfl, hE⟩
end
section
open Go.RowKit Go.Shelf
attribute [local go_sem] Oper.semAt_some
theorem strV_nil : strV [] = .string ⟨#[]⟩ := rfl
theorem kSum_any (key : Bts) (w : World) :
 Calls Tryz.prog 124 #[strV key, .string ⟨#[]⟩] w fun e w' => (∃ t, e = .returned (.tuple #[strV t, .int .i64 (if key.length = 16 then 0 else 1)])) /\ Ext w w' := by
 have f1 := fun w h => tag_any key [] w h (by simp)
 obtain ⟨n, hn⟩ : ∃ n, key.length = n := ⟨_, rfl⟩
 have hsz := bsize_mk key
 rw [hn] at hsz f1 ⊢
 obtain ⟨ka, hka⟩ : ∃ ka : ByteArray, ⟨key.toArray⟩ = ka := ⟨_, rfl⟩
 have hkv : strV key = .string ka := by unfold strV; rw [hka]
 rw [hka] at hsz
 rw [hkv] at f1 ⊢
 rw [strV_nil] at f1
 by_cases h16 : n = 16
 ·subst h16
  have f2 := fun w => f1 w rfl
  have HT := Lib.hid (show ∃ T, tagB key [] = T from ⟨_, rfl⟩)
  obtain ⟨tv, htv⟩ : ∃ tv, strV (tagB key []) = tv := ⟨_, rfl⟩
  have HV := Lib.hid htv
  rw [htv] at f2
  clear f1 htv hka hn
  rw [if_pos rfl]
  go_enter Tryz.func124, Tryz.ntmps124
  go_wp2_with fail
  refine (f2 _).mono ?_
  clear f2
  rintro e w1 ⟨rfl, hb1⟩
  go_wp2
  go_ret2
  exact ⟨⟨_, by rw [HV.out]; rfl⟩, hb1⟩
 ·have hb : (((n : Int) != 16) = true) := by
   rw [bne_iff_ne]
   omega
  rw [if_neg h16]
  clear f1 hka hn hkv
  go_enter Tryz.func124, Tryz.ntmps124
  go_wp2
  go_ret2
  exact ⟨⟨[], rfl⟩, Ext.refl _⟩
theorem wpList_appendEq {P : Program} {w w' : World} {ops : Array Oper} {rest : List Oper} {o : Oper} {a : Act} {Q : Exit -> Act -> World -> Prop} (hgd : o.guard = none) (sl x : Operand) (t u : TypeId)
 (ho : o.op = .call { callee := .builtin .append, args := #[sl, x], argTypes := #[t, u] }) {v xv v' : Value} (hs : a.eval sl = v) (hx : a.eval x = xv)
 (hr : (Builtin.append_ #[t, u] o.type #[v, xv]).run P w = .ok v' w') (h : wpList P ops Q rest (a.put o.dst v') w') : wpList P ops Q (o :: rest) a w := by
 refine wpList_plain hgd fun K hK => ?_
 unfold Oper.wp execOp
 simp only [ho, resolve, invoke, builtin, Sem.run_bind, Sem.run_pure, Result.andThen_ok, List.map_toArray, List.map_cons, List.map_nil, hs, hx, hr]
 exact hK _ _ h
def EStr : Elt Bts := ⟨fun s => [strV s], 1, fun _ => rfl, by omega, fun x u hu => by simp at hu; subst hu; rfl⟩
theorem Rd.str {w : World} {A : Option Addr} {l : List Bts} (h : Rd EStr w A l) {k : Nat} (hk : k < l.length) : ∃ b o, A = some ⟨b, o, none⟩ /\ b < w.heap.size /\ w.cell? ⟨b, o + k, none⟩ = some (strV l[k]) := by
 obtain ⟨b, o, rfl, hb, hc⟩ := h.at hk
 refine ⟨b, o, rfl, hb, ?_⟩
 have h0 := hc 0 _ rfl
 have e9 : EStr.size = 1 := rfl
 rw [e9, Nat.mul_one, Nat.add_zero] at h0
 exact h0
theorem chainB_snoc (l : List Bts) (x : Bts) : chainB (l ++ [x]) = chainB l ++ (wby (UInt64.ofNat x.length) ++ x) := by simp [chainB]
theorem chainB_take {l : List Bts} {k : Nat} (h : k < l.length) : chainB (l.take (k + 1)) = chainB (l.take k) ++ wby (UInt64.ofNat l[k].length) ++ l[k] := by
 rw [<- List.take_append_getElem h, chainB_snoc, List.append_assoc]
theorem chainB_mono (l : List Bts) (k : Nat) : (chainB (l.take k)).length <= (chainB l).length := by
 have e : chainB l = chainB (l.take k) ++ chainB (l.drop k) := by
  unfold chainB
  rw [<- List.flatMap_append, List.take_append_drop]
 rw [e, List.length_append]
 omega
theorem wby_length (m : UInt64) : (wby m).length = 8 := by simp [wby]
theorem append_strO (w : World) (ty : TypeId) (base : Nat) (v : Value) (l s : Bts) (ho : Owns EB w base 5 v l) (hn : l.length + s.length <= 1000000) (hb : base <= w.heap.size) :
 ∃ v' w', (Builtin.append_ #[22, 9] ty #[v, strV s]).run Tryz.prog w = .ok v' w' /\ Owns EB w' base 5 v' (l ++ s) /\ w.grownBy w' v.ownBlock := by
 obtain ⟨i0, hi0, hz0, hz1, hz2⟩ := info_parts info_byte
 have hs := bsize_mk s
 obtain ⟨v', w', h1, h2, h3, _⟩ := Go.Lib.run_append_own_string (P := Tryz.prog) w base 22 9 ty 5 i0 Tryz.underlying22 Tryz.underlying9 hi0 hz0 hz1 hz2 v l.length (EB.all l) ho ⟨s.toArray⟩ (by rw [hs]; simp only [maxLen]; omega) (by rw [hs]; omega) hb
 refine ⟨v', w', h1, ?_, h3⟩
 rw [hs, strCells_mk, <- eb_all, <- EB.all_append, <- List.length_append] at h2
 exact h2
set_option maxRecDepth 100000 in
set_option maxHeartbeats 16000000 in
theorem chain_any (key : Bts) (A : Option Addr) (cc : Nat) (l : List Bts) (w : World) (hk : key.length = 16) (hR : Rd EStr w A l) (hl : (chainB l).length <= 65536) (hll : l.length <= 1000) :
 Calls Tryz.prog 125 #[strV key, .slice A l.length cc] w fun e w' => e = .returned (.tuple #[strV (tagB key (chainB l)), .int .i64 0]) /\ Ext w w' := by
 have f1 := fun w => tag_any key (chainB l) w hk hl
 have hsz := bsize_mk key
 obtain ⟨ka, hka⟩ : ∃ ka : ByteArray, ⟨key.toArray⟩ = ka := ⟨_, rfl⟩
 have hkv : strV key = .string ka := by unfold strV; rw [hka]
 rw [hka, hk] at hsz
 rw [hkv] at f1 ⊢
 clear hka hkv hk
 go_enter Tryz.func125, Tryz.ntmps125
 go_wp2_with fail
 go_loopg [6, 14] l.length (fun n u v wr => ∃ k : Nat, k + n = l.length /\ v = .int .i64 k /\ Owns EB wr w.heap.size 5 u (chainB (l.take k)) /\ Ext w wr)
 case atStart => exact ⟨0, by omega, by go_num, Owns.none_ _ _, Ext.refl _⟩
 case round =>
  obtain ⟨k, hkn, rfl, ho, hE⟩ := hrel
  have Hkn := Lib.hid hkn
  by_cases hlt : k < l.length
  ·obtain ⟨b, o, rfl, hb, hc⟩ := (hR.ext hE).str hlt
   have hT := chainB_take hlt
   have hM := chainB_mono l (k + 1)
   have hM0 := chainB_mono l k
   obtain ⟨x, hx⟩ : ∃ x, l[k] = x := ⟨_, rfl⟩
   rw [hx] at hc hT
   obtain ⟨P, hP⟩ : ∃ P, chainB (l.take k) = P := ⟨_, rfl⟩
   rw [hP] at ho hT hM0
   have hlen : P.length + 8 + x.length <= 65536 := by
    rw [hT, List.length_append, List.length_append, wby_length] at hM
    omega
   have HT := Lib.hid hT
   obtain ⟨xn, hxn⟩ : ∃ n, x.length = n := ⟨_, rfl⟩
   have hxs := bsize_mk x
   obtain ⟨xa, hxa⟩ : ∃ xa : ByteArray, ⟨x.toArray⟩ = xa := ⟨_, rfl⟩
   have hxv : strV x = .string xa := by unfold strV; rw [hxa]
   rw [hxa, hxn] at hxs
   rw [hxv] at hc
   rw [hxn] at hlen HT
   obtain ⟨A1, c1, rfl, hR1⟩ := ho.form
   obtain ⟨pn, hpn⟩ : ∃ n, P.length = n := ⟨_, rfl⟩
   rw [hpn] at hlen
   have fa := appendWord_any (.slice A1 P.length c1) P (UInt64.ofNat xn) w.heap.size wr ho (by omega) hE.size
   obtain ⟨y, hy⟩ : ∃ y, UInt64.ofNat xn = y := ⟨_, rfl⟩
   rw [hy] at fa HT
   have hyn : y.toNat = xn := by rw [<- hy, UInt64.toNat_ofNat']; omega
   rw [hpn] at fa ho ⊢
   rw [hyn] at fa
   have Hpn := Lib.hid hpn
   have Hxn := Lib.hid hxn
   have HXV := Lib.hid hxv
   have d1 : decide ((65536 : Int) < (xn : Int)) = false := decide_eq_false (by omega)
   have d2 : decide ((65536 : Int) < (pn : Int) + 8 + (xn : Int)) = false := decide_eq_false (by omega)
   clear hT hM hM0 hx hP hxn hpn hxa hxv hy hkn
   go_wp2_with fail
   refine fa.mono ?_
   clear fa
   rintro e w2 ⟨u2, rfl, ho2, hg2⟩
   have hE2 := ext_grown hE ho (Nat.le_refl _) hg2
   obtain ⟨v3, w3, q3, ho3, hg3⟩ := append_strO w2 22 w.heap.size u2 (P ++ wby y) x ho2 (by rw [List.length_append, wby_length, Hpn.out, Hxn.out]; omega) hE2.size
   rw [HXV.out] at q3
   have hE3 := ext_grown hE2 ho2 (Nat.le_refl _) hg3
   clear hc
   go_wp2_with (at_builtin; refine wpList_appendEq rfl (.tmp 34) (.tmp 35) _ _ (by rfl) (by rfl) (by rfl) q3 ?_)
   go_roundg (gk - 1)
   case measure => have := Hkn.out; omega
   case rel => exact ⟨k + 1, by have := Hkn.out; omega, by go_num, by rw [HT.out]; exact ho3, hE3⟩
  ·obtain rfl : k = l.length := by omega
   rw [List.take_length] at ho
   obtain ⟨A9, c9, rfl, hR9⟩ := ho.form
   have q1 := conv_str (P := Tryz.prog) wr 22 9 5 A9 c9 (chainB l) Tryz.underlying22 Tryz.underlying5 Tryz.underlying9 hR9
   have hf := f1 wr
   generalize strV (chainB l) = sv at *
   generalize (chainB l).length = m at *
   go_wp2_with fail
   refine hf.mono ?_
   rintro e w2 ⟨rfl, hb2⟩
   go_wp2
   go_ret2
   exact ⟨rfl, hE.trans hb2⟩
end
end Go.Proofs.YtemkpimngbbpkaaGreat

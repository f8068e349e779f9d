/- Security: block.EncodeAll, bundle.Encode. · Security: block.Remove, valid, Put. · Security: bundle.Encode. · Decoding: varint.ReadInt, ReadText. -/
import Derived.BigRegion
import Derived.Test.YtemkpimngbbpkaaGreatQs10
import Derived.Test.YtemkpimngbbpkaaGreatQs15
import Derived.Test.YtemkpimngbbpkaaGreatQs16
import Derived.Test.YtemkpimngbbpkaaGreatQs29
namespace Go.Proofs.YtemkpimngbbpkaaGreat
set_option linter.unusedVariables false
set_option linter.unusedSimpArgs false
section
open Go.RowKit Go.Shelf
attribute [local go_sem] Oper.semAt_some
theorem str_cat (a b : Bts) {x y z : ByteArray} (h1 : (⟨a.toArray⟩ : ByteArray) = x) (h2 : (⟨b.toArray⟩ : ByteArray) = y) (h3 : (⟨(a ++ b).toArray⟩ : ByteArray) = z) : x ++ y = z := by
 rw [<- h1, <- h2, <- h3, bap]
set_option maxRecDepth 100000 in
set_option maxHeartbeats 16000000 in
theorem encAll_any (A : Option Addr) (cc : Nat) (l : List Bl) (w : World) (hR : Rd EBl w A l) (hv : blksE l = 0) :
 Calls Tryz.prog 107 #[.slice A l.length cc] w fun e w' => e = .returned (.tuple #[strV (encAll l), .int .i64 0]) /\ Ext w w' := by
 obtain ⟨h8, hok, hasc⟩ := blksE_ok.1 hv
 have f1 := fun w => Int_any (l.length : Int) w ⟨by omega, by omega⟩
 have hl0 := vint_len (l.length : Int)
 have HE := Lib.hid (show encAll l = vint l.length ++ l.flatMap Bl.enc from rfl)
 obtain ⟨v0, hv0⟩ : ∃ v, vint (l.length : Int) = v := ⟨_, rfl⟩
 rw [hv0] at f1 hl0
 rw [show vint (l.length : Int) = v0 from hv0] at HE
 have HOK := Lib.hid hok
 have HASC := Lib.hid hasc
 clear hv hok hasc hv0
 go_enter Tryz.func107, Tryz.ntmps107
 go_wp2_with fail
 refine (f1 _).mono ?_
 clear f1
 rintro e w1 ⟨rfl, hb1⟩
 go_wp2_with fail
 go_loopg [4, 21] l.length (fun n u v wr => ∃ (k : Nat) (out : Bts), k + n = l.length /\ v = .int .i64 k /\ u = strV out /\ Hid (out = v0 ++ (l.take k).flatMap Bl.enc) /\ Hid (out.length <= 10 + k * 1100) /\ Ext w wr)
 case atStart => exact ⟨0, v0, by omega, by go_num, rfl, Lib.hid (by simp), Lib.hid (by omega), hb1⟩
 case round =>
  obtain ⟨k, out, hkn, rfl, rfl, ho, hol, hE⟩ := hrel
  have Hkn := Lib.hid hkn
  clear hkn
  by_cases hlt : k < l.length
  ·obtain ⟨b, o, rfl, hb, c0, c1, c2⟩ := (hR.ext hE).bl hlt
   have hyok := HOK.out _ (List.getElem_mem hlt)
   have hen := fun w => blEnc_any l[k] w hyok
   have hel := blEnc_len hyok
   have hnx : Hid (out ++ l[k].enc = v0 ++ (l.take (k + 1)).flatMap Bl.enc) := Lib.hid (by rw [ho.out, <- List.take_append_getElem hlt, List.flatMap_append]; simp)
   have hprev : ∀ j (h : j + 1 = k), (l[j]'(by omega)).kind < l[k].kind := fun j h => List.pairwise_iff_getElem.1 HASC.out j k (by omega) hlt (by omega)
   obtain ⟨y, hy⟩ : ∃ y, l[k] = y := ⟨_, rfl⟩
   rw [hy] at c0 c1 c2 hen hnx hprev hel
   obtain ⟨ba, hba, _⟩ := strV_str y.data
   rw [hba] at c2 hen
   obtain ⟨kd, hkd⟩ : ∃ kd, y.kind = kd := ⟨_, rfl⟩
   obtain ⟨fl, hfl⟩ : ∃ fl, y.flags = fl := ⟨_, rfl⟩
   obtain ⟨E, hEn⟩ : ∃ E, y.enc = E := ⟨_, rfl⟩
   rw [hkd, hfl, hEn] at hen
   rw [hkd] at c0 hprev
   rw [hfl] at c1
   rw [hEn] at hnx hel
   obtain ⟨oa, hoa, hov, hos⟩ := str_name out
   obtain ⟨ea, hea, hev, hes⟩ := str_name E
   obtain ⟨za, hza, hzv, hzs⟩ := str_name (out ++ E)
   have q1 := str_cat out E hoa hea hza
   have z1 : oa.size + ea.size <= 9223372036854775807 := by have := hol.out; omega
   have hnl : Hid ((out ++ E).length <= 10 + (k + 1) * 1100) := Lib.hid (by rw [List.length_append]; have := hol.out; omega)
   have HZV := Lib.hid hzv
   rw [hev] at hen
   rw [hov]
   obtain ⟨W1, hW1, hB1, hk1, hl1⟩ := box1 wr #[.int .i64 kd, .int .i64 fl, .string ba] 116
   have d1 := hk1.cell
   have hxE := hE.trans hB1
   clear hy hba hkd hfl hEn hoa hea hza hos hes hzs hov hev hzv hel hyok
   by_cases hk0 : k = 0
   ·subst hk0
    clear hprev
    simp only [Nat.zero_mul, Nat.add_zero] at c0 c1 c2
    go_wp2_with fail
    clear hW1 c0 c1 c2
    refine (hen _).mono ?_
    clear hen
    rintro e w2 ⟨rfl, hb2⟩
    go_wp2_with fail
    go_region
    go_wp2
    go_roundg (gk - 1)
    case measure => have := Hkn.out; omega
    case rel => exact ⟨1, out ++ E, by have := Hkn.out; omega, by go_num, HZV.out.symm, hnx, hnl, (hxE.trans hb2).drew⟩
   ·obtain ⟨j, rfl⟩ : ∃ j, k = j + 1 := ⟨k - 1, by omega⟩
    have hpv := hprev j rfl
    go_wp2_with fail
    clear hW1 c0 c1 c2
    refine (hen _).mono ?_
    clear hen
    rintro e w2 ⟨rfl, hb2⟩
    have hE2 := hxE.trans hb2
    obtain ⟨b', o', e', _, p0, _, _⟩ := (hR.ext hE2).bl (k := j) (by omega)
    injection e' with e'
    injection e' with e1 e2
    subst e1 e2
    have n1 := (hk1.ext hb2).cell
    have n2 := (hk1.ext hb2).lt
    have hb2' := Nat.lt_of_lt_of_le hb (Nat.le_trans hB1.size hb2.size)
    clear d1 hprev
    generalize (l[j]'(by omega)).kind = pk at *
    have dk : decide (kd <= pk) = false := decide_eq_false (by omega)
    have hj8 : j + 1 < 9 := by omega
    go_wp2_with fail
    go_region
    go_wp2
    go_roundg (gk - 1)
    case measure => have := Hkn.out; omega
    case rel => exact ⟨j + 1 + 1, out ++ E, by have := Hkn.out; omega, by go_num, HZV.out.symm, hnx, hnl, hE2.drew⟩
  ·obtain rfl : k = l.length := by have := Hkn.out; omega
   have HF := Lib.hid (show out = encAll l by rw [ho.out, HE.out, List.take_length])
   obtain ⟨oa, hoa, hov, hos⟩ := str_name out
   have HOV := Lib.hid hov
   rw [hov]
   clear hov hoa hos
   go_wp2
   go_ret2
   exact ⟨by rw [<- HF.out, HOV.out]; rfl, hE⟩
end
section
open Go.RowKit Go.Shelf
attribute [local go_sem] Oper.semAt_some
set_option maxHeartbeats 2000000 in
theorem rem_any (A : Option Addr) (c : Nat) (l : List Bl) (k : Int) (w : World) (hA : Rd EBl w A l) (hmax : l.length <= 1000000) :
 Calls Tryz.prog 210 #[.slice A l.length c, .int .i64 k] w fun e w' => ∃ u, e = .returned u /\ Owns EBl w' w.heap.size 116 u (remK l k) /\ Ext w w' := by
 obtain ⟨W1, hW1, hB1, hk1, hl1⟩ := box1 w #[.int .i64 k] 3
 have hi := filter_any A c l 272 #[.pointer (some ⟨w.heap.size, 0, none⟩)] (fun x => decide (x.kind ≠ k)) W1 (hA.ext hB1) hmax (remove1_pred w.heap.size k W1 hk1)
 rw [show l.filter (fun x => decide (x.kind ≠ k)) = remK l k from rfl] at hi
 obtain ⟨m, hm⟩ : ∃ m, remK l k = m := ⟨_, rfl⟩
 rw [hm] at hi ⊢
 clear hm
 go_enter Tryz.func210, Tryz.ntmps210
 go_wp2_with fail
 clear hW1
 refine hi.mono ?_
 rintro e w2 ⟨u, rfl, ho, hb2⟩
 have hz := hB1.size
 obtain ⟨A2, c2, rfl, hR2⟩ := ho.form
 go_wp2
 go_ret
 exact ⟨_, rfl, ho.mono hz, hB1.trans hb2⟩
theorem valid_any (A : Option Addr) (c : Nat) (l : List Bl) (w : World) (hA : Rd EBl w A l) (hv : blksE l = 0) :
 Calls Tryz.prog 130 #[.slice A l.length c] w fun e w' => e = .returned (.bool true) /\ Ext w w' := by
 have hi := encAll_any A c l w hA hv
 generalize strV (encAll l) = sv at *
 go_enter Tryz.func130, Tryz.ntmps130
 go_wp2_with fail
 refine hi.mono ?_
 rintro e w2 ⟨rfl, hb2⟩
 go_wp2
 go_ret
 exact ⟨rfl, hb2⟩
theorem put1_pred (g : Nat) (b : Bl) (w : World) (hg : Blk w g 116 #[.int .i64 b.kind, .int .i64 b.flags, strV b.data]) : PredB w 133 #[.pointer (some ⟨g, 0, none⟩)] (fun x => decide (x.kind < b.kind)) := by
 refine ⟨enters_of Tryz.func133 (by kernel_rfl) rfl, fun x w1 hw => ?_⟩
 obtain ⟨ba, hba, -⟩ := strV_str x.data
 rw [hba]
 obtain ⟨kd, hkd⟩ : ∃ kd, x.kind = kd := ⟨_, rfl⟩
 obtain ⟨fl, hfl⟩ : ∃ fl, x.flags = fl := ⟨_, rfl⟩
 rw [hkd, hfl]
 obtain ⟨W, hW, hB, hk, hlt⟩ := box1 w1 #[.int .i64 kd, .int .i64 fl, .string ba] 116
 have hc := hk.cell
 have hd := ((hg.ext hw).ext hB).cell
 have he := ((hg.ext hw).ext hB).lt
 obtain ⟨k, hkk⟩ : ∃ k, b.kind = k := ⟨_, rfl⟩
 rw [hkk] at hd ⊢
 obtain ⟨r, hr⟩ : ∃ r, decide (kd < k) = r := ⟨_, rfl⟩
 rw [hr]
 clear hkd hfl hba
 go_enter Tryz.func133, Tryz.ntmps133
 go_wp2
 go_ret
 exact ⟨rfl, hB⟩
theorem put2_pred (g : Nat) (b : Bl) (w : World) (hg : Blk w g 116 #[.int .i64 b.kind, .int .i64 b.flags, strV b.data]) : PredB w 134 #[.pointer (some ⟨g, 0, none⟩)] (fun x => decide (b.kind < x.kind)) := by
 refine ⟨enters_of Tryz.func134 (by kernel_rfl) rfl, fun x w1 hw => ?_⟩
 obtain ⟨ba, hba, -⟩ := strV_str x.data
 rw [hba]
 obtain ⟨kd, hkd⟩ : ∃ kd, x.kind = kd := ⟨_, rfl⟩
 obtain ⟨fl, hfl⟩ : ∃ fl, x.flags = fl := ⟨_, rfl⟩
 rw [hkd, hfl]
 obtain ⟨W, hW, hB, hk, hlt⟩ := box1 w1 #[.int .i64 kd, .int .i64 fl, .string ba] 116
 have hc := hk.cell
 have hd := ((hg.ext hw).ext hB).cell
 have he := ((hg.ext hw).ext hB).lt
 obtain ⟨k, hkk⟩ : ∃ k, b.kind = k := ⟨_, rfl⟩
 rw [hkk] at hd ⊢
 obtain ⟨r, hr⟩ : ∃ r, decide (k < kd) = r := ⟨_, rfl⟩
 rw [hr]
 clear hkd hfl hba
 go_enter Tryz.func134, Tryz.ntmps134
 go_wp2
 go_ret
 exact ⟨rfl, hB⟩
theorem putK_app (l : List Bl) (b : Bl) : putK l b = l.filter (fun x => decide (x.kind < b.kind)) ++ [b] ++ l.filter (fun x => decide (b.kind < x.kind)) := by
 unfold putK
 simp
def PutC (m : List Bl) (base : Nat) (w0 : World) (u : Value) (w : World) : Prop := ∃ A c, u = .slice A m.length c /\ Owns EBl w base 116 (.slice A m.length c) m /\ Ext w0 w
def PutR (l : List Bl) (b : Bl) (w : World) (e : Ending) (w' : World) : Prop :=
 (b.err ≠ 0 /\ e = .returned (.tuple #[.slice none 0 0, .int .i64 b.err])) ∨
 (b.err = 0 /\ 8 < (putK l b).length /\ e = .returned (.tuple #[.slice none 0 0, .int .i64 4])) ∨
 (b.err = 0 /\ (putK l b).length <= 8 /\ ∃ u, e = .returned (.tuple #[u, .int .i64 0]) /\ Owns EBl w' w.heap.size 116 u (putK l b))
set_option maxRecDepth 100000 in
set_option maxHeartbeats 16000000 in
theorem put_any (A : Option Addr) (c : Nat) (l : List Bl) (b : Bl) (w0 : World) (hA : Rd EBl w0 A l) (hv : blksE l = 0) :
 Calls Tryz.prog 50 #[.slice A l.length c, .agg #[.int .i64 b.kind, .int .i64 b.flags, strV b.data]] w0 fun e w' => PutR l b w0 e w' /\ Ext w0 w' := by
 have hll := (blksE_ok.1 hv).1
 obtain ⟨W1, hW1, hB1, hk1, hl1⟩ := box1 w0 #[.int .i64 b.kind, .int .i64 b.flags, strV b.data] 116
 have f0 := fun w h => valid_any A c l w h hv
 have f1 := fun w => blChk_any b w
 have f2 := fun w h hg => filter_any A c l 133 #[.pointer (some ⟨w0.heap.size, 0, none⟩)] (fun x => decide (x.kind < b.kind)) w h (by omega) (put1_pred w0.heap.size b w hg)
 have f3 := fun w h hg => filter_any A c l 134 #[.pointer (some ⟨w0.heap.size, 0, none⟩)] (fun x => decide (b.kind < x.kind)) w h (by omega) (put2_pred w0.heap.size b w hg)
 have hpk := putK_app l b
 have hm1l := List.length_filter_le (fun x : Bl => decide (x.kind < b.kind)) l
 have hm2l := List.length_filter_le (fun x : Bl => decide (b.kind < x.kind)) l
 obtain ⟨m1, hm1⟩ : ∃ m, l.filter (fun x => decide (x.kind < b.kind)) = m := ⟨_, rfl⟩
 obtain ⟨m2, hm2⟩ : ∃ m, l.filter (fun x => decide (b.kind < x.kind)) = m := ⟨_, rfl⟩
 rw [hm1] at f2 hpk hm1l
 rw [hm2] at f3 hpk hm2l
 clear hm1 hm2
 obtain ⟨ba, hba, -⟩ := strV_str b.data
 obtain ⟨er, her⟩ : ∃ er, b.err = er := ⟨_, rfl⟩
 have HER := Lib.hid her
 have hc1 := hk1.cell
 have hBA := Lib.hid hba
 rw [hba] at hW1 hc1 f1 ⊢
 rw [her] at f1
 clear her hba
 by_cases h0 : er = 0
 case neg =>
  have hn0 : (er != 0) = true := by rw [bne_iff_ne]; exact h0
  go_enter Tryz.func50, Tryz.ntmps50
  go_wp2_with fail
  clear hW1
  refine (f0 _ (hA.ext hB1)).mono ?_
  rintro e w2 ⟨rfl, hb2⟩
  have c2 := (hk1.ext hb2).cell
  have l2 := (hk1.ext hb2).lt
  rw [hBA.out] at c2
  clear hc1
  go_wp2_with fail
  refine (f1 _).mono ?_
  rintro e w3 ⟨rfl, hb3⟩
  go_wp2
  go_ret2
  exact ⟨.inl ⟨by rw [HER.out]; exact h0, by rw [HER.out]; rfl⟩, (hB1.trans hb2).trans hb3⟩
 subst h0
 have HPK := Lib.hid hpk
 have HM1 := Lib.hid hm1l
 have HM2 := Lib.hid hm2l
 have HLL := Lib.hid hll
 obtain ⟨i0, hi0, hz0, hz1, hz2⟩ := info_parts info_block
 have HCL := Lib.hid (show (EBl.cells b).toArray = #[.int .i64 b.kind, .int .i64 b.flags, .string ba] by show #[Value.int .i64 b.kind, .int .i64 b.flags, strV b.data] = _; rw [hBA.out])
 clear hpk hm1l hm2l hll
 go_enter Tryz.func50, Tryz.ntmps50
 go_wp2_with fail
 clear hW1
 refine (f0 _ (hA.ext hB1)).mono ?_
 rintro e w2 ⟨rfl, hb2⟩
 have c2 := (hk1.ext hb2).cell
 have l2 := (hk1.ext hb2).lt
 rw [hBA.out] at c2
 clear hc1
 go_wp2_with fail
 refine (f1 _).mono ?_
 rintro e w3 ⟨rfl, hb3⟩
 have hk3 := (hk1.ext hb2).ext hb3
 have c3 := hk3.cell
 have l3 := hk3.lt
 rw [hBA.out] at c3
 have hE3 := (hB1.trans hb2).trans hb3
 have hA3 := hA.ext hE3
 clear c2 l2 f0 f1
 have hz3 := hE3.size
 go_wp2_with fail
 go_cut [7] from 16 to 22 (fun u wx => PutC (m1 ++ [b]) w3.heap.size w3 u wx)
 case first =>
  have near : ∀ w', Ext w3 w' -> Ext w3 w' /\ ∀ b o, b < w3.heap.size -> w'.cell? ⟨b, o, none⟩ = w3.cell? ⟨b, o, none⟩ := fun w' h => ⟨h, fun b o hb => h.cell hb⟩
  refine wp_region_P (fun _ => false) (fun w' => Ext w3 w' /\ ∀ b o, b < w3.heap.size -> w'.cell? ⟨b, o, none⟩ = w3.cell? ⟨b, o, none⟩) (by kernel_rfl) (near _ (Ext.refl w3).drew) (fun _ => ?_)
  refine pT 0 (v := ?_) rfl (fun _ _ _ h => h) (by rfl) ?_ ?_
  rotate_left
  ·intro w'; go_simp; first | done | with_reducible rfl
  try simp only [Act.put, sp1]
  refine pT 1 (v := ?_) rfl (fun _ _ _ h => h) (by rfl) ?_ ?_
  rotate_left
  ·intro w'; go_simp; first | done | with_reducible rfl
  try simp only [Act.put, sp1]
  refine pK 3 (v := ?_) rfl (fun _ _ _ h => h) (by rfl) ?_ (by assumption) ?_
  rotate_left
  ·intro w' hw'
   (try have hC := hw'.2)
   (try have hC9 := hw'.1)
   go_simp
   first | done | with_reducible rfl
  try simp only [Act.put, sp1]
  refine wpAnyP_ready (rs := [2, 4]) (by kernel_rfl) (by simp) ?_
  refine AllReadyP.cons rfl (fun K hK => ?_) (AllReadyP.cons rfl (fun K hK => ?_) AllReadyP.nil)
  ·go_simp
   refine (f2 w3.drew (hA3.ext (Ext.refl w3).drew) (hk3.ext (Ext.refl w3).drew)).mono ?_
   rintro e w4 ⟨u4, rfl, ho4, hb4⟩
   have hx4 := (Ext.refl w3).drew.trans hb4
   replace ho4 : Owns EBl w4 w3.heap.size 116 u4 m1 := ho4
   obtain ⟨A4, c4, rfl, hR4⟩ := ho4.form
   have hz4 := hx4.size
   refine hK.out _ _ (fun _ _ => near _ hx4) ?_
   clear hK K
   refine pO 4 rfl (fun K hK => ?_)
   go_simp
   refine hK.out _ _ (fun _ _ => near _ (hx4.alloc _)) ?_
   clear hK K
   refine pO 5 rfl (fun K hK => ?_)
   refine step_push (y := b) (by rfl) (.tmp 18) (.tmp 20) _ (by rfl) w3.heap.size 116 i0 _ 32 Tryz.underlying27 hi0 hz0 hz1 hz2 (by rfl) (.slice A4 m1.length c4) (by rfl) (ho4.ext ((Ext.refl _).alloc _)) w4.heap.size (by rfl) (by rw [HCL.out]; exact Blk.new w4 _ _) (by have := HM1.out; have := HLL.out; simp only [maxLen]; omega) (by have := HM1.out; have := HLL.out; omega) (by simp; omega) ?_
   intro v6 w6 hv6 hg6 hat6
   have hx6 := ext_grown (hx4.alloc _) (ho4.ext ((Ext.refl _).alloc _)) (Nat.le_refl _) hg6
   obtain ⟨A6, c6, rfl, hR6⟩ := hv6.form
   refine hK.out _ _ (fun _ _ => near _ hx6) ?_
   clear hK K
   refine pT 6 (v := ?_) rfl (fun _ _ _ h => h) (by rfl) ?_ ?_
   rotate_left
   ·intro w'; go_simp; first | done | with_reducible rfl
   try simp only [Act.put, sp1]
   simp only [List.getElem_toArray, List.getElem_cons_succ, List.getElem_cons_zero, Act.put, sp1]
   refine wpAnyP_done (by kernel_rfl) ?_ _
   go_wp2
   go_meet
   exact ⟨A6, c6, by rw [List.length_append, List.length_singleton], hv6, hx6⟩
  ·obtain ⟨W5, hW5, hB5, hk5, hl5⟩ := box1 w3.drew #[.int .i64 b.kind, .int .i64 b.flags, .string ba] 116
   have hx5 := (Ext.refl w3).drew.trans hB5
   go_simp
   refine hK.out _ _ (fun _ _ => near _ hx5) ?_
   clear hK K hW5
   refine pO 2 rfl (fun K hK => ?_)
   go_simp
   refine (f2 W5 (hA3.ext hx5) (hk3.ext hx5)).mono ?_
   rintro e w4 ⟨u4, rfl, ho4, hb4⟩
   have hx4 := hx5.trans hb4
   have hz5 := hx5.size
   replace ho4 : Owns EBl w4 w3.heap.size 116 u4 m1 := ho4.mono hz5
   obtain ⟨A4, c4, rfl, hR4⟩ := ho4.form
   have hz4 := hx4.size
   have hk9 := hk5.ext hb4
   refine hK.out _ _ (fun _ _ => near _ hx4) ?_
   clear hK K
   refine pO 5 rfl (fun K hK => ?_)
   refine step_push (y := b) (by rfl) (.tmp 18) (.tmp 20) _ (by rfl) w3.heap.size 116 i0 _ 32 Tryz.underlying27 hi0 hz0 hz1 hz2 (by rfl) (.slice A4 m1.length c4) (by rfl) (ho4) w3.heap.size (by rfl) (by rw [HCL.out]; exact hk9) (by have := HM1.out; have := HLL.out; simp only [maxLen]; omega) (by have := HM1.out; have := HLL.out; omega) (by omega) ?_
   intro v6 w6 hv6 hg6 hat6
   have hx6 := ext_grown (hx4) (ho4) (Nat.le_refl _) hg6
   obtain ⟨A6, c6, rfl, hR6⟩ := hv6.form
   refine hK.out _ _ (fun _ _ => near _ hx6) ?_
   clear hK K
   refine pT 6 (v := ?_) rfl (fun _ _ _ h => h) (by rfl) ?_ ?_
   rotate_left
   ·intro w'; go_simp; first | done | with_reducible rfl
   try simp only [Act.put, sp1]
   simp only [List.getElem_toArray, List.getElem_cons_succ, List.getElem_cons_zero, Act.put, sp1]
   refine wpAnyP_done (by kernel_rfl) ?_ _
   go_wp2
   go_meet
   exact ⟨A6, c6, by rw [List.length_append, List.length_singleton], hv6, hx6⟩
 case rest =>
  obtain ⟨A4, c4, rfl, ho4, hx4⟩ := hcut
  have hE4 := hE3.trans hx4
  have hz4 := hx4.size
  have hk4 := hk3.ext hx4
  obtain ⟨n1, hn1⟩ : ∃ n, (m1 ++ [b]).length = n := ⟨_, rfl⟩
  rw [hn1] at ho4 ⊢
  have HN1 := Lib.hid hn1
  have hn18 : n1 <= 9 := by rw [<- hn1, List.length_append, List.length_singleton]; have := HM1.out; have := HLL.out; omega
  clear hn1 c3 l3
  go_wp2_with fail
  refine (f3 wc (hA3.ext hx4) hk4).mono ?_
  rintro e w5 ⟨u5, rfl, ho5, hb5⟩
  obtain ⟨A5, c5, rfl, hR5⟩ := ho5.form
  have ho45 := ho4.ext hb5
  have hz5 := hb5.size
  obtain ⟨n2, hn2⟩ : ∃ n, m2.length = n := ⟨_, rfl⟩
  rw [hn2]
  have HN2 := Lib.hid hn2
  have hn28 : n2 <= 8 := by rw [<- hn2]; have := HM2.out; have := HLL.out; omega
  have hlen : n1 + n2 = (putK l b).length := by rw [HPK.out, List.length_append, HN1.out, HN2.out]
  have HLN := Lib.hid hlen
  clear hn2 hlen
  obtain ⟨tot, htot⟩ : ∃ t, n1 + n2 = t := ⟨_, rfl⟩
  have HTOT := Lib.hid htot
  have htl : (m1 ++ [b]).length + m2.length = tot := by rw [HN1.out, HN2.out, htot]
  have HTL := Lib.hid htl
  clear htl
  by_cases h8 : 8 < tot
  ·have hd : decide ((8 : Int) < (tot : Int)) = true := decide_eq_true (by omega)
   clear htot
   go_wp2_with (at_builtin; refine wpList_cat (l := m1 ++ [b]) (m := m2) rfl (.tmp 22) (.tmp 25) _ (by rfl) w3.heap.size 116 i0 _ 32 Tryz.underlying27 hi0 hz0 hz1 hz2 (by rfl) (.slice A4 n1 c4) (by rfl) ho45 c5 n2 (by rfl) (by rw [HN2.out]) hR5 (by rw [HN1.out, HN2.out]; simp only [maxLen]; omega) (by rw [HN1.out, HN2.out]; omega) (by omega) ?_; intro v6 w6 hv6 hg6 hat6; obtain ⟨A6, c6, rfl, hR6⟩ := hv6.form; rw [List.length_append, HTL.out] at hv6 ⊢)
   go_ret2
   exact ⟨.inr (.inl ⟨HER.out, by rw [<- HLN.out, HTOT.out]; exact h8, rfl⟩), hE3.trans (ext_grown (hx4.trans hb5) ho45 (Nat.le_refl _) hg6)⟩
  ·have hd : decide ((8 : Int) < (tot : Int)) = false := decide_eq_false (by omega)
   clear htot
   go_wp2_with (at_builtin; refine wpList_cat (l := m1 ++ [b]) (m := m2) rfl (.tmp 22) (.tmp 25) _ (by rfl) w3.heap.size 116 i0 _ 32 Tryz.underlying27 hi0 hz0 hz1 hz2 (by rfl) (.slice A4 n1 c4) (by rfl) ho45 c5 n2 (by rfl) (by rw [HN2.out]) hR5 (by rw [HN1.out, HN2.out]; simp only [maxLen]; omega) (by rw [HN1.out, HN2.out]; omega) (by omega) ?_; intro v6 w6 hv6 hg6 hat6; obtain ⟨A6, c6, rfl, hR6⟩ := hv6.form; rw [List.length_append, HTL.out] at hv6 ⊢)
   go_ret2
   exact ⟨.inr (.inr ⟨HER.out, by rw [<- HLN.out, HTOT.out]; omega, _, rfl, by rw [HPK.out]; exact hv6.mono hz3⟩), hE3.trans (ext_grown (hx4.trans hb5) ho45 (Nat.le_refl _) hg6)⟩
end
section
open Go.RowKit Go.Shelf
attribute [local go_sem] Oper.semAt_some
theorem flatMap_len_le {α : Type} {f : α -> Bts} {m : Nat} : ∀ {l : List α}, (∀ x ∈ l, (f x).length <= m) -> (l.flatMap f).length <= m * l.length
 | [], _ => by simp
 | x :: l, h => by
   have h1 := h x (by simp)
   have h2 := flatMap_len_le (l := l) (fun y hy => h y (by simp [hy]))
   rw [List.flatMap_cons, List.length_append, List.length_cons, Nat.mul_add]
   omega
theorem encAll_len {l : List Bl} (hv : blksE l = 0) : (encAll l).length <= 8810 := by
 obtain ⟨h8, hok, _⟩ := blksE_ok.1 hv
 have h1 := flatMap_len_le (l := l) (f := Bl.enc) (m := 1100) (fun x hx => blEnc_len (hok x hx))
 have h2 := vint_len (l.length : Int)
 unfold encAll
 rw [List.length_append]
 have : 1100 * l.length <= 1100 * 8 := Nat.mul_le_mul_left _ h8
 omega
theorem buE_all {b : Bu} (h : buE b = 0) : idE b.src b.cr b.seq b.off b.tot = 0 /\ epE b.dk b.dn = 0 /\ (1 <= b.life /\ b.life <= 1099511627776 - b.cr) /\ (0 <= b.prio /\ b.prio <= 2) /\ flgE b.flags b.tot = 0 /\ blksE b.blocks = 0 /\ payE b.off b.tot b.pay.length = 0 := by
 unfold buE at h
 split at h
 ·rename_i h1; exact absurd h h1
 ·rename_i a1
  split at h
  ·rename_i h1; exact absurd h h1
  ·rename_i a2
   split at h
   ·omega
   ·rename_i a3
    split at h
    ·omega
    ·rename_i a4
     split at h
     ·rename_i h1; exact absurd h h1
     ·rename_i a5
      split at h
      ·rename_i h1; exact absurd h h1
      ·rename_i a6
       exact ⟨by simpa using a1, by simpa using a2, by omega, by omega, by simpa using a5, by simpa using a6, h⟩
theorem bu_nums {b : Bu} (h : buE b = 0) : ∀ n ∈ b.nums, -1152921504606846976 <= n /\ n <= 1152921504606846976 := by
 obtain ⟨h1, h2, h3, h4, h5, _, _⟩ := buE_all h
 have i1 : (0 <= b.src /\ b.src <= 15) /\ (0 <= b.cr /\ b.cr <= 1099511627776) /\ (0 <= b.seq /\ b.seq <= 1099511627776) := by
  unfold idE at h1
  split at h1
  ·omega
  ·omega
 obtain ⟨i2, i3, _⟩ := idE_ok h1
 have i4 : (b.dk = 1 ∨ b.dk = 2) /\ 0 <= b.dn /\ b.dn <= 16 := by
  unfold epE at h2
  split at h2
  ·split at h2 <;> omega
  ·split at h2
   ·split at h2 <;> omega
   ·omega
 have i5 : 0 <= b.flags /\ b.flags <= 127 := by
  unfold flgE at h5
  split at h5
  ·omega
  ·omega
 intro n hn
 simp only [Bu.nums, List.mem_cons, List.not_mem_nil, or_false] at hn
 rcases hn with rfl | rfl | rfl | rfl | rfl | rfl | rfl | rfl | rfl | rfl <;> omega
theorem bu_pay {b : Bu} (h : buE b = 0) : b.pay.length <= 4096 := by
 have := (buE_all h).2.2.2.2.2.2
 unfold payE at this
 split at this
 ·omega
 ·omega
theorem nums_cell (b : Bu) (A : Option Addr) (c k : Nat) (hk : k < b.nums.length) : (b.cells A c)[k]? = some (.int .i64 b.nums[k]) := by
 have h : k = 0 ∨ k = 1 ∨ k = 2 ∨ k = 3 ∨ k = 4 ∨ k = 5 ∨ k = 6 ∨ k = 7 ∨ k = 8 ∨ k = 9 := by
  have : b.nums.length = 10 := rfl
  omega
 rcases h with rfl | rfl | rfl | rfl | rfl | rfl | rfl | rfl | rfl | rfl <;> rfl
set_option maxRecDepth 100000 in
set_option maxHeartbeats 16000000 in
theorem buEnc_any (b : Bu) (A : Option Addr) (cap : Nat) (w : World) (hR : Rd EBl w A b.blocks) (hv : buE b = 0) :
 Calls Tryz.prog 32 #[.agg (b.cells A cap)] w fun e w' => e = .returned (.tuple #[strV b.enc, .int .i64 0]) /\ Ext w w' := by
 have f1 := fun w h => buChk_any b A cap w h
 rw [hv] at f1
 have f2 := fun w => Text_any [77, 66, 49] w (by simp)
 have hbl := (buE_all hv).2.2.2.2.2.1
 have f4 := fun w h => encAll_any A cap b.blocks w h hbl
 have hpl := bu_pay hv
 have f5 := fun w => Text_any b.pay w (by omega)
 have le := encAll_len hbl
 have lp := vtext_len b.pay
 have ln := bu_nums hv
 have HE := Lib.hid (show b.enc = sealB (vtext [77, 66, 49] ++ b.nums.flatMap vint ++ encAll b.blocks ++ vtext b.pay) from rfl)
 have l0 := vtext_len [77, 66, 49]
 have l1 := flatMap_len_le (l := b.nums) (f := vint) (m := 10) (fun x _ => vint_len x)
 have hnl : b.nums.length = 10 := rfl
 have hcl := nums_cell b A cap
 obtain ⟨T0, hT0⟩ : ∃ T, vtext [77, 66, 49] = T := ⟨_, rfl⟩
 obtain ⟨T1, hT1⟩ : ∃ T, encAll b.blocks = T := ⟨_, rfl⟩
 obtain ⟨T2, hT2⟩ : ∃ T, vtext b.pay = T := ⟨_, rfl⟩
 rw [hT0] at f2 HE l0
 rw [hT1] at f4 HE le
 rw [hT2] at f5 HE lp
 have f6 := fun w => Seal_any (T0 ++ b.nums.flatMap vint ++ T1 ++ T2) w (by simp only [List.length_append]; simp only [List.length_cons, List.length_nil] at l0; omega)
 obtain ⟨z0, hz0, hzv0, hzs0⟩ := str_name (T0 ++ b.nums.flatMap vint)
 obtain ⟨z1, hz1, hzv1, hzs1⟩ := str_name T1
 obtain ⟨z2, hz2, hzv2, hzs2⟩ := str_name T2
 obtain ⟨z3, hz3, hzv3, hzs3⟩ := str_name (T0 ++ b.nums.flatMap vint ++ T1)
 obtain ⟨z4, hz4, hzv4, hzs4⟩ := str_name (T0 ++ b.nums.flatMap vint ++ T1 ++ T2)
 have q1 := str_cat _ _ hz0 hz1 hz3
 have q2 := str_cat _ _ hz3 hz2 hz4
 simp only [List.length_append, List.length_cons, List.length_nil] at hzs0 hzs3 hzs4 l0
 have y1 : z0.size + z1.size <= 9223372036854775807 := by omega
 have y2 : z3.size + z2.size <= 9223372036854775807 := by omega
 rw [hzv1] at f4
 rw [hzv2] at f5
 rw [hzv4] at f6
 obtain ⟨sv, hsv⟩ : ∃ sv, strV (sealB (T0 ++ b.nums.flatMap vint ++ T1 ++ T2)) = sv := ⟨_, rfl⟩
 rw [hsv] at f6
 have HV := Lib.hid (show strV b.enc = sv by rw [HE.out, hsv])
 obtain ⟨t0, ht0, htv0, hts0⟩ := str_name T0
 rw [htv0] at f2
 have f2' : ∀ w, Calls Tryz.prog 104 #[.string ⟨#[77, 66, 49]⟩] w fun e w' => e = .returned (.tuple #[.string t0, .int .i64 0]) /\ Ext w w' := f2
 obtain ⟨ba, hba, -⟩ := strV_str b.pay
 rw [hba] at f5
 have HZ0 := Lib.hid hzv0
 have hT0l : T0.length <= 13 := by omega
 rw [HV.out]
 have f3 := fun B w h => numbers_any B w h
 have hpi := fun B k hk => ptrs_index B k hk
 obtain ⟨PS, hPS⟩ : ∃ PS, ptrs w.heap.size = PS := ⟨_, rfl⟩
 have f3' := f3 w.heap.size
 have hpi' := hpi w.heap.size
 rw [hPS] at f3' hpi'
 have hcnv := fun w => conv_bytes (P := Tryz.prog) w 9 22 5 T0 Tryz.underlying9 Tryz.underlying22 Tryz.underlying5 (by omega)
 rw [htv0] at hcnv
 have hcells : b.cells A cap = #[.int .i64 b.src, .int .i64 b.cr, .int .i64 b.seq, .int .i64 b.off, .int .i64 b.tot, .int .i64 b.dk, .int .i64 b.dn, .int .i64 b.life, .int .i64 b.prio, .int .i64 b.flags, .slice A b.blocks.length cap, .string ba] := by unfold Bu.cells; rw [hba]
 rw [hcells] at f1 hcl ⊢
 obtain ⟨W, hW, hB, hk, hlt⟩ := box1 w #[.int .i64 b.src, .int .i64 b.cr, .int .i64 b.seq, .int .i64 b.off, .int .i64 b.tot, .int .i64 b.dk, .int .i64 b.dn, .int .i64 b.life, .int .i64 b.prio, .int .i64 b.flags, .slice A b.blocks.length cap, .string ba] 29
 have hc := hk.cell
 have HCL := Lib.hid hcl
 have HLN := Lib.hid ln
 have HNL := Lib.hid hnl
 clear f2 f3 hpi hPS hT0 hT1 hT2 hz0 hz1 hz2 hz3 hz4 hzv0 hzv1 hzv2 hzv3 hzv4 hzs0 hzs1 hzs2 hzs3 hzs4 hsv ht0 htv0 hts0 hba hcells hcl ln hnl le lp l0 l1 hpl hv hbl
 go_enter Tryz.func32, Tryz.ntmps32
 go_wp2_with fail
 clear hW
 refine (f1 _ (hR.ext hB)).mono ?_
 clear f1
 rintro e w1 ⟨rfl, hb1⟩
 have hx1 := hb1
 have c1 := (hk.ext hx1).cell
 clear hc
 go_wp2_with fail
 refine (f2' _).mono ?_
 clear f2'
 rintro e w2 ⟨rfl, hb2⟩
 have hx2 := hx1.trans hb2
 obtain ⟨cp, w3, q3, ho3, hx3, -⟩ := hcnv w2
 have hx3' := hx2.trans hx3
 have e3 := (hk.ext hx3').lt
 clear c1 hcnv
 go_wp2_with fail
 refine (f3' _ e3).mono ?_
 clear f3'
 rintro e w4 ⟨rfl, hb4⟩
 clear q3
 go_wp2_with fail
 go_loopg [7, 28] 10 (fun n u v wr => ∃ k : Nat, k + n = 10 /\ v = .int .i64 k /\ OwnsB wr w2.heap.size 5 u (T0 ++ (b.nums.take k).flatMap vint) /\ Ext w2 wr)
 case atStart => exact ⟨0, rfl, by go_num, by simpa using ho3.ext hb4, hx3.trans hb4⟩
 case round =>
  obtain ⟨k, hkn, rfl, ho, hE⟩ := hrel
  have Hkn := Lib.hid hkn
  have hk10 : k <= 10 := by omega
  clear hkn
  have hxr := hx2.trans hE
  by_cases hlt : k < 10
  ·have hkl : k < b.nums.length := by rw [HNL.out]; exact hlt
   have a1 := ((hk.ext hxr).cell k).trans (HCL.out k hkl)
   have a2 := (hk.ext hxr).lt
   have fi := fun w => Int_any b.nums[k] w (HLN.out _ (List.getElem_mem hkl))
   have hst : Hid (T0 ++ (b.nums.take (k + 1)).flatMap vint = T0 ++ (b.nums.take k).flatMap vint ++ vint b.nums[k]) := Lib.hid (by rw [<- List.take_append_getElem hkl, List.flatMap_append]; simp)
   have hvl := vint_len b.nums[k]
   have hfl := flatMap_len_le (l := b.nums.take k) (f := vint) (m := 10) (fun x _ => vint_len x)
   have hpk := hpi' k hlt
   rw [List.length_take] at hfl
   obtain ⟨n, hn⟩ : ∃ n, b.nums[k] = n := ⟨_, rfl⟩
   rw [hn] at a1 fi hst hvl
   obtain ⟨V, hV⟩ : ∃ V, vint n = V := ⟨_, rfl⟩
   rw [hV] at fi hst hvl
   obtain ⟨P, hP⟩ : ∃ P, T0 ++ (b.nums.take k).flatMap vint = P := ⟨_, rfl⟩
   have hPl : P.length <= 1013 := by rw [<- hP, List.length_append]; omega
   rw [hP] at ho hst
   obtain ⟨i0, hi0, hz0, hz1, hz2⟩ := info_parts info_byte
   obtain ⟨va, hva, hvv, -⟩ := str_name V
   rw [hvv] at fi
   obtain ⟨A1, c1, rfl, hR1⟩ := ho.form
   clear hn hV hP hva hfl
   go_wp2_with fail
   clear a1 a2
   refine (fi _).mono ?_
   clear fi
   rintro e w5 ⟨rfl, hb5⟩
   obtain ⟨v6, w6, q6, ho6, hg6⟩ := run_append_stringB (P := Tryz.prog) w5 w2.heap.size 22 9 22 5 i0 Tryz.underlying22 Tryz.underlying9 hi0 hz0 hz1 hz2 _ P (ho.ext hb5) V (by omega) (by have := hb5.size; have := hE.size; omega)
   rw [hvv] at q6
   have hE6 : Ext w2 w6 := (hE.trans hb5).keptb hg6 (fun r e => (ho.block e).1)
   go_wp2_with (at_builtin; refine wpList_appendEq rfl (.tmp 38) (.tmp 39) _ _ (by rfl) (by rfl) (by rfl) q6 ?_)
   go_roundg (gk - 1)
   case measure => have := Hkn.out; omega
   case rel => exact ⟨k + 1, by have := Hkn.out; omega, by go_num, by rw [hst.out]; exact ho6, hE6⟩
  ·obtain rfl : k = 10 := by omega
   rw [show b.nums.take 10 = b.nums from rfl] at ho
   obtain ⟨FL, hFL⟩ : ∃ FL, T0 ++ b.nums.flatMap vint = FL := ⟨_, rfl⟩
   rw [hFL] at ho HZ0
   clear hFL
   obtain ⟨A1, c1, rfl, hR1⟩ := ho.form
   have hc := (hk.ext hxr).cell
   go_wp2_with fail
   refine (f4 _ ((hR.ext hB).ext hxr)).mono ?_
   clear f4
   rintro e w5 ⟨rfl, hb5⟩
   have hx5 := hxr.trans hb5
   have hc5 := (hk.ext hx5).cell
   have hl5 := (hk.ext hx5).lt
   clear hc
   go_wp2_with fail
   refine (f5 _).mono ?_
   clear f5
   rintro e w6 ⟨rfl, hb6⟩
   have hR6 := (hR1.ext hb5).ext hb6
   have q9 := conv_str (P := Tryz.prog) w6 22 9 5 A1 c1 FL Tryz.underlying22 Tryz.underlying5 Tryz.underlying9 hR6
   rw [HZ0.out] at q9
   clear hc5 hl5
   go_wp2_with fail
   refine (f6 _).mono ?_
   clear f6
   rintro e w7 ⟨rfl, hb7⟩
   go_wp2
   go_ret2
   exact ⟨rfl, (hB.trans hx5).trans (hb6.trans hb7)⟩
end
section
open Go.RowKit Go.Shelf
attribute [local go_sem] Oper.semAt_some
theorem rdI_err {s : Bts} (h : (rdI s).1 ≠ 0) : rdI s = ((rdI s).1, 0, 0) := by
 unfold rdI at h ⊢
 split
 ·rfl
 ·rename_i h1
  rw [if_neg h1] at h
  split
  ·rfl
  ·rename_i h2
   rw [if_neg h2] at h
   split
   ·rename_i h3
    rw [if_pos h3] at h
    exact absurd rfl h
   ·rfl
theorem rdN_err {s : Bts} (h : (rdN s).1 ≠ 0) : (rdN s).2.1 = 0 /\ (rdN s).2.2 <= s.length := by
 unfold rdN at h ⊢
 split
 ·exact ⟨rfl, Nat.zero_le _⟩
 ·rename_i h1
  rw [if_neg h1] at h
  split
  ·exact ⟨rfl, (rdI_le (by simpa using h1)).2.1⟩
  ·rename_i h2
   rw [if_neg h2] at h
   exact absurd (by simpa using h1) h
theorem rdN_le {s : Bts} (h : (rdN s).1 = 0) : 1 <= (rdN s).2.2 /\ (rdN s).2.2 <= s.length /\ 0 <= (rdN s).2.1 /\ (rdN s).2.1 <= 65536 := by
 unfold rdN at h ⊢
 split at h
 ·rename_i h1; exact absurd h h1
 ·rename_i h1
  rw [if_neg h1]
  split at h
  ·cases h
  ·rename_i h2
   rw [if_neg h2]
   have := rdI_le (s := s) (by simpa using h1)
   exact ⟨this.1, this.2.1, by omega, by omega⟩
set_option maxRecDepth 100000 in
set_option maxHeartbeats 4000000 in
theorem length_any (g : Nat) (s : Bts) (a : Nat) (w : World) (hk : Blk w g 372 #[strV s, .int .i64 a, .int .i64 0]) (hs : s.length <= 1000000) (ha : a <= s.length) :
 Calls Tryz.prog 253 #[.pointer (some ⟨g, 0, none⟩)] w fun e w' => e = .returned (.int .i64 (rdN (s.drop a)).2.1) /\ Ups g w w' /\ Blk w' g 372 #[strV s, .int .i64 ((a + (rdN (s.drop a)).2.2 : Nat) : Int), .int .i64 (rdN (s.drop a)).1] := by
 have f1 := integer_any g s a w hk hs ha
 have f2 := fun w u v c hk => vfail_any g u v 0 c w hk
 have he := rdI_err (s := s.drop a)
 have hd : rdN (s.drop a) = if (rdI (s.drop a)).1 ≠ 0 then ((rdI (s.drop a)).1, 0, 0) else if (rdI (s.drop a)).2.1 < 0 ∨ 65536 < (rdI (s.drop a)).2.1 then (11, 0, (rdI (s.drop a)).2.2) else rdI (s.drop a) := rfl
 obtain ⟨r, hr⟩ : ∃ r, rdI (s.drop a) = r := ⟨_, rfl⟩
 obtain ⟨q, hq⟩ : ∃ q, rdN (s.drop a) = q := ⟨_, rfl⟩
 rw [hr] at f1 he hd
 rw [hq] at hd ⊢
 obtain ⟨sv, hsv⟩ : ∃ sv, strV s = sv := ⟨_, rfl⟩
 rw [hsv] at f1 hk ⊢
 obtain ⟨er, n, sz⟩ := r
 dsimp only at f1 he hd
 clear hr hq hsv
 by_cases h0 : er = 0
 ·subst h0
  rw [if_neg (by simp)] at hd
  have c1 := hk.cell
  have c2 := hk.lt
  by_cases h1 : n < 0 ∨ 65536 < n
  ·rw [if_pos h1] at hd
   subst hd
   by_cases h2 : n < 0
   ·clear h1
    go_enter Tryz.func253, Tryz.ntmps253
    go_wp2_with fail
    refine f1.mono ?_
    rintro e w1 ⟨rfl, hu1, hk1⟩
    clear c1 c2
    go_wp2_with fail
    refine (f2 _ _ _ 11 hk1).mono ?_
    rintro e w2 ⟨rfl, hu2, hk2⟩
    go_wp2
    go_ret
    exact ⟨rfl, hu1.trans hu2, hk2⟩
   ·have h3 : 65536 < n := by omega
    clear h1
    go_enter Tryz.func253, Tryz.ntmps253
    go_wp2_with fail
    refine f1.mono ?_
    rintro e w1 ⟨rfl, hu1, hk1⟩
    clear c1 c2
    go_wp2_with fail
    refine (f2 _ _ _ 11 hk1).mono ?_
    rintro e w2 ⟨rfl, hu2, hk2⟩
    go_wp2
    go_ret
    exact ⟨rfl, hu1.trans hu2, hk2⟩
  ·rw [if_neg h1] at hd
   subst hd
   have h2 : ¬ n < 0 := by omega
   have h3 : ¬ 65536 < n := by omega
   clear h1
   go_enter Tryz.func253, Tryz.ntmps253
   go_wp2_with fail
   refine f1.mono ?_
   rintro e w1 ⟨rfl, hu1, hk1⟩
   clear c1 c2
   go_wp2_with fail
   go_ret
   exact ⟨rfl, hu1, hk1⟩
 ·rw [if_pos h0] at hd
  have he := he h0
  injection he with _ he
  injection he with he1 he2
  subst he1 he2 hd
  go_enter Tryz.func253, Tryz.ntmps253
  go_wp2_with fail
  refine f1.mono ?_
  rintro e w1 ⟨rfl, hu1, hk1⟩
  go_wp2_with fail
  go_ret
  exact ⟨rfl, hu1, hk1⟩
set_option maxRecDepth 100000 in
set_option maxHeartbeats 4000000 in
theorem ReadInt_any (s : Bts) (w : World) (hs : s.length <= 1000000) :
 Calls Tryz.prog 190 #[strV s] w fun e w' => e = .returned (.tuple #[.int .i64 (rdI s).2.1, .int .i64 ((rdI s).2.2 : Nat), .int .i64 (rdI s).1]) /\ Ext w w' := by
 have f1 := fun g w hk => integer_any g s 0 w hk hs (Nat.zero_le _)
 simp only [List.drop_zero, Nat.zero_add] at f1
 have he := rdI_err (s := s)
 obtain ⟨r, hr⟩ : ∃ r, rdI s = r := ⟨_, rfl⟩
 rw [hr] at f1 he ⊢
 obtain ⟨ba, hba, hbv, hbs⟩ := str_name s
 rw [hbv] at f1 ⊢
 obtain ⟨er, n, sz⟩ := r
 dsimp only at f1 he ⊢
 obtain ⟨W, hW, hB, hk, hlt⟩ := box1 w #[.string ba, .int .i64 0, .int .i64 0] 372
 have hc := hk.cell
 clear hr hba hbv hbs
 by_cases h0 : er = 0
 ·subst h0
  go_enter Tryz.func190, Tryz.ntmps190
  go_wp2_with fail
  clear hW
  refine (f1 _ _ hk).mono ?_
  clear hc
  rintro e w1 ⟨rfl, hu1, hk1⟩
  have hE := hu1.ext hB (Nat.le_refl _)
  have c1 := hk1.cell
  have c2 := hk1.lt
  have hN := Near.refl w1
  go_upto_region 5 with fail
  have hC := hN.2
  have hq := quiet_near hN
  refine wp_region_quiet_below (by kernel_rfl) (by kernel_rfl) ?_
  repeat (first | go_big_quiet_skip | (go_big_quiet_want; go_big_quiet_op; first | go_big_quiet_on | (apply Exists.intro; refine ⟨fun _ => ?_, ?_⟩; (focus (first | fail)); go_big_quiet_on)))
  refine wpQuiet_nil ?_
  intro w1 hw1
  clear hq
  replace hw1 := quiet_ext hw1
  replace hN := hN.step hw1
  have hC := hN.2
  go_wp2
  go_ret3
  exact ⟨rfl, hE.trans hw1⟩
 ·have he := he h0
  injection he with _ he
  injection he with he1 he2
  subst he1 he2
  have hb : (er != 0) = true := by rw [bne_iff_ne]; exact h0
  go_enter Tryz.func190, Tryz.ntmps190
  go_wp2_with fail
  clear hW
  refine (f1 _ _ hk).mono ?_
  clear hc
  rintro e w1 ⟨rfl, hu1, hk1⟩
  have hE := hu1.ext hB (Nat.le_refl _)
  have c1 := hk1.cell
  have c2 := hk1.lt
  have hN := Near.refl w1
  go_upto_region 4 with fail
  have hC := hN.2
  have hq := quiet_near hN
  refine wp_region_quiet_below (by kernel_rfl) (by kernel_rfl) ?_
  repeat (first | go_big_quiet_skip | (go_big_quiet_want; go_big_quiet_op; first | go_big_quiet_on | (apply Exists.intro; refine ⟨fun _ => ?_, ?_⟩; (focus (first | fail)); go_big_quiet_on)))
  refine wpQuiet_nil ?_
  intro w1 hw1
  clear hq
  replace hw1 := quiet_ext hw1
  replace hN := hN.step hw1
  have hC := hN.2
  go_wp2
  go_ret3
  exact ⟨rfl, hE.trans hw1⟩
end
end Go.Proofs.YtemkpimngbbpkaaGreat

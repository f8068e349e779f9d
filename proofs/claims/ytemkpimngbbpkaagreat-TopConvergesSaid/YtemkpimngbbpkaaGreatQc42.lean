/- Security: block.Remove, valid, Put. · Security: bundle.Encode. · Layer 24 (journey): the walks of valid, CheckRequest, Foremost. -/
import Derived.BigRegion
import Derived.Test.YtemkpimngbbpkaaGreatQc04
import Derived.Test.YtemkpimngbbpkaaGreatQc05
import Derived.Test.YtemkpimngbbpkaaGreatQc18
import Derived.Test.YtemkpimngbbpkaaGreatQc26
import Derived.Test.YtemkpimngbbpkaaGreatQc28
import Derived.Test.YtemkpimngbbpkaaGreatQc41
namespace Go.Proofs.YtemkpimngbbpkaaGreat
set_option linter.unusedVariables false
set_option linter.unusedSimpArgs false
open Go.RowKit Go.Shelf
attribute [local go_sem] Oper.semAt_some
set_option maxHeartbeats 2000000 in
theorem rem_any (A : Option Addr) (c : Nat) (l : List Bl) (k : Int) (w : World) (hA : Rd EBl w A l) (hmax : l.length <= 1000000) :
 Calls Tryz.prog 210 #[.slice A l.length c, .int .i64 k] w fun e w' => ∃ u, e = .returned u /\ Owns EBl w' w.heap.size 116 u (remK l k) /\ Ext w w' := by
 obtain ⟨W1, hW1, hB1, hk1, hl1⟩ := box1 w #[.int .i64 k] 3
 have hi := filter_any A c l 272 #[.pointer (some ⟨w.heap.size, 0, none⟩)] (fun x => decide (x.kind ≠ k)) W1 (hA.ext hB1) hmax (remove1_pred w.heap.size k W1 hk1)
 rw [show l.filter (fun x => decide (x.kind ≠ k)) = remK l k from rfl] at hi
 obtain ⟨m, hm⟩ : ∃ m, remK l k = m := ⟨_, rfl⟩
 rw [hm] at hi ⊢
 clear hm
 go_enter Tryz.func210, Tryz.ntmps210
 go_wp2_with fail
 clear hW1
 refine hi.mono ?_
 rintro e w2 ⟨u, rfl, ho, hb2⟩
 have hz := hB1.size
 obtain ⟨A2, c2, rfl, hR2⟩ := ho.form
 go_wp2
 go_ret
 exact ⟨_, rfl, ho.mono hz, hB1.trans hb2⟩
theorem valid_any (A : Option Addr) (c : Nat) (l : List Bl) (w : World) (hA : Rd EBl w A l) (hv : blksE l = 0) :
 Calls Tryz.prog 130 #[.slice A l.length c] w fun e w' => e = .returned (.bool true) /\ Ext w w' := by
 have hi := encAll_any A c l w hA hv
 generalize strV (encAll l) = sv at *
 go_enter Tryz.func130, Tryz.ntmps130
 go_wp2_with fail
 refine hi.mono ?_
 rintro e w2 ⟨rfl, hb2⟩
 go_wp2
 go_ret
 exact ⟨rfl, hb2⟩
theorem put1_pred (g : Nat) (b : Bl) (w : World) (hg : Blk w g 116 #[.int .i64 b.kind, .int .i64 b.flags, strV b.data]) : PredB w 133 #[.pointer (some ⟨g, 0, none⟩)] (fun x => decide (x.kind < b.kind)) := by
 refine ⟨enters_of Tryz.func133 (by kernel_rfl) rfl, fun x w1 hw => ?_⟩
 obtain ⟨ba, hba, -⟩ := strV_str x.data
 rw [hba]
 obtain ⟨kd, hkd⟩ : ∃ kd, x.kind = kd := ⟨_, rfl⟩
 obtain ⟨fl, hfl⟩ : ∃ fl, x.flags = fl := ⟨_, rfl⟩
 rw [hkd, hfl]
 obtain ⟨W, hW, hB, hk, hlt⟩ := box1 w1 #[.int .i64 kd, .int .i64 fl, .string ba] 116
 have hc := hk.cell
 have hd := ((hg.ext hw).ext hB).cell
 have he := ((hg.ext hw).ext hB).lt
 obtain ⟨k, hkk⟩ : ∃ k, b.kind = k := ⟨_, rfl⟩
 rw [hkk] at hd ⊢
 obtain ⟨r, hr⟩ : ∃ r, decide (kd < k) = r := ⟨_, rfl⟩
 rw [hr]
 clear hkd hfl hba
 go_enter Tryz.func133, Tryz.ntmps133
 go_wp2
 go_ret
 exact ⟨rfl, hB⟩
theorem put2_pred (g : Nat) (b : Bl) (w : World) (hg : Blk w g 116 #[.int .i64 b.kind, .int .i64 b.flags, strV b.data]) : PredB w 134 #[.pointer (some ⟨g, 0, none⟩)] (fun x => decide (b.kind < x.kind)) := by
 refine ⟨enters_of Tryz.func134 (by kernel_rfl) rfl, fun x w1 hw => ?_⟩
 obtain ⟨ba, hba, -⟩ := strV_str x.data
 rw [hba]
 obtain ⟨kd, hkd⟩ : ∃ kd, x.kind = kd := ⟨_, rfl⟩
 obtain ⟨fl, hfl⟩ : ∃ fl, x.flags = fl := ⟨_, rfl⟩
 rw [hkd, hfl]
 obtain ⟨W, hW, hB, hk, hlt⟩ := box1 w1 #[.int .i64 kd, .int .i64 fl, .string ba] 116
 have hc := hk.cell
 have hd := ((hg.ext hw).ext hB).cell
 have he := ((hg.ext hw).ext hB).lt
 obtain ⟨k, hkk⟩ : ∃ k, b.kind = k := ⟨_, rfl⟩
 rw [hkk] at hd ⊢
 obtain ⟨r, hr⟩ : ∃ r, decide (k < kd) = r := ⟨_, rfl⟩
 rw [hr]
 clear hkd hfl hba
 go_enter Tryz.func134, Tryz.ntmps134
 go_wp2
 go_ret
 exact ⟨rfl, hB⟩
theorem putK_app (l : List Bl) (b : Bl) : putK l b = l.filter (fun x => decide (x.kind < b.kind)) ++ [b] ++ l.filter (fun x => decide (b.kind < x.kind)) := by
 unfold putK
 simp
def PutC (m : List Bl) (base : Nat) (w0 : World) (u : Value) (w : World) : Prop := ∃ A c, u = .slice A m.length c /\ Owns EBl w base 116 (.slice A m.length c) m /\ Ext w0 w
def PutR (l : List Bl) (b : Bl) (w : World) (e : Ending) (w' : World) : Prop :=
 (b.err ≠ 0 /\ e = .returned (.tuple #[.slice none 0 0, .int .i64 b.err])) ∨
 (b.err = 0 /\ 8 < (putK l b).length /\ e = .returned (.tuple #[.slice none 0 0, .int .i64 4])) ∨
 (b.err = 0 /\ (putK l b).length <= 8 /\ ∃ u, e = .returned (.tuple #[u, .int .i64 0]) /\ Owns EBl w' w.heap.size 116 u (putK l b))
set_option maxRecDepth 100000 in
set_option maxHeartbeats 16000000 in
theorem put_any (A : Option Addr) (c : Nat) (l : List Bl) (b : Bl) (w0 : World) (hA : Rd EBl w0 A l) (hv : blksE l = 0) :
 Calls Tryz.prog 50 #[.slice A l.length c, .agg #[.int .i64 b.kind, .int .i64 b.flags, strV b.data]] w0 fun e w' => PutR l b w0 e w' /\ Ext w0 w' := by
 have hll := (blksE_ok.1 hv).1
 obtain ⟨W1, hW1, hB1, hk1, hl1⟩ := box1 w0 #[.int .i64 b.kind, .int .i64 b.flags, strV b.data] 116
 have f0 := fun w h => valid_any A c l w h hv
 have f1 := fun w => blChk_any b w
 have f2 := fun w h hg => filter_any A c l 133 #[.pointer (some ⟨w0.heap.size, 0, none⟩)] (fun x => decide (x.kind < b.kind)) w h (by omega) (put1_pred w0.heap.size b w hg)
 have f3 := fun w h hg => filter_any A c l 134 #[.pointer (some ⟨w0.heap.size, 0, none⟩)] (fun x => decide (b.kind < x.kind)) w h (by omega) (put2_pred w0.heap.size b w hg)
 have hpk := putK_app l b
 have hm1l := List.length_filter_le (fun x : Bl => decide (x.kind < b.kind)) l
 have hm2l := List.length_filter_le (fun x : Bl => decide (b.kind < x.kind)) l
 obtain ⟨m1, hm1⟩ : ∃ m, l.filter (fun x => decide (x.kind < b.kind)) = m := ⟨_, rfl⟩
 obtain ⟨m2, hm2⟩ : ∃ m, l.filter (fun x => decide (b.kind < x.kind)) = m := ⟨_, rfl⟩
 rw [hm1] at f2 hpk hm1l
 rw [hm2] at f3 hpk hm2l
 clear hm1 hm2
 obtain ⟨ba, hba, -⟩ := strV_str b.data
 obtain ⟨er, her⟩ : ∃ er, b.err = er := ⟨_, rfl⟩
 have HER := Lib.hid her
 have hc1 := hk1.cell
 have hBA := Lib.hid hba
 rw [hba] at hW1 hc1 f1 ⊢
 rw [her] at f1
 clear her hba
 by_cases h0 : er = 0
 case neg =>
  have hn0 : (er != 0) = true := by rw [bne_iff_ne]; exact h0
  go_enter Tryz.func50, Tryz.ntmps50
  go_wp2_with fail
  clear hW1
  refine (f0 _ (hA.ext hB1)).mono ?_
  rintro e w2 ⟨rfl, hb2⟩
  have c2 := (hk1.ext hb2).cell
  have l2 := (hk1.ext hb2).lt
  rw [hBA.out] at c2
  clear hc1
  go_wp2_with fail
  refine (f1 _).mono ?_
  rintro e w3 ⟨rfl, hb3⟩
  go_wp2
  go_ret2
  exact ⟨.inl ⟨by rw [HER.out]; exact h0, by rw [HER.out]; rfl⟩, (hB1.trans hb2).trans hb3⟩
 subst h0
 have HPK := Lib.hid hpk
 have HM1 := Lib.hid hm1l
 have HM2 := Lib.hid hm2l
 have HLL := Lib.hid hll
 obtain ⟨i0, hi0, hz0, hz1, hz2⟩ := info_parts info_block
 have HCL := Lib.hid (show (EBl.cells b).toArray = #[.int .i64 b.kind, .int .i64 b.flags, .string ba] by show #[Value.int .i64 b.kind, .int .i64 b.flags, strV b.data] = _; rw [hBA.out])
 clear hpk hm1l hm2l hll
 go_enter Tryz.func50, Tryz.ntmps50
 go_wp2_with fail
 clear hW1
 refine (f0 _ (hA.ext hB1)).mono ?_
 rintro e w2 ⟨rfl, hb2⟩
 have c2 := (hk1.ext hb2).cell
 have l2 := (hk1.ext hb2).lt
 rw [hBA.out] at c2
 clear hc1
 go_wp2_with fail
 refine (f1 _).mono ?_
 rintro e w3 ⟨rfl, hb3⟩
 have hk3 := (hk1.ext hb2).ext hb3
 have c3 := hk3.cell
 have l3 := hk3.lt
 rw [hBA.out] at c3
 have hE3 := (hB1.trans hb2).trans hb3
 have hA3 := hA.ext hE3
 clear c2 l2 f0 f1
 have hz3 := hE3.size
 go_wp2_with fail
 go_cut [7] from 16 to 22 (fun u wx => PutC (m1 ++ [b]) w3.heap.size w3 u wx)
 case first =>
  have near : ∀ w', Ext w3 w' -> Ext w3 w' /\ ∀ b o, b < w3.heap.size -> w'.cell? ⟨b, o, none⟩ = w3.cell? ⟨b, o, none⟩ := fun w' h => ⟨h, fun b o hb => h.cell hb⟩
  refine wp_region_P (fun _ => false) (fun w' => Ext w3 w' /\ ∀ b o, b < w3.heap.size -> w'.cell? ⟨b, o, none⟩ = w3.cell? ⟨b, o, none⟩) (by kernel_rfl) (near _ (Ext.refl w3).drew) (fun _ => ?_)
  refine pT 0 (v := ?_) rfl (fun _ _ _ h => h) (by rfl) ?_ ?_
  rotate_left
  ·intro w'; go_simp; first | done | with_reducible rfl
  try simp only [Act.put, sp1]
  refine pT 1 (v := ?_) rfl (fun _ _ _ h => h) (by rfl) ?_ ?_
  rotate_left
  ·intro w'; go_simp; first | done | with_reducible rfl
  try simp only [Act.put, sp1]
  refine pK 3 (v := ?_) rfl (fun _ _ _ h => h) (by rfl) ?_ (by assumption) ?_
  rotate_left
  ·intro w' hw'
   (try have hC := hw'.2)
   (try have hC9 := hw'.1)
   go_simp
   first | done | with_reducible rfl
  try simp only [Act.put, sp1]
  refine wpAnyP_ready (rs := [2, 4]) (by kernel_rfl) (by simp) ?_
  refine AllReadyP.cons rfl (fun K hK => ?_) (AllReadyP.cons rfl (fun K hK => ?_) AllReadyP.nil)
  ·go_simp
   refine (f2 w3.drew (hA3.ext (Ext.refl w3).drew) (hk3.ext (Ext.refl w3).drew)).mono ?_
   rintro e w4 ⟨u4, rfl, ho4, hb4⟩
   have hx4 := (Ext.refl w3).drew.trans hb4
   replace ho4 : Owns EBl w4 w3.heap.size 116 u4 m1 := ho4
   obtain ⟨A4, c4, rfl, hR4⟩ := ho4.form
   have hz4 := hx4.size
   refine hK.out _ _ (fun _ _ => near _ hx4) ?_
   clear hK K
   refine pO 4 rfl (fun K hK => ?_)
   go_simp
   refine hK.out _ _ (fun _ _ => near _ (hx4.alloc _)) ?_
   clear hK K
   refine pO 5 rfl (fun K hK => ?_)
   refine step_push (y := b) (by rfl) (.tmp 18) (.tmp 20) _ (by rfl) w3.heap.size 116 i0 _ 32 Tryz.underlying27 hi0 hz0 hz1 hz2 (by rfl) (.slice A4 m1.length c4) (by rfl) (ho4.ext ((Ext.refl _).alloc _)) w4.heap.size (by rfl) (by rw [HCL.out]; exact Blk.new w4 _ _) (by have := HM1.out; have := HLL.out; simp only [maxLen]; omega) (by have := HM1.out; have := HLL.out; omega) (by simp; omega) ?_
   intro v6 w6 hv6 hg6 hat6
   have hx6 := ext_grown (hx4.alloc _) (ho4.ext ((Ext.refl _).alloc _)) (Nat.le_refl _) hg6
   obtain ⟨A6, c6, rfl, hR6⟩ := hv6.form
   refine hK.out _ _ (fun _ _ => near _ hx6) ?_
   clear hK K
   refine pT 6 (v := ?_) rfl (fun _ _ _ h => h) (by rfl) ?_ ?_
   rotate_left
   ·intro w'; go_simp; first | done | with_reducible rfl
   try simp only [Act.put, sp1]
   simp only [List.getElem_toArray, List.getElem_cons_succ, List.getElem_cons_zero, Act.put, sp1]
   refine wpAnyP_done (by kernel_rfl) ?_ _
   go_wp2
   go_meet
   exact ⟨A6, c6, by rw [List.length_append, List.length_singleton], hv6, hx6⟩
  ·obtain ⟨W5, hW5, hB5, hk5, hl5⟩ := box1 w3.drew #[.int .i64 b.kind, .int .i64 b.flags, .string ba] 116
   have hx5 := (Ext.refl w3).drew.trans hB5
   go_simp
   refine hK.out _ _ (fun _ _ => near _ hx5) ?_
   clear hK K hW5
   refine pO 2 rfl (fun K hK => ?_)
   go_simp
   refine (f2 W5 (hA3.ext hx5) (hk3.ext hx5)).mono ?_
   rintro e w4 ⟨u4, rfl, ho4, hb4⟩
   have hx4 := hx5.trans hb4
   have hz5 := hx5.size
   replace ho4 : Owns EBl w4 w3.heap.size 116 u4 m1 := ho4.mono hz5
   obtain ⟨A4, c4, rfl, hR4⟩ := ho4.form
   have hz4 := hx4.size
   have hk9 := hk5.ext hb4
   refine hK.out _ _ (fun _ _ => near _ hx4) ?_
   clear hK K
   refine pO 5 rfl (fun K hK => ?_)
   refine step_push (y := b) (by rfl) (.tmp 18) (.tmp 20) _ (by rfl) w3.heap.size 116 i0 _ 32 Tryz.underlying27 hi0 hz0 hz1 hz2 (by rfl) (.slice A4 m1.length c4) (by rfl) (ho4) w3.heap.size (by rfl) (by rw [HCL.out]; exact hk9) (by have := HM1.out; have := HLL.out; simp only [maxLen]; omega) (by have := HM1.out; have := HLL.out; omega) (by omega) ?_
   intro v6 w6 hv6 hg6 hat6
   have hx6 := ext_grown (hx4) (ho4) (Nat.le_refl _) hg6
   obtain ⟨A6, c6, rfl, hR6⟩ := hv6.form
   refine hK.out _ _ (fun _ _ => near _ hx6) ?_
   clear hK K
   refine pT 6 (v := ?_) rfl (fun _ _ _ h => h) (by rfl) ?_ ?_
   rotate_left
   ·intro w'; go_simp; first | done | with_reducible rfl
   try simp only [Act.put, sp1]
   simp only [List.getElem_toArray, List.getElem_cons_succ, List.getElem_cons_zero, Act.put, sp1]
   refine wpAnyP_done (by kernel_rfl) ?_ _
   go_wp2
   go_meet
   exact ⟨A6, c6, by rw [List.length_append, List.length_singleton], hv6, hx6⟩
 case rest =>
  obtain ⟨A4, c4, rfl, ho4, hx4⟩ := hcut
  have hE4 := hE3.trans hx4
  have hz4 := hx4.size
  have hk4 := hk3.ext hx4
  obtain ⟨n1, hn1⟩ : ∃ n, (m1 ++ [b]).length = n := ⟨_, rfl⟩
  rw [hn1] at ho4 ⊢
  have HN1 := Lib.hid hn1
  have hn18 : n1 <= 9 := by rw [<- hn1, List.length_append, List.length_singleton]; have := HM1.out; have := HLL.out; omega
  clear hn1 c3 l3
  go_wp2_with fail
  refine (f3 wc (hA3.ext hx4) hk4).mono ?_
  rintro e w5 ⟨u5, rfl, ho5, hb5⟩
  obtain ⟨A5, c5, rfl, hR5⟩ := ho5.form
  have ho45 := ho4.ext hb5
  have hz5 := hb5.size
  obtain ⟨n2, hn2⟩ : ∃ n, m2.length = n := ⟨_, rfl⟩
  rw [hn2]
  have HN2 := Lib.hid hn2
  have hn28 : n2 <= 8 := by rw [<- hn2]; have := HM2.out; have := HLL.out; omega
  have hlen : n1 + n2 = (putK l b).length := by rw [HPK.out, List.length_append, HN1.out, HN2.out]
  have HLN := Lib.hid hlen
  clear hn2 hlen
  obtain ⟨tot, htot⟩ : ∃ t, n1 + n2 = t := ⟨_, rfl⟩
  have HTOT := Lib.hid htot
  have htl : (m1 ++ [b]).length + m2.length = tot := by rw [HN1.out, HN2.out, htot]
  have HTL := Lib.hid htl
  clear htl
  by_cases h8 : 8 < tot
  ·have hd : decide ((8 : Int) < (tot : Int)) = true := decide_eq_true (by omega)
   clear htot
   go_wp2_with (at_builtin; refine wpList_cat (l := m1 ++ [b]) (m := m2) rfl (.tmp 22) (.tmp 25) _ (by rfl) w3.heap.size 116 i0 _ 32 Tryz.underlying27 hi0 hz0 hz1 hz2 (by rfl) (.slice A4 n1 c4) (by rfl) ho45 c5 n2 (by rfl) (by rw [HN2.out]) hR5 (by rw [HN1.out, HN2.out]; simp only [maxLen]; omega) (by rw [HN1.out, HN2.out]; omega) (by omega) ?_; intro v6 w6 hv6 hg6 hat6; obtain ⟨A6, c6, rfl, hR6⟩ := hv6.form; rw [List.length_append, HTL.out] at hv6 ⊢)
   go_ret2
   exact ⟨.inr (.inl ⟨HER.out, by rw [<- HLN.out, HTOT.out]; exact h8, rfl⟩), hE3.trans (ext_grown (hx4.trans hb5) ho45 (Nat.le_refl _) hg6)⟩
  ·have hd : decide ((8 : Int) < (tot : Int)) = false := decide_eq_false (by omega)
   clear htot
   go_wp2_with (at_builtin; refine wpList_cat (l := m1 ++ [b]) (m := m2) rfl (.tmp 22) (.tmp 25) _ (by rfl) w3.heap.size 116 i0 _ 32 Tryz.underlying27 hi0 hz0 hz1 hz2 (by rfl) (.slice A4 n1 c4) (by rfl) ho45 c5 n2 (by rfl) (by rw [HN2.out]) hR5 (by rw [HN1.out, HN2.out]; simp only [maxLen]; omega) (by rw [HN1.out, HN2.out]; omega) (by omega) ?_; intro v6 w6 hv6 hg6 hat6; obtain ⟨A6, c6, rfl, hR6⟩ := hv6.form; rw [List.length_append, HTL.out] at hv6 ⊢)
   go_ret2
   exact ⟨.inr (.inr ⟨HER.out, by rw [<- HLN.out, HTOT.out]; omega, _, rfl, by rw [HPK.out]; exact hv6.mono hz3⟩), hE3.trans (ext_grown (hx4.trans hb5) ho45 (Nat.le_refl _) hg6)⟩
end Go.Proofs.YtemkpimngbbpkaaGreat
namespace Go.Proofs.YtemkpimngbbpkaaGreat
set_option linter.unusedVariables false
set_option linter.unusedSimpArgs false
open Go.RowKit Go.Shelf
attribute [local go_sem] Oper.semAt_some
theorem flatMap_len_le {α : Type} {f : α -> Bts} {m : Nat} : ∀ {l : List α}, (∀ x ∈ l, (f x).length <= m) -> (l.flatMap f).length <= m * l.length
 | [], _ => by simp
 | x :: l, h => by
   have h1 := h x (by simp)
   have h2 := flatMap_len_le (l := l) (fun y hy => h y (by simp [hy]))
   rw [List.flatMap_cons, List.length_append, List.length_cons, Nat.mul_add]
   omega
theorem encAll_len {l : List Bl} (hv : blksE l = 0) : (encAll l).length <= 8810 := by
 obtain ⟨h8, hok, _⟩ := blksE_ok.1 hv
 have h1 := flatMap_len_le (l := l) (f := Bl.enc) (m := 1100) (fun x hx => blEnc_len (hok x hx))
 have h2 := vint_len (l.length : Int)
 unfold encAll
 rw [List.length_append]
 have : 1100 * l.length <= 1100 * 8 := Nat.mul_le_mul_left _ h8
 omega
theorem buE_all {b : Bu} (h : buE b = 0) : idE b.src b.cr b.seq b.off b.tot = 0 /\ epE b.dk b.dn = 0 /\ (1 <= b.life /\ b.life <= 1099511627776 - b.cr) /\ (0 <= b.prio /\ b.prio <= 2) /\ flgE b.flags b.tot = 0 /\ blksE b.blocks = 0 /\ payE b.off b.tot b.pay.length = 0 := by
 unfold buE at h
 split at h
 ·rename_i h1; exact absurd h h1
 ·rename_i a1
  split at h
  ·rename_i h1; exact absurd h h1
  ·rename_i a2
   split at h
   ·omega
   ·rename_i a3
    split at h
    ·omega
    ·rename_i a4
     split at h
     ·rename_i h1; exact absurd h h1
     ·rename_i a5
      split at h
      ·rename_i h1; exact absurd h h1
      ·rename_i a6
       exact ⟨by simpa using a1, by simpa using a2, by omega, by omega, by simpa using a5, by simpa using a6, h⟩
theorem bu_nums {b : Bu} (h : buE b = 0) : ∀ n ∈ b.nums, -1152921504606846976 <= n /\ n <= 1152921504606846976 := by
 obtain ⟨h1, h2, h3, h4, h5, _, _⟩ := buE_all h
 have i1 : (0 <= b.src /\ b.src <= 15) /\ (0 <= b.cr /\ b.cr <= 1099511627776) /\ (0 <= b.seq /\ b.seq <= 1099511627776) := by
  unfold idE at h1
  split at h1
  ·omega
  ·omega
 obtain ⟨i2, i3, _⟩ := idE_ok h1
 have i4 : (b.dk = 1 ∨ b.dk = 2) /\ 0 <= b.dn /\ b.dn <= 16 := by
  unfold epE at h2
  split at h2
  ·split at h2 <;> omega
  ·split at h2
   ·split at h2 <;> omega
   ·omega
 have i5 : 0 <= b.flags /\ b.flags <= 127 := by
  unfold flgE at h5
  split at h5
  ·omega
  ·omega
 intro n hn
 simp only [Bu.nums, List.mem_cons, List.not_mem_nil, or_false] at hn
 rcases hn with rfl | rfl | rfl | rfl | rfl | rfl | rfl | rfl | rfl | rfl <;> omega
theorem bu_pay {b : Bu} (h : buE b = 0) : b.pay.length <= 4096 := by
 have := (buE_all h).2.2.2.2.2.2
 unfold payE at this
 split at this
 ·omega
 ·omega
theorem nums_cell (b : Bu) (A : Option Addr) (c k : Nat) (hk : k < b.nums.length) : (b.cells A c)[k]? = some (.int .i64 b.nums[k]) := by
 have h : k = 0 ∨ k = 1 ∨ k = 2 ∨ k = 3 ∨ k = 4 ∨ k = 5 ∨ k = 6 ∨ k = 7 ∨ k = 8 ∨ k = 9 := by
  have : b.nums.length = 10 := rfl
  omega
 rcases h with rfl | rfl | rfl | rfl | rfl | rfl | rfl | rfl | rfl | rfl <;> rfl
set_option maxRecDepth 100000 in
set_option maxHeartbeats 16000000 in
theorem buEnc_any (b : Bu) (A : Option Addr) (cap : Nat) (w : World) (hR : Rd EBl w A b.blocks) (hv : buE b = 0) :
 Calls Tryz.prog 32 #[.agg (b.cells A cap)] w fun e w' => e = .returned (.tuple #[strV b.enc, .int .i64 0]) /\ Ext w w' := by
 have f1 := fun w h => buChk_any b A cap w h
 rw [hv] at f1
 have f2 := fun w => Text_any [77, 66, 49] w (by simp)
 have hbl := (buE_all hv).2.2.2.2.2.1
 have f4 := fun w h => encAll_any A cap b.blocks w h hbl
 have hpl := bu_pay hv
 have f5 := fun w => Text_any b.pay w (by omega)
 have le := encAll_len hbl
 have lp := vtext_len b.pay
 have ln := bu_nums hv
 have HE := Lib.hid (show b.enc = sealB (vtext [77, 66, 49] ++ b.nums.flatMap vint ++ encAll b.blocks ++ vtext b.pay) from rfl)
 have l0 := vtext_len [77, 66, 49]
 have l1 := flatMap_len_le (l := b.nums) (f := vint) (m := 10) (fun x _ => vint_len x)
 have hnl : b.nums.length = 10 := rfl
 have hcl := nums_cell b A cap
 obtain ⟨T0, hT0⟩ : ∃ T, vtext [77, 66, 49] = T := ⟨_, rfl⟩
 obtain ⟨T1, hT1⟩ : ∃ T, encAll b.blocks = T := ⟨_, rfl⟩
 obtain ⟨T2, hT2⟩ : ∃ T, vtext b.pay = T := ⟨_, rfl⟩
 rw [hT0] at f2 HE l0
 rw [hT1] at f4 HE le
 rw [hT2] at f5 HE lp
 have f6 := fun w => Seal_any (T0 ++ b.nums.flatMap vint ++ T1 ++ T2) w (by simp only [List.length_append]; simp only [List.length_cons, List.length_nil] at l0; omega)
 obtain ⟨z0, hz0, hzv0, hzs0⟩ := str_name (T0 ++ b.nums.flatMap vint)
 obtain ⟨z1, hz1, hzv1, hzs1⟩ := str_name T1
 obtain ⟨z2, hz2, hzv2, hzs2⟩ := str_name T2
 obtain ⟨z3, hz3, hzv3, hzs3⟩ := str_name (T0 ++ b.nums.flatMap vint ++ T1)
 obtain ⟨z4, hz4, hzv4, hzs4⟩ := str_name (T0 ++ b.nums.flatMap vint ++ T1 ++ T2)
 have q1 := str_cat _ _ hz0 hz1 hz3
 have q2 := str_cat _ _ hz3 hz2 hz4
 simp only [List.length_append, List.length_cons, List.length_nil] at hzs0 hzs3 hzs4 l0
 have y1 : z0.size + z1.size <= 9223372036854775807 := by omega
 have y2 : z3.size + z2.size <= 9223372036854775807 := by omega
 rw [hzv1] at f4
 rw [hzv2] at f5
 rw [hzv4] at f6
 obtain ⟨sv, hsv⟩ : ∃ sv, strV (sealB (T0 ++ b.nums.flatMap vint ++ T1 ++ T2)) = sv := ⟨_, rfl⟩
 rw [hsv] at f6
 have HV := Lib.hid (show strV b.enc = sv by rw [HE.out, hsv])
 obtain ⟨t0, ht0, htv0, hts0⟩ := str_name T0
 rw [htv0] at f2
 have f2' : ∀ w, Calls Tryz.prog 104 #[.string ⟨#[77, 66, 49]⟩] w fun e w' => e = .returned (.tuple #[.string t0, .int .i64 0]) /\ Ext w w' := f2
 obtain ⟨ba, hba, -⟩ := strV_str b.pay
 rw [hba] at f5
 have HZ0 := Lib.hid hzv0
 have hT0l : T0.length <= 13 := by omega
 rw [HV.out]
 have f3 := fun B w h => numbers_any B w h
 have hpi := fun B k hk => ptrs_index B k hk
 obtain ⟨PS, hPS⟩ : ∃ PS, ptrs w.heap.size = PS := ⟨_, rfl⟩
 have f3' := f3 w.heap.size
 have hpi' := hpi w.heap.size
 rw [hPS] at f3' hpi'
 have hcnv := fun w => conv_bytes (P := Tryz.prog) w 9 22 5 T0 Tryz.underlying9 Tryz.underlying22 Tryz.underlying5 (by omega)
 rw [htv0] at hcnv
 have hcells : b.cells A cap = #[.int .i64 b.src, .int .i64 b.cr, .int .i64 b.seq, .int .i64 b.off, .int .i64 b.tot, .int .i64 b.dk, .int .i64 b.dn, .int .i64 b.life, .int .i64 b.prio, .int .i64 b.flags, .slice A b.blocks.length cap, .string ba] := by unfold Bu.cells; rw [hba]
 rw [hcells] at f1 hcl ⊢
 obtain ⟨W, hW, hB, hk, hlt⟩ := box1 w #[.int .i64 b.src, .int .i64 b.cr, .int .i64 b.seq, .int .i64 b.off, .int .i64 b.tot, .int .i64 b.dk, .int .i64 b.dn, .int .i64 b.life, .int .i64 b.prio, .int .i64 b.flags, .slice A b.blocks.length cap, .string ba] 29
 have hc := hk.cell
 have HCL := Lib.hid hcl
 have HLN := Lib.hid ln
 have HNL := Lib.hid hnl
 clear f2 f3 hpi hPS hT0 hT1 hT2 hz0 hz1 hz2 hz3 hz4 hzv0 hzv1 hzv2 hzv3 hzv4 hzs0 hzs1 hzs2 hzs3 hzs4 hsv ht0 htv0 hts0 hba hcells hcl ln hnl le lp l0 l1 hpl hv hbl
 go_enter Tryz.func32, Tryz.ntmps32
 go_wp2_with fail
 clear hW
 refine (f1 _ (hR.ext hB)).mono ?_
 clear f1
 rintro e w1 ⟨rfl, hb1⟩
 have hx1 := hb1
 have c1 := (hk.ext hx1).cell
 clear hc
 go_wp2_with fail
 refine (f2' _).mono ?_
 clear f2'
 rintro e w2 ⟨rfl, hb2⟩
 have hx2 := hx1.trans hb2
 obtain ⟨cp, w3, q3, ho3, hx3, -⟩ := hcnv w2
 have hx3' := hx2.trans hx3
 have e3 := (hk.ext hx3').lt
 clear c1 hcnv
 go_wp2_with fail
 refine (f3' _ e3).mono ?_
 clear f3'
 rintro e w4 ⟨rfl, hb4⟩
 clear q3
 go_wp2_with fail
 go_loopg [7, 28] 10 (fun n u v wr => ∃ k : Nat, k + n = 10 /\ v = .int .i64 k /\ OwnsB wr w2.heap.size 5 u (T0 ++ (b.nums.take k).flatMap vint) /\ Ext w2 wr)
 case atStart => exact ⟨0, rfl, by go_num, by simpa using ho3.ext hb4, hx3.trans hb4⟩
 case round =>
  obtain ⟨k, hkn, rfl, ho, hE⟩ := hrel
  have Hkn := Lib.hid hkn
  have hk10 : k <= 10 := by omega
  clear hkn
  have hxr := hx2.trans hE
  by_cases hlt : k < 10
  ·have hkl : k < b.nums.length := by rw [HNL.out]; exact hlt
   have a1 := ((hk.ext hxr).cell k).trans (HCL.out k hkl)
   have a2 := (hk.ext hxr).lt
   have fi := fun w => Int_any b.nums[k] w (HLN.out _ (List.getElem_mem hkl))
   have hst : Hid (T0 ++ (b.nums.take (k + 1)).flatMap vint = T0 ++ (b.nums.take k).flatMap vint ++ vint b.nums[k]) := Lib.hid (by rw [<- List.take_append_getElem hkl, List.flatMap_append]; simp)
   have hvl := vint_len b.nums[k]
   have hfl := flatMap_len_le (l := b.nums.take k) (f := vint) (m := 10) (fun x _ => vint_len x)
   have hpk := hpi' k hlt
   rw [List.length_take] at hfl
   obtain ⟨n, hn⟩ : ∃ n, b.nums[k] = n := ⟨_, rfl⟩
   rw [hn] at a1 fi hst hvl
   obtain ⟨V, hV⟩ : ∃ V, vint n = V := ⟨_, rfl⟩
   rw [hV] at fi hst hvl
   obtain ⟨P, hP⟩ : ∃ P, T0 ++ (b.nums.take k).flatMap vint = P := ⟨_, rfl⟩
   have hPl : P.length <= 1013 := by rw [<- hP, List.length_append]; omega
   rw [hP] at ho hst
   obtain ⟨i0, hi0, hz0, hz1, hz2⟩ := info_parts info_byte
   obtain ⟨va, hva, hvv, -⟩ := str_name V
   rw [hvv] at fi
   obtain ⟨A1, c1, rfl, hR1⟩ := ho.form
   clear hn hV hP hva hfl
   go_wp2_with fail
   clear a1 a2
   refine (fi _).mono ?_
   clear fi
   rintro e w5 ⟨rfl, hb5⟩
   obtain ⟨v6, w6, q6, ho6, hg6⟩ := run_append_stringB (P := Tryz.prog) w5 w2.heap.size 22 9 22 5 i0 Tryz.underlying22 Tryz.underlying9 hi0 hz0 hz1 hz2 _ P (ho.ext hb5) V (by omega) (by have := hb5.size; have := hE.size; omega)
   rw [hvv] at q6
   have hE6 : Ext w2 w6 := (hE.trans hb5).keptb hg6 (fun r e => (ho.block e).1)
   go_wp2_with (at_builtin; refine wpList_appendEq rfl (.tmp 38) (.tmp 39) _ _ (by rfl) (by rfl) (by rfl) q6 ?_)
   go_roundg (gk - 1)
   case measure => have := Hkn.out; omega
   case rel => exact ⟨k + 1, by have := Hkn.out; omega, by go_num, by rw [hst.out]; exact ho6, hE6⟩
  ·obtain rfl : k = 10 := by omega
   rw [show b.nums.take 10 = b.nums from rfl] at ho
   obtain ⟨FL, hFL⟩ : ∃ FL, T0 ++ b.nums.flatMap vint = FL := ⟨_, rfl⟩
   rw [hFL] at ho HZ0
   clear hFL
   obtain ⟨A1, c1, rfl, hR1⟩ := ho.form
   have hc := (hk.ext hxr).cell
   go_wp2_with fail
   refine (f4 _ ((hR.ext hB).ext hxr)).mono ?_
   clear f4
   rintro e w5 ⟨rfl, hb5⟩
   have hx5 := hxr.trans hb5
   have hc5 := (hk.ext hx5).cell
   have hl5 := (hk.ext hx5).lt
   clear hc
   go_wp2_with fail
   refine (f5 _).mono ?_
   clear f5
   rintro e w6 ⟨rfl, hb6⟩
   have hR6 := (hR1.ext hb5).ext hb6
   have q9 := conv_str (P := Tryz.prog) w6 22 9 5 A1 c1 FL Tryz.underlying22 Tryz.underlying5 Tryz.underlying9 hR6
   rw [HZ0.out] at q9
   clear hc5 hl5
   go_wp2_with fail
   refine (f6 _).mono ?_
   clear f6
   rintro e w7 ⟨rfl, hb7⟩
   go_wp2
   go_ret2
   exact ⟨rfl, (hB.trans hx5).trans (hb6.trans hb7)⟩
end Go.Proofs.YtemkpimngbbpkaaGreat
namespace Go.Proofs.YtemkpimngbbpkaaGreat
set_option linter.unusedVariables false
set_option linter.unusedSimpArgs false
open Go.RowKit Go.Shelf
set_option maxRecDepth 100000 in
set_option maxHeartbeats 4000000 in
theorem Foremost_any (Aq : Option Addr) (cq : Nat) (Ac : Option Addr) (cc : Nat) (p : Pln) (src t0 n : Int) (w : World) (h : PlnRd w Aq cq Ac cc p) :
 Calls Tryz.prog 24 #[p.val Aq cq Ac cc, .int .i64 src, .int .i64 t0, .int .i64 n] w (RetA EInt w (p.forT src t0 n) (p.forE src t0 n)) := by
 obtain ⟨W, hW, hB, hk, hlt⟩ := box1 w #[.slice Aq p.quo.length cq, .slice Ac p.cons.length cc] 68
 have hc := hk.cell
 have hqm := h.qm
 have hW2 := Lib.hid hW
 have hpc := pcheck_any Aq cq Ac cc p W (h.ext hB)
 by_cases h0 : p.chk = 0
 ·have hok := Pln.ok_of h0
  cases ha : p.argF src t0 n
  ·have HE := Lib.hid (show p.forE src t0 n = 2 by unfold Pln.forE; rw [if_pos h0, ha]; rfl)
   have HT := Lib.hid (show p.forT src t0 n = [] by unfold Pln.forT; rw [HE.out]; rfl)
   simp only [Pln.argF, decide_eq_false_iff_not] at ha
   have Ha := Lib.hid ha
   rw [h0] at hpc
   have H0 := Lib.hid h0
   clear ha h0
   unfold Pln.val at hpc ⊢
   go_enter Tryz.func24, Tryz.ntmps24
   go_wp2_with fail
   clear hW
   refine hpc.mono ?_
   rintro e w1 ⟨rfl, hb1⟩
   have hc1 := (hk.ext hb1).cell
   clear hpc
   go_wp2_with fail
   all_goals first
    | (go_ret2; rw [HE.out, HT.out]; exact ⟨none, 0, rfl, Rd.nil, hB.trans hb1, Nat.le_refl _⟩)
    | (exfalso; apply Ha.out; (try simp_all); (try omega))
  ·have HE := Lib.hid (show p.forE src t0 n = 0 by unfold Pln.forE; rw [if_pos h0, ha]; rfl)
   have HT := Lib.hid (show p.forT src t0 n = p.arrs src t0 n by unfold Pln.forT; rw [HE.out]; rfl)
   have ha2 := ha
   simp only [Pln.argF, decide_eq_true_eq] at ha2
   obtain ⟨a1, a2, a3, a4, a5, a6⟩ := ha2
   have Ha := Lib.hid ha
   rw [h0] at hpc
   have H0 := Lib.hid h0
   clear ha h0
   unfold Pln.val at hpc ⊢
   go_enter Tryz.func24, Tryz.ntmps24
   go_wp2_with fail
   clear hW
   refine hpc.mono ?_
   rintro e w1 ⟨rfl, hb1⟩
   have hc1 := (hk.ext hb1).cell
   clear hpc
   go_wp2_with fail
   refine (arrivals_any Aq cq Ac cc p src t0 n w1 ((h.ext hB).ext hb1) hok Ha.out).mono ?_
   rintro e w2 ⟨v, rfl, hv, hb2⟩
   obtain ⟨A2, c2, rfl, hR2⟩ := hv.form
   go_wp2
   go_ret2
   rw [HE.out, HT.out]
   exact ⟨A2, c2, rfl, hR2, (hB.trans hb1).trans hb2, hv.cap⟩
 ·have HE := Lib.hid (show p.forE src t0 n = 1 by unfold Pln.forE; rw [if_neg h0])
  have HT := Lib.hid (show p.forT src t0 n = [] by unfold Pln.forT; rw [HE.out]; rfl)
  have hd : (p.chk != 0) = true := by simpa using h0
  have H0 := Lib.hid h0
  clear h0
  unfold Pln.val at hpc ⊢
  go_enter Tryz.func24, Tryz.ntmps24
  go_wp2_with fail
  clear hW
  refine hpc.mono ?_
  rintro e w1 ⟨rfl, hb1⟩
  go_wp2
  go_ret2
  rw [HE.out, HT.out]
  exact ⟨none, 0, rfl, Rd.nil, hB.trans hb1, Nat.le_refl _⟩
end Go.Proofs.YtemkpimngbbpkaaGreat

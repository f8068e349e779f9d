/- Forwarding: Age, Hops, Visited, numbers, set. · Forwarding: SetAge, SetHops. -/
import Derived.Test.YtemkpimngbbpkaaGreatQs30
import Derived.Test.YtemkpimngbbpkaaGreatQs45
namespace Go.Proofs.YtemkpimngbbpkaaGreat
set_option linter.unusedVariables false
set_option linter.unusedSimpArgs false
section
open Go.RowKit Go.Shelf
attribute [local go_sem] Oper.semAt_some
theorem getR_err {b : Bu} {k : Int} (h : (getR b k).1 ≠ 0) : (getR b k).2 = [] := by
 rcases getR_cases b k with ⟨_, h1⟩ | ⟨x, _, _, h1⟩ | ⟨x, l, _, _, h1⟩
 ·rw [h1]
 ·rw [h1]
 ·rw [h1] at h; exact absurd rfl h
set_option maxRecDepth 100000 in
set_option maxHeartbeats 4000000 in
theorem Age_any (b : Bu) (A : Option Addr) (cap : Nat) (w : World) (hR : Rd EBl w A b.blocks) (hv : buE b = 0) :
 Calls Tryz.prog 97 #[.agg (b.cells A cap)] w fun e w' => e = .returned (.tuple #[.int .i64 (gi (getR b 1).2 0), .int .i64 (getR b 1).1]) /\ Ext w w' := by
 have f1 := fun w h => get1_any b A cap w h hv
 have g1 := @getR_1 b
 have g2 := @getR_err b 1
 obtain ⟨g, hg⟩ : ∃ g, getR b 1 = g := ⟨_, rfl⟩
 rw [hg] at f1 g1 g2 ⊢
 obtain ⟨pa, hpa, -⟩ := strV_str b.pay
 unfold Bu.cells at f1 ⊢
 rw [hpa] at f1 ⊢
 obtain ⟨W1, hW1, hB1, hk1, hl1⟩ := box1 w #[.int .i64 b.src, .int .i64 b.cr, .int .i64 b.seq, .int .i64 b.off, .int .i64 b.tot, .int .i64 b.dk, .int .i64 b.dn, .int .i64 b.life, .int .i64 b.prio, .int .i64 b.flags, .slice A b.blocks.length cap, .string pa] 29
 have hc := hk1.cell
 have HR := Lib.hid (hR.ext hB1)
 obtain ⟨er, l⟩ := g
 dsimp only at g1 g2 ⊢
 clear hpa hg hR
 by_cases h0 : er = 0
 ·subst h0
  obtain ⟨a, rfl, _⟩ := g1 rfl
  rw [show gi [a] 0 = a from rfl]
  clear g1 g2
  go_enter Tryz.func97, Tryz.ntmps97
  go_wp2_with fail
  clear hW1
  refine (f1 _ HR.out).mono ?_
  clear f1
  rintro e w2 ⟨⟨A2, c2, rfl, hR2⟩, hb2⟩
  obtain ⟨bb, oo, rfl, hbb, c0⟩ := hR2.int (k := 0) (by simp)
  simp only [List.getElem_cons_zero, Nat.add_zero] at c0
  clear hc
  go_wp2
  go_ret2
  exact ⟨rfl, hB1.trans hb2⟩
 ·obtain rfl := g2 h0
  rw [show gi [] 0 = 0 from rfl]
  have hb : (er != 0) = true := by rw [bne_iff_ne]; exact h0
  go_enter Tryz.func97, Tryz.ntmps97
  go_wp2_with fail
  clear hW1
  refine (f1 _ HR.out).mono ?_
  clear f1
  rintro e w2 ⟨⟨A2, c2, rfl, hR2⟩, hb2⟩
  clear hc
  go_wp2
  go_ret2
  exact ⟨rfl, hB1.trans hb2⟩
set_option maxRecDepth 100000 in
set_option maxHeartbeats 4000000 in
theorem Hops_any (b : Bu) (A : Option Addr) (cap : Nat) (w : World) (hR : Rd EBl w A b.blocks) (hv : buE b = 0) :
 Calls Tryz.prog 98 #[.agg (b.cells A cap)] w fun e w' => e = .returned (.tuple #[.int .i64 (gi (getR b 2).2 0), .int .i64 (gi (getR b 2).2 1), .int .i64 (getR b 2).1]) /\ Ext w w' := by
 have f1 := fun w h => get2_any b A cap w h hv
 have g1 := @getR_2 b
 have g2 := @getR_err b 2
 obtain ⟨g, hg⟩ : ∃ g, getR b 2 = g := ⟨_, rfl⟩
 rw [hg] at f1 g1 g2 ⊢
 obtain ⟨pa, hpa, -⟩ := strV_str b.pay
 unfold Bu.cells at f1 ⊢
 rw [hpa] at f1 ⊢
 obtain ⟨W1, hW1, hB1, hk1, hl1⟩ := box1 w #[.int .i64 b.src, .int .i64 b.cr, .int .i64 b.seq, .int .i64 b.off, .int .i64 b.tot, .int .i64 b.dk, .int .i64 b.dn, .int .i64 b.life, .int .i64 b.prio, .int .i64 b.flags, .slice A b.blocks.length cap, .string pa] 29
 have hc := hk1.cell
 have HR := Lib.hid (hR.ext hB1)
 obtain ⟨er, l⟩ := g
 dsimp only at g1 g2 ⊢
 clear hpa hg hR
 by_cases h0 : er = 0
 ·subst h0
  obtain ⟨a, c, rfl, _⟩ := g1 rfl
  rw [show gi [a, c] 0 = a from rfl, show gi [a, c] 1 = c from rfl]
  clear g1 g2
  go_enter Tryz.func98, Tryz.ntmps98
  go_wp2_with fail
  clear hW1
  refine (f1 _ HR.out).mono ?_
  clear f1
  rintro e w2 ⟨⟨A2, c2, rfl, hR2⟩, hb2⟩
  obtain ⟨bb, oo, rfl, hbb, c0⟩ := hR2.int (k := 0) (by simp)
  obtain ⟨bb', oo', he, _, c1⟩ := hR2.int (k := 1) (by simp)
  injection he with he
  injection he with he1 he2 _
  subst he1 he2
  simp only [List.getElem_cons_zero, List.getElem_cons_succ, Nat.add_zero] at c0 c1
  clear hc
  have hN := Near.refl w2
  go_upto_region 4 with fail
  have hC := hN.2
  have hq := quiet_near hN
  refine wp_region_quiet_below (by kernel_rfl) (by kernel_rfl) ?_
  repeat (first | go_big_quiet_skip | (go_big_quiet_want; go_big_quiet_op; first | go_big_quiet_on | (apply Exists.intro; refine ⟨fun _ => ?_, ?_⟩; (focus (first | fail)); go_big_quiet_on)))
  refine wpQuiet_nil ?_
  intro w1 hw1
  clear hq
  replace hw1 := quiet_ext hw1
  replace hN := hN.step hw1
  have hC := hN.2
  go_wp2
  go_ret3
  exact ⟨rfl, (hB1.trans hb2).trans hw1⟩
 ·obtain rfl := g2 h0
  rw [show gi [] 0 = 0 from rfl, show gi [] 1 = 0 from rfl]
  have hb : (er != 0) = true := by rw [bne_iff_ne]; exact h0
  go_enter Tryz.func98, Tryz.ntmps98
  go_wp2_with fail
  clear hW1
  refine (f1 _ HR.out).mono ?_
  clear f1
  rintro e w2 ⟨⟨A2, c2, rfl, hR2⟩, hb2⟩
  clear hc
  go_wp2
  go_ret3
  exact ⟨rfl, hB1.trans hb2⟩
set_option maxRecDepth 100000 in
set_option maxHeartbeats 4000000 in
theorem Visited_any (b : Bu) (A : Option Addr) (cap : Nat) (w : World) (hR : Rd EBl w A b.blocks) (hv : buE b = 0) :
 Calls Tryz.prog 99 #[.agg (b.cells A cap)] w fun e w' => GetR (getR b 3) e w' /\ Ext w w' := by
 have f1 := fun w h => get3_any b A cap w h hv
 obtain ⟨g, hg⟩ : ∃ g, getR b 3 = g := ⟨_, rfl⟩
 rw [hg] at f1 ⊢
 obtain ⟨pa, hpa, -⟩ := strV_str b.pay
 unfold Bu.cells at f1 ⊢
 rw [hpa] at f1 ⊢
 obtain ⟨W1, hW1, hB1, hk1, hl1⟩ := box1 w #[.int .i64 b.src, .int .i64 b.cr, .int .i64 b.seq, .int .i64 b.off, .int .i64 b.tot, .int .i64 b.dk, .int .i64 b.dn, .int .i64 b.life, .int .i64 b.prio, .int .i64 b.flags, .slice A b.blocks.length cap, .string pa] 29
 have hc := hk1.cell
 have HR := Lib.hid (hR.ext hB1)
 clear hpa hg hR
 go_enter Tryz.func99, Tryz.ntmps99
 go_wp2_with fail
 clear hW1
 refine (f1 _ HR.out).mono ?_
 clear f1
 rintro e w2 ⟨⟨A2, c2, rfl, hR2⟩, hb2⟩
 clear hc
 go_wp2
 go_ret2
 exact ⟨⟨A2, c2, rfl, hR2⟩, hB1.trans hb2⟩
set_option maxRecDepth 100000 in
set_option maxHeartbeats 4000000 in
theorem enums_any (A : Option Addr) (cap : Nat) (l : List Int) (w : World) (hR : Rd EInt w A l) (hl : l.length <= 100) (hb : ∀ x ∈ l, -1152921504606846976 <= x /\ x <= 1152921504606846976) :
 Calls Tryz.prog 183 #[.slice A l.length cap] w fun e w' => e = .returned (strV (l.flatMap vint)) /\ Ext w w' := by
 have HB := Lib.hid hb
 clear hb
 have HFM := Lib.hid (fun m : List Int => flatMap_len_le (l := m) (f := vint) (m := 10) (fun x _ => vint_len x))
 go_enter Tryz.func183, Tryz.ntmps183
 go_wp2_with fail
 go_loopg [3, 10] l.length (fun m vs vi wr => ∃ k : Nat, k + m = l.length /\ vi = .int .i64 k /\ vs = strV ((l.take k).flatMap vint) /\ Ext w wr)
 case atStart => exact ⟨0, by omega, by go_num, rfl, Ext.refl _⟩
 case round =>
  obtain ⟨k, hkn, rfl, rfl, hE⟩ := hrel
  have Hkn := Lib.hid hkn
  clear hkn
  by_cases hlt : k < l.length
  ·obtain ⟨bb, oo, rfl, hbb, c0⟩ := (hR.ext hE).int hlt
   have hst : (l.take (k + 1)).flatMap vint = (l.take k).flatMap vint ++ vint l[k] := by rw [<- List.take_append_getElem hlt, List.flatMap_append]; simp
   have fi := fun w => Int_any l[k] w (HB.out _ (List.getElem_mem hlt))
   have h1 := HFM.out (l.take k)
   have h2 := vint_len l[k]
   rw [List.length_take] at h1
   generalize l[k] = x at *
   obtain ⟨P, hP⟩ : ∃ P, (l.take k).flatMap vint = P := ⟨_, rfl⟩
   obtain ⟨V, hV⟩ : ∃ V, vint x = V := ⟨_, rfl⟩
   rw [hP] at hst h1
   rw [hV] at hst fi h2
   rw [hP]
   obtain ⟨pb, hpb, hpv, hps⟩ := str_name P
   obtain ⟨vb, hvb, hvv, hvs⟩ := str_name V
   obtain ⟨sb, hsb, hsv, -⟩ := str_name (P ++ V)
   have hcat := str_cat P V hpb hvb hsb
   have hsz : pb.size + vb.size <= 9223372036854775807 := by omega
   rw [hpv]
   rw [hvv] at fi
   have HST := Lib.hid (show strV ((l.take (k + 1)).flatMap vint) = .string sb by rw [hst, hsv])
   clear hP hV hpb hvb hsb hpv hvv hsv hst
   go_wp2_with fail
   refine (fi _).mono ?_
   rintro e w2 ⟨rfl, hb2⟩
   go_wp2
   go_roundg (gk - 1)
   case measure => have := Hkn.out; omega
   case rel => exact ⟨k + 1, by have := Hkn.out; omega, by go_num, HST.out.symm, hE.trans hb2⟩
  ·obtain rfl : k = l.length := by have := Hkn.out; omega
   rw [List.take_length]
   go_wp2
   go_ret
   exact ⟨rfl, hE⟩
def SetR (c : Bu) (w : World) (e : Ending) (w' : World) : Prop := ∃ A' c', e = .returned (.tuple #[.agg (c.cells A' c'), .int .i64 0]) /\ Rd EBl w' A' c.blocks /\ ∀ ad, A' = some ad -> w.heap.size <= ad.block
theorem ups_setCells (g : Nat) (W : World) (o : Nat) (vs : List Value) : Ups g W (W.setCells g o vs) := by
 have h := grown_setCells vs (World.grownBy.refl W (some g)) o
 exact ⟨h.os, h.tape, h.output, h.size, fun k hk hne => h.block k hk (fun e => hne (by injection e))⟩
set_option maxRecDepth 100000 in
set_option maxHeartbeats 16000000 in
theorem set_ok (b : Bu) (A : Option Addr) (cap : Nat) (k : Int) (d : Bts) (x : Bl) (w : World) (hR : Rd EBl w A b.blocks) (hv : buE b = 0) (hk : k = 1 ∨ k = 2 ∨ k = 3) (hx : findK b.blocks k = some x) (hd : d.length <= 1024) :
 Calls Tryz.prog 182 #[.agg (b.cells A cap), .int .i64 k, strV d] w fun e w' => SetR (setB b k d) w e w' /\ Ext w w' := by
 obtain ⟨s1, s2, s3, _, _⟩ := setB_ok hv hk hx hd
 have hl8 := (blksE_ok.1 (buE_blocks hv)).1
 have hxk : x.kind = k := by have := List.find?_some hx; simpa using this
 have f1 := fun w h => blFind_any A cap b.blocks k w h (by omega)
 rw [hx] at f1
 dsimp only at f1
 have f2 := fun w h => put_any A cap b.blocks ⟨k, x.flags, d⟩ w h (buE_blocks hv)
 rw [s3]
 dsimp only at f2
 have hkx : (putK b.blocks ⟨k, x.flags, d⟩).length = (putK b.blocks ⟨k, x.flags, d⟩).length := rfl
 obtain ⟨m, hm⟩ : ∃ m, putK b.blocks ⟨k, x.flags, d⟩ = m := ⟨_, rfl⟩
 have f2' : ∀ w, Rd EBl w A b.blocks -> Calls Tryz.prog 50 #[.slice A b.blocks.length cap, .agg #[.int .i64 k, .int .i64 x.flags, strV d]] w fun e w' => (∃ A' c', e = .returned (.tuple #[.slice A' m.length c', .int .i64 0]) /\ Owns EBl w' w.heap.size 116 (.slice A' m.length c') m) /\ Ext w w' := fun w h => (f2 w h).mono (by
  rintro e w' ⟨hp, hb⟩
  refine ⟨?_, hb⟩
  rcases hp with ⟨h1, _⟩ | ⟨_, h1, _⟩ | ⟨_, _, u, rfl, ho⟩
  ·exact absurd s1 h1
  ·omega
  ·obtain ⟨A', c', rfl, _⟩ := ho.form
   rw [hm] at ho
   exact ⟨A', c', by rw [hm], ho⟩)
 rw [hm]
 clear f2 s1 s2 s3 hkx hm hx hv hk hd
 obtain ⟨pa, hpa, -⟩ := strV_str b.pay
 obtain ⟨db, hdb, hdv, -⟩ := str_name d
 obtain ⟨xb, hxb, hxv, -⟩ := str_name x.data
 obtain ⟨fl, hfl⟩ : ∃ fl, x.flags = fl := ⟨_, rfl⟩
 rw [hxk, hfl, hxv] at f1
 rw [hfl, hdv] at f2'
 rw [hdv]
 unfold SetR Bu.cells
 dsimp only
 rw [hpa]
 obtain ⟨W1, hW1, hB1, hk1, hl1⟩ := box1 w #[.int .i64 b.src, .int .i64 b.cr, .int .i64 b.seq, .int .i64 b.off, .int .i64 b.tot, .int .i64 b.dk, .int .i64 b.dn, .int .i64 b.life, .int .i64 b.prio, .int .i64 b.flags, .slice A b.blocks.length cap, .string pa] 29
 obtain ⟨W2, hW2, hB2, hk2, hl2⟩ := box1 W1 #[.int .i64 0, .int .i64 0, .int .i64 0, .int .i64 0, .int .i64 0, .int .i64 0, .int .i64 0, .int .i64 0, .int .i64 0, .int .i64 0, .slice none 0 0, .string ⟨#[]⟩] 29
 have k1 := hk1.ext hB2
 have hc := k1.cell
 have hl := k1.lt
 have y1 := hB1.size
 have y2 := hB2.size
 have hE2 := hB1.trans hB2
 have HR := Lib.hid (hR.ext hE2)
 clear hpa hdb hdv hxb hxv hfl hxk hR
 go_enter Tryz.func182, Tryz.ntmps182
 go_wp2_with fail
 clear hW1 hW2
 refine (f1 _ HR.out).mono ?_
 clear f1
 rintro e w3 ⟨rfl, hb3⟩
 have hE3 := hE2.trans hb3
 have k3 := k1.ext hb3
 have z3 := hk2.ext hb3
 clear hc hl
 obtain ⟨V5, hV5, hV5e, hv5, hvl5⟩ := box1 w3 #[.int .i64 0, .int .i64 0, .string ⟨#[]⟩] 116
 obtain ⟨W5, hW5, hk5, hB5⟩ : ∃ W5, V5.setCells w3.heap.size 0 [.int .i64 k, .int .i64 fl, .string xb] = W5 /\ Blk W5 w3.heap.size 116 #[.int .i64 k, .int .i64 fl, .string xb] /\ Ext w3 W5 :=
  ⟨_, rfl, hv5.setCells_ [.int .i64 k, .int .i64 fl, .string xb] 0, ext_setCells hV5e (Nat.le_refl _) 0 _⟩
 simp only [World.setCells, Nat.zero_add, Nat.reduceAdd] at hW5
 have v1 := hv5.cell
 have v2 := hv5.lt
 have v3 := hv5.frozen
 have k5 := k3.ext hB5
 have z5 := z3.ext hB5
 have hE5 := hE3.trans hB5
 have hx5 := hb3.trans hB5
 have y3 := hb3.size
 have y5 := hB5.size
 go_upto_region 4 with fail
 (try rw [hW5])
 clear hW5 hV5 v1 v2 v3 hv5 hvl5
 have v1 := hk5.cell
 have v2 := hk5.lt
 have v3 := hk5.frozen
 obtain ⟨W6, hW6, hk6, k6, z6, hE6, hx6⟩ : ∃ W6, W5.setCell ⟨w3.heap.size, 2, none⟩ (.string db) = W6 /\ Blk W6 w3.heap.size 116 #[.int .i64 k, .int .i64 fl, .string db] /\ Blk W6 w.heap.size 29 #[.int .i64 b.src, .int .i64 b.cr, .int .i64 b.seq, .int .i64 b.off, .int .i64 b.tot, .int .i64 b.dk, .int .i64 b.dn, .int .i64 b.life, .int .i64 b.prio, .int .i64 b.flags, .slice A b.blocks.length cap, .string pa] /\ Blk W6 W1.heap.size 29 #[.int .i64 0, .int .i64 0, .int .i64 0, .int .i64 0, .int .i64 0, .int .i64 0, .int .i64 0, .int .i64 0, .int .i64 0, .int .i64 0, .slice none 0 0, .string ⟨#[]⟩] /\ Ext w W6 /\ Ext W2 W6 :=
  ⟨_, rfl, hk5.set_ 2 _, k5.far (by show w.heap.size ≠ w3.heap.size; omega) _, z5.far (by show W1.heap.size ≠ w3.heap.size; omega) _, hE5.setCell (by show w.heap.size <= w3.heap.size; omega) _, hx5.setCell (by show W2.heap.size <= w3.heap.size; omega) _⟩
 go_upto_region 5 with fail
 (try rw [hW6])
 clear hW6 v1 v2 v3
 have v1 := hk6.cell
 have v2 := hk6.lt
 have c1 := k6.cell
 have c2 := k6.lt
 go_wp2_with fail
 refine (f2' _ (HR.out.ext hx6)).mono ?_
 clear f2'
 rintro e w7 ⟨⟨A7, c7, rfl, ho7⟩, hb7⟩
 have k7 := k6.ext hb7
 have z7 := z6.ext hb7
 have hE7 := hE6.trans hb7
 have y6 := hx6.size
 clear v1 v2 c1 c2
 have v1 := k7.cell
 have v2 := k7.lt
 have v3 := k7.frozen
 obtain ⟨W8, hW8, k8, z8, ho8, hE8⟩ : ∃ W8, w7.setCell ⟨w.heap.size, 10, none⟩ (.slice A7 m.length c7) = W8 /\ Blk W8 w.heap.size 29 #[.int .i64 b.src, .int .i64 b.cr, .int .i64 b.seq, .int .i64 b.off, .int .i64 b.tot, .int .i64 b.dk, .int .i64 b.dn, .int .i64 b.life, .int .i64 b.prio, .int .i64 b.flags, .slice A7 m.length c7, .string pa] /\ Blk W8 W1.heap.size 29 #[.int .i64 0, .int .i64 0, .int .i64 0, .int .i64 0, .int .i64 0, .int .i64 0, .int .i64 0, .int .i64 0, .int .i64 0, .int .i64 0, .slice none 0 0, .string ⟨#[]⟩] /\ Owns EBl W8 W6.heap.size 116 (.slice A7 m.length c7) m /\ Ext w W8 :=
  ⟨_, rfl, k7.set_ 10 _, z7.far (by show W1.heap.size ≠ w.heap.size; omega) _, ho7.setZ k7 (by decide) 10 _, hE7.setCell (Nat.le_refl _) _⟩
 go_upto_region 9 with fail
 (try rw [hW8])
 clear hW8 v1 v2 v3
 have v1 := k8.cell
 have v2 := k8.lt
 have u1 := z8.cell
 have u2 := z8.lt
 have u3 := z8.frozen
 have hs9 := z8.setCells_ [.int .i64 b.src, .int .i64 b.cr, .int .i64 b.seq, .int .i64 b.off, .int .i64 b.tot, .int .i64 b.dk, .int .i64 b.dn, .int .i64 b.life, .int .i64 b.prio, .int .i64 b.flags, .slice A7 m.length c7, .string pa] 0
 rw [arrSets12d] at hs9
 have hoX := ho8.kept (grown_setCells [.int .i64 b.src, .int .i64 b.cr, .int .i64 b.seq, .int .i64 b.off, .int .i64 b.tot, .int .i64 b.dk, .int .i64 b.dn, .int .i64 b.life, .int .i64 b.prio, .int .i64 b.flags, .slice A7 m.length c7, .string pa] (World.grownBy.refl W8 (some W1.heap.size)) 0) (fun g' hgg e' => by injection e' with e'; have := (ho8.block hgg).1; omega)
 obtain ⟨WX, hWX, hkX, hBX, hoX⟩ : ∃ WX, W8.setCells W1.heap.size 0 [.int .i64 b.src, .int .i64 b.cr, .int .i64 b.seq, .int .i64 b.off, .int .i64 b.tot, .int .i64 b.dk, .int .i64 b.dn, .int .i64 b.life, .int .i64 b.prio, .int .i64 b.flags, .slice A7 m.length c7, .string pa] = WX /\ Blk WX W1.heap.size 29 #[.int .i64 b.src, .int .i64 b.cr, .int .i64 b.seq, .int .i64 b.off, .int .i64 b.tot, .int .i64 b.dk, .int .i64 b.dn, .int .i64 b.life, .int .i64 b.prio, .int .i64 b.flags, .slice A7 m.length c7, .string pa] /\ Ext w WX /\ Owns EBl WX W6.heap.size 116 (.slice A7 m.length c7) m :=
  ⟨_, rfl, hs9, ext_setCells hE8 y1 0 _, hoX⟩
 simp only [World.setCells, Nat.zero_add, Nat.reduceAdd] at hWX
 clear hs9
 go_wp2
 (try rw [hWX])
 have hcX := hkX.cell
 refine bodyPost_ret (v := .tuple #[.agg #[.int .i64 b.src, .int .i64 b.cr, .int .i64 b.seq, .int .i64 b.off, .int .i64 b.tot, .int .i64 b.dk, .int .i64 b.dn, .int .i64 b.life, .int .i64 b.prio, .int .i64 b.flags, .slice A7 m.length c7, .string pa], .int .i64 0]) (by rw [results_cell_tmp rfl]; simp [asAddr, Result.andThen, hcX, go_sem]) rfl ?_
 exact ⟨⟨A7, c7, rfl, hoX.rd, fun ad h => Nat.le_trans hE6.size (owns_far hoX ad h)⟩, hBX⟩
end
section
open Go.RowKit Go.Shelf
attribute [local go_sem] Oper.semAt_some
set_option maxRecDepth 100000 in
set_option maxHeartbeats 8000000 in
theorem SetAge_ok (b : Bu) (A : Option Addr) (cap : Nat) (age : Int) (x : Bl) (w : World) (hR : Rd EBl w A b.blocks) (hv : buE b = 0) (hx : findK b.blocks 1 = some x) (ha : 0 <= age /\ age <= 1099511627776) :
 Calls Tryz.prog 101 #[.agg (b.cells A cap), .int .i64 age] w fun e w' => SetR (setB b 1 (vint age)) w e w' /\ Ext w w' := by
 have f1 := fun w h => buChk_any b A cap w h
 rw [hv] at f1
 have hdl : (vint age).length <= 1024 := by have := vint_len age; omega
 have f2 : ∀ A c w, Rd EInt w A [age] -> Calls Tryz.prog 183 #[.slice A 1 c] w fun e w' => e = .returned (strV (vint age)) /\ Ext w w' := fun A c w h => by
  have := enums_any A c [age] w h (by simp) (fun y hy => by rw [List.mem_singleton.1 hy]; omega)
  simpa using this
 obtain ⟨d, hd⟩ : ∃ d, vint age = d := ⟨_, rfl⟩
 rw [hd] at hdl f2 ⊢
 have f3 := fun w h => set_ok b A cap 1 d x w h hv (by omega) hx hdl
 obtain ⟨c, hcc⟩ : ∃ c, setB b 1 d = c := ⟨_, rfl⟩
 rw [hcc] at f3 ⊢
 obtain ⟨db, hdb, hdv, -⟩ := str_name d
 rw [hdv] at f2 f3
 clear hcc hdb hdv hd hv hx hdl
 obtain ⟨pa, hpa, -⟩ := strV_str b.pay
 have hcs : b.cells A cap = #[.int .i64 b.src, .int .i64 b.cr, .int .i64 b.seq, .int .i64 b.off, .int .i64 b.tot, .int .i64 b.dk, .int .i64 b.dn, .int .i64 b.life, .int .i64 b.prio, .int .i64 b.flags, .slice A b.blocks.length cap, .string pa] := by unfold Bu.cells; rw [hpa]
 rw [hcs] at f1 f3 ⊢
 clear hcs hpa
 obtain ⟨W1, hW1, hB1, hk1, hl1⟩ := box1 w #[.int .i64 b.src, .int .i64 b.cr, .int .i64 b.seq, .int .i64 b.off, .int .i64 b.tot, .int .i64 b.dk, .int .i64 b.dn, .int .i64 b.life, .int .i64 b.prio, .int .i64 b.flags, .slice A b.blocks.length cap, .string pa] 29
 obtain ⟨W2, hW2, hB2, hk2, hl2⟩ := box1 W1 #[.int .i64 0, .int .i64 0, .int .i64 0, .int .i64 0, .int .i64 0, .int .i64 0, .int .i64 0, .int .i64 0, .int .i64 0, .int .i64 0, .slice none 0 0, .string ⟨#[]⟩] 29
 have k1 := hk1.ext hB2
 have hc := k1.cell
 have hl := k1.lt
 have y1 := hB1.size
 have y2 := hB2.size
 have hE2 := hB1.trans hB2
 have HR := Lib.hid (hR.ext hE2)
 clear hR
 go_enter Tryz.func101, Tryz.ntmps101
 go_wp2_with fail
 clear hW1 hW2
 refine (f1 _ HR.out).mono ?_
 clear f1
 rintro e w3 ⟨rfl, hb3⟩
 have k3 := k1.ext hb3
 have z3 := hk2.ext hb3
 have hE3 := hE2.trans hb3
 have y3 := hb3.size
 clear hc hl
 have hc := k3.cell
 have hl := k3.lt
 go_upto_region 5 with fail
 obtain ⟨W4, hW4, hB4, hk4, hl4⟩ := box1 w3.drew #[.int .i64 age] 3
 have hx4 : Ext w3 W4 := ((Ext.refl w3).drew).trans hB4
 refine wp_region_P (fun _ => false) (fun w' => (∀ i, w'.cell? ⟨w.heap.size, i, none⟩ = #[.int .i64 b.src, .int .i64 b.cr, .int .i64 b.seq, .int .i64 b.off, .int .i64 b.tot, .int .i64 b.dk, .int .i64 b.dn, .int .i64 b.life, .int .i64 b.prio, .int .i64 b.flags, .slice A b.blocks.length cap, .string pa][i]?)) (by kernel_rfl) k3.cell (fun hSS => ?_)
 refine pK 0 (v := ?_) rfl (fun _ _ _ h => h) (by rfl) ?_ (by assumption) ?_
 rotate_left
 ·intro w' hw'
  (try have hC := hw'.2)
  (try have hC9 := hw'.1)
  go_simp
  first | done | with_reducible rfl
 try simp only [Act.put, sp1]
 refine pT 1 (v := ?_) rfl (fun _ _ _ h => h) (by rfl) ?_ ?_
 rotate_left
 ·intro w'; go_simp; first | done | with_reducible rfl
 try simp only [Act.put, sp1]
 refine pO 2 rfl (fun K hK => ?_)
 go_simp
 (try rw [hW4])
 refine hK.out _ _ (fun _ _ => (k3.ext hx4).cell) ?_
 clear hK K hW4
 refine pO 3 rfl (fun K hK => ?_)
 go_simp
 refine Calls.mono (f2 _ _ _ (rd_one hk4)) ?_
 rintro e w5 ⟨rfl, hb5⟩
 have hx5 := hx4.trans hb5
 refine hK.out _ _ (fun _ _ => (k3.ext hx5).cell) ?_
 clear hK K
 refine pO 4 rfl (fun K hK => ?_)
 go_simp
 refine Calls.mono (f3 _ ((HR.out.ext hb3).ext hx5)) ?_
 rintro e w6 ⟨⟨A6, c6, rfl, hR6, hA6⟩, hb6⟩
 have hx6 := hx5.trans hb6
 have z6 := z3.ext hx6
 have k6 := k3.ext hx6
 have hE6 := hE3.trans hx6
 refine hK.out _ _ (fun _ _ => k6.cell) ?_
 clear hK K
 obtain ⟨sb, hsb, -⟩ := strV_str c.pay
 have HSB := Lib.hid hsb
 have y5 := hx5.size
 obtain ⟨src, cr, seq, off, tot, dk', dn, life, prio, fl, bl, pay⟩ := c
 unfold Bu.cells
 dsimp only at hsb hR6 ⊢
 rw [hsb]
 clear hsb
 refine pT 5 (v := ?_) rfl (fun _ _ _ h => h) (by rfl) ?_ ?_
 rotate_left
 ·intro w'; go_simp; first | done | with_reducible rfl
 try simp only [Act.put, sp1]
 refine pT 6 (v := ?_) rfl (fun _ _ _ h => h) (by rfl) ?_ ?_
 rotate_left
 ·intro w'; go_simp; first | done | with_reducible rfl
 try simp only [Act.put, sp1]
 have u1 := z6.cell
 have u2 := z6.lt
 have u3 := z6.frozen
 have hs9 := z6.setCells_ [.int .i64 src, .int .i64 cr, .int .i64 seq, .int .i64 off, .int .i64 tot, .int .i64 dk', .int .i64 dn, .int .i64 life, .int .i64 prio, .int .i64 fl, .slice A6 bl.length c6, .string sb] 0
 rw [arrSets12d] at hs9
 have hu9 := ups_setCells W1.heap.size w6 0 [.int .i64 src, .int .i64 cr, .int .i64 seq, .int .i64 off, .int .i64 tot, .int .i64 dk', .int .i64 dn, .int .i64 life, .int .i64 prio, .int .i64 fl, .slice A6 bl.length c6, .string sb]
 obtain ⟨WX, hWX, hkX, hBX, hRX, kX⟩ : ∃ WX, w6.setCells W1.heap.size 0 [.int .i64 src, .int .i64 cr, .int .i64 seq, .int .i64 off, .int .i64 tot, .int .i64 dk', .int .i64 dn, .int .i64 life, .int .i64 prio, .int .i64 fl, .slice A6 bl.length c6, .string sb] = WX /\ Blk WX W1.heap.size 29 #[.int .i64 src, .int .i64 cr, .int .i64 seq, .int .i64 off, .int .i64 tot, .int .i64 dk', .int .i64 dn, .int .i64 life, .int .i64 prio, .int .i64 fl, .slice A6 bl.length c6, .string sb] /\ Ext w WX /\ Rd EBl WX A6 bl /\ Blk WX w.heap.size 29 #[.int .i64 b.src, .int .i64 b.cr, .int .i64 b.seq, .int .i64 b.off, .int .i64 b.tot, .int .i64 b.dk, .int .i64 b.dn, .int .i64 b.life, .int .i64 b.prio, .int .i64 b.flags, .slice A b.blocks.length cap, .string pa] :=
  ⟨_, rfl, hs9, ext_setCells hE6 y1 0 _, hu9.rd hR6 (fun ad h => by have := hA6 ad h; omega), hu9.blk k6 (by omega)⟩
 simp only [World.setCells, Nat.zero_add, Nat.reduceAdd] at hWX
 clear hs9 hu9
 refine pO 7 rfl (fun K hK => ?_)
 go_simp
 (try rw [hWX])
 refine hK.out _ _ (fun _ _ => kX.cell) ?_
 clear hK K u1 u2 u3
 refine pT 8 (v := ?_) rfl (fun _ _ _ h => h) (by rfl) ?_ ?_
 rotate_left
 ·intro w'; go_simp; first | done | with_reducible rfl
 try simp only [Act.put, sp1]
 refine wpAnyP_done (by kernel_rfl) ?_ _
 go_wp2
 have hcX := hkX.cell
 refine bodyPost_ret (v := .tuple #[.agg #[.int .i64 src, .int .i64 cr, .int .i64 seq, .int .i64 off, .int .i64 tot, .int .i64 dk', .int .i64 dn, .int .i64 life, .int .i64 prio, .int .i64 fl, .slice A6 bl.length c6, .string sb], .int .i64 0]) (by rw [results_cell_tmp rfl]; simp [asAddr, Result.andThen, hcX, go_sem]) rfl ?_
 exact ⟨⟨A6, c6, by unfold Bu.cells; dsimp only; rw [HSB.out], hRX, fun ad h => by have := hA6 ad h; omega⟩, hBX⟩
set_option maxRecDepth 100000 in
set_option maxHeartbeats 8000000 in
theorem SetHops_ok (b : Bu) (A : Option Addr) (cap : Nat) (lim cnt : Int) (x : Bl) (w : World) (hR : Rd EBl w A b.blocks) (hv : buE b = 0) (hx : findK b.blocks 2 = some x) (hlm : 1 <= lim /\ lim <= 255) (hct : 0 <= cnt /\ cnt <= lim) :
 Calls Tryz.prog 102 #[.agg (b.cells A cap), .int .i64 lim, .int .i64 cnt] w fun e w' => SetR (setB b 2 (vint lim ++ vint cnt)) w e w' /\ Ext w w' := by
 have f1 := fun w h => buChk_any b A cap w h
 rw [hv] at f1
 have hdl : (vint lim ++ vint cnt).length <= 1024 := by have := vint_len lim; have := vint_len cnt; rw [List.length_append]; omega
 have f2 : ∀ A c w, Rd EInt w A [lim, cnt] -> Calls Tryz.prog 183 #[.slice A 2 c] w fun e w' => e = .returned (strV (vint lim ++ vint cnt)) /\ Ext w w' := fun A c w h => by
  have := enums_any A c [lim, cnt] w h (by simp) (fun y hy => by simp only [List.mem_cons, List.not_mem_nil, or_false] at hy; rcases hy with rfl | rfl <;> omega)
  simpa using this
 obtain ⟨d, hd⟩ : ∃ d, vint lim ++ vint cnt = d := ⟨_, rfl⟩
 rw [hd] at hdl f2 ⊢
 have f3 := fun w h => set_ok b A cap 2 d x w h hv (by omega) hx hdl
 obtain ⟨c, hcc⟩ : ∃ c, setB b 2 d = c := ⟨_, rfl⟩
 rw [hcc] at f3 ⊢
 obtain ⟨db, hdb, hdv, -⟩ := str_name d
 rw [hdv] at f2 f3
 clear hcc hdb hdv hd hv hx hdl
 obtain ⟨pa, hpa, -⟩ := strV_str b.pay
 have hcs : b.cells A cap = #[.int .i64 b.src, .int .i64 b.cr, .int .i64 b.seq, .int .i64 b.off, .int .i64 b.tot, .int .i64 b.dk, .int .i64 b.dn, .int .i64 b.life, .int .i64 b.prio, .int .i64 b.flags, .slice A b.blocks.length cap, .string pa] := by unfold Bu.cells; rw [hpa]
 rw [hcs] at f1 f3 ⊢
 clear hcs hpa
 obtain ⟨W1, hW1, hB1, hk1, hl1⟩ := box1 w #[.int .i64 b.src, .int .i64 b.cr, .int .i64 b.seq, .int .i64 b.off, .int .i64 b.tot, .int .i64 b.dk, .int .i64 b.dn, .int .i64 b.life, .int .i64 b.prio, .int .i64 b.flags, .slice A b.blocks.length cap, .string pa] 29
 obtain ⟨W2, hW2, hB2, hk2, hl2⟩ := box1 W1 #[.int .i64 0, .int .i64 0, .int .i64 0, .int .i64 0, .int .i64 0, .int .i64 0, .int .i64 0, .int .i64 0, .int .i64 0, .int .i64 0, .slice none 0 0, .string ⟨#[]⟩] 29
 have k1 := hk1.ext hB2
 have hc := k1.cell
 have hl := k1.lt
 have y1 := hB1.size
 have y2 := hB2.size
 have hE2 := hB1.trans hB2
 have HR := Lib.hid (hR.ext hE2)
 clear hR
 go_enter Tryz.func102, Tryz.ntmps102
 go_wp2_with fail
 clear hW1 hW2
 refine (f1 _ HR.out).mono ?_
 clear f1
 rintro e w3 ⟨rfl, hb3⟩
 have k3 := k1.ext hb3
 have z3 := hk2.ext hb3
 have hE3 := hE2.trans hb3
 have y3 := hb3.size
 clear hc hl
 have hc := k3.cell
 have hl := k3.lt
 go_upto_region 5 with fail
 obtain ⟨W4, hW4, hB4, hk4, hl4⟩ := box1 w3.drew #[.int .i64 lim, .int .i64 cnt] 3
 have hx4 : Ext w3 W4 := ((Ext.refl w3).drew).trans hB4
 refine wp_region_P (fun _ => false) (fun w' => (∀ i, w'.cell? ⟨w.heap.size, i, none⟩ = #[.int .i64 b.src, .int .i64 b.cr, .int .i64 b.seq, .int .i64 b.off, .int .i64 b.tot, .int .i64 b.dk, .int .i64 b.dn, .int .i64 b.life, .int .i64 b.prio, .int .i64 b.flags, .slice A b.blocks.length cap, .string pa][i]?)) (by kernel_rfl) k3.cell (fun hSS => ?_)
 refine pK 0 (v := ?_) rfl (fun _ _ _ h => h) (by rfl) ?_ (by assumption) ?_
 rotate_left
 ·intro w' hw'
  (try have hC := hw'.2)
  (try have hC9 := hw'.1)
  go_simp
  first | done | with_reducible rfl
 try simp only [Act.put, sp1]
 refine pT 1 (v := ?_) rfl (fun _ _ _ h => h) (by rfl) ?_ ?_
 rotate_left
 ·intro w'; go_simp; first | done | with_reducible rfl
 try simp only [Act.put, sp1]
 refine pT 2 (v := ?_) rfl (fun _ _ _ h => h) (by rfl) ?_ ?_
 rotate_left
 ·intro w'; go_simp; first | done | with_reducible rfl
 try simp only [Act.put, sp1]
 refine pO 3 rfl (fun K hK => ?_)
 go_simp
 (try rw [hW4])
 refine hK.out _ _ (fun _ _ => (k3.ext hx4).cell) ?_
 clear hK K hW4
 refine pO 4 rfl (fun K hK => ?_)
 go_simp
 refine Calls.mono (f2 _ _ _ (rd_two hk4)) ?_
 rintro e w5 ⟨rfl, hb5⟩
 have hx5 := hx4.trans hb5
 refine hK.out _ _ (fun _ _ => (k3.ext hx5).cell) ?_
 clear hK K
 refine pO 5 rfl (fun K hK => ?_)
 go_simp
 refine Calls.mono (f3 _ ((HR.out.ext hb3).ext hx5)) ?_
 rintro e w6 ⟨⟨A6, c6, rfl, hR6, hA6⟩, hb6⟩
 have hx6 := hx5.trans hb6
 have z6 := z3.ext hx6
 have k6 := k3.ext hx6
 have hE6 := hE3.trans hx6
 refine hK.out _ _ (fun _ _ => k6.cell) ?_
 clear hK K
 obtain ⟨sb, hsb, -⟩ := strV_str c.pay
 have HSB := Lib.hid hsb
 have y5 := hx5.size
 obtain ⟨src, cr, seq, off, tot, dk', dn, life, prio, fl, bl, pay⟩ := c
 unfold Bu.cells
 dsimp only at hsb hR6 ⊢
 rw [hsb]
 clear hsb
 refine pT 6 (v := ?_) rfl (fun _ _ _ h => h) (by rfl) ?_ ?_
 rotate_left
 ·intro w'; go_simp; first | done | with_reducible rfl
 try simp only [Act.put, sp1]
 refine pT 7 (v := ?_) rfl (fun _ _ _ h => h) (by rfl) ?_ ?_
 rotate_left
 ·intro w'; go_simp; first | done | with_reducible rfl
 try simp only [Act.put, sp1]
 have u1 := z6.cell
 have u2 := z6.lt
 have u3 := z6.frozen
 have hs9 := z6.setCells_ [.int .i64 src, .int .i64 cr, .int .i64 seq, .int .i64 off, .int .i64 tot, .int .i64 dk', .int .i64 dn, .int .i64 life, .int .i64 prio, .int .i64 fl, .slice A6 bl.length c6, .string sb] 0
 rw [arrSets12d] at hs9
 have hu9 := ups_setCells W1.heap.size w6 0 [.int .i64 src, .int .i64 cr, .int .i64 seq, .int .i64 off, .int .i64 tot, .int .i64 dk', .int .i64 dn, .int .i64 life, .int .i64 prio, .int .i64 fl, .slice A6 bl.length c6, .string sb]
 obtain ⟨WX, hWX, hkX, hBX, hRX, kX⟩ : ∃ WX, w6.setCells W1.heap.size 0 [.int .i64 src, .int .i64 cr, .int .i64 seq, .int .i64 off, .int .i64 tot, .int .i64 dk', .int .i64 dn, .int .i64 life, .int .i64 prio, .int .i64 fl, .slice A6 bl.length c6, .string sb] = WX /\ Blk WX W1.heap.size 29 #[.int .i64 src, .int .i64 cr, .int .i64 seq, .int .i64 off, .int .i64 tot, .int .i64 dk', .int .i64 dn, .int .i64 life, .int .i64 prio, .int .i64 fl, .slice A6 bl.length c6, .string sb] /\ Ext w WX /\ Rd EBl WX A6 bl /\ Blk WX w.heap.size 29 #[.int .i64 b.src, .int .i64 b.cr, .int .i64 b.seq, .int .i64 b.off, .int .i64 b.tot, .int .i64 b.dk, .int .i64 b.dn, .int .i64 b.life, .int .i64 b.prio, .int .i64 b.flags, .slice A b.blocks.length cap, .string pa] :=
  ⟨_, rfl, hs9, ext_setCells hE6 y1 0 _, hu9.rd hR6 (fun ad h => by have := hA6 ad h; omega), hu9.blk k6 (by omega)⟩
 simp only [World.setCells, Nat.zero_add, Nat.reduceAdd] at hWX
 clear hs9 hu9
 refine pO 8 rfl (fun K hK => ?_)
 go_simp
 (try rw [hWX])
 refine hK.out _ _ (fun _ _ => kX.cell) ?_
 clear hK K u1 u2 u3
 refine pT 9 (v := ?_) rfl (fun _ _ _ h => h) (by rfl) ?_ ?_
 rotate_left
 ·intro w'; go_simp; first | done | with_reducible rfl
 try simp only [Act.put, sp1]
 refine wpAnyP_done (by kernel_rfl) ?_ _
 go_wp2
 have hcX := hkX.cell
 refine bodyPost_ret (v := .tuple #[.agg #[.int .i64 src, .int .i64 cr, .int .i64 seq, .int .i64 off, .int .i64 tot, .int .i64 dk', .int .i64 dn, .int .i64 life, .int .i64 prio, .int .i64 fl, .slice A6 bl.length c6, .string sb], .int .i64 0]) (by rw [results_cell_tmp rfl]; simp [asAddr, Result.andThen, hcX, go_sem]) rfl ?_
 exact ⟨⟨A6, c6, by unfold Bu.cells; dsimp only; rw [HSB.out], hRX, fun ad h => by have := hA6 ad h; omega⟩, hBX⟩
end
end Go.Proofs.YtemkpimngbbpkaaGreat

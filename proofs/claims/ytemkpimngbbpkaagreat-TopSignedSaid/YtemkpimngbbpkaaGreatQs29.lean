/- Security: block.Find, filter, Remove. · Layer 13's reference: Check: that they answer. -/
import Derived.BigRegion
import Derived.Test.YtemkpimngbbpkaaGreatQs03
import Derived.Test.YtemkpimngbbpkaaGreatQs08
import Derived.Test.YtemkpimngbbpkaaGreatQs28
namespace Go.Proofs.YtemkpimngbbpkaaGreat
set_option linter.unusedVariables false
set_option linter.unusedSimpArgs false
section
open Go.RowKit Go.Shelf
attribute [local go_sem] Oper.semAt_some
structure PredB (w0 : World) (f : FuncId) (cs : Array Value) (p : Bl -> Bool) : Prop where
 enters : ∀ args w, (callFunc f args).run Tryz.prog w = .ok (.enter f args) w
 says : ∀ (x : Bl) (w : World), Ext w0 w -> Calls Tryz.prog f (#[.agg #[.int .i64 x.kind, .int .i64 x.flags, strV x.data]] ++ cs) w fun e w' => e = .returned (.bool (p x)) /\ Ext w w'
set_option maxHeartbeats 2000000 in
theorem indexB_any (A : Option Addr) (c : Nat) (l : List Bl) (f : FuncId) (cs : Array Value) (p : Bl -> Bool) (w : World) (hA : Rd EBl w A l) (hmax : l.length <= 1000000) (hp : PredB w f cs p) :
 Calls Tryz.prog 127 #[.slice A l.length c, .func (.func f) #[] cs] w fun e w' => e = .returned (.int .i64 (findI p l)) /\ Ext w w' := by
 have hen := hp.enters
 go_enter Tryz.func127, Tryz.ntmps127
 go_wp2
 go_loopw [8] (fun i wr => ∃ k : Nat, k <= l.length /\ i = .int .i64 k /\ Hid ((l.take k).any p = false) /\ Ext w wr) (fun i _ => l.length - (intOf i).toNat)
 case atStart => exact ⟨0, Nat.zero_le _, rfl, Lib.hid rfl, Ext.refl _⟩
 case round =>
  obtain ⟨k, hk, rfl, hu, hN⟩ := hrel
  by_cases hlt : k < l.length
  ·obtain ⟨b, o, rfl, hb, c0, c1, c2⟩ := (hA.ext hN).bl hlt
   generalize hxe : l[k] = x at *
   have Hx := Lib.hid hxe
   clear hxe
   have hsay := hp.says x wr hN
   cases hpx : p x
   all_goals
    go_wp2_with fail
    refine hsay.mono ?_
    rintro e w1 ⟨rfl, hb1⟩
    rw [hpx]
   ·go_wp2
    go_roundw
    case rel => exact ⟨k + 1, by omega, by go_num, Lib.hid (any_step hlt Hx.out hu.out hpx), hN.trans hb1⟩
    case measure => simp [intOf]; omega
   ·go_wp2
    go_ret
    refine ⟨ret_i64 ?_, hN.trans hb1⟩
    exact (findI_at hlt hu.out (by rw [Hx.out]; exact hpx)).symm
  ·go_wp2
   go_ret
   refine ⟨ret_i64 ?_, hN⟩
   have e : l.take k = l := List.take_of_length_le (by omega)
   have h := hu.out
   rw [e] at h
   exact (findI_nope h).symm
theorem find_findI {p : Bl -> Bool} : ∀ {l : List Bl}, (l.find? p = none -> findI p l < 0) /\ (∀ b, l.find? p = some b -> ∃ k : Nat, ∃ h : k < l.length, findI p l = (k : Int) /\ l[k] = b) := by
 intro l
 constructor
 ·intro h
  have h1 : l.any p = false := by
   rw [List.any_eq_false]
   intro x hx
   have := List.find?_eq_none.1 h x hx
   simpa using this
  rw [findI_nope h1]
  omega
 ·intro b h
  obtain ⟨hb, l1, l2, e, hno⟩ := List.find?_eq_some_iff_append.1 h
  have hlt : l1.length < l.length := by rw [e, List.length_append, List.length_cons]; omega
  have hg : l[l1.length] = b := by simp [e]
  refine ⟨l1.length, hlt, findI_at hlt ?_ (by rw [hg]; exact hb), hg⟩
  have : l.take l1.length = l1 := by rw [e, List.take_left]
  rw [this, List.any_eq_false]
  intro x hx
  have := hno x hx
  simpa using this
theorem find1_pred (g : Nat) (k : Int) (w : World) (hg : Blk w g 3 #[.int .i64 k]) : PredB w 128 #[.pointer (some ⟨g, 0, none⟩)] (fun x => decide (x.kind = k)) := by
 refine ⟨enters_of Tryz.func128 (by kernel_rfl) rfl, fun x w1 hw => ?_⟩
 obtain ⟨ba, hba, -⟩ := strV_str x.data
 rw [hba]
 obtain ⟨kd, hkd⟩ : ∃ kd, x.kind = kd := ⟨_, rfl⟩
 obtain ⟨fl, hfl⟩ : ∃ fl, x.flags = fl := ⟨_, rfl⟩
 rw [hkd, hfl]
 obtain ⟨W, hW, hB, hk, hlt⟩ := box1 w1 #[.int .i64 kd, .int .i64 fl, .string ba] 116
 have hc := hk.cell
 have hd := ((hg.ext hw).ext hB).cell
 have he := ((hg.ext hw).ext hB).lt
 rw [show decide (kd = k) = (kd == k) from rfl]
 obtain ⟨r, hr⟩ : ∃ r, (kd == k) = r := ⟨_, rfl⟩
 rw [hr]
 clear hkd hfl hba
 go_enter Tryz.func128, Tryz.ntmps128
 go_wp2
 go_ret
 exact ⟨rfl, hB⟩
theorem remove1_pred (g : Nat) (k : Int) (w : World) (hg : Blk w g 3 #[.int .i64 k]) : PredB w 272 #[.pointer (some ⟨g, 0, none⟩)] (fun x => decide (x.kind ≠ k)) := by
 refine ⟨enters_of Tryz.func272 (by kernel_rfl) rfl, fun x w1 hw => ?_⟩
 obtain ⟨ba, hba, -⟩ := strV_str x.data
 rw [hba]
 obtain ⟨kd, hkd⟩ : ∃ kd, x.kind = kd := ⟨_, rfl⟩
 obtain ⟨fl, hfl⟩ : ∃ fl, x.flags = fl := ⟨_, rfl⟩
 rw [hkd, hfl]
 obtain ⟨W, hW, hB, hk, hlt⟩ := box1 w1 #[.int .i64 kd, .int .i64 fl, .string ba] 116
 have hc := hk.cell
 have hd := ((hg.ext hw).ext hB).cell
 have he := ((hg.ext hw).ext hB).lt
 rw [show decide (kd ≠ k) = (kd != k) by by_cases h : kd = k <;> simp [h]]
 obtain ⟨r, hr⟩ : ∃ r, (kd != k) = r := ⟨_, rfl⟩
 rw [hr]
 clear hkd hfl hba
 go_enter Tryz.func272, Tryz.ntmps272
 go_wp2
 go_ret
 exact ⟨rfl, hB⟩
set_option maxRecDepth 100000 in
set_option maxHeartbeats 4000000 in
theorem blFind_any (A : Option Addr) (c : Nat) (l : List Bl) (k : Int) (w : World) (hA : Rd EBl w A l) (hmax : l.length <= 1000000) :
 Calls Tryz.prog 47 #[.slice A l.length c, .int .i64 k] w fun e w' => e = .returned (match findK l k with | some b => .tuple #[.agg #[.int .i64 b.kind, .int .i64 b.flags, strV b.data], .bool true] | none => .tuple #[.agg #[.int .i64 0, .int .i64 0, .string ⟨#[]⟩], .bool false]) /\ Ext w w' := by
 obtain ⟨W1, hW1, hB1, hk1, hl1⟩ := box1 w #[.int .i64 k] 3
 obtain ⟨W2, hW2, hB2, hk2, hl2⟩ := box1 W1 #[.int .i64 0, .int .i64 0, .string ⟨#[]⟩] 116
 have hi := indexB_any A c l 128 #[.pointer (some ⟨w.heap.size, 0, none⟩)] (fun x => decide (x.kind = k)) W2 ((hA.ext hB1).ext hB2) hmax (find1_pred w.heap.size k W2 (hk1.ext hB2))
 obtain ⟨f1, f2⟩ := find_findI (p := fun x : Bl => decide (x.kind = k)) (l := l)
 have hE2 := hB1.trans hB2
 cases hf : findK l k with
 | none =>
   have h1 := f1 hf
   generalize findI (fun x : Bl => decide (x.kind = k)) l = ix at *
   clear f1 f2 hf
   go_enter Tryz.func47, Tryz.ntmps47
   go_wp2_with fail
   clear hW1 hW2
   refine hi.mono ?_
   clear hi
   rintro e w3 ⟨rfl, hb3⟩
   have k3 := hk2.ext hb3
   have c3 := k3.cell
   have l3 := k3.lt
   have z3 := k3.frozen
   go_wp2
   obtain ⟨w7, hw7, hz7, hE7⟩ : ∃ w7, w3.setCells W1.heap.size 0 [.int .i64 0, .int .i64 0, .string ⟨#[]⟩] = w7 /\ Blk w7 W1.heap.size 116 #[.int .i64 0, .int .i64 0, .string ⟨#[]⟩] /\ Ext w w7 :=
    ⟨_, rfl, k3.setCells_ [.int .i64 0, .int .i64 0, .string ⟨#[]⟩] 0, ext_setCells (hE2.trans hb3) (by have := hB1.size; omega) 0 _⟩
   simp only [World.setCells, Nat.zero_add, Nat.reduceAdd] at hw7
   rw [hw7]
   have hc7 := hz7.cell
   refine bodyPost_ret (v := .tuple #[.agg #[.int .i64 0, .int .i64 0, .string ⟨#[]⟩], .bool false]) (by rw [results_cell_tmp rfl]; simp [asAddr, Result.andThen, hc7, go_sem]) rfl ?_
   exact ⟨rfl, hE7⟩
 | some b =>
   obtain ⟨j, hj, hji, hjb⟩ := f2 b hf
   rw [hji] at hi
   have hbk : b.kind = k := by
    have := List.find?_some hf
    simpa using this
   clear f1 f2 hf hji hbk
   obtain ⟨ba, hba, -⟩ := strV_str b.data
   have HBA := Lib.hid hba
   dsimp only
   rw [hba]
   have hd : decide ((j : Int) < 0) = false := decide_eq_false (by omega)
   obtain ⟨kd, hkd⟩ : ∃ kd, b.kind = kd := ⟨_, rfl⟩
   obtain ⟨fl, hfl⟩ : ∃ fl, b.flags = fl := ⟨_, rfl⟩
   rw [hkd, hfl]
   have hA2 := (hA.ext hB1).ext hB2
   go_enter Tryz.func47, Tryz.ntmps47
   go_wp2_with fail
   clear hW1 hW2
   refine hi.mono ?_
   clear hi
   rintro e w3 ⟨rfl, hb3⟩
   have k3 := hk2.ext hb3
   have c3 := k3.cell
   have l3 := k3.lt
   have z3 := k3.frozen
   obtain ⟨gb, go, rfl, hbl, x0, x1, x2⟩ := (hA2.ext hb3).bl hj
   rw [hjb, hkd] at x0
   rw [hjb, hfl] at x1
   rw [hjb, hba] at x2
   clear hjb
   go_wp2
   obtain ⟨w7, hw7, hz7, hE7⟩ : ∃ w7, w3.setCells W1.heap.size 0 [.int .i64 kd, .int .i64 fl, .string ba] = w7 /\ Blk w7 W1.heap.size 116 #[.int .i64 kd, .int .i64 fl, .string ba] /\ Ext w w7 :=
    ⟨_, rfl, k3.setCells_ [.int .i64 kd, .int .i64 fl, .string ba] 0, ext_setCells (hE2.trans hb3) (by have := hB1.size; omega) 0 _⟩
   simp only [World.setCells, Nat.zero_add, Nat.reduceAdd] at hw7
   rw [hw7]
   have hc7 := hz7.cell
   refine bodyPost_ret (v := .tuple #[.agg #[.int .i64 kd, .int .i64 fl, .string ba], .bool true]) (by rw [results_cell_tmp rfl]; simp [asAddr, Result.andThen, hc7, go_sem]) rfl ?_
   exact ⟨rfl, hE7⟩
theorem info_block : (Tryz.prog.info? 116).map (fun i => (i.zero, i.size, i.bytes)) = some (some (.agg #[.int .i64 0, .int .i64 0, .string ⟨#[]⟩]), 3, 32) := by kernel_rfl
set_option maxRecDepth 100000 in
set_option maxHeartbeats 8000000 in
theorem filter_any (A : Option Addr) (c : Nat) (l : List Bl) (f : FuncId) (cs : Array Value) (p : Bl -> Bool) (w : World) (hA : Rd EBl w A l) (hmax : l.length <= 1000000) (hp : PredB w f cs p) :
 Calls Tryz.prog 132 #[.slice A l.length c, .func (.func f) #[] cs] w fun e w' => ∃ u, e = .returned u /\ Owns EBl w' w.heap.size 116 u (l.filter p) /\ Ext w w' := by
 have hen := hp.enters
 obtain ⟨i0, hi0, hz0, hz1, hz2⟩ := info_parts info_block
 go_enter Tryz.func132, Tryz.ntmps132
 go_wp2_with fail
 go_loopg [5, 10] l.length (fun n u v wr => ∃ (k : Nat) (o : List Bl), k + n = l.length /\ v = .int .i64 k /\ Hid (o = (l.take k).filter p) /\ Hid (o.length <= k) /\ Owns EBl wr w.heap.size 116 u o /\ Ext w wr)
 case atStart => exact ⟨0, [], by omega, by go_num, Lib.hid rfl, Lib.hid (Nat.le_refl _), Owns.none_ _ _, Ext.refl _⟩
 case round =>
  obtain ⟨k, out, hkn, rfl, hof, hol, ho, hE⟩ := hrel
  have Hkn := Lib.hid hkn
  clear hkn
  by_cases hlt : k < l.length
  ·obtain ⟨b, o, rfl, hb, c0, c1, c2⟩ := (hA.ext hE).bl hlt
   have hst : (l.take (k + 1)).filter p = (l.take k).filter p ++ (if p l[k] then [l[k]] else []) := by
    rw [<- List.take_append_getElem hlt, List.filter_append]
    congr 1
    by_cases h : p l[k] <;> simp [h]
   generalize hxe : l[k] = x at *
   have hsay := hp.says x
   obtain ⟨ba, hba, -⟩ := strV_str x.data
   rw [hba] at c2 hsay
   have hcl : (EBl.cells x).toArray = #[.int .i64 x.kind, .int .i64 x.flags, .string ba] := by
    show #[Value.int .i64 x.kind, .int .i64 x.flags, strV x.data] = _
    rw [hba]
   have HCL := Lib.hid hcl
   obtain ⟨W1, hW1, hB1, hk1, hl1⟩ := box1 wr #[.int .i64 x.kind, .int .i64 x.flags, .string ba] 116
   have d1 := hk1.cell
   obtain ⟨A1, c1', rfl, hR1⟩ := ho.form
   clear hxe hba hcl
   cases hpx : p x
   ·have HS := Lib.hid (show out = (l.take (k + 1)).filter p by rw [hst, hpx, hof.out]; simp)
    go_wp2_with fail
    clear hW1 c0 c1 c2
    refine (hsay _ (hE.trans hB1)).mono ?_
    rintro e w2 ⟨rfl, hb2⟩
    rw [hpx]
    go_wp2
    go_roundg (gk - 1)
    case measure => have := Hkn.out; omega
    case rel => exact ⟨k + 1, out, by have := Hkn.out; omega, by go_num, HS, Lib.hid (by have := hol.out; omega), (ho.ext hB1).ext hb2, (hE.trans hB1).trans hb2⟩
   ·have HS := Lib.hid (show out ++ [x] = (l.take (k + 1)).filter p by rw [hst, hpx, hof.out]; simp)
    have hE1 := hE.trans hB1
    go_wp2_with fail
    clear hW1 c0 c1 c2
    refine (hsay _ (hE.trans hB1)).mono ?_
    rintro e w2 ⟨rfl, hb2⟩
    rw [hpx]
    have d2 := (hk1.ext hb2).cell
    have e2 := (hk1.ext hb2).lt
    have ho2 := (ho.ext hB1).ext hb2
    clear d1
    obtain ⟨kd, hkd⟩ : ∃ kd, x.kind = kd := ⟨_, rfl⟩
    obtain ⟨fl, hfl⟩ : ∃ fl, x.flags = fl := ⟨_, rfl⟩
    rw [hkd, hfl] at d2
    have HC2 := Lib.hid (show (EBl.cells x).toArray = #[.int .i64 kd, .int .i64 fl, .string ba] by rw [HCL.out, hkd, hfl])
    clear hkd hfl
    have hz := hE1.size
    have hz2b := hb2.size
    go_wp2_with (at_builtin; refine wpList_push (y := x) rfl (.tmp 17) (.tmp 19) _ (by rfl) w.heap.size 116 i0 _ 32 Tryz.underlying27 hi0 hz0 hz1 hz2 (by rfl) (.slice A1 out.length c1') (by rfl) (ho2.ext ((Ext.refl _).alloc _)) w2.heap.size (by rfl) (by rw [HC2.out]; exact Blk.new w2 _ _) (by have := hol.out; simp only [maxLen]; omega) (by have := hol.out; omega) (by simp; omega) ?_; intro v6 w6 hv6 hg6 hat6)
    go_roundg (gk - 1)
    case measure => have := Hkn.out; omega
    case rel => exact ⟨k + 1, out ++ [x], by have := Hkn.out; omega, by go_num, HS, Lib.hid (by rw [List.length_append, List.length_singleton]; have := hol.out; omega), hv6, ext_grown ((hE1.trans hb2).alloc _) (ho2.ext ((Ext.refl _).alloc _)) (Nat.le_refl _) hg6⟩
  ·obtain rfl : k = l.length := by have := Hkn.out; omega
   have HF := Lib.hid (show out = l.filter p by rw [hof.out, List.take_length])
   obtain ⟨A1, c1, rfl, hR1⟩ := ho.form
   go_wp2
   go_ret
   exact ⟨_, rfl, by rw [<- HF.out]; exact ho, hE⟩
end
section
open Go.RowKit Go.Shelf
attribute [local go_sem] Oper.semAt_some
set_option maxRecDepth 100000 in
set_option maxHeartbeats 16000000 in
theorem check3_any (b : Bu) (A : Option Addr) (cap : Nat) (w : World) (hR : Rd EBl w A b.blocks) :
 Calls Tryz.prog 10 #[.agg (b.cells A cap)] w fun e w' => RetI e /\ Ext w w' := by
 have g6 := Lib.hid (fun w => flags3_any b A cap w)
 obtain ⟨src, cr, seq, off, tot, dk, dn, life, prio, f, bl, pay⟩ := b
 dsimp only at hR
 unfold Bu.cells
 dsimp only
 have g7 : ∀ w, Calls Tryz.prog 38 #[.agg #[.int .i64 src, .int .i64 cr, .int .i64 seq, .int .i64 off, .int .i64 tot, .int .i64 dk, .int .i64 dn, .int .i64 life, .int .i64 prio, .int .i64 f, .slice A bl.length cap, strV pay]] w fun e w' => RetB e /\ Ext w w' := g6.out
 obtain ⟨sv, hsv, -⟩ := strV_str pay
 rw [hsv] at g7 ⊢
 clear g6
 have g6 := Lib.hid g7
 clear g7
 clear hsv
 have hs0 : 0 <= (sv.size : Int) := by omega
 obtain ⟨W, hW, hB, hk, hlt⟩ := box1 w #[.int .i64 src, .int .i64 cr, .int .i64 seq, .int .i64 off, .int .i64 tot, .int .i64 dk, .int .i64 dn, .int .i64 life, .int .i64 prio, .int .i64 f, .slice A bl.length cap, .string sv] 29
 have hc := hk.cell
 have HR := Lib.hid hR
 clear hR
 have Hq := Lib.hid (show ∀ w2, Ext W w2 -> Ext w w2 /\ Blk w2 w.heap.size 29 #[.int .i64 src, .int .i64 cr, .int .i64 seq, .int .i64 off, .int .i64 tot, .int .i64 dk, .int .i64 dn, .int .i64 life, .int .i64 prio, .int .i64 f, .slice A bl.length cap, .string sv] /\ Rd EBl w2 A bl from fun w2 h => ⟨hB.trans h, hk.ext h, (HR.out.ext hB).ext h⟩)
 go_enter Tryz.func10, Tryz.ntmps10
 go_wp2_with fail
 clear hW
 refine (id3_any src cr seq off tot _).mono ?_
 rintro e w1 ⟨⟨v1, rfl, g1⟩, hx1⟩
 obtain ⟨hE1, hk1, hR1⟩ := Hq.out _ hx1
 have hc1 := hk1.cell
 have hl1 := hk1.lt
 clear hc
 cases v1 with
 | false =>
   go_wp2
   go_ret
   exact ⟨⟨_, rfl⟩, hE1⟩
 | true =>
 obtain ⟨⟨p1, p2⟩, ⟨p3, p4⟩, p5, p6⟩ := g1 (by trivial)
 go_wp2_with fail
 refine (ep3_any dk dn _).mono ?_
 rintro e w2 ⟨⟨v2, rfl⟩, hb2⟩
 have hx2 := hx1.trans hb2
 obtain ⟨hE2, hk2, hR2⟩ := Hq.out _ hx2
 have hc2 := hk2.cell
 have hl2 := hk2.lt
 clear hc1 hl1
 by_cases u2 : v2 = 0
 case neg =>
  have z2 : (v2 != 0) = true := by rw [bne_iff_ne]; exact u2
  go_wp2
  go_ret
  exact ⟨⟨_, rfl⟩, hE2⟩
 subst u2
 by_cases y1 : life < 1
 ·go_wp2
  go_ret
  exact ⟨⟨_, rfl⟩, hE2⟩
 by_cases y2 : 1099511627776 - cr < life
 ·go_wp2
  go_ret
  exact ⟨⟨_, rfl⟩, hE2⟩
 by_cases y3 : prio < 0
 ·go_wp2
  go_ret
  exact ⟨⟨_, rfl⟩, hE2⟩
 by_cases y4 : 2 < prio
 ·go_wp2
  go_ret
  exact ⟨⟨_, rfl⟩, hE2⟩
 go_wp2_with fail
 refine (g6.out _).mono ?_
 rintro e w3 ⟨⟨v3, rfl⟩, hb3⟩
 have hx3 := hx2.trans hb3
 obtain ⟨hE3, hk3, hR3⟩ := Hq.out _ hx3
 have hc3 := hk3.cell
 have hl3 := hk3.lt
 clear hc2 hl2
 cases v3 with
 | false =>
   go_wp2
   go_ret
   exact ⟨⟨_, rfl⟩, hE3⟩
 | true =>
 go_wp2_with fail
 refine (blks3_any A cap bl _ hR3).mono ?_
 rintro e w4 ⟨⟨v4, rfl⟩, hb4⟩
 have hx4 := hx3.trans hb4
 obtain ⟨hE4, hk4, hR4⟩ := Hq.out _ hx4
 have hc4 := hk4.cell
 have hl4 := hk4.lt
 clear hc3 hl3
 by_cases u4 : v4 = 0
 case neg =>
  have z4 : (v4 != 0) = true := by rw [bne_iff_ne]; exact u4
  go_wp2
  go_ret
  exact ⟨⟨_, rfl⟩, hE4⟩
 subst u4
 by_cases s1 : 4096 < (sv.size : Int)
 ·go_wp2
  go_ret
  exact ⟨⟨_, rfl⟩, hE4⟩
 by_cases s2 : 0 < tot
 ·by_cases s3 : (sv.size : Int) = 0
  ·have z3 : ((sv.size : Int) == 0) = true := by rw [beq_iff_eq]; exact s3
   go_wp2
   go_ret
   exact ⟨⟨_, rfl⟩, hE4⟩
  ·have z3 : ((sv.size : Int) == 0) = false := by rw [beq_eq_false_iff_ne]; exact s3
   by_cases s4 : tot - off < (sv.size : Int)
   ·go_wp2
    go_ret
    exact ⟨⟨_, rfl⟩, hE4⟩
   ·go_wp2
    go_ret
    exact ⟨⟨_, rfl⟩, hE4⟩
 ·go_wp2
  go_ret
  exact ⟨⟨_, rfl⟩, hE4⟩
end
end Go.Proofs.YtemkpimngbbpkaaGreat

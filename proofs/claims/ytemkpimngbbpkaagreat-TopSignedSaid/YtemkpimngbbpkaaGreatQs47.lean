/- TopSigned: words for the walk: Signers, Same, a row of bytes with one other byte. · TopSigned: Signers. · Forwarding: varint.List, Visit. -/
import Derived.Test.YtemkpimngbbpkaaGreatQs09
import Derived.Test.YtemkpimngbbpkaaGreatQs16
import Derived.Test.YtemkpimngbbpkaaGreatQs32
import Derived.Test.YtemkpimngbbpkaaGreatQs33
import Derived.Test.YtemkpimngbbpkaaGreatQs46
namespace Go.Proofs.YtemkpimngbbpkaaGreat
set_option linter.unusedVariables false
set_option linter.unusedSimpArgs false
section
open Go.RowKit Go.Shelf
attribute [local go_sem] Oper.semAt_some
theorem OwnsB.there {w : World} {base : Nat} {e : TypeId} {v : Value} {l : Bts} (h : OwnsB w base e v l) {k : Nat} (hk : k < l.length) :
 ∃ g c, v = .slice (some ⟨g, 0, none⟩) l.length c /\ base <= g /\ g < w.heap.size /\ w.cell? ⟨g, k, none⟩ = some (.int .u8 (l[k].toNat : Int)) /\ w.frozen? ⟨g, k, none⟩ = false /\ ∀ x : UInt8, OwnsB (w.setCell ⟨g, k, none⟩ (.int .u8 (x.toNat : Int))) base e v (l.set k x) := by
 rcases h with ⟨_, rfl⟩ | ⟨g, cap, cur, fz, rfl, h2, h3, h4, h5, h6, h7, h8⟩
 ·simp at hk
 ·have hck : cur[k]? = some (byC l[k]) := by
   have h9 : (cur.toList.take l.length)[k]? = some (byC l[k]) := by rw [h8, List.getElem?_map, List.getElem?_eq_getElem hk]; rfl
   rw [List.getElem?_take_of_lt hk, Array.getElem?_toList] at h9
   exact h9
  have hfr : w.frozen? ⟨g, k, none⟩ = false := by
   rcases h4 with rfl | rfl
   ·simp [World.frozen?, h3]
   ·simp [World.frozen?, h3]; omega
  refine ⟨g, cap, rfl, h2, (Array.getElem?_eq_some_iff.1 h3).1, (cell_of_row w g k cur e fz h3).trans hck, hfr, fun x => ?_⟩
  refine .inr ⟨g, cap, cur.setIfInBounds k (byC x), fz, by rw [List.length_set], h2, ?_, by rw [Array.size_setIfInBounds]; exact h4, by rw [List.length_set]; exact h5, h6, by rw [Array.size_setIfInBounds]; exact h7, ?_⟩
  ·have := setCell_eq_setRow w g k cur e fz (byC x) h3
   rw [show (Value.int .u8 (x.toNat : Int)) = byC x from rfl, this]
   exact setRow_heap w g cur _ e _ h3
  ·rw [Array.toList_setIfInBounds, List.length_set, List.take_set, h8, List.map_set]
def sgn (b : Bu) : List Int := (sigs b.auth.data).map (fun x => (x.1.toNat : Int))
set_option maxRecDepth 100000 in
set_option maxHeartbeats 4000000 in
theorem SameBlocks_eq (A B : Option Addr) (c d : Nat) (l : List Bl) (w : World) (hA : Rd EBl w A l) (hB : Rd EBl w B l) (hl : l.length <= 1000000) :
 Calls Tryz.prog 114 #[.slice A l.length c, .slice B l.length d] w fun e w' => e = .returned (.bool true) /\ Ext w w' := by
 go_enter Tryz.func114, Tryz.ntmps114
 go_wp2_with fail
 go_loopg [5] l.length (fun m vi wr => ∃ k : Nat, k + m = l.length /\ vi = .int .i64 k /\ Ext w wr)
 case atStart => exact ⟨0, by omega, by go_num, Ext.refl _⟩
 case round =>
  obtain ⟨k, hkn, rfl, hE⟩ := hrel
  have Hkn := Lib.hid hkn
  clear hkn
  by_cases hlt : k < l.length
  ·obtain ⟨ba, oa, rfl, hba, a0, a1, a2⟩ := (hA.ext hE).bl hlt
   obtain ⟨bb, ob, rfl, hbb, b0, b1, b2⟩ := (hB.ext hE).bl hlt
   obtain ⟨sb, hsb, -⟩ := strV_str l[k].data
   rw [hsb] at a2 b2
   generalize l[k] = x at *
   obtain ⟨kd, hkd⟩ : ∃ kd, x.kind = kd := ⟨_, rfl⟩
   obtain ⟨fl, hfl⟩ : ∃ fl, x.flags = fl := ⟨_, rfl⟩
   rw [hkd] at a0 b0
   rw [hfl] at a1 b1
   clear hsb hkd hfl
   have hN := Near.refl wr
   go_upto_region 6 with fail
   have hC := hN.2
   have hq := quiet_near hN
   refine wp_region_quiet_below (by kernel_rfl) (by kernel_rfl) ?_
   repeat (first | go_big_quiet_skip | (go_big_quiet_want; go_big_quiet_op; first | go_big_quiet_on | (apply Exists.intro; refine ⟨fun _ => ?_, ?_⟩; (focus (first | fail)); go_big_quiet_on)))
   refine wpQuiet_nil ?_
   intro w1 hw1
   clear hq
   replace hw1 := quiet_ext hw1
   replace hN := hN.step hw1
   have hC := hN.2
   have hE2 := hE.trans hw1
   go_wp2_with fail
   go_roundg (gk - 1)
   case measure => have := Hkn.out; omega
   case rel => exact ⟨k + 1, by have := Hkn.out; omega, by go_num, hE2⟩
  ·obtain rfl : k = l.length := by have := Hkn.out; omega
   go_wp2
   go_ret
   exact ⟨rfl, hE⟩
set_option maxRecDepth 100000 in
set_option maxHeartbeats 4000000 in
theorem Same_eq (b : Bu) (A B : Option Addr) (c d : Nat) (w : World) (hA : Rd EBl w A b.blocks) (hB : Rd EBl w B b.blocks) (hl : b.blocks.length <= 1000000) :
 Calls Tryz.prog 34 #[.agg (b.cells A c), .agg (b.cells B d)] w fun e w' => e = .returned (.bool true) /\ Ext w w' := by
 have f1 := fun w h h' => SameBlocks_eq A B c d b.blocks w h h' hl
 obtain ⟨pa, hpa, -⟩ := strV_str b.pay
 unfold Bu.cells
 rw [hpa]
 obtain ⟨W, hW, hB0, hk, hk2, hlt, hlt2⟩ := box2 w #[.int .i64 b.src, .int .i64 b.cr, .int .i64 b.seq, .int .i64 b.off, .int .i64 b.tot, .int .i64 b.dk, .int .i64 b.dn, .int .i64 b.life, .int .i64 b.prio, .int .i64 b.flags, .slice A b.blocks.length c, .string pa] #[.int .i64 b.src, .int .i64 b.cr, .int .i64 b.seq, .int .i64 b.off, .int .i64 b.tot, .int .i64 b.dk, .int .i64 b.dn, .int .i64 b.life, .int .i64 b.prio, .int .i64 b.flags, .slice B b.blocks.length d, .string pa] 29 29
 have hc := hk.cell
 have hc2 := hk2.cell
 have HA := Lib.hid (hA.ext hB0)
 have HB := Lib.hid (hB.ext hB0)
 clear hpa hA hB
 go_enter Tryz.func34, Tryz.ntmps34
 go_wp2_with fail
 clear hW
 refine (f1 _ HA.out HB.out).mono ?_
 rintro e w1 ⟨rfl, hb1⟩
 have q1 := (hk.ext hb1).cell
 have q2 := (hk2.ext hb1).cell
 have q3 := (hk.ext hb1).lt
 have q4 := (hk2.ext hb1).lt
 clear hc hc2
 go_wp2
 go_ret
 exact ⟨rfl, hB0.trans hb1⟩
end
section
open Go.RowKit Go.Shelf
attribute [local go_sem] Oper.semAt_some
theorem abO_ext {β : Type} {T : Nat -> Prop} {B : Nat} {J : β -> World -> Prop} (h : AbO T B J) {s : β} {W W' : World} (hs : J s W) (he : Ext W W') : J s W' :=
 h s W W' none hs (grown_ext (World.grownBy.refl W none) he) (fun r e => by cases e)
theorem abO_set {β : Type} {B : Nat} {N : Nat} {J : β -> World -> Prop} (h : AbO (fun r => r = B) N J) {s : β} {W : World} (hs : J s W) (o : Nat) (v : Value) : J s (W.setCell ⟨B, o, none⟩ v) :=
 h s W _ (some B) hs (grown_setCell (World.grownBy.refl W (some B)) o v) (fun r e => by injection e with e; exact .inl e.symm)
set_option maxRecDepth 100000 in
set_option maxHeartbeats 8000000 in
theorem sigO_iter (l B : Nat) (S : Nat -> Prop) (d : Bts) (W : World) (hz : d.length <= 8000) (kb : Blk W B 9 #[strV d]) (hB : ¬ S B)
 (J Jx : List Sg -> World -> Prop) (hJ : AbO (fun r => r = B) W.heap.size J)
 (hY : ∀ pre x W, J pre W -> pre.length < 1000 -> x.2.length = 8 -> YieldAt Fence.wide 3 Tryz.prog l (sgV x) W fun e W' =>
  (e = .returned (.bool true) /\ J (pre ++ [x]) W' /\ KpQ S W W') ∨ (e = .returned (.bool false) /\ Jx (pre ++ [x]) W'))
 (hj : J [] W) :
 CallsIn Fence.wide 4 Tryz.prog 129 #[.func (.yield l) #[] #[], .pointer (some ⟨B, 0, none⟩)] W fun e W' => (∃ v, e = .returned v) /\
  ((∃ ys : List Sg, SgF d ys /\ J ys W') ∨ (∃ pre : List Sg, (∃ k, k <= d.length / 9 /\ pre = sgK d k) /\ Jx pre W')) := by
 have hmix : Tryz.prog.follows .mixedOrders = true := by kernel_rfl
 refine callsIn_of_wp Tryz.func129 rfl trivial ?_ rfl
 simp only [Tryz.ntmps129, List.size_toArray, List.length_cons, List.length_nil, Nat.reduceAdd, Nat.reduceSub, Array.replicate_succ, Array.replicate_zero, List.push_toArray, List.append_toArray, List.nil_append, List.cons_append]
 gi_wp2
 gi_loopg [] d.length (fun n wr => ∃ i : Nat, 9 * i + n = d.length /\ Blk wr B 9 #[strV (d.drop (9 * i))] /\ J (sgK d i) wr)
 case atStart => exact ⟨0, by omega, by simpa using kb, by simpa [sgK] using hj⟩
 case round =>
  obtain ⟨i, hin, kx, hjr⟩ := hrel
  have Hin := Lib.hid hin
  have hrl : (d.drop (9 * i)).length = gk := by rw [List.length_drop]; omega
  obtain ⟨r, hr⟩ : ∃ r, d.drop (9 * i) = r := ⟨_, rfl⟩
  have hsg := sgAt_drop d i
  have hsu := sgK_succ d i
  rw [hr] at hrl kx hsg
  obtain ⟨ba, hba, hbv, hbs⟩ := str_name r
  rw [hrl] at hbs
  rw [hbv] at kx
  have a1 := kx.cell
  have a2 := kx.lt
  have hgk : gk <= 8000 := by omega
  have Hr := Lib.hid hr
  clear hin hr
  by_cases h9 : 9 <= gk
  ·have h0 : 0 < r.length := by omega
   have hge : ∀ h : 0 < ba.size, ba[0]'h = r[0] := fun h => by
    subst hba
    rfl
   rw [show r.getD 0 0 = r[0] by simp [List.getD, h0]] at hsg
   have q2 : ∀ w, (Instr.slice 9 (.string ba) (some (.int .i64 1)) (some (.int .i64 9)) none).run Tryz.prog w = .ok (strV ((r.drop 1).take 8)) w := fun w => by
    rw [<- hbv]
    exact slice_mid 9 r 1 9 Tryz.underlying9 (by omega) (by omega) w
   have q3 : ∀ w, (Instr.slice 9 (.string ba) (some (.int .i64 9)) none none).run Tryz.prog w = .ok (strV (r.drop 9)) w := fun w => by
    rw [<- hbv]
    exact slice_from 9 r 9 Tryz.underlying9 (by omega) w
   have e2 : ba.extract 1 9 = ⟨((r.drop 1).take 8).toArray⟩ := by rw [<- hba, ByteArray.extract_mk]
   have e3 : ba.extract 9 gk = ⟨(r.drop 9).toArray⟩ := by
    rw [<- hba, ByteArray.extract_mk, List.take_of_length_le (by rw [List.length_drop]; omega)]
   obtain ⟨xb, hxb⟩ : ∃ xb, r[0] = xb := ⟨_, rfl⟩
   rw [hxb] at hsg hge
   obtain ⟨tg, htg⟩ : ∃ tg, (r.drop 1).take 8 = tg := ⟨_, rfl⟩
   have ht8 : tg.length = 8 := by rw [<- htg, List.length_take, List.length_drop]; omega
   rw [htg] at hsg q2 e2
   obtain ⟨r9, hr9⟩ : ∃ r9, r.drop 9 = r9 := ⟨_, rfl⟩
   rw [hr9] at q3 e3
   have HR9 := Lib.hid (show d.drop (9 * (i + 1)) = r9 by rw [<- hr9, <- Hr.out, List.drop_drop]; congr 1)
   obtain ⟨ta, hta, htv, -⟩ := str_name tg
   obtain ⟨ra, hra, hrv, -⟩ := str_name r9
   rw [hta] at e2
   rw [htv] at q2
   rw [hra] at e3
   rw [hrv] at q3
   have HRV := Lib.hid hrv
   rw [hsg] at hsu
   have Hsu := Lib.hid hsu
   obtain ⟨wd, hwd, hxd⟩ : ∃ wd, wr.drew = wd /\ Ext wr wd := ⟨_, rfl, (Ext.refl _).drew⟩
   have hjd := abO_ext hJ hjr hxd
   have kd := kx.ext hxd
   have b1 := kd.cell
   have b2 := kd.lt
   obtain ⟨fn, tmps, assign, body, hy, hR9⟩ := hY (sgK d i) (xb, tg) wd hjd (by rw [sgK_len]; have := Hin.out; omega) ht8
   clear ht8
   dsimp only [sgV] at hy
   rw [htv] at hy
   have hg0 : 0 < gk := by omega
   have hxw : IntKind.i64.wrap (xb.toNat : Int) = (xb.toNat : Int) := by have := xb.toNat_lt; simp [IntKind.wrap, IntKind.bits, IntKind.signed]; omega
   clear hsg hsu hxb htg hr9 hta hra htv hrv hba hbv
   gi_wp2
   refine wpIn_region_any hmix ?_
   change wpAnyIn _ _ _ _ _ _ _ _ _ (World.drew _)
   rw [hwd]
   clear hwd a1 a2
   refine wpAnyIn_take (i := 0) (v := ?_) rfl rfl (by kernel_rfl) (by kernel_rfl) (by kernel_rfl) (fun _ _ _ h => h) ⟨Or.inl ⟨by rfl, ?_⟩, fun _ => rfl⟩ ?_
   rotate_left
   ·intro w'; go_simp; first | done | with_reducible rfl
   refine wpAnyIn_ready (rs := [1, 4]) (by kernel_rfl) (by simp) ?_
   refine AllReadyIn.cons rfl (fun K hK => ?_) (AllReadyIn.cons rfl (fun K hK => ?_) AllReadyIn.nil)
   ·go_simp
    refine hK _ _ ?_
    clear hK K
    refine wpAnyIn_take (i := 2) (v := ?_) rfl rfl (by kernel_rfl) (by kernel_rfl) (by kernel_rfl) (fun _ _ _ h => h) ⟨Or.inl ⟨by rfl, ?_⟩, fun _ => rfl⟩ ?_
    rotate_left
    ·intro w'; go_simp; first | done | with_reducible rfl
    refine wpAnyIn_take (i := 3) (v := ?_) rfl rfl (by kernel_rfl) (by kernel_rfl) (by kernel_rfl) (fun _ _ _ h => h) ⟨Or.inl ⟨by rfl, ?_⟩, fun _ => rfl⟩ ?_
    rotate_left
    ·intro w'; go_simp; first | done | with_reducible rfl
    refine wpAnyIn_ready (rs := [4]) (by kernel_rfl) (by simp) ?_
    refine AllReadyIn.cons rfl (fun K hK => ?_) ?_
    rotate_left
    ·exact AllReadyIn.nil
    go_simp
    refine hK _ _ ?_
    clear hK K
    refine wpAnyIn_take (i := 5) (v := ?_) rfl rfl (by kernel_rfl) (by kernel_rfl) (by kernel_rfl) (fun _ _ _ h => h) ⟨Or.inl ⟨by rfl, ?_⟩, fun _ => rfl⟩ ?_
    rotate_left
    ·intro w'; go_simp; first | done | with_reducible rfl
    refine wpAnyIn_take (i := 6) (v := ?_) rfl rfl (by kernel_rfl) (by kernel_rfl) (by kernel_rfl) (fun _ _ _ h => h) ⟨Or.inl ⟨by rfl, ?_⟩, fun _ => rfl⟩ ?_
    rotate_left
    ·intro w'; go_simp; first | done | with_reducible rfl
    refine wpAnyIn_ready (rs := [7]) (by kernel_rfl) (by simp) ?_
    refine AllReadyIn.cons rfl (fun K hK => ?_) AllReadyIn.nil
    go_simp
    refine hR9.mono ?_
    rintro e W6 (⟨rfl, hJ6, hk6⟩ | ⟨rfl, hJx6⟩)
    ·refine hK _ _ ?_
     clear hK K
     refine wpAnyIn_ready (rs := [8]) (by kernel_rfl) (by simp) ?_
     refine AllReadyIn.cons rfl (fun K hK => ?_) ?_
     rotate_left
     ·exact AllReadyIn.nil
     go_simp
     refine hK _ _ ?_
     clear hK K
     refine wpAnyIn_done (by kernel_rfl) ?_ _
     have k6 := hk6.blk kd hB
     have m1 := k6.cell
     have m2 := k6.lt
     have m3 := k6.frozen
     have k7 := k6.set0 (.string ra)
     have hj7 := abO_set hJ hJ6 0 (.string ra)
     clear b1 b2
     gi_wp2
     go_roundg (gk - 9)
     case measure => omega
     case rel => exact ⟨i + 1, by have := Hin.out; omega, by rw [HR9.out, HRV.out]; exact k7, by rw [Hsu.out]; exact hj7⟩
    ·refine hK _ _ ?_
     clear hK K
     refine wpAnyIn_ready (rs := [8]) (by kernel_rfl) (by simp) ?_
     refine AllReadyIn.cons rfl (fun K hK => ?_) ?_
     rotate_left
     ·exact AllReadyIn.nil
     go_simp
     refine hK _ _ ?_
     clear hK K
     refine wpAnyIn_done (by kernel_rfl) ?_ _
     gi_wp2
     refine bodyPost_ret (results_none rfl _ _ _) rfl ?_
     exact ⟨⟨_, rfl⟩, .inr ⟨_, ⟨i + 1, by have := Hin.out; omega, Hsu.out.symm⟩, hJx6⟩⟩

   ·go_simp
    refine hK _ _ ?_
    clear hK K
    refine wpAnyIn_take (i := 5) (v := ?_) rfl rfl (by kernel_rfl) (by kernel_rfl) (by kernel_rfl) (fun _ _ _ h => h) ⟨Or.inl ⟨by rfl, ?_⟩, fun _ => rfl⟩ ?_
    rotate_left
    ·intro w'; go_simp; first | done | with_reducible rfl
    refine wpAnyIn_ready (rs := [1]) (by kernel_rfl) (by simp) ?_
    refine AllReadyIn.cons rfl (fun K hK => ?_) ?_
    rotate_left
    ·exact AllReadyIn.nil
    go_simp
    refine hK _ _ ?_
    clear hK K
    refine wpAnyIn_take (i := 2) (v := ?_) rfl rfl (by kernel_rfl) (by kernel_rfl) (by kernel_rfl) (fun _ _ _ h => h) ⟨Or.inl ⟨by rfl, ?_⟩, fun _ => rfl⟩ ?_
    rotate_left
    ·intro w'; go_simp; first | done | with_reducible rfl
    refine wpAnyIn_take (i := 3) (v := ?_) rfl rfl (by kernel_rfl) (by kernel_rfl) (by kernel_rfl) (fun _ _ _ h => h) ⟨Or.inl ⟨by rfl, ?_⟩, fun _ => rfl⟩ ?_
    rotate_left
    ·intro w'; go_simp; first | done | with_reducible rfl
    refine wpAnyIn_take (i := 6) (v := ?_) rfl rfl (by kernel_rfl) (by kernel_rfl) (by kernel_rfl) (fun _ _ _ h => h) ⟨Or.inl ⟨by rfl, ?_⟩, fun _ => rfl⟩ ?_
    rotate_left
    ·intro w'; go_simp; first | done | with_reducible rfl
    refine wpAnyIn_ready (rs := [7]) (by kernel_rfl) (by simp) ?_
    refine AllReadyIn.cons rfl (fun K hK => ?_) AllReadyIn.nil
    go_simp
    refine hR9.mono ?_
    rintro e W6 (⟨rfl, hJ6, hk6⟩ | ⟨rfl, hJx6⟩)
    ·refine hK _ _ ?_
     clear hK K
     refine wpAnyIn_ready (rs := [8]) (by kernel_rfl) (by simp) ?_
     refine AllReadyIn.cons rfl (fun K hK => ?_) ?_
     rotate_left
     ·exact AllReadyIn.nil
     go_simp
     refine hK _ _ ?_
     clear hK K
     refine wpAnyIn_done (by kernel_rfl) ?_ _
     have k6 := hk6.blk kd hB
     have m1 := k6.cell
     have m2 := k6.lt
     have m3 := k6.frozen
     have k7 := k6.set0 (.string ra)
     have hj7 := abO_set hJ hJ6 0 (.string ra)
     clear b1 b2
     gi_wp2
     go_roundg (gk - 9)
     case measure => omega
     case rel => exact ⟨i + 1, by have := Hin.out; omega, by rw [HR9.out, HRV.out]; exact k7, by rw [Hsu.out]; exact hj7⟩
    ·refine hK _ _ ?_
     clear hK K
     refine wpAnyIn_ready (rs := [8]) (by kernel_rfl) (by simp) ?_
     refine AllReadyIn.cons rfl (fun K hK => ?_) ?_
     rotate_left
     ·exact AllReadyIn.nil
     go_simp
     refine hK _ _ ?_
     clear hK K
     refine wpAnyIn_done (by kernel_rfl) ?_ _
     gi_wp2
     refine bodyPost_ret (results_none rfl _ _ _) rfl ?_
     exact ⟨⟨_, rfl⟩, .inr ⟨_, ⟨i + 1, by have := Hin.out; omega, Hsu.out.symm⟩, hJx6⟩⟩

  ·have hid : i = d.length / 9 := by have := Hin.out; omega
   gi_wp2
   go_end0
   exact ⟨⟨_, rfl⟩, .inl ⟨_, by rw [SgF, sigs_sgK, <- hid], hjr⟩⟩
theorem sigO_stops (B : Nat) (S : Nat -> Prop) (d : Bts) (w : World) (hz : d.length <= 8000) (kb : Blk w B 9 #[strV d]) (hB : ¬ S B) :
 SeqStopsO Fence.wide 4 Tryz.prog 129 #[.pointer (some ⟨B, 0, none⟩)] sgV (KpQ S) (fun r => r = B) (SgF d) (fun pre => ∃ k, k <= d.length / 9 /\ pre = sgK d k) 1000 w :=
 fun l J Jx W hW hJ _ hY hj => sigO_iter l B S d W hz (kb.ext hW) hB J Jx hJ (fun pre x W h1 h2 _ => hY pre x W h1 h2) hj
def sgI (l : List Sg) : List Int := l.map (fun x => (x.1.toNat : Int))
theorem sgI_snoc (l : List Sg) (x : Sg) : sgI (l ++ [x]) = sgI l ++ [(x.1.toNat : Int)] := by simp [sgI]
def SgL (go b1 : Nat) (W0 : World) (pre : List Sg) (W : World) : Prop := ∃ u, Owns EInt W b1 3 u (sgI pre) /\ Blk W go 30 #[u] /\ Ext W0 W /\ b1 <= W.heap.size
theorem sgl_ab {go b1 gz N : Nat} {W0 : World} (hgo : go ≠ gz) (hgz : gz < b1 /\ W0.heap.size <= gz) (hN : W0.heap.size <= N) : AbO (fun r => r = gz) N (SgL go b1 W0) := by
 intro s A C row ⟨u, h1, h2, h3, h4⟩ hg hr
 refine ⟨u, h1.kept hg (fun b hb e2 => ?_), h2.kept hg (fun e2 => ?_), h3.keptb hg (fun r e => ?_), Nat.le_trans h4 hg.size⟩
 ·rcases hr b e2.symm with h | ⟨_, o, ho, hc⟩
  ·have := (h1.block hb).1; omega
  ·obtain ⟨cur, fr, hh⟩ := h1.cellsZ hb
   rw [hh] at ho
   injection ho with ho
   subst ho
   cases hc
 ·rcases hr go e2.symm with h | ⟨_, o, ho, hc⟩
  ·exact hgo h
  ·have hh : A.heap[go]? = some (.cells #[u] 30 (0, 0)) := h2
   rw [hh] at ho
   injection ho with ho
   subst ho
   cases hc
 ·rcases hr r e with h | h
  ·rw [h]; exact hgz.2
  ·omega
theorem sgl_put {go b1 : Nat} {W0 W w6 : World} {pre : List Sg} {x : Sg} {u v6 : Value} {c : Obj} {y : Int} (hy : (x.1.toNat : Int) = y) (h1 : Owns EInt W b1 3 u (sgI pre)) (h2 : Blk W go 30 #[u]) (h3 : Ext W0 W) (h4 : b1 <= W.heap.size) (hgo : go < b1) (hW0 : W0.heap.size <= go)
 (hv6 : Owns EInt w6 b1 3 v6 (sgI pre ++ [y])) (hg6 : (W.alloc c).grownBy w6 u.ownBlock) :
 Blk w6 go 30 #[u] /\ KeepsFrom b1 W (w6.setCell ⟨go, 0, none⟩ v6) /\ KpQ (fun b => b = go ∨ b1 <= b) W (w6.setCell ⟨go, 0, none⟩ v6) /\ SgL go b1 W0 (pre ++ [x]) (w6.setCell ⟨go, 0, none⟩ v6) := by
 have hx := (Ext.refl W).alloc c
 have ho := h1.ext hx
 have ko6 := Blk.kepttZ (h2.ext hx) ho (by decide) hg6
 have hE6 := ext_grown (h3.trans hx) ho (by omega) hg6
 have hk6 := hx.keeps.trans (keeps_ownL ho hg6)
 have hkk := hk6.trans (KeepsOthers.setCell w6 ⟨go, 0, none⟩ v6)
 refine ⟨ko6, hkk.from _, ?_, v6, ?_, ko6.set0 _, hE6.setCell hW0 _, Nat.le_trans h4 hkk.size⟩
 ·exact KpQ.setCell (KpQ.trans (KpQ.of_ext hx) (KpQ.grown hg6 (fun r e => .inr (ho.block e).1))) (.inl rfl) _ _
 ·rw [sgI_snoc, hy]
  exact hv6.setZ ko6 (by decide) 0 _
set_option maxRecDepth 100000 in
set_option maxHeartbeats 16000000 in
theorem signers_any (b : Bu) (A : Option Addr) (cap : Nat) (w : World) (hR : Rd EBl w A b.blocks) (hv : buE b = 0) (hse : secE b = 0) :
 Calls Tryz.prog 30 #[.agg (b.cells A cap)] w fun e w' => ∃ A' c', e = .returned (.tuple #[.slice A' (sgn b).length c', .int .i64 0]) /\ Rd EInt w' A' (sgn b) /\ (∀ ad, A' = some ad -> w.heap.size <= ad.block) /\ Ext w w' := by
 have hl := (blksE_ok.1 (buE_blocks hv)).1
 have f0 := fun w h => buChk_any b A cap w h
 rw [hv] at f0
 have f9 := fun w h => secChk_any b A cap w h hv
 rw [hse] at f9
 have f1 := fun w h => auth_any b A cap w h (by omega)
 have hz := auth_len hv
 have HSG := Lib.hid (show sgn b = sgI (sigs b.auth.data) from rfl)
 obtain ⟨d, hd⟩ : ∃ d, b.auth.data = d := ⟨_, rfl⟩
 rw [hd] at f1 hz HSG
 have f2 := fun w => sig_any d w
 have hst := fun B S w kb hB => sigO_stops B S d w (by omega) kb hB
 obtain ⟨da, hda, -⟩ := strV_str d
 rw [hda] at f1 f2 hst
 obtain ⟨kd, hkd⟩ : ∃ kd, b.auth.kind = kd := ⟨_, rfl⟩
 obtain ⟨fl, hfl⟩ : ∃ fl, b.auth.flags = fl := ⟨_, rfl⟩
 rw [hkd, hfl] at f1
 obtain ⟨pa, hpa, -⟩ := strV_str b.pay
 have hcs : b.cells A cap = #[.int .i64 b.src, .int .i64 b.cr, .int .i64 b.seq, .int .i64 b.off, .int .i64 b.tot, .int .i64 b.dk, .int .i64 b.dn, .int .i64 b.life, .int .i64 b.prio, .int .i64 b.flags, .slice A b.blocks.length cap, .string pa] := by unfold Bu.cells; rw [hpa]
 rw [hcs] at f0 f9 ⊢
 obtain ⟨is, his⟩ : ∃ is, (findK b.blocks 4).isSome = is := ⟨_, rfl⟩
 rw [his] at f1
 obtain ⟨i0, hi0, hz0, hz1, hz2⟩ := info_parts info_intD
 clear hd hda hkd hfl hpa hcs hl his hv hse
 obtain ⟨W1, hW1, hB1, hk1, hl1⟩ := box1 w #[.int .i64 b.src, .int .i64 b.cr, .int .i64 b.seq, .int .i64 b.off, .int .i64 b.tot, .int .i64 b.dk, .int .i64 b.dn, .int .i64 b.life, .int .i64 b.prio, .int .i64 b.flags, .slice A b.blocks.length cap, .string pa] 29
 have hc := hk1.cell
 have HR := Lib.hid (hR.ext hB1)
 clear hR
 refine (callsIn_wide (n := 5)).1 ?_
 refine callsIn_of_wp_marks Tryz.func30 rfl trivial ?_ rfl
 refine wpIn_wide.2 ?_
 refine Code.wp_mono NoPanic.imp ?_
 simp only [Tryz.ntmps30, List.size_toArray, List.length_cons, List.length_nil, Nat.reduceAdd, Nat.reduceSub, Array.replicate_succ, Array.replicate_zero, List.push_toArray, List.append_toArray, List.nil_append, List.cons_append]
 go_wp2_with fail
 clear hW1
 refine (f0 _ HR.out).mono ?_
 clear f0
 rintro e w2 ⟨rfl, hb2⟩
 have k2 := hk1.ext hb2
 clear hc
 have hc := k2.cell
 have hl := k2.lt
 go_wp2_with fail
 refine (f9 _ (HR.out.ext hb2)).mono ?_
 clear f9
 rintro e w3 ⟨rfl, hb3⟩
 have hx3 := hb2.trans hb3
 have k3 := k2.ext hb3
 clear hc hl
 have hc := k3.cell
 have hl := k3.lt
 go_wp2_with fail
 refine (f1 _ (HR.out.ext hx3)).mono ?_
 clear f1
 rintro e w5 ⟨rfl, hb5⟩
 obtain ⟨V6, hV6, hV6e, hv6, hvl6⟩ := box1 w5 #[.int .i64 0, .int .i64 0, .string ⟨#[]⟩] 116
 obtain ⟨W6, hW6, hk6, hB6⟩ : ∃ W6, V6.setCells w5.heap.size 0 [.int .i64 kd, .int .i64 fl, .string da] = W6 /\ Blk W6 w5.heap.size 116 #[.int .i64 kd, .int .i64 fl, .string da] /\ Ext w5 W6 :=
  ⟨_, rfl, hv6.setCells_ [.int .i64 kd, .int .i64 fl, .string da] 0, ext_setCells hV6e (Nat.le_refl _) 0 _⟩
 simp only [World.setCells, Nat.zero_add, Nat.reduceAdd] at hW6
 have v1 := hv6.cell
 have v2 := hv6.lt
 have v3 := hv6.frozen
 clear hc hl
 go_upto_region 8 with fail
 (try rw [hW6])
 clear hW6 hV6 v1 v2 v3 hv6 hvl6
 have c6 := hk6.cell
 have l6 := hk6.lt
 obtain ⟨W7, hW7, hB7, hk7, hl7⟩ := box1 W6 #[.slice none 0 0] 30
 have k67 := hk6.ext hB7
 clear c6 l6
 have c6 := k67.cell
 have l6 := k67.lt
 go_wp2_with fail
 clear hW7
 refine (f2 _).mono ?_
 clear f2
 rintro e w8 ⟨rfl, hb8, hs8, z1⟩
 have hx5 := hx3.trans hb5
 have hE8 := (hB1.trans hx5).trans (hB6.trans (hB7.trans hb8))
 have y1 := hB1.size
 have y5 := hx5.size
 have y6 := hB6.size
 have y7 := hB7.size
 have y8 := hb8.size
 have k78 := hk7.ext hb8
 obtain ⟨ix, hix⟩ : ∃ ix : Array Value, #[Value.int .i64 b.src, .int .i64 b.cr, .int .i64 b.seq, .int .i64 b.off, .int .i64 b.tot, .int .i64 b.dk, .int .i64 b.dn, .int .i64 b.life, .int .i64 b.prio, .int .i64 b.flags, .slice A b.blocks.length cap, .string pa] = ix := ⟨_, rfl⟩
 rw [hix]
 clear hix c6 l6
 go_wp2_with fail
 refine (wpIn_wide (n := 5)).1 ?_
 refine wpIn_rangeO rfl (by omega) (gf := 129) (lb := #[.pointer (some ⟨W7.heap.size, 0, none⟩)]) rfl trivial (enters_of Tryz.func129 (by kernel_rfl) rfl)
  (hst W7.heap.size (fun b => b = W6.heap.size ∨ w8.heap.size <= b) w8 z1 (by omega)) (fun r hr => by subst hr; omega)
  KpQ.trans (fun W l o o' hl h1 h2 => KpQ.put W l o o' h1 h2) (Below.refl _ _) (fun _ => rfl)
  (SgL W6.heap.size w8.heap.size w) (fun _ _ _ => False) (sgl_ab (by omega) ⟨by omega, by omega⟩ (by omega)) (fun _ _ _ _ _ h _ _ => h)
  ⟨.slice none 0 0, Owns.none_ _ _, k78, hE8, Nat.le_refl _⟩
  (fun x a' W => ∃ b1, Blk W b1 131 #[.int .i64 (x.1.toNat : Int), strV x.2] /\ W7.heap.size < b1 /\ a' = { tmps := #[.agg ix, .pointer (some ⟨w.heap.size, 0, none⟩), .slice none 0 0, .int .i64 0, .int .i64 0, .int .i64 0, .pointer (some ⟨w5.heap.size, 0, none⟩), .bool is, .pointer (some ⟨W6.heap.size, 0, none⟩), .pointer (some ⟨b1, 0, none⟩), .agg ix, .int .i64 0, .int .i64 0, .bool false, undef, .agg ix, .int .i64 0, .int .i64 0, .bool false, undef, .tuple #[.agg #[.int .i64 kd, .int .i64 fl, .string da], .bool is], .pointer (some ⟨w.heap.size, 10, none⟩), .slice A b.blocks.length cap, .tuple #[.agg #[.int .i64 kd, .int .i64 fl, .string da], .bool is], .agg #[.int .i64 kd, .int .i64 fl, .string da], .bool is, .pointer (some ⟨w5.heap.size, 2, none⟩), .string da, .func (.func 129) #[] #[.pointer (some ⟨W7.heap.size, 0, none⟩)], .agg #[.int .i64 (x.1.toNat : Int), strV x.2], undef, undef, undef, undef, undef, undef], defers := [] })
  (fun x a' s X Y row hs hg hr => by obtain ⟨b1, z1, z2, z3⟩ := hs; exact ⟨b1, z1.keptc hg (fun r e => (hr r e).2), z2, z3⟩) ?assign ?body ?done ?stop
 case assign =>
  rintro li pre x W K ⟨u, i1, i2, i3, i4⟩ hK
  simp only [sgV]
  have e1 := ((Ext.refl W).alloc (.cells #[.int .i64 (x.1.toNat : Int), strV x.2] 131))
  obtain ⟨ta, hta, -⟩ := strV_str x.2
  rw [hta] at e1 hK ⊢
  gi_wp2
  exact hK _ _ (e1.keeps.from _) (KpQ.of_ext e1) ⟨u, i1.ext e1, i2.ext e1, i3.trans e1, Nat.le_trans i4 e1.size⟩ ⟨W.heap.size, Blk.new W _ _, by omega, rfl⟩
 case body =>
  rintro li pre x a' W ⟨u, h1, h2, h3, h4⟩ ⟨b1, kb1, hb1, rfl⟩ hlen
  obtain ⟨y, hy⟩ : ∃ y, (x.1.toNat : Int) = y := ⟨_, rfl⟩
  obtain ⟨ta, hta, -⟩ := strV_str x.2
  rw [hy, hta] at kb1
  rw [hy, hta]
  have hml : (sgI pre).length = pre.length := by simp [sgI]
  obtain ⟨A0, c0, rfl, hR0⟩ := h1.form
  have PUT0 : Hid (∀ v6 w6 c1, Owns EInt w6 w8.heap.size 3 v6 (sgI pre ++ [y]) -> (W.alloc c1).grownBy w6 (Value.slice A0 (sgI pre).length c0).ownBlock -> _) := Lib.hid (fun v6 w6 c1 hv hg => sgl_put (go := W6.heap.size) (b1 := w8.heap.size) (W0 := w) (W := W) (w6 := w6) (pre := pre) (x := x) (u := .slice A0 (sgI pre).length c0) (v6 := v6) (c := c1) hy h1 h2 h3 h4 (by omega) (by omega) hv hg)
  have a1 := h2.cell
  have a2 := h2.lt
  have e1 := kb1.cell
  have e2 := kb1.lt
  obtain ⟨l0, hl0⟩ : ∃ l0, sgI pre = l0 := ⟨_, rfl⟩
  rw [hl0] at h1 h2 hR0 hml a1 PUT0
  have HL0 := Lib.hid hml
  clear hl0 hml hta hy
  gi_wp2_with (gi_at_builtin; refine wpListIn_pushL rfl (.tmp 30) (.tmp 33) _ (by rfl) w8.heap.size 3 i0 _ 8 Tryz.underlying30 hi0 hz0 hz1 hz2 (by rfl) (.slice A0 l0.length c0) (by rfl) (h1.ext ((Ext.refl _).alloc _)) W.heap.size y (by rfl) (Blk.new W _ _) (by rw [HL0.out]; simp only [maxLen]; omega) (by rw [HL0.out]; omega) (by simp; omega) ?_; intro v6 w6 hv6 hg6 hat6; have PUT := PUT0.out _ _ _ hv6 hg6; obtain ⟨A7, d7, rfl, hR7⟩ := hv6.form; have m1 := PUT.1.cell; have m2 := PUT.1.lt; have m3 := PUT.1.frozen; simp only [List.length_append, List.length_cons, List.length_nil, Nat.zero_add] at hv6 PUT ⊢; have FIN := Lib.hid PUT.2; clear PUT)
  exact FIN.out
 case stop =>
  rintro D c pre W _ _ h _
  exact h.elim
 case done =>
  rintro D xs W hDD hF ⟨u, h1, h2, h3, h4⟩ hK
  obtain rfl : xs = sigs d := hF
  have hd2 := (DSx.nil w8.heap.size w.heap.size W).cons hDD (by omega) hK
  clear hK
  rw [<- HSG.out] at h1
  obtain ⟨A0, c0, rfl, hR0⟩ := h1.form
  have a1 := h2.cell
  have a2 := h2.lt
  go_wp2_with fail
  show LeavesInM _ _ _ _ _ _ _ .returning _
  refine hd2.leaves ?_
  intro w' hw'
  have hfin := hw' (fun W => Owns EInt W w8.heap.size 3 (.slice A0 (sgn b).length c0) (sgn b) /\ Ext w W) (fun s X Y row hs hg hr => ⟨hs.1.keptc hg (fun r e => (hr r e).2), hs.2.keptb hg (fun r e => (hr r e).1)⟩) ⟨h1, h3⟩
  refine ⟨_, results_tmp2v rfl _ _ _, ⟨A0, c0, rfl, hfin.1.rd, fun ad h => by have := owns_far hfin.1 ad h; omega, hfin.2⟩⟩
end
section
open Go.RowKit Go.Shelf
attribute [local go_sem] Oper.semAt_some
set_option maxRecDepth 100000 in
set_option maxHeartbeats 8000000 in
theorem List_any (A : Option Addr) (cap : Nat) (l : List Int) (w : World) (hR : Rd EInt w A l) (hl : l.length <= 100) (hb : ∀ x ∈ l, -1152921504606846976 <= x /\ x <= 1152921504606846976) :
 Calls Tryz.prog 184 #[.slice A l.length cap] w fun e w' => e = .returned (.tuple #[strV (vlist l), .int .i64 0]) /\ Ext w w' := by
 have HB := Lib.hid hb
 clear hb
 have HFM := Lib.hid (fun m : List Int => flatMap_len_le (l := m) (f := vint) (m := 10) (fun x _ => vint_len x))
 have f1 := fun w => Int_any (l.length : Int) w (by omega)
 have HVL := Lib.hid (show vlist l = vint l.length ++ l.flatMap vint from rfl)
 have h0 := vint_len (l.length : Int)
 obtain ⟨T0, hT0⟩ : ∃ T, vint (l.length : Int) = T := ⟨_, rfl⟩
 rw [hT0] at f1 HVL h0
 have hcnv := fun w => conv_bytes (P := Tryz.prog) w 9 22 5 T0 Tryz.underlying9 Tryz.underlying22 Tryz.underlying5 (by omega)
 obtain ⟨t0, ht0, htv0, hts0⟩ := str_name T0
 rw [htv0] at f1 hcnv
 clear hT0 ht0 htv0 hts0
 go_enter Tryz.func184, Tryz.ntmps184
 go_wp2_with fail
 refine (f1 _).mono ?_
 clear f1
 rintro e w1 ⟨rfl, hb1⟩
 obtain ⟨cp, w3, q3, ho3, hx3, -⟩ := hcnv w1
 clear hcnv
 have hE3 := hb1.trans hx3
 go_wp2_with fail
 go_loopg [6, 24] l.length (fun m vs vi wr => ∃ k : Nat, k + m = l.length /\ vi = .int .i64 k /\ OwnsB wr w1.heap.size 5 vs (T0 ++ (l.take k).flatMap vint) /\ Ext w wr /\ w1.heap.size <= wr.heap.size)
 case atStart => exact ⟨0, by omega, by go_num, by simpa using ho3, hE3, hx3.size⟩
 case round =>
  obtain ⟨k, hkn, rfl, ho, hE, hsz⟩ := hrel
  have Hkn := Lib.hid hkn
  clear hkn
  by_cases hlt : k < l.length
  ·obtain ⟨bb, oo, rfl, hbb, c0⟩ := (hR.ext hE).int hlt
   have hst : Hid (T0 ++ (l.take (k + 1)).flatMap vint = T0 ++ (l.take k).flatMap vint ++ vint l[k]) := Lib.hid (by rw [<- List.take_append_getElem hlt, List.flatMap_append]; simp)
   have fi := fun w => Int_any l[k] w (HB.out _ (List.getElem_mem hlt))
   have h1 := HFM.out (l.take k)
   have h2 := vint_len l[k]
   rw [List.length_take] at h1
   generalize l[k] = x at *
   obtain ⟨V, hV⟩ : ∃ V, vint x = V := ⟨_, rfl⟩
   rw [hV] at hst fi h2
   obtain ⟨P, hP⟩ : ∃ P, T0 ++ (l.take k).flatMap vint = P := ⟨_, rfl⟩
   have hPl : P.length <= 1010 := by rw [<- hP, List.length_append]; omega
   rw [hP] at ho hst
   obtain ⟨i0, hi0, hz0, hz1, hz2⟩ := info_parts info_byte
   obtain ⟨va, hva, hvv, -⟩ := str_name V
   rw [hvv] at fi
   obtain ⟨A1, c1, rfl, hR1⟩ := ho.form
   clear hV hP hva
   go_wp2_with fail
   refine (fi _).mono ?_
   clear fi
   rintro e w5 ⟨rfl, hb5⟩
   obtain ⟨v6, w6, q6, ho6, hg6⟩ := run_append_stringB (P := Tryz.prog) w5 w1.heap.size 22 9 22 5 i0 Tryz.underlying22 Tryz.underlying9 hi0 hz0 hz1 hz2 _ P (ho.ext hb5) V (by omega) (by have := hb5.size; omega)
   rw [hvv] at q6
   have hE6 : Ext w w6 := (hE.trans hb5).keptb hg6 (fun r e => Nat.le_trans hb1.size (ho.block e).1)
   have hs6 := hg6.size
   have hs5 := hb5.size
   go_wp2_with (at_builtin; refine wpList_appendEq rfl (.tmp 36) (.tmp 37) _ _ (by rfl) (by rfl) (by rfl) q6 ?_)
   go_roundg (gk - 1)
   case measure => have := Hkn.out; omega
   case rel => exact ⟨k + 1, by have := Hkn.out; omega, by go_num, by rw [hst.out]; exact ho6, hE6, by omega⟩
  ·obtain rfl : k = l.length := by have := Hkn.out; omega
   rw [List.take_length] at ho
   rw [<- HVL.out] at ho
   obtain ⟨F, hF⟩ : ∃ F, vlist l = F := ⟨_, rfl⟩
   have HF := Lib.hid hF
   rw [hF] at ho
   obtain ⟨A1, c1, rfl, hR1⟩ := ho.form
   have q9 := conv_str (P := Tryz.prog) wr 22 9 5 A1 c1 F Tryz.underlying22 Tryz.underlying5 Tryz.underlying9 hR1
   obtain ⟨fb, hfb, hfv, -⟩ := str_name F
   rw [hfv] at q9
   have HFV := Lib.hid hfv
   clear hF hfb hfv
   go_wp2
   go_ret2
   rw [HF.out, HFV.out]
   exact ⟨rfl, hE⟩
set_option maxRecDepth 100000 in
set_option maxHeartbeats 16000000 in
theorem Visit_ok (b : Bu) (A : Option Addr) (cap : Nat) (n : Int) (l : List Int) (x : Bl) (w : World) (hR : Rd EBl w A b.blocks) (hv : buE b = 0) (hx : findK b.blocks 3 = some x) (hg : getR b 3 = (0, l)) (hn : isNd n = true) (hnl : n ∉ l) :
 Calls Tryz.prog 103 #[.agg (b.cells A cap), .int .i64 n] w fun e w' => SetR (setB b 3 (vlist (l ++ [n]))) w e w' /\ Ext w w' := by
 have f1 := fun w h => get3_any b A cap w h hv
 obtain ⟨g1, g2⟩ := getR_3 (b := b) (by rw [hg])
 rw [hg] at f1 g1 g2
 dsimp only at g1 g2
 unfold GetR at f1
 dsimp only at f1
 have hn16 : 0 <= n /\ n < 16 := by simpa [isNd] using hn
 have f2 := fun w => enode_any n w
 rw [hn] at f2
 have hsn : seenB l n = false := by
  unfold seenB
  rw [List.any_eq_false]
  intro y hy
  simp only [beq_iff_eq]
  intro e
  exact hnl (e ▸ hy)
 have f3 := fun A c w h => containsInt_any A c l n w h (by omega)
 simp only [hsn] at f3
 have f4 := fun A c w h => cloneInt_any A c l w h (by omega)
 have hbl : ∀ y ∈ l ++ [n], 0 <= y /\ y < 16 := fun y hy => by
  rcases List.mem_append.1 hy with hy | hy
  ·exact g1 y hy
  ·rw [List.mem_singleton.1 hy]; exact hn16
 have f5 := fun A c w h => List_any A c (l ++ [n]) w h (by simp; omega) (fun y hy => by have := hbl y hy; omega)
 have hdl := vlist_len (l := l ++ [n]) (by simp; omega) hbl
 have hll : (l ++ [n]).length = l.length + 1 := by simp
 simp only [hll] at f5
 obtain ⟨d, hd⟩ : ∃ d, vlist (l ++ [n]) = d := ⟨_, rfl⟩
 rw [hd] at hdl f5 ⊢
 have f6 := fun w h => set_ok b A cap 3 d x w h hv (by omega) hx (by omega)
 obtain ⟨c, hcc⟩ : ∃ c, setB b 3 d = c := ⟨_, rfl⟩
 rw [hcc] at f6 ⊢
 obtain ⟨db, hdb, hdv, -⟩ := str_name d
 rw [hdv] at f5 f6
 clear hcc hdb hdv hd hv hx hdl hbl hsn hn hnl hg hn16 g1
 obtain ⟨i0, hi0, hz0, hz1, hz2⟩ := info_parts info_intD
 obtain ⟨pa, hpa, -⟩ := strV_str b.pay
 have hcs : b.cells A cap = #[.int .i64 b.src, .int .i64 b.cr, .int .i64 b.seq, .int .i64 b.off, .int .i64 b.tot, .int .i64 b.dk, .int .i64 b.dn, .int .i64 b.life, .int .i64 b.prio, .int .i64 b.flags, .slice A b.blocks.length cap, .string pa] := by unfold Bu.cells; rw [hpa]
 rw [hcs] at f1 f6 ⊢
 clear hcs hpa
 obtain ⟨W1, hW1, hB1, hk1, hl1⟩ := box1 w #[.int .i64 b.src, .int .i64 b.cr, .int .i64 b.seq, .int .i64 b.off, .int .i64 b.tot, .int .i64 b.dk, .int .i64 b.dn, .int .i64 b.life, .int .i64 b.prio, .int .i64 b.flags, .slice A b.blocks.length cap, .string pa] 29
 obtain ⟨W2, hW2, hB2, hk2, hl2⟩ := box1 W1 #[.int .i64 0, .int .i64 0, .int .i64 0, .int .i64 0, .int .i64 0, .int .i64 0, .int .i64 0, .int .i64 0, .int .i64 0, .int .i64 0, .slice none 0 0, .string ⟨#[]⟩] 29
 have k1 := hk1.ext hB2
 have hc := k1.cell
 have hl := k1.lt
 have y1 := hB1.size
 have y2 := hB2.size
 have hE2 := hB1.trans hB2
 have HR := Lib.hid (hR.ext hE2)
 clear hR
 go_enter Tryz.func103, Tryz.ntmps103
 go_wp2_with fail
 clear hW1 hW2
 refine (f1 _ HR.out).mono ?_
 clear f1
 rintro e w3 ⟨⟨A3, c3, rfl, hR3⟩, hb3⟩
 clear hc hl
 go_wp2_with fail
 refine (f2 _).mono ?_
 clear f2
 rintro e w4 ⟨rfl, rfl⟩
 go_wp2_with fail
 refine (f3 A3 c3 _ hR3).mono ?_
 clear f3
 rintro e w5 ⟨rfl, hb5⟩
 go_wp2_with fail
 refine (f4 A3 c3 _ (hR3.ext hb5)).mono ?_
 clear f4
 rintro e w6 ⟨v6, rfl, ho6, hb6⟩
 obtain ⟨A6, c6, rfl, hR6⟩ := ho6.form
 have hx6 := hb3.trans (hb5.trans hb6)
 have y6 := hb6.size
 go_wp2_with (at_builtin; refine wpList_push (y := n) rfl (.tmp 37) (.tmp 39) _ (by rfl) w5.heap.size 3 i0 _ 8 Tryz.underlying30 hi0 hz0 hz1 hz2 (by rfl) (.slice A6 l.length c6) (by rfl) (ho6.ext ((Ext.refl _).alloc _)) w6.heap.size (by rfl) (Blk.new w6 _ _) (by simp only [maxLen]; omega) (by omega) (by simp; omega) ?_; intro v7 w7 hv7 hg7 hat7; obtain ⟨A7, c7, rfl, hR7⟩ := hv7.form; simp only [hll] at hv7 ⊢)
 have hx7 : Ext W2 w7 := ext_grown (hx6.alloc _) (ho6.ext ((Ext.refl _).alloc _)) (by have := hb3.size; have := hb5.size; omega) hg7
 refine (f5 A7 c7 _ hR7).mono ?_
 clear f5
 rintro e w8 ⟨rfl, hb8⟩
 have hx8 := hx7.trans hb8
 have k8 := k1.ext hx8
 have z8 := hk2.ext hx8
 have hE8 := hE2.trans hx8
 have hc := k8.cell
 have hl := k8.lt
 go_wp2_with fail
 refine (f6 _ (HR.out.ext hx8)).mono ?_
 clear f6
 rintro e w9 ⟨⟨A9, c9, rfl, hR9, hA9⟩, hb9⟩
 have k9 := k8.ext hb9
 have z9 := z8.ext hb9
 have hE9 := hE8.trans hb9
 clear hc hl
 obtain ⟨sb, hsb, -⟩ := strV_str c.pay
 have HSB := Lib.hid hsb
 have y8 := hx8.size
 obtain ⟨src, cr, seq, off, tot, dk', dn, life, prio, fl, bl, pay⟩ := c
 unfold Bu.cells
 dsimp only at hsb hR9 ⊢
 rw [hsb]
 clear hsb
 have u1 := z9.cell
 have u2 := z9.lt
 have u3 := z9.frozen
 have hs9 := z9.setCells_ [.int .i64 src, .int .i64 cr, .int .i64 seq, .int .i64 off, .int .i64 tot, .int .i64 dk', .int .i64 dn, .int .i64 life, .int .i64 prio, .int .i64 fl, .slice A9 bl.length c9, .string sb] 0
 rw [arrSets12d] at hs9
 have hu9 := ups_setCells W1.heap.size w9 0 [.int .i64 src, .int .i64 cr, .int .i64 seq, .int .i64 off, .int .i64 tot, .int .i64 dk', .int .i64 dn, .int .i64 life, .int .i64 prio, .int .i64 fl, .slice A9 bl.length c9, .string sb]
 obtain ⟨WX, hWX, hkX, hBX, hRX⟩ : ∃ WX, w9.setCells W1.heap.size 0 [.int .i64 src, .int .i64 cr, .int .i64 seq, .int .i64 off, .int .i64 tot, .int .i64 dk', .int .i64 dn, .int .i64 life, .int .i64 prio, .int .i64 fl, .slice A9 bl.length c9, .string sb] = WX /\ Blk WX W1.heap.size 29 #[.int .i64 src, .int .i64 cr, .int .i64 seq, .int .i64 off, .int .i64 tot, .int .i64 dk', .int .i64 dn, .int .i64 life, .int .i64 prio, .int .i64 fl, .slice A9 bl.length c9, .string sb] /\ Ext w WX /\ Rd EBl WX A9 bl :=
  ⟨_, rfl, hs9, ext_setCells hE9 y1 0 _, hu9.rd hR9 (fun ad h => by have := hA9 ad h; omega)⟩
 simp only [World.setCells, Nat.zero_add, Nat.reduceAdd] at hWX
 clear hs9 hu9
 go_wp2
 (try rw [hWX])
 have hcX := hkX.cell
 refine bodyPost_ret (v := .tuple #[.agg #[.int .i64 src, .int .i64 cr, .int .i64 seq, .int .i64 off, .int .i64 tot, .int .i64 dk', .int .i64 dn, .int .i64 life, .int .i64 prio, .int .i64 fl, .slice A9 bl.length c9, .string sb], .int .i64 0]) (by rw [results_cell_tmp rfl]; simp [asAddr, Result.andThen, hcX, go_sem]) rfl ?_
 exact ⟨⟨A9, c9, by unfold Bu.cells; dsimp only; rw [HSB.out], hRX, fun ad h => by have := hA9 ad h; omega⟩, hBX⟩
end
end Go.Proofs.YtemkpimngbbpkaaGreat

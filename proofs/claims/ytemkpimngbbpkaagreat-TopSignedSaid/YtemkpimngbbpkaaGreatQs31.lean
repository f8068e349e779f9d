/- Security: the iterator over the signatures. · Security: damaged. · Security: check, checkAll. -/
import Derived.Sort.LoopGhostIn
import Derived.RangeFuncLeaves
import Derived.Test.YtemkpimngbbpkaaGreatQs01
import Derived.Test.YtemkpimngbbpkaaGreatQs09
import Derived.Test.YtemkpimngbbpkaaGreatQs15
import Derived.Test.YtemkpimngbbpkaaGreatQs30
namespace Go.Proofs.YtemkpimngbbpkaaGreat
set_option linter.unusedVariables false
set_option linter.unusedSimpArgs false
section
open Go.RowKit
attribute [local go_sem] Oper.semAt_some
def sgV (x : Sg) : Array Value := #[.agg #[.int .i64 (x.1.toNat : Int), strV x.2]]
def sgK (d : Bts) (i : Nat) : List Sg := (List.range i).map (sgAt d)
theorem sgK_succ (d : Bts) (i : Nat) : sgK d (i + 1) = sgK d i ++ [sgAt d i] := by simp [sgK, List.range_succ]
theorem sgK_len (d : Bts) (i : Nat) : (sgK d i).length = i := by simp [sgK]
theorem sigs_sgK (d : Bts) : sigs d = sgK d (d.length / 9) := rfl
def SgF (d : Bts) (ys : List Sg) : Prop := ys = sigs d
theorem sgAt_drop (d : Bts) (i : Nat) : sgAt d i = ((d.drop (9 * i)).getD 0 0, ((d.drop (9 * i)).drop 1).take 8) := by
 unfold sgAt
 rw [List.drop_drop]
 simp [List.getD]
theorem abM_ext {β : Type} {T : Nat -> Prop} {B : Nat} {J : β -> World -> Prop} (h : AbM T B J) {s : β} {W W' : World} (hs : J s W) (he : Ext W W') : J s W' :=
 h s W W' none hs (grown_ext (World.grownBy.refl W none) he) (fun r e => by cases e)
theorem abM_set {β : Type} {B : Nat} {N : Nat} {J : β -> World -> Prop} (h : AbM (fun r => r = B) N J) {s : β} {W : World} (hs : J s W) (o : Nat) (v : Value) : J s (W.setCell ⟨B, o, none⟩ v) :=
 h s W _ (some B) hs (grown_setCell (World.grownBy.refl W (some B)) o v) (fun r e => by injection e with e; exact .inl e.symm)
set_option maxRecDepth 100000 in
set_option maxHeartbeats 8000000 in
theorem sig_iter (l B : Nat) (S : Nat -> Prop) (d : Bts) (W : World) (hz : d.length <= 8000) (kb : Blk W B 9 #[strV d]) (hB : ¬ S B)
 (J Jx : List Sg -> World -> Prop) (hJ : AbM (fun r => r = B) W.heap.size J)
 (hY : ∀ pre x W, J pre W -> pre.length < 1000 -> x.2.length = 8 -> YieldAt Fence.wide 3 Tryz.prog l (sgV x) W fun e W' =>
  (e = .returned (.bool true) /\ J (pre ++ [x]) W' /\ KpQ S W W') ∨ (e = .returned (.bool false) /\ Jx (pre ++ [x]) W'))
 (hj : J [] W) :
 CallsIn Fence.wide 4 Tryz.prog 129 #[.func (.yield l) #[] #[], .pointer (some ⟨B, 0, none⟩)] W fun e W' => (∃ v, e = .returned v) /\
  ((∃ ys : List Sg, SgF d ys /\ J ys W') ∨ (∃ pre : List Sg, (∃ k, k <= d.length / 9 /\ pre = sgK d k) /\ Jx pre W')) := by
 have hmix : Tryz.prog.follows .mixedOrders = true := by kernel_rfl
 refine callsIn_of_wp Tryz.func129 rfl trivial ?_ rfl
 simp only [Tryz.ntmps129, List.size_toArray, List.length_cons, List.length_nil, Nat.reduceAdd, Nat.reduceSub, Array.replicate_succ, Array.replicate_zero, List.push_toArray, List.append_toArray, List.nil_append, List.cons_append]
 gi_wp2
 gi_loopg [] d.length (fun n wr => ∃ i : Nat, 9 * i + n = d.length /\ Blk wr B 9 #[strV (d.drop (9 * i))] /\ J (sgK d i) wr)
 case atStart => exact ⟨0, by omega, by simpa using kb, by simpa [sgK] using hj⟩
 case round =>
  obtain ⟨i, hin, kx, hjr⟩ := hrel
  have Hin := Lib.hid hin
  have hrl : (d.drop (9 * i)).length = gk := by rw [List.length_drop]; omega
  obtain ⟨r, hr⟩ : ∃ r, d.drop (9 * i) = r := ⟨_, rfl⟩
  have hsg := sgAt_drop d i
  have hsu := sgK_succ d i
  rw [hr] at hrl kx hsg
  obtain ⟨ba, hba, hbv, hbs⟩ := str_name r
  rw [hrl] at hbs
  rw [hbv] at kx
  have a1 := kx.cell
  have a2 := kx.lt
  have hgk : gk <= 8000 := by omega
  have Hr := Lib.hid hr
  clear hin hr
  by_cases h9 : 9 <= gk
  ·have h0 : 0 < r.length := by omega
   have hge : ∀ h : 0 < ba.size, ba[0]'h = r[0] := fun h => by
    subst hba
    rfl
   rw [show r.getD 0 0 = r[0] by simp [List.getD, h0]] at hsg
   have q2 : ∀ w, (Instr.slice 9 (.string ba) (some (.int .i64 1)) (some (.int .i64 9)) none).run Tryz.prog w = .ok (strV ((r.drop 1).take 8)) w := fun w => by
    rw [<- hbv]
    exact slice_mid 9 r 1 9 Tryz.underlying9 (by omega) (by omega) w
   have q3 : ∀ w, (Instr.slice 9 (.string ba) (some (.int .i64 9)) none none).run Tryz.prog w = .ok (strV (r.drop 9)) w := fun w => by
    rw [<- hbv]
    exact slice_from 9 r 9 Tryz.underlying9 (by omega) w
   have e2 : ba.extract 1 9 = ⟨((r.drop 1).take 8).toArray⟩ := by rw [<- hba, ByteArray.extract_mk]
   have e3 : ba.extract 9 gk = ⟨(r.drop 9).toArray⟩ := by
    rw [<- hba, ByteArray.extract_mk, List.take_of_length_le (by rw [List.length_drop]; omega)]
   obtain ⟨xb, hxb⟩ : ∃ xb, r[0] = xb := ⟨_, rfl⟩
   rw [hxb] at hsg hge
   obtain ⟨tg, htg⟩ : ∃ tg, (r.drop 1).take 8 = tg := ⟨_, rfl⟩
   have ht8 : tg.length = 8 := by rw [<- htg, List.length_take, List.length_drop]; omega
   rw [htg] at hsg q2 e2
   obtain ⟨r9, hr9⟩ : ∃ r9, r.drop 9 = r9 := ⟨_, rfl⟩
   rw [hr9] at q3 e3
   have HR9 := Lib.hid (show d.drop (9 * (i + 1)) = r9 by rw [<- hr9, <- Hr.out, List.drop_drop]; congr 1)
   obtain ⟨ta, hta, htv, -⟩ := str_name tg
   obtain ⟨ra, hra, hrv, -⟩ := str_name r9
   rw [hta] at e2
   rw [htv] at q2
   rw [hra] at e3
   rw [hrv] at q3
   have HRV := Lib.hid hrv
   rw [hsg] at hsu
   have Hsu := Lib.hid hsu
   obtain ⟨wd, hwd, hxd⟩ : ∃ wd, wr.drew = wd /\ Ext wr wd := ⟨_, rfl, (Ext.refl _).drew⟩
   have hjd := abM_ext hJ hjr hxd
   have kd := kx.ext hxd
   have b1 := kd.cell
   have b2 := kd.lt
   obtain ⟨fn, tmps, assign, body, hy, hR9⟩ := hY (sgK d i) (xb, tg) wd hjd (by rw [sgK_len]; have := Hin.out; omega) ht8
   clear ht8
   dsimp only [sgV] at hy
   rw [htv] at hy
   have hg0 : 0 < gk := by omega
   have hxw : IntKind.i64.wrap (xb.toNat : Int) = (xb.toNat : Int) := by have := xb.toNat_lt; simp [IntKind.wrap, IntKind.bits, IntKind.signed]; omega
   clear hsg hsu hxb htg hr9 hta hra htv hrv hba hbv
   gi_wp2
   refine wpIn_region_any hmix ?_
   change wpAnyIn _ _ _ _ _ _ _ _ _ (World.drew _)
   rw [hwd]
   clear hwd a1 a2
   refine wpAnyIn_take (i := 0) (v := ?_) rfl rfl (by kernel_rfl) (by kernel_rfl) (by kernel_rfl) (fun _ _ _ h => h) ⟨Or.inl ⟨by rfl, ?_⟩, fun _ => rfl⟩ ?_
   rotate_left
   ·intro w'; go_simp; first | done | with_reducible rfl
   refine wpAnyIn_ready (rs := [1, 4]) (by kernel_rfl) (by simp) ?_
   refine AllReadyIn.cons rfl (fun K hK => ?_) (AllReadyIn.cons rfl (fun K hK => ?_) AllReadyIn.nil)
   ·go_simp
    refine hK _ _ ?_
    clear hK K
    refine wpAnyIn_take (i := 2) (v := ?_) rfl rfl (by kernel_rfl) (by kernel_rfl) (by kernel_rfl) (fun _ _ _ h => h) ⟨Or.inl ⟨by rfl, ?_⟩, fun _ => rfl⟩ ?_
    rotate_left
    ·intro w'; go_simp; first | done | with_reducible rfl
    refine wpAnyIn_take (i := 3) (v := ?_) rfl rfl (by kernel_rfl) (by kernel_rfl) (by kernel_rfl) (fun _ _ _ h => h) ⟨Or.inl ⟨by rfl, ?_⟩, fun _ => rfl⟩ ?_
    rotate_left
    ·intro w'; go_simp; first | done | with_reducible rfl
    refine wpAnyIn_ready (rs := [4]) (by kernel_rfl) (by simp) ?_
    refine AllReadyIn.cons rfl (fun K hK => ?_) ?_
    rotate_left
    ·exact AllReadyIn.nil
    go_simp
    refine hK _ _ ?_
    clear hK K
    refine wpAnyIn_take (i := 5) (v := ?_) rfl rfl (by kernel_rfl) (by kernel_rfl) (by kernel_rfl) (fun _ _ _ h => h) ⟨Or.inl ⟨by rfl, ?_⟩, fun _ => rfl⟩ ?_
    rotate_left
    ·intro w'; go_simp; first | done | with_reducible rfl
    refine wpAnyIn_take (i := 6) (v := ?_) rfl rfl (by kernel_rfl) (by kernel_rfl) (by kernel_rfl) (fun _ _ _ h => h) ⟨Or.inl ⟨by rfl, ?_⟩, fun _ => rfl⟩ ?_
    rotate_left
    ·intro w'; go_simp; first | done | with_reducible rfl
    refine wpAnyIn_ready (rs := [7]) (by kernel_rfl) (by simp) ?_
    refine AllReadyIn.cons rfl (fun K hK => ?_) AllReadyIn.nil
    go_simp
    refine hR9.mono ?_
    rintro e W6 (⟨rfl, hJ6, hk6⟩ | ⟨rfl, hJx6⟩)
    ·refine hK _ _ ?_
     clear hK K
     refine wpAnyIn_ready (rs := [8]) (by kernel_rfl) (by simp) ?_
     refine AllReadyIn.cons rfl (fun K hK => ?_) ?_
     rotate_left
     ·exact AllReadyIn.nil
     go_simp
     refine hK _ _ ?_
     clear hK K
     refine wpAnyIn_done (by kernel_rfl) ?_ _
     have k6 := hk6.blk kd hB
     have m1 := k6.cell
     have m2 := k6.lt
     have m3 := k6.frozen
     have k7 := k6.set0 (.string ra)
     have hj7 := abM_set hJ hJ6 0 (.string ra)
     clear b1 b2
     gi_wp2
     go_roundg (gk - 9)
     case measure => omega
     case rel => exact ⟨i + 1, by have := Hin.out; omega, by rw [HR9.out, HRV.out]; exact k7, by rw [Hsu.out]; exact hj7⟩
    ·refine hK _ _ ?_
     clear hK K
     refine wpAnyIn_ready (rs := [8]) (by kernel_rfl) (by simp) ?_
     refine AllReadyIn.cons rfl (fun K hK => ?_) ?_
     rotate_left
     ·exact AllReadyIn.nil
     go_simp
     refine hK _ _ ?_
     clear hK K
     refine wpAnyIn_done (by kernel_rfl) ?_ _
     gi_wp2
     refine bodyPost_ret (results_none rfl _ _ _) rfl ?_
     exact ⟨⟨_, rfl⟩, .inr ⟨_, ⟨i + 1, by have := Hin.out; omega, Hsu.out.symm⟩, hJx6⟩⟩

   ·go_simp
    refine hK _ _ ?_
    clear hK K
    refine wpAnyIn_take (i := 5) (v := ?_) rfl rfl (by kernel_rfl) (by kernel_rfl) (by kernel_rfl) (fun _ _ _ h => h) ⟨Or.inl ⟨by rfl, ?_⟩, fun _ => rfl⟩ ?_
    rotate_left
    ·intro w'; go_simp; first | done | with_reducible rfl
    refine wpAnyIn_ready (rs := [1]) (by kernel_rfl) (by simp) ?_
    refine AllReadyIn.cons rfl (fun K hK => ?_) ?_
    rotate_left
    ·exact AllReadyIn.nil
    go_simp
    refine hK _ _ ?_
    clear hK K
    refine wpAnyIn_take (i := 2) (v := ?_) rfl rfl (by kernel_rfl) (by kernel_rfl) (by kernel_rfl) (fun _ _ _ h => h) ⟨Or.inl ⟨by rfl, ?_⟩, fun _ => rfl⟩ ?_
    rotate_left
    ·intro w'; go_simp; first | done | with_reducible rfl
    refine wpAnyIn_take (i := 3) (v := ?_) rfl rfl (by kernel_rfl) (by kernel_rfl) (by kernel_rfl) (fun _ _ _ h => h) ⟨Or.inl ⟨by rfl, ?_⟩, fun _ => rfl⟩ ?_
    rotate_left
    ·intro w'; go_simp; first | done | with_reducible rfl
    refine wpAnyIn_take (i := 6) (v := ?_) rfl rfl (by kernel_rfl) (by kernel_rfl) (by kernel_rfl) (fun _ _ _ h => h) ⟨Or.inl ⟨by rfl, ?_⟩, fun _ => rfl⟩ ?_
    rotate_left
    ·intro w'; go_simp; first | done | with_reducible rfl
    refine wpAnyIn_ready (rs := [7]) (by kernel_rfl) (by simp) ?_
    refine AllReadyIn.cons rfl (fun K hK => ?_) AllReadyIn.nil
    go_simp
    refine hR9.mono ?_
    rintro e W6 (⟨rfl, hJ6, hk6⟩ | ⟨rfl, hJx6⟩)
    ·refine hK _ _ ?_
     clear hK K
     refine wpAnyIn_ready (rs := [8]) (by kernel_rfl) (by simp) ?_
     refine AllReadyIn.cons rfl (fun K hK => ?_) ?_
     rotate_left
     ·exact AllReadyIn.nil
     go_simp
     refine hK _ _ ?_
     clear hK K
     refine wpAnyIn_done (by kernel_rfl) ?_ _
     have k6 := hk6.blk kd hB
     have m1 := k6.cell
     have m2 := k6.lt
     have m3 := k6.frozen
     have k7 := k6.set0 (.string ra)
     have hj7 := abM_set hJ hJ6 0 (.string ra)
     clear b1 b2
     gi_wp2
     go_roundg (gk - 9)
     case measure => omega
     case rel => exact ⟨i + 1, by have := Hin.out; omega, by rw [HR9.out, HRV.out]; exact k7, by rw [Hsu.out]; exact hj7⟩
    ·refine hK _ _ ?_
     clear hK K
     refine wpAnyIn_ready (rs := [8]) (by kernel_rfl) (by simp) ?_
     refine AllReadyIn.cons rfl (fun K hK => ?_) ?_
     rotate_left
     ·exact AllReadyIn.nil
     go_simp
     refine hK _ _ ?_
     clear hK K
     refine wpAnyIn_done (by kernel_rfl) ?_ _
     gi_wp2
     refine bodyPost_ret (results_none rfl _ _ _) rfl ?_
     exact ⟨⟨_, rfl⟩, .inr ⟨_, ⟨i + 1, by have := Hin.out; omega, Hsu.out.symm⟩, hJx6⟩⟩

  ·have hid : i = d.length / 9 := by have := Hin.out; omega
   gi_wp2
   go_end0
   exact ⟨⟨_, rfl⟩, .inl ⟨_, by rw [SgF, sigs_sgK, <- hid], hjr⟩⟩
theorem sig_stops (B : Nat) (S : Nat -> Prop) (d : Bts) (w : World) (hz : d.length <= 8000) (kb : Blk w B 9 #[strV d]) (hB : ¬ S B) :
 SeqStopsM Fence.wide 4 Tryz.prog 129 #[.pointer (some ⟨B, 0, none⟩)] sgV (KpQ S) (fun r => r = B) (SgF d) (fun pre => ∃ k, k <= d.length / 9 /\ pre = sgK d k) 1000 w :=
 fun l J Jx W hW hJ _ hY hj => sig_iter l B S d W hz (kb.ext hW) hB J Jx hJ (fun pre x W h1 h2 _ => hY pre x W h1 h2) hj
set_option maxHeartbeats 400000 in
theorem sig_any (s : Bts) (w : World) :
 Calls Tryz.prog 49 #[strV s] w fun e w' => e = .returned (.func (.func 129) #[] #[.pointer (some ⟨w.heap.size, 0, none⟩)]) /\ Ext w w' /\ w'.heap.size = w.heap.size + 1 /\ Blk w' w.heap.size 9 #[strV s] := by
 obtain ⟨v, hv⟩ : ∃ v, (⟨s.toArray⟩ : ByteArray) = v := ⟨_, rfl⟩
 unfold strV
 rw [hv]
 obtain ⟨W1, hW1, hB1, hk1, hl1⟩ := box1 w #[.string v] 9
 have s1 : W1.heap.size = w.heap.size + 1 := by rw [<- hW1]; simp
 have S1 := Lib.hid s1
 clear s1 hv
 go_enter Tryz.func49, Tryz.ntmps49
 go_wp2
 go_ret
 exact ⟨rfl, hB1, S1.out, hk1⟩
abbrev Sg8 := { x : Sg // x.2.length = 8 }
def sg8V (x : Sg8) : Array Value := #[.agg #[.int .i64 (x.1.1.toNat : Int), strV x.1.2]]
def un8 (l : List Sg8) : List Sg := l.map (·.1)
theorem un8_snoc (l : List Sg8) (x : Sg8) : un8 (l ++ [x]) = un8 l ++ [x.1] := by simp [un8]
theorem un8_len (l : List Sg8) : (un8 l).length = l.length := by simp [un8]
theorem un8_8 (l : List Sg8) : ∀ x ∈ un8 l, x.2.length = 8 := by
 intro x hx
 obtain ⟨y, _, rfl⟩ := List.mem_map.1 hx
 exact y.2
def Sg8F (d : Bts) (ys : List Sg8) : Prop := un8 ys = sigs d
theorem sig8_stops (B : Nat) (S : Nat -> Prop) (d : Bts) (w : World) (hz : d.length <= 8000) (kb : Blk w B 9 #[strV d]) (hB : ¬ S B) :
 SeqStopsM Fence.wide 4 Tryz.prog 129 #[.pointer (some ⟨B, 0, none⟩)] sg8V (KpQ S) (fun r => r = B) (Sg8F d) (fun _ => True) 1000 w := by
 intro l J Jx W hW hJ _ hY hj
 refine (sig_iter l B S d W hz (kb.ext hW) hB (fun pre W => ∃ ys, un8 ys = pre /\ J ys W) (fun pre W => ∃ ys, un8 ys = pre /\ Jx ys W) ?_ ?_ ⟨[], rfl, hj⟩).mono ?_
 ·intro s A C row ⟨ys, h1, h2⟩ hg hr
  exact ⟨ys, h1, hJ ys A C row h2 hg hr⟩
 ·rintro pre x W1 ⟨ys, rfl, h2⟩ hl h8
  obtain ⟨fn, tmps, assign, body, hy, hR⟩ := hY ys ⟨x, h8⟩ W1 h2 (by rw [un8_len] at hl; exact hl)
  refine ⟨fn, tmps, assign, body, hy, hR.mono ?_⟩
  rintro e W' (⟨h3, h4, h5⟩ | ⟨h3, h4⟩)
  ·exact .inl ⟨h3, ⟨_, un8_snoc _ _, h4⟩, h5⟩
  ·exact .inr ⟨h3, _, un8_snoc _ _, h4⟩
 ·rintro e W' ⟨hv, (⟨xs, h1, ys, h2, h3⟩ | ⟨pre, _, ys, _, h3⟩)⟩
  ·exact ⟨hv, .inl ⟨ys, h2.trans h1, h3⟩⟩
  ·exact ⟨hv, .inr ⟨ys, trivial, h3⟩⟩
end
section
open Go.RowKit Go.Shelf
attribute [local go_sem] Oper.semAt_some
def lastN : Int -> List Sg -> Int
 | l, [] => l
 | _, x :: r => lastN (x.1.toNat : Int) r
theorem lastN_snoc : ∀ (pre : List Sg) (l : Int) (x : Sg), lastN l (pre ++ [x]) = (x.1.toNat : Int)
 | [], _, _ => rfl
 | _ :: r, _, x => lastN_snoc r _ x
theorem okS_snoc : ∀ (pre : List Sg) (l : Int) (x : Sg), okS l (pre ++ [x]) = (okS l pre && decide (lastN l pre < (x.1.toNat : Int) /\ x.1.toNat < 16))
 | [], l, x => by rw [Bool.eq_iff_iff]; simp only [List.nil_append, okS, lastN, Bool.and_true, Bool.true_and, decide_eq_true_eq]; exact ⟨fun h => decide_eq_true h, fun h => of_decide_eq_true h⟩
 | y :: r, l, x => by
   rw [List.cons_append]
   unfold okS
   rw [okS_snoc r, Bool.and_assoc]
   rfl
theorem okS_pre : ∀ (a : List Sg) {b : List Sg} {l : Int}, okS l a = false -> okS l (a ++ b) = false
 | [], _, _, h => by simp [okS] at h
 | x :: r, b, l, h => by
   rw [List.cons_append]
   unfold okS at h ⊢
   rw [Bool.and_eq_false_iff] at h ⊢
   rcases h with h | h
   ·exact .inl h
   ·exact .inr (okS_pre r h)
theorem sgK_pre (d : Bts) {k : Nat} (h : k <= d.length / 9) : ∃ b, sigs d = sgK d k ++ b := by
 refine ⟨(sigs d).drop k, ?_⟩
 have e : sgK d k = (sigs d).take k := by
  unfold sigs sgK
  rw [<- List.map_take, List.take_range, Nat.min_eq_left h]
 rw [e, List.take_append_drop]
theorem lastN_lo : ∀ (pre : List Sg) (l : Int), okS l pre = true -> -1 <= l -> l <= 15 -> -1 <= lastN l pre /\ lastN l pre <= 15
 | [], _, _, h1, h2 => ⟨h1, h2⟩
 | x :: r, l, h, _, _ => by
   simp only [okS, Bool.and_eq_true, decide_eq_true_eq] at h
   exact lastN_lo r _ h.2 (by omega) (by omega)
def DmI (g0 g1 N : Nat) (W0 : World) (pre : List Sg) (W : World) : Prop := Blk W g0 4 #[.bool false] /\ Blk W g1 3 #[.int .i64 (lastN (-1) pre)] /\ okS (-1) pre = true /\ Ext W0 W /\ N <= W.heap.size
def DmX (g0 : Nat) (W0 : World) (c : Code) (pre : List Sg) (W : World) : Prop := c = .ret /\ Blk W g0 4 #[.bool true] /\ okS (-1) pre = false /\ Ext W0 W
theorem dmI_ab {g0 g1 N : Nat} {T : Nat -> Prop} {W0 : World} (h0 : g0 < N /\ ¬ T g0) (h1 : g1 < N /\ ¬ T g1) (hT : ∀ r, T r -> W0.heap.size <= r) (hN : W0.heap.size <= N) : AbM T N (DmI g0 g1 N W0) := by
 intro s A C row ⟨a1, a2, a3, a4, a5⟩ hg hr
 refine ⟨a1.kept hg (fun e => ?_), a2.kept hg (fun e => ?_), a3, a4.keptb hg (fun r e => (hr r e).elim (hT r) (fun h => by omega)), Nat.le_trans a5 hg.size⟩
 ·rcases hr g0 e.symm with h | h
  ·exact h0.2 h
  ·omega
 ·rcases hr g1 e.symm with h | h
  ·exact h1.2 h
  ·omega
theorem dmX_ab {g0 N : Nat} {T : Nat -> Prop} {W0 : World} {c : Code} (h0 : g0 < N /\ ¬ T g0) (hT : ∀ r, T r -> W0.heap.size <= r) (hN : W0.heap.size <= N) : AbM T N (DmX g0 W0 c) := by
 intro s A C row ⟨a0, a1, a3, a4⟩ hg hr
 refine ⟨a0, a1.kept hg (fun e => ?_), a3, a4.keptb hg (fun r e => (hr r e).elim (hT r) (fun h => by omega))⟩
 rcases hr g0 e.symm with h | h
 ·exact h0.2 h
 ·omega
theorem results_cellv {fn : Func} {p : Tmp} {ty : TypeId} (h : fn.results = #[.cell p ty]) (tmps : Array Value) (P : Program) (w : World) :
 (results fn tmps).run P w = ((asAddr (tmps.getD p undef)).run P w).andThen fun a w₁ => (loadVar ty a).run P w₁ := by
 simp only [results, h]
 simp [Sem.run_bind, Result.andThen]
set_option maxRecDepth 100000 in
set_option maxHeartbeats 16000000 in
theorem dam_any (d : Bts) (w : World) (hz : d.length <= 8000) :
 Calls Tryz.prog 179 #[strV d] w fun e w' => e = .returned (.bool (damB d)) /\ Ext w w' := by
 obtain ⟨W1, hW1, hB1, hk1, hl1⟩ := box1 w #[.bool false] 4
 obtain ⟨W2, hW2, hB2, hk2, hl2⟩ := box1 W1 #[.int .i64 (-1)] 3
 have f1 := fun w => sig_any d w
 have hst := fun B S w kb hB => sig_stops B S d w hz kb hB
 obtain ⟨da, hda, hdv, hds⟩ := str_name d
 rw [hdv] at f1 hst ⊢
 obtain ⟨n, hn⟩ : ∃ n, d.length = n := ⟨_, rfl⟩
 rw [hn] at hds hz
 have HN := Lib.hid hn
 clear hda hdv hn
 refine (callsIn_wide (n := 5)).1 ?_
 refine callsIn_of_wp_marks Tryz.func179 rfl trivial ?_ rfl
 refine wpIn_wide.2 ?_
 refine Code.wp_mono NoPanic.imp ?_
 simp only [Tryz.ntmps179, List.size_toArray, List.length_cons, List.length_nil, Nat.reduceAdd, Nat.reduceSub, Array.replicate_succ, Array.replicate_zero, List.push_toArray, List.append_toArray, List.nil_append, List.cons_append]
 go_wp2_with fail
 clear hW1 hW2
 refine (f1 _).mono ?_
 clear f1
 rintro e w8 ⟨rfl, hb8, hs8, z1⟩
 have hE8 := (hB1.trans hB2).trans hb8
 have y1 := hB1.size
 have y2 := hB2.size
 have y8 := hb8.size
 go_wp2_with fail
 refine (wpIn_wide (n := 5)).1 ?_
 refine wpIn_rangeM rfl (by omega) (gf := 129) (lb := #[.pointer (some ⟨W2.heap.size, 0, none⟩)]) rfl trivial (enters_of Tryz.func129 (by kernel_rfl) rfl)
  (hst W2.heap.size (fun b => b = w.heap.size ∨ b = W1.heap.size) w8 z1 (by omega)) (fun r hr => by subst hr; omega)
  KpQ.trans (fun W l o o' hl h1 h2 => KpQ.put W l o o' h1 h2) (Below.refl _ _) (fun _ => rfl)
  (DmI w.heap.size W1.heap.size w8.heap.size w) (DmX w.heap.size w) (dmI_ab ⟨by omega, by omega⟩ ⟨by omega, by omega⟩ (fun r hr => by subst hr; omega) (by omega)) (fun c => dmX_ab ⟨by omega, by omega⟩ (fun r hr => by subst hr; omega) (by omega))
  ⟨(hk1.ext hB2).ext hb8, hk2.ext hb8, rfl, hE8, Nat.le_refl _⟩
  (fun x a' W => ∃ b1, Blk W b1 131 #[.int .i64 (x.1.toNat : Int), strV x.2] /\ W2.heap.size < b1 /\ a' = { tmps := #[.string da, undef, .pointer (some ⟨w.heap.size, 0, none⟩), .pointer (some ⟨W1.heap.size, 0, none⟩), .pointer (some ⟨b1, 0, none⟩), .string da, .func (.func 129) #[] #[.pointer (some ⟨W2.heap.size, 0, none⟩)], .agg #[.int .i64 (x.1.toNat : Int), strV x.2], undef, undef, undef, undef, undef, undef, undef, undef, undef, undef, undef, undef, undef, undef, undef, undef, undef, undef, undef, undef], defers := [] })
  (fun x a' s X Y row hs hg hr => by obtain ⟨b1, z1, z2, z3⟩ := hs; exact ⟨b1, z1.keptc hg (fun r e => (hr r e).2), z2, z3⟩) ?assign ?body ?done ?stop
 case assign =>
  rintro li pre x W K ⟨i1, i2, i3, i4, i5⟩ hK
  simp only [sgV]
  have e1 := ((Ext.refl W).alloc (.cells #[.int .i64 (x.1.toNat : Int), strV x.2] 131))
  obtain ⟨ta, hta, -⟩ := strV_str x.2
  rw [hta] at e1 hK ⊢
  gi_wp2
  exact hK _ _ (e1.keeps.from _) (KpQ.of_ext e1) ⟨i1.ext e1, i2.ext e1, i3, i4.trans e1, Nat.le_trans i5 e1.size⟩ ⟨W.heap.size, Blk.new W _ _, by omega, rfl⟩
 case body =>
  rintro li pre x a' W ⟨i1, i2, i3, i4, i5⟩ ⟨b1, kb1, hb1, rfl⟩ hlen
  have hsn := okS_snoc pre (-1) x
  have hls := lastN_snoc pre (-1) x
  have hlo := lastN_lo pre (-1) i3 (by omega) (by omega)
  rw [i3, Bool.true_and] at hsn
  obtain ⟨L, hL⟩ : ∃ L, lastN (-1) pre = L := ⟨_, rfl⟩
  rw [hL] at i2 hsn hlo
  obtain ⟨ta, hta, -⟩ := strV_str x.2
  rw [hta] at kb1 ⊢
  obtain ⟨nb, hnb⟩ : ∃ nb, x.1.toNat = nb := ⟨_, rfl⟩
  rw [hnb] at kb1 hsn hls ⊢
  have HLS := Lib.hid hls
  have a1 := i1.cell
  have a2 := i1.lt
  have a3 := i1.frozen
  have d1 := i2.cell
  have d2 := i2.lt
  have d3 := i2.frozen
  have e1 := kb1.cell
  have e2 := kb1.lt
  clear hL hta hnb hls
  by_cases h1 : (nb : Int) <= L
  ·have HS := Lib.hid (show okS (-1) (pre ++ [x]) = false by rw [hsn]; exact decide_eq_false (by omega))
   clear hsn
   gi_wp2
   exact ⟨(KeepsOthers.setCell W _ _).from _, rfl, i1.set0 _, HS.out, i4.setCell (Nat.le_refl _) _⟩
  ·by_cases h2 : (16 : Int) <= (nb : Int)
   ·have HS := Lib.hid (show okS (-1) (pre ++ [x]) = false by rw [hsn]; exact decide_eq_false (by omega))
    clear hsn
    gi_wp2
    exact ⟨(KeepsOthers.setCell W _ _).from _, rfl, i1.set0 _, HS.out, i4.setCell (Nat.le_refl _) _⟩
   ·have HS := Lib.hid (show okS (-1) (pre ++ [x]) = true by rw [hsn]; exact decide_eq_true (by omega))
    clear hsn
    gi_wp2
    exact ⟨(KeepsOthers.setCell W _ _).from _, (KpQ.refl _ W).setCell (.inr rfl) _ _, i1.far (by simp; omega) _, by rw [HLS.out]; exact i2.set0 _, HS.out, i4.setCell (by show w.heap.size <= W1.heap.size; omega) _, by simp [World.setCell]; omega⟩
 case stop =>
  rintro D c pre W hDD ⟨k, hk, rfl⟩ ⟨rfl, a1, a2, a3⟩ hK
  have hfal : damB d = true := by
   obtain ⟨b, hb⟩ := sgK_pre d hk
   unfold damB
   rw [hb, okS_pre _ a2]
   rfl
  have hd2 := (DSx.nil w8.heap.size w.heap.size W).cons hDD (by omega) hK
  clear hK
  refine wpIn_wide.2 ?_
  go_wp2_with fail
  show LeavesInM _ _ _ _ _ _ _ .returning _
  refine hd2.leaves ?_
  intro w' hw'
  have hfin := hw' (fun W => Blk W w.heap.size 4 #[.bool true] /\ Ext w W) (fun s X Y row hs hg hr => ⟨hs.1.keptc hg (fun r e => (hr r e).2), hs.2.keptb hg (fun r e => (hr r e).1)⟩) ⟨a1, a3⟩
  have hc7 := hfin.1.cell
  refine ⟨.bool true, (by rw [results_cellv rfl]; simp [asAddr, Result.andThen, hc7, go_sem]), by rw [hfal], hfin.2⟩
 case done =>
  rintro D xs W hDD hF ⟨i1, i2, i3, i4, i5⟩ hK
  obtain rfl : xs = sigs d := hF
  have hd2 := (DSx.nil w8.heap.size w.heap.size W).cons hDD (by omega) hK
  clear hK
  have hdm : damB d = (decide (n = 0) || decide (n % 9 ≠ 0)) := by
   unfold damB
   rw [i3, HN.out]
   rfl
  have a1 := i1.cell
  have a2 := i1.lt
  have a3 := i1.frozen
  have fin : ∀ r, damB d = r -> ∀ w', (∀ I : World -> Prop, OwnFrom w.heap.size (fun (_ : Unit) W => I W) -> I (W.setCell ⟨w.heap.size, 0, none⟩ (.bool r)) -> I w') -> Blk w' w.heap.size 4 #[.bool r] /\ Ext w w' := fun r _ w' hw' =>
   hw' (fun W => Blk W w.heap.size 4 #[.bool r] /\ Ext w W) (fun s X Y row hs hg hr => ⟨hs.1.keptc hg (fun r e => (hr r e).2), hs.2.keptb hg (fun r e => (hr r e).1)⟩) ⟨i1.set0 _, i4.setCell (Nat.le_refl _) _⟩
  have HDM := Lib.hid hdm
  clear hdm
  by_cases h0 : n = 0
  ·have HV := Lib.hid (show damB d = true by rw [HDM.out, h0]; rfl)
   have d0 : ((n : Int) == 0) = true := by rw [beq_iff_eq]; omega
   clear h0
   go_wp2_with fail
   show LeavesInM _ _ _ _ _ _ _ .returning _
   refine (hd2.setCell _ _).leaves ?_
   intro w' hw'
   have hfin := fin true HV.out w' hw'
   have hc7 := hfin.1.cell
   exact ⟨.bool true, (by rw [results_cellv rfl]; simp [asAddr, Result.andThen, hc7, go_sem]), by rw [HV.out], hfin.2⟩
  ·have d0 : ((n : Int) == 0) = false := by rw [beq_eq_false_iff_ne]; omega
   by_cases h9 : n % 9 = 0
   ·have HV := Lib.hid (show damB d = false by rw [HDM.out]; simp [h0, h9])
    have d9 : ((n : Int) % 9 != 0) = false := by rw [bne_eq_false_iff_eq]; omega
    clear h0 h9
    go_wp2_with fail
    show LeavesInM _ _ _ _ _ _ _ .returning _
    refine (hd2.setCell _ _).leaves ?_
    intro w' hw'
    have hfin := fin false HV.out w' hw'
    have hc7 := hfin.1.cell
    exact ⟨.bool false, (by rw [results_cellv rfl]; simp [asAddr, Result.andThen, hc7, go_sem]), by rw [HV.out], hfin.2⟩
   ·have HV := Lib.hid (show damB d = true by rw [HDM.out]; simp [h9])
    have d9 : ((n : Int) % 9 != 0) = true := by rw [bne_iff_ne]; omega
    clear h0 h9
    go_wp2_with fail
    show LeavesInM _ _ _ _ _ _ _ .returning _
    refine (hd2.setCell _ _).leaves ?_
    intro w' hw'
    have hfin := fin true HV.out w' hw'
    have hc7 := hfin.1.cell
    exact ⟨.bool true, (by rw [results_cellv rfl]; simp [asAddr, Result.andThen, hc7, go_sem]), by rw [HV.out], hfin.2⟩
end
section
open Go.RowKit Go.Shelf
attribute [local go_sem] Oper.semAt_some
theorem auth_any (b : Bu) (A : Option Addr) (c : Nat) (w : World) (hA : Rd EBl w A b.blocks) (hmax : b.blocks.length <= 1000000) :
 Calls Tryz.prog 47 #[.slice A b.blocks.length c, .int .i64 4] w fun e w' => e = .returned (.tuple #[.agg #[.int .i64 b.auth.kind, .int .i64 b.auth.flags, strV b.auth.data], .bool (findK b.blocks 4).isSome]) /\ Ext w w' := by
 refine (blFind_any A c b.blocks 4 w hA hmax).mono ?_
 rintro e w' ⟨rfl, h⟩
 refine ⟨?_, h⟩
 unfold Bu.auth
 cases findK b.blocks 4 with
 | none => rfl
 | some x => rfl
theorem findK_mem {l : List Bl} {k : Int} {x : Bl} (h : findK l k = some x) : x ∈ l := List.mem_of_find?_eq_some h
theorem auth_len {b : Bu} (h : buE b = 0) : b.auth.data.length <= 1024 := by
 unfold Bu.auth
 cases hf : findK b.blocks 4 with
 | none => simp
 | some x => exact (blErr_ok ((blksE_ok.1 (buE_blocks h)).2.1 x (findK_mem hf))).2.2
theorem secE_auth (b : Bu) : secE b = if (findK b.blocks 4).isSome then (if damB b.auth.data then 11 else 0) else 0 := by
 unfold secE Bu.auth
 cases findK b.blocks 4 <;> rfl
set_option maxRecDepth 100000 in
set_option maxHeartbeats 8000000 in
theorem secChk_any (b : Bu) (A : Option Addr) (cap : Nat) (w : World) (hR : Rd EBl w A b.blocks) (hv : buE b = 0) :
 Calls Tryz.prog 95 #[.agg (b.cells A cap)] w fun e w' => e = .returned (.int .i64 (secE b)) /\ Ext w w' := by
 have hl := (blksE_ok.1 (buE_blocks hv)).1
 have f1 := fun w h => auth_any b A cap w h (by omega)
 have f2 := fun w => dam_any b.auth.data w (by have := auth_len hv; omega)
 have hs := secE_auth b
 obtain ⟨sv, hsv⟩ : ∃ sv, secE b = sv := ⟨_, rfl⟩
 rw [hsv] at hs ⊢
 obtain ⟨ba, hba, -⟩ := strV_str b.auth.data
 rw [hba] at f1 f2
 obtain ⟨kd, hkd⟩ : ∃ kd, b.auth.kind = kd := ⟨_, rfl⟩
 obtain ⟨fl, hfl⟩ : ∃ fl, b.auth.flags = fl := ⟨_, rfl⟩
 rw [hkd, hfl] at f1
 obtain ⟨pa, hpa, -⟩ := strV_str b.pay
 unfold Bu.cells
 rw [hpa]
 obtain ⟨W, hW, hB, hk, hlt⟩ := box1 w #[.int .i64 b.src, .int .i64 b.cr, .int .i64 b.seq, .int .i64 b.off, .int .i64 b.tot, .int .i64 b.dk, .int .i64 b.dn, .int .i64 b.life, .int .i64 b.prio, .int .i64 b.flags, .slice A b.blocks.length cap, .string pa] 29
 have hc := hk.cell
 clear hsv hba hkd hfl hpa hl hv
 generalize (findK b.blocks 4).isSome = is at *
 generalize damB b.auth.data = dm at *
 have HS := Lib.hid hs
 clear hs
 cases is
 ·go_enter Tryz.func95, Tryz.ntmps95
  go_wp2_with fail
  clear hW
  refine (f1 _ (hR.ext hB)).mono ?_
  rintro e w1 ⟨rfl, hb1⟩
  obtain ⟨W2, hW2, hB2, hk2, hl2⟩ := box1 w1 #[.int .i64 kd, .int .i64 fl, .string ba] 116
  go_wp2
  go_ret
  exact ⟨by rw [HS.out]; rfl, (hB.trans hb1).trans hB2⟩
 ·cases dm
  all_goals
   go_enter Tryz.func95, Tryz.ntmps95
   go_wp2_with fail
   clear hW
   refine (f1 _ (hR.ext hB)).mono ?_
   rintro e w1 ⟨rfl, hb1⟩
   obtain ⟨W2, hW2, hB2, hk2, hl2⟩ := box1 w1 #[.int .i64 kd, .int .i64 fl, .string ba] 116
   have c2 := hk2.cell
   go_wp2_with fail
   refine (f2 _).mono ?_
   rintro e w3 ⟨rfl, hb3⟩
   go_wp2
   go_ret
   exact ⟨by rw [HS.out]; rfl, ((hB.trans hb1).trans hB2).trans hb3⟩
set_option maxRecDepth 100000 in
set_option maxHeartbeats 8000000 in
theorem all_any (b : Bu) (A : Option Addr) (cap : Nat) (node : Int) (key : Bts) (w : World) (hR : Rd EBl w A b.blocks) :
 Calls Tryz.prog 44 #[.agg (b.cells A cap), .int .i64 node, strV key] w fun e w' => e = .returned (.int .i64 (allE b node key)) /\ Ext w w' := by
 have f1 := fun w h => buChk_any b A cap w h
 have f2 := fun w => kSum_any key w
 have f3 := fun w h hv => secChk_any b A cap w h hv
 obtain ⟨v, hv⟩ : ∃ v, allE b node key = v := ⟨_, rfl⟩
 rw [hv]
 unfold allE at hv
 have HV := Lib.hid hv
 clear hv
 obtain ⟨ka, hka, -⟩ := strV_str key
 rw [hka] at f2 ⊢
 obtain ⟨pa, hpa, -⟩ := strV_str b.pay
 have hcs : b.cells A cap = #[.int .i64 b.src, .int .i64 b.cr, .int .i64 b.seq, .int .i64 b.off, .int .i64 b.tot, .int .i64 b.dk, .int .i64 b.dn, .int .i64 b.life, .int .i64 b.prio, .int .i64 b.flags, .slice A b.blocks.length cap, .string pa] := by unfold Bu.cells; rw [hpa]
 rw [hcs] at f1 f3 ⊢
 obtain ⟨W, hW, hB, hk, hlt⟩ := box1 w #[.int .i64 b.src, .int .i64 b.cr, .int .i64 b.seq, .int .i64 b.off, .int .i64 b.tot, .int .i64 b.dk, .int .i64 b.dn, .int .i64 b.life, .int .i64 b.prio, .int .i64 b.flags, .slice A b.blocks.length cap, .string pa] 29
 have hc := hk.cell
 have HK := Lib.hid (show ∃ n, key.length = n from ⟨_, rfl⟩)
 clear hka hpa hcs
 by_cases x1 : buE b = 0
 case neg =>
  have HX := Lib.hid (show v = buE b by rw [<- HV.out, if_pos x1])
  obtain ⟨u, hu⟩ : ∃ u, buE b = u := ⟨_, rfl⟩
  rw [hu] at f1 HX x1
  have hn0 : (u != 0) = true := by rw [bne_iff_ne]; exact x1
  clear hu x1
  go_enter Tryz.func44, Tryz.ntmps44
  go_wp2_with fail
  clear hW
  refine (f1 _ (hR.ext hB)).mono ?_
  rintro e w1 ⟨rfl, hb1⟩
  go_wp2
  go_ret
  exact ⟨by rw [HX.out]; rfl, hB.trans hb1⟩
 rw [x1] at f1
 have z1 : ¬ buE b ≠ 0 := fun h => h x1
 have f3' := fun w h => f3 w h x1
 clear f3
 by_cases x2 : node < 0
 case pos =>
  have HX := Lib.hid (show v = 2 by rw [<- HV.out, if_neg z1, if_pos (.inl x2)])
  clear x1 z1
  go_enter Tryz.func44, Tryz.ntmps44
  go_wp2_with fail
  clear hW
  refine (f1 _ (hR.ext hB)).mono ?_
  rintro e w1 ⟨rfl, hb1⟩
  go_wp2
  go_ret
  exact ⟨by rw [HX.out]; rfl, hB.trans hb1⟩
 by_cases x3 : 16 <= node
 case pos =>
  have HX := Lib.hid (show v = 2 by rw [<- HV.out, if_neg z1, if_pos (.inr x3)])
  clear x1 z1
  go_enter Tryz.func44, Tryz.ntmps44
  go_wp2_with fail
  clear hW
  refine (f1 _ (hR.ext hB)).mono ?_
  rintro e w1 ⟨rfl, hb1⟩
  go_wp2
  go_ret
  exact ⟨by rw [HX.out]; rfl, hB.trans hb1⟩
 have z2 : ¬ (node < 0 ∨ 16 <= node) := by omega
 by_cases x4 : key.length = 16
 case neg =>
  have HX := Lib.hid (show v = 1 by rw [<- HV.out, if_neg z1, if_neg z2, if_pos x4])
  rw [if_neg x4] at f2
  clear x1 z1 z2 x4
  go_enter Tryz.func44, Tryz.ntmps44
  go_wp2_with fail
  clear hW
  refine (f1 _ (hR.ext hB)).mono ?_
  rintro e w1 ⟨rfl, hb1⟩
  go_wp2_with fail
  refine (f2 _).mono ?_
  rintro e w2 ⟨⟨t, rfl⟩, hb2⟩
  obtain ⟨ta, hta, -⟩ := strV_str t
  rw [hta]
  clear hta
  go_wp2
  go_ret
  exact ⟨by rw [HX.out]; rfl, (hB.trans hb1).trans hb2⟩
 rw [if_pos x4] at f2
 have HX := Lib.hid (show v = secE b by rw [<- HV.out, if_neg z1, if_neg z2, if_neg (fun h => h x4)])
 obtain ⟨u, hu⟩ : ∃ u, secE b = u := ⟨_, rfl⟩
 rw [hu] at f3' HX
 clear x1 z1 z2 x4 hu
 go_enter Tryz.func44, Tryz.ntmps44
 go_wp2_with fail
 clear hW
 refine (f1 _ (hR.ext hB)).mono ?_
 rintro e w1 ⟨rfl, hb1⟩
 clear hc
 go_wp2_with fail
 refine (f2 _).mono ?_
 rintro e w2 ⟨⟨t, rfl⟩, hb2⟩
 obtain ⟨ta, hta, -⟩ := strV_str t
 rw [hta]
 clear hta
 have hx2 := hb1.trans hb2
 have c2 := (hk.ext hx2).cell
 have l2 := (hk.ext hx2).lt
 go_wp2_with fail
 refine (f3' _ ((hR.ext hB).ext hx2)).mono ?_
 rintro e w3 ⟨rfl, hb3⟩
 go_wp2
 go_ret
 exact ⟨by rw [HX.out]; rfl, (hB.trans hx2).trans hb3⟩
end
end Go.Proofs.YtemkpimngbbpkaaGreat

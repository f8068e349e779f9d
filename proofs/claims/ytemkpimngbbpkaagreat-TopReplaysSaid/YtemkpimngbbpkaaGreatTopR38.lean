/- Security: the iterator over the signatures. -/
import Derived.Sort.LoopGhostIn
import Derived.Test.YtemkpimngbbpkaaGreatTopR01
import Derived.Test.YtemkpimngbbpkaaGreatTopR09
import Derived.Test.YtemkpimngbbpkaaGreatTopR35
import Derived.Test.YtemkpimngbbpkaaGreatTopR37
namespace Go.Proofs.YtemkpimngbbpkaaGreat
set_option linter.unusedVariables false
set_option linter.unusedSimpArgs false
set_option linter.unusedVariables false
set_option linter.unusedSimpArgs false
open Go.RowKit
attribute [local go_sem] Oper.semAt_some

def sgV (x : Sg) : Array Value := #[.agg #[.int .i64 (x.1.toNat : Int), strV x.2]]
def sgK (d : Bts) (i : Nat) : List Sg := (List.range i).map (sgAt d)
theorem sgK_succ (d : Bts) (i : Nat) : sgK d (i + 1) = sgK d i ++ [sgAt d i] := by simp [sgK, List.range_succ]
theorem sgK_len (d : Bts) (i : Nat) : (sgK d i).length = i := by simp [sgK]
theorem sigs_sgK (d : Bts) : sigs d = sgK d (d.length / 9) := rfl
def SgF (d : Bts) (ys : List Sg) : Prop := ys = sigs d
theorem sgAt_drop (d : Bts) (i : Nat) : sgAt d i = ((d.drop (9 * i)).getD 0 0, ((d.drop (9 * i)).drop 1).take 8) := by
  unfold sgAt
  rw [List.drop_drop]
  simp [List.getD]
theorem abM_ext {β : Type} {T : Nat → Prop} {B : Nat} {J : β → World → Prop} (h : AbM T B J) {s : β} {W W' : World} (hs : J s W) (he : Ext W W') : J s W' :=
  h s W W' none hs (grown_ext (World.grownBy.refl W none) he) (fun r e => by cases e)
theorem abM_set {β : Type} {B : Nat} {N : Nat} {J : β → World → Prop} (h : AbM (fun r => r = B) N J) {s : β} {W : World} (hs : J s W) (o : Nat) (v : Value) : J s (W.setCell ⟨B, o, none⟩ v) :=
  h s W _ (some B) hs (grown_setCell (World.grownBy.refl W (some B)) o v) (fun r e => by injection e with e; exact .inl e.symm)

set_option maxRecDepth 100000 in
set_option maxHeartbeats 8000000 in
theorem sig_iter (l B : Nat) (S : Nat → Prop) (d : Bts) (W : World) (hz : d.length ≤ 8000) (kb : Blk W B 9 #[strV d]) (hB : ¬ S B)
    (J Jx : List Sg → World → Prop) (hJ : AbM (fun r => r = B) W.heap.size J)
    (hY : ∀ pre x W, J pre W → pre.length < 1000 → x.2.length = 8 → YieldAt Fence.wide 3 Tryz.prog l (sgV x) W fun e W' =>
      (e = .returned (.bool true) ∧ J (pre ++ [x]) W' ∧ KpQ S W W') ∨ (e = .returned (.bool false) ∧ Jx (pre ++ [x]) W'))
    (hj : J [] W) :
    CallsIn Fence.wide 4 Tryz.prog 129 #[.func (.yield l) #[] #[], .pointer (some ⟨B, 0, none⟩)] W fun e W' => (∃ v, e = .returned v) ∧
      ((∃ ys : List Sg, SgF d ys ∧ J ys W') ∨ (∃ pre : List Sg, (∃ k, k ≤ d.length / 9 ∧ pre = sgK d k) ∧ Jx pre W')) := by
  have hmix : Tryz.prog.follows .mixedOrders = true := by kernel_rfl
  refine callsIn_of_wp Tryz.func129 rfl trivial ?_ rfl
  simp only [Tryz.ntmps129, List.size_toArray, List.length_cons, List.length_nil, Nat.reduceAdd, Nat.reduceSub, Array.replicate_succ, Array.replicate_zero, List.push_toArray, List.append_toArray, List.nil_append, List.cons_append]
  gi_wp2
  gi_loopg [] d.length (fun n wr => ∃ i : Nat, 9 * i + n = d.length ∧ Blk wr B 9 #[strV (d.drop (9 * i))] ∧ J (sgK d i) wr)
  case atStart => exact ⟨0, by omega, by simpa using kb, by simpa [sgK] using hj⟩
  case round =>
    obtain ⟨i, hin, kx, hjr⟩ := hrel
    have Hin := Lib.hid hin
    have hrl : (d.drop (9 * i)).length = gk := by rw [List.length_drop]; omega
    obtain ⟨r, hr⟩ : ∃ r, d.drop (9 * i) = r := ⟨_, rfl⟩
    have hsg := sgAt_drop d i
    have hsu := sgK_succ d i
    rw [hr] at hrl kx hsg
    obtain ⟨ba, hba, hbv, hbs⟩ := str_name r
    rw [hrl] at hbs
    rw [hbv] at kx
    have a1 := kx.cell
    have a2 := kx.lt
    have hgk : gk ≤ 8000 := by omega
    have Hr := Lib.hid hr
    clear hin hr
    by_cases h9 : 9 ≤ gk
    · have h0 : 0 < r.length := by omega
      have hge : ∀ h : 0 < ba.size, ba[0]'h = r[0] := fun h => by
        subst hba
        rfl
      rw [show r.getD 0 0 = r[0] by simp [List.getD, h0]] at hsg
      have q2 : ∀ w, (Instr.slice 9 (.string ba) (some (.int .i64 1)) (some (.int .i64 9)) none).run Tryz.prog w = .ok (strV ((r.drop 1).take 8)) w := fun w => by
        rw [← hbv]
        exact slice_mid 9 r 1 9 Tryz.underlying9 (by omega) (by omega) w
      have q3 : ∀ w, (Instr.slice 9 (.string ba) (some (.int .i64 9)) none none).run Tryz.prog w = .ok (strV (r.drop 9)) w := fun w => by
        rw [← hbv]
        exact slice_from 9 r 9 Tryz.underlying9 (by omega) w
      have e2 : ba.extract 1 9 = ⟨((r.drop 1).take 8).toArray⟩ := by rw [← hba, ByteArray.extract_mk]
      have e3 : ba.extract 9 gk = ⟨(r.drop 9).toArray⟩ := by
        rw [← hba, ByteArray.extract_mk, List.take_of_length_le (by rw [List.length_drop]; omega)]
      obtain ⟨xb, hxb⟩ : ∃ xb, r[0] = xb := ⟨_, rfl⟩
      rw [hxb] at hsg hge
      obtain ⟨tg, htg⟩ : ∃ tg, (r.drop 1).take 8 = tg := ⟨_, rfl⟩
      have ht8 : tg.length = 8 := by rw [← htg, List.length_take, List.length_drop]; omega
      rw [htg] at hsg q2 e2
      obtain ⟨r9, hr9⟩ : ∃ r9, r.drop 9 = r9 := ⟨_, rfl⟩
      rw [hr9] at q3 e3
      have HR9 := Lib.hid (show d.drop (9 * (i + 1)) = r9 by rw [← hr9, ← Hr.out, List.drop_drop]; congr 1)
      obtain ⟨ta, hta, htv, -⟩ := str_name tg
      obtain ⟨ra, hra, hrv, -⟩ := str_name r9
      rw [hta] at e2
      rw [htv] at q2
      rw [hra] at e3
      rw [hrv] at q3
      have HRV := Lib.hid hrv
      rw [hsg] at hsu
      have Hsu := Lib.hid hsu
      obtain ⟨wd, hwd, hxd⟩ : ∃ wd, wr.drew = wd ∧ Ext wr wd := ⟨_, rfl, (Ext.refl _).drew⟩
      have hjd := abM_ext hJ hjr hxd
      have kd := kx.ext hxd
      have b1 := kd.cell
      have b2 := kd.lt
      obtain ⟨fn, tmps, assign, body, hy, hR9⟩ := hY (sgK d i) (xb, tg) wd hjd (by rw [sgK_len]; have := Hin.out; omega) ht8
      clear ht8
      dsimp only [sgV] at hy
      rw [htv] at hy
      have hg0 : 0 < gk := by omega
      have hxw : IntKind.i64.wrap (xb.toNat : Int) = (xb.toNat : Int) := by have := xb.toNat_lt; simp [IntKind.wrap, IntKind.bits, IntKind.signed]; omega
      clear hsg hsu hxb htg hr9 hta hra htv hrv hba hbv
      gi_wp2
      refine wpIn_region_any hmix ?_
      change wpAnyIn _ _ _ _ _ _ _ _ _ (World.drew _)
      rw [hwd]
      clear hwd a1 a2
      refine wpAnyIn_take (i := 0) (v := ?_) rfl rfl (by kernel_rfl) (by kernel_rfl) (by kernel_rfl) (fun _ _ _ h => h) ⟨Or.inl ⟨by rfl, ?_⟩, fun _ => rfl⟩ ?_
      rotate_left
      · intro w'
        go_simp
        first | done | with_reducible rfl
      refine wpAnyIn_ready (rs := [1, 4]) (by kernel_rfl) (by simp) ?_
      refine AllReadyIn.cons rfl (fun K hK => ?_) (AllReadyIn.cons rfl (fun K hK => ?_) AllReadyIn.nil)
      · go_simp
        refine hK _ _ ?_
        clear hK K
        refine wpAnyIn_take (i := 2) (v := ?_) rfl rfl (by kernel_rfl) (by kernel_rfl) (by kernel_rfl) (fun _ _ _ h => h) ⟨Or.inl ⟨by rfl, ?_⟩, fun _ => rfl⟩ ?_
        rotate_left
        · intro w'
          go_simp
          first | done | with_reducible rfl
        refine wpAnyIn_take (i := 3) (v := ?_) rfl rfl (by kernel_rfl) (by kernel_rfl) (by kernel_rfl) (fun _ _ _ h => h) ⟨Or.inl ⟨by rfl, ?_⟩, fun _ => rfl⟩ ?_
        rotate_left
        · intro w'
          go_simp
          first | done | with_reducible rfl
        refine wpAnyIn_ready (rs := [4]) (by kernel_rfl) (by simp) ?_
        refine AllReadyIn.cons rfl (fun K hK => ?_) ?_
        rotate_left
        · exact AllReadyIn.nil
        go_simp
        refine hK _ _ ?_
        clear hK K
        refine wpAnyIn_take (i := 5) (v := ?_) rfl rfl (by kernel_rfl) (by kernel_rfl) (by kernel_rfl) (fun _ _ _ h => h) ⟨Or.inl ⟨by rfl, ?_⟩, fun _ => rfl⟩ ?_
        rotate_left
        · intro w'
          go_simp
          first | done | with_reducible rfl
        refine wpAnyIn_take (i := 6) (v := ?_) rfl rfl (by kernel_rfl) (by kernel_rfl) (by kernel_rfl) (fun _ _ _ h => h) ⟨Or.inl ⟨by rfl, ?_⟩, fun _ => rfl⟩ ?_
        rotate_left
        · intro w'
          go_simp
          first | done | with_reducible rfl
        refine wpAnyIn_ready (rs := [7]) (by kernel_rfl) (by simp) ?_
        refine AllReadyIn.cons rfl (fun K hK => ?_) AllReadyIn.nil
        go_simp
        refine hR9.mono ?_
        rintro e W6 (⟨rfl, hJ6, hk6⟩ | ⟨rfl, hJx6⟩)
        · refine hK _ _ ?_
          clear hK K
          refine wpAnyIn_ready (rs := [8]) (by kernel_rfl) (by simp) ?_
          refine AllReadyIn.cons rfl (fun K hK => ?_) ?_
          rotate_left
          · exact AllReadyIn.nil
          go_simp
          refine hK _ _ ?_
          clear hK K
          refine wpAnyIn_done (by kernel_rfl) ?_ _
          have k6 := hk6.blk kd hB
          have m1 := k6.cell
          have m2 := k6.lt
          have m3 := k6.frozen
          have k7 := k6.set0 (.string ra)
          have hj7 := abM_set hJ hJ6 0 (.string ra)
          clear b1 b2
          gi_wp2
          go_roundg (gk - 9)
          case measure => omega
          case rel => exact ⟨i + 1, by have := Hin.out; omega, by rw [HR9.out, HRV.out]; exact k7, by rw [Hsu.out]; exact hj7⟩
        · refine hK _ _ ?_
          clear hK K
          refine wpAnyIn_ready (rs := [8]) (by kernel_rfl) (by simp) ?_
          refine AllReadyIn.cons rfl (fun K hK => ?_) ?_
          rotate_left
          · exact AllReadyIn.nil
          go_simp
          refine hK _ _ ?_
          clear hK K
          refine wpAnyIn_done (by kernel_rfl) ?_ _
          gi_wp2
          refine bodyPost_ret (results_none rfl _ _ _) rfl ?_
          exact ⟨⟨_, rfl⟩, .inr ⟨_, ⟨i + 1, by have := Hin.out; omega, Hsu.out.symm⟩, hJx6⟩⟩
        
      · go_simp
        refine hK _ _ ?_
        clear hK K
        refine wpAnyIn_take (i := 5) (v := ?_) rfl rfl (by kernel_rfl) (by kernel_rfl) (by kernel_rfl) (fun _ _ _ h => h) ⟨Or.inl ⟨by rfl, ?_⟩, fun _ => rfl⟩ ?_
        rotate_left
        · intro w'
          go_simp
          first | done | with_reducible rfl
        refine wpAnyIn_ready (rs := [1]) (by kernel_rfl) (by simp) ?_
        refine AllReadyIn.cons rfl (fun K hK => ?_) ?_
        rotate_left
        · exact AllReadyIn.nil
        go_simp
        refine hK _ _ ?_
        clear hK K
        refine wpAnyIn_take (i := 2) (v := ?_) rfl rfl (by kernel_rfl) (by kernel_rfl) (by kernel_rfl) (fun _ _ _ h => h) ⟨Or.inl ⟨by rfl, ?_⟩, fun _ => rfl⟩ ?_
        rotate_left
        · intro w'
          go_simp
          first | done | with_reducible rfl
        refine wpAnyIn_take (i := 3) (v := ?_) rfl rfl (by kernel_rfl) (by kernel_rfl) (by kernel_rfl) (fun _ _ _ h => h) ⟨Or.inl ⟨by rfl, ?_⟩, fun _ => rfl⟩ ?_
        rotate_left
        · intro w'
          go_simp
          first | done | with_reducible rfl
        refine wpAnyIn_take (i := 6) (v := ?_) rfl rfl (by kernel_rfl) (by kernel_rfl) (by kernel_rfl) (fun _ _ _ h => h) ⟨Or.inl ⟨by rfl, ?_⟩, fun _ => rfl⟩ ?_
        rotate_left
        · intro w'
          go_simp
          first | done | with_reducible rfl
        refine wpAnyIn_ready (rs := [7]) (by kernel_rfl) (by simp) ?_
        refine AllReadyIn.cons rfl (fun K hK => ?_) AllReadyIn.nil
        go_simp
        refine hR9.mono ?_
        rintro e W6 (⟨rfl, hJ6, hk6⟩ | ⟨rfl, hJx6⟩)
        · refine hK _ _ ?_
          clear hK K
          refine wpAnyIn_ready (rs := [8]) (by kernel_rfl) (by simp) ?_
          refine AllReadyIn.cons rfl (fun K hK => ?_) ?_
          rotate_left
          · exact AllReadyIn.nil
          go_simp
          refine hK _ _ ?_
          clear hK K
          refine wpAnyIn_done (by kernel_rfl) ?_ _
          have k6 := hk6.blk kd hB
          have m1 := k6.cell
          have m2 := k6.lt
          have m3 := k6.frozen
          have k7 := k6.set0 (.string ra)
          have hj7 := abM_set hJ hJ6 0 (.string ra)
          clear b1 b2
          gi_wp2
          go_roundg (gk - 9)
          case measure => omega
          case rel => exact ⟨i + 1, by have := Hin.out; omega, by rw [HR9.out, HRV.out]; exact k7, by rw [Hsu.out]; exact hj7⟩
        · refine hK _ _ ?_
          clear hK K
          refine wpAnyIn_ready (rs := [8]) (by kernel_rfl) (by simp) ?_
          refine AllReadyIn.cons rfl (fun K hK => ?_) ?_
          rotate_left
          · exact AllReadyIn.nil
          go_simp
          refine hK _ _ ?_
          clear hK K
          refine wpAnyIn_done (by kernel_rfl) ?_ _
          gi_wp2
          refine bodyPost_ret (results_none rfl _ _ _) rfl ?_
          exact ⟨⟨_, rfl⟩, .inr ⟨_, ⟨i + 1, by have := Hin.out; omega, Hsu.out.symm⟩, hJx6⟩⟩
        
    · have hid : i = d.length / 9 := by have := Hin.out; omega
      gi_wp2
      go_end0
      exact ⟨⟨_, rfl⟩, .inl ⟨_, by rw [SgF, sigs_sgK, ← hid], hjr⟩⟩

theorem sig_stops (B : Nat) (S : Nat → Prop) (d : Bts) (w : World) (hz : d.length ≤ 8000) (kb : Blk w B 9 #[strV d]) (hB : ¬ S B) :
    SeqStopsM Fence.wide 4 Tryz.prog 129 #[.pointer (some ⟨B, 0, none⟩)] sgV (KpQ S) (fun r => r = B) (SgF d) (fun pre => ∃ k, k ≤ d.length / 9 ∧ pre = sgK d k) 1000 w :=
  fun l J Jx W hW hJ _ hY hj => sig_iter l B S d W hz (kb.ext hW) hB J Jx hJ (fun pre x W h1 h2 _ => hY pre x W h1 h2) hj

set_option maxHeartbeats 400000 in
theorem sig_any (s : Bts) (w : World) :
    Calls Tryz.prog 49 #[strV s] w fun e w' => e = .returned (.func (.func 129) #[] #[.pointer (some ⟨w.heap.size, 0, none⟩)]) ∧ Ext w w' ∧ w'.heap.size = w.heap.size + 1 ∧ Blk w' w.heap.size 9 #[strV s] := by
  obtain ⟨v, hv⟩ : ∃ v, (⟨s.toArray⟩ : ByteArray) = v := ⟨_, rfl⟩
  unfold strV
  rw [hv]
  obtain ⟨W1, hW1, hB1, hk1, hl1⟩ := box1 w #[.string v] 9
  have s1 : W1.heap.size = w.heap.size + 1 := by rw [← hW1]; simp
  have S1 := Lib.hid s1
  clear s1 hv
  go_enter Tryz.func49, Tryz.ntmps49
  go_wp2
  go_ret
  exact ⟨rfl, hB1, S1.out, hk1⟩


/-- A signature with a tag of 8 bytes. -/
abbrev Sg8 := { x : Sg // x.2.length = 8 }
def sg8V (x : Sg8) : Array Value := #[.agg #[.int .i64 (x.1.1.toNat : Int), strV x.1.2]]
def un8 (l : List Sg8) : List Sg := l.map (·.1)
theorem un8_snoc (l : List Sg8) (x : Sg8) : un8 (l ++ [x]) = un8 l ++ [x.1] := by simp [un8]
theorem un8_len (l : List Sg8) : (un8 l).length = l.length := by simp [un8]
theorem un8_8 (l : List Sg8) : ∀ x ∈ un8 l, x.2.length = 8 := by
  intro x hx
  obtain ⟨y, _, rfl⟩ := List.mem_map.1 hx
  exact y.2
def Sg8F (d : Bts) (ys : List Sg8) : Prop := un8 ys = sigs d
theorem sig8_stops (B : Nat) (S : Nat → Prop) (d : Bts) (w : World) (hz : d.length ≤ 8000) (kb : Blk w B 9 #[strV d]) (hB : ¬ S B) :
    SeqStopsM Fence.wide 4 Tryz.prog 129 #[.pointer (some ⟨B, 0, none⟩)] sg8V (KpQ S) (fun r => r = B) (Sg8F d) (fun _ => True) 1000 w := by
  intro l J Jx W hW hJ _ hY hj
  refine (sig_iter l B S d W hz (kb.ext hW) hB (fun pre W => ∃ ys, un8 ys = pre ∧ J ys W) (fun pre W => ∃ ys, un8 ys = pre ∧ Jx ys W) ?_ ?_ ⟨[], rfl, hj⟩).mono ?_
  · intro s A C row ⟨ys, h1, h2⟩ hg hr
    exact ⟨ys, h1, hJ ys A C row h2 hg hr⟩
  · rintro pre x W1 ⟨ys, rfl, h2⟩ hl h8
    obtain ⟨fn, tmps, assign, body, hy, hR⟩ := hY ys ⟨x, h8⟩ W1 h2 (by rw [un8_len] at hl; exact hl)
    refine ⟨fn, tmps, assign, body, hy, hR.mono ?_⟩
    rintro e W' (⟨h3, h4, h5⟩ | ⟨h3, h4⟩)
    · exact .inl ⟨h3, ⟨_, un8_snoc _ _, h4⟩, h5⟩
    · exact .inr ⟨h3, _, un8_snoc _ _, h4⟩
  · rintro e W' ⟨hv, (⟨xs, h1, ys, h2, h3⟩ | ⟨pre, _, ys, _, h3⟩)⟩
    · exact ⟨hv, .inl ⟨ys, h2.trans h1, h3⟩⟩
    · exact ⟨hv, .inr ⟨ys, trivial, h3⟩⟩

end Go.Proofs.YtemkpimngbbpkaaGreat

/- Security: Verify. · Security: Protect, where it refuses at once. -/
import Derived.Test.YtemkpimngbbpkaaGreatTopR41
import Derived.Test.YtemkpimngbbpkaaGreatTopR42
namespace Go.Proofs.YtemkpimngbbpkaaGreat
set_option linter.unusedVariables false
set_option linter.unusedSimpArgs false
set_option linter.unusedVariables false
set_option linter.unusedSimpArgs false
open Go.RowKit Go.Shelf
attribute [local go_sem] Oper.semAt_some

theorem str_ne {a b : Bts} (h : a ≠ b) {x y : ByteArray} (h1 : (⟨a.toArray⟩ : ByteArray) = x) (h2 : (⟨b.toArray⟩ : ByteArray) = y) : x ≠ y := by
  subst h1 h2
  intro e
  apply h
  have := congrArg ByteArray.data e
  simpa using this

theorem ba_toList {x y : ByteArray} (h : x.toList = y.toList) : x = y := by
  rw [ByteArray.toList_eq, ByteArray.toList_eq] at h
  apply ByteArray.ext
  exact Array.toList_inj.1 h

set_option maxRecDepth 100000 in
set_option maxHeartbeats 16000000 in
theorem ver_any (b : Bu) (A : Option Addr) (cap : Nat) (node : Int) (key : Bts) (w : World) (hR : Rd EBl w A b.blocks) :
    Calls Tryz.prog 13 #[.agg (b.cells A cap), .int .i64 node, strV key] w fun e w' => e = .returned (.int .i64 (verE b node key)) ∧ Ext w w' := by
  have f1 := fun w h => all_any b A cap node key w h
  obtain ⟨v, hv⟩ : ∃ v, verE b node key = v := ⟨_, rfl⟩
  rw [hv]
  unfold verE at hv
  have HV := Lib.hid hv
  clear hv
  obtain ⟨ka, hka, -⟩ := strV_str key
  have HKA := Lib.hid hka
  rw [hka] at f1 ⊢
  obtain ⟨pa, hpa, -⟩ := strV_str b.pay
  have hcs : b.cells A cap = #[.int .i64 b.src, .int .i64 b.cr, .int .i64 b.seq, .int .i64 b.off, .int .i64 b.tot, .int .i64 b.dk, .int .i64 b.dn, .int .i64 b.life, .int .i64 b.prio, .int .i64 b.flags, .slice A b.blocks.length cap, .string pa] := by unfold Bu.cells; rw [hpa]
  have HCS := Lib.hid hcs
  rw [hcs] at f1 ⊢
  obtain ⟨W, hW, hB, hk, hlt⟩ := box1 w #[.int .i64 b.src, .int .i64 b.cr, .int .i64 b.seq, .int .i64 b.off, .int .i64 b.tot, .int .i64 b.dk, .int .i64 b.dn, .int .i64 b.life, .int .i64 b.prio, .int .i64 b.flags, .slice A b.blocks.length cap, .string pa] 29
  have hc := hk.cell
  clear hka hpa hcs
  by_cases x1 : allE b node key = 0
  case neg =>
    have HX := Lib.hid (show v = allE b node key by rw [← HV.out, if_pos x1])
    obtain ⟨u, hu⟩ : ∃ u, allE b node key = u := ⟨_, rfl⟩
    rw [hu] at f1 HX x1
    have hn0 : (u != 0) = true := by rw [bne_iff_ne]; exact x1
    clear hu x1
    go_enter Tryz.func13, Tryz.ntmps13
    go_wp2_with fail
    clear hW
    refine (f1 _ (hR.ext hB)).mono ?_
    rintro e w1 ⟨rfl, hb1⟩
    go_wp2
    go_ret
    exact ⟨by rw [HX.out]; rfl, hB.trans hb1⟩
  rw [x1] at f1
  obtain ⟨a1, a2, a3, a4⟩ := allE_ok x1
  have HV2 := Lib.hid (show (match findS (sigs b.auth.data) (nby node).toNat with | none => (7 : Int) | some t => if t = signT b node key then 0 else 22) = v by have h := HV.out; rw [if_neg (by rw [x1]; simp)] at h; exact h)
  have f2 := fun w h => find_any b A cap node w h a1 a2
  have f3 := fun w h => sign_any b A cap node key w h a1 a2 a3
  rw [HCS.out] at f2 f3
  rw [HKA.out] at f3
  have hnb := nby_toNat a2
  rw [hnb] at HV2
  cases hf : findS (sigs b.auth.data) node.toNat with
  | none =>
    rw [hf] at f2 HV2
    have HX := Lib.hid (show v = 7 from HV2.out.symm)
    simp only [fdV] at f2
    clear x1 a1 a2 a3 a4 hnb hf f3
    go_enter Tryz.func13, Tryz.ntmps13
    go_wp2_with fail
    clear hW
    refine (f1 _ (hR.ext hB)).mono ?_
    rintro e w1 ⟨rfl, hb1⟩
    have c1 := (hk.ext hb1).cell
    have l1 := (hk.ext hb1).lt
    clear hc
    go_wp2_with fail
    refine (f2 _ ((hR.ext hB).ext hb1)).mono ?_
    rintro e w2 ⟨rfl, hb2⟩
    go_wp2
    go_ret
    exact ⟨by rw [HX.out]; rfl, (hB.trans hb1).trans hb2⟩
  | some t =>
    rw [hf] at f2 HV2
    simp only [fdV] at f2
    obtain ⟨S, hS⟩ : ∃ S, signT b node key = S := ⟨_, rfl⟩
    rw [hS] at f3 HV2
    obtain ⟨ta, hta, htv, -⟩ := str_name t
    obtain ⟨sa, hsa, hsv, -⟩ := str_name S
    rw [htv] at f2
    rw [hsv] at f3
    by_cases he : t = S
    · have hee : ta = sa := by rw [← hta, ← hsa, he]
      subst hee
      have HX := Lib.hid (show v = 0 by rw [← HV2.out]; simp [he])
      clear x1 a1 a2 a3 a4 hnb hf hS hta hsa htv hsv he
      go_enter Tryz.func13, Tryz.ntmps13
      go_wp2_with fail
      clear hW
      refine (f1 _ (hR.ext hB)).mono ?_
      rintro e w1 ⟨rfl, hb1⟩
      have c1 := (hk.ext hb1).cell
      have l1 := (hk.ext hb1).lt
      clear hc
      go_wp2_with fail
      refine (f2 _ ((hR.ext hB).ext hb1)).mono ?_
      rintro e w2 ⟨rfl, hb2⟩
      have hx2 := hb1.trans hb2
      have c2 := (hk.ext hx2).cell
      have l2 := (hk.ext hx2).lt
      clear c1 l1
      go_wp2_with fail
      refine (f3 _ ((hR.ext hB).ext hx2)).mono ?_
      rintro e w3 ⟨rfl, hb3⟩
      go_wp2
      go_ret
      exact ⟨by rw [HX.out]; rfl, (hB.trans hx2).trans hb3⟩
    · have hne := str_ne he hta hsa
      have hnb2 : (ta.toList == sa.toList) = false := by rw [beq_eq_false_iff_ne]; exact fun h => hne (ba_toList h)
      have HX := Lib.hid (show v = 22 by rw [← HV2.out]; simp [he])
      clear x1 a1 a2 a3 a4 hnb hf hS hta hsa htv hsv he
      go_enter Tryz.func13, Tryz.ntmps13
      go_wp2_with fail
      clear hW
      refine (f1 _ (hR.ext hB)).mono ?_
      rintro e w1 ⟨rfl, hb1⟩
      have c1 := (hk.ext hb1).cell
      have l1 := (hk.ext hb1).lt
      clear hc
      go_wp2_with fail
      refine (f2 _ ((hR.ext hB).ext hb1)).mono ?_
      rintro e w2 ⟨rfl, hb2⟩
      have hx2 := hb1.trans hb2
      have c2 := (hk.ext hx2).cell
      have l2 := (hk.ext hx2).lt
      clear c1 l1
      go_wp2_with fail
      refine (f3 _ ((hR.ext hB).ext hx2)).mono ?_
      rintro e w3 ⟨rfl, hb3⟩
      go_wp2
      go_ret
      exact ⟨by rw [HX.out]; rfl, (hB.trans hx2).trans hb3⟩

end Go.Proofs.YtemkpimngbbpkaaGreat

namespace Go.Proofs.YtemkpimngbbpkaaGreat
set_option linter.unusedVariables false
set_option linter.unusedSimpArgs false
set_option linter.unusedVariables false
set_option linter.unusedSimpArgs false
open Go.RowKit Go.Shelf
attribute [local go_sem] Oper.semAt_some

def zeroB : Array Value := #[.int .i64 0, .int .i64 0, .int .i64 0, .int .i64 0, .int .i64 0, .int .i64 0, .int .i64 0, .int .i64 0, .int .i64 0, .int .i64 0, .slice none 0 0, .string ⟨#[]⟩]
/-- What Protect answers. -/
def ProtR (b : Bu) (node : Int) (key : Bts) (e : Ending) (w' : World) : Prop :=
  (protE b node key ≠ 0 ∧ e = .returned (.tuple #[.agg zeroB, .int .i64 (protE b node key)])) ∨
  (protE b node key = 0 ∧ ∃ A' c', e = .returned (.tuple #[.agg ((protB b node key).cells A' c'), .int .i64 0]) ∧ Rd EBl w' A' (protB b node key).blocks)
theorem zeroB_sets : arrSets #[.int .i64 0, .int .i64 0, .int .i64 0, .int .i64 0, .int .i64 0, .int .i64 0, .int .i64 0, .int .i64 0, .int .i64 0, .int .i64 0, .slice none 0 0, .string ⟨#[]⟩] 0 [.int .i64 0, .int .i64 0, .int .i64 0, .int .i64 0, .int .i64 0, .int .i64 0, .int .i64 0, .int .i64 0, .int .i64 0, .int .i64 0, .slice none 0 0, .string ⟨#[]⟩] = #[.int .i64 0, .int .i64 0, .int .i64 0, .int .i64 0, .int .i64 0, .int .i64 0, .int .i64 0, .int .i64 0, .int .i64 0, .int .i64 0, .slice none 0 0, .string ⟨#[]⟩] := by
  simp [arrSets]

set_option maxRecDepth 100000 in
set_option maxHeartbeats 16000000 in
theorem prot_early (b : Bu) (A : Option Addr) (cap : Nat) (node : Int) (key : Bts) (w : World) (hR : Rd EBl w A b.blocks) (h : allE b node key ≠ 0 ∨ (findS (sigs b.auth.data) (nby node).toNat).isSome = true) :
    Calls Tryz.prog 12 #[.agg (b.cells A cap), .int .i64 node, strV key] w fun e w' => ProtR b node key e w' ∧ Ext w w' := by
  have f1 := fun w h => all_any b A cap node key w h
  have HP := Lib.hid (show ∀ v, v ≠ 0 → protE b node key = v → ∀ w' : World, ProtR b node key (.returned (.tuple #[.agg zeroB, .int .i64 v])) w' from fun v h0 hv w' => .inl ⟨by rw [hv]; exact h0, by rw [hv]⟩)
  obtain ⟨ka, hka, -⟩ := strV_str key
  rw [hka] at f1 ⊢
  obtain ⟨pa, hpa, -⟩ := strV_str b.pay
  have hcs : b.cells A cap = #[.int .i64 b.src, .int .i64 b.cr, .int .i64 b.seq, .int .i64 b.off, .int .i64 b.tot, .int .i64 b.dk, .int .i64 b.dn, .int .i64 b.life, .int .i64 b.prio, .int .i64 b.flags, .slice A b.blocks.length cap, .string pa] := by unfold Bu.cells; rw [hpa]
  have HCS := Lib.hid hcs
  rw [hcs] at f1 ⊢
  obtain ⟨W1, hW1, hB1, hk1, hl1⟩ := box1 w #[.int .i64 b.src, .int .i64 b.cr, .int .i64 b.seq, .int .i64 b.off, .int .i64 b.tot, .int .i64 b.dk, .int .i64 b.dn, .int .i64 b.life, .int .i64 b.prio, .int .i64 b.flags, .slice A b.blocks.length cap, .string pa] 29
  obtain ⟨W2, hW2, hB2, hk2, hl2⟩ := box1 W1 #[.int .i64 node] 3
  obtain ⟨W3, hW3, hB3, hk3, hl3⟩ := box1 W2 #[.int .i64 0, .int .i64 0, .int .i64 0, .int .i64 0, .int .i64 0, .int .i64 0, .int .i64 0, .int .i64 0, .int .i64 0, .int .i64 0, .slice none 0 0, .string ⟨#[]⟩] 29
  have kb3 := (hk1.ext hB2).ext hB3
  have kn3 := hk2.ext hB3
  have c1 := kb3.cell
  have c2 := kb3.lt
  have c3 := kn3.cell
  have c4 := kn3.lt
  have hE3 := (hB1.trans hB2).trans hB3
  have y1 := hB1.size
  have y2 := hB2.size
  -- the end: the zero bundle is stored
  have fin : ∀ W, Ext W3 W → ∃ w7, W.setCells W2.heap.size 0 [.int .i64 0, .int .i64 0, .int .i64 0, .int .i64 0, .int .i64 0, .int .i64 0, .int .i64 0, .int .i64 0, .int .i64 0, .int .i64 0, .slice none 0 0, .string ⟨#[]⟩] = w7 ∧ Blk w7 W2.heap.size 29 #[.int .i64 0, .int .i64 0, .int .i64 0, .int .i64 0, .int .i64 0, .int .i64 0, .int .i64 0, .int .i64 0, .int .i64 0, .int .i64 0, .slice none 0 0, .string ⟨#[]⟩] ∧ Ext w w7 := fun W hW => by
    have hs := (hk3.ext hW).setCells_ [.int .i64 0, .int .i64 0, .int .i64 0, .int .i64 0, .int .i64 0, .int .i64 0, .int .i64 0, .int .i64 0, .int .i64 0, .int .i64 0, .slice none 0 0, .string ⟨#[]⟩] 0
    rw [zeroB_sets] at hs
    exact ⟨_, rfl, hs, ext_setCells (hE3.trans hW) (by omega) 0 _⟩
  clear hka hpa hcs
  by_cases x1 : allE b node key = 0
  case neg =>
    have HX := Lib.hid (HP.out _ x1 (show protE b node key = allE b node key by unfold protE; rw [if_pos x1]))
    obtain ⟨u, hu⟩ : ∃ u, allE b node key = u := ⟨_, rfl⟩
    rw [hu] at f1 HX x1
    have hn0 : (u != 0) = true := by rw [bne_iff_ne]; exact x1
    clear hu x1 h HP
    go_enter Tryz.func12, Tryz.ntmps12
    go_wp2_with fail
    clear hW1 hW2 hW3
    refine (f1 _ (hR.ext hE3)).mono ?_
    rintro e w4 ⟨rfl, hb4⟩
    have k4 := hk3.ext hb4
    have d1 := k4.cell
    have d2 := k4.lt
    have d3 := k4.frozen
    obtain ⟨w7, hw7, hz7, hE7⟩ := fin w4 hb4
    clear c1 c2 c3 c4 fin
    go_wp2
    simp only [World.setCells, Nat.zero_add, Nat.reduceAdd] at hw7
    rw [hw7]
    have hc7 := hz7.cell
    refine bodyPost_ret (v := .tuple #[.agg zeroB, .int .i64 u]) (by rw [results_cell_tmp rfl]; simp [asAddr, Result.andThen, hc7, go_sem, zeroB]) rfl ?_
    exact ⟨HX.out _, hE7⟩
  have hfs : (findS (sigs b.auth.data) (nby node).toNat).isSome = true := h.resolve_left (fun h => h x1)
  have HX := Lib.hid (HP.out 6 (by omega) (show protE b node key = 6 by unfold protE; rw [if_neg (fun h => h x1), if_pos hfs]))
  rw [x1] at f1
  obtain ⟨a1, a2, a3, a4⟩ := allE_ok x1
  have f2 := fun w h => find_any b A cap node w h a1 a2
  rw [HCS.out] at f2
  rw [nby_toNat a2] at hfs
  cases hf : findS (sigs b.auth.data) node.toNat with
  | none => rw [hf] at hfs; cases hfs
  | some t =>
    rw [hf] at f2
    simp only [fdV] at f2
    obtain ⟨ta, hta, -⟩ := strV_str t
    rw [hta] at f2
    clear x1 h HP a1 a2 a3 a4 hf hfs hta
    go_enter Tryz.func12, Tryz.ntmps12
    go_wp2_with fail
    clear hW1 hW2 hW3
    refine (f1 _ (hR.ext hE3)).mono ?_
    rintro e w4 ⟨rfl, hb4⟩
    have e1 := (kb3.ext hb4).cell
    have e2 := (kb3.ext hb4).lt
    have e3 := (kn3.ext hb4).cell
    have e4 := (kn3.ext hb4).lt
    clear c1 c2 c3 c4
    go_wp2_with fail
    refine (f2 _ ((hR.ext hE3).ext hb4)).mono ?_
    rintro e w5 ⟨rfl, hb5⟩
    have hx5 := hb4.trans hb5
    have k4 := hk3.ext hx5
    have d1 := k4.cell
    have d2 := k4.lt
    have d3 := k4.frozen
    obtain ⟨w7, hw7, hz7, hE7⟩ := fin w5 hx5
    clear e1 e2 e3 e4 fin
    go_wp2
    simp only [World.setCells, Nat.zero_add, Nat.reduceAdd] at hw7
    rw [hw7]
    have hc7 := hz7.cell
    refine bodyPost_ret (v := .tuple #[.agg zeroB, .int .i64 6]) (by rw [results_cell_tmp rfl]; simp [asAddr, Result.andThen, hc7, go_sem, zeroB]) rfl ?_
    exact ⟨HX.out _, hE7⟩

end Go.Proofs.YtemkpimngbbpkaaGreat

/- Security: sign. · Security: Verify. · Security: the closure that puts a signature behind others. · Security: Protect, where it refuses at once. -/
import Derived.Test.YtemkpimngbbpkaaGreatQt42
import Derived.Test.YtemkpimngbbpkaaGreatQt43
namespace Go.Proofs.YtemkpimngbbpkaaGreat
set_option linter.unusedVariables false
set_option linter.unusedSimpArgs false
section
open Go.RowKit Go.Shelf
attribute [local go_sem] Oper.semAt_some
theorem buEnc_len {b : Bu} (hv : buE b = 0) : b.enc.length <= 20000 := by
 have hbl := (buE_all hv).2.2.2.2.2.1
 have hpl := bu_pay hv
 have le := encAll_len hbl
 have lp := vtext_len b.pay
 have l0 := vtext_len [77, 66, 49]
 have l1 := flatMap_len_le (l := b.nums) (f := vint) (m := 10) (fun x _ => vint_len x)
 have hnl : b.nums.length = 10 := rfl
 have ls := sealB_len (vtext [77, 66, 49] ++ b.nums.flatMap vint ++ encAll b.blocks ++ vtext b.pay)
 unfold Bu.enc
 simp only [List.length_append] at ls ⊢
 simp only [List.length_cons, List.length_nil] at l0
 omega
set_option maxRecDepth 100000 in
set_option maxHeartbeats 16000000 in
theorem sign_any (b : Bu) (A : Option Addr) (cap : Nat) (node : Int) (key : Bts) (w : World) (hR : Rd EBl w A b.blocks) (hv : buE b = 0) (hn : 0 <= node /\ node < 16) (hk : key.length = 16) :
 Calls Tryz.prog 46 #[.agg (b.cells A cap), .int .i64 node, strV key] w fun e w' => e = .returned (.tuple #[strV (signT b node key), .int .i64 0]) /\ Ext w w' := by
 have fs := fun w h => signed_any b A cap w h hv
 have hel := buEnc_len (bare_valid hv)
 have HS := Lib.hid (show signT b node key = tagB key (chainB [[nby node], b.bare.enc]) from rfl)
 obtain ⟨E, hE⟩ : ∃ E, b.bare.enc = E := ⟨_, rfl⟩
 rw [hE] at fs hel HS
 have hq1 : IntKind.u8.wrap node = ((nby node).toNat : Int) := by rw [nby_toNat hn, IntKind.wrap_u8']; omega
 have hq2 : node % 256 = ((nby node).toNat : Int) := by rw [nby_toNat hn]; omega
 obtain ⟨nb, hnb⟩ : ∃ nb, nby node = nb := ⟨_, rfl⟩
 rw [hnb] at hq1 hq2 HS
 have hcl : (chainB [[nb], E]).length <= 65536 := by
  unfold chainB
  simp only [List.flatMap_cons, List.flatMap_nil, List.length_append, wby_length, List.length_cons, List.length_nil]
  omega
 have fc := fun Z cc w h => chain_any key Z cc [[nb], E] w hk h hcl (by simp)
 simp only [List.length_cons, List.length_nil, Nat.zero_add, Nat.reduceAdd] at fc
 obtain ⟨na, hna, hnv, -⟩ := str_name [nb]
 obtain ⟨ea, hea, hev, -⟩ := str_name E
 have cs : ∀ w g, Blk w g 5 #[.int .u8 (nb.toNat : Int)] -> (convert 22 9 (.slice (some ⟨g, 0, none⟩) 1 1)).run Tryz.prog w = .ok (.string na) w := fun w g h => by
  have := conv_str (P := Tryz.prog) w 22 9 5 (some ⟨g, 0, none⟩) 1 [nb] Tryz.underlying22 Tryz.underlying5 Tryz.underlying9 (rd_blk h)
  rw [hnv] at this
  exact this
 have rdS : ∀ w g, Blk w g 9 #[.string na, .string ea] -> Rd EStr w (some ⟨g, 0, none⟩) [[nb], E] := fun w g h => by
  refine rd_blk (e := 9) ?_
  have : (EStr.all [[nb], E]).toArray = #[.string na, .string ea] := by
   show #[strV [nb], strV E] = _
   rw [hnv, hev]
  rw [this]
  exact h
 rw [hev] at fs
 obtain ⟨sv, hsv⟩ : ∃ sv, strV (tagB key (chainB [[nb], E])) = sv := ⟨_, rfl⟩
 rw [hsv] at fc
 have HV := Lib.hid (show strV (signT b node key) = sv by rw [HS.out, hsv])
 obtain ⟨ka, hka, -⟩ := strV_str key
 rw [hka] at fc ⊢
 rw [HV.out]
 obtain ⟨pa, hpa, -⟩ := strV_str b.pay
 have hcs : b.cells A cap = #[.int .i64 b.src, .int .i64 b.cr, .int .i64 b.seq, .int .i64 b.off, .int .i64 b.tot, .int .i64 b.dk, .int .i64 b.dn, .int .i64 b.life, .int .i64 b.prio, .int .i64 b.flags, .slice A b.blocks.length cap, .string pa] := by unfold Bu.cells; rw [hpa]
 rw [hcs] at fs ⊢
 obtain ⟨W, hW, hB, hkk, hlt⟩ := box1 w #[.int .i64 b.src, .int .i64 b.cr, .int .i64 b.seq, .int .i64 b.off, .int .i64 b.tot, .int .i64 b.dk, .int .i64 b.dn, .int .i64 b.life, .int .i64 b.prio, .int .i64 b.flags, .slice A b.blocks.length cap, .string pa] 29
 have hc := hkk.cell
 have hRW := hR.ext hB
 clear hE hel hnb hcl hna hnv hea hev hsv hka hpa hcs hk hv
 go_enter Tryz.func46, Tryz.ntmps46
 go_wp2_with fail
 clear hW
 have near : ∀ w', Ext W w' -> Ext W w' /\ ∀ b o, b < W.heap.size -> w'.cell? ⟨b, o, none⟩ = W.cell? ⟨b, o, none⟩ := fun w' h => ⟨h, fun b o hb => h.cell hb⟩
 refine wp_region_P (fun _ => false) (fun w' => Ext W w' /\ ∀ b o, b < W.heap.size -> w'.cell? ⟨b, o, none⟩ = W.cell? ⟨b, o, none⟩) (by kernel_rfl) (near _ (Ext.refl W).drew) (fun _ => ?_)
 refine pT 0 (v := ?_) rfl (fun _ _ _ h => h) (by rfl) ?_ ?_
 rotate_left
 ·intro w'; go_simp; first | done | with_reducible rfl
 try simp only [Act.put, sp1]
 refine pT 1 (v := ?_) rfl (fun _ _ _ h => h) (by rfl) ?_ ?_
 rotate_left
 ·intro w'; go_simp; first | done | with_reducible rfl
 try simp only [Act.put, sp1]
 refine pT 2 (v := ?_) rfl (fun _ _ _ h => h) (by rfl) ?_ ?_
 rotate_left
 ·intro w'; go_simp; first | done | with_reducible rfl
 try simp only [Act.put, sp1]
 refine pK 5 (v := ?_) rfl (fun _ _ _ h => h) (by rfl) ?_ (by assumption) ?_
 rotate_left
 ·intro w' hw'
  (try have hC := hw'.2)
  (try have hC9 := hw'.1)
  go_simp
  first | done | with_reducible rfl
 try simp only [Act.put, sp1]
 refine wpAnyP_ready (rs := [3, 6]) (by kernel_rfl) (by simp) ?_
 refine AllReadyP.cons rfl (fun K hK => ?_) (AllReadyP.cons rfl (fun K hK => ?_) AllReadyP.nil)
 ·obtain ⟨X1, hX1, hBX1, hkX1, hlX1⟩ := box1 W.drew #[.int .u8 (nb.toNat : Int)] 5
  go_simp
  refine hK.out _ _ (fun _ _ => near _ (((Ext.refl W).drew).trans hBX1)) ?_
  clear hK K hX1
  refine wpAnyP_ready (rs := [4, 6]) (by kernel_rfl) (by simp) ?_
  refine AllReadyP.cons rfl (fun K hK => ?_) (AllReadyP.cons rfl (fun K hK => ?_) AllReadyP.nil)
  ·have q2 := cs X1 W.heap.size hkX1
   go_simp
   refine hK.out _ _ (fun _ h => h) ?_
   clear hK K q2
   refine pO 6 rfl (fun K hK => ?_)
   go_simp
   refine (fs X1 (hRW.ext (((Ext.refl W).drew).trans hBX1))).mono ?_
   rintro e Y3 ⟨rfl, hbY3⟩
   refine hK.out _ _ (fun _ _ => near _ ((((Ext.refl W).drew).trans hBX1).trans hbY3)) ?_
   clear hK K
   obtain ⟨V4, hV4, hBV4, hkV4, hlV4⟩ := box1 Y3 #[.string na, .string ea] 9
   refine pO 7 rfl (fun K hK => ?_)
   go_simp
   refine hK.out _ _ (fun _ _ => near _ (((((Ext.refl W).drew).trans hBX1).trans hbY3).trans hBV4)) ?_
   clear hK K hV4
   refine pO 8 rfl (fun K hK => ?_)
   go_simp
   refine (fc (some ⟨Y3.heap.size, 0, none⟩) 2 V4 (rdS _ _ hkV4)).mono ?_
   rintro e Z4 ⟨rfl, hbZ4⟩
   refine hK.out _ _ (fun _ _ => near _ ((((((Ext.refl W).drew).trans hBX1).trans hbY3).trans hBV4).trans hbZ4)) ?_
   clear hK K
   refine pT 9 (v := ?_) rfl (fun _ _ _ h => h) (by rfl) ?_ ?_
   rotate_left
   ·intro w'; go_simp; first | done | with_reducible rfl
   try simp only [Act.put, sp1]
   refine pT 10 (v := ?_) rfl (fun _ _ _ h => h) (by rfl) ?_ ?_
   rotate_left
   ·intro w'; go_simp; first | done | with_reducible rfl
   try simp only [Act.put, sp1]
   refine pT 11 (v := ?_) rfl (fun _ _ _ h => h) (by rfl) ?_ ?_
   rotate_left
   ·intro w'; go_simp; first | done | with_reducible rfl
   try simp only [Act.put, sp1]
   refine pT 12 (v := ?_) rfl (fun _ _ _ h => h) (by rfl) ?_ ?_
   rotate_left
   ·intro w'; go_simp; first | done | with_reducible rfl
   try simp only [Act.put, sp1]
   simp only [List.getElem_toArray, List.getElem_cons_succ, List.getElem_cons_zero, Act.put, sp1]
   refine wpAnyP_done (by kernel_rfl) ?_ _
   go_wp2
   go_ret2
   exact ⟨rfl, hB.trans ((((((Ext.refl W).drew).trans hBX1).trans hbY3).trans hBV4).trans hbZ4)⟩
  ·go_simp
   refine (fs X1 (hRW.ext (((Ext.refl W).drew).trans hBX1))).mono ?_
   rintro e Y5 ⟨rfl, hbY5⟩
   refine hK.out _ _ (fun _ _ => near _ ((((Ext.refl W).drew).trans hBX1).trans hbY5)) ?_
   clear hK K
   have hkY5 := Blk.ext hkX1 hbY5
   refine pO 4 rfl (fun K hK => ?_)
   have q6 := cs Y5 W.heap.size hkY5
   go_simp
   refine hK.out _ _ (fun _ h => h) ?_
   clear hK K q6
   obtain ⟨V7, hV7, hBV7, hkV7, hlV7⟩ := box1 Y5 #[.string na, .string ea] 9
   refine pO 7 rfl (fun K hK => ?_)
   go_simp
   refine hK.out _ _ (fun _ _ => near _ (((((Ext.refl W).drew).trans hBX1).trans hbY5).trans hBV7)) ?_
   clear hK K hV7
   refine pO 8 rfl (fun K hK => ?_)
   go_simp
   refine (fc (some ⟨Y5.heap.size, 0, none⟩) 2 V7 (rdS _ _ hkV7)).mono ?_
   rintro e Z7 ⟨rfl, hbZ7⟩
   refine hK.out _ _ (fun _ _ => near _ ((((((Ext.refl W).drew).trans hBX1).trans hbY5).trans hBV7).trans hbZ7)) ?_
   clear hK K
   refine pT 9 (v := ?_) rfl (fun _ _ _ h => h) (by rfl) ?_ ?_
   rotate_left
   ·intro w'; go_simp; first | done | with_reducible rfl
   try simp only [Act.put, sp1]
   refine pT 10 (v := ?_) rfl (fun _ _ _ h => h) (by rfl) ?_ ?_
   rotate_left
   ·intro w'; go_simp; first | done | with_reducible rfl
   try simp only [Act.put, sp1]
   refine pT 11 (v := ?_) rfl (fun _ _ _ h => h) (by rfl) ?_ ?_
   rotate_left
   ·intro w'; go_simp; first | done | with_reducible rfl
   try simp only [Act.put, sp1]
   refine pT 12 (v := ?_) rfl (fun _ _ _ h => h) (by rfl) ?_ ?_
   rotate_left
   ·intro w'; go_simp; first | done | with_reducible rfl
   try simp only [Act.put, sp1]
   simp only [List.getElem_toArray, List.getElem_cons_succ, List.getElem_cons_zero, Act.put, sp1]
   refine wpAnyP_done (by kernel_rfl) ?_ _
   go_wp2
   go_ret2
   exact ⟨rfl, hB.trans ((((((Ext.refl W).drew).trans hBX1).trans hbY5).trans hBV7).trans hbZ7)⟩
 ·go_simp
  refine (fs W.drew (hRW.ext ((Ext.refl W).drew))).mono ?_
  rintro e Y8 ⟨rfl, hbY8⟩
  refine hK.out _ _ (fun _ _ => near _ (((Ext.refl W).drew).trans hbY8)) ?_
  clear hK K
  refine pO 3 rfl (fun K hK => ?_)
  obtain ⟨X9, hX9, hBX9, hkX9, hlX9⟩ := box1 Y8 #[.int .u8 (nb.toNat : Int)] 5
  go_simp
  refine hK.out _ _ (fun _ _ => near _ ((((Ext.refl W).drew).trans hbY8).trans hBX9)) ?_
  clear hK K hX9
  refine pO 4 rfl (fun K hK => ?_)
  have q10 := cs X9 Y8.heap.size hkX9
  go_simp
  refine hK.out _ _ (fun _ h => h) ?_
  clear hK K q10
  obtain ⟨V11, hV11, hBV11, hkV11, hlV11⟩ := box1 X9 #[.string na, .string ea] 9
  refine pO 7 rfl (fun K hK => ?_)
  go_simp
  refine hK.out _ _ (fun _ _ => near _ (((((Ext.refl W).drew).trans hbY8).trans hBX9).trans hBV11)) ?_
  clear hK K hV11
  refine pO 8 rfl (fun K hK => ?_)
  go_simp
  refine (fc (some ⟨X9.heap.size, 0, none⟩) 2 V11 (rdS _ _ hkV11)).mono ?_
  rintro e Z11 ⟨rfl, hbZ11⟩
  refine hK.out _ _ (fun _ _ => near _ ((((((Ext.refl W).drew).trans hbY8).trans hBX9).trans hBV11).trans hbZ11)) ?_
  clear hK K
  refine pT 9 (v := ?_) rfl (fun _ _ _ h => h) (by rfl) ?_ ?_
  rotate_left
  ·intro w'; go_simp; first | done | with_reducible rfl
  try simp only [Act.put, sp1]
  refine pT 10 (v := ?_) rfl (fun _ _ _ h => h) (by rfl) ?_ ?_
  rotate_left
  ·intro w'; go_simp; first | done | with_reducible rfl
  try simp only [Act.put, sp1]
  refine pT 11 (v := ?_) rfl (fun _ _ _ h => h) (by rfl) ?_ ?_
  rotate_left
  ·intro w'; go_simp; first | done | with_reducible rfl
  try simp only [Act.put, sp1]
  refine pT 12 (v := ?_) rfl (fun _ _ _ h => h) (by rfl) ?_ ?_
  rotate_left
  ·intro w'; go_simp; first | done | with_reducible rfl
  try simp only [Act.put, sp1]
  simp only [List.getElem_toArray, List.getElem_cons_succ, List.getElem_cons_zero, Act.put, sp1]
  refine wpAnyP_done (by kernel_rfl) ?_ _
  go_wp2
  go_ret2
  exact ⟨rfl, hB.trans ((((((Ext.refl W).drew).trans hbY8).trans hBX9).trans hBV11).trans hbZ11)⟩
end
section
open Go.RowKit Go.Shelf
attribute [local go_sem] Oper.semAt_some
theorem str_ne {a b : Bts} (h : a ≠ b) {x y : ByteArray} (h1 : (⟨a.toArray⟩ : ByteArray) = x) (h2 : (⟨b.toArray⟩ : ByteArray) = y) : x ≠ y := by
 subst h1 h2
 intro e
 apply h
 have := congrArg ByteArray.data e
 simpa using this
theorem ba_toList {x y : ByteArray} (h : x.toList = y.toList) : x = y := by
 rw [ByteArray.toList_eq, ByteArray.toList_eq] at h
 apply ByteArray.ext
 exact Array.toList_inj.1 h
set_option maxRecDepth 100000 in
set_option maxHeartbeats 16000000 in
theorem ver_any (b : Bu) (A : Option Addr) (cap : Nat) (node : Int) (key : Bts) (w : World) (hR : Rd EBl w A b.blocks) :
 Calls Tryz.prog 13 #[.agg (b.cells A cap), .int .i64 node, strV key] w fun e w' => e = .returned (.int .i64 (verE b node key)) /\ Ext w w' := by
 have f1 := fun w h => all_any b A cap node key w h
 obtain ⟨v, hv⟩ : ∃ v, verE b node key = v := ⟨_, rfl⟩
 rw [hv]
 unfold verE at hv
 have HV := Lib.hid hv
 clear hv
 obtain ⟨ka, hka, -⟩ := strV_str key
 have HKA := Lib.hid hka
 rw [hka] at f1 ⊢
 obtain ⟨pa, hpa, -⟩ := strV_str b.pay
 have hcs : b.cells A cap = #[.int .i64 b.src, .int .i64 b.cr, .int .i64 b.seq, .int .i64 b.off, .int .i64 b.tot, .int .i64 b.dk, .int .i64 b.dn, .int .i64 b.life, .int .i64 b.prio, .int .i64 b.flags, .slice A b.blocks.length cap, .string pa] := by unfold Bu.cells; rw [hpa]
 have HCS := Lib.hid hcs
 rw [hcs] at f1 ⊢
 obtain ⟨W, hW, hB, hk, hlt⟩ := box1 w #[.int .i64 b.src, .int .i64 b.cr, .int .i64 b.seq, .int .i64 b.off, .int .i64 b.tot, .int .i64 b.dk, .int .i64 b.dn, .int .i64 b.life, .int .i64 b.prio, .int .i64 b.flags, .slice A b.blocks.length cap, .string pa] 29
 have hc := hk.cell
 clear hka hpa hcs
 by_cases x1 : allE b node key = 0
 case neg =>
  have HX := Lib.hid (show v = allE b node key by rw [<- HV.out, if_pos x1])
  obtain ⟨u, hu⟩ : ∃ u, allE b node key = u := ⟨_, rfl⟩
  rw [hu] at f1 HX x1
  have hn0 : (u != 0) = true := by rw [bne_iff_ne]; exact x1
  clear hu x1
  go_enter Tryz.func13, Tryz.ntmps13
  go_wp2_with fail
  clear hW
  refine (f1 _ (hR.ext hB)).mono ?_
  rintro e w1 ⟨rfl, hb1⟩
  go_wp2
  go_ret
  exact ⟨by rw [HX.out]; rfl, hB.trans hb1⟩
 rw [x1] at f1
 obtain ⟨a1, a2, a3, a4⟩ := allE_ok x1
 have HV2 := Lib.hid (show (match findS (sigs b.auth.data) (nby node).toNat with | none => (7 : Int) | some t => if t = signT b node key then 0 else 22) = v by have h := HV.out; rw [if_neg (by rw [x1]; simp)] at h; exact h)
 have f2 := fun w h => find_any b A cap node w h a1 a2
 have f3 := fun w h => sign_any b A cap node key w h a1 a2 a3
 rw [HCS.out] at f2 f3
 rw [HKA.out] at f3
 have hnb := nby_toNat a2
 rw [hnb] at HV2
 cases hf : findS (sigs b.auth.data) node.toNat with
 | none =>
   rw [hf] at f2 HV2
   have HX := Lib.hid (show v = 7 from HV2.out.symm)
   simp only [fdV] at f2
   clear x1 a1 a2 a3 a4 hnb hf f3
   go_enter Tryz.func13, Tryz.ntmps13
   go_wp2_with fail
   clear hW
   refine (f1 _ (hR.ext hB)).mono ?_
   rintro e w1 ⟨rfl, hb1⟩
   have c1 := (hk.ext hb1).cell
   have l1 := (hk.ext hb1).lt
   clear hc
   go_wp2_with fail
   refine (f2 _ ((hR.ext hB).ext hb1)).mono ?_
   rintro e w2 ⟨rfl, hb2⟩
   go_wp2
   go_ret
   exact ⟨by rw [HX.out]; rfl, (hB.trans hb1).trans hb2⟩
 | some t =>
   rw [hf] at f2 HV2
   simp only [fdV] at f2
   obtain ⟨S, hS⟩ : ∃ S, signT b node key = S := ⟨_, rfl⟩
   rw [hS] at f3 HV2
   obtain ⟨ta, hta, htv, -⟩ := str_name t
   obtain ⟨sa, hsa, hsv, -⟩ := str_name S
   rw [htv] at f2
   rw [hsv] at f3
   by_cases he : t = S
   ·have hee : ta = sa := by rw [<- hta, <- hsa, he]
    subst hee
    have HX := Lib.hid (show v = 0 by rw [<- HV2.out]; simp [he])
    clear x1 a1 a2 a3 a4 hnb hf hS hta hsa htv hsv he
    go_enter Tryz.func13, Tryz.ntmps13
    go_wp2_with fail
    clear hW
    refine (f1 _ (hR.ext hB)).mono ?_
    rintro e w1 ⟨rfl, hb1⟩
    have c1 := (hk.ext hb1).cell
    have l1 := (hk.ext hb1).lt
    clear hc
    go_wp2_with fail
    refine (f2 _ ((hR.ext hB).ext hb1)).mono ?_
    rintro e w2 ⟨rfl, hb2⟩
    have hx2 := hb1.trans hb2
    have c2 := (hk.ext hx2).cell
    have l2 := (hk.ext hx2).lt
    clear c1 l1
    go_wp2_with fail
    refine (f3 _ ((hR.ext hB).ext hx2)).mono ?_
    rintro e w3 ⟨rfl, hb3⟩
    go_wp2
    go_ret
    exact ⟨by rw [HX.out]; rfl, (hB.trans hx2).trans hb3⟩
   ·have hne := str_ne he hta hsa
    have hnb2 : (ta.toList == sa.toList) = false := by rw [beq_eq_false_iff_ne]; exact fun h => hne (ba_toList h)
    have HX := Lib.hid (show v = 22 by rw [<- HV2.out]; simp [he])
    clear x1 a1 a2 a3 a4 hnb hf hS hta hsa htv hsv he
    go_enter Tryz.func13, Tryz.ntmps13
    go_wp2_with fail
    clear hW
    refine (f1 _ (hR.ext hB)).mono ?_
    rintro e w1 ⟨rfl, hb1⟩
    have c1 := (hk.ext hb1).cell
    have l1 := (hk.ext hb1).lt
    clear hc
    go_wp2_with fail
    refine (f2 _ ((hR.ext hB).ext hb1)).mono ?_
    rintro e w2 ⟨rfl, hb2⟩
    have hx2 := hb1.trans hb2
    have c2 := (hk.ext hx2).cell
    have l2 := (hk.ext hx2).lt
    clear c1 l1
    go_wp2_with fail
    refine (f3 _ ((hR.ext hB).ext hx2)).mono ?_
    rintro e w3 ⟨rfl, hb3⟩
    go_wp2
    go_ret
    exact ⟨by rw [HX.out]; rfl, (hB.trans hx2).trans hb3⟩
end
section
open Go.RowKit Go.Shelf
attribute [local go_sem] Oper.semAt_some
set_option maxRecDepth 100000 in
set_option maxHeartbeats 8000000 in
theorem putc_any (g : Nat) (x : Sg) (cur : Bts) (w : World) (hg : Blk w g 9 #[strV cur]) (hx : x.2.length = 8) (hc : cur.length <= 100000) :
 Calls Tryz.prog 48 #[.agg #[.int .i64 (x.1.toNat : Int), strV x.2], .pointer (some ⟨g, 0, none⟩)] w fun e w' => (∃ r, e = .returned r) /\ Blk w' g 9 #[strV (cur ++ (x.1 :: x.2))] /\ w.grownBy w' (some g) := by
 obtain ⟨nb, tg⟩ := x
 dsimp only at hx ⊢
 have hq1 : IntKind.u8.wrap (nb.toNat : Int) = (nb.toNat : Int) := by have := nb.toNat_lt; rw [IntKind.wrap_u8']; omega
 have hq2 : (nb.toNat : Int) % 256 = (nb.toNat : Int) := by have := nb.toNat_lt; omega
 obtain ⟨na, hna, hnv, hns⟩ := str_name [nb]
 obtain ⟨ta, hta, htv, hts⟩ := str_name tg
 obtain ⟨ua, hua, huv, hus⟩ := str_name ([nb] ++ tg)
 obtain ⟨ca, hca, hcv, hcs⟩ := str_name cur
 obtain ⟨va, hva, hvv, -⟩ := str_name (cur ++ ([nb] ++ tg))
 have e1 := str_cat [nb] tg hna hta hua
 have e2 := str_cat cur ([nb] ++ tg) hca hua hva
 simp only [List.length_append, List.length_cons, List.length_nil] at hns hus
 have z1 : na.size + ta.size <= 9223372036854775807 := by omega
 have z2 : ca.size + ua.size <= 9223372036854775807 := by omega
 have HVV := Lib.hid (show strV (cur ++ (nb :: tg)) = .string va from hvv)
 obtain ⟨W1, hW1, hB1, hk1, hl1⟩ := box1 w #[.int .i64 (nb.toNat : Int), strV tg] 131
 obtain ⟨W2, hW2, hB2, hk2, hl2⟩ := box1 W1 #[.int .u8 (nb.toNat : Int)] 5
 have cs := conv_str (P := Tryz.prog) W2 22 9 5 (some ⟨W1.heap.size, 0, none⟩) 1 [nb] Tryz.underlying22 Tryz.underlying5 Tryz.underlying9 (rd_blk hk2)
 simp only [List.length_cons, List.length_nil, Nat.zero_add, Nat.reduceAdd] at cs
 rw [hnv] at cs
 rw [hcv] at hg
 rw [htv] at hW1 hk1 ⊢
 have g1 := hg.ext hB1
 have c1 := g1.cell
 have c2 := g1.lt
 have c3 := g1.frozen
 have d1 := hk1.cell
 have g2 := g1.ext hB2
 have f1 := g2.cell
 have f2 := g2.lt
 have f3 := g2.frozen
 have k2 := hk1.ext hB2
 have m1 := k2.cell
 have m2 := k2.lt
 have hE := hB1.trans hB2
 clear hna hta hua hca hva hnv htv huv hcv hvv hns hus hts hcs
 go_enter Tryz.func48, Tryz.ntmps48
 go_wp2
 go_end0
 exact ⟨⟨_, rfl⟩, by rw [HVV.out]; exact g2.set0 _, grown_setCell (grown_ext (World.grownBy.refl w (some g)) hE) 0 _⟩
end
section
open Go.RowKit Go.Shelf
attribute [local go_sem] Oper.semAt_some
def zeroB : Array Value := #[.int .i64 0, .int .i64 0, .int .i64 0, .int .i64 0, .int .i64 0, .int .i64 0, .int .i64 0, .int .i64 0, .int .i64 0, .int .i64 0, .slice none 0 0, .string ⟨#[]⟩]
def ProtR (b : Bu) (node : Int) (key : Bts) (e : Ending) (w' : World) : Prop :=
 (protE b node key ≠ 0 /\ e = .returned (.tuple #[.agg zeroB, .int .i64 (protE b node key)])) ∨
 (protE b node key = 0 /\ ∃ A' c', e = .returned (.tuple #[.agg ((protB b node key).cells A' c'), .int .i64 0]) /\ Rd EBl w' A' (protB b node key).blocks)
theorem zeroB_sets : arrSets #[.int .i64 0, .int .i64 0, .int .i64 0, .int .i64 0, .int .i64 0, .int .i64 0, .int .i64 0, .int .i64 0, .int .i64 0, .int .i64 0, .slice none 0 0, .string ⟨#[]⟩] 0 [.int .i64 0, .int .i64 0, .int .i64 0, .int .i64 0, .int .i64 0, .int .i64 0, .int .i64 0, .int .i64 0, .int .i64 0, .int .i64 0, .slice none 0 0, .string ⟨#[]⟩] = #[.int .i64 0, .int .i64 0, .int .i64 0, .int .i64 0, .int .i64 0, .int .i64 0, .int .i64 0, .int .i64 0, .int .i64 0, .int .i64 0, .slice none 0 0, .string ⟨#[]⟩] := by
 simp [arrSets]
set_option maxRecDepth 100000 in
set_option maxHeartbeats 16000000 in
theorem prot_early (b : Bu) (A : Option Addr) (cap : Nat) (node : Int) (key : Bts) (w : World) (hR : Rd EBl w A b.blocks) (h : allE b node key ≠ 0 ∨ (findS (sigs b.auth.data) (nby node).toNat).isSome = true) :
 Calls Tryz.prog 12 #[.agg (b.cells A cap), .int .i64 node, strV key] w fun e w' => ProtR b node key e w' /\ Ext w w' := by
 have f1 := fun w h => all_any b A cap node key w h
 have HP := Lib.hid (show ∀ v, v ≠ 0 -> protE b node key = v -> ∀ w' : World, ProtR b node key (.returned (.tuple #[.agg zeroB, .int .i64 v])) w' from fun v h0 hv w' => .inl ⟨by rw [hv]; exact h0, by rw [hv]⟩)
 obtain ⟨ka, hka, -⟩ := strV_str key
 rw [hka] at f1 ⊢
 obtain ⟨pa, hpa, -⟩ := strV_str b.pay
 have hcs : b.cells A cap = #[.int .i64 b.src, .int .i64 b.cr, .int .i64 b.seq, .int .i64 b.off, .int .i64 b.tot, .int .i64 b.dk, .int .i64 b.dn, .int .i64 b.life, .int .i64 b.prio, .int .i64 b.flags, .slice A b.blocks.length cap, .string pa] := by unfold Bu.cells; rw [hpa]
 have HCS := Lib.hid hcs
 rw [hcs] at f1 ⊢
 obtain ⟨W1, hW1, hB1, hk1, hl1⟩ := box1 w #[.int .i64 b.src, .int .i64 b.cr, .int .i64 b.seq, .int .i64 b.off, .int .i64 b.tot, .int .i64 b.dk, .int .i64 b.dn, .int .i64 b.life, .int .i64 b.prio, .int .i64 b.flags, .slice A b.blocks.length cap, .string pa] 29
 obtain ⟨W2, hW2, hB2, hk2, hl2⟩ := box1 W1 #[.int .i64 node] 3
 obtain ⟨W3, hW3, hB3, hk3, hl3⟩ := box1 W2 #[.int .i64 0, .int .i64 0, .int .i64 0, .int .i64 0, .int .i64 0, .int .i64 0, .int .i64 0, .int .i64 0, .int .i64 0, .int .i64 0, .slice none 0 0, .string ⟨#[]⟩] 29
 have kb3 := (hk1.ext hB2).ext hB3
 have kn3 := hk2.ext hB3
 have c1 := kb3.cell
 have c2 := kb3.lt
 have c3 := kn3.cell
 have c4 := kn3.lt
 have hE3 := (hB1.trans hB2).trans hB3
 have y1 := hB1.size
 have y2 := hB2.size
 -- the end: the zero bundle is stored
 have fin : ∀ W, Ext W3 W -> ∃ w7, W.setCells W2.heap.size 0 [.int .i64 0, .int .i64 0, .int .i64 0, .int .i64 0, .int .i64 0, .int .i64 0, .int .i64 0, .int .i64 0, .int .i64 0, .int .i64 0, .slice none 0 0, .string ⟨#[]⟩] = w7 /\ Blk w7 W2.heap.size 29 #[.int .i64 0, .int .i64 0, .int .i64 0, .int .i64 0, .int .i64 0, .int .i64 0, .int .i64 0, .int .i64 0, .int .i64 0, .int .i64 0, .slice none 0 0, .string ⟨#[]⟩] /\ Ext w w7 := fun W hW => by
  have hs := (hk3.ext hW).setCells_ [.int .i64 0, .int .i64 0, .int .i64 0, .int .i64 0, .int .i64 0, .int .i64 0, .int .i64 0, .int .i64 0, .int .i64 0, .int .i64 0, .slice none 0 0, .string ⟨#[]⟩] 0
  rw [zeroB_sets] at hs
  exact ⟨_, rfl, hs, ext_setCells (hE3.trans hW) (by omega) 0 _⟩
 clear hka hpa hcs
 by_cases x1 : allE b node key = 0
 case neg =>
  have HX := Lib.hid (HP.out _ x1 (show protE b node key = allE b node key by unfold protE; rw [if_pos x1]))
  obtain ⟨u, hu⟩ : ∃ u, allE b node key = u := ⟨_, rfl⟩
  rw [hu] at f1 HX x1
  have hn0 : (u != 0) = true := by rw [bne_iff_ne]; exact x1
  clear hu x1 h HP
  go_enter Tryz.func12, Tryz.ntmps12
  go_wp2_with fail
  clear hW1 hW2 hW3
  refine (f1 _ (hR.ext hE3)).mono ?_
  rintro e w4 ⟨rfl, hb4⟩
  have k4 := hk3.ext hb4
  have d1 := k4.cell
  have d2 := k4.lt
  have d3 := k4.frozen
  obtain ⟨w7, hw7, hz7, hE7⟩ := fin w4 hb4
  clear c1 c2 c3 c4 fin
  go_wp2
  simp only [World.setCells, Nat.zero_add, Nat.reduceAdd] at hw7
  rw [hw7]
  have hc7 := hz7.cell
  refine bodyPost_ret (v := .tuple #[.agg zeroB, .int .i64 u]) (by rw [results_cell_tmp rfl]; simp [asAddr, Result.andThen, hc7, go_sem, zeroB]) rfl ?_
  exact ⟨HX.out _, hE7⟩
 have hfs : (findS (sigs b.auth.data) (nby node).toNat).isSome = true := h.resolve_left (fun h => h x1)
 have HX := Lib.hid (HP.out 6 (by omega) (show protE b node key = 6 by unfold protE; rw [if_neg (fun h => h x1), if_pos hfs]))
 rw [x1] at f1
 obtain ⟨a1, a2, a3, a4⟩ := allE_ok x1
 have f2 := fun w h => find_any b A cap node w h a1 a2
 rw [HCS.out] at f2
 rw [nby_toNat a2] at hfs
 cases hf : findS (sigs b.auth.data) node.toNat with
 | none => rw [hf] at hfs; cases hfs
 | some t =>
   rw [hf] at f2
   simp only [fdV] at f2
   obtain ⟨ta, hta, -⟩ := strV_str t
   rw [hta] at f2
   clear x1 h HP a1 a2 a3 a4 hf hfs hta
   go_enter Tryz.func12, Tryz.ntmps12
   go_wp2_with fail
   clear hW1 hW2 hW3
   refine (f1 _ (hR.ext hE3)).mono ?_
   rintro e w4 ⟨rfl, hb4⟩
   have e1 := (kb3.ext hb4).cell
   have e2 := (kb3.ext hb4).lt
   have e3 := (kn3.ext hb4).cell
   have e4 := (kn3.ext hb4).lt
   clear c1 c2 c3 c4
   go_wp2_with fail
   refine (f2 _ ((hR.ext hE3).ext hb4)).mono ?_
   rintro e w5 ⟨rfl, hb5⟩
   have hx5 := hb4.trans hb5
   have k4 := hk3.ext hx5
   have d1 := k4.cell
   have d2 := k4.lt
   have d3 := k4.frozen
   obtain ⟨w7, hw7, hz7, hE7⟩ := fin w5 hx5
   clear e1 e2 e3 e4 fin
   go_wp2
   simp only [World.setCells, Nat.zero_add, Nat.reduceAdd] at hw7
   rw [hw7]
   have hc7 := hz7.cell
   refine bodyPost_ret (v := .tuple #[.agg zeroB, .int .i64 6]) (by rw [results_cell_tmp rfl]; simp [asAddr, Result.andThen, hc7, go_sem, zeroB]) rfl ?_
   exact ⟨HX.out _, hE7⟩
end
end Go.Proofs.YtemkpimngbbpkaaGreat

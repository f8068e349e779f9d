/- Security: sign. -/
import Derived.Test.YtemkpimngbbpkaaGreatTopR41
namespace Go.Proofs.YtemkpimngbbpkaaGreat
set_option linter.unusedVariables false
set_option linter.unusedSimpArgs false
set_option linter.unusedVariables false
set_option linter.unusedSimpArgs false
open Go.RowKit Go.Shelf
attribute [local go_sem] Oper.semAt_some

theorem buEnc_len {b : Bu} (hv : buE b = 0) : b.enc.length ≤ 20000 := by
  have hbl := (buE_all hv).2.2.2.2.2.1
  have hpl := bu_pay hv
  have le := encAll_len hbl
  have lp := vtext_len b.pay
  have l0 := vtext_len [77, 66, 49]
  have l1 := flatMap_len_le (l := b.nums) (f := vint) (m := 10) (fun x _ => vint_len x)
  have hnl : b.nums.length = 10 := rfl
  have ls := sealB_len (vtext [77, 66, 49] ++ b.nums.flatMap vint ++ encAll b.blocks ++ vtext b.pay)
  unfold Bu.enc
  simp only [List.length_append] at ls ⊢
  simp only [List.length_cons, List.length_nil] at l0
  omega

set_option maxRecDepth 100000 in
set_option maxHeartbeats 16000000 in
theorem sign_any (b : Bu) (A : Option Addr) (cap : Nat) (node : Int) (key : Bts) (w : World) (hR : Rd EBl w A b.blocks) (hv : buE b = 0) (hn : 0 ≤ node ∧ node < 16) (hk : key.length = 16) :
    Calls Tryz.prog 46 #[.agg (b.cells A cap), .int .i64 node, strV key] w fun e w' => e = .returned (.tuple #[strV (signT b node key), .int .i64 0]) ∧ Ext w w' := by
  have fs := fun w h => signed_any b A cap w h hv
  have hel := buEnc_len (bare_valid hv)
  have HS := Lib.hid (show signT b node key = tagB key (chainB [[nby node], b.bare.enc]) from rfl)
  obtain ⟨E, hE⟩ : ∃ E, b.bare.enc = E := ⟨_, rfl⟩
  rw [hE] at fs hel HS
  have hq1 : IntKind.u8.wrap node = ((nby node).toNat : Int) := by rw [nby_toNat hn, IntKind.wrap_u8']; omega
  have hq2 : node % 256 = ((nby node).toNat : Int) := by rw [nby_toNat hn]; omega
  obtain ⟨nb, hnb⟩ : ∃ nb, nby node = nb := ⟨_, rfl⟩
  rw [hnb] at hq1 hq2 HS
  have hcl : (chainB [[nb], E]).length ≤ 65536 := by
    unfold chainB
    simp only [List.flatMap_cons, List.flatMap_nil, List.length_append, wby_length, List.length_cons, List.length_nil]
    omega
  have fc := fun Z cc w h => chain_any key Z cc [[nb], E] w hk h hcl (by simp)
  simp only [List.length_cons, List.length_nil, Nat.zero_add, Nat.reduceAdd] at fc
  obtain ⟨na, hna, hnv, -⟩ := str_name [nb]
  obtain ⟨ea, hea, hev, -⟩ := str_name E
  have cs : ∀ w g, Blk w g 5 #[.int .u8 (nb.toNat : Int)] → (convert 22 9 (.slice (some ⟨g, 0, none⟩) 1 1)).run Tryz.prog w = .ok (.string na) w := fun w g h => by
    have := conv_str (P := Tryz.prog) w 22 9 5 (some ⟨g, 0, none⟩) 1 [nb] Tryz.underlying22 Tryz.underlying5 Tryz.underlying9 (rd_blk h)
    rw [hnv] at this
    exact this
  have rdS : ∀ w g, Blk w g 9 #[.string na, .string ea] → Rd EStr w (some ⟨g, 0, none⟩) [[nb], E] := fun w g h => by
    refine rd_blk (e := 9) ?_
    have : (EStr.all [[nb], E]).toArray = #[.string na, .string ea] := by
      show #[strV [nb], strV E] = _
      rw [hnv, hev]
    rw [this]
    exact h
  rw [hev] at fs
  obtain ⟨sv, hsv⟩ : ∃ sv, strV (tagB key (chainB [[nb], E])) = sv := ⟨_, rfl⟩
  rw [hsv] at fc
  have HV := Lib.hid (show strV (signT b node key) = sv by rw [HS.out, hsv])
  obtain ⟨ka, hka, -⟩ := strV_str key
  rw [hka] at fc ⊢
  rw [HV.out]
  obtain ⟨pa, hpa, -⟩ := strV_str b.pay
  have hcs : b.cells A cap = #[.int .i64 b.src, .int .i64 b.cr, .int .i64 b.seq, .int .i64 b.off, .int .i64 b.tot, .int .i64 b.dk, .int .i64 b.dn, .int .i64 b.life, .int .i64 b.prio, .int .i64 b.flags, .slice A b.blocks.length cap, .string pa] := by unfold Bu.cells; rw [hpa]
  rw [hcs] at fs ⊢
  obtain ⟨W, hW, hB, hkk, hlt⟩ := box1 w #[.int .i64 b.src, .int .i64 b.cr, .int .i64 b.seq, .int .i64 b.off, .int .i64 b.tot, .int .i64 b.dk, .int .i64 b.dn, .int .i64 b.life, .int .i64 b.prio, .int .i64 b.flags, .slice A b.blocks.length cap, .string pa] 29
  have hc := hkk.cell
  have hRW := hR.ext hB
  clear hE hel hnb hcl hna hnv hea hev hsv hka hpa hcs hk hv
  go_enter Tryz.func46, Tryz.ntmps46
  go_wp2_with fail
  clear hW
  have near : ∀ w', Ext W w' → Ext W w' ∧ ∀ b o, b < W.heap.size → w'.cell? ⟨b, o, none⟩ = W.cell? ⟨b, o, none⟩ := fun w' h => ⟨h, fun b o hb => h.cell hb⟩
  refine wp_region_P (fun _ => false) (fun w' => Ext W w' ∧ ∀ b o, b < W.heap.size → w'.cell? ⟨b, o, none⟩ = W.cell? ⟨b, o, none⟩) (by kernel_rfl) (near _ (Ext.refl W).drew) (fun _ => ?_)
  refine wpAnyP_takeT (i := 0) (v := ?_) rfl (by kernel_rfl) (by kernel_rfl) (by kernel_rfl) (fun _ _ _ h => h) (Or.inl ⟨by rfl, ?_⟩) ?_
  rotate_left
  · intro w'
    go_simp
    first | done | with_reducible rfl
  try simp only [Act.put, List.setIfInBounds_toArray, List.set_cons_zero, List.set_cons_succ]
  refine wpAnyP_takeT (i := 1) (v := ?_) rfl (by kernel_rfl) (by kernel_rfl) (by kernel_rfl) (fun _ _ _ h => h) (Or.inl ⟨by rfl, ?_⟩) ?_
  rotate_left
  · intro w'
    go_simp
    first | done | with_reducible rfl
  try simp only [Act.put, List.setIfInBounds_toArray, List.set_cons_zero, List.set_cons_succ]
  refine wpAnyP_takeT (i := 2) (v := ?_) rfl (by kernel_rfl) (by kernel_rfl) (by kernel_rfl) (fun _ _ _ h => h) (Or.inl ⟨by rfl, ?_⟩) ?_
  rotate_left
  · intro w'
    go_simp
    first | done | with_reducible rfl
  try simp only [Act.put, List.setIfInBounds_toArray, List.set_cons_zero, List.set_cons_succ]
  refine wpAnyP_take (i := 5) (v := ?_) rfl (by kernel_rfl) (by kernel_rfl) (by kernel_rfl) (by kernel_rfl) (fun _ _ _ h => h) (Or.inl ⟨by rfl, ?_⟩) (by assumption) ?_
  rotate_left
  · intro w' hw'
    (try have hC := hw'.2)
    (try have hC9 := hw'.1)
    go_simp
    first | done | with_reducible rfl
  try simp only [Act.put, List.setIfInBounds_toArray, List.set_cons_zero, List.set_cons_succ]
  refine wpAnyP_ready (rs := [3, 6]) (by kernel_rfl) (by simp) ?_
  refine AllReadyP.cons rfl (fun K hK => ?_) (AllReadyP.cons rfl (fun K hK => ?_) AllReadyP.nil)
  · obtain ⟨X1, hX1, hBX1, hkX1, hlX1⟩ := box1 W.drew #[.int .u8 (nb.toNat : Int)] 5
    go_simp
    refine hK.out _ _ (fun _ _ => near _ (((Ext.refl W).drew).trans hBX1)) ?_
    clear hK K hX1
    refine wpAnyP_ready (rs := [4, 6]) (by kernel_rfl) (by simp) ?_
    refine AllReadyP.cons rfl (fun K hK => ?_) (AllReadyP.cons rfl (fun K hK => ?_) AllReadyP.nil)
    · have q2 := cs X1 W.heap.size hkX1
      go_simp
      refine hK.out _ _ (fun _ h => h) ?_
      clear hK K q2
      refine wpAnyP_ready (rs := [6]) (by kernel_rfl) (by simp) ?_
      refine AllReadyP.cons rfl (fun K hK => ?_) AllReadyP.nil
      go_simp
      refine (fs X1 (hRW.ext (((Ext.refl W).drew).trans hBX1))).mono ?_
      rintro e Y3 ⟨rfl, hbY3⟩
      refine hK.out _ _ (fun _ _ => near _ ((((Ext.refl W).drew).trans hBX1).trans hbY3)) ?_
      clear hK K
      obtain ⟨V4, hV4, hBV4, hkV4, hlV4⟩ := box1 Y3 #[.string na, .string ea] 9
      refine wpAnyP_ready (rs := [7]) (by kernel_rfl) (by simp) ?_
      refine AllReadyP.cons rfl (fun K hK => ?_) AllReadyP.nil
      go_simp
      refine hK.out _ _ (fun _ _ => near _ (((((Ext.refl W).drew).trans hBX1).trans hbY3).trans hBV4)) ?_
      clear hK K hV4
      refine wpAnyP_ready (rs := [8]) (by kernel_rfl) (by simp) ?_
      refine AllReadyP.cons rfl (fun K hK => ?_) AllReadyP.nil
      go_simp
      refine (fc (some ⟨Y3.heap.size, 0, none⟩) 2 V4 (rdS _ _ hkV4)).mono ?_
      rintro e Z4 ⟨rfl, hbZ4⟩
      refine hK.out _ _ (fun _ _ => near _ ((((((Ext.refl W).drew).trans hBX1).trans hbY3).trans hBV4).trans hbZ4)) ?_
      clear hK K
      refine wpAnyP_takeT (i := 9) (v := ?_) rfl (by kernel_rfl) (by kernel_rfl) (by kernel_rfl) (fun _ _ _ h => h) (Or.inl ⟨by rfl, ?_⟩) ?_
      rotate_left
      · intro w'
        go_simp
        first | done | with_reducible rfl
      try simp only [Act.put, List.setIfInBounds_toArray, List.set_cons_zero, List.set_cons_succ]
      refine wpAnyP_takeT (i := 10) (v := ?_) rfl (by kernel_rfl) (by kernel_rfl) (by kernel_rfl) (fun _ _ _ h => h) (Or.inl ⟨by rfl, ?_⟩) ?_
      rotate_left
      · intro w'
        go_simp
        first | done | with_reducible rfl
      try simp only [Act.put, List.setIfInBounds_toArray, List.set_cons_zero, List.set_cons_succ]
      refine wpAnyP_takeT (i := 11) (v := ?_) rfl (by kernel_rfl) (by kernel_rfl) (by kernel_rfl) (fun _ _ _ h => h) (Or.inl ⟨by rfl, ?_⟩) ?_
      rotate_left
      · intro w'
        go_simp
        first | done | with_reducible rfl
      try simp only [Act.put, List.setIfInBounds_toArray, List.set_cons_zero, List.set_cons_succ]
      refine wpAnyP_takeT (i := 12) (v := ?_) rfl (by kernel_rfl) (by kernel_rfl) (by kernel_rfl) (fun _ _ _ h => h) (Or.inl ⟨by rfl, ?_⟩) ?_
      rotate_left
      · intro w'
        go_simp
        first | done | with_reducible rfl
      try simp only [Act.put, List.setIfInBounds_toArray, List.set_cons_zero, List.set_cons_succ]
      simp only [List.getElem_toArray, List.getElem_cons_succ, List.getElem_cons_zero, Act.put, List.setIfInBounds_toArray, List.set_cons_zero, List.set_cons_succ]
      refine wpAnyP_done (by kernel_rfl) ?_ _
      go_wp2
      go_ret2
      exact ⟨rfl, hB.trans ((((((Ext.refl W).drew).trans hBX1).trans hbY3).trans hBV4).trans hbZ4)⟩
    · go_simp
      refine (fs X1 (hRW.ext (((Ext.refl W).drew).trans hBX1))).mono ?_
      rintro e Y5 ⟨rfl, hbY5⟩
      refine hK.out _ _ (fun _ _ => near _ ((((Ext.refl W).drew).trans hBX1).trans hbY5)) ?_
      clear hK K
      have hkY5 := Blk.ext hkX1 hbY5
      refine wpAnyP_ready (rs := [4]) (by kernel_rfl) (by simp) ?_
      refine AllReadyP.cons rfl (fun K hK => ?_) AllReadyP.nil
      have q6 := cs Y5 W.heap.size hkY5
      go_simp
      refine hK.out _ _ (fun _ h => h) ?_
      clear hK K q6
      obtain ⟨V7, hV7, hBV7, hkV7, hlV7⟩ := box1 Y5 #[.string na, .string ea] 9
      refine wpAnyP_ready (rs := [7]) (by kernel_rfl) (by simp) ?_
      refine AllReadyP.cons rfl (fun K hK => ?_) AllReadyP.nil
      go_simp
      refine hK.out _ _ (fun _ _ => near _ (((((Ext.refl W).drew).trans hBX1).trans hbY5).trans hBV7)) ?_
      clear hK K hV7
      refine wpAnyP_ready (rs := [8]) (by kernel_rfl) (by simp) ?_
      refine AllReadyP.cons rfl (fun K hK => ?_) AllReadyP.nil
      go_simp
      refine (fc (some ⟨Y5.heap.size, 0, none⟩) 2 V7 (rdS _ _ hkV7)).mono ?_
      rintro e Z7 ⟨rfl, hbZ7⟩
      refine hK.out _ _ (fun _ _ => near _ ((((((Ext.refl W).drew).trans hBX1).trans hbY5).trans hBV7).trans hbZ7)) ?_
      clear hK K
      refine wpAnyP_takeT (i := 9) (v := ?_) rfl (by kernel_rfl) (by kernel_rfl) (by kernel_rfl) (fun _ _ _ h => h) (Or.inl ⟨by rfl, ?_⟩) ?_
      rotate_left
      · intro w'
        go_simp
        first | done | with_reducible rfl
      try simp only [Act.put, List.setIfInBounds_toArray, List.set_cons_zero, List.set_cons_succ]
      refine wpAnyP_takeT (i := 10) (v := ?_) rfl (by kernel_rfl) (by kernel_rfl) (by kernel_rfl) (fun _ _ _ h => h) (Or.inl ⟨by rfl, ?_⟩) ?_
      rotate_left
      · intro w'
        go_simp
        first | done | with_reducible rfl
      try simp only [Act.put, List.setIfInBounds_toArray, List.set_cons_zero, List.set_cons_succ]
      refine wpAnyP_takeT (i := 11) (v := ?_) rfl (by kernel_rfl) (by kernel_rfl) (by kernel_rfl) (fun _ _ _ h => h) (Or.inl ⟨by rfl, ?_⟩) ?_
      rotate_left
      · intro w'
        go_simp
        first | done | with_reducible rfl
      try simp only [Act.put, List.setIfInBounds_toArray, List.set_cons_zero, List.set_cons_succ]
      refine wpAnyP_takeT (i := 12) (v := ?_) rfl (by kernel_rfl) (by kernel_rfl) (by kernel_rfl) (fun _ _ _ h => h) (Or.inl ⟨by rfl, ?_⟩) ?_
      rotate_left
      · intro w'
        go_simp
        first | done | with_reducible rfl
      try simp only [Act.put, List.setIfInBounds_toArray, List.set_cons_zero, List.set_cons_succ]
      simp only [List.getElem_toArray, List.getElem_cons_succ, List.getElem_cons_zero, Act.put, List.setIfInBounds_toArray, List.set_cons_zero, List.set_cons_succ]
      refine wpAnyP_done (by kernel_rfl) ?_ _
      go_wp2
      go_ret2
      exact ⟨rfl, hB.trans ((((((Ext.refl W).drew).trans hBX1).trans hbY5).trans hBV7).trans hbZ7)⟩
  · go_simp
    refine (fs W.drew (hRW.ext ((Ext.refl W).drew))).mono ?_
    rintro e Y8 ⟨rfl, hbY8⟩
    refine hK.out _ _ (fun _ _ => near _ (((Ext.refl W).drew).trans hbY8)) ?_
    clear hK K
    refine wpAnyP_ready (rs := [3]) (by kernel_rfl) (by simp) ?_
    refine AllReadyP.cons rfl (fun K hK => ?_) AllReadyP.nil
    obtain ⟨X9, hX9, hBX9, hkX9, hlX9⟩ := box1 Y8 #[.int .u8 (nb.toNat : Int)] 5
    go_simp
    refine hK.out _ _ (fun _ _ => near _ ((((Ext.refl W).drew).trans hbY8).trans hBX9)) ?_
    clear hK K hX9
    refine wpAnyP_ready (rs := [4]) (by kernel_rfl) (by simp) ?_
    refine AllReadyP.cons rfl (fun K hK => ?_) AllReadyP.nil
    have q10 := cs X9 Y8.heap.size hkX9
    go_simp
    refine hK.out _ _ (fun _ h => h) ?_
    clear hK K q10
    obtain ⟨V11, hV11, hBV11, hkV11, hlV11⟩ := box1 X9 #[.string na, .string ea] 9
    refine wpAnyP_ready (rs := [7]) (by kernel_rfl) (by simp) ?_
    refine AllReadyP.cons rfl (fun K hK => ?_) AllReadyP.nil
    go_simp
    refine hK.out _ _ (fun _ _ => near _ (((((Ext.refl W).drew).trans hbY8).trans hBX9).trans hBV11)) ?_
    clear hK K hV11
    refine wpAnyP_ready (rs := [8]) (by kernel_rfl) (by simp) ?_
    refine AllReadyP.cons rfl (fun K hK => ?_) AllReadyP.nil
    go_simp
    refine (fc (some ⟨X9.heap.size, 0, none⟩) 2 V11 (rdS _ _ hkV11)).mono ?_
    rintro e Z11 ⟨rfl, hbZ11⟩
    refine hK.out _ _ (fun _ _ => near _ ((((((Ext.refl W).drew).trans hbY8).trans hBX9).trans hBV11).trans hbZ11)) ?_
    clear hK K
    refine wpAnyP_takeT (i := 9) (v := ?_) rfl (by kernel_rfl) (by kernel_rfl) (by kernel_rfl) (fun _ _ _ h => h) (Or.inl ⟨by rfl, ?_⟩) ?_
    rotate_left
    · intro w'
      go_simp
      first | done | with_reducible rfl
    try simp only [Act.put, List.setIfInBounds_toArray, List.set_cons_zero, List.set_cons_succ]
    refine wpAnyP_takeT (i := 10) (v := ?_) rfl (by kernel_rfl) (by kernel_rfl) (by kernel_rfl) (fun _ _ _ h => h) (Or.inl ⟨by rfl, ?_⟩) ?_
    rotate_left
    · intro w'
      go_simp
      first | done | with_reducible rfl
    try simp only [Act.put, List.setIfInBounds_toArray, List.set_cons_zero, List.set_cons_succ]
    refine wpAnyP_takeT (i := 11) (v := ?_) rfl (by kernel_rfl) (by kernel_rfl) (by kernel_rfl) (fun _ _ _ h => h) (Or.inl ⟨by rfl, ?_⟩) ?_
    rotate_left
    · intro w'
      go_simp
      first | done | with_reducible rfl
    try simp only [Act.put, List.setIfInBounds_toArray, List.set_cons_zero, List.set_cons_succ]
    refine wpAnyP_takeT (i := 12) (v := ?_) rfl (by kernel_rfl) (by kernel_rfl) (by kernel_rfl) (fun _ _ _ h => h) (Or.inl ⟨by rfl, ?_⟩) ?_
    rotate_left
    · intro w'
      go_simp
      first | done | with_reducible rfl
    try simp only [Act.put, List.setIfInBounds_toArray, List.set_cons_zero, List.set_cons_succ]
    simp only [List.getElem_toArray, List.getElem_cons_succ, List.getElem_cons_zero, Act.put, List.setIfInBounds_toArray, List.set_cons_zero, List.set_cons_succ]
    refine wpAnyP_done (by kernel_rfl) ?_ _
    go_wp2
    go_ret2
    exact ⟨rfl, hB.trans ((((((Ext.refl W).drew).trans hbY8).trans hBX9).trans hBV11).trans hbZ11)⟩

end Go.Proofs.YtemkpimngbbpkaaGreat

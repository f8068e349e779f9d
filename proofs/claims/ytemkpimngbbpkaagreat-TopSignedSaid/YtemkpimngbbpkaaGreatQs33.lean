/- Security: Verify. · Decoding: varint.ReadText, crc.Open. -/
import Derived.Test.YtemkpimngbbpkaaGreatQs30
import Derived.Test.YtemkpimngbbpkaaGreatQs32
namespace Go.Proofs.YtemkpimngbbpkaaGreat
set_option linter.unusedVariables false
set_option linter.unusedSimpArgs false
section
open Go.RowKit Go.Shelf
attribute [local go_sem] Oper.semAt_some
theorem str_ne {a b : Bts} (h : a ≠ b) {x y : ByteArray} (h1 : (⟨a.toArray⟩ : ByteArray) = x) (h2 : (⟨b.toArray⟩ : ByteArray) = y) : x ≠ y := by
 subst h1 h2
 intro e
 apply h
 have := congrArg ByteArray.data e
 simpa using this
theorem ba_toList {x y : ByteArray} (h : x.toList = y.toList) : x = y := by
 rw [ByteArray.toList_eq, ByteArray.toList_eq] at h
 apply ByteArray.ext
 exact Array.toList_inj.1 h
set_option maxRecDepth 100000 in
set_option maxHeartbeats 16000000 in
theorem ver_any (b : Bu) (A : Option Addr) (cap : Nat) (node : Int) (key : Bts) (w : World) (hR : Rd EBl w A b.blocks) :
 Calls Tryz.prog 13 #[.agg (b.cells A cap), .int .i64 node, strV key] w fun e w' => e = .returned (.int .i64 (verE b node key)) /\ Ext w w' := by
 have f1 := fun w h => all_any b A cap node key w h
 obtain ⟨v, hv⟩ : ∃ v, verE b node key = v := ⟨_, rfl⟩
 rw [hv]
 unfold verE at hv
 have HV := Lib.hid hv
 clear hv
 obtain ⟨ka, hka, -⟩ := strV_str key
 have HKA := Lib.hid hka
 rw [hka] at f1 ⊢
 obtain ⟨pa, hpa, -⟩ := strV_str b.pay
 have hcs : b.cells A cap = #[.int .i64 b.src, .int .i64 b.cr, .int .i64 b.seq, .int .i64 b.off, .int .i64 b.tot, .int .i64 b.dk, .int .i64 b.dn, .int .i64 b.life, .int .i64 b.prio, .int .i64 b.flags, .slice A b.blocks.length cap, .string pa] := by unfold Bu.cells; rw [hpa]
 have HCS := Lib.hid hcs
 rw [hcs] at f1 ⊢
 obtain ⟨W, hW, hB, hk, hlt⟩ := box1 w #[.int .i64 b.src, .int .i64 b.cr, .int .i64 b.seq, .int .i64 b.off, .int .i64 b.tot, .int .i64 b.dk, .int .i64 b.dn, .int .i64 b.life, .int .i64 b.prio, .int .i64 b.flags, .slice A b.blocks.length cap, .string pa] 29
 have hc := hk.cell
 clear hka hpa hcs
 by_cases x1 : allE b node key = 0
 case neg =>
  have HX := Lib.hid (show v = allE b node key by rw [<- HV.out, if_pos x1])
  obtain ⟨u, hu⟩ : ∃ u, allE b node key = u := ⟨_, rfl⟩
  rw [hu] at f1 HX x1
  have hn0 : (u != 0) = true := by rw [bne_iff_ne]; exact x1
  clear hu x1
  go_enter Tryz.func13, Tryz.ntmps13
  go_wp2_with fail
  clear hW
  refine (f1 _ (hR.ext hB)).mono ?_
  rintro e w1 ⟨rfl, hb1⟩
  go_wp2
  go_ret
  exact ⟨by rw [HX.out]; rfl, hB.trans hb1⟩
 rw [x1] at f1
 obtain ⟨a1, a2, a3, a4⟩ := allE_ok x1
 have HV2 := Lib.hid (show (match findS (sigs b.auth.data) (nby node).toNat with | none => (7 : Int) | some t => if t = signT b node key then 0 else 22) = v by have h := HV.out; rw [if_neg (by rw [x1]; simp)] at h; exact h)
 have f2 := fun w h => find_any b A cap node w h a1 a2
 have f3 := fun w h => sign_any b A cap node key w h a1 a2 a3
 rw [HCS.out] at f2 f3
 rw [HKA.out] at f3
 have hnb := nby_toNat a2
 rw [hnb] at HV2
 cases hf : findS (sigs b.auth.data) node.toNat with
 | none =>
   rw [hf] at f2 HV2
   have HX := Lib.hid (show v = 7 from HV2.out.symm)
   simp only [fdV] at f2
   clear x1 a1 a2 a3 a4 hnb hf f3
   go_enter Tryz.func13, Tryz.ntmps13
   go_wp2_with fail
   clear hW
   refine (f1 _ (hR.ext hB)).mono ?_
   rintro e w1 ⟨rfl, hb1⟩
   have c1 := (hk.ext hb1).cell
   have l1 := (hk.ext hb1).lt
   clear hc
   go_wp2_with fail
   refine (f2 _ ((hR.ext hB).ext hb1)).mono ?_
   rintro e w2 ⟨rfl, hb2⟩
   go_wp2
   go_ret
   exact ⟨by rw [HX.out]; rfl, (hB.trans hb1).trans hb2⟩
 | some t =>
   rw [hf] at f2 HV2
   simp only [fdV] at f2
   obtain ⟨S, hS⟩ : ∃ S, signT b node key = S := ⟨_, rfl⟩
   rw [hS] at f3 HV2
   obtain ⟨ta, hta, htv, -⟩ := str_name t
   obtain ⟨sa, hsa, hsv, -⟩ := str_name S
   rw [htv] at f2
   rw [hsv] at f3
   by_cases he : t = S
   ·have hee : ta = sa := by rw [<- hta, <- hsa, he]
    subst hee
    have HX := Lib.hid (show v = 0 by rw [<- HV2.out]; simp [he])
    clear x1 a1 a2 a3 a4 hnb hf hS hta hsa htv hsv he
    go_enter Tryz.func13, Tryz.ntmps13
    go_wp2_with fail
    clear hW
    refine (f1 _ (hR.ext hB)).mono ?_
    rintro e w1 ⟨rfl, hb1⟩
    have c1 := (hk.ext hb1).cell
    have l1 := (hk.ext hb1).lt
    clear hc
    go_wp2_with fail
    refine (f2 _ ((hR.ext hB).ext hb1)).mono ?_
    rintro e w2 ⟨rfl, hb2⟩
    have hx2 := hb1.trans hb2
    have c2 := (hk.ext hx2).cell
    have l2 := (hk.ext hx2).lt
    clear c1 l1
    go_wp2_with fail
    refine (f3 _ ((hR.ext hB).ext hx2)).mono ?_
    rintro e w3 ⟨rfl, hb3⟩
    go_wp2
    go_ret
    exact ⟨by rw [HX.out]; rfl, (hB.trans hx2).trans hb3⟩
   ·have hne := str_ne he hta hsa
    have hnb2 : (ta.toList == sa.toList) = false := by rw [beq_eq_false_iff_ne]; exact fun h => hne (ba_toList h)
    have HX := Lib.hid (show v = 22 by rw [<- HV2.out]; simp [he])
    clear x1 a1 a2 a3 a4 hnb hf hS hta hsa htv hsv he
    go_enter Tryz.func13, Tryz.ntmps13
    go_wp2_with fail
    clear hW
    refine (f1 _ (hR.ext hB)).mono ?_
    rintro e w1 ⟨rfl, hb1⟩
    have c1 := (hk.ext hb1).cell
    have l1 := (hk.ext hb1).lt
    clear hc
    go_wp2_with fail
    refine (f2 _ ((hR.ext hB).ext hb1)).mono ?_
    rintro e w2 ⟨rfl, hb2⟩
    have hx2 := hb1.trans hb2
    have c2 := (hk.ext hx2).cell
    have l2 := (hk.ext hx2).lt
    clear c1 l1
    go_wp2_with fail
    refine (f3 _ ((hR.ext hB).ext hx2)).mono ?_
    rintro e w3 ⟨rfl, hb3⟩
    go_wp2
    go_ret
    exact ⟨by rw [HX.out]; rfl, (hB.trans hx2).trans hb3⟩
end
section
open Go.RowKit Go.Shelf
attribute [local go_sem] Oper.semAt_some
theorem rdT_of (s : Bts) {er n : Int} {sz : Nat} (h : rdN s = (er, n, sz)) : rdT s = if er ≠ 0 then (er, [], 0) else if (s.length : Int) - sz < n then (12, [], 0) else (0, (s.drop sz).take n.toNat, sz + n.toNat) := by
 unfold rdT
 rw [h]
theorem opn_of (s : Bts) {er n : Int} {sz : Nat} (h : rdI s = (er, n, sz)) : opn s = if er ≠ 0 then (er, [], 0) else if n < 0 ∨ 65536 < n then (2, [], 0) else if s.length < sz + n.toNat + 4 then (12, [], 0) else if ctail (s.take (sz + n.toNat)) ≠ (s.drop (sz + n.toNat)).take 4 then (13, [], 0) else (0, (s.drop sz).take n.toNat, sz + n.toNat + 4) := by
 unfold opn
 rw [h]
theorem nil_str : strV [] = .string ⟨#[]⟩ := rfl
theorem ext_str {s : Bts} {ba : ByteArray} (h : (⟨s.toArray⟩ : ByteArray) = ba) (i j : Nat) (hj : j <= s.length) : ba.extract i j = ⟨((s.drop i).take (j - i)).toArray⟩ := by
 rw [<- h, ByteArray.extract_mk]
set_option maxRecDepth 100000 in
set_option maxHeartbeats 4000000 in
theorem ReadText_any (s : Bts) (w : World) (hs : s.length <= 1000000) :
 Calls Tryz.prog 191 #[strV s] w fun e w' => e = .returned (.tuple #[strV (rdT s).2.1, .int .i64 ((rdT s).2.2 : Nat), .int .i64 (rdT s).1]) /\ Ext w w' := by
 have f1 := fun g w hk => length_any g s 0 w hk hs (Nat.zero_le _)
 have f2 := fun g (a : Nat) (e : Int) w hk ha => vrest_any g s a e w hk hs ha
 have f3 := fun w g u v c hk => vfail_any g u v 0 c w hk
 simp only [List.drop_zero, Nat.zero_add] at f1
 have hle := rdN_le (s := s)
 have her := rdN_err (s := s)
 obtain ⟨r, hr⟩ : ∃ r, rdN s = r := ⟨_, rfl⟩
 rw [hr] at f1 hle her
 obtain ⟨er, n, sz⟩ := r
 have hT := rdT_of s hr
 dsimp only at f1 hle her
 obtain ⟨q, hq⟩ : ∃ q, rdT s = q := ⟨_, rfl⟩
 rw [hq] at hT ⊢
 obtain ⟨ba, hba, hbv, hbs⟩ := str_name s
 rw [hbv] at f1 f2 ⊢
 have HBA := Lib.hid hba
 have HBV := Lib.hid hbv
 obtain ⟨L, hL⟩ : ∃ L, s.length = L := ⟨_, rfl⟩
 have HL := Lib.hid hL
 rw [hL] at hle her hbs f2 hT hs
 obtain ⟨W, hW, hB, hk, hlt⟩ := box1 w #[.string ba, .int .i64 0, .int .i64 0] 372
 have hc := hk.cell
 clear hr hq hba hbv hL
 by_cases h0 : er = 0
 ·subst h0
  obtain ⟨l1, l2, l3, l4⟩ := hle rfl
  rw [if_neg (by simp)] at hT
  obtain ⟨nn, rfl⟩ := Int.eq_ofNat_of_zero_le l3
  by_cases h1 : (L : Int) - sz < nn
  ·rw [if_pos h1] at hT
   subst hT
   go_enter Tryz.func191, Tryz.ntmps191
   go_wp2_with fail
   clear hW
   refine (f1 _ _ hk).mono ?_
   clear hc
   rintro e w1 ⟨rfl, hu1, hk1⟩
   have hE := hu1.ext hB (Nat.le_refl _)
   have c1 := hk1.cell
   have c2 := hk1.lt
   go_wp2_with fail
   refine (f2 _ _ _ _ hk1 l2).mono ?_
   clear c1 c2
   rintro e w2 ⟨rfl, hb2⟩
   have hk2 := hk1.ext hb2
   have c1 := hk2.cell
   have c2 := hk2.lt
   go_wp2_with fail
   refine (f3 _ _ _ _ 12 hk2).mono ?_
   clear c1 c2
   rintro e w3 ⟨rfl, hu3, hk3⟩
   have hE3 := hu3.ext (hE.trans hb2) (Nat.le_refl _)
   simp only [↓reduceIte] at hk3
   have c1 := hk3.cell
   have c2 := hk3.lt
   have hN := Near.refl w3
   go_upto_region 6 with fail
   have hC := hN.2
   have hq := quiet_near hN
   refine wp_region_quiet_below (by kernel_rfl) (by kernel_rfl) ?_
   repeat (first | go_big_quiet_skip | (go_big_quiet_want; go_big_quiet_op; first | go_big_quiet_on | (apply Exists.intro; refine ⟨fun _ => ?_, ?_⟩; (focus (first | fail)); go_big_quiet_on)))
   refine wpQuiet_nil ?_
   intro w1 hw1
   clear hq
   replace hw1 := quiet_ext hw1
   replace hN := hN.step hw1
   have hC := hN.2
   go_wp2
   go_ret3
   exact ⟨rfl, hE3.trans hw1⟩
  ·rw [if_neg h1] at hT
   subst hT
   have hsl := fun w => slice_mid (P := Tryz.prog) 9 s sz (sz + nn) Tryz.underlying9 (by omega) (by rw [HL.out]; omega) w
   have hex := ext_str HBA.out sz (sz + nn) (by rw [HL.out]; omega)
   rw [show sz + nn - sz = nn by omega] at hsl hex
   obtain ⟨T, hT⟩ : ∃ T, (s.drop sz).take nn = T := ⟨_, rfl⟩
   rw [Int.toNat_natCast, hT]
   rw [hT] at hsl hex
   obtain ⟨tb, htb, htv, -⟩ := str_name T
   rw [htb] at hex
   rw [htv] at hsl ⊢
   rw [HBV.out] at hsl
   clear hT htb htv
   go_enter Tryz.func191, Tryz.ntmps191
   go_wp2_with fail
   clear hW
   refine (f1 _ _ hk).mono ?_
   clear hc
   rintro e w1 ⟨rfl, hu1, hk1⟩
   have hE := hu1.ext hB (Nat.le_refl _)
   have c1 := hk1.cell
   have c2 := hk1.lt
   go_wp2_with fail
   refine (f2 _ _ _ _ hk1 l2).mono ?_
   clear c1 c2
   rintro e w2 ⟨rfl, hb2⟩
   have hk2 := hk1.ext hb2
   have hE2 := hE.trans hb2
   have c1 := hk2.cell
   have c2 := hk2.lt
   have hN := Near.refl w2
   go_upto_region 7 with fail
   have hC := hN.2
   have hq := quiet_near hN
   refine wp_region_quiet_below (by kernel_rfl) (by kernel_rfl) ?_
   repeat (first | go_big_quiet_skip | (go_big_quiet_want; go_big_quiet_op; first | go_big_quiet_on | (apply Exists.intro; refine ⟨fun _ => ?_, ?_⟩; (focus (first | fail)); go_big_quiet_on)))
   refine wpQuiet_nil ?_
   intro w1 hw1
   clear hq
   replace hw1 := quiet_ext hw1
   replace hN := hN.step hw1
   have hC := hN.2
   go_wp2
   go_ret3
   exact ⟨rfl, hE2.trans hw1⟩
 ·obtain ⟨rfl, l2⟩ := her h0
  rw [if_pos h0] at hT
  subst hT
  have hb : (er != 0) = true := by rw [bne_iff_ne]; exact h0
  go_enter Tryz.func191, Tryz.ntmps191
  go_wp2_with fail
  clear hW
  refine (f1 _ _ hk).mono ?_
  clear hc
  rintro e w1 ⟨rfl, hu1, hk1⟩
  have hE := hu1.ext hB (Nat.le_refl _)
  have c1 := hk1.cell
  have c2 := hk1.lt
  go_wp2_with fail
  refine (f2 _ _ _ _ hk1 l2).mono ?_
  clear c1 c2
  rintro e w2 ⟨rfl, hb2⟩
  have hk2 := hk1.ext hb2
  have hE2 := hE.trans hb2
  have c1 := hk2.cell
  have c2 := hk2.lt
  have hN := Near.refl w2
  go_upto_region 6 with fail
  have hC := hN.2
  have hq := quiet_near hN
  refine wp_region_quiet_below (by kernel_rfl) (by kernel_rfl) ?_
  repeat (first | go_big_quiet_skip | (go_big_quiet_want; go_big_quiet_op; first | go_big_quiet_on | (apply Exists.intro; refine ⟨fun _ => ?_, ?_⟩; (focus (first | fail)); go_big_quiet_on)))
  refine wpQuiet_nil ?_
  intro w1 hw1
  clear hq
  replace hw1 := quiet_ext hw1
  replace hN := hN.step hw1
  have hC := hN.2
  go_wp2
  go_ret3
  exact ⟨rfl, hE2.trans hw1⟩
set_option maxRecDepth 100000 in
set_option maxHeartbeats 4000000 in
theorem Open_any (s : Bts) (w : World) (hs : s.length <= 1000000) :
 Calls Tryz.prog 109 #[strV s] w fun e w' => e = .returned (.tuple #[strV (opn s).2.1, .int .i64 ((opn s).2.2 : Nat), .int .i64 (opn s).1]) /\ Ext w w' := by
 have f1 := fun w => ReadInt_any s w hs
 have hle := rdI_le (s := s)
 obtain ⟨r, hr⟩ : ∃ r, rdI s = r := ⟨_, rfl⟩
 rw [hr] at f1 hle
 obtain ⟨er, n, sz⟩ := r
 have hT := opn_of s hr
 dsimp only at f1 hle
 obtain ⟨q, hq⟩ : ∃ q, opn s = q := ⟨_, rfl⟩
 rw [hq] at hT ⊢
 obtain ⟨ba, hba, hbv, hbs⟩ := str_name s
 rw [hbv] at f1 ⊢
 have HBA := Lib.hid hba
 have HBV := Lib.hid hbv
 obtain ⟨L, hL⟩ : ∃ L, s.length = L := ⟨_, rfl⟩
 have HL := Lib.hid hL
 rw [hL] at hle hbs hT
 clear hr hq hba hbv hL
 by_cases h0 : er = 0
 case neg =>
  rw [if_pos h0] at hT
  subst hT
  have hb : (er != 0) = true := by rw [bne_iff_ne]; exact h0
  go_enter Tryz.func109, Tryz.ntmps109
  go_wp2_with fail
  refine (f1 _).mono ?_
  rintro e w1 ⟨rfl, hb1⟩
  go_wp2
  go_ret3
  exact ⟨rfl, hb1⟩
 subst h0
 rw [if_neg (by simp)] at hT
 obtain ⟨l1, l2, l3, l4, l5⟩ := hle rfl
 clear hle
 by_cases h1 : n < 0
 case pos =>
  rw [if_pos (.inl h1)] at hT
  subst hT
  go_enter Tryz.func109, Tryz.ntmps109
  go_wp2_with fail
  refine (f1 _).mono ?_
  rintro e w1 ⟨rfl, hb1⟩
  go_wp2
  go_ret3
  exact ⟨rfl, hb1⟩
 by_cases h2 : 65536 < n
 case pos =>
  rw [if_pos (.inr h2)] at hT
  subst hT
  go_enter Tryz.func109, Tryz.ntmps109
  go_wp2_with fail
  refine (f1 _).mono ?_
  rintro e w1 ⟨rfl, hb1⟩
  go_wp2
  go_ret3
  exact ⟨rfl, hb1⟩
 rw [if_neg (by omega)] at hT
 obtain ⟨nn, rfl⟩ := Int.eq_ofNat_of_zero_le (show 0 <= n by omega)
 rw [Int.toNat_natCast] at hT
 by_cases h3 : L < sz + nn + 4
 case pos =>
  rw [if_pos h3] at hT
  subst hT
  go_enter Tryz.func109, Tryz.ntmps109
  go_wp2_with fail
  refine (f1 _).mono ?_
  rintro e w1 ⟨rfl, hb1⟩
  go_wp2
  go_ret3
  exact ⟨rfl, hb1⟩
 rw [if_neg h3] at hT
 have hm1 := fun w => slice_mid (P := Tryz.prog) 9 s 0 (sz + nn) Tryz.underlying9 (by omega) (by rw [HL.out]; omega) w
 have hx1 := ext_str HBA.out 0 (sz + nn) (by rw [HL.out]; omega)
 have hx2 := ext_str HBA.out (sz + nn) (sz + nn + 4) (by rw [HL.out]; omega)
 have hx3 := ext_str HBA.out sz (sz + nn) (by rw [HL.out]; omega)
 rw [show sz + nn + 4 - (sz + nn) = 4 by omega] at hx2
 rw [show sz + nn - sz = nn by omega] at hx3
 rw [List.drop_zero, Nat.sub_zero] at hx1
 have f2 := fun w => tail_any (s.take (sz + nn)) w (by rw [List.length_take]; omega)
 obtain ⟨T1, hT1⟩ : ∃ T, s.take (sz + nn) = T := ⟨_, rfl⟩
 obtain ⟨T2, hT2⟩ : ∃ T, (s.drop (sz + nn)).take 4 = T := ⟨_, rfl⟩
 obtain ⟨T3, hT3⟩ : ∃ T, (s.drop sz).take nn = T := ⟨_, rfl⟩
 rw [hT1] at f2 hx1
 rw [hT2] at hx2
 rw [hT3] at hx3
 rw [hT1, hT2, hT3] at hT
 obtain ⟨C1, hC1⟩ : ∃ C, ctail T1 = C := ⟨_, rfl⟩
 rw [hC1] at f2 hT
 obtain ⟨b1, hb1, hv1, -⟩ := str_name T1
 obtain ⟨b2, hb2, hv2, -⟩ := str_name T2
 obtain ⟨b3, hb3, hv3, -⟩ := str_name T3
 obtain ⟨b4, hb4, hv4, -⟩ := str_name C1
 rw [hb1] at hx1
 rw [hb2] at hx2
 rw [hb3] at hx3
 rw [hv1, hv4] at f2
 by_cases h4 : C1 = T2
 ·have he : b4 = b2 := by rw [<- hb4, <- hb2, h4]
  subst he
  rw [if_neg (by simpa using h4)] at hT
  subst hT
  dsimp only
  rw [hv3]
  clear hm1 hT1 hT2 hT3 hC1 hb1 hb2 hb3 hb4 hv1 hv2 hv3 hv4 h4
  go_enter Tryz.func109, Tryz.ntmps109
  go_wp2_with fail
  refine (f1 _).mono ?_
  clear f1
  rintro e w1 ⟨rfl, hb1⟩
  have hN := Near.refl w1
  go_upto_region 8 with fail
  have hC := hN.2
  have hq := quiet_near hN
  refine wp_region_quiet_below (by kernel_rfl) (by kernel_rfl) ?_
  repeat (first | go_big_quiet_skip | (go_big_quiet_want; go_big_quiet_op; first | go_big_quiet_on | (apply Exists.intro; refine ⟨fun _ => ?_, ?_⟩; (focus (first | (go_at_call 189; exact Calls.regrown_of (f2 _)))); go_big_quiet_on)))
  refine wpQuiet_nil ?_
  intro w1 hw1
  clear hq
  replace hw1 := quiet_ext hw1
  replace hN := hN.step hw1
  have hC := hN.2
  go_wp2
  go_ret3
  exact ⟨rfl, hb1.trans hw1⟩
 ·have hne := str_ne h4 hb4 hb2
  have hnb : (b4.toList == b2.toList) = false := by rw [beq_eq_false_iff_ne]; exact fun h => hne (ba_toList h)
  rw [if_pos h4] at hT
  subst hT
  clear hm1 hT1 hT2 hT3 hC1 hb1 hb2 hb3 hb4 hv1 hv2 hv3 hv4 h4
  go_enter Tryz.func109, Tryz.ntmps109
  go_wp2_with fail
  refine (f1 _).mono ?_
  clear f1
  rintro e w1 ⟨rfl, hb1⟩
  have hN := Near.refl w1
  go_upto_region 8 with fail
  have hC := hN.2
  have hq := quiet_near hN
  refine wp_region_quiet_below (by kernel_rfl) (by kernel_rfl) ?_
  repeat (first | go_big_quiet_skip | (go_big_quiet_want; go_big_quiet_op; first | go_big_quiet_on | (apply Exists.intro; refine ⟨fun _ => ?_, ?_⟩; (focus (first | (go_at_call 189; exact Calls.regrown_of (f2 _)))); go_big_quiet_on)))
  refine wpQuiet_nil ?_
  intro w1 hw1
  clear hq
  replace hw1 := quiet_ext hw1
  replace hN := hN.step hw1
  have hC := hN.2
  go_wp2
  go_ret3
  exact ⟨rfl, hb1.trans hw1⟩
end
end Go.Proofs.YtemkpimngbbpkaaGreat

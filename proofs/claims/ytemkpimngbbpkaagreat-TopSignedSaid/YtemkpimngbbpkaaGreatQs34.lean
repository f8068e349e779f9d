/- Security: the closure that puts a signature behind others. · Security: Protect, where it refuses at once. · Decoding: a block. · Decoding: block.Decode of a valid block. · Decoding: block.DecodeAll of valid blocks. · Decoding: the decoder of bundles. -/
import Derived.Test.YtemkpimngbbpkaaGreatQs29
import Derived.Test.YtemkpimngbbpkaaGreatQs30
import Derived.Test.YtemkpimngbbpkaaGreatQs31
import Derived.Test.YtemkpimngbbpkaaGreatQs33
namespace Go.Proofs.YtemkpimngbbpkaaGreat
set_option linter.unusedVariables false
set_option linter.unusedSimpArgs false
section
open Go.RowKit Go.Shelf
attribute [local go_sem] Oper.semAt_some
set_option maxRecDepth 100000 in
set_option maxHeartbeats 8000000 in
theorem putc_any (g : Nat) (x : Sg) (cur : Bts) (w : World) (hg : Blk w g 9 #[strV cur]) (hx : x.2.length = 8) (hc : cur.length <= 100000) :
 Calls Tryz.prog 48 #[.agg #[.int .i64 (x.1.toNat : Int), strV x.2], .pointer (some ⟨g, 0, none⟩)] w fun e w' => (∃ r, e = .returned r) /\ Blk w' g 9 #[strV (cur ++ (x.1 :: x.2))] /\ w.grownBy w' (some g) := by
 obtain ⟨nb, tg⟩ := x
 dsimp only at hx ⊢
 have hq1 : IntKind.u8.wrap (nb.toNat : Int) = (nb.toNat : Int) := by have := nb.toNat_lt; rw [IntKind.wrap_u8']; omega
 have hq2 : (nb.toNat : Int) % 256 = (nb.toNat : Int) := by have := nb.toNat_lt; omega
 obtain ⟨na, hna, hnv, hns⟩ := str_name [nb]
 obtain ⟨ta, hta, htv, hts⟩ := str_name tg
 obtain ⟨ua, hua, huv, hus⟩ := str_name ([nb] ++ tg)
 obtain ⟨ca, hca, hcv, hcs⟩ := str_name cur
 obtain ⟨va, hva, hvv, -⟩ := str_name (cur ++ ([nb] ++ tg))
 have e1 := str_cat [nb] tg hna hta hua
 have e2 := str_cat cur ([nb] ++ tg) hca hua hva
 simp only [List.length_append, List.length_cons, List.length_nil] at hns hus
 have z1 : na.size + ta.size <= 9223372036854775807 := by omega
 have z2 : ca.size + ua.size <= 9223372036854775807 := by omega
 have HVV := Lib.hid (show strV (cur ++ (nb :: tg)) = .string va from hvv)
 obtain ⟨W1, hW1, hB1, hk1, hl1⟩ := box1 w #[.int .i64 (nb.toNat : Int), strV tg] 131
 obtain ⟨W2, hW2, hB2, hk2, hl2⟩ := box1 W1 #[.int .u8 (nb.toNat : Int)] 5
 have cs := conv_str (P := Tryz.prog) W2 22 9 5 (some ⟨W1.heap.size, 0, none⟩) 1 [nb] Tryz.underlying22 Tryz.underlying5 Tryz.underlying9 (rd_blk hk2)
 simp only [List.length_cons, List.length_nil, Nat.zero_add, Nat.reduceAdd] at cs
 rw [hnv] at cs
 rw [hcv] at hg
 rw [htv] at hW1 hk1 ⊢
 have g1 := hg.ext hB1
 have c1 := g1.cell
 have c2 := g1.lt
 have c3 := g1.frozen
 have d1 := hk1.cell
 have g2 := g1.ext hB2
 have f1 := g2.cell
 have f2 := g2.lt
 have f3 := g2.frozen
 have k2 := hk1.ext hB2
 have m1 := k2.cell
 have m2 := k2.lt
 have hE := hB1.trans hB2
 clear hna hta hua hca hva hnv htv huv hcv hvv hns hus hts hcs
 go_enter Tryz.func48, Tryz.ntmps48
 go_wp2
 go_end0
 exact ⟨⟨_, rfl⟩, by rw [HVV.out]; exact g2.set0 _, grown_setCell (grown_ext (World.grownBy.refl w (some g)) hE) 0 _⟩
end
section
open Go.RowKit Go.Shelf
attribute [local go_sem] Oper.semAt_some
def zeroB : Array Value := #[.int .i64 0, .int .i64 0, .int .i64 0, .int .i64 0, .int .i64 0, .int .i64 0, .int .i64 0, .int .i64 0, .int .i64 0, .int .i64 0, .slice none 0 0, .string ⟨#[]⟩]
def ProtR (b : Bu) (node : Int) (key : Bts) (e : Ending) (w' : World) : Prop :=
 (protE b node key ≠ 0 /\ e = .returned (.tuple #[.agg zeroB, .int .i64 (protE b node key)])) ∨
 (protE b node key = 0 /\ ∃ A' c', e = .returned (.tuple #[.agg ((protB b node key).cells A' c'), .int .i64 0]) /\ Rd EBl w' A' (protB b node key).blocks)
theorem zeroB_sets : arrSets #[.int .i64 0, .int .i64 0, .int .i64 0, .int .i64 0, .int .i64 0, .int .i64 0, .int .i64 0, .int .i64 0, .int .i64 0, .int .i64 0, .slice none 0 0, .string ⟨#[]⟩] 0 [.int .i64 0, .int .i64 0, .int .i64 0, .int .i64 0, .int .i64 0, .int .i64 0, .int .i64 0, .int .i64 0, .int .i64 0, .int .i64 0, .slice none 0 0, .string ⟨#[]⟩] = #[.int .i64 0, .int .i64 0, .int .i64 0, .int .i64 0, .int .i64 0, .int .i64 0, .int .i64 0, .int .i64 0, .int .i64 0, .int .i64 0, .slice none 0 0, .string ⟨#[]⟩] := by
 simp [arrSets]
set_option maxRecDepth 100000 in
set_option maxHeartbeats 16000000 in
theorem prot_early (b : Bu) (A : Option Addr) (cap : Nat) (node : Int) (key : Bts) (w : World) (hR : Rd EBl w A b.blocks) (h : allE b node key ≠ 0 ∨ (findS (sigs b.auth.data) (nby node).toNat).isSome = true) :
 Calls Tryz.prog 12 #[.agg (b.cells A cap), .int .i64 node, strV key] w fun e w' => ProtR b node key e w' /\ Ext w w' := by
 have f1 := fun w h => all_any b A cap node key w h
 have HP := Lib.hid (show ∀ v, v ≠ 0 -> protE b node key = v -> ∀ w' : World, ProtR b node key (.returned (.tuple #[.agg zeroB, .int .i64 v])) w' from fun v h0 hv w' => .inl ⟨by rw [hv]; exact h0, by rw [hv]⟩)
 obtain ⟨ka, hka, -⟩ := strV_str key
 rw [hka] at f1 ⊢
 obtain ⟨pa, hpa, -⟩ := strV_str b.pay
 have hcs : b.cells A cap = #[.int .i64 b.src, .int .i64 b.cr, .int .i64 b.seq, .int .i64 b.off, .int .i64 b.tot, .int .i64 b.dk, .int .i64 b.dn, .int .i64 b.life, .int .i64 b.prio, .int .i64 b.flags, .slice A b.blocks.length cap, .string pa] := by unfold Bu.cells; rw [hpa]
 have HCS := Lib.hid hcs
 rw [hcs] at f1 ⊢
 obtain ⟨W1, hW1, hB1, hk1, hl1⟩ := box1 w #[.int .i64 b.src, .int .i64 b.cr, .int .i64 b.seq, .int .i64 b.off, .int .i64 b.tot, .int .i64 b.dk, .int .i64 b.dn, .int .i64 b.life, .int .i64 b.prio, .int .i64 b.flags, .slice A b.blocks.length cap, .string pa] 29
 obtain ⟨W2, hW2, hB2, hk2, hl2⟩ := box1 W1 #[.int .i64 node] 3
 obtain ⟨W3, hW3, hB3, hk3, hl3⟩ := box1 W2 #[.int .i64 0, .int .i64 0, .int .i64 0, .int .i64 0, .int .i64 0, .int .i64 0, .int .i64 0, .int .i64 0, .int .i64 0, .int .i64 0, .slice none 0 0, .string ⟨#[]⟩] 29
 have kb3 := (hk1.ext hB2).ext hB3
 have kn3 := hk2.ext hB3
 have c1 := kb3.cell
 have c2 := kb3.lt
 have c3 := kn3.cell
 have c4 := kn3.lt
 have hE3 := (hB1.trans hB2).trans hB3
 have y1 := hB1.size
 have y2 := hB2.size
 -- the end: the zero bundle is stored
 have fin : ∀ W, Ext W3 W -> ∃ w7, W.setCells W2.heap.size 0 [.int .i64 0, .int .i64 0, .int .i64 0, .int .i64 0, .int .i64 0, .int .i64 0, .int .i64 0, .int .i64 0, .int .i64 0, .int .i64 0, .slice none 0 0, .string ⟨#[]⟩] = w7 /\ Blk w7 W2.heap.size 29 #[.int .i64 0, .int .i64 0, .int .i64 0, .int .i64 0, .int .i64 0, .int .i64 0, .int .i64 0, .int .i64 0, .int .i64 0, .int .i64 0, .slice none 0 0, .string ⟨#[]⟩] /\ Ext w w7 := fun W hW => by
  have hs := (hk3.ext hW).setCells_ [.int .i64 0, .int .i64 0, .int .i64 0, .int .i64 0, .int .i64 0, .int .i64 0, .int .i64 0, .int .i64 0, .int .i64 0, .int .i64 0, .slice none 0 0, .string ⟨#[]⟩] 0
  rw [zeroB_sets] at hs
  exact ⟨_, rfl, hs, ext_setCells (hE3.trans hW) (by omega) 0 _⟩
 clear hka hpa hcs
 by_cases x1 : allE b node key = 0
 case neg =>
  have HX := Lib.hid (HP.out _ x1 (show protE b node key = allE b node key by unfold protE; rw [if_pos x1]))
  obtain ⟨u, hu⟩ : ∃ u, allE b node key = u := ⟨_, rfl⟩
  rw [hu] at f1 HX x1
  have hn0 : (u != 0) = true := by rw [bne_iff_ne]; exact x1
  clear hu x1 h HP
  go_enter Tryz.func12, Tryz.ntmps12
  go_wp2_with fail
  clear hW1 hW2 hW3
  refine (f1 _ (hR.ext hE3)).mono ?_
  rintro e w4 ⟨rfl, hb4⟩
  have k4 := hk3.ext hb4
  have d1 := k4.cell
  have d2 := k4.lt
  have d3 := k4.frozen
  obtain ⟨w7, hw7, hz7, hE7⟩ := fin w4 hb4
  clear c1 c2 c3 c4 fin
  go_wp2
  simp only [World.setCells, Nat.zero_add, Nat.reduceAdd] at hw7
  rw [hw7]
  have hc7 := hz7.cell
  refine bodyPost_ret (v := .tuple #[.agg zeroB, .int .i64 u]) (by rw [results_cell_tmp rfl]; simp [asAddr, Result.andThen, hc7, go_sem, zeroB]) rfl ?_
  exact ⟨HX.out _, hE7⟩
 have hfs : (findS (sigs b.auth.data) (nby node).toNat).isSome = true := h.resolve_left (fun h => h x1)
 have HX := Lib.hid (HP.out 6 (by omega) (show protE b node key = 6 by unfold protE; rw [if_neg (fun h => h x1), if_pos hfs]))
 rw [x1] at f1
 obtain ⟨a1, a2, a3, a4⟩ := allE_ok x1
 have f2 := fun w h => find_any b A cap node w h a1 a2
 rw [HCS.out] at f2
 rw [nby_toNat a2] at hfs
 cases hf : findS (sigs b.auth.data) node.toNat with
 | none => rw [hf] at hfs; cases hfs
 | some t =>
   rw [hf] at f2
   simp only [fdV] at f2
   obtain ⟨ta, hta, -⟩ := strV_str t
   rw [hta] at f2
   clear x1 h HP a1 a2 a3 a4 hf hfs hta
   go_enter Tryz.func12, Tryz.ntmps12
   go_wp2_with fail
   clear hW1 hW2 hW3
   refine (f1 _ (hR.ext hE3)).mono ?_
   rintro e w4 ⟨rfl, hb4⟩
   have e1 := (kb3.ext hb4).cell
   have e2 := (kb3.ext hb4).lt
   have e3 := (kn3.ext hb4).cell
   have e4 := (kn3.ext hb4).lt
   clear c1 c2 c3 c4
   go_wp2_with fail
   refine (f2 _ ((hR.ext hE3).ext hb4)).mono ?_
   rintro e w5 ⟨rfl, hb5⟩
   have hx5 := hb4.trans hb5
   have k4 := hk3.ext hx5
   have d1 := k4.cell
   have d2 := k4.lt
   have d3 := k4.frozen
   obtain ⟨w7, hw7, hz7, hE7⟩ := fin w5 hx5
   clear e1 e2 e3 e4 fin
   go_wp2
   simp only [World.setCells, Nat.zero_add, Nat.reduceAdd] at hw7
   rw [hw7]
   have hc7 := hz7.cell
   refine bodyPost_ret (v := .tuple #[.agg zeroB, .int .i64 6]) (by rw [results_cell_tmp rfl]; simp [asAddr, Result.andThen, hc7, go_sem, zeroB]) rfl ?_
   exact ⟨HX.out _, hE7⟩
end
section
open Go.RowKit Go.Shelf
attribute [local go_sem] Oper.semAt_some
theorem results_cell_t2 {fn : Func} {p q r : Tmp} {ty : TypeId} (h : fn.results = #[.cell p ty, .tmp q, .tmp r]) (tmps : Array Value) (P : Program) (w : World) {a : Addr} {u : Value}
 (hp : tmps.getD p undef = .pointer (some a)) (hu : (loadVar ty a).run P w = .ok u w) : (results fn tmps).run P w = .ok (.tuple #[u, tmps.getD q undef, tmps.getD r undef]) w := by
 have hp' : tmps[p]?.getD undef = .pointer (some a) := by simpa using hp
 simp [results, h, hp', asAddr, hu, Sem.run_bind, Result.andThen]
def FldR (g : Nat) (t : Bts) (a k : Nat) (v : Value) (w : World) (e : Ending) (w' : World) : Prop :=
 e = .returned v /\ Ups g w w' /\ Blk w' g 426 #[strV t, .int .i64 ((a + k : Nat) : Int), .int .i64 0]
set_option maxRecDepth 100000 in
set_option maxHeartbeats 4000000 in
theorem fieldI_ok (g : Nat) (t : Bts) (a : Nat) (n : Int) (r : Bts) (w : World) (hk : Blk w g 426 #[strV t, .int .i64 a, .int .i64 0]) (hs : t.length <= 1000000) (hn : -1152921504606846976 <= n /\ n <= 1152921504606846976) (hd : t.drop a = vint n ++ r) (ha : a <= t.length) :
 Calls Tryz.prog 329 #[.pointer (some ⟨g, 0, none⟩), .func (.func 190) #[] #[]] w (FldR g t a (vint n).length (.int .i64 n) w) := by
 unfold FldR
 have f1 := fun w => ReadInt_any (t.drop a) w (by rw [List.length_drop]; omega)
 rw [hd, rdI_vint hn] at f1
 dsimp only at f1
 have hsl := fun w => slice_from (P := Tryz.prog) 9 t a Tryz.underlying9 ha w
 have hex : ∀ ba : ByteArray, (⟨t.toArray⟩ : ByteArray) = ba -> ba.extract a ba.size = ⟨(vint n ++ r).toArray⟩ := fun ba h => by
  have hs := ba_size t
  rw [h] at hs
  rw [hs, ext_str h a t.length (Nat.le_refl _), List.take_of_length_le (by simp), hd]
 rw [hd] at hsl
 have hkl := vint_len n
 obtain ⟨k, hkk⟩ : ∃ k, (vint n).length = k := ⟨_, rfl⟩
 rw [hkk] at f1 hkl ⊢
 obtain ⟨X, hX⟩ : ∃ X, vint n ++ r = X := ⟨_, rfl⟩
 rw [hX] at f1 hsl hex
 obtain ⟨xb, hxb, hxv, -⟩ := str_name X
 obtain ⟨ba, hba, hbv, hbs⟩ := str_name t
 rw [hxv] at f1 hsl
 have hex := hex ba hba
 rw [hxb] at hex
 rw [hbv] at hk hsl ⊢
 rw [<- hbs] at ha
 have c1 := hk.cell
 have c2 := hk.lt
 clear hd hX hxb hxv hba hbv hkk
 have hN := Near.refl w
 go_enter Tryz.func329, Tryz.ntmps329
 go_upto_region 4 with fail
 have hC := hN.2
 have hq := quiet_near hN
 refine wp_region_quiet_below (by kernel_rfl) (by kernel_rfl) ?_
 repeat (first | go_big_quiet_skip | (go_big_quiet_want; go_big_quiet_op; first | go_big_quiet_on | (apply Exists.intro; refine ⟨fun _ => ?_, ?_⟩; (focus (first | (go_at_call 190; exact Calls.regrown_of (f1 _)))); go_big_quiet_on)))
 refine wpQuiet_nil ?_
 intro w1 hw1
 clear hq
 replace hw1 := quiet_ext hw1
 replace hN := hN.step hw1
 have hC := hN.2
 have hkw := hk.ext hw1
 clear c1 c2
 have c1 := hkw.cell
 have c2 := hkw.lt
 have c3 := hkw.frozen
 go_wp2
 go_ret
 exact ⟨rfl, (Ups.of_ext hw1).setCell 1 _, hkw.set_ 1 _⟩
set_option maxRecDepth 100000 in
set_option maxHeartbeats 4000000 in
theorem fieldT_ok (g : Nat) (t : Bts) (a : Nat) (x : Bts) (r : Bts) (w : World) (hk : Blk w g 426 #[strV t, .int .i64 a, .int .i64 0]) (hs : t.length <= 1000000) (hn : x.length <= 65536) (hd : t.drop a = vtext x ++ r) (ha : a <= t.length) :
 Calls Tryz.prog 330 #[.pointer (some ⟨g, 0, none⟩), .func (.func 191) #[] #[]] w (FldR g t a (vtext x).length (strV x) w) := by
 unfold FldR
 have f1 := fun w => ReadText_any (t.drop a) w (by rw [List.length_drop]; omega)
 rw [hd, rdT_vtext hn] at f1
 dsimp only at f1
 have hsl := fun w => slice_from (P := Tryz.prog) 9 t a Tryz.underlying9 ha w
 have hex : ∀ ba : ByteArray, (⟨t.toArray⟩ : ByteArray) = ba -> ba.extract a ba.size = ⟨(vtext x ++ r).toArray⟩ := fun ba h => by
  have hs := ba_size t
  rw [h] at hs
  rw [hs, ext_str h a t.length (Nat.le_refl _), List.take_of_length_le (by simp), hd]
 rw [hd] at hsl
 have hkl := vtext_len x
 obtain ⟨k, hkk⟩ : ∃ k, (vtext x).length = k := ⟨_, rfl⟩
 rw [hkk] at f1 hkl ⊢
 obtain ⟨X, hX⟩ : ∃ X, vtext x ++ r = X := ⟨_, rfl⟩
 rw [hX] at f1 hsl hex
 obtain ⟨xb, hxb, hxv, -⟩ := str_name X
 obtain ⟨yb, hyb, hyv, -⟩ := str_name x
 obtain ⟨ba, hba, hbv, hbs⟩ := str_name t
 rw [hxv, hyv] at f1
 rw [hxv] at hsl
 rw [hyv]
 have hex := hex ba hba
 rw [hxb] at hex
 rw [hbv] at hk hsl ⊢
 rw [<- hbs] at ha
 have c1 := hk.cell
 have c2 := hk.lt
 clear hd hX hxb hxv hba hbv hkk hyb hyv
 have hN := Near.refl w
 go_enter Tryz.func330, Tryz.ntmps330
 go_upto_region 4 with fail
 have hC := hN.2
 have hq := quiet_near hN
 refine wp_region_quiet_below (by kernel_rfl) (by kernel_rfl) ?_
 repeat (first | go_big_quiet_skip | (go_big_quiet_want; go_big_quiet_op; first | go_big_quiet_on | (apply Exists.intro; refine ⟨fun _ => ?_, ?_⟩; (focus (first | (go_at_call 191; exact Calls.regrown_of (f1 _)))); go_big_quiet_on)))
 refine wpQuiet_nil ?_
 intro w1 hw1
 clear hq
 replace hw1 := quiet_ext hw1
 replace hN := hN.step hw1
 have hC := hN.2
 have hkw := hk.ext hw1
 clear c1 c2
 have c1 := hkw.cell
 have c2 := hkw.lt
 have c3 := hkw.frozen
 go_wp2
 go_ret
 exact ⟨rfl, (Ups.of_ext hw1).setCell 1 _, hkw.set_ 1 _⟩
set_option maxHeartbeats 1000000 in
theorem bnum_ok (g : Nat) (t : Bts) (a : Nat) (n : Int) (r : Bts) (w : World) (hk : Blk w g 426 #[strV t, .int .i64 a, .int .i64 0]) (hs : t.length <= 1000000) (hn : -1152921504606846976 <= n /\ n <= 1152921504606846976) (hd : t.drop a = vint n ++ r) (ha : a <= t.length) :
 Calls Tryz.prog 303 #[.pointer (some ⟨g, 0, none⟩)] w (FldR g t a (vint n).length (.int .i64 n) w) := by
 have f1 := fieldI_ok g t a n r w hk hs hn hd ha
 unfold FldR at f1 ⊢
 generalize (vint n).length = k at *
 generalize strV t = sv at *
 clear hd
 go_enter Tryz.func303, Tryz.ntmps303
 go_wp2_with fail
 refine f1.mono ?_
 rintro e w1 ⟨rfl, hu1, hk1⟩
 go_wp2
 go_ret
 exact ⟨rfl, hu1, hk1⟩
set_option maxHeartbeats 1000000 in
theorem btext_ok (g : Nat) (t : Bts) (a : Nat) (x : Bts) (r : Bts) (w : World) (hk : Blk w g 426 #[strV t, .int .i64 a, .int .i64 0]) (hs : t.length <= 1000000) (hn : x.length <= 65536) (hd : t.drop a = vtext x ++ r) (ha : a <= t.length) :
 Calls Tryz.prog 304 #[.pointer (some ⟨g, 0, none⟩)] w (FldR g t a (vtext x).length (strV x) w) := by
 have f1 := fieldT_ok g t a x r w hk hs hn hd ha
 unfold FldR at f1 ⊢
 generalize (vtext x).length = k at *
 generalize strV t = sv at *
 generalize strV x = xv at *
 clear hd
 go_enter Tryz.func304, Tryz.ntmps304
 go_wp2_with fail
 refine f1.mono ?_
 rintro e w1 ⟨rfl, hu1, hk1⟩
 go_wp2
 go_ret
 exact ⟨rfl, hu1, hk1⟩
end
section
open Go.RowKit Go.Shelf
attribute [local go_sem] Oper.semAt_some
set_option maxRecDepth 100000 in
set_option maxHeartbeats 8000000 in
theorem bDecode_ok (b : Bl) (r : Bts) (w : World) (he : b.err = 0) (hl : (b.enc ++ r).length <= 1000000) :
 Calls Tryz.prog 256 #[strV (b.enc ++ r)] w fun e w' => e = .returned (.tuple #[.agg #[.int .i64 b.kind, .int .i64 b.flags, strV b.data], .int .i64 (b.enc.length : Nat), .int .i64 0]) /\ Ext w w' := by
 obtain ⟨q1, q2, q3⟩ := blErr_ok he
 have f1 := fun w => Open_any (b.enc ++ r) w hl
 obtain ⟨t, ht⟩ : ∃ t, vint b.kind ++ vint b.flags ++ vtext b.data = t := ⟨_, rfl⟩
 have x1 := vint_len b.kind
 have x2 := vint_len b.flags
 have x3 := vtext_len b.data
 have htl : t.length = (vint b.kind).length + (vint b.flags).length + (vtext b.data).length := by rw [<- ht]; simp only [List.length_append]
 have e1 : opn (b.enc ++ r) = (0, t, b.enc.length) := by
  have : b.enc = sealB t := by rw [<- ht]; rfl
  rw [this, opn_seal (by omega)]
 rw [e1] at f1
 dsimp only at f1
 have d0 : t.drop 0 = vint b.kind ++ (vint b.flags ++ vtext b.data) := by rw [<- ht, List.drop_zero, List.append_assoc]
 have d1 : t.drop (vint b.kind).length = vint b.flags ++ vtext b.data := by rw [<- ht, List.append_assoc, List.drop_left]
 have d2 : t.drop ((vint b.kind).length + (vint b.flags).length) = vtext b.data ++ [] := by rw [<- ht, <- List.length_append, List.drop_left, List.append_nil]
 have f2 := fun g w hk => bnum_ok g t 0 b.kind (vint b.flags ++ vtext b.data) w hk (by omega) (by omega) d0 (by omega)
 have f3 := fun g w hk => bnum_ok g t (vint b.kind).length b.flags (vtext b.data) w hk (by omega) (by omega) d1 (by omega)
 have f4 := fun g w hk => btext_ok g t ((vint b.kind).length + (vint b.flags).length) b.data [] w hk (by omega) (by omega) d2 (by omega)
 have f5 := fun w => blChk_any b w
 rw [he] at f5
 unfold FldR at f2 f3 f4
 generalize (vint b.kind).length = k1 at *
 generalize (vint b.flags).length = k2 at *
 generalize (vtext b.data).length = k3 at *
 rw [Nat.zero_add] at f2
 generalize b.enc.length = sz at *
 obtain ⟨sv, hsv⟩ : ∃ sv, strV (b.enc ++ r) = sv := ⟨_, rfl⟩
 rw [hsv] at f1 ⊢
 obtain ⟨kd, hkd⟩ : ∃ kd, b.kind = kd := ⟨_, rfl⟩
 obtain ⟨fl, hfl⟩ : ∃ fl, b.flags = fl := ⟨_, rfl⟩
 obtain ⟨db, hdb, hdv, -⟩ := str_name b.data
 obtain ⟨tb, htb, htv, hts⟩ := str_name t
 rw [hkd] at f2 f5
 rw [hfl] at f3 f5
 rw [hdv] at f4 f5
 rw [htv] at f1 f2 f3 f4
 rw [hkd, hfl, hdv]
 rw [htl] at hts
 clear e1 d0 d1 d2 ht htl hsv hkd hfl hdb hdv htb htv hl he
 obtain ⟨W0, hW0, hB0, hk0, hl0⟩ := box1 w #[.int .i64 0, .int .i64 0, .string ⟨#[]⟩] 116
 go_enter Tryz.func256, Tryz.ntmps256
 go_wp2_with fail
 clear hW0
 refine (f1 _).mono ?_
 clear f1
 rintro e w1 ⟨rfl, hb1⟩
 obtain ⟨W2, hW2, hB2, hk2, hl2⟩ := box1 w1 #[.string tb, .int .i64 0, .int .i64 0] 426
 have c2 := hk2.cell
 go_wp2_with fail
 clear hW2
 refine (f2 _ _ hk2).mono ?_
 clear f2
 rintro e w3 ⟨rfl, hu3, hk3⟩
 clear c2
 have c3 := hk3.cell
 go_wp2_with fail
 refine (f3 _ _ hk3).mono ?_
 clear f3
 rintro e w4 ⟨rfl, hu4, hk4⟩
 clear c3
 have hE4 := (hu3.trans hu4).ext (hB0.trans (hb1.trans hB2)) (hB0.trans hb1).size
 have hz0 := (hu3.trans hu4).blk ((hk0.ext hb1).ext hB2) (by have := hB0.size; have := hb1.size; omega)
 obtain ⟨V5, hV5, hV5e, hv5, hvl5⟩ := box1 w4 #[.int .i64 0, .int .i64 0, .string ⟨#[]⟩] 116
 obtain ⟨W5, hW5, hk5, hB5⟩ : ∃ W5, V5.setCells w4.heap.size 0 [.int .i64 kd, .int .i64 fl, .string ⟨#[]⟩] = W5 /\ Blk W5 w4.heap.size 116 #[.int .i64 kd, .int .i64 fl, .string ⟨#[]⟩] /\ Ext w4 W5 :=
  ⟨_, rfl, hv5.setCells_ [.int .i64 kd, .int .i64 fl, .string ⟨#[]⟩] 0, ext_setCells hV5e (Nat.le_refl _) 0 _⟩
 simp only [World.setCells, Nat.zero_add, Nat.reduceAdd] at hW5
 have v1 := hv5.cell
 have v2 := hv5.lt
 have v3 := hv5.frozen
 have hk4' := hk4.ext hB5
 go_upto_region 7 with fail
 (try rw [hW5])
 clear hW5 hV5 v1 v2 v3 hv5 hvl5
 go_wp2_with fail
 refine (f4 _ _ hk4').mono ?_
 clear f4
 rintro e w6 ⟨rfl, hu6, hk6⟩
 have g1 := hB0.size
 have g2 := hb1.size
 have g3 := hB2.size
 have g4 := (hu3.trans hu4).size
 have g5 := hB5.size
 have g6 := hu6.size
 have hb6 := hu6.blk hk5 (by omega)
 have hz6 := hu6.blk (hz0.ext hB5) (by omega)
 have hE6 := hu6.ext (hE4.trans hB5) (by omega)
 have v1 := hb6.cell
 have v2 := hb6.lt
 have v3 := hb6.frozen
 obtain ⟨W7, hW7, hb7, hk7, hz7, hE7⟩ : ∃ W7, w6.setCell ⟨w4.heap.size, 2, none⟩ (.string db) = W7 /\ Blk W7 w4.heap.size 116 #[.int .i64 kd, .int .i64 fl, .string db] /\ Blk W7 w1.heap.size 426 #[.string tb, .int .i64 ((k1 + k2 + k3 : Nat) : Int), .int .i64 0] /\ Blk W7 w.heap.size 116 #[.int .i64 0, .int .i64 0, .string ⟨#[]⟩] /\ Ext w W7 :=
  ⟨_, rfl, hb6.set_ 2 _, hk6.far (by show w1.heap.size ≠ w4.heap.size; omega) _, hz6.far (by show w.heap.size ≠ w4.heap.size; omega) _, hE6.setCell (by show w.heap.size <= w4.heap.size; omega) _⟩
 go_upto_region 8 with fail
 (try rw [hW7])
 clear hW7 v1 v2 v3
 have v1 := hb7.cell
 have v2 := hb7.lt
 have c7 := hk7.cell
 have l7 := hk7.lt
 go_wp2_with fail
 refine (f5 _).mono ?_
 clear f5
 rintro e w8 ⟨rfl, hb8⟩
 have hb9 := hb7.ext hb8
 have hz9 := hz7.ext hb8
 have hE9 := hE7.trans hb8
 clear v1 v2 c7 l7
 have v1 := hb9.cell
 have v2 := hb9.lt
 have z1 := hz9.cell
 have z2 := hz9.lt
 have z3 := hz9.frozen
 obtain ⟨WX, hWX, hkX, hBX⟩ : ∃ WX, w8.setCells w.heap.size 0 [.int .i64 kd, .int .i64 fl, .string db] = WX /\ Blk WX w.heap.size 116 #[.int .i64 kd, .int .i64 fl, .string db] /\ Ext w WX :=
  ⟨_, rfl, hz9.setCells_ [.int .i64 kd, .int .i64 fl, .string db] 0, ext_setCells hE9 (Nat.le_refl _) 0 _⟩
 simp only [World.setCells, Nat.zero_add, Nat.reduceAdd] at hWX
 go_wp2
 (try rw [hWX])
 have hcX := hkX.cell
 refine bodyPost_ret (v := .tuple #[.agg #[.int .i64 kd, .int .i64 fl, .string db], .int .i64 (sz : Int), .int .i64 0]) (by rw [results_cell_t2 rfl (a := ⟨w.heap.size, 0, none⟩) (u := .agg #[.int .i64 kd, .int .i64 fl, .string db]) _ _ _ rfl (by simp [hcX, go_sem])]; rfl) rfl ?_
 exact ⟨rfl, hBX⟩
end
section
open Go.RowKit Go.Shelf
attribute [local go_sem] Oper.semAt_some
theorem drop_app {t a b : Bts} {k : Nat} (h : t.drop k = a ++ b) : t.drop (k + a.length) = b := by rw [<- List.drop_drop, h, List.drop_left]
def encK (l : List Bl) (k : Nat) : Nat := (vint l.length).length + ((l.take k).flatMap Bl.enc).length
theorem encK_drop (l : List Bl) (r : Bts) (k : Nat) : (encAll l ++ r).drop (encK l k) = (l.drop k).flatMap Bl.enc ++ r := by
 unfold encAll encK
 rw [List.append_assoc, <- List.drop_drop, List.drop_left]
 have : l.flatMap Bl.enc = (l.take k).flatMap Bl.enc ++ (l.drop k).flatMap Bl.enc := by rw [<- List.flatMap_append, List.take_append_drop]
 rw [this, List.append_assoc, List.drop_left]
theorem encK_succ (l : List Bl) (k : Nat) (hk : k < l.length) : encK l (k + 1) = encK l k + l[k].enc.length := by
 unfold encK
 rw [<- List.take_append_getElem hk, List.flatMap_append]
 simp only [List.flatMap_cons, List.flatMap_nil, List.append_nil, List.length_append]
 omega
theorem encK_all (l : List Bl) : encK l l.length = (encAll l).length := by
 unfold encK encAll
 rw [List.take_length, List.length_append]
theorem encK_le (l : List Bl) (r : Bts) (k : Nat) : encK l k <= (encAll l ++ r).length := by
 unfold encK encAll
 have : l.flatMap Bl.enc = (l.take k).flatMap Bl.enc ++ (l.drop k).flatMap Bl.enc := by rw [<- List.flatMap_append, List.take_append_drop]
 rw [this]
 simp only [List.length_append]
 omega
set_option maxRecDepth 100000 in
set_option maxHeartbeats 8000000 in
theorem decAll_ok (l : List Bl) (r : Bts) (w : World) (hv : blksE l = 0) (hl : (encAll l ++ r).length <= 1000000) :
 Calls Tryz.prog 193 #[strV (encAll l ++ r)] w fun e w' => ∃ A c, e = .returned (.tuple #[.slice A l.length c, .int .i64 ((encAll l).length : Nat), .int .i64 0]) /\ Owns EBl w' w.heap.size 116 (.slice A l.length c) l /\ Ext w w' := by
 obtain ⟨hn8, hok, hasc⟩ := blksE_ok.1 hv
 have f1 := fun w => ReadInt_any (encAll l ++ r) w hl
 have e1 : rdI (encAll l ++ r) = (0, (l.length : Int), encK l 0) := by
  unfold encAll
  rw [List.append_assoc, rdI_vint (by omega)]
  rfl
 rw [e1] at f1
 dsimp only at f1
 have hdr := fun k => encK_drop l r k
 have hle := fun k => encK_le l r k
 have HA := Lib.hid (encK_all l)
 have HS := Lib.hid (fun k hk => encK_succ l k hk)
 obtain ⟨T, hT⟩ : ∃ T, encAll l ++ r = T := ⟨_, rfl⟩
 rw [hT] at f1 hdr hle hl ⊢
 obtain ⟨p, hp⟩ : ∃ p, encK l = p := ⟨_, rfl⟩
 rw [hp] at f1 hdr hle HA HS
 rw [<- HA.out]
 have f2 : ∀ (k : Nat) (hk : k < l.length) (w : World), Calls Tryz.prog 256 #[strV (T.drop (p k))] w fun e w' => e = .returned (.tuple #[.agg #[.int .i64 l[k].kind, .int .i64 l[k].flags, strV l[k].data], .int .i64 (l[k].enc.length : Nat), .int .i64 0]) /\ Ext w w' := fun k hk w => by
  have hd := hdr k
  rw [List.drop_eq_getElem_cons hk, List.flatMap_cons, List.append_assoc] at hd
  have hL : (T.drop (p k)).length <= 1000000 := by rw [List.length_drop]; omega
  rw [hd] at hL ⊢
  exact bDecode_ok l[k] _ w (hok _ (List.getElem_mem hk)) hL
 have hsl := fun k w => slice_from (P := Tryz.prog) 9 T (p k) Tryz.underlying9 (hle k) w
 obtain ⟨Tb, hTb, hTv, hTs⟩ := str_name T
 rw [hTv] at f1 hsl ⊢
 have F2 := Lib.hid f2
 have HSL := Lib.hid hsl
 have HEX := Lib.hid (fun k => show Tb.extract (p k) Tb.size = ⟨(T.drop (p k)).toArray⟩ by
  rw [hTs, ext_str hTb (p k) T.length (Nat.le_refl _), List.take_of_length_le (by simp)])
 have HLE := Lib.hid (fun k => show p k <= Tb.size by rw [hTs]; exact hle k)
 have HT := Lib.hid (show Tb.size <= 1000000 by rw [hTs]; exact hl)
 have HAS := Lib.hid hasc
 have HOK := Lib.hid hok
 obtain ⟨i0, hi0, hz0, hz1, hz2⟩ := info_parts info_block
 clear hT hp hTb hTv hTs e1 hv hok hdr hle f2 hsl hl hasc
 go_enter Tryz.func193, Tryz.ntmps193
 go_wp2_with fail
 refine (f1 _).mono ?_
 clear f1
 rintro e w1 ⟨rfl, hb1⟩
 go_wp2_with fail
 go_loopg [6, 8, 28] l.length (fun m va vo vi wr => ∃ (k : Nat) (out : List Bl), k + m = l.length /\ vi = .int .i64 k /\ va = .int .i64 (p k : Nat) /\ Hid (out = l.take k) /\ out.length = k /\ Owns EBl wr w.heap.size 116 vo out /\ Ext w wr)
 case atStart => exact ⟨0, [], by omega, by go_num, rfl, Lib.hid rfl, rfl, Owns.none_ _ _, hb1⟩
 case round =>
  obtain ⟨k, out, hkn, rfl, rfl, hof, hol, ho, hE⟩ := hrel
  have Hkn := Lib.hid hkn
  obtain ⟨A1, c1, rfl, hR1⟩ := ho.form
  by_cases hlt : k < l.length
  ·have h2 := F2.out k hlt
   have hsl := HSL.out k
   have hex := HEX.out k
   have hle := HLE.out k
   have hsu := Lib.hid (HS.out k hlt)
   have hT := HT.out
   have hst := Lib.hid (show out ++ [l[k]] = l.take (k + 1) by rw [hof.out, List.take_append_getElem])
   have hpl : (l[k].enc.length : Nat) <= 1100 := blEnc_len (HOK.out _ (List.getElem_mem hlt))
   have hasc : Hid (∀ (j : Nat) (hj : j < out.length), out[j].kind < l[k].kind) := Lib.hid (fun j hj => by
    have h1 := List.pairwise_iff_getElem.1 HAS.out j k (by omega) hlt (by omega)
    have h2 : out[j] = l[j]'(by omega) := by simp only [hof.out, List.getElem_take]
    rw [h2]
    exact h1)
   obtain ⟨X, hX⟩ : ∃ X, T.drop (p k) = X := ⟨_, rfl⟩
   rw [hX] at h2 hsl hex
   obtain ⟨xb, hxb, hxv, -⟩ := str_name X
   rw [hxb] at hex
   rw [hxv] at h2 hsl
   have hst' := hst.out
   generalize l[k] = x at *
   obtain ⟨sz, hsz⟩ : ∃ sz, x.enc.length = sz := ⟨_, rfl⟩
   rw [hsz] at h2 hsu hpl
   obtain ⟨kd, hkd⟩ : ∃ kd, x.kind = kd := ⟨_, rfl⟩
   obtain ⟨fl, hfl⟩ : ∃ fl, x.flags = fl := ⟨_, rfl⟩
   obtain ⟨db, hdb, hdv, -⟩ := str_name x.data
   rw [hkd, hfl, hdv] at h2
   rw [hkd] at hasc
   have HC2 := Lib.hid (show (EBl.cells x).toArray = #[.int .i64 kd, .int .i64 fl, .string db] by
    show #[Value.int .i64 x.kind, .int .i64 x.flags, strV x.data] = _
    rw [hkd, hfl, hdv])
   obtain ⟨P, hP⟩ : ∃ P, p k = P := ⟨_, rfl⟩
   have HP := Lib.hid hP
   rw [hP] at hsl hex hle ⊢
   clear hX hxb hxv hsz hkd hfl hdb hdv hP hst' hkn
   go_wp2_with fail
   refine (h2 _).mono ?_
   clear h2
   rintro e w2 ⟨rfl, hb2⟩
   have hE2 := hE.trans hb2
   have ho2 := ho.ext hb2
   obtain ⟨V5, hV5, hV5e, hv5, hvl5⟩ := box1 w2 #[.int .i64 0, .int .i64 0, .string ⟨#[]⟩] 116
   obtain ⟨W5, hW5, hk5, hB5⟩ : ∃ W5, V5.setCells w2.heap.size 0 [.int .i64 kd, .int .i64 fl, .string db] = W5 /\ Blk W5 w2.heap.size 116 #[.int .i64 kd, .int .i64 fl, .string db] /\ Ext w2 W5 :=
    ⟨_, rfl, hv5.setCells_ [.int .i64 kd, .int .i64 fl, .string db] 0, ext_setCells hV5e (Nat.le_refl _) 0 _⟩
   simp only [World.setCells, Nat.zero_add, Nat.reduceAdd] at hW5
   have v1 := hv5.cell
   have v2 := hv5.lt
   have v3 := hv5.frozen
   have hE5 := hE2.trans hB5
   have ho5 := ho2.ext hB5
   go_upto_region 12 with fail
   (try rw [hW5])
   clear hW5 hV5 v1 v2 v3 hv5 hvl5
   have d1 := hk5.cell
   have d2 := hk5.lt
   have hN := Near.refl W5
   have hC := hN.2
   have hg5 := hE5.size
   cases k with
   | zero =>
     have hq := quiet_near hN
     refine wp_region_quiet_below (by kernel_rfl) (by kernel_rfl) ?_
     repeat (first | go_big_quiet_skip | (go_big_quiet_want; go_big_quiet_op; first | go_big_quiet_on | (apply Exists.intro; refine ⟨fun _ => ?_, ?_⟩; (focus (first | fail)); go_big_quiet_on)))
     refine wpQuiet_nil ?_
     intro w1 hw1
     clear hq
     replace hw1 := quiet_ext hw1
     replace hN := hN.step hw1
     have hC := hN.2
     have d3 := (hk5.ext hw1).cell
     have d4 := (hk5.ext hw1).lt
     have hE6 := hE5.trans hw1
     have ho6 := ho5.ext hw1
     have g6 := hE6.size
     rw [hol] at ho6
     clear d1 d2
     go_wp2_with (at_builtin; refine wpList_push (y := x) rfl (.tmp 56) (.tmp 58) _ (by rfl) w.heap.size 116 i0 _ 32 Tryz.underlying27 hi0 hz0 hz1 hz2 (by rfl) (.slice A1 0 c1) (by rfl) (ho6.ext ((Ext.refl _).alloc _)) w1.heap.size (by rfl) (by rw [HC2.out]; exact Blk.new w1 _ _) (by rw [hol]; simp only [maxLen]; omega) (by rw [hol]; omega) (by simp; omega) ?_; intro v7 w7 hv7 hg7 hat7)
     go_roundg (gk - 1)
     case measure => have := Hkn.out; omega
     case rel => exact ⟨1, out ++ [x], by have := Hkn.out; omega, by go_num, by rw [hsu.out, HP.out]; go_num, hst, by rw [List.length_append, hol]; rfl, hv7, ext_grown (hE6.alloc _) (ho6.ext ((Ext.refl _).alloc _)) (Nat.le_refl _) hg7⟩
   | succ j =>
     have hj : j < out.length := by omega
     obtain ⟨gb, go, rfl, hbl, x0, x1, x2⟩ := ho5.rd.bl hj
     have hlt2 := hasc.out j hj
     obtain ⟨oj, hoj⟩ : ∃ oj, out[j].kind = oj := ⟨_, rfl⟩
     rw [hoj] at x0 hlt2
     have hdk : decide (kd <= oj) = false := decide_eq_false (by omega)
     clear x1 x2 hoj
     have hq := quiet_near hN
     refine wp_region_quiet_below (by kernel_rfl) (by kernel_rfl) ?_
     repeat (first | go_big_quiet_skip | (go_big_quiet_want; go_big_quiet_op; first | go_big_quiet_on | (apply Exists.intro; refine ⟨fun _ => ?_, ?_⟩; (focus (first | fail)); go_big_quiet_on)))
     refine wpQuiet_nil ?_
     intro w1 hw1
     clear hq
     replace hw1 := quiet_ext hw1
     replace hN := hN.step hw1
     have hC := hN.2
     have d3 := (hk5.ext hw1).cell
     have d4 := (hk5.ext hw1).lt
     have hE6 := hE5.trans hw1
     have ho6 := ho5.ext hw1
     have g6 := hE6.size
     rw [hol] at ho6
     clear d1 d2
     go_wp2_with (at_builtin; refine wpList_push (y := x) rfl (.tmp 56) (.tmp 58) _ (by rfl) w.heap.size 116 i0 _ 32 Tryz.underlying27 hi0 hz0 hz1 hz2 (by rfl) (.slice (some ⟨gb, go, none⟩) (j + 1) c1) (by rfl) (ho6.ext ((Ext.refl _).alloc _)) w1.heap.size (by rfl) (by rw [HC2.out]; exact Blk.new w1 _ _) (by rw [hol]; simp only [maxLen]; omega) (by rw [hol]; omega) (by simp; omega) ?_; intro v7 w7 hv7 hg7 hat7)
     go_roundg (gk - 1)
     case measure => have := Hkn.out; omega
     case rel => exact ⟨j + 2, out ++ [x], by have := Hkn.out; omega, by go_num, by rw [hsu.out, HP.out]; go_num, hst, by rw [List.length_append, hol]; rfl, hv7, ext_grown (hE6.alloc _) (ho6.ext ((Ext.refl _).alloc _)) (Nat.le_refl _) hg7⟩
  ·obtain rfl : k = l.length := by have := Hkn.out; omega
   have hfull := hof.out
   rw [List.take_length] at hfull
   subst hfull
   rw [<- hol] at *
   go_wp2
   go_ret3
   exact ⟨_, _, rfl, ho, hE⟩
end
section
open Go.RowKit Go.Shelf
attribute [local go_sem] Oper.semAt_some
set_option maxHeartbeats 1000000 in
theorem drest_ok (g : Nat) (t : Bts) (a : Nat) (w : World) (hk : Blk w g 214 #[strV t, .int .i64 a, .bool false]) (ha : a <= t.length) :
 Calls Tryz.prog 113 #[.pointer (some ⟨g, 0, none⟩)] w fun e w' => e = .returned (strV (t.drop a)) /\ Ext w w' := by
 have hsl := fun w => slice_from (P := Tryz.prog) 9 t a Tryz.underlying9 ha w
 obtain ⟨ba, hba, hbv, hbs⟩ := str_name t
 have hex : ba.extract a ba.size = ⟨(t.drop a).toArray⟩ := by
  rw [hbs, ext_str hba a t.length (Nat.le_refl _), List.take_of_length_le (by simp)]
 obtain ⟨X, hX⟩ : ∃ X, t.drop a = X := ⟨_, rfl⟩
 rw [hX] at hsl hex ⊢
 obtain ⟨xb, hxb, hxv, -⟩ := str_name X
 rw [hxb] at hex
 rw [hxv] at hsl ⊢
 rw [hbv] at hk hsl
 rw [<- hbs] at ha
 have c1 := hk.cell
 have c2 := hk.lt
 clear hX hxb hxv hba hbv
 have hN := Near.refl w
 go_enter Tryz.func113, Tryz.ntmps113
 go_upto_region 1 with fail
 have hC := hN.2
 have hq := quiet_near hN
 refine wp_region_quiet_below (by kernel_rfl) (by kernel_rfl) ?_
 repeat (first | go_big_quiet_skip | (go_big_quiet_want; go_big_quiet_op; first | go_big_quiet_on | (apply Exists.intro; refine ⟨fun _ => ?_, ?_⟩; (focus (first | fail)); go_big_quiet_on)))
 refine wpQuiet_nil ?_
 intro w1 hw1
 clear hq
 replace hw1 := quiet_ext hw1
 replace hN := hN.step hw1
 have hC := hN.2
 go_wp2
 go_ret
 exact ⟨rfl, hw1⟩
set_option maxHeartbeats 1000000 in
theorem pass_ok (g : Nat) (u : Value) (a k : Nat) (w : World) (hk : Blk w g 214 #[u, .int .i64 a, .bool false]) (hb : a + k <= 4000000) :
 Calls Tryz.prog 192 #[.pointer (some ⟨g, 0, none⟩), .int .i64 k, .int .i64 0] w fun e w' => e = .returned (.tuple #[]) /\ Ups g w w' /\ Blk w' g 214 #[u, .int .i64 ((a + k : Nat) : Int), .bool false] := by
 have c1 := hk.cell
 have c2 := hk.lt
 have c3 := hk.frozen
 have hk1 := hk.set_ 1 (.bool false)
 obtain ⟨W1, hW1, hk1, hu1⟩ : ∃ W1, w.setCell ⟨g, 2, none⟩ (.bool false) = W1 /\ Blk W1 g 214 #[u, .int .i64 a, .bool false] /\ Ups g w W1 :=
  ⟨_, rfl, hk.set_ 2 _, (Ups.refl g w).setCell 2 _⟩
 go_enter Tryz.func192, Tryz.ntmps192
 go_upto_region 1 with fail
 (try rw [hW1])
 clear hW1 c1 c2 c3
 have c1 := hk1.cell
 have c2 := hk1.lt
 have c3 := hk1.frozen
 go_wp2
 go_end0
 exact ⟨rfl, hu1.setCell 1 _, hk1.set_ 1 _⟩
def DecR (g : Nat) (t : Bts) (a k : Nat) (v : Value) (w : World) (e : Ending) (w' : World) : Prop :=
 e = .returned v /\ Ups g w w' /\ Blk w' g 214 #[strV t, .int .i64 ((a + k : Nat) : Int), .bool false]
set_option maxRecDepth 100000 in
set_option maxHeartbeats 2000000 in
theorem dint_ok (g : Nat) (t : Bts) (a : Nat) (n : Int) (r : Bts) (w : World) (hk : Blk w g 214 #[strV t, .int .i64 a, .bool false]) (hs : t.length <= 1000000) (hn : -1152921504606846976 <= n /\ n <= 1152921504606846976) (hd : t.drop a = vint n ++ r) (ha : a <= t.length) :
 Calls Tryz.prog 111 #[.pointer (some ⟨g, 0, none⟩)] w (DecR g t a (vint n).length (.int .i64 n) w) := by
 unfold DecR
 have f0 := drest_ok g t a w hk ha
 have f1 := fun w => ReadInt_any (t.drop a) w (by rw [List.length_drop]; omega)
 rw [hd, rdI_vint hn] at f1
 rw [hd] at f0
 dsimp only at f1
 have hkl := vint_len n
 have f2 := fun u w hk => pass_ok g u a (vint n).length w hk (by omega)
 generalize (vint n).length = k at *
 generalize strV (vint n ++ r) = xv at *
 generalize strV t = tv at *
 have c2 := hk.lt
 clear hd
 go_enter Tryz.func111, Tryz.ntmps111
 go_wp2_with fail
 refine f0.mono ?_
 rintro e w1 ⟨rfl, hb1⟩
 go_wp2_with fail
 refine (f1 _).mono ?_
 rintro e w2 ⟨rfl, hb2⟩
 have hk2 := (hk.ext hb1).ext hb2
 go_wp2_with fail
 refine (f2 _ _ hk2).mono ?_
 rintro e w3 ⟨rfl, hu3, hk3⟩
 go_wp2
 go_ret
 exact ⟨rfl, (Ups.of_ext (hb1.trans hb2)).trans hu3, hk3⟩
set_option maxRecDepth 100000 in
set_option maxHeartbeats 2000000 in
theorem dtext_ok (g : Nat) (t : Bts) (a : Nat) (x : Bts) (r : Bts) (w : World) (hk : Blk w g 214 #[strV t, .int .i64 a, .bool false]) (hs : t.length <= 1000000) (hn : x.length <= 65536) (hd : t.drop a = vtext x ++ r) (ha : a <= t.length) :
 Calls Tryz.prog 110 #[.pointer (some ⟨g, 0, none⟩)] w (DecR g t a (vtext x).length (strV x) w) := by
 unfold DecR
 have f0 := drest_ok g t a w hk ha
 have f1 := fun w => ReadText_any (t.drop a) w (by rw [List.length_drop]; omega)
 rw [hd, rdT_vtext hn] at f1
 rw [hd] at f0
 dsimp only at f1
 have hkl := vtext_len x
 have f2 := fun u w hk => pass_ok g u a (vtext x).length w hk (by omega)
 generalize (vtext x).length = k at *
 generalize strV (vtext x ++ r) = xv at *
 generalize strV t = tv at *
 generalize strV x = yv at *
 have c2 := hk.lt
 clear hd
 go_enter Tryz.func110, Tryz.ntmps110
 go_wp2_with fail
 refine f0.mono ?_
 rintro e w1 ⟨rfl, hb1⟩
 go_wp2_with fail
 refine (f1 _).mono ?_
 rintro e w2 ⟨rfl, hb2⟩
 have hk2 := (hk.ext hb1).ext hb2
 go_wp2_with fail
 refine (f2 _ _ hk2).mono ?_
 rintro e w3 ⟨rfl, hu3, hk3⟩
 go_wp2
 go_ret
 exact ⟨rfl, (Ups.of_ext (hb1.trans hb2)).trans hu3, hk3⟩
set_option maxRecDepth 100000 in
set_option maxHeartbeats 2000000 in
theorem dblocks_ok (g : Nat) (t : Bts) (a : Nat) (l : List Bl) (r : Bts) (w : World) (hk : Blk w g 214 #[strV t, .int .i64 a, .bool false]) (hs : t.length <= 1000000) (hv : blksE l = 0) (hd : t.drop a = encAll l ++ r) (ha : a <= t.length) :
 Calls Tryz.prog 112 #[.pointer (some ⟨g, 0, none⟩)] w fun e w' => ∃ A c, DecR g t a (encAll l).length (.slice A l.length c) w e w' /\ Owns EBl w' w.heap.size 116 (.slice A l.length c) l := by
 unfold DecR
 have f0 := drest_ok g t a w hk ha
 have f1 := fun w => decAll_ok l r w hv (by rw [<- hd, List.length_drop]; omega)
 rw [hd] at f0
 have hkl := encAll_len hv
 have f2 := fun u w hk => pass_ok g u a (encAll l).length w hk (by omega)
 generalize (encAll l).length = k at *
 generalize strV (encAll l ++ r) = xv at *
 generalize strV t = tv at *
 have c2 := hk.lt
 clear hd
 go_enter Tryz.func112, Tryz.ntmps112
 go_wp2_with fail
 refine f0.mono ?_
 rintro e w1 ⟨rfl, hb1⟩
 go_wp2_with fail
 refine (f1 _).mono ?_
 rintro e w2 ⟨A, c, rfl, ho, hb2⟩
 have hk2 := (hk.ext hb1).ext hb2
 have g1 := hb1.size
 go_wp2_with fail
 refine (f2 _ _ hk2).mono ?_
 rintro e w3 ⟨rfl, hu3, hk3⟩
 go_wp2
 go_ret
 exact ⟨A, c, ⟨rfl, (Ups.of_ext (hb1.trans hb2)).trans hu3, hk3⟩, (hu3.owns ho (by omega)).mono (by omega)⟩
end
end Go.Proofs.YtemkpimngbbpkaaGreat

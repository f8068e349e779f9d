/- Security: Protect, where it puts the signature. -/
import Derived.Laws.EntriesVeiled
import Derived.Test.YtemkpimngbbpkaaGreatQs34
namespace Go.Proofs.YtemkpimngbbpkaaGreat
set_option linter.unusedVariables false
set_option linter.unusedSimpArgs false
open Go.RowKit Go.Shelf
attribute [local go_sem] Oper.semAt_some
theorem putF_8 (m : Sg) (hm : m.2.length = 8) : ∀ (l : List Sg) (s : List Sg × Bool), (∀ x ∈ l, x.2.length = 8) -> (∀ x ∈ s.1, x.2.length = 8) -> (∀ x ∈ (l.foldl (putS m) s).1, x.2.length = 8) /\ (l.foldl (putS m) s).1.length <= s.1.length + l.length + (if s.2 then 0 else 1)
 | [], s, _, h2 => ⟨h2, by simp⟩
 | x :: r, s, h1, h2 => by
   rw [List.foldl_cons]
   have hx := h1 x (by simp)
   have h2' : ∀ y ∈ (putS m s x).1, y.2.length = 8 := by
    intro y hy
    unfold putS at hy
    split at hy
    ·simp only [List.mem_append, List.mem_cons, List.not_mem_nil, or_false] at hy
     rcases hy with hy | hy | hy
     ·exact h2 y hy
     ·subst hy; exact hm
     ·subst hy; exact hx
    ·simp only [List.mem_append, List.mem_cons, List.not_mem_nil, or_false] at hy
     rcases hy with hy | hy
     ·exact h2 y hy
     ·subst hy; exact hx
   obtain ⟨a, b⟩ := putF_8 m hm r (putS m s x) (fun y hy => h1 y (by simp [hy])) h2'
   refine ⟨a, Nat.le_trans b ?_⟩
   obtain ⟨o, dn⟩ := s
   cases dn
   ·by_cases h : m.1.toNat < x.1.toNat
    ·simp [putS, h]; omega
    ·simp [putS, h]; omega
   ·simp [putS]; omega
theorem putR_8 {m : Sg} (hm : m.2.length = 8) {l : List Sg} (h : ∀ x ∈ l, x.2.length = 8) : (∀ x ∈ (putR m l).1, x.2.length = 8) /\ (sflat (putR m l).1).length <= 9 * (l.length + 1) := by
 obtain ⟨a, b⟩ := putF_8 m hm l ([], false) h (by simp)
 refine ⟨a, ?_⟩
 unfold putR
 rw [sflat_len a]
 simp at b
 omega
theorem sflat_one (l : List Sg) (x : Sg) : sflat (l ++ [x]) = sflat l ++ (x.1 :: x.2) := by simp [sflat]
theorem sflat_two (l : List Sg) (m x : Sg) : sflat (l ++ [m, x]) = sflat l ++ (m.1 :: m.2) ++ (x.1 :: x.2) := by simp [sflat]
theorem kpP_grown {n : Nat} {S : Nat -> Prop} {A B C : World} {row : Option Nat} (h : KpP n S A B) (hg : B.grownBy C row) (hr : ∀ r, row = some r -> S r ∨ n <= r) (hn : n <= A.heap.size) : KpP n S A C :=
 ⟨hg.os.trans h.os, hg.tape.trans h.tape, hg.output.trans h.output, Nat.le_trans h.size hg.size, fun k h1 h2 => (hg.block k (Nat.lt_of_lt_of_le h1 (Nat.le_trans hn h.size)) (fun e => by
  rcases hr k e.symm with h3 | h3
  ·exact h2 h3
  ·omega)).trans (h.block k h1 h2)⟩
theorem keeps_of_blk {w w' : World} {g : Nat} {t : TypeId} {cs : Array Value} (hb : Blk w g t cs) (hg : w.grownBy w' (some g)) : KeepsOthers w w' :=
 KeepsOthers.of_grownBy hg (fun j ob e ho => by
  injection e with e
  subst e
  have h9 : w.heap[g]? = some (.cells _ _ (0, 0)) := hb
  rw [h9] at ho
  injection ho with ho
  subst ho
  rfl)
theorem arrSets12 (v0 v1 v2 v3 v4 v5 v6 v7 v8 v9 v10 v11 : Value) : arrSets #[.int .i64 0, .int .i64 0, .int .i64 0, .int .i64 0, .int .i64 0, .int .i64 0, .int .i64 0, .int .i64 0, .int .i64 0, .int .i64 0, .slice none 0 0, .string ⟨#[]⟩] 0 [v0, v1, v2, v3, v4, v5, v6, v7, v8, v9, v10, v11] = #[v0, v1, v2, v3, v4, v5, v6, v7, v8, v9, v10, v11] := by
 simp [arrSets]
def PuI (m : Sg) (gd ge gs N : Nat) (w8 : World) (pre : List Sg8) (W : World) : Prop :=
 Blk W gd 9 #[strV (sflat (putR m (un8 pre)).1)] /\ Blk W ge 4 #[.bool (putR m (un8 pre)).2] /\ KpP N (fun b => b = gd ∨ b = ge ∨ b = gs) w8 W
theorem puI_ab {m : Sg} {gd ge gs N : Nat} {w8 : World} (h1 : gd < N /\ gd ≠ gs) (h2 : ge < N /\ ge ≠ gs) (hN : N <= w8.heap.size) : AbM (fun r => r = gs) N (PuI m gd ge gs N w8) := by
 intro s A C row ⟨a1, a2, a3⟩ hg hr
 exact ⟨a1.kept hg (ab_ne h1 hr), a2.kept hg (ab_ne h2 hr), kpP_grown a3 hg (fun r e => (hr r e).imp (fun h => .inr (.inr h)) id) hN⟩
set_option maxRecDepth 100000 in
set_option maxHeartbeats 32000000 in
theorem prot_main (b : Bu) (A : Option Addr) (cap : Nat) (node : Int) (key : Bts) (w : World) (hR : Rd EBl w A b.blocks) (h0 : allE b node key = 0) (hnf : findS (sigs b.auth.data) (nby node).toNat = none) :
 Calls Tryz.prog 12 #[.agg (b.cells A cap), .int .i64 node, strV key] w fun e w' => ProtR b node key e w' /\ Ext w w' := by
 obtain ⟨a1, a2, a3, a4⟩ := allE_ok h0
 have hblk := buE_blocks a1
 have hl8 := (blksE_ok.1 hblk).1
 have f1 := fun w h => all_any b A cap node key w h
 have f2 := fun w h => find_any b A cap node w h a1 a2
 have f3 := fun w h => sign_any b A cap node key w h a1 a2 a3
 have f4 := fun w h => auth_any b A cap w h (by omega)
 have f6 := fun w bb h => put_any A cap b.blocks bb w h hblk
 have hpe : Hid (protE b node key = if (b.newAuth node key).err ≠ 0 then (b.newAuth node key).err else if 8 < (putK b.blocks (b.newAuth node key)).length then 4 else 0) := Lib.hid (by unfold protE; rw [if_neg (fun h => h h0), if_neg (by rw [hnf]; simp)])
 rw [h0] at f1
 rw [nby_toNat a2] at hnf
 rw [hnf] at f2
 simp only [fdV] at f2
 have hdl := auth_len a1
 have hm8 : ((nby node, signT b node key) : Sg).2.length = 8 := wby_len _
 have hnw : Hid (b.newAuth node key = ⟨4, b.auth.flags, sflat (insS (nby node, signT b node key) (sigs b.auth.data))⟩) := Lib.hid rfl
 have hmn : ((nby node).toNat : Int) = node := by rw [nby_toNat a2]; omega
 obtain ⟨M, hM⟩ : ∃ M : Sg, (nby node, signT b node key) = M := ⟨_, rfl⟩
 have hM1 : (M.1.toNat : Int) = node := by rw [<- hM]; exact hmn
 have hM2 : signT b node key = M.2 := by rw [<- hM]
 rw [hM] at hm8 hnw
 rw [hM2] at f3
 obtain ⟨d, hd⟩ : ∃ d, b.auth.data = d := ⟨_, rfl⟩
 rw [hd] at f4 hdl hnw
 have f5 := fun w => sig_any d w
 have hst := fun B S w kb hB => sig8_stops B S d w (by omega) kb hB
 obtain ⟨da, hda, -⟩ := strV_str d
 rw [hda] at f4 f5 hst
 obtain ⟨kd, hkd⟩ : ∃ kd, b.auth.kind = kd := ⟨_, rfl⟩
 obtain ⟨fl, hfl⟩ : ∃ fl, b.auth.flags = fl := ⟨_, rfl⟩
 rw [hkd, hfl] at f4
 rw [hfl] at hnw
 obtain ⟨is, his⟩ : ∃ is, (findK b.blocks 4).isSome = is := ⟨_, rfl⟩
 rw [his] at f4
 obtain ⟨sa, hsa, -⟩ := strV_str M.2
 have HSA := Lib.hid hsa
 rw [hsa] at f3
 obtain ⟨ka, hka, -⟩ := strV_str key
 rw [hka] at f1 f3 ⊢
 obtain ⟨pa, hpa, -⟩ := strV_str b.pay
 have hcs : ∀ A' c', (b.cells A' c') = #[.int .i64 b.src, .int .i64 b.cr, .int .i64 b.seq, .int .i64 b.off, .int .i64 b.tot, .int .i64 b.dk, .int .i64 b.dn, .int .i64 b.life, .int .i64 b.prio, .int .i64 b.flags, .slice A' b.blocks.length c', .string pa] := fun A' c' => by unfold Bu.cells; rw [hpa]
 have HPA := Lib.hid hpa
 rw [hcs] at f1 f2 f3 ⊢
 obtain ⟨W1, hW1, hB1, hk1, hl1⟩ := box1 w #[.int .i64 b.src, .int .i64 b.cr, .int .i64 b.seq, .int .i64 b.off, .int .i64 b.tot, .int .i64 b.dk, .int .i64 b.dn, .int .i64 b.life, .int .i64 b.prio, .int .i64 b.flags, .slice A b.blocks.length cap, .string pa] 29
 obtain ⟨W2, hW2, hB2, hk2, hl2⟩ := box1 W1 #[.int .i64 node] 3
 obtain ⟨W3, hW3, hB3, hk3, hl3⟩ := box1 W2 #[.int .i64 0, .int .i64 0, .int .i64 0, .int .i64 0, .int .i64 0, .int .i64 0, .int .i64 0, .int .i64 0, .int .i64 0, .int .i64 0, .slice none 0 0, .string ⟨#[]⟩] 29
 have kb3 := (hk1.ext hB2).ext hB3
 have kn3 := hk2.ext hB3
 have c1 := kb3.cell
 have c2 := kb3.lt
 have c3 := kn3.cell
 have c4 := kn3.lt
 have hE3 := (hB1.trans hB2).trans hB3
 have y1 := hB1.size
 have y2 := hB2.size
 have y3 := hB3.size
 have hen : ∀ args w, (callFunc 48 args).run Tryz.prog w = .ok (.enter 48 args) w := enters_of Tryz.func48 (by kernel_rfl) rfl
 have HM1 := Lib.hid hM1
 have Hm8 := Lib.hid hm8
 clear hM2 hd hda hkd hfl his hsa hka hpa hcs hM h0 hnf a1 a2 a3 a4 hblk hM1 hm8 hmn
 refine (callsIn_wide (n := 5)).1 ?_
 refine callsIn_of_wp_marks Tryz.func12 rfl trivial ?_ rfl
 refine wpIn_wide.2 ?_
 refine Code.wp_mono NoPanic.imp ?_
 simp only [Tryz.ntmps12, List.size_toArray, List.length_cons, List.length_nil, Nat.reduceAdd, Nat.reduceSub, Array.replicate_succ, Array.replicate_zero, List.push_toArray, List.append_toArray, List.nil_append, List.cons_append]
 go_wp2_with fail
 clear hW1 hW2 hW3
 refine (f1 _ (hR.ext hE3)).mono ?_
 clear f1
 rintro e w4 ⟨rfl, hx4⟩
 have p1 := (kb3.ext hx4).cell
 have p2 := (kb3.ext hx4).lt
 have p3 := (kn3.ext hx4).cell
 have p4 := (kn3.ext hx4).lt
 clear c1 c2 c3 c4
 go_wp2_with fail
 refine (f2 _ ((hR.ext hE3).ext hx4)).mono ?_
 clear f2
 rintro e w5 ⟨rfl, hb5⟩
 have hx5 := hx4.trans hb5
 have q1 := (kb3.ext hx5).cell
 have q2 := (kb3.ext hx5).lt
 have q3 := (kn3.ext hx5).cell
 have q4 := (kn3.ext hx5).lt
 clear p1 p2 p3 p4 hx4 hb5
 go_wp2_with fail
 refine (f3 _ ((hR.ext hE3).ext hx5)).mono ?_
 clear f3
 rintro e w6 ⟨rfl, hb6⟩
 have hx6 := hx5.trans hb6
 have p1 := (kb3.ext hx6).cell
 have p2 := (kb3.ext hx6).lt
 have p3 := (kn3.ext hx6).cell
 have p4 := (kn3.ext hx6).lt
 clear q1 q2 q3 q4 hx5 hb6
 go_wp2_with fail
 refine (f4 _ ((hR.ext hE3).ext hx6)).mono ?_
 clear f4
 rintro e w7 ⟨rfl, hb7⟩
 have hx7 := hx6.trans hb7
 have kb7 := kb3.ext hx7
 have kn7 := kn3.ext hx7
 have kz7 := hk3.ext hx7
 have n1 := kn7.cell
 have n2 := kn7.lt
 clear p1 p2 p3 p4 hx6 hb7
 obtain ⟨V1, hV1, hC1, ka1, _⟩ := box1 w7 #[.int .i64 kd, .int .i64 fl, .string da] 116
 obtain ⟨U2, hU2, hD2, kd2, _⟩ := box1 V1 #[.string ⟨#[]⟩] 9
 have s1 := kd2.cell
 have s2 := kd2.lt
 have s3 := kd2.frozen
 have ka2 := kd2.set0 (.string ⟨#[]⟩)
 have hC2 := hD2.setCell (p := ⟨V1.heap.size, 0, none⟩) (Nat.le_refl _) (.string ⟨#[]⟩)
 obtain ⟨V2, hV2⟩ : ∃ V2, U2.setCell ⟨V1.heap.size, 0, none⟩ (.string ⟨#[]⟩) = V2 := ⟨_, rfl⟩
 rw [hV2] at ka2 hC2
 obtain ⟨V3, hV3, hC3, ka3, _⟩ := box1 V2 #[.func (.func 48) #[] #[.pointer (some ⟨V1.heap.size, 0, none⟩)]] 132
 have kn10 := ((kn7.ext hC1).ext hC2).ext hC3
 have n3 := kn10.cell
 have n4 := kn10.lt
 obtain ⟨V4, hV4, hC4, ka4, _⟩ := box1 V3 #[.int .i64 node, .string sa] 131
 obtain ⟨U5, hU5, hD5, kd5, _⟩ := box1 V4 #[.bool false] 4
 have s4 := kd5.cell
 have s5 := kd5.lt
 have s6 := kd5.frozen
 have ka5 := kd5.set0 (.bool false)
 have hC5 := hD5.setCell (p := ⟨V4.heap.size, 0, none⟩) (Nat.le_refl _) (.bool false)
 obtain ⟨V5, hV5⟩ : ∃ V5, U5.setCell ⟨V4.heap.size, 0, none⟩ (.bool false) = V5 := ⟨_, rfl⟩
 rw [hV5] at ka5 hC5
 have t1 := hC1.size
 have t2 := hC2.size
 have t3 := hC3.size
 have t4 := hC4.size
 have t5 := hC5.size
 have hV := (hC1.trans hC2).trans ((hC3.trans hC4).trans hC5)
 have kau := (((ka1.ext hC2).ext hC3).ext hC4).ext hC5
 have u1 := kau.cell
 have u2 := kau.lt
 go_wp2_with fail
 clear hV1 hV2 hV3 hV4 hV5 hU2 hU5 s1 s2 s3 s4 s5 s6
 refine (f5 _).mono ?_
 clear f5
 rintro e w8 ⟨rfl, hb8, hs8, z1⟩
 have y8 := hb8.size
 have hV8 := hV.trans hb8
 have hE7 := hE3.trans hx7
 have hE8 := hE7.trans hV8
 have t7 := hx7.size
 have v2 := ka2.lt
 have v5 := ka5.lt
 have kn8 := kn7.ext hV8
 have kf8 := ((ka3.ext hC4).ext hC5).ext hb8
 have km8 := (ka4.ext hC5).ext hb8
 have kau8 := kau.ext hb8
 have kb8 := kb7.ext hV8
 have kz8 := kz7.ext hV8
 obtain ⟨ix, hix⟩ : ∃ ix : Array Value, #[Value.int .i64 b.src, .int .i64 b.cr, .int .i64 b.seq, .int .i64 b.off, .int .i64 b.tot, .int .i64 b.dk, .int .i64 b.dn, .int .i64 b.life, .int .i64 b.prio, .int .i64 b.flags, .slice A b.blocks.length cap, .string pa] = ix := ⟨_, rfl⟩
 have hixs : ix.size = 12 := by rw [<- hix]; rfl
 rw [hix]
 clear hix hixs
 clear u1 u2 n1 n2 n3 n4
 go_wp2_with fail
 refine (wpIn_wide (n := 5)).1 ?_
 refine wpIn_rangeM rfl (by omega) (gf := 129) (lb := #[.pointer (some ⟨V5.heap.size, 0, none⟩)]) rfl trivial (enters_of Tryz.func129 (by kernel_rfl) rfl)
  (hst V5.heap.size (fun b => b = V1.heap.size ∨ b = V4.heap.size) w8 z1 (by omega)) (fun r hr => by subst hr; omega)
  KpQ.trans (fun W l o o' hl h1 h2 => KpQ.put W l o o' h1 h2) (Below.refl _ _) (fun _ => rfl)
  (PuI M V1.heap.size V4.heap.size V5.heap.size w8.heap.size w8) (fun _ _ _ => False) (puI_ab ⟨by omega, by omega⟩ ⟨by omega, by omega⟩ (Nat.le_refl _)) (fun _ _ _ _ _ hs _ _ => hs.elim)
  ⟨(((ka2.ext hC3).ext hC4).ext hC5).ext hb8, ka5.ext hb8, KpP.refl _ _ _⟩
  (fun x a' W => ∃ b1, Blk W b1 131 #[.int .i64 (x.1.1.toNat : Int), strV x.1.2] /\ V5.heap.size < b1 /\ a' = { tmps := #[.agg ix, .int .i64 node, .string ka, .pointer (some ⟨w.heap.size, 0, none⟩), .pointer (some ⟨W1.heap.size, 0, none⟩), undef, .pointer (some ⟨W2.heap.size, 0, none⟩), .int .i64 0, .int .i64 0, .string ⟨#[]⟩, .bool false, .string sa, .int .i64 0, .pointer (some ⟨w7.heap.size, 0, none⟩), .bool is, .pointer (some ⟨V1.heap.size, 0, none⟩), .pointer (some ⟨V2.heap.size, 0, none⟩), .pointer (some ⟨V3.heap.size, 0, none⟩), .pointer (some ⟨V4.heap.size, 0, none⟩), .pointer (some ⟨b1, 0, none⟩), undef, .agg ix, .int .i64 node, .string ka, .int .i64 0, .int .i64 0, .bool false, undef, undef, .tuple #[.string ⟨#[]⟩, .bool false], .agg ix, .int .i64 node, .tuple #[.string ⟨#[]⟩, .bool false], .string ⟨#[]⟩, .bool false, .bool false, undef, .tuple #[.string sa, .int .i64 0], .agg ix, .int .i64 node, .string ka, .tuple #[.string sa, .int .i64 0], .string sa, .int .i64 0, .int .i64 0, .bool false, undef, undef, .tuple #[.agg #[.int .i64 kd, .int .i64 fl, .string da], .bool is], .pointer (some ⟨w.heap.size, 10, none⟩), .slice A b.blocks.length cap, .tuple #[.agg #[.int .i64 kd, .int .i64 fl, .string da], .bool is], .agg #[.int .i64 kd, .int .i64 fl, .string da], .bool is, .func (.func 48) #[] #[.pointer (some ⟨V1.heap.size, 0, none⟩)], .int .i64 node, .string sa, .agg #[.int .i64 node, .string sa], .pointer (some ⟨w7.heap.size, 2, none⟩), .string da, .func (.func 129) #[] #[.pointer (some ⟨V5.heap.size, 0, none⟩)], .agg #[.int .i64 (x.1.1.toNat : Int), strV x.1.2], undef, undef, undef, undef, undef, undef, undef, undef, undef, undef, undef, undef, undef, undef, undef, undef, undef, undef, undef, undef, undef, undef, undef, undef, undef, undef, undef, undef, undef, undef, undef, undef, undef, undef, undef, undef], defers := [] })
  (fun x a' s X Y row hs hg hr => by obtain ⟨b1, z1, z2, z3⟩ := hs; exact ⟨b1, z1.keptc hg (fun r e => (hr r e).2), z2, z3⟩) ?assign ?body ?done ?stop
 case assign =>
  rintro li pre x W K ⟨i1, i2, i3⟩ hK
  simp only [sg8V]
  have i4 := i3.size
  have e1 := ((Ext.refl W).alloc (.cells #[.int .i64 (x.1.1.toNat : Int), strV x.1.2] 131))
  obtain ⟨ta, hta, -⟩ := strV_str x.1.2
  rw [hta] at e1 hK ⊢
  gi_wp2
  exact hK _ _ (e1.keeps.from _) (KpQ.of_ext e1) ⟨i1.ext e1, i2.ext e1, i3.trans (KpP.of_ext i4 e1)⟩ ⟨W.heap.size, Blk.new W _ _, by omega, rfl⟩
 case body =>
  rintro li pre x a' W ⟨i1, i2, i3⟩ ⟨b1, kb1, hb1, rfl⟩ hlen
  obtain ⟨⟨nb, tg⟩, h8⟩ := x
  dsimp only at kb1 h8 ⊢
  have hsn : putR M (un8 (pre ++ [⟨(nb, tg), h8⟩])) = putS M (putR M (un8 pre)) (nb, tg) := by rw [un8_snoc, putR_snoc]
  have hbd := (putR_8 Hm8.out (un8_8 pre)).2
  rw [un8_len] at hbd
  obtain ⟨R, hRR⟩ : ∃ R, putR M (un8 pre) = R := ⟨_, rfl⟩
  rw [hRR] at hsn hbd i1 i2
  obtain ⟨o, dn⟩ := R
  dsimp only at hbd i1 i2
  have HSN := Lib.hid hsn
  have cx := fun cur w h1 h2 => putc_any V1.heap.size (nb, tg) cur w h1 h8 h2
  have cm := fun cur w h1 h2 => putc_any V1.heap.size M cur w h1 Hm8.out h2
  rw [HSA.out, HM1.out] at cm
  obtain ⟨ta, hta, -⟩ := strV_str tg
  dsimp only at cx
  rw [hta] at kb1 cx ⊢
  have i4 := i3.size
  have kn := i3.blk kn8 (by omega) (by omega)
  have kf := i3.blk kf8 (by omega) (by omega)
  have km := i3.blk km8 (by omega) (by omega)
  have j1 := kn.cell
  have j2 := kn.lt
  have j3 := kf.cell
  have j4 := kf.lt
  have j5 := km.cell
  have j6 := km.lt
  have j7 := kb1.cell
  have j8 := kb1.lt
  have d1 := i2.cell
  have d2 := i2.lt
  have d3 := i2.frozen
  obtain ⟨cur, hcur⟩ : ∃ cur, sflat o = cur := ⟨_, rfl⟩
  rw [hcur] at hbd i1
  have HCUR := Lib.hid hcur
  have kox : ∀ W', W.grownBy W' (some V1.heap.size) -> KeepsOthers W W' := fun W' hg => KeepsOthers.of_grownBy hg (fun j ob e ho => by
   injection e with e
   subst e
   have h9 : W.heap[V1.heap.size]? = some (.cells _ _ (0, 0)) := i1
   rw [h9] at ho
   injection ho with ho
   subst ho
   rfl)
  clear hsn hRR hta hcur
  cases dn
  case true =>
   have HP := Lib.hid (show putS M (o, true) (nb, tg) = (o ++ [(nb, tg)], true) from rfl)
   gi_wp2_with (refine ⟨trivial, ?_⟩; gi_at_call 48; refine (CallsIn.inRound _ (callsIn_wide.2 (cx cur W i1 (by omega)))).mono ?_; rintro e W9 ⟨⟨r9, rfl⟩, k9, g9⟩)
   refine ⟨(kox _ g9).from _, KpQ.grown g9 (fun r e => .inl (by injection e with e; exact e.symm)), ?_, ?_, kpP_grown i3 g9 (fun r e => .inl (.inl (by injection e with e; exact e.symm))) (Nat.le_refl _)⟩
   ·rw [HSN.out, HP.out, sflat_one, HCUR.out]; exact k9
   ·rw [HSN.out, HP.out]; exact i2.kept g9 (fun e => by injection e with e; omega)
  case false =>
   have hMn := HM1.out
   by_cases hlt : node < (nb.toNat : Int)
   ·have HP := Lib.hid (show putS M (o, false) (nb, tg) = (o ++ [M, (nb, tg)], true) by unfold putS; rw [if_pos]; simp; omega)
    clear hMn
    gi_wp2_with fail
    refine ⟨trivial, ?_⟩
    refine (CallsIn.inRound _ (callsIn_wide.2 (cm cur W i1 (by omega)))).mono ?_
    rintro e Wm ⟨⟨rm, rfl⟩, kdm, gm⟩
    have dm := i2.kept gm (fun e => by injection e with e; omega)
    have m1 := dm.cell
    have m2 := dm.lt
    have m3 := dm.frozen
    have kfm := (kf.kept gm (fun e => by injection e with e; omega)).far (p := ⟨V4.heap.size, 0, none⟩) (show V2.heap.size ≠ V4.heap.size by omega) (.bool true)
    have kxm := (kb1.kept gm (fun e => by injection e with e; omega)).far (p := ⟨V4.heap.size, 0, none⟩) (show b1 ≠ V4.heap.size by omega) (.bool true)
    have kdn := kdm.far (p := ⟨V4.heap.size, 0, none⟩) (show V1.heap.size ≠ V4.heap.size by omega) (.bool true)
    have dn2 := dm.set0 (.bool true)
    obtain ⟨Wn, hWn⟩ : ∃ Wn, Wm.setCell ⟨V4.heap.size, 0, none⟩ (.bool true) = Wn := ⟨_, rfl⟩
    rw [hWn] at kfm kxm kdn dn2
    have o1 := kfm.cell
    have o2 := kfm.lt
    have o3 := kxm.cell
    have o4 := kxm.lt
    have hdl2 : (cur ++ (M.1 :: M.2)).length <= 100000 := by rw [List.length_append, List.length_cons, Hm8.out]; omega
    clear d1 d2 d3 j1 j2 j3 j4 j5 j6 j7 j8
    gi_wp2_with fail
    refine ⟨trivial, ?_⟩
    refine (CallsIn.inRound _ (callsIn_wide.2 (cx _ Wn kdn hdl2))).mono ?_
    rintro e W9 ⟨⟨r9, rfl⟩, k9, g9⟩
    gi_wp2
    refine ⟨(((keeps_of_blk i1 gm).trans (by rw [<- hWn]; exact KeepsOthers.setCell _ _ _)).trans (keeps_of_blk kdn g9)).from _, ((KpQ.grown gm (fun r e => .inl (by injection e with e; exact e.symm))).trans (by rw [<- hWn]; exact (KpQ.refl _ Wm).setCell (.inr rfl) _ _)).trans (KpQ.grown g9 (fun r e => .inl (by injection e with e; exact e.symm))), ?_, ?_, kpP_grown (by rw [<- hWn]; exact (kpP_grown i3 gm (fun r e => .inl (.inl (by injection e with e; exact e.symm))) (Nat.le_refl _)).setCell (.inl (.inr (.inl rfl))) _ _) g9 (fun r e => .inl (.inl (by injection e with e; exact e.symm))) (Nat.le_refl _)⟩
    ·rw [HSN.out, HP.out, sflat_two, HCUR.out]; exact k9
    ·rw [HSN.out, HP.out]; exact dn2.kept g9 (fun e => by injection e with e; omega)
   ·have HP := Lib.hid (show putS M (o, false) (nb, tg) = (o ++ [(nb, tg)], false) by unfold putS; rw [if_neg]; simp; omega)
    have hnl : ¬ node < (nb.toNat : Int) := hlt
    clear hMn
    gi_wp2_with (refine ⟨trivial, ?_⟩; gi_at_call 48; refine (CallsIn.inRound _ (callsIn_wide.2 (cx cur W i1 (by omega)))).mono ?_; rintro e W9 ⟨⟨r9, rfl⟩, k9, g9⟩)
    refine ⟨(kox _ g9).from _, KpQ.grown g9 (fun r e => .inl (by injection e with e; exact e.symm)), ?_, ?_, kpP_grown i3 g9 (fun r e => .inl (.inl (by injection e with e; exact e.symm))) (Nat.le_refl _)⟩
    ·rw [HSN.out, HP.out, sflat_one, HCUR.out]; exact k9
    ·rw [HSN.out, HP.out]; exact i2.kept g9 (fun e => by injection e with e; omega)
 case stop =>
  rintro D c pre W _ _ h _
  exact h.elim
 case done =>
  rintro D xs W hDD hF ⟨i1, i2, i3⟩ hK
  have hF2 : un8 xs = sigs d := hF
  rw [hF2] at i1 i2
  have i4 := i3.size
  have hd2 := (DSx.nil w8.heap.size w.heap.size W).cons hDD (by omega) hK
  clear hK hF hF2
  have hbd := (putR_8 Hm8.out (l := sigs d) sigs_8).2
  rw [sigs_len] at hbd
  have hins := putR_ins M (sigs d)
  obtain ⟨R, hRR⟩ : ∃ R, putR M (sigs d) = R := ⟨_, rfl⟩
  rw [hRR] at hbd hins i1 i2
  obtain ⟨o, dn⟩ := R
  dsimp only at hbd hins i1 i2
  obtain ⟨nd, hnd⟩ : ∃ nd, sflat (insS M (sigs d)) = nd := ⟨_, rfl⟩
  have HNW := Lib.hid (show b.newAuth node key = ⟨4, fl, nd⟩ by rw [hnw.out, hnd])
  rw [<- hins] at hnd
  obtain ⟨nda, hnda, -⟩ := strV_str nd
  have HNDA := Lib.hid hnda
  have d1 := i2.cell
  have d2 := i2.lt
  clear hRR hins
  cases dn
  case true =>
   have hnd2 : sflat o = nd := by simpa using hnd
   rw [hnd2] at i1
   clear hnd hnd2
   have hEz := i3.ext hE8 (by omega) (fun k hk => by rcases hk with hk | hk | hk <;> subst hk <;> omega)
   have kbz := i3.blk kb8 (by omega) (by omega)
   have kaz := i3.blk kau8 (by omega) (by omega)
   have kzz := i3.blk kz8 (by omega) (by omega)
   have f7 := f6 W ⟨4, fl, nd⟩ (hR.ext hEz)
   dsimp only at f7
   rw [hnda] at f7
   rw [HNDA.out] at i1
   have z1 := kbz.cell
   have z2 := kbz.lt
   have z3 := kaz.cell
   have z4 := kaz.lt
   have z5 := i1.cell
   have z6 := i1.lt
   clear hnda
   go_wp2_with fail
   refine f7.mono ?_
   clear f7 z1 z2 z3 z4 z5 z6
   rintro e w9 ⟨(⟨he, rfl⟩ | ⟨he, hlen, rfl⟩ | ⟨he, hlen, u, rfl, ho⟩), hb9⟩
   ·have kz9 := kzz.ext hb9
    have hE9 := hEz.trans hb9
    have d1 := kz9.cell
    have d2 := kz9.lt
    have d3 := kz9.frozen
    have HPE : Hid (protE b node key = (⟨4, fl, nd⟩ : Bl).err) := Lib.hid (by rw [hpe.out, HNW.out, if_pos he])
    obtain ⟨er, her⟩ : ∃ er, (⟨4, fl, nd⟩ : Bl).err = er := ⟨_, rfl⟩
    rw [her] at he HPE ⊢
    have hn0 : (er != 0) = true := by rw [bne_iff_ne]; exact he
    have HR := Lib.hid (show ProtR b node key (.returned (.tuple #[.agg zeroB, .int .i64 er])) w9 from .inl ⟨by rw [HPE.out]; exact he, by rw [HPE.out]⟩)
    have hz7 := kz9.setCells_ [.int .i64 0, .int .i64 0, .int .i64 0, .int .i64 0, .int .i64 0, .int .i64 0, .int .i64 0, .int .i64 0, .int .i64 0, .int .i64 0, .slice none 0 0, .string ⟨#[]⟩] 0
    rw [zeroB_sets] at hz7
    have hE7 := ext_setCells hE9 (show w.heap.size <= W2.heap.size by omega) 0 [.int .i64 0, .int .i64 0, .int .i64 0, .int .i64 0, .int .i64 0, .int .i64 0, .int .i64 0, .int .i64 0, .int .i64 0, .int .i64 0, .slice none 0 0, .string ⟨#[]⟩]
    have hd7 := (hd2.ext hb9).keeps (keeps_of_blk kz9 (grown_setCells [.int .i64 0, .int .i64 0, .int .i64 0, .int .i64 0, .int .i64 0, .int .i64 0, .int .i64 0, .int .i64 0, .int .i64 0, .int .i64 0, .slice none 0 0, .string ⟨#[]⟩] (World.grownBy.refl w9 (some W2.heap.size)) 0))
    obtain ⟨w7s, hw7⟩ : ∃ w7s, w9.setCells W2.heap.size 0 [.int .i64 0, .int .i64 0, .int .i64 0, .int .i64 0, .int .i64 0, .int .i64 0, .int .i64 0, .int .i64 0, .int .i64 0, .int .i64 0, .slice none 0 0, .string ⟨#[]⟩] = w7s := ⟨_, rfl⟩
    rw [hw7] at hz7 hE7 hd7
    clear her he
    go_wp2_with fail
    simp only [World.setCells, Nat.zero_add, Nat.reduceAdd] at hw7
    rw [hw7]
    show LeavesInM _ _ _ _ _ _ _ .returning _
    refine hd7.leaves ?_
    intro w' hw'
    have hfin := hw' (fun W => Blk W W2.heap.size 29 #[.int .i64 0, .int .i64 0, .int .i64 0, .int .i64 0, .int .i64 0, .int .i64 0, .int .i64 0, .int .i64 0, .int .i64 0, .int .i64 0, .slice none 0 0, .string ⟨#[]⟩] /\ Ext w W) (fun s X Y row hs hg hr => ⟨hs.1.keptc hg (fun r e => (hr r e).2), hs.2.keptb hg (fun r e => (hr r e).1)⟩) ⟨hz7, hE7⟩
    have hc7 := hfin.1.cell
    exact ⟨.tuple #[.agg zeroB, .int .i64 er], by rw [results_cell_tmp rfl]; simp [asAddr, Result.andThen, hc7, go_sem, zeroB], .inl ⟨by rw [HPE.out]; exact bne_iff_ne.1 hn0, by rw [HPE.out]⟩, hfin.2⟩
   ·have kz9 := kzz.ext hb9
    have hE9 := hEz.trans hb9
    have d1 := kz9.cell
    have d2 := kz9.lt
    have d3 := kz9.frozen
    have HPE : Hid (protE b node key = 4) := Lib.hid (by rw [hpe.out, HNW.out, if_neg (fun h => h he), if_pos hlen])
    have hz7 := kz9.setCells_ [.int .i64 0, .int .i64 0, .int .i64 0, .int .i64 0, .int .i64 0, .int .i64 0, .int .i64 0, .int .i64 0, .int .i64 0, .int .i64 0, .slice none 0 0, .string ⟨#[]⟩] 0
    rw [zeroB_sets] at hz7
    have hE7 := ext_setCells hE9 (show w.heap.size <= W2.heap.size by omega) 0 [.int .i64 0, .int .i64 0, .int .i64 0, .int .i64 0, .int .i64 0, .int .i64 0, .int .i64 0, .int .i64 0, .int .i64 0, .int .i64 0, .slice none 0 0, .string ⟨#[]⟩]
    have hd7 := (hd2.ext hb9).keeps (keeps_of_blk kz9 (grown_setCells [.int .i64 0, .int .i64 0, .int .i64 0, .int .i64 0, .int .i64 0, .int .i64 0, .int .i64 0, .int .i64 0, .int .i64 0, .int .i64 0, .slice none 0 0, .string ⟨#[]⟩] (World.grownBy.refl w9 (some W2.heap.size)) 0))
    obtain ⟨w7s, hw7⟩ : ∃ w7s, w9.setCells W2.heap.size 0 [.int .i64 0, .int .i64 0, .int .i64 0, .int .i64 0, .int .i64 0, .int .i64 0, .int .i64 0, .int .i64 0, .int .i64 0, .int .i64 0, .slice none 0 0, .string ⟨#[]⟩] = w7s := ⟨_, rfl⟩
    rw [hw7] at hz7 hE7 hd7
    clear he hlen
    go_wp2_with fail
    simp only [World.setCells, Nat.zero_add, Nat.reduceAdd] at hw7
    rw [hw7]
    show LeavesInM _ _ _ _ _ _ _ .returning _
    refine hd7.leaves ?_
    intro w' hw'
    have hfin := hw' (fun W => Blk W W2.heap.size 29 #[.int .i64 0, .int .i64 0, .int .i64 0, .int .i64 0, .int .i64 0, .int .i64 0, .int .i64 0, .int .i64 0, .int .i64 0, .int .i64 0, .slice none 0 0, .string ⟨#[]⟩] /\ Ext w W) (fun s X Y row hs hg hr => ⟨hs.1.keptc hg (fun r e => (hr r e).2), hs.2.keptb hg (fun r e => (hr r e).1)⟩) ⟨hz7, hE7⟩
    have hc7 := hfin.1.cell
    exact ⟨.tuple #[.agg zeroB, .int .i64 4], by rw [results_cell_tmp rfl]; simp [asAddr, Result.andThen, hc7, go_sem, zeroB], .inl ⟨by rw [HPE.out]; omega, by rw [HPE.out]⟩, hfin.2⟩
   ·have HPE : Hid (protE b node key = 0) := Lib.hid (by rw [hpe.out, HNW.out, if_neg (fun h => h he), if_neg (by omega)])
    have hput := ho
    obtain ⟨A9, c9, rfl, hR9⟩ := ho.form
    obtain ⟨m9, hm9⟩ : ∃ m, putK b.blocks ⟨4, fl, nd⟩ = m := ⟨_, rfl⟩
    rw [hm9] at hput hR9 ⊢
    have HM9 := Lib.hid hm9
    have kb9 := kbz.ext hb9
    have kz9 := kzz.ext hb9
    have hE9 := hEz.trans hb9
    have hzz := hEz.size
    have l9 := kbz.lt
    have l8 := kzz.lt
    have b1 := kb9.cell
    have b2 := kb9.lt
    have b3 := kb9.frozen
    have kba : Blk (w9.setCell ⟨w.heap.size, 10, none⟩ (.slice A9 m9.length c9)) w.heap.size 29 #[.int .i64 b.src, .int .i64 b.cr, .int .i64 b.seq, .int .i64 b.off, .int .i64 b.tot, .int .i64 b.dk, .int .i64 b.dn, .int .i64 b.life, .int .i64 b.prio, .int .i64 b.flags, .slice A9 m9.length c9, .string pa] := kb9.set_ 10 _
    have kza := kz9.far (p := ⟨w.heap.size, 10, none⟩) (show W2.heap.size ≠ w.heap.size by omega) (.slice A9 m9.length c9)
    have hEa := hE9.setCell (p := ⟨w.heap.size, 10, none⟩) (Nat.le_refl _) (.slice A9 m9.length c9)
    have hoa := hput.kept (grown_setCell (World.grownBy.refl w9 (some w.heap.size)) 10 (.slice A9 m9.length c9)) (fun g hg e => by injection e with e; have := (hput.block hg).1; omega)
    have hda := (hd2.ext hb9).keeps (KeepsOthers.setCell w9 ⟨w.heap.size, 10, none⟩ (.slice A9 m9.length c9))
    obtain ⟨Wa, hWa⟩ : ∃ Wa, w9.setCell ⟨w.heap.size, 10, none⟩ (.slice A9 m9.length c9) = Wa := ⟨_, rfl⟩
    rw [hWa] at kba kza hEa hoa hda
    have p1 := kba.cell
    have p2 := kba.lt
    have p4 := kza.cell
    have p5 := kza.lt
    have p6 := kza.frozen
    have kzb := kza.setCells_ [.int .i64 b.src, .int .i64 b.cr, .int .i64 b.seq, .int .i64 b.off, .int .i64 b.tot, .int .i64 b.dk, .int .i64 b.dn, .int .i64 b.life, .int .i64 b.prio, .int .i64 b.flags, .slice A9 m9.length c9, .string pa] 0
    rw [arrSets12] at kzb
    have hEb := ext_setCells hEa (show w.heap.size <= W2.heap.size by omega) 0 [.int .i64 b.src, .int .i64 b.cr, .int .i64 b.seq, .int .i64 b.off, .int .i64 b.tot, .int .i64 b.dk, .int .i64 b.dn, .int .i64 b.life, .int .i64 b.prio, .int .i64 b.flags, .slice A9 m9.length c9, .string pa]
    have hdb := hda.keeps (keeps_of_blk kza (grown_setCells [.int .i64 b.src, .int .i64 b.cr, .int .i64 b.seq, .int .i64 b.off, .int .i64 b.tot, .int .i64 b.dk, .int .i64 b.dn, .int .i64 b.life, .int .i64 b.prio, .int .i64 b.flags, .slice A9 m9.length c9, .string pa] (World.grownBy.refl Wa (some W2.heap.size)) 0))
    have hob := hoa.kept (grown_setCells [.int .i64 b.src, .int .i64 b.cr, .int .i64 b.seq, .int .i64 b.off, .int .i64 b.tot, .int .i64 b.dk, .int .i64 b.dn, .int .i64 b.life, .int .i64 b.prio, .int .i64 b.flags, .slice A9 m9.length c9, .string pa] (World.grownBy.refl Wa (some W2.heap.size)) 0) (fun g hg e => by injection e with e; have := (hoa.block hg).1; omega)
    obtain ⟨Wb, hWb⟩ : ∃ Wb, Wa.setCells W2.heap.size 0 [.int .i64 b.src, .int .i64 b.cr, .int .i64 b.seq, .int .i64 b.off, .int .i64 b.tot, .int .i64 b.dk, .int .i64 b.dn, .int .i64 b.life, .int .i64 b.prio, .int .i64 b.flags, .slice A9 m9.length c9, .string pa] = Wb := ⟨_, rfl⟩
    rw [hWb] at kzb hEb hdb hob
    clear hm9 he hlen
    go_wp2_with fail
    simp only [World.setCells, Nat.zero_add, Nat.reduceAdd] at hWb
    rw [hWb]
    show LeavesInM _ _ _ _ _ _ _ .returning _
    refine hdb.leaves ?_
    intro w' hw'
    have hfin := hw' (fun WX => Blk WX W2.heap.size 29 #[.int .i64 b.src, .int .i64 b.cr, .int .i64 b.seq, .int .i64 b.off, .int .i64 b.tot, .int .i64 b.dk, .int .i64 b.dn, .int .i64 b.life, .int .i64 b.prio, .int .i64 b.flags, .slice A9 m9.length c9, .string pa] /\ Owns EBl WX W.heap.size 116 (.slice A9 m9.length c9) m9 /\ Ext w WX) (fun s X Y row hs hg hr => ⟨hs.1.keptc hg (fun r e => (hr r e).2), hs.2.1.keptc hg (fun r e => (hr r e).2), hs.2.2.keptb hg (fun r e => (hr r e).1)⟩) ⟨kzb, hob, hEb⟩
    have hc7 := hfin.1.cell
    have hfb : (protB b node key).blocks = m9 := by rw [<- HM9.out, <- HNW.out]; rfl
    have hfc : (protB b node key).cells A9 c9 = #[.int .i64 b.src, .int .i64 b.cr, .int .i64 b.seq, .int .i64 b.off, .int .i64 b.tot, .int .i64 b.dk, .int .i64 b.dn, .int .i64 b.life, .int .i64 b.prio, .int .i64 b.flags, .slice A9 m9.length c9, .string pa] := by
     have h1 : (protB b node key).cells A9 c9 = #[.int .i64 b.src, .int .i64 b.cr, .int .i64 b.seq, .int .i64 b.off, .int .i64 b.tot, .int .i64 b.dk, .int .i64 b.dn, .int .i64 b.life, .int .i64 b.prio, .int .i64 b.flags, .slice A9 (protB b node key).blocks.length c9, strV b.pay] := rfl
     rw [h1, hfb, HPA.out]
    exact ⟨.tuple #[.agg #[.int .i64 b.src, .int .i64 b.cr, .int .i64 b.seq, .int .i64 b.off, .int .i64 b.tot, .int .i64 b.dk, .int .i64 b.dn, .int .i64 b.life, .int .i64 b.prio, .int .i64 b.flags, .slice A9 m9.length c9, .string pa], .int .i64 0], by rw [results_cell_tmp rfl]; simp [asAddr, Result.andThen, hc7, go_sem], .inr ⟨HPE.out, A9, c9, by rw [hfc], by rw [hfb]; exact hfin.2.1.rd⟩, hfin.2.2⟩
  case false =>
   have hnd2 : sflat o ++ (M.1 :: M.2) = nd := by rw [<- sflat_one]; simpa using hnd
   have cm := putc_any V1.heap.size M (sflat o) W i1 Hm8.out (by omega)
   rw [HSA.out, HM1.out, hnd2] at cm
   have kf := i3.blk kf8 (by omega) (by omega)
   have km := i3.blk km8 (by omega) (by omega)
   have j3 := kf.cell
   have j4 := kf.lt
   have j5 := km.cell
   have j6 := km.lt
   have kd0 := i1
   clear hnd hnd2
   go_wp2_with fail
   refine cm.mono ?_
   clear cm d1 d2 j3 j4 j5 j6
   rintro e WZ ⟨⟨rz, rfl⟩, kdz, gz⟩
   have i3z := kpP_grown i3 gz (fun r e => .inl (.inl (by injection e with e; exact e.symm))) (Nat.le_refl _)
   have hdz := hd2.keeps (keeps_of_blk kd0 gz)
   have i5 := i3z.size
   have hEz := i3z.ext hE8 (by omega) (fun k hk => by rcases hk with hk | hk | hk <;> subst hk <;> omega)
   have kbz := i3z.blk kb8 (by omega) (by omega)
   have kaz := i3z.blk kau8 (by omega) (by omega)
   have kzz := i3z.blk kz8 (by omega) (by omega)
   have f7 := f6 WZ ⟨4, fl, nd⟩ (hR.ext hEz)
   dsimp only at f7
   rw [hnda] at f7
   rw [HNDA.out] at kdz
   have z1 := kbz.cell
   have z2 := kbz.lt
   have z3 := kaz.cell
   have z4 := kaz.lt
   have z5 := kdz.cell
   have z6 := kdz.lt
   clear hnda
   go_wp2_with fail
   refine f7.mono ?_
   clear f7 z1 z2 z3 z4 z5 z6
   rintro e w9 ⟨(⟨he, rfl⟩ | ⟨he, hlen, rfl⟩ | ⟨he, hlen, u, rfl, ho⟩), hb9⟩
   ·have kz9 := kzz.ext hb9
    have hE9 := hEz.trans hb9
    have d1 := kz9.cell
    have d2 := kz9.lt
    have d3 := kz9.frozen
    have HPE : Hid (protE b node key = (⟨4, fl, nd⟩ : Bl).err) := Lib.hid (by rw [hpe.out, HNW.out, if_pos he])
    obtain ⟨er, her⟩ : ∃ er, (⟨4, fl, nd⟩ : Bl).err = er := ⟨_, rfl⟩
    rw [her] at he HPE ⊢
    have hn0 : (er != 0) = true := by rw [bne_iff_ne]; exact he
    have HR := Lib.hid (show ProtR b node key (.returned (.tuple #[.agg zeroB, .int .i64 er])) w9 from .inl ⟨by rw [HPE.out]; exact he, by rw [HPE.out]⟩)
    have hz7 := kz9.setCells_ [.int .i64 0, .int .i64 0, .int .i64 0, .int .i64 0, .int .i64 0, .int .i64 0, .int .i64 0, .int .i64 0, .int .i64 0, .int .i64 0, .slice none 0 0, .string ⟨#[]⟩] 0
    rw [zeroB_sets] at hz7
    have hE7 := ext_setCells hE9 (show w.heap.size <= W2.heap.size by omega) 0 [.int .i64 0, .int .i64 0, .int .i64 0, .int .i64 0, .int .i64 0, .int .i64 0, .int .i64 0, .int .i64 0, .int .i64 0, .int .i64 0, .slice none 0 0, .string ⟨#[]⟩]
    have hd7 := (hdz.ext hb9).keeps (keeps_of_blk kz9 (grown_setCells [.int .i64 0, .int .i64 0, .int .i64 0, .int .i64 0, .int .i64 0, .int .i64 0, .int .i64 0, .int .i64 0, .int .i64 0, .int .i64 0, .slice none 0 0, .string ⟨#[]⟩] (World.grownBy.refl w9 (some W2.heap.size)) 0))
    obtain ⟨w7s, hw7⟩ : ∃ w7s, w9.setCells W2.heap.size 0 [.int .i64 0, .int .i64 0, .int .i64 0, .int .i64 0, .int .i64 0, .int .i64 0, .int .i64 0, .int .i64 0, .int .i64 0, .int .i64 0, .slice none 0 0, .string ⟨#[]⟩] = w7s := ⟨_, rfl⟩
    rw [hw7] at hz7 hE7 hd7
    clear her he
    go_wp2_with fail
    simp only [World.setCells, Nat.zero_add, Nat.reduceAdd] at hw7
    rw [hw7]
    show LeavesInM _ _ _ _ _ _ _ .returning _
    refine hd7.leaves ?_
    intro w' hw'
    have hfin := hw' (fun W => Blk W W2.heap.size 29 #[.int .i64 0, .int .i64 0, .int .i64 0, .int .i64 0, .int .i64 0, .int .i64 0, .int .i64 0, .int .i64 0, .int .i64 0, .int .i64 0, .slice none 0 0, .string ⟨#[]⟩] /\ Ext w W) (fun s X Y row hs hg hr => ⟨hs.1.keptc hg (fun r e => (hr r e).2), hs.2.keptb hg (fun r e => (hr r e).1)⟩) ⟨hz7, hE7⟩
    have hc7 := hfin.1.cell
    exact ⟨.tuple #[.agg zeroB, .int .i64 er], by rw [results_cell_tmp rfl]; simp [asAddr, Result.andThen, hc7, go_sem, zeroB], .inl ⟨by rw [HPE.out]; exact bne_iff_ne.1 hn0, by rw [HPE.out]⟩, hfin.2⟩
   ·have kz9 := kzz.ext hb9
    have hE9 := hEz.trans hb9
    have d1 := kz9.cell
    have d2 := kz9.lt
    have d3 := kz9.frozen
    have HPE : Hid (protE b node key = 4) := Lib.hid (by rw [hpe.out, HNW.out, if_neg (fun h => h he), if_pos hlen])
    have hz7 := kz9.setCells_ [.int .i64 0, .int .i64 0, .int .i64 0, .int .i64 0, .int .i64 0, .int .i64 0, .int .i64 0, .int .i64 0, .int .i64 0, .int .i64 0, .slice none 0 0, .string ⟨#[]⟩] 0
    rw [zeroB_sets] at hz7
    have hE7 := ext_setCells hE9 (show w.heap.size <= W2.heap.size by omega) 0 [.int .i64 0, .int .i64 0, .int .i64 0, .int .i64 0, .int .i64 0, .int .i64 0, .int .i64 0, .int .i64 0, .int .i64 0, .int .i64 0, .slice none 0 0, .string ⟨#[]⟩]
    have hd7 := (hdz.ext hb9).keeps (keeps_of_blk kz9 (grown_setCells [.int .i64 0, .int .i64 0, .int .i64 0, .int .i64 0, .int .i64 0, .int .i64 0, .int .i64 0, .int .i64 0, .int .i64 0, .int .i64 0, .slice none 0 0, .string ⟨#[]⟩] (World.grownBy.refl w9 (some W2.heap.size)) 0))
    obtain ⟨w7s, hw7⟩ : ∃ w7s, w9.setCells W2.heap.size 0 [.int .i64 0, .int .i64 0, .int .i64 0, .int .i64 0, .int .i64 0, .int .i64 0, .int .i64 0, .int .i64 0, .int .i64 0, .int .i64 0, .slice none 0 0, .string ⟨#[]⟩] = w7s := ⟨_, rfl⟩
    rw [hw7] at hz7 hE7 hd7
    clear he hlen
    go_wp2_with fail
    simp only [World.setCells, Nat.zero_add, Nat.reduceAdd] at hw7
    rw [hw7]
    show LeavesInM _ _ _ _ _ _ _ .returning _
    refine hd7.leaves ?_
    intro w' hw'
    have hfin := hw' (fun W => Blk W W2.heap.size 29 #[.int .i64 0, .int .i64 0, .int .i64 0, .int .i64 0, .int .i64 0, .int .i64 0, .int .i64 0, .int .i64 0, .int .i64 0, .int .i64 0, .slice none 0 0, .string ⟨#[]⟩] /\ Ext w W) (fun s X Y row hs hg hr => ⟨hs.1.keptc hg (fun r e => (hr r e).2), hs.2.keptb hg (fun r e => (hr r e).1)⟩) ⟨hz7, hE7⟩
    have hc7 := hfin.1.cell
    exact ⟨.tuple #[.agg zeroB, .int .i64 4], by rw [results_cell_tmp rfl]; simp [asAddr, Result.andThen, hc7, go_sem, zeroB], .inl ⟨by rw [HPE.out]; omega, by rw [HPE.out]⟩, hfin.2⟩
   ·have HPE : Hid (protE b node key = 0) := Lib.hid (by rw [hpe.out, HNW.out, if_neg (fun h => h he), if_neg (by omega)])
    have hput := ho
    obtain ⟨A9, c9, rfl, hR9⟩ := ho.form
    obtain ⟨m9, hm9⟩ : ∃ m, putK b.blocks ⟨4, fl, nd⟩ = m := ⟨_, rfl⟩
    rw [hm9] at hput hR9 ⊢
    have HM9 := Lib.hid hm9
    have kb9 := kbz.ext hb9
    have kz9 := kzz.ext hb9
    have hE9 := hEz.trans hb9
    have hzz := hEz.size
    have l9 := kbz.lt
    have l8 := kzz.lt
    have b1 := kb9.cell
    have b2 := kb9.lt
    have b3 := kb9.frozen
    have kba : Blk (w9.setCell ⟨w.heap.size, 10, none⟩ (.slice A9 m9.length c9)) w.heap.size 29 #[.int .i64 b.src, .int .i64 b.cr, .int .i64 b.seq, .int .i64 b.off, .int .i64 b.tot, .int .i64 b.dk, .int .i64 b.dn, .int .i64 b.life, .int .i64 b.prio, .int .i64 b.flags, .slice A9 m9.length c9, .string pa] := kb9.set_ 10 _
    have kza := kz9.far (p := ⟨w.heap.size, 10, none⟩) (show W2.heap.size ≠ w.heap.size by omega) (.slice A9 m9.length c9)
    have hEa := hE9.setCell (p := ⟨w.heap.size, 10, none⟩) (Nat.le_refl _) (.slice A9 m9.length c9)
    have hoa := hput.kept (grown_setCell (World.grownBy.refl w9 (some w.heap.size)) 10 (.slice A9 m9.length c9)) (fun g hg e => by injection e with e; have := (hput.block hg).1; omega)
    have hda := (hdz.ext hb9).keeps (KeepsOthers.setCell w9 ⟨w.heap.size, 10, none⟩ (.slice A9 m9.length c9))
    obtain ⟨Wa, hWa⟩ : ∃ Wa, w9.setCell ⟨w.heap.size, 10, none⟩ (.slice A9 m9.length c9) = Wa := ⟨_, rfl⟩
    rw [hWa] at kba kza hEa hoa hda
    have p1 := kba.cell
    have p2 := kba.lt
    have p4 := kza.cell
    have p5 := kza.lt
    have p6 := kza.frozen
    have kzb := kza.setCells_ [.int .i64 b.src, .int .i64 b.cr, .int .i64 b.seq, .int .i64 b.off, .int .i64 b.tot, .int .i64 b.dk, .int .i64 b.dn, .int .i64 b.life, .int .i64 b.prio, .int .i64 b.flags, .slice A9 m9.length c9, .string pa] 0
    rw [arrSets12] at kzb
    have hEb := ext_setCells hEa (show w.heap.size <= W2.heap.size by omega) 0 [.int .i64 b.src, .int .i64 b.cr, .int .i64 b.seq, .int .i64 b.off, .int .i64 b.tot, .int .i64 b.dk, .int .i64 b.dn, .int .i64 b.life, .int .i64 b.prio, .int .i64 b.flags, .slice A9 m9.length c9, .string pa]
    have hdb := hda.keeps (keeps_of_blk kza (grown_setCells [.int .i64 b.src, .int .i64 b.cr, .int .i64 b.seq, .int .i64 b.off, .int .i64 b.tot, .int .i64 b.dk, .int .i64 b.dn, .int .i64 b.life, .int .i64 b.prio, .int .i64 b.flags, .slice A9 m9.length c9, .string pa] (World.grownBy.refl Wa (some W2.heap.size)) 0))
    have hob := hoa.kept (grown_setCells [.int .i64 b.src, .int .i64 b.cr, .int .i64 b.seq, .int .i64 b.off, .int .i64 b.tot, .int .i64 b.dk, .int .i64 b.dn, .int .i64 b.life, .int .i64 b.prio, .int .i64 b.flags, .slice A9 m9.length c9, .string pa] (World.grownBy.refl Wa (some W2.heap.size)) 0) (fun g hg e => by injection e with e; have := (hoa.block hg).1; omega)
    obtain ⟨Wb, hWb⟩ : ∃ Wb, Wa.setCells W2.heap.size 0 [.int .i64 b.src, .int .i64 b.cr, .int .i64 b.seq, .int .i64 b.off, .int .i64 b.tot, .int .i64 b.dk, .int .i64 b.dn, .int .i64 b.life, .int .i64 b.prio, .int .i64 b.flags, .slice A9 m9.length c9, .string pa] = Wb := ⟨_, rfl⟩
    rw [hWb] at kzb hEb hdb hob
    clear hm9 he hlen
    go_wp2_with fail
    simp only [World.setCells, Nat.zero_add, Nat.reduceAdd] at hWb
    rw [hWb]
    show LeavesInM _ _ _ _ _ _ _ .returning _
    refine hdb.leaves ?_
    intro w' hw'
    have hfin := hw' (fun WX => Blk WX W2.heap.size 29 #[.int .i64 b.src, .int .i64 b.cr, .int .i64 b.seq, .int .i64 b.off, .int .i64 b.tot, .int .i64 b.dk, .int .i64 b.dn, .int .i64 b.life, .int .i64 b.prio, .int .i64 b.flags, .slice A9 m9.length c9, .string pa] /\ Owns EBl WX WZ.heap.size 116 (.slice A9 m9.length c9) m9 /\ Ext w WX) (fun s X Y row hs hg hr => ⟨hs.1.keptc hg (fun r e => (hr r e).2), hs.2.1.keptc hg (fun r e => (hr r e).2), hs.2.2.keptb hg (fun r e => (hr r e).1)⟩) ⟨kzb, hob, hEb⟩
    have hc7 := hfin.1.cell
    have hfb : (protB b node key).blocks = m9 := by rw [<- HM9.out, <- HNW.out]; rfl
    have hfc : (protB b node key).cells A9 c9 = #[.int .i64 b.src, .int .i64 b.cr, .int .i64 b.seq, .int .i64 b.off, .int .i64 b.tot, .int .i64 b.dk, .int .i64 b.dn, .int .i64 b.life, .int .i64 b.prio, .int .i64 b.flags, .slice A9 m9.length c9, .string pa] := by
     have h1 : (protB b node key).cells A9 c9 = #[.int .i64 b.src, .int .i64 b.cr, .int .i64 b.seq, .int .i64 b.off, .int .i64 b.tot, .int .i64 b.dk, .int .i64 b.dn, .int .i64 b.life, .int .i64 b.prio, .int .i64 b.flags, .slice A9 (protB b node key).blocks.length c9, strV b.pay] := rfl
     rw [h1, hfb, HPA.out]
    exact ⟨.tuple #[.agg #[.int .i64 b.src, .int .i64 b.cr, .int .i64 b.seq, .int .i64 b.off, .int .i64 b.tot, .int .i64 b.dk, .int .i64 b.dn, .int .i64 b.life, .int .i64 b.prio, .int .i64 b.flags, .slice A9 m9.length c9, .string pa], .int .i64 0], by rw [results_cell_tmp rfl]; simp [asAddr, Result.andThen, hc7, go_sem], .inr ⟨HPE.out, A9, c9, by rw [hfc], by rw [hfb]; exact hfin.2.1.rd⟩, hfin.2.2⟩
end Go.Proofs.YtemkpimngbbpkaaGreat

/- Security: find. · Security: signed, sign. · Security: sign. -/
import Derived.Test.YtemkpimngbbpkaaGreatQs31
namespace Go.Proofs.YtemkpimngbbpkaaGreat
set_option linter.unusedVariables false
set_option linter.unusedSimpArgs false
section
open Go.RowKit Go.Shelf
attribute [local go_sem] Oper.semAt_some
theorem findS_snoc (pre : List Sg) (x : Sg) (n : Nat) (h : findS pre n = none) : findS (pre ++ [x]) n = if x.1.toNat = n then some x.2 else none := by
 have h1 : pre.find? (fun x => x.1.toNat == n) = none := by
  unfold findS at h
  cases e : pre.find? (fun x => x.1.toNat == n) with
  | none => rfl
  | some y => rw [e] at h; cases h
 unfold findS
 rw [List.find?_append, h1]
 by_cases hx : x.1.toNat = n <;> simp [hx]
theorem findS_pre {a b : List Sg} {n : Nat} {t : Bts} (h : findS a n = some t) : findS (a ++ b) n = some t := by
 unfold findS at h ⊢
 rw [List.find?_append]
 cases e : a.find? (fun x => x.1.toNat == n) with
 | none => rw [e] at h; cases h
 | some y => rw [e] at h; simpa using h
def fdV : Option Bts -> Value
 | some t => .tuple #[strV t, .bool true]
 | none => .tuple #[.string ⟨#[]⟩, .bool false]
def FdI (g3 g4 g5 N : Nat) (node : Int) (W0 : World) (pre : List Sg) (W : World) : Prop := Blk W g3 3 #[.int .i64 node] /\ Blk W g4 9 #[.string ⟨#[]⟩] /\ Blk W g5 4 #[.bool false] /\ findS pre node.toNat = none /\ Ext W0 W /\ N <= W.heap.size
def FdX (g4 g5 : Nat) (node : Int) (W0 : World) (c : Code) (pre : List Sg) (W : World) : Prop := c = .ret /\ ∃ t, Blk W g4 9 #[strV t] /\ Blk W g5 4 #[.bool true] /\ findS pre node.toNat = some t /\ Ext W0 W
theorem ab_ne {T : Nat -> Prop} {N g : Nat} {row : Option Nat} (h0 : g < N /\ ¬ T g) (hr : ∀ r, row = some r -> T r ∨ N <= r) : some g ≠ row := fun e => by
 rcases hr g e.symm with h | h
 ·exact h0.2 h
 ·omega
theorem fdI_ab {g3 g4 g5 N : Nat} {node : Int} {T : Nat -> Prop} {W0 : World} (h3 : g3 < N /\ ¬ T g3) (h4 : g4 < N /\ ¬ T g4) (h5 : g5 < N /\ ¬ T g5) (hT : ∀ r, T r -> W0.heap.size <= r) (hN : W0.heap.size <= N) : AbM T N (FdI g3 g4 g5 N node W0) := by
 intro s A C row ⟨a1, a2, a3, a4, a5, a6⟩ hg hr
 exact ⟨a1.kept hg (ab_ne h3 hr), a2.kept hg (ab_ne h4 hr), a3.kept hg (ab_ne h5 hr), a4, a5.keptb hg (fun r e => (hr r e).elim (hT r) (fun h => by omega)), Nat.le_trans a6 hg.size⟩
theorem fdX_ab {g4 g5 N : Nat} {node : Int} {T : Nat -> Prop} {W0 : World} {c : Code} (h4 : g4 < N /\ ¬ T g4) (h5 : g5 < N /\ ¬ T g5) (hT : ∀ r, T r -> W0.heap.size <= r) (hN : W0.heap.size <= N) : AbM T N (FdX g4 g5 node W0 c) := by
 intro s A C row ⟨a0, t, a1, a3, a4, a5⟩ hg hr
 exact ⟨a0, t, a1.kept hg (ab_ne h4 hr), a3.kept hg (ab_ne h5 hr), a4, a5.keptb hg (fun r e => (hr r e).elim (hT r) (fun h => by omega))⟩
theorem results_cells2 {fn : Func} {p q : Tmp} {ty tz : TypeId} (h : fn.results = #[.cell p ty, .cell q tz]) (tmps : Array Value) (P : Program) (w : World) {a b : Addr} {u v : Value}
 (hp : tmps.getD p undef = .pointer (some a)) (hq : tmps.getD q undef = .pointer (some b)) (hu : (loadVar ty a).run P w = .ok u w) (hv : (loadVar tz b).run P w = .ok v w) :
 (results fn tmps).run P w = .ok (.tuple #[u, v]) w := by
 have hp' : tmps[p]?.getD undef = .pointer (some a) := by simpa using hp
 have hq' : tmps[q]?.getD undef = .pointer (some b) := by simpa using hq
 simp [results, h, hp', hq', asAddr, hu, hv, Sem.run_bind, Result.andThen]
set_option maxRecDepth 100000 in
set_option maxHeartbeats 16000000 in
theorem find_any (b : Bu) (A : Option Addr) (cap : Nat) (node : Int) (w : World) (hR : Rd EBl w A b.blocks) (hv : buE b = 0) (hn : 0 <= node /\ node < 16) :
 Calls Tryz.prog 45 #[.agg (b.cells A cap), .int .i64 node] w fun e w' => e = .returned (fdV (findS (sigs b.auth.data) node.toNat)) /\ Ext w w' := by
 have hl := (blksE_ok.1 (buE_blocks hv)).1
 have f1 := fun w h => auth_any b A cap w h (by omega)
 have hz := auth_len hv
 obtain ⟨d, hd⟩ : ∃ d, b.auth.data = d := ⟨_, rfl⟩
 rw [hd] at f1 hz ⊢
 have f2 := fun w => sig_any d w
 have hst := fun B S w kb hB => sig_stops B S d w (by omega) kb hB
 obtain ⟨da, hda, -⟩ := strV_str d
 rw [hda] at f1 f2 hst
 obtain ⟨kd, hkd⟩ : ∃ kd, b.auth.kind = kd := ⟨_, rfl⟩
 obtain ⟨fl, hfl⟩ : ∃ fl, b.auth.flags = fl := ⟨_, rfl⟩
 rw [hkd, hfl] at f1
 obtain ⟨pa, hpa, -⟩ := strV_str b.pay
 have hcs : b.cells A cap = #[.int .i64 b.src, .int .i64 b.cr, .int .i64 b.seq, .int .i64 b.off, .int .i64 b.tot, .int .i64 b.dk, .int .i64 b.dn, .int .i64 b.life, .int .i64 b.prio, .int .i64 b.flags, .slice A b.blocks.length cap, .string pa] := by unfold Bu.cells; rw [hpa]
 rw [hcs]
 obtain ⟨W1, hW1, hB1, hk1, hl1⟩ := box1 w #[.int .i64 b.src, .int .i64 b.cr, .int .i64 b.seq, .int .i64 b.off, .int .i64 b.tot, .int .i64 b.dk, .int .i64 b.dn, .int .i64 b.life, .int .i64 b.prio, .int .i64 b.flags, .slice A b.blocks.length cap, .string pa] 29
 obtain ⟨W2, hW2, hB2, hk2, hl2⟩ := box1 W1 #[.int .i64 node] 3
 obtain ⟨W3, hW3, hB3, hk3, hl3⟩ := box1 W2 #[.string ⟨#[]⟩] 9
 obtain ⟨W4, hW4, hB4, hk4, hl4⟩ := box1 W3 #[.bool false] 4
 have y1 := hB1.size
 have y2 := hB2.size
 have y3 := hB3.size
 have y4 := hB4.size
 have hE4 := (hB1.trans hB2).trans (hB3.trans hB4)
 have kb4 := ((hk1.ext hB2).ext hB3).ext hB4
 have c4 := kb4.cell
 have l4 := kb4.lt
 have gen : ∀ v : Int, (findK b.blocks 4).isSome = (findK b.blocks 4).isSome := fun _ => rfl
 obtain ⟨is, his⟩ : ∃ is, (findK b.blocks 4).isSome = is := ⟨_, rfl⟩
 rw [his] at f1
 clear hd hda hkd hfl hpa hcs hl gen his hv
 refine (callsIn_wide (n := 5)).1 ?_
 refine callsIn_of_wp_marks Tryz.func45 rfl trivial ?_ rfl
 refine wpIn_wide.2 ?_
 refine Code.wp_mono NoPanic.imp ?_
 simp only [Tryz.ntmps45, List.size_toArray, List.length_cons, List.length_nil, Nat.reduceAdd, Nat.reduceSub, Array.replicate_succ, Array.replicate_zero, List.push_toArray, List.append_toArray, List.nil_append, List.cons_append]
 go_wp2_with fail
 clear hW1 hW2 hW3 hW4
 refine (f1 _ (hR.ext hE4)).mono ?_
 clear f1
 rintro e w5 ⟨rfl, hb5⟩
 obtain ⟨W6, hW6, hB6, hk6, hl6⟩ := box1 w5 #[.int .i64 kd, .int .i64 fl, .string da] 116
 have c6 := hk6.cell
 clear c4
 go_wp2_with fail
 clear hW6
 refine (f2 _).mono ?_
 clear f2
 rintro e w8 ⟨rfl, hb8, hs8, z1⟩
 have hx8 := (hb5.trans hB6).trans hb8
 have hE8 := hE4.trans hx8
 have y5 := hb5.size
 have y6 := hB6.size
 have y8 := hb8.size
 obtain ⟨ix, hix⟩ : ∃ ix : Array Value, #[Value.int .i64 b.src, .int .i64 b.cr, .int .i64 b.seq, .int .i64 b.off, .int .i64 b.tot, .int .i64 b.dk, .int .i64 b.dn, .int .i64 b.life, .int .i64 b.prio, .int .i64 b.flags, .slice A b.blocks.length cap, .string pa] = ix := ⟨_, rfl⟩
 rw [hix]
 clear hix
 go_wp2_with fail
 refine (wpIn_wide (n := 5)).1 ?_
 refine wpIn_rangeM rfl (by omega) (gf := 129) (lb := #[.pointer (some ⟨W6.heap.size, 0, none⟩)]) rfl trivial (enters_of Tryz.func129 (by kernel_rfl) rfl)
  (hst W6.heap.size (fun b => b = W2.heap.size ∨ b = W3.heap.size) w8 z1 (by omega)) (fun r hr => by subst hr; omega)
  KpQ.trans (fun W l o o' hl h1 h2 => KpQ.put W l o o' h1 h2) (Below.refl _ _) (fun _ => rfl)
  (FdI W1.heap.size W2.heap.size W3.heap.size w8.heap.size node w) (FdX W2.heap.size W3.heap.size node w) (fdI_ab ⟨by omega, by omega⟩ ⟨by omega, by omega⟩ ⟨by omega, by omega⟩ (fun r hr => by subst hr; omega) (by omega)) (fun c => fdX_ab ⟨by omega, by omega⟩ ⟨by omega, by omega⟩ (fun r hr => by subst hr; omega) (by omega))
  ⟨((hk2.ext hB3).ext hB4).ext hx8, (hk3.ext hB4).ext hx8, hk4.ext hx8, rfl, hE8, Nat.le_refl _⟩
  (fun x a' W => ∃ b1, Blk W b1 131 #[.int .i64 (x.1.toNat : Int), strV x.2] /\ W6.heap.size < b1 /\ a' = { tmps := #[.agg ix, .int .i64 node, .pointer (some ⟨w.heap.size, 0, none⟩), .pointer (some ⟨W1.heap.size, 0, none⟩), .pointer (some ⟨W2.heap.size, 0, none⟩), .pointer (some ⟨W3.heap.size, 0, none⟩), .pointer (some ⟨w5.heap.size, 0, none⟩), .bool is, .pointer (some ⟨b1, 0, none⟩), .tuple #[.agg #[.int .i64 kd, .int .i64 fl, .string da], .bool is], .pointer (some ⟨w.heap.size, 10, none⟩), .slice A b.blocks.length cap, .tuple #[.agg #[.int .i64 kd, .int .i64 fl, .string da], .bool is], .agg #[.int .i64 kd, .int .i64 fl, .string da], .bool is, .pointer (some ⟨w5.heap.size, 2, none⟩), .string da, .func (.func 129) #[] #[.pointer (some ⟨W6.heap.size, 0, none⟩)], .agg #[.int .i64 (x.1.toNat : Int), strV x.2], undef, undef, undef, undef, undef, undef], defers := [] })
  (fun x a' s X Y row hs hg hr => by obtain ⟨b1, z1, z2, z3⟩ := hs; exact ⟨b1, z1.keptc hg (fun r e => (hr r e).2), z2, z3⟩) ?assign ?body ?done ?stop
 case assign =>
  rintro li pre x W K ⟨i1, i2, i3, i4, i5, i6⟩ hK
  simp only [sgV]
  have e1 := ((Ext.refl W).alloc (.cells #[.int .i64 (x.1.toNat : Int), strV x.2] 131))
  obtain ⟨ta, hta, -⟩ := strV_str x.2
  rw [hta] at e1 hK ⊢
  gi_wp2
  exact hK _ _ (e1.keeps.from _) (KpQ.of_ext e1) ⟨i1.ext e1, i2.ext e1, i3.ext e1, i4, i5.trans e1, Nat.le_trans i6 e1.size⟩ ⟨W.heap.size, Blk.new W _ _, by omega, rfl⟩
 case body =>
  rintro li pre x a' W ⟨i1, i2, i3, i4, i5, i6⟩ ⟨b1, kb1, hb1, rfl⟩ hlen
  have hsn := findS_snoc pre x node.toNat i4
  obtain ⟨ta, hta, -⟩ := strV_str x.2
  have HTA := Lib.hid hta
  rw [hta] at kb1 ⊢
  obtain ⟨nb, hnb⟩ : ∃ nb, x.1.toNat = nb := ⟨_, rfl⟩
  rw [hnb] at kb1 hsn ⊢
  have a1 := i1.cell
  have a2 := i1.lt
  have d1 := i2.cell
  have d2 := i2.lt
  have d3 := i2.frozen
  have g1 := i3.cell
  have g2 := i3.lt
  have g3 := i3.frozen
  have e1 := kb1.cell
  have e2 := kb1.lt
  clear hta hnb
  by_cases h1 : (nb : Int) = node
  ·have HS := Lib.hid (show findS (pre ++ [x]) node.toNat = some x.2 by rw [hsn, if_pos (by omega)])
   have hbq : ((nb : Int) == node) = true := by rw [beq_iff_eq]; exact h1
   clear hsn h1
   gi_wp2
   exact ⟨((KeepsOthers.setCell W _ _).trans (KeepsOthers.setCell _ _ _)).from _, rfl, x.2, by rw [HTA.out]; exact (i2.set0 _).far (by simp; omega) _, (i3.far (by simp; omega) _).set0 _, HS.out, (i5.setCell (by show w.heap.size <= W2.heap.size; omega) _).setCell (by show w.heap.size <= W3.heap.size; omega) _⟩
  ·have HS := Lib.hid (show findS (pre ++ [x]) node.toNat = none by rw [hsn, if_neg (by omega)])
   have hbq : ((nb : Int) == node) = false := by rw [beq_eq_false_iff_ne]; exact h1
   clear hsn h1
   gi_wp2
   exact ⟨(KeepsOthers.refl W).from _, KpQ.refl _ W, i1, i2, i3, HS.out, i5, i6⟩
 case stop =>
  rintro D c pre W hDD ⟨k, hk, rfl⟩ ⟨rfl, t, a1, a2, a3, a4⟩ hK
  have hfal : findS (sigs d) node.toNat = some t := by
   obtain ⟨b, hb⟩ := sgK_pre d hk
   rw [hb]
   exact findS_pre a3
  have hd2 := (DSx.nil w8.heap.size w.heap.size W).cons hDD (by omega) hK
  clear hK
  refine wpIn_wide.2 ?_
  go_wp2_with fail
  show LeavesInM _ _ _ _ _ _ _ .returning _
  refine hd2.leaves ?_
  intro w' hw'
  have hfin := hw' (fun W => Blk W W2.heap.size 9 #[strV t] /\ Blk W W3.heap.size 4 #[.bool true] /\ Ext w W) (fun s X Y row hs hg hr => ⟨hs.1.keptc hg (fun r e => (hr r e).2), hs.2.1.keptc hg (fun r e => (hr r e).2), hs.2.2.keptb hg (fun r e => (hr r e).1)⟩) ⟨a1, a2, a4⟩
  have hc7 := hfin.1.cell
  have hc8 := hfin.2.1.cell
  refine ⟨.tuple #[strV t, .bool true], results_cells2 rfl _ _ _ rfl rfl (by simp [hc7, go_sem]) (by simp [hc8, go_sem]), by rw [hfal]; rfl, hfin.2.2⟩
 case done =>
  rintro D xs W hDD hF ⟨i1, i2, i3, i4, i5, i6⟩ hK
  obtain rfl : xs = sigs d := hF
  have hd2 := (DSx.nil w8.heap.size w.heap.size W).cons hDD (by omega) hK
  clear hK
  have d1 := i2.cell
  have d2 := i2.lt
  have d3 := i2.frozen
  have g1 := i3.cell
  have g2 := i3.lt
  have g3 := i3.frozen
  go_wp2_with fail
  show LeavesInM _ _ _ _ _ _ _ .returning _
  refine ((hd2.setCell _ _).setCell _ _).leaves ?_
  intro w' hw'
  have hfin := hw' (fun W => Blk W W2.heap.size 9 #[.string ⟨#[]⟩] /\ Blk W W3.heap.size 4 #[.bool false] /\ Ext w W) (fun s X Y row hs hg hr => ⟨hs.1.keptc hg (fun r e => (hr r e).2), hs.2.1.keptc hg (fun r e => (hr r e).2), hs.2.2.keptb hg (fun r e => (hr r e).1)⟩)
   ⟨(i2.set0 _).far (by simp; omega) _, (i3.far (by simp; omega) _).set0 _, (i5.setCell (by show w.heap.size <= W2.heap.size; omega) _).setCell (by show w.heap.size <= W3.heap.size; omega) _⟩
  have hc7 := hfin.1.cell
  have hc8 := hfin.2.1.cell
  refine ⟨.tuple #[.string ⟨#[]⟩, .bool false], results_cells2 rfl _ _ _ rfl rfl (by simp [hc7, go_sem]) (by simp [hc8, go_sem]), by rw [i4]; rfl, hfin.2.2⟩
end
section
open Go.RowKit Go.Shelf
attribute [local go_sem] Oper.semAt_some
def remAll (l : List Bl) (ks : List Int) : List Bl := ks.foldl remK l
theorem remAll_snoc (l : List Bl) (ks : List Int) (k : Int) : remAll l (ks ++ [k]) = remK (remAll l ks) k := by simp [remAll]
theorem remAll_len (l : List Bl) : ∀ ks, (remAll l ks).length <= l.length
 | [] => Nat.le_refl _
 | k :: ks => Nat.le_trans (remAll_len (remK l k) ks) (List.length_filter_le _ _)
theorem own_ad {α : Type} {E : Elt α} {w : World} {base : Nat} {e : TypeId} {A : Option Addr} {n c : Nat} {l : List α} (h : Owns E w base e (.slice A n c) l) (ad : Addr) (hA : A = some ad) : base <= ad.block := by
 rcases h.2 with ⟨h1, _⟩ | ⟨g, cap, cur, h1, hg, _⟩
 ·injection h1 with h1; subst h1; cases hA
 ·injection h1 with h1; subst h1; injection hA with hA; subst hA; exact hg
def LiesIn (A A' : Option Addr) (base : Nat) : Prop := ∀ ad, A' = some ad -> (∃ ad0, A = some ad0 /\ ad.block = ad0.block) ∨ base <= ad.block
theorem LiesIn.refl (A : Option Addr) (base : Nat) : LiesIn A A base := fun ad h => .inl ⟨ad, h, rfl⟩
set_option maxRecDepth 100000 in
set_option maxHeartbeats 8000000 in
theorem signed1_any (A : Option Addr) (c : Nat) (l : List Bl) (B : Option Addr) (cb : Nat) (ks : List Int) (w : World) (hA : Rd EBl w A l) (hB : Rd EInt w B ks) (hmax : l.length <= 1000000) (hks : ks.length <= 1000) :
 Calls Tryz.prog 209 #[.slice A l.length c, .slice B ks.length cb] w fun e w' => ∃ A' c', e = .returned (.slice A' (remAll l ks).length c') /\ Rd EBl w' A' (remAll l ks) /\ LiesIn A A' w.heap.size /\ Ext w w' := by
 go_enter Tryz.func209, Tryz.ntmps209
 go_wp2_with fail
 go_loopg [0, 9] ks.length (fun n u v wr => ∃ (k : Nat) (A' : Option Addr) (c' : Nat) (m : List Bl), k + n = ks.length /\ v = .int .i64 k /\ u = .slice A' m.length c' /\ Hid (m = remAll l (ks.take k)) /\ Rd EBl wr A' m /\ Hid (LiesIn A A' w.heap.size) /\ Ext w wr)
 case atStart => exact ⟨0, A, c, l, by omega, by go_num, rfl, Lib.hid rfl, hA, Lib.hid (LiesIn.refl _ _), Ext.refl _⟩
 case round =>
  obtain ⟨k, A', c', m, hkn, rfl, rfl, hm, hR, hLI, hE⟩ := hrel
  have Hkn := Lib.hid hkn
  clear hkn
  have hml : m.length <= 1000000 := by have := remAll_len l (ks.take k); rw [<- hm.out] at this; omega
  have HML := Lib.hid hml
  clear hml
  by_cases hlt : k < ks.length
  ·obtain ⟨b, o, rfl, hb, c0⟩ := (hB.ext hE).int hlt
   have hst : Hid (remK m ks[k] = remAll l (ks.take (k + 1))) := Lib.hid (by rw [<- List.take_append_getElem hlt, remAll_snoc, hm.out])
   obtain ⟨x, hx⟩ : ∃ x, ks[k] = x := ⟨_, rfl⟩
   rw [hx] at c0 hst
   have fr := fun w h => rem_any A' c' m x w h HML.out
   clear hx
   go_wp2_with fail
   refine (fr _ hR).mono ?_
   rintro e w2 ⟨u, rfl, ho, hb2⟩
   obtain ⟨A2, c2, rfl, hR2⟩ := ho.form
   have HL2 := Lib.hid (show LiesIn A A2 w.heap.size from fun ad h => .inr (Nat.le_trans hE.size (own_ad ho ad h)))
   go_wp2
   go_roundg (gk - 1)
   case measure => have := Hkn.out; omega
   case rel => exact ⟨k + 1, A2, c2, remK m x, by have := Hkn.out; omega, by go_num, rfl, hst, hR2, HL2, hE.trans hb2⟩
  ·obtain rfl : k = ks.length := by have := Hkn.out; omega
   have HF := Lib.hid (show m = remAll l ks by rw [hm.out, List.take_length])
   go_wp2
   go_ret
   exact ⟨A', c', by rw [<- HF.out]; rfl, by rw [<- HF.out]; exact hR, hLI.out, hE⟩
theorem bare_rem (b : Bu) : b.bare.blocks = remAll b.blocks [1, 2, 3, 4] := rfl
set_option maxRecDepth 100000 in
set_option maxHeartbeats 8000000 in
theorem signed_any (b : Bu) (A : Option Addr) (cap : Nat) (w : World) (hR : Rd EBl w A b.blocks) (hv : buE b = 0) :
 Calls Tryz.prog 126 #[.agg (b.cells A cap)] w fun e w' => e = .returned (strV b.bare.enc) /\ Ext w w' := by
 have hl := (blksE_ok.1 (buE_blocks hv)).1
 have f1 := fun B cb w h hB => signed1_any A cap b.blocks B cb [1, 2, 3, 4] w h hB (by omega) (by simp)
 rw [<- bare_rem] at f1
 have f2 := fun A' c' w h => buEnc_any b.bare A' c' w h (bare_valid hv)
 obtain ⟨sv, hsv⟩ : ∃ sv, strV b.bare.enc = sv := ⟨_, rfl⟩
 rw [hsv] at f2 ⊢
 obtain ⟨pa, hpa, -⟩ := strV_str b.pay
 have hcs : ∀ A' c', b.bare.cells A' c' = #[.int .i64 b.src, .int .i64 b.cr, .int .i64 b.seq, .int .i64 b.off, .int .i64 b.tot, .int .i64 b.dk, .int .i64 b.dn, .int .i64 b.life, .int .i64 b.prio, .int .i64 b.flags, .slice A' b.bare.blocks.length c', .string pa] := fun A' c' => by
  rw [<- hpa]
  rfl
 have f2' := fun A' c' w h => f2 A' c' w h
 simp only [hcs] at f2'
 obtain ⟨m, hm⟩ : ∃ m, b.bare.blocks = m := ⟨_, rfl⟩
 rw [hm] at f1 f2'
 have HM := Lib.hid hm
 unfold Bu.cells
 rw [hpa]
 obtain ⟨W, hW, hB, hk, hlt⟩ := box1 w #[.int .i64 b.src, .int .i64 b.cr, .int .i64 b.seq, .int .i64 b.off, .int .i64 b.tot, .int .i64 b.dk, .int .i64 b.dn, .int .i64 b.life, .int .i64 b.prio, .int .i64 b.flags, .slice A b.blocks.length cap, .string pa] 29
 have hc := hk.cell
 obtain ⟨W2, hW2, hB2, hk2, hl2⟩ := box1 W #[.int .i64 1, .int .i64 2, .int .i64 3, .int .i64 4] 3
 have hRk : Rd EInt W2 (some ⟨W.heap.size, 0, none⟩) [1, 2, 3, 4] := rd_blk hk2
 have hz := hB.size
 clear hsv hcs f2 hpa hm hl
 go_enter Tryz.func126, Tryz.ntmps126
 go_wp2_with fail
 clear hW hW2
 refine (f1 _ _ _ ((hR.ext hB).ext hB2) hRk).mono ?_
 rintro e w3 ⟨A3, c3, rfl, hR3, hL3, hb3⟩
 have hx3 := hB2.trans hb3
 have k3 := hk.ext hx3
 have a1 := k3.cell
 have a2 := k3.lt
 have a3 := k3.frozen
 have k4 := k3.set_ 10 (.slice A3 m.length c3)
 have hE4 := (hB.trans hx3).setCell (p := ⟨w.heap.size, 10, none⟩) (Nat.le_refl _) (.slice A3 m.length c3)
 have hR4 : Rd EBl (w3.setCell ⟨w.heap.size, 10, none⟩ (.slice A3 m.length c3)) A3 m := by
  by_cases h0 : 0 < b.blocks.length
  ·refine KpQ.rd (S := fun b => b = w.heap.size) (KpQ.setCell (S := fun b => b = w.heap.size) (KpQ.refl _ w3) rfl _ _) hR3 (fun ad had he => ?_)
   rcases hL3 ad had with ⟨ad0, h1, h2⟩ | h1
   ·obtain ⟨ad1, e1, hb1, _⟩ := hR.2 h0
    rw [h1] at e1
    injection e1 with e1
    subst e1
    omega
   ·have := hB2.size
    have := hlt
    omega
  ·have hm0 : m = [] := by
    have h1 := remAll_len b.blocks [1, 2, 3, 4]
    rw [<- bare_rem, HM.out] at h1
    exact List.eq_nil_of_length_eq_zero (by omega)
   rw [hm0]
   exact Rd.nil
 obtain ⟨W4, hW4⟩ : ∃ W4, w3.setCell ⟨w.heap.size, 10, none⟩ (.slice A3 m.length c3) = W4 := ⟨_, rfl⟩
 rw [hW4] at k4 hE4 hR4
 have b1 : ∀ i : Nat, W4.cell? ⟨w.heap.size, i, none⟩ = (#[.int .i64 b.src, .int .i64 b.cr, .int .i64 b.seq, .int .i64 b.off, .int .i64 b.tot, .int .i64 b.dk, .int .i64 b.dn, .int .i64 b.life, .int .i64 b.prio, .int .i64 b.flags, .slice A3 m.length c3, .string pa] : Array Value)[i]? := k4.cell
 have b2 := k4.lt
 clear hc
 go_wp2_with fail
 refine (f2' A3 c3 _ hR4).mono ?_
 rintro e w5 ⟨rfl, hb5⟩
 go_wp2
 go_ret
 exact ⟨rfl, hE4.trans hb5⟩
end
section
open Go.RowKit Go.Shelf
attribute [local go_sem] Oper.semAt_some
theorem buEnc_len {b : Bu} (hv : buE b = 0) : b.enc.length <= 20000 := by
 have hbl := (buE_all hv).2.2.2.2.2.1
 have hpl := bu_pay hv
 have le := encAll_len hbl
 have lp := vtext_len b.pay
 have l0 := vtext_len [77, 66, 49]
 have l1 := flatMap_len_le (l := b.nums) (f := vint) (m := 10) (fun x _ => vint_len x)
 have hnl : b.nums.length = 10 := rfl
 have ls := sealB_len (vtext [77, 66, 49] ++ b.nums.flatMap vint ++ encAll b.blocks ++ vtext b.pay)
 unfold Bu.enc
 simp only [List.length_append] at ls ⊢
 simp only [List.length_cons, List.length_nil] at l0
 omega
set_option maxRecDepth 100000 in
set_option maxHeartbeats 16000000 in
theorem sign_any (b : Bu) (A : Option Addr) (cap : Nat) (node : Int) (key : Bts) (w : World) (hR : Rd EBl w A b.blocks) (hv : buE b = 0) (hn : 0 <= node /\ node < 16) (hk : key.length = 16) :
 Calls Tryz.prog 46 #[.agg (b.cells A cap), .int .i64 node, strV key] w fun e w' => e = .returned (.tuple #[strV (signT b node key), .int .i64 0]) /\ Ext w w' := by
 have fs := fun w h => signed_any b A cap w h hv
 have hel := buEnc_len (bare_valid hv)
 have HS := Lib.hid (show signT b node key = tagB key (chainB [[nby node], b.bare.enc]) from rfl)
 obtain ⟨E, hE⟩ : ∃ E, b.bare.enc = E := ⟨_, rfl⟩
 rw [hE] at fs hel HS
 have hq1 : IntKind.u8.wrap node = ((nby node).toNat : Int) := by rw [nby_toNat hn, IntKind.wrap_u8']; omega
 have hq2 : node % 256 = ((nby node).toNat : Int) := by rw [nby_toNat hn]; omega
 obtain ⟨nb, hnb⟩ : ∃ nb, nby node = nb := ⟨_, rfl⟩
 rw [hnb] at hq1 hq2 HS
 have hcl : (chainB [[nb], E]).length <= 65536 := by
  unfold chainB
  simp only [List.flatMap_cons, List.flatMap_nil, List.length_append, wby_length, List.length_cons, List.length_nil]
  omega
 have fc := fun Z cc w h => chain_any key Z cc [[nb], E] w hk h hcl (by simp)
 simp only [List.length_cons, List.length_nil, Nat.zero_add, Nat.reduceAdd] at fc
 obtain ⟨na, hna, hnv, -⟩ := str_name [nb]
 obtain ⟨ea, hea, hev, -⟩ := str_name E
 have cs : ∀ w g, Blk w g 5 #[.int .u8 (nb.toNat : Int)] -> (convert 22 9 (.slice (some ⟨g, 0, none⟩) 1 1)).run Tryz.prog w = .ok (.string na) w := fun w g h => by
  have := conv_str (P := Tryz.prog) w 22 9 5 (some ⟨g, 0, none⟩) 1 [nb] Tryz.underlying22 Tryz.underlying5 Tryz.underlying9 (rd_blk h)
  rw [hnv] at this
  exact this
 have rdS : ∀ w g, Blk w g 9 #[.string na, .string ea] -> Rd EStr w (some ⟨g, 0, none⟩) [[nb], E] := fun w g h => by
  refine rd_blk (e := 9) ?_
  have : (EStr.all [[nb], E]).toArray = #[.string na, .string ea] := by
   show #[strV [nb], strV E] = _
   rw [hnv, hev]
  rw [this]
  exact h
 rw [hev] at fs
 obtain ⟨sv, hsv⟩ : ∃ sv, strV (tagB key (chainB [[nb], E])) = sv := ⟨_, rfl⟩
 rw [hsv] at fc
 have HV := Lib.hid (show strV (signT b node key) = sv by rw [HS.out, hsv])
 obtain ⟨ka, hka, -⟩ := strV_str key
 rw [hka] at fc ⊢
 rw [HV.out]
 obtain ⟨pa, hpa, -⟩ := strV_str b.pay
 have hcs : b.cells A cap = #[.int .i64 b.src, .int .i64 b.cr, .int .i64 b.seq, .int .i64 b.off, .int .i64 b.tot, .int .i64 b.dk, .int .i64 b.dn, .int .i64 b.life, .int .i64 b.prio, .int .i64 b.flags, .slice A b.blocks.length cap, .string pa] := by unfold Bu.cells; rw [hpa]
 rw [hcs] at fs ⊢
 obtain ⟨W, hW, hB, hkk, hlt⟩ := box1 w #[.int .i64 b.src, .int .i64 b.cr, .int .i64 b.seq, .int .i64 b.off, .int .i64 b.tot, .int .i64 b.dk, .int .i64 b.dn, .int .i64 b.life, .int .i64 b.prio, .int .i64 b.flags, .slice A b.blocks.length cap, .string pa] 29
 have hc := hkk.cell
 have hRW := hR.ext hB
 clear hE hel hnb hcl hna hnv hea hev hsv hka hpa hcs hk hv
 go_enter Tryz.func46, Tryz.ntmps46
 go_wp2_with fail
 clear hW
 have near : ∀ w', Ext W w' -> Ext W w' /\ ∀ b o, b < W.heap.size -> w'.cell? ⟨b, o, none⟩ = W.cell? ⟨b, o, none⟩ := fun w' h => ⟨h, fun b o hb => h.cell hb⟩
 refine wp_region_P (fun _ => false) (fun w' => Ext W w' /\ ∀ b o, b < W.heap.size -> w'.cell? ⟨b, o, none⟩ = W.cell? ⟨b, o, none⟩) (by kernel_rfl) (near _ (Ext.refl W).drew) (fun _ => ?_)
 refine pT 0 (v := ?_) rfl (fun _ _ _ h => h) (by rfl) ?_ ?_
 rotate_left
 ·intro w'; go_simp; first | done | with_reducible rfl
 try simp only [Act.put, sp1]
 refine pT 1 (v := ?_) rfl (fun _ _ _ h => h) (by rfl) ?_ ?_
 rotate_left
 ·intro w'; go_simp; first | done | with_reducible rfl
 try simp only [Act.put, sp1]
 refine pT 2 (v := ?_) rfl (fun _ _ _ h => h) (by rfl) ?_ ?_
 rotate_left
 ·intro w'; go_simp; first | done | with_reducible rfl
 try simp only [Act.put, sp1]
 refine pK 5 (v := ?_) rfl (fun _ _ _ h => h) (by rfl) ?_ (by assumption) ?_
 rotate_left
 ·intro w' hw'
  (try have hC := hw'.2)
  (try have hC9 := hw'.1)
  go_simp
  first | done | with_reducible rfl
 try simp only [Act.put, sp1]
 refine wpAnyP_ready (rs := [3, 6]) (by kernel_rfl) (by simp) ?_
 refine AllReadyP.cons rfl (fun K hK => ?_) (AllReadyP.cons rfl (fun K hK => ?_) AllReadyP.nil)
 ·obtain ⟨X1, hX1, hBX1, hkX1, hlX1⟩ := box1 W.drew #[.int .u8 (nb.toNat : Int)] 5
  go_simp
  refine hK.out _ _ (fun _ _ => near _ (((Ext.refl W).drew).trans hBX1)) ?_
  clear hK K hX1
  refine wpAnyP_ready (rs := [4, 6]) (by kernel_rfl) (by simp) ?_
  refine AllReadyP.cons rfl (fun K hK => ?_) (AllReadyP.cons rfl (fun K hK => ?_) AllReadyP.nil)
  ·have q2 := cs X1 W.heap.size hkX1
   go_simp
   refine hK.out _ _ (fun _ h => h) ?_
   clear hK K q2
   refine pO 6 rfl (fun K hK => ?_)
   go_simp
   refine (fs X1 (hRW.ext (((Ext.refl W).drew).trans hBX1))).mono ?_
   rintro e Y3 ⟨rfl, hbY3⟩
   refine hK.out _ _ (fun _ _ => near _ ((((Ext.refl W).drew).trans hBX1).trans hbY3)) ?_
   clear hK K
   obtain ⟨V4, hV4, hBV4, hkV4, hlV4⟩ := box1 Y3 #[.string na, .string ea] 9
   refine pO 7 rfl (fun K hK => ?_)
   go_simp
   refine hK.out _ _ (fun _ _ => near _ (((((Ext.refl W).drew).trans hBX1).trans hbY3).trans hBV4)) ?_
   clear hK K hV4
   refine pO 8 rfl (fun K hK => ?_)
   go_simp
   refine (fc (some ⟨Y3.heap.size, 0, none⟩) 2 V4 (rdS _ _ hkV4)).mono ?_
   rintro e Z4 ⟨rfl, hbZ4⟩
   refine hK.out _ _ (fun _ _ => near _ ((((((Ext.refl W).drew).trans hBX1).trans hbY3).trans hBV4).trans hbZ4)) ?_
   clear hK K
   refine pT 9 (v := ?_) rfl (fun _ _ _ h => h) (by rfl) ?_ ?_
   rotate_left
   ·intro w'; go_simp; first | done | with_reducible rfl
   try simp only [Act.put, sp1]
   refine pT 10 (v := ?_) rfl (fun _ _ _ h => h) (by rfl) ?_ ?_
   rotate_left
   ·intro w'; go_simp; first | done | with_reducible rfl
   try simp only [Act.put, sp1]
   refine pT 11 (v := ?_) rfl (fun _ _ _ h => h) (by rfl) ?_ ?_
   rotate_left
   ·intro w'; go_simp; first | done | with_reducible rfl
   try simp only [Act.put, sp1]
   refine pT 12 (v := ?_) rfl (fun _ _ _ h => h) (by rfl) ?_ ?_
   rotate_left
   ·intro w'; go_simp; first | done | with_reducible rfl
   try simp only [Act.put, sp1]
   simp only [List.getElem_toArray, List.getElem_cons_succ, List.getElem_cons_zero, Act.put, sp1]
   refine wpAnyP_done (by kernel_rfl) ?_ _
   go_wp2
   go_ret2
   exact ⟨rfl, hB.trans ((((((Ext.refl W).drew).trans hBX1).trans hbY3).trans hBV4).trans hbZ4)⟩
  ·go_simp
   refine (fs X1 (hRW.ext (((Ext.refl W).drew).trans hBX1))).mono ?_
   rintro e Y5 ⟨rfl, hbY5⟩
   refine hK.out _ _ (fun _ _ => near _ ((((Ext.refl W).drew).trans hBX1).trans hbY5)) ?_
   clear hK K
   have hkY5 := Blk.ext hkX1 hbY5
   refine pO 4 rfl (fun K hK => ?_)
   have q6 := cs Y5 W.heap.size hkY5
   go_simp
   refine hK.out _ _ (fun _ h => h) ?_
   clear hK K q6
   obtain ⟨V7, hV7, hBV7, hkV7, hlV7⟩ := box1 Y5 #[.string na, .string ea] 9
   refine pO 7 rfl (fun K hK => ?_)
   go_simp
   refine hK.out _ _ (fun _ _ => near _ (((((Ext.refl W).drew).trans hBX1).trans hbY5).trans hBV7)) ?_
   clear hK K hV7
   refine pO 8 rfl (fun K hK => ?_)
   go_simp
   refine (fc (some ⟨Y5.heap.size, 0, none⟩) 2 V7 (rdS _ _ hkV7)).mono ?_
   rintro e Z7 ⟨rfl, hbZ7⟩
   refine hK.out _ _ (fun _ _ => near _ ((((((Ext.refl W).drew).trans hBX1).trans hbY5).trans hBV7).trans hbZ7)) ?_
   clear hK K
   refine pT 9 (v := ?_) rfl (fun _ _ _ h => h) (by rfl) ?_ ?_
   rotate_left
   ·intro w'; go_simp; first | done | with_reducible rfl
   try simp only [Act.put, sp1]
   refine pT 10 (v := ?_) rfl (fun _ _ _ h => h) (by rfl) ?_ ?_
   rotate_left
   ·intro w'; go_simp; first | done | with_reducible rfl
   try simp only [Act.put, sp1]
   refine pT 11 (v := ?_) rfl (fun _ _ _ h => h) (by rfl) ?_ ?_
   rotate_left
   ·intro w'; go_simp; first | done | with_reducible rfl
   try simp only [Act.put, sp1]
   refine pT 12 (v := ?_) rfl (fun _ _ _ h => h) (by rfl) ?_ ?_
   rotate_left
   ·intro w'; go_simp; first | done | with_reducible rfl
   try simp only [Act.put, sp1]
   simp only [List.getElem_toArray, List.getElem_cons_succ, List.getElem_cons_zero, Act.put, sp1]
   refine wpAnyP_done (by kernel_rfl) ?_ _
   go_wp2
   go_ret2
   exact ⟨rfl, hB.trans ((((((Ext.refl W).drew).trans hBX1).trans hbY5).trans hBV7).trans hbZ7)⟩
 ·go_simp
  refine (fs W.drew (hRW.ext ((Ext.refl W).drew))).mono ?_
  rintro e Y8 ⟨rfl, hbY8⟩
  refine hK.out _ _ (fun _ _ => near _ (((Ext.refl W).drew).trans hbY8)) ?_
  clear hK K
  refine pO 3 rfl (fun K hK => ?_)
  obtain ⟨X9, hX9, hBX9, hkX9, hlX9⟩ := box1 Y8 #[.int .u8 (nb.toNat : Int)] 5
  go_simp
  refine hK.out _ _ (fun _ _ => near _ ((((Ext.refl W).drew).trans hbY8).trans hBX9)) ?_
  clear hK K hX9
  refine pO 4 rfl (fun K hK => ?_)
  have q10 := cs X9 Y8.heap.size hkX9
  go_simp
  refine hK.out _ _ (fun _ h => h) ?_
  clear hK K q10
  obtain ⟨V11, hV11, hBV11, hkV11, hlV11⟩ := box1 X9 #[.string na, .string ea] 9
  refine pO 7 rfl (fun K hK => ?_)
  go_simp
  refine hK.out _ _ (fun _ _ => near _ (((((Ext.refl W).drew).trans hbY8).trans hBX9).trans hBV11)) ?_
  clear hK K hV11
  refine pO 8 rfl (fun K hK => ?_)
  go_simp
  refine (fc (some ⟨X9.heap.size, 0, none⟩) 2 V11 (rdS _ _ hkV11)).mono ?_
  rintro e Z11 ⟨rfl, hbZ11⟩
  refine hK.out _ _ (fun _ _ => near _ ((((((Ext.refl W).drew).trans hbY8).trans hBX9).trans hBV11).trans hbZ11)) ?_
  clear hK K
  refine pT 9 (v := ?_) rfl (fun _ _ _ h => h) (by rfl) ?_ ?_
  rotate_left
  ·intro w'; go_simp; first | done | with_reducible rfl
  try simp only [Act.put, sp1]
  refine pT 10 (v := ?_) rfl (fun _ _ _ h => h) (by rfl) ?_ ?_
  rotate_left
  ·intro w'; go_simp; first | done | with_reducible rfl
  try simp only [Act.put, sp1]
  refine pT 11 (v := ?_) rfl (fun _ _ _ h => h) (by rfl) ?_ ?_
  rotate_left
  ·intro w'; go_simp; first | done | with_reducible rfl
  try simp only [Act.put, sp1]
  refine pT 12 (v := ?_) rfl (fun _ _ _ h => h) (by rfl) ?_ ?_
  rotate_left
  ·intro w'; go_simp; first | done | with_reducible rfl
  try simp only [Act.put, sp1]
  simp only [List.getElem_toArray, List.getElem_cons_succ, List.getElem_cons_zero, Act.put, sp1]
  refine wpAnyP_done (by kernel_rfl) ?_ _
  go_wp2
  go_ret2
  exact ⟨rfl, hB.trans ((((((Ext.refl W).drew).trans hbY8).trans hBX9).trans hBV11).trans hbZ11)⟩
end
end Go.Proofs.YtemkpimngbbpkaaGreat

/- TopSigned: the walk. -/
import Derived.BigQuiet
import Derived.Test.YtemkpimngbbpkaaGreatQs01
import Derived.Test.YtemkpimngbbpkaaGreatQs27
import Derived.Test.YtemkpimngbbpkaaGreatQs29
import Derived.Test.YtemkpimngbbpkaaGreatQs36
import Derived.Test.YtemkpimngbbpkaaGreatQs40
import Derived.Test.YtemkpimngbbpkaaGreatQs41
import Derived.Test.YtemkpimngbbpkaaGreatQs47
import Derived.Test.YtemkpimngbbpkaaGreatQs48
namespace Go.Proofs.YtemkpimngbbpkaaGreat
set_option linter.unusedVariables false
set_option linter.unusedSimpArgs false
open Go.RowKit Go.Shelf
attribute [local go_sem] Oper.semAt_some
theorem ver_ok {b : Bu} {node : Int} {key : Bts} (h : verE b node key = 0) : buE b = 0 /\ secE b = 0 := by
 unfold verE at h
 split at h
 ·rename_i h1; exact absurd h h1
 ·rename_i h1
  obtain ⟨a1, _, _, a4⟩ := allE_ok (by simpa using h1)
  exact ⟨a1, a4⟩
theorem vint_pos (n : Int) : 1 <= (vint n).length := by rw [show vint n = vintN (zig n) from rfl, vintN_len]; omega
theorem sealB_ge (t : Bts) : t.length <= (sealB t).length := by
 unfold sealB vtext
 simp only [List.length_append]
 omega
theorem enc_form {b : Bu} (h : buE b = 0) : ∃ T : Bts, b.enc = sealB T /\ T.length <= 65536 /\ 10 <= b.enc.length /\ b.enc.length <= 65600 := by
 have hbl := (buE_all h).2.2.2.2.2.1
 have hpl := bu_pay h
 have le := encAll_len hbl
 have lp := vtext_len b.pay
 have l0 := vtext_len [77, 66, 49]
 have l1 := flatMap_len_le (l := b.nums) (f := vint) (m := 10) (fun x _ => vint_len x)
 have hnl : b.nums.length = 10 := rfl
 have hT : (vtext [77, 66, 49] ++ b.nums.flatMap vint ++ encAll b.blocks ++ vtext b.pay).length <= 65000 := by simp only [List.length_append]; simp only [List.length_cons, List.length_nil] at l0; omega
 have hs := sealB_len (vtext [77, 66, 49] ++ b.nums.flatMap vint ++ encAll b.blocks ++ vtext b.pay)
 have hge : ∀ l : List Int, l.length <= (l.flatMap vint).length := by
  intro l
  induction l with
  | nil => simp
  | cons x r ih =>
    have := vint_pos x
    rw [List.flatMap_cons, List.length_append, List.length_cons]
    omega
 have h10 := hge b.nums
 have hlow := sealB_ge (vtext [77, 66, 49] ++ b.nums.flatMap vint ++ encAll b.blocks ++ vtext b.pay)
 refine ⟨_, rfl, by omega, ?_, ?_⟩
 ·show 10 <= (sealB _).length
  simp only [List.length_append] at hlow ⊢
  omega
 ·show (sealB _).length <= 65600
  omega
theorem enc_pre {b : Bu} (h : buE b = 0) {f : Nat} (h1 : 1 <= f) (hlt : f - 1 < b.enc.length) (hstop : f = 3 ∨ (b.enc[f - 1]).toNat < 128) {i : Nat} (hi : f <= i) (hil : i < b.enc.length) {v : UInt8} (hv : v ≠ b.enc[i]) : (opn (b.enc.set i v)).1 ≠ 0 := by
 obtain ⟨T, hT, hTl, _, _⟩ := enc_form h
 obtain ⟨p1, p2, p3⟩ := vint_pre hTl
 have hp : (vint (T.length : Int)).length <= f := by
  rcases hstop with h3 | h3
  ·omega
  ·apply Classical.byContradiction
   intro hh
   have h4 := p3 (f - 1) (by omega) (by omega)
   have h5 : b.enc[f - 1] = (vint (T.length : Int))[f - 1]'(by omega) := by
    have e : b.enc = vint (T.length : Int) ++ (T ++ ctail (vtext T)) := by rw [hT]; unfold sealB vtext; rw [List.append_assoc]
    simp only [e]
    rw [List.getElem_append_left (by omega)]
   rw [h5] at h3
   omega
 revert hv hil hlt hstop
 rw [hT]
 intro hlt hstop hil hv
 exact opn_set hTl (by omega) hil hv
theorem fw_ver {b : Bu} {n el node : Int} {key : Bts} (h : verE b node key = 0) (hf : fwE b n el = 0) : verE (fwB b n el) node key = 0 /\ sgn (fwB b n el) = sgn b := by
 have hk := fw_keeps (ver_ok h).1 hf
 exact ⟨(hk.ver (ver_ok h).1).trans h, by unfold sgn; rw [hk.authB]⟩
theorem fwB_pos {b : Bu} {n el : Int} (h : 0 < (fwB b n el).blocks.length) : 0 < b.blocks.length := by
 apply Classical.byContradiction
 intro hh
 have hb : b.blocks = [] := List.eq_nil_of_length_eq_zero (by omega)
 have hg : ∀ k, getR b k = (7, []) := fun k => by unfold getR findK; rw [hb]; rfl
 have e : fwB b n el = b := by unfold fwB fw3 fw2 fw1; simp [hg]
 rw [e] at h
 exact hh h
def SgX (w0 : World) (g : Nat) (node : Int) (S0 : List Int) (W : World) : Prop :=
 ∃ (x : Bu) (A : Option Addr) (c : Nat) (s : ByteArray), strV x.pay = .string s /\ Blk W g 29 #[.int .i64 x.src, .int .i64 x.cr, .int .i64 x.seq, .int .i64 x.off, .int .i64 x.tot, .int .i64 x.dk, .int .i64 x.dn, .int .i64 x.life, .int .i64 x.prio, .int .i64 x.flags, .slice A x.blocks.length c, .string s] /\
   Rd EBl W A x.blocks /\ (0 < x.blocks.length -> ∀ ad, A = some ad -> ad.block ≠ g) /\ verE x node exKey = 0 /\ sgn x = S0 /\ Ups g w0 W
theorem rd_ne {W : World} {A : Option Addr} {α : Type} {E : Elt α} {l : List α} (h : Rd E W A l) {g : Nat} (hg : W.heap.size <= g) : 0 < l.length -> ∀ ad, A = some ad -> ad.block ≠ g := fun hn ad he => by
 obtain ⟨ad', e', hb', _⟩ := h.2 hn
 rw [he] at e'
 injection e' with e'
 subst e'
 omega
set_option maxRecDepth 100000 in
set_option maxHeartbeats 32000000 in
theorem signed_walk (b : Bu) (A : Option Addr) (cc : Nat) (node : Int) (Ah : Option Addr) (ch : Nat) (hops : List Thp) (at' by' : Int) (w : World) (hR : Rd EBl w A b.blocks) (hH : Rd EThp w Ah hops) (hlm : hops.length <= maxLen) (hat : 0 <= at' /\ at' <= 65535) (hby : 0 <= by' /\ by' <= 255) :
 Calls Tryz.prog 7 #[.agg (b.cells A cc), .int .i64 node, .slice Ah hops.length ch, .int .u16 at', .int .u8 by'] w fun e w' => e = .returned (.bool true) /\ Ext w w' := by
 unfold maxLen at hlm
 have g1 := Lib.hid (fun w h => great3_any b A cc w h)
 have g2 := Lib.hid (fun w h => check3_any b A cc w h)
 have g3 := Lib.hid (fun w h => prot_any b A cc node exKey w h)
 have hpv := Lib.hid (fun h => prot_ver (b := b) (node := node) (key := exKey) h)
 obtain ⟨sv, hsv, -⟩ := strV_str b.pay
 have hcs : b.cells A cc = #[.int .i64 b.src, .int .i64 b.cr, .int .i64 b.seq, .int .i64 b.off, .int .i64 b.tot, .int .i64 b.dk, .int .i64 b.dn, .int .i64 b.life, .int .i64 b.prio, .int .i64 b.flags, .slice A b.blocks.length cc, .string sv] := by unfold Bu.cells; rw [hsv]
 rw [hcs] at g1 g2 g3 ⊢
 clear hcs hsv
 have HR := Lib.hid hR
 obtain ⟨W1, hW1, hB1, hk1, hkl1⟩ := box1 w #[.int .i64 b.src, .int .i64 b.cr, .int .i64 b.seq, .int .i64 b.off, .int .i64 b.tot, .int .i64 b.dk, .int .i64 b.dn, .int .i64 b.life, .int .i64 b.prio, .int .i64 b.flags, .slice A b.blocks.length cc, .string sv] 29
 have c1 := hk1.cell
 have c2 := hk1.lt
 clear hR
 go_enter Tryz.func7, Tryz.ntmps7
 go_wp2_with fail
 clear hW1
 refine (g1.out _ (HR.out.ext hB1)).mono ?_
 rintro e w4 ⟨⟨v4, rfl⟩, hb4⟩
 have hkb4 := hk1.ext hb4
 have hE4 := hB1.trans hb4
 clear c1 c2
 have c1 := hkb4.cell
 have c2 := hkb4.lt
 cases v4 with
 | true =>
   go_wp2_with fail
   refine (awake5_any _).mono ?_
   rintro e w5 ⟨rfl, hb5⟩
   go_wp2
   go_ret
   exact ⟨rfl, hE4.trans hb5⟩
 | false =>
 go_wp2_with fail
 refine (g2.out _ (HR.out.ext hE4)).mono ?_
 rintro e w5 ⟨⟨v5, rfl⟩, hb5⟩
 have hkb5 := hkb4.ext hb5
 have hE5 := hE4.trans hb5
 clear c1 c2
 have c1 := hkb5.cell
 have c2 := hkb5.lt
 by_cases hv5 : v5 = 0
 case neg =>
  have z5 : (v5 != 0) = true := by rw [bne_iff_ne]; exact hv5
  go_wp2_with fail
  refine (awake5_any _).mono ?_
  rintro e w6 ⟨rfl, hb6⟩
  go_wp2
  go_ret
  exact ⟨rfl, hE5.trans hb6⟩
 subst hv5
 by_cases h6 : 6 < hops.length
 case pos =>
  have d6 : decide ((6 : Int) < (hops.length : Int)) = true := decide_eq_true (by omega)
  go_wp2_with fail
  refine (awake5_any _).mono ?_
  rintro e w6 ⟨rfl, hb6⟩
  go_wp2
  go_ret
  exact ⟨rfl, hE5.trans hb6⟩
 have d6 : decide ((6 : Int) < (hops.length : Int)) = false := decide_eq_false (by omega)
 go_wp2_with fail
 refine Calls.mono (g3.out _ (HR.out.ext hE5)) ?_
 rintro e w6 ⟨hpr, hb6⟩
 have hE6 := hE5.trans hb6
 clear c1 c2 g1 g2 g3 hkb4 hkb5 hk1
 obtain ⟨V7, hV7, hV7e, hv7, hvl7⟩ := box1 w6 #[.int .i64 0, .int .i64 0, .int .i64 0, .int .i64 0, .int .i64 0, .int .i64 0, .int .i64 0, .int .i64 0, .int .i64 0, .int .i64 0, .slice none 0 0, .string ⟨#[]⟩] 29
 have v1 := hv7.cell
 have v2 := hv7.lt
 have v3 := hv7.frozen
 rcases hpr with ⟨h0, rfl⟩ | ⟨h0, A1, q1, rfl, hR6⟩
 ·have z6 : (protE b node exKey != 0) = true := by rw [bne_iff_ne]; exact h0
  unfold zeroB
  obtain ⟨WX, hWX, hkX, hUX⟩ := store12 hv7 (.int .i64 0) (.int .i64 0) (.int .i64 0) (.int .i64 0) (.int .i64 0) (.int .i64 0) (.int .i64 0) (.int .i64 0) (.int .i64 0) (.int .i64 0) (.slice none 0 0) (.string ⟨#[]⟩)
  go_upto_region 4 with fail
  (try rw [hWX])
  go_wp2_with fail
  refine (awake5_any _).mono ?_
  rintro e w8 ⟨rfl, hb8⟩
  go_wp2
  go_ret
  exact ⟨rfl, (hUX.ext (hE6.trans hV7e) hE6.size).trans hb8⟩
 have hver := hpv.out h0
 clear hpv h0 d6
 generalize protB b node exKey = x at *
 obtain ⟨s, hs, -⟩ := strV_str x.pay
 have hcx : x.cells A1 q1 = #[.int .i64 x.src, .int .i64 x.cr, .int .i64 x.seq, .int .i64 x.off, .int .i64 x.tot, .int .i64 x.dk, .int .i64 x.dn, .int .i64 x.life, .int .i64 x.prio, .int .i64 x.flags, .slice A1 x.blocks.length q1, .string s] := by unfold Bu.cells; rw [hs]
 obtain ⟨hvb, hvs⟩ := ver_ok hver
 have f1 := Lib.hid (fun w h => signers_any x A1 q1 w h hvb hvs)
 rw [hcx] at f1 ⊢
 obtain ⟨WX, hWX, hkX, hUX⟩ := store12 hv7 (.int .i64 x.src) (.int .i64 x.cr) (.int .i64 x.seq) (.int .i64 x.off) (.int .i64 x.tot) (.int .i64 x.dk) (.int .i64 x.dn) (.int .i64 x.life) (.int .i64 x.prio) (.int .i64 x.flags) (.slice A1 x.blocks.length q1) (.string s)
 have hne := rd_ne hR6 (Nat.le_refl _)
 have hR7 := ups_rd2 hUX (hR6.ext hV7e) hne
 have hE7 := hUX.ext (hE6.trans hV7e) hE6.size
 have HX := Lib.hid (And.intro hs (And.intro hver (And.intro hR7 hne)))
 have hgx := hE6.size
 go_upto_region 6 with fail
 (try rw [hWX])
 obtain ⟨gx, hgxe⟩ : ∃ gx, w6.heap.size = gx := ⟨_, rfl⟩
 clear hWX hV7 v1 v2 v3 hv7 hvl7 hcx hs hver hvb hvs hR6 hUX hR7 hne
 rw [hgxe] at hkX hgx ⊢
 have HX2 := HX.out
 rw [hgxe] at HX2
 have c1 := hkX.cell
 have c2 := hkX.lt
 go_wp2_with fail
 refine Calls.mono (f1.out _ HX2.2.2.1) ?_
 clear f1
 rintro e w8 ⟨A8, q8, rfl, hR8, hA8, hb8⟩
 have hE8 := hE7.trans hb8
 have HI0 : SgX w8 gx node (sgn x) w8 := ⟨x, A1, q1, s, HX2.1, hkX.ext hb8, HX2.2.2.1.ext hb8, HX2.2.2.2, HX2.2.1, rfl, Ups.refl _ _⟩
 obtain ⟨S0, hS0⟩ : ∃ S0, sgn x = S0 := ⟨_, rfl⟩
 have hx8 := hkX.lt
 have hS8 : 0 < (sgn x).length -> ∀ ad, A8 = some ad -> ad.block ≠ gx := fun _ ad h => by have := hA8 ad h; omega
 have hSl : (sgn x).length <= 1000 := by
  have := auth_len (ver_ok HX2.2.1).1
  unfold sgn
  rw [List.length_map, sigs_len]
  omega
 rw [hS0] at HI0 hR8 hS8 hSl ⊢
 have hH8 := hH.ext hE8
 have hHn : 0 < hops.length -> ∀ ad, Ah = some ad -> ad.block ≠ gx := rd_ne hH hgx
 clear c1 c2 HX2 HX hA8 hb8 hE7 hE6 hS0 hkX hgxe hV7e hb6
 go_wp2_with fail
 go_loopg [59] hops.length (fun m vi wr => ∃ k : Nat, k + m = hops.length /\ vi = .int .i64 k /\ SgX w8 gx node S0 wr)
 case atStart => exact ⟨0, by omega, by go_num, HI0⟩
 case round =>
  obtain ⟨k, hkn, rfl, x, A, c, s, hs, hk, hR, hne, hver, hsg, hU⟩ := hrel
  have Hkn := Lib.hid hkn
  obtain ⟨hvb, hvs⟩ := ver_ok hver
  have hcx : x.cells A c = #[.int .i64 x.src, .int .i64 x.cr, .int .i64 x.seq, .int .i64 x.off, .int .i64 x.tot, .int .i64 x.dk, .int .i64 x.dn, .int .i64 x.life, .int .i64 x.prio, .int .i64 x.flags, .slice A x.blocks.length c, .string s] := by unfold Bu.cells; rw [hs]
  have HS := Lib.hid hs
  have HV := Lib.hid hver
  have HG := Lib.hid hsg
  have HB := Lib.hid hvb
  have HBS := Lib.hid hvs
  clear hkn hs hver hsg
  by_cases hlt : k < hops.length
  ·obtain ⟨bh, oh, rfl, hbh, p0, p1⟩ := (ups_rd2 hU hH8 hHn).thp hlt
   have fF := Lib.hid (fun n el w h => Forward_any x A c n el w h hvb)
   rw [hcx] at fF
   have c1 := hk.cell
   have c2 := hk.lt
   generalize hops[k] = hp at *
   obtain ⟨n1, e1⟩ := hp
   dsimp only at p0 p1
   obtain ⟨V3, hV3, hV3e, hv3, hvl3⟩ := box1 wr #[.int .i64 0, .int .i64 0] 107
   obtain ⟨W3, hW3, hk3, hB3⟩ : ∃ W3, V3.setCells wr.heap.size 0 [.int .i64 n1, .int .i64 e1] = W3 /\ Blk W3 wr.heap.size 107 #[.int .i64 n1, .int .i64 e1] /\ Ext wr W3 :=
    ⟨_, rfl, hv3.setCells_ [.int .i64 n1, .int .i64 e1] 0, ext_setCells hV3e (Nat.le_refl _) 0 _⟩
   simp only [World.setCells, Nat.zero_add, Nat.reduceAdd] at hW3
   have v1 := hv3.cell
   have v2 := hv3.lt
   have v3 := hv3.frozen
   go_upto_region 10 with fail
   (try rw [hW3])
   clear hW3 hV3 v1 v2 v3 hv3 hvl3 p0 p1 c1 c2
   go_cut [16, 17] from 64 to 71 (fun a16 a17 wx => ∃ g u, a16 = .pointer (some ⟨g, 0, none⟩) /\ a17 = .int .i64 u /\ Ext wr wx /\ wr.heap.size <= g /\ (u = 0 -> ∃ y A' c' s', strV y.pay = .string s' /\ Blk wx g 29 #[.int .i64 y.src, .int .i64 y.cr, .int .i64 y.seq, .int .i64 y.off, .int .i64 y.tot, .int .i64 y.dk, .int .i64 y.dn, .int .i64 y.life, .int .i64 y.prio, .int .i64 y.flags, .slice A' y.blocks.length c', .string s'] /\ Rd EBl wx A' y.blocks /\ (0 < y.blocks.length -> ∀ ad, A' = some ad -> ad.block ≠ gx) /\ verE y node exKey = 0 /\ sgn y = S0))
   case first =>
    have k3 := hk.ext hB3
    have c1 := k3.cell
    have c2 := k3.lt
    have d1 := hk3.cell
    have d2 := hk3.lt
    go_wp2_with fail
    refine Calls.mono (fF.out n1 e1 _ (hR.ext hB3)) ?_
    rintro e w4 ⟨hfw, hb4⟩
    clear c1 c2 d1 d2
    obtain ⟨V5, hV5, hV5e, hv5, hvl5⟩ := box1 w4 #[.int .i64 0, .int .i64 0, .int .i64 0, .int .i64 0, .int .i64 0, .int .i64 0, .int .i64 0, .int .i64 0, .int .i64 0, .int .i64 0, .slice none 0 0, .string ⟨#[]⟩] 29
    have v1 := hv5.cell
    have v2 := hv5.lt
    have v3 := hv5.frozen
    have hx4 := hB3.trans hb4
    rcases hfw with ⟨h0, rfl⟩ | ⟨h0, A5, q5, rfl, hR5, hA5⟩
    ·unfold zeroB
     obtain ⟨WX, hWX, hkX, hUX⟩ := store12 hv5 (.int .i64 0) (.int .i64 0) (.int .i64 0) (.int .i64 0) (.int .i64 0) (.int .i64 0) (.int .i64 0) (.int .i64 0) (.int .i64 0) (.int .i64 0) (.slice none 0 0) (.string ⟨#[]⟩)
     go_wp2
     (try rw [hWX])
     go_meet
     exact ⟨w4.heap.size, _, rfl, rfl, hUX.ext (hx4.trans hV5e) hx4.size, hx4.size, fun hh => absurd hh h0⟩
    ·obtain ⟨q1, q2⟩ := fw_ver (n := n1) (el := e1) HV.out h0
     have hpos := @fwB_pos x n1 e1
     generalize fwB x n1 e1 = y at *
     obtain ⟨s', hs', -⟩ := strV_str y.pay
     have hcy : y.cells A5 q5 = #[.int .i64 y.src, .int .i64 y.cr, .int .i64 y.seq, .int .i64 y.off, .int .i64 y.tot, .int .i64 y.dk, .int .i64 y.dn, .int .i64 y.life, .int .i64 y.prio, .int .i64 y.flags, .slice A5 y.blocks.length q5, .string s'] := by unfold Bu.cells; rw [hs']
     have HS' := Lib.hid hs'
     rw [hcy]
     clear hcy hs'
     obtain ⟨WX, hWX, hkX, hUX⟩ := store12 hv5 (.int .i64 y.src) (.int .i64 y.cr) (.int .i64 y.seq) (.int .i64 y.off) (.int .i64 y.tot) (.int .i64 y.dk) (.int .i64 y.dn) (.int .i64 y.life) (.int .i64 y.prio) (.int .i64 y.flags) (.slice A5 y.blocks.length q5) (.string s')
     have hsz := hb4.size
     have hsz3 := hB3.size
     have hlx := hk.lt
     go_wp2
     (try rw [hWX])
     go_meet
     exact ⟨w4.heap.size, 0, rfl, rfl, hUX.ext (hx4.trans hV5e) hx4.size, hx4.size, fun _ => ⟨y, A5, q5, s', HS'.out, hkX, ups_rd2 hUX (hR5.ext hV5e) (rd_ne hR5 (Nat.le_refl _)), fun hn ad he => by
      rcases hA5 with rfl | hA5
      ·exact hne (hpos hn) ad he
      ·have := hA5 ad he; omega, q1, q2.trans HG.out⟩⟩
   case rest =>
   obtain ⟨g, u, rfl, rfl, hxc, hgw, hyy⟩ := hcut
   generalize wc = w5 at *
   clear hk3 hB3 hV3e fF
   have k5 := hk.ext hxc
   have hR5 := hR.ext hxc
   have hU5 := hU.then hxc
   have hlx := hk.lt
   have HYY := Lib.hid hyy
   have HN0 := Lib.hid hne
   clear hyy hne hU hxc hk hR
   go_upto_if 73 with fail
   go_cut [] from 73 to 74 (fun wx => SgX w8 gx node S0 wx)
   case first =>
    by_cases hu : u = 0
    ·obtain ⟨y, A6, q6, s6, hy1, ky, hy2, hy3, hy4, hy5⟩ := HYY.out hu
     have hb0 : (u == 0) = true := by rw [beq_iff_eq]; exact hu
     have HY := Lib.hid hy1
     clear hu hy1
     have v1 := k5.cell
     have v2 := k5.lt
     have v3 := k5.frozen
     have z1 := ky.cell
     have z2 := ky.lt
     obtain ⟨WX, hWX, hkX, hUX⟩ := store12 k5 (.int .i64 y.src) (.int .i64 y.cr) (.int .i64 y.seq) (.int .i64 y.off) (.int .i64 y.tot) (.int .i64 y.dk) (.int .i64 y.dn) (.int .i64 y.life) (.int .i64 y.prio) (.int .i64 y.flags) (.slice A6 y.blocks.length q6) (.string s6)
     go_wp2
     (try rw [hWX])
     go_meet
     exact ⟨y, A6, q6, s6, HY.out, hkX, ups_rd2 hUX hy2 hy3, hy3, hy4, hy5, hU5.trans hUX⟩
    ·have hb0 : (u == 0) = false := by rw [beq_eq_false_iff_ne]; exact hu
     clear hu
     go_wp2
     go_meet
     exact ⟨x, A, c, s, HS.out, k5, hR5, HN0.out, HV.out, HG.out, hU5⟩
   case rest =>
   obtain ⟨y, A, c, s, hs, hk, hR, hne, hver, hsg, hU⟩ := hcut
   generalize wc = w6 at *
   clear HYY k5 hR5 hU5 HS HV HG HB HBS HN0 hcx hvb hvs
   obtain ⟨hvb, hvs⟩ := ver_ok hver
   have hl8 := (blksE_ok.1 (buE_blocks hvb)).1
   have hcy : ∀ A c, y.cells A c = #[.int .i64 y.src, .int .i64 y.cr, .int .i64 y.seq, .int .i64 y.off, .int .i64 y.tot, .int .i64 y.dk, .int .i64 y.dn, .int .i64 y.life, .int .i64 y.prio, .int .i64 y.flags, .slice A y.blocks.length c, .string s] := fun A c => by unfold Bu.cells; rw [hs]
   have fE := Lib.hid (fun w h => buEnc_any y A c w h hvb)
   have fD := Lib.hid (fun w => buDec_ok y w hvb)
   have fS := Lib.hid (fun A c w h => signers_any y A c w h hvb hvs)
   have fM := Lib.hid (fun A c A' c' w h h' => Same_eq y A A' c c' w h h' (by omega))
   have fV := Lib.hid (fun A c w h => ver_any y A c node exKey w h)
   rw [hver] at fV
   simp only [hcy] at fE fD fS fM fV
   rw [hsg] at fS
   obtain ⟨eb, heb, -⟩ := strV_str y.enc
   rw [heb] at fE fD
   have HS := Lib.hid hs
   have HV := Lib.hid hver
   have HG := Lib.hid hsg
   clear hs hver hsg heb hcy
   have c1 := hk.cell
   have c2 := hk.lt
   go_wp2_with fail
   refine Calls.mono (fE.out _ hR) ?_
   rintro e w7 ⟨rfl, hb7⟩
   clear c1 c2 fE
   go_wp2_with fail
   refine Calls.mono (fD.out _) ?_
   rintro e w9 ⟨A9, q9, rfl, hR9, hA9, hb9⟩
   clear fD
   have hx9 := hb7.trans hb9
   obtain ⟨V3, hV3, hV3e, hv3, hvl3⟩ := box1 w9 #[.int .i64 0, .int .i64 0, .int .i64 0, .int .i64 0, .int .i64 0, .int .i64 0, .int .i64 0, .int .i64 0, .int .i64 0, .int .i64 0, .slice none 0 0, .string ⟨#[]⟩] 29
   have v1 := hv3.cell
   have v2 := hv3.lt
   have v3 := hv3.frozen
   obtain ⟨WX, hWX, hkX, hUX⟩ := store12 hv3 (.int .i64 y.src) (.int .i64 y.cr) (.int .i64 y.seq) (.int .i64 y.off) (.int .i64 y.tot) (.int .i64 y.dk) (.int .i64 y.dn) (.int .i64 y.life) (.int .i64 y.prio) (.int .i64 y.flags) (.slice A9 y.blocks.length q9) (.string s)
   have hxX := hUX.ext hV3e (Nat.le_refl _)
   go_upto_region 15 with fail
   (try rw [hWX])
   clear hWX hV3 v1 v2 v3 hv3 hvl3 hUX hV3e
   have hkx := (hk.ext hx9).ext hxX
   have hRx := hR9.ext hxX
   have c1 := hkX.cell
   have c2 := hkX.lt
   go_wp2_with fail
   refine Calls.mono (fS.out _ _ _ hRx) ?_
   rintro e wa ⟨Aa, qa, rfl, hRa, -, hba⟩
   clear c1 c2 fS
   have kya := hkX.ext hba
   have kxa := hkx.ext hba
   have hxa := (hx9.trans hxX).trans hba
   have c1 := kya.cell
   have c2 := kya.lt
   have d1 := kxa.cell
   have d2 := kxa.lt
   go_wp2_with fail
   refine Calls.mono (fM.out _ _ _ _ _ (hR.ext hxa) (hRx.ext hba)) ?_
   rintro e wb ⟨rfl, hbb⟩
   clear c1 c2 d1 d2 fM
   have kyb := kya.ext hbb
   have c1 := kyb.cell
   have c2 := kyb.lt
   have hxb := hxa.trans hbb
   go_wp2_with fail
   refine Calls.mono (fV.out _ _ _ ((hRx.ext hba).ext hbb)) ?_
   rintro e wd ⟨rfl, hbd⟩
   clear c1 c2 fV
   have hxd := hxb.trans hbd
   have hRs := ups_rd2 (hU.then hxd) hR8 hS8
   have fQ := equalInt_ex A8 Aa q8 qa S0 wd hRs (hRa.ext (hbb.trans hbd)) (by omega)
   go_wp2_with fail
   refine Calls.mono fQ ?_
   clear fQ
   rintro e we ⟨rfl, hbe⟩
   have hxe := hxd.trans hbe
   have kxe := hk.ext hxe
   have kye := (kyb.ext hbd).ext hbe
   have v1 := kxe.cell
   have v2 := kxe.lt
   have v3 := kxe.frozen
   have c1 := kye.cell
   have c2 := kye.lt
   have hlg := hk.lt
   have hsz := hx9.size
   have HA9 := Lib.hid (show ∀ ad, A9 = some ad -> ad.block ≠ gx from fun ad h => by have := hA9 ad h; have := hb7.size; omega)
   obtain ⟨WY, hWY, hkY, hUY⟩ := store12 kxe (.int .i64 y.src) (.int .i64 y.cr) (.int .i64 y.seq) (.int .i64 y.off) (.int .i64 y.tot) (.int .i64 y.dk) (.int .i64 y.dn) (.int .i64 y.life) (.int .i64 y.prio) (.int .i64 y.flags) (.slice A9 y.blocks.length q9) (.string s)
   have HFIN : SgX w8 gx node S0 WY := ⟨y, A9, q9, s, HS.out, hkY, ups_rd2 hUY ((((hRx.ext hba).ext hbb).ext hbd).ext hbe) (fun _ => HA9.out), fun _ => HA9.out, HV.out, HG.out, (hU.then hxe).trans hUY⟩
   go_wp2
   (try rw [hWY])
   go_roundg (gk - 1)
   case measure => have := Hkn.out; omega
   case rel => exact ⟨k + 1, by have := Hkn.out; omega, by go_num, HFIN⟩
  ·have fE := Lib.hid (fun w h => buEnc_any x A c w h hvb)
   simp only [hcx] at fE
   obtain ⟨T0, hT0⟩ : ∃ T, x.enc = T := ⟨_, rfl⟩
   obtain ⟨_, _, _, hn10, hnl⟩ := enc_form hvb
   have HPRE := Lib.hid (fun (f : Nat) (h1 : 1 <= f) (hlt : f - 1 < x.enc.length) (hst : f = 3 ∨ (x.enc[f - 1]).toNat < 128) (i : Nat) (hi : f <= i) (hil : i < x.enc.length) (v : UInt8) (hv : v ≠ x.enc[i]) => enc_pre hvb h1 hlt hst hi hil hv)
   rw [hT0] at fE hn10 hnl HPRE
   obtain ⟨eb, heb, hev, hes⟩ := str_name T0
   rw [hev] at fE
   have HIX := Lib.hid (fun (i : Int) (k : Nat) hi hk w => idx_str heb (i := i) (k := k) hi hk w)
   have hcnv := Lib.hid (fun w => conv_bytes (P := Tryz.prog) w 9 22 5 T0 Tryz.underlying9 Tryz.underlying22 Tryz.underlying5 (by omega))
   rw [hev] at hcnv
   rw [<- hes] at hn10 hnl
   have HES := Lib.hid hes
   have hEr := hU.ext hE8 hgx
   clear hT0 heb hev hes HS HV HG HB HBS hne hvb hvs hcx
   have c1 := hk.cell
   have c2 := hk.lt
   go_wp2_with fail
   refine Calls.mono (fE.out _ hR) ?_
   rintro e w9 ⟨rfl, hb9⟩
   clear c1 c2 fE
   have d10 : decide ((eb.size : Int) < 10) = false := decide_eq_false (by omega)
   go_wp2_with fail
   refine (awake5_any _).mono ?_
   rintro e wa ⟨rfl, hba⟩
   have hEa := (hEr.trans hb9).trans hba
   clear hb9 hba hEr hR hk hU d10
   go_wp2_with fail
   go_loopg [26] 2 (fun m vf wr => ∃ j : Nat, j + m = 3 /\ 1 <= j /\ vf = .int .i64 j /\ wr = wa)
   case atStart => exact ⟨1, rfl, Nat.le_refl _, by go_num, rfl⟩
   case round =>
    obtain ⟨j, hjm, hj1, rfl, he⟩ := hrel
    rw [he]
    clear he
    have Hjm := Lib.hid hjm
    have hj3 : j <= 3 := by omega
    clear hjm
    have hjl : j - 1 < T0.length := by rw [<- HES.out]; omega
    have hix := HIX.out ((j : Int) - 1) (j - 1) (by omega) hjl
    obtain ⟨bv, hbv⟩ : ∃ bv, T0[j - 1] = bv := ⟨_, rfl⟩
    rw [hbv] at hix
    have HBV := Lib.hid hbv
    clear hbv
    go_upto_region 24 with fail
    go_cut [148] from 140 to 148 (fun cb wx => cb = .bool (decide (j < 3 /\ 128 <= bv.toNat)) /\ wx = wa)
    case first =>
     by_cases h3 : j < 3
     ·have d3 : decide ((j : Int) < 3) = true := decide_eq_true (by omega)
      by_cases h128 : 128 <= bv.toNat
      ·have d8 : decide ((128 : Int) <= (bv.toNat : Int)) = true := decide_eq_true (by omega)
       go_wp2
       go_meet
       exact ⟨(congrArg Value.bool (decide_eq_true (And.intro h3 h128))).symm, rfl⟩
      ·have d8 : decide ((128 : Int) <= (bv.toNat : Int)) = false := decide_eq_false (by omega)
       go_wp2
       go_meet
       exact ⟨(congrArg Value.bool (decide_eq_false (fun h => h128 h.2))).symm, rfl⟩
     ·have d3 : decide ((j : Int) < 3) = false := decide_eq_false (by omega)
      go_wp2
      go_meet
      exact ⟨(congrArg Value.bool (decide_eq_false (fun h => h3 h.1))).symm, rfl⟩
    case rest =>
    obtain ⟨rfl, he⟩ := hcut
    rw [he]
    clear he
    by_cases hgo : j < 3 /\ 128 <= bv.toNat
    ·rw [decide_eq_true hgo]
     have hj3' := hgo.1
     clear hgo
     go_wp2_with fail
     go_roundg (gk - 1)
     case measure => have := Hjm.out; omega
     case rel => exact ⟨j + 1, by have := Hjm.out; omega, by omega, by go_num, rfl⟩
    ·rw [decide_eq_false hgo]
     have HGO := Lib.hid hgo
     clear hgo
     have hst : j = 3 ∨ (T0[j - 1]).toNat < 128 := by
      rw [HBV.out]
      by_cases h3 : j = 3
      ·exact .inl h3
      ·exact .inr (Nat.lt_of_not_le (fun h => HGO.out ⟨by omega, h⟩))
     have HST := Lib.hid hst
     clear hst hix HGO
     obtain ⟨cp, w3, q3, ho3, hx3, -⟩ := hcnv.out wa
     obtain ⟨I, hI, hIj, hIl⟩ : ∃ I : Nat, (j : Int) + at' % ((eb.size : Int) - j) = I /\ j <= I /\ I < eb.size := by
      have h1 : 0 <= at' % ((eb.size : Int) - j) := Int.emod_nonneg _ (by omega)
      have h2 : at' % ((eb.size : Int) - j) < (eb.size : Int) - j := Int.emod_lt_of_pos _ (by omega)
      exact ⟨((j : Int) + at' % ((eb.size : Int) - j)).toNat, by omega, by omega, by omega⟩
     have hIT : I < T0.length := by rw [<- HES.out]; exact hIl
     have hI2 : (j : Int) + Int.tmod at' ((eb.size : Int) - j) = (I : Int) := by rw [Int.tmod_eq_emod_of_nonneg (by omega)]; exact hI
     have hjs : (j : Int) < (eb.size : Int) := by omega
     obtain ⟨g, c9, hv9, hg1, hg2, hcl, hfz, hset⟩ := ho3.there hIT
     obtain rfl : wa.heap.size = g := by injection hv9 with h1 _ _; injection h1 with h1; injection h1
     obtain ⟨mx, hmx, hm1, hm2⟩ : ∃ mx : Nat, max by' 1 = (mx : Int) /\ 1 <= mx /\ mx <= 255 := ⟨(max by' 1).toNat, by omega, by omega, by omega⟩
     obtain ⟨old, hold⟩ : ∃ old, T0[I] = old := ⟨_, rfl⟩
     have hne : UInt8.ofNat (old.toNat + mx) ≠ old := by
      intro h
      have := congrArg UInt8.toNat h
      rw [UInt8.toNat_ofNat'] at this
      have := old.toNat_lt
      omega
     have hwr : IntKind.u8.wrap ((old.toNat : Int) + (mx : Int)) = ((UInt8.ofNat (old.toNat + mx)).toNat : Int) := by
      rw [IntKind.wrap_u8, UInt8.toNat_ofNat']
      omega
     have hbad := HPRE.out j hj1 hjl HST.out I hIj hIT (UInt8.ofNat (old.toNat + mx)) (by rw [hold]; exact hne)
     have hst9 := hset (UInt8.ofNat (old.toNat + mx))
     rw [hold] at hcl
     have holdl := old.toNat_lt
     obtain ⟨nb, hnb⟩ : ∃ nb, UInt8.ofNat (old.toNat + mx) = nb := ⟨_, rfl⟩
     rw [hnb] at hwr hbad hst9
     have hsl : (T0.set I nb).length = T0.length := List.length_set
     have fD := Lib.hid (fun w => buDec_bad (T0.set I nb) w (by rw [hsl, <- HES.out]; omega) hbad)
     obtain ⟨W4, hW4, hB4, ho4⟩ : ∃ W4, w3.setCell ⟨wa.heap.size, I, none⟩ (.int .u8 (nb.toNat : Int)) = W4 /\ Ext wa W4 /\ OwnsB W4 wa.heap.size 5 (.slice (some ⟨wa.heap.size, 0, none⟩) T0.length cp) (T0.set I nb) :=
      ⟨_, rfl, hx3.setCell (Nat.le_refl _) _, hst9⟩
     obtain ⟨A5, c5, hv5, hR5⟩ := ho4.form
     rw [hsl] at hv5
     injection hv5 with h51 _ h52
     subst h51 h52
     have q9 := conv_str (P := Tryz.prog) W4 22 9 5 (some ⟨wa.heap.size, 0, none⟩) cp (T0.set I nb) Tryz.underlying22 Tryz.underlying5 Tryz.underlying9 hR5
     rw [hsl] at q9
     obtain ⟨sb, hsb, -⟩ := strV_str (T0.set I nb)
     rw [hsb] at q9 fD
     clear hbad hst9 hset hold hne hnb hsb hsl hv9 ho3 ho4 hR5 HPRE HIX
     go_upto_region 28 with fail
     (try rw [hW4])
     clear hW4 hcl hfz
     go_wp2_with fail
     refine Calls.mono (fD.out _) ?_
     rintro e w6 ⟨⟨u, hu, rfl⟩, hb6⟩
     have hub : (u != 0) = true := by rw [bne_iff_ne]; exact hu
     unfold zeroB
     obtain ⟨V7, hV7, hV7e, hv7, hvl7⟩ := box1 w6 #[.int .i64 0, .int .i64 0, .int .i64 0, .int .i64 0, .int .i64 0, .int .i64 0, .int .i64 0, .int .i64 0, .int .i64 0, .int .i64 0, .slice none 0 0, .string ⟨#[]⟩] 29
     have v1 := hv7.cell
     have v2 := hv7.lt
     have v3 := hv7.frozen
     obtain ⟨WX, hWX, hkX, hUX⟩ := store12 hv7 (.int .i64 0) (.int .i64 0) (.int .i64 0) (.int .i64 0) (.int .i64 0) (.int .i64 0) (.int .i64 0) (.int .i64 0) (.int .i64 0) (.int .i64 0) (.slice none 0 0) (.string ⟨#[]⟩)
     go_wp2
     (try rw [hWX])
     go_ret
     exact ⟨rfl, hEa.trans (hB4.trans (hb6.trans (hUX.ext hV7e (Nat.le_refl _))))⟩
end Go.Proofs.YtemkpimngbbpkaaGreat

/- Update: contacts (under way). · Update: Contacts. -/
import Derived.Deep.RegionHeld3
import Derived.Test.YtemkpimngbbpkaaGreatQs06
import Derived.Test.YtemkpimngbbpkaaGreatQs38
namespace Go.Proofs.YtemkpimngbbpkaaGreat
set_option linter.unusedVariables false
set_option linter.unusedSimpArgs false
section
open Go.RowKit Go.Shelf Go.Sort
attribute [local go_sem] Oper.semAt_some
theorem TabS.imp {S : Chg -> Prop} {K K' : Lit -> Prop} {w : World} {b n n' : Nat} (h : TabS S K w b n) (hk : ∀ k, K' k -> K k) (hn : n <= n') : TabS S K' w b n' := by
 obtain ⟨es, clock, D, h1, h2, h3, h4, h5, h6⟩ := h
 exact ⟨es, clock, D, h1, h2, by omega, h4, h5, fun k h => h6 k (hk k h)⟩
def KeysU (l : List Chg) (kl : Lit) : Prop := ∃ y ∈ l, keyOf Tryz.prog 244 (.agg #[.int .i64 y.con.src, .int .i64 y.con.dst, .int .i64 y.con.st]) = some kl
theorem KeysU.step {l : List Chg} {k : Nat} (h : k < l.length) {kl : Lit} (hk : keyOf Tryz.prog 244 (.agg #[.int .i64 l[k].con.src, .int .i64 l[k].con.dst, .int .i64 l[k].con.st]) = some kl) : ∀ q, KeysU (l.take (k + 1)) q -> KeysU (l.take k) q ∨ q = kl := by
 rintro q ⟨y, hy, hq⟩
 rw [<- List.take_append_getElem h, List.mem_append] at hy
 rcases hy with hy | hy
 ·exact .inl ⟨y, hy, hq⟩
 ·rw [List.mem_singleton] at hy
  subst hy
  rw [hk] at hq
  injection hq with hq
  exact .inr hq.symm
theorem one_list {l : List Chg} {k : Nat} (h : k < l.length) (z : Chg) (hz : l = [z]) : k = 0 /\ l[k] = z := by
 subst hz
 have : k = 0 := by simpa using h
 subst this
 exact ⟨rfl, rfl⟩
theorem TabS.lt {S : Chg -> Prop} {K : Lit -> Prop} {w : World} {b n : Nat} (h : TabS S K w b n) : b < w.heap.size := by
 obtain ⟨es, clock, D, hb, h⟩ := h
 exact (Array.getElem?_eq_some_iff.1 hb).1
theorem TabS.grown {S : Chg -> Prop} {K : Lit -> Prop} {w w' : World} {b n : Nat} {ob : Option Nat} (h : TabS S K w b n) (hg : w.grownBy w' ob) (hne : ob ≠ some b) : TabS S K w' b n := by
 have hlt := h.lt
 obtain ⟨es, clock, D, hb, h⟩ := h
 exact ⟨es, clock, D, by rw [hg.block b hlt (fun e => hne e.symm)]; exact hb, h⟩
def ContS (l : List Chg) (cs : List Con) : Prop := ∃ cand : List Chg, (∀ y ∈ cand, y ∈ l /\ y.kind = 1) /\ cs = keepC (cand.map Chg.con) /\ (∀ x, l = [x] -> x.kind = 1 -> cand = [x]) /\ cand.length <= l.length
set_option maxRecDepth 100000 in
set_option maxHeartbeats 16000000 in
theorem contacts_any (n : Int) (A : Option Addr) (cc : Nat) (l : List Chg) (w : World) (hR : Rd EChg w A l) (hl : l.length <= 1000) (hK : ∀ y ∈ l, ConK y.con) :
 Calls Tryz.prog 64 #[.agg #[.int .i64 n, .slice A l.length cc]] w fun e w' => ∃ u cs, e = .returned u /\ ContS l cs /\ Owns ECon w' w.heap.size 61 u cs /\ Ext w w' := by
 have hK' := Lib.hid hK
 obtain ⟨j0, hj0, hy0, hy1, hy2⟩ := info_parts info_chg
 obtain ⟨j1, hj1, hx0, hx1, hx2⟩ := info_parts info_con
 clear hK
 obtain ⟨W1, hW1, hB1, hk1, hl1⟩ := box1 w #[.int .i64 n, .slice A l.length cc] 56
 have hE2 := hB1.alloc (.map #[] 0)
 have hT2 := TabS.made (fun y => y ∈ l) W1
 obtain ⟨W2, hW2⟩ : ∃ W2, W1.alloc (.map #[] 0) = W2 := ⟨_, rfl⟩
 rw [hW2] at hE2 hT2
 have kh2 := hk1.ext (show Ext W1 W2 by rw [<- hW2]; exact (Ext.refl _).alloc _)
 have hX2 : Ext W1 W2 := by rw [<- hW2]; exact (Ext.refl _).alloc _
 have e1 := kh2.cell
 have e2 := kh2.lt
 have y1 := hB1.size
 have y2 := hE2.size
 have y0 : W1.heap.size <= W2.heap.size := hX2.size
 have y00 : W2.heap.size = W1.heap.size + 1 := by rw [<- hW2]; simp
 have fn := fun (a b c d e f g : Int) w => nameOf_any ⟨a, b, c, d, e, f, g⟩ w
 have fo := fun x y w => newer_any x y w
 have hmm := @run_makeMap Tryz.prog
 go_enter Tryz.func64, Tryz.ntmps64
 go_wp2_with fail
 clear hW1 hW2 hmm
 go_loopg [18] l.length (fun m v wr => ∃ (k : Nat), k + m = l.length /\ v = .int .i64 k /\ TabS (fun y => y ∈ l) (KeysU (l.take k)) wr W1.heap.size k /\ Ext W1 wr)
 case atStart => exact ⟨0, by omega, by go_num, hT2.imp (fun k h => by obtain ⟨y, hy, _⟩ := h; simp at hy) (Nat.le_refl _), hX2⟩
 case round =>
  obtain ⟨k, hkn, rfl, hT, hE⟩ := hrel
  have Hkn := Lib.hid hkn
  by_cases hlt : k < l.length
  ·obtain ⟨b, o', rfl, hb, a0, a1, a2, a3, a4, a5, a6, a7, a8, a9, a10⟩ := ((hR.ext hB1).ext hE).chg hlt
   obtain ⟨kl, hkl⟩ := (hK'.out _ (List.getElem_mem hlt)).key
   have hst := KeysU.step hlt hkl
   have hmem : l[k] ∈ l := List.getElem_mem hlt
   obtain ⟨x, hx⟩ : ∃ x, l[k] = x := ⟨_, rfl⟩
   rw [hx] at a0 a1 a2 a3 a4 a5 a6 a7 a8 a9 a10 hkl hmem
   obtain ⟨xo, xc, xs, xk, ⟨xsrc, xdst, xst, xen, xrate, xrng, xloss⟩⟩ := x
   dsimp only at a0 a1 a2 a3 a4 a5 a6 a7 a8 a9 a10 hkl
   obtain ⟨W5, hW5, hB5, hk5, hl5⟩ := box1 wr #[.int .i64 xo, .int .i64 xc, .int .i64 xs, .int .i64 xk, .int .i64 xsrc, .int .i64 xdst, .int .i64 xst, .int .i64 xen, .int .i64 xrate, .int .i64 xrng, .int .i64 xloss] 63
   have f4 := hk5.cell
   clear hx
   go_wp2_with fail
   clear hW5
   refine (fn xsrc xdst xst xen xrate xrng xloss W5).mono ?_
   rintro e w6 ⟨rfl, hb6⟩
   have hT6 := (hT.ext hB5).ext hb6
   obtain ⟨y, is, hlk, his⟩ := hT6.look2 hkl
   obtain ⟨yo, yc, ys, yk, ⟨ysrc, ydst, yst, yen, yrate, yrng, yloss⟩⟩ := y
   unfold Chg.arr at hlk
   dsimp only at hlk
   have hk6 := hk5.ext hb6
   obtain ⟨W7, hW7, hB7, hk7, hl7⟩ := box1 w6 #[.int .i64 yo, .int .i64 yc, .int .i64 ys, .int .i64 yk, .int .i64 ysrc, .int .i64 ydst, .int .i64 yst, .int .i64 yen, .int .i64 yrate, .int .i64 yrng, .int .i64 yloss] 63
   have hk67 := hk6.ext hB7
   have g1 := hk67.cell
   have g2 := hk67.lt
   have g3 := hk7.cell
   have hE7 := ((hE.trans hB5).trans hb6).trans hB7
   have hT7 := hT6.ext hB7
   cases is
   ·go_wp2_with fail
    clear g1 g2 g3 hlk f4
    have g1 := hk67.cell
    have g2 := hk67.lt
    have near : ∀ w', Ext W7 w' -> Ext W7 w' /\ ∀ b o, b < W7.heap.size -> w'.cell? ⟨b, o, none⟩ = W7.cell? ⟨b, o, none⟩ := fun w' h => ⟨h, fun b o hb => h.cell hb⟩
    refine wp_region_P (fun k => decide (5 <= k)) (fun w' => Ext W7 w' /\ ∀ b o, b < W7.heap.size -> w'.cell? ⟨b, o, none⟩ = W7.cell? ⟨b, o, none⟩) (by kernel_rfl) (near _ (Ext.refl W7).drew) (fun _ => ?_)
    refine pT 0 (v := ?_) rfl (fun _ _ _ h => h) (by rfl) ?_ ?_
    rotate_left
    ·intro w'; go_simp; first | done | with_reducible rfl
    try simp only [Act.put, sp1]
    refine pT 1 (v := ?_) rfl (fun _ _ _ h => h) (by rfl) ?_ ?_
    rotate_left
    ·intro w'; go_simp; first | done | with_reducible rfl
    try simp only [Act.put, sp1]
    refine pK 2 (v := ?_) rfl (fun _ _ _ h => h) (by rfl) ?_ (by assumption) ?_
    rotate_left
    ·intro w' hw'
     (try have hC := hw'.2)
     (try have hC9 := hw'.1)
     go_simp
     first | done | with_reducible rfl
    try simp only [Act.put, sp1]
    refine pK 4 (v := ?_) rfl (fun _ _ _ h => h) (by rfl) ?_ (by assumption) ?_
    rotate_left
    ·intro w' hw'
     (try have hC := hw'.2)
     (try have hC9 := hw'.1)
     go_simp
     first | done | with_reducible rfl
    try simp only [Act.put, sp1]
    refine pO 3 rfl (fun K hK => ?_)
    go_simp
    refine (fn xsrc xdst xst xen xrate xrng xloss W7.drew).mono ?_
    rintro e w8 ⟨rfl, hb8⟩
    have hx8 := (Ext.refl W7).drew.trans hb8
    obtain ⟨w9, hput, hT9, hg9⟩ := (hT7.ext hx8).put (by simp only [maxLen]; omega) hkl ⟨xo, xc, xs, xk, ⟨xsrc, xdst, xst, xen, xrate, xrng, xloss⟩⟩ hmem
    unfold Chg.arr at hput
    dsimp only at hput
    refine hK.out _ _ (fun _ _ => near _ hx8) ?_
    clear hK K
    refine pO 5 rfl (fun K hK => ?_)
    go_simp
    refine hK.out _ _ (fun h => absurd h (by decide)) ?_
    clear hK K
    try simp only [List.getElem_toArray, List.getElem_cons_succ, List.getElem_cons_zero, Act.put, sp1]
    refine wpAnyP_done (by kernel_rfl) ?_ _
    have hEA := hE7.trans hx8
    have hE9 : Ext W1 w9 := Below.grown hEA hg9 hEA.size (fun k hk => by injection hk with hk; omega)
    go_wp2
    go_roundg (gk - 1)
    case measure => have := Hkn.out; omega
    case rel => exact ⟨k + 1, by have := Hkn.out; omega, by go_num, hT9.imp hst (Nat.le_refl _), hE9⟩
   ·have fo7 := newer_any ⟨xo, xc, xs, xk, ⟨xsrc, xdst, xst, xen, xrate, xrng, xloss⟩⟩ ⟨yo, yc, ys, yk, ⟨ysrc, ydst, yst, yen, yrate, yrng, yloss⟩⟩ W7
    unfold Chg.arr at fo7
    dsimp only at fo7
    obtain ⟨nv, hnv⟩ : ∃ nv, newC ⟨xo, xc, xs, xk, ⟨xsrc, xdst, xst, xen, xrate, xrng, xloss⟩⟩ ⟨yo, yc, ys, yk, ⟨ysrc, ydst, yst, yen, yrate, yrng, yloss⟩⟩ = nv := ⟨_, rfl⟩
    rw [hnv] at fo7
    clear hnv
    go_wp2_with fail
    clear g1 g2 g3 hlk f4
    refine fo7.mono ?_
    rintro e w8 ⟨rfl, hb8⟩
    have hk68 := hk67.ext hb8
    have hE8 := hE7.trans hb8
    have hT8 := hT7.ext hb8
    by_cases hn0 : nv < 0
    ·have hdn : decide (nv < 0) = true := decide_eq_true hn0
     have g1 := hk68.cell
     have g2 := hk68.lt
     go_wp2_with fail
     have near : ∀ w', Ext w8 w' -> Ext w8 w' /\ ∀ b o, b < w8.heap.size -> w'.cell? ⟨b, o, none⟩ = w8.cell? ⟨b, o, none⟩ := fun w' h => ⟨h, fun b o hb => h.cell hb⟩
     refine wp_region_P (fun k => decide (5 <= k)) (fun w' => Ext w8 w' /\ ∀ b o, b < w8.heap.size -> w'.cell? ⟨b, o, none⟩ = w8.cell? ⟨b, o, none⟩) (by kernel_rfl) (near _ (Ext.refl w8).drew) (fun _ => ?_)
     refine pT 0 (v := ?_) rfl (fun _ _ _ h => h) (by rfl) ?_ ?_
     rotate_left
     ·intro w'; go_simp; first | done | with_reducible rfl
     try simp only [Act.put, sp1]
     refine pT 1 (v := ?_) rfl (fun _ _ _ h => h) (by rfl) ?_ ?_
     rotate_left
     ·intro w'; go_simp; first | done | with_reducible rfl
     try simp only [Act.put, sp1]
     refine pK 2 (v := ?_) rfl (fun _ _ _ h => h) (by rfl) ?_ (by assumption) ?_
     rotate_left
     ·intro w' hw'
      (try have hC := hw'.2)
      (try have hC9 := hw'.1)
      go_simp
      first | done | with_reducible rfl
     try simp only [Act.put, sp1]
     refine pK 4 (v := ?_) rfl (fun _ _ _ h => h) (by rfl) ?_ (by assumption) ?_
     rotate_left
     ·intro w' hw'
      (try have hC := hw'.2)
      (try have hC9 := hw'.1)
      go_simp
      first | done | with_reducible rfl
     try simp only [Act.put, sp1]
     refine pO 3 rfl (fun K hK => ?_)
     go_simp
     refine (fn xsrc xdst xst xen xrate xrng xloss w8.drew).mono ?_
     rintro e w18 ⟨rfl, hb18⟩
     have hx18 := (Ext.refl w8).drew.trans hb18
     obtain ⟨w9, hput, hT9, hg9⟩ := (hT8.ext hx18).put (by simp only [maxLen]; omega) hkl ⟨xo, xc, xs, xk, ⟨xsrc, xdst, xst, xen, xrate, xrng, xloss⟩⟩ hmem
     unfold Chg.arr at hput
     dsimp only at hput
     refine hK.out _ _ (fun _ _ => near _ hx18) ?_
     clear hK K
     refine pO 5 rfl (fun K hK => ?_)
     go_simp
     refine hK.out _ _ (fun h => absurd h (by decide)) ?_
     clear hK K
     try simp only [List.getElem_toArray, List.getElem_cons_succ, List.getElem_cons_zero, Act.put, sp1]
     refine wpAnyP_done (by kernel_rfl) ?_ _
     have hEA := hE8.trans hx18
     have hE9 : Ext W1 w9 := Below.grown hEA hg9 hEA.size (fun k hk => by injection hk with hk; omega)
     go_wp2
     go_roundg (gk - 1)
     case measure => have := Hkn.out; omega
     case rel => exact ⟨k + 1, by have := Hkn.out; omega, by go_num, hT9.imp hst (Nat.le_refl _), hE9⟩
    ·have hdn : decide (nv < 0) = false := decide_eq_false hn0
     go_wp2
     go_roundg (gk - 1)
     case measure => have := Hkn.out; omega
     case rel => exact ⟨k + 1, by have := Hkn.out; omega, by go_num, (((his (by first | rfl | trivial)).ext hB7).ext hb8).imp hst (Nat.le_succ _), hE8⟩
  ·obtain rfl : k = l.length := by have := Hkn.out; omega
   rw [List.take_of_length_le (Nat.le_refl _)] at hT
   have khr := hk1.ext hE
   have d1 := khr.cell
   have d2 := khr.lt
   clear e1 e2
   go_wp2_with fail
   go_loopg [8, 47] l.length (fun m u v wq => ∃ (k : Nat) (cand : List Chg), k + m = l.length /\ v = .int .i64 k /\ Owns EChg wq W2.heap.size 63 u cand /\ Hid (cand.length <= k /\ (∀ y ∈ cand, y ∈ l /\ y.kind = 1) /\ (∀ x, l = [x] -> x.kind = 1 -> 0 < k -> cand = [x])) /\ TabS (fun y => y ∈ l) (KeysU l) wq W1.heap.size l.length /\ Ext W1 wq)
   case atStart => exact ⟨0, [], by omega, by go_num, Owns.none_ _ _, Lib.hid ⟨Nat.le_refl _, by simp, fun _ _ _ h => absurd h (by omega)⟩, hT, hE⟩
   case round =>
    obtain ⟨k2, cand, hkn2, rfl, ho, hc, hT3, hE3⟩ := hrel
    have Hk2 := Lib.hid hkn2
    clear d1 d2
    by_cases hlt2 : k2 < l.length
    ·obtain ⟨b, o', rfl, hb, a0, a1, a2, a3, a4, a5, a6, a7, a8, a9, a10⟩ := ((hR.ext hB1).ext hE3).chg hlt2
     obtain ⟨kl, hkl⟩ := (hK'.out _ (List.getElem_mem hlt2)).key
     have hin : KeysU l kl := ⟨_, List.getElem_mem hlt2, hkl⟩
     have hmem : l[k2] ∈ l := List.getElem_mem hlt2
     have Hone := Lib.hid (fun z hz => one_list hlt2 z hz)
     obtain ⟨x, hx⟩ : ∃ x, l[k2] = x := ⟨_, rfl⟩
     rw [hx] at a0 a1 a2 a3 a4 a5 a6 a7 a8 a9 a10 hkl hmem Hone
     clear hx
     obtain ⟨xo, xc, xs, xk, ⟨xsrc, xdst, xst, xen, xrate, xrng, xloss⟩⟩ := x
     dsimp only at a0 a1 a2 a3 a4 a5 a6 a7 a8 a9 a10 hkl
     obtain ⟨W5, hW5, hB5, hk5, hl5⟩ := box1 wr #[.int .i64 xo, .int .i64 xc, .int .i64 xs, .int .i64 xk, .int .i64 xsrc, .int .i64 xdst, .int .i64 xst, .int .i64 xen, .int .i64 xrate, .int .i64 xrng, .int .i64 xloss] 63
     have f4 := hk5.cell
     obtain ⟨y, hyl, hlk⟩ := (hT3.ext hB5).lookE hkl hin
     have heq := fun w => eqlChg_run y ⟨xo, xc, xs, xk, ⟨xsrc, xdst, xst, xen, xrate, xrng, xloss⟩⟩ w
     unfold Chg.arr at hlk heq
     dsimp only at heq
     obtain ⟨q, hq⟩ : ∃ q, chgEq y ⟨xo, xc, xs, xk, ⟨xsrc, xdst, xst, xen, xrate, xrng, xloss⟩⟩ = q := ⟨_, rfl⟩
     rw [hq] at heq
     have HQ := Lib.hid hq
     have HYL := Lib.hid hyl
     clear hq hyl
     obtain ⟨yo, yc, ys, yk, ⟨ysrc, ydst, yst, yen, yrate, yrng, yloss⟩⟩ := y
     dsimp only at hlk heq
     have hlk' := fun d os => hlk (Sort.grow (redrawn W5 d) os) (below_regrown W5 d os)
     clear hlk
     have hE5 := hE3.trans hB5
     have ho5 := ho.ext hB5
     have hN := Near.refl W5
     by_cases h1 : xk = 1
     ·subst h1
      cases q
      ·go_wp2_with fail
       clear hW5
       have hq := quiet_near hN
       refine wp_region_quiet_below (by kernel_rfl) (by kernel_rfl) ?_
       repeat (first | go_big_quiet_skip | (go_big_quiet_want; go_big_quiet_op; first | go_big_quiet_on | (apply Exists.intro; refine ⟨fun _ => ?_, ?_⟩; (focus (first | (go_at_call 141; exact Calls.regrown_of (nameOf_any ⟨xsrc, xdst, xst, xen, xrate, xrng, xloss⟩ _)))); go_big_quiet_on)))
       refine wpQuiet_nil ?_
       intro w1 hw1
       clear hq
       replace hw1 := quiet_ext hw1
       replace hN := hN.step hw1
       have hC := hN.2
       go_wp2
       go_roundg (gk - 1)
       case measure => have := Hk2.out; omega
       case rel =>
        refine ⟨k2 + 1, cand, by have := Hk2.out; omega, by go_num, ho5.ext hN.1, Lib.hid ⟨by have := hc.out.1; omega, hc.out.2.1, fun z hz hz1 _ => ?_⟩, (hT3.ext hB5).ext hN.1, hE5.trans hN.1⟩
        obtain ⟨h7, h8⟩ := Hone.out z hz
        have h9 := HYL.out
        rw [hz, List.mem_singleton] at h9
        have h10 := HQ.out
        rw [h9, <- h8] at h10
        rw [chgEq_iff.2 rfl] at h10
        cases h10
      ·go_wp2_with fail
       clear hW5
       have hq := quiet_near hN
       refine wp_region_quiet_below (by kernel_rfl) (by kernel_rfl) ?_
       repeat (first | go_big_quiet_skip | (go_big_quiet_want; go_big_quiet_op; first | go_big_quiet_on | (apply Exists.intro; refine ⟨fun _ => ?_, ?_⟩; (focus (first | (go_at_call 141; exact Calls.regrown_of (nameOf_any ⟨xsrc, xdst, xst, xen, xrate, xrng, xloss⟩ _)))); go_big_quiet_on)))
       refine wpQuiet_nil ?_
       intro w1 hw1
       clear hq
       replace hw1 := quiet_ext hw1
       replace hN := hN.step hw1
       have hC := hN.2
       have hk6 := hk5.ext hN.1
       have c6 := hk6.cell
       have l6 := hk6.lt
       have ho6 := ho5.ext hN.1
       have hE6 := hE5.trans hN.1
       have hcl := hc.out.1
       have hk2l : k2 < 1000 := by omega
       have y3 := hE6.size
       have y4 := hB5.size
       have y5 := hN.1.size
       have y6 := hE3.size
       have y7 := hT3.lt
       go_wp2_with (at_builtin; refine wpList_push rfl (.tmp 63) (.tmp 65) _ (by rfl) W2.heap.size 63 j0 _ 88 Tryz.underlying54 hj0 hy0 hy1 hy2 (by rfl) u8 (by rfl) (ho6.ext ((Ext.refl _).alloc _)) w1.heap.size (⟨xo, xc, xs, 1, ⟨xsrc, xdst, xst, xen, xrate, xrng, xloss⟩⟩ : Chg) (by rfl) (Blk.new w1 _ _) (by simp only [maxLen]; omega) (by omega) (by simp; omega) ?_; intro v6 w6 hv6 hg6 hat6)
       go_roundg (gk - 1)
       case measure => have := Hk2.out; omega
       case rel =>
        have hx6 := ext_grown (hE6.alloc _) (ho6.ext ((Ext.refl _).alloc _)) (Nat.le_trans y0 (Nat.le_refl _)) hg6
        have hT6 := (((hT3.ext hB5).ext hN.1).ext ((Ext.refl _).alloc _)).grown hg6 (fun e' => by have := (ho6.block e').1; omega)
        refine ⟨k2 + 1, cand ++ [⟨xo, xc, xs, 1, ⟨xsrc, xdst, xst, xen, xrate, xrng, xloss⟩⟩], by have := Hk2.out; omega, by go_num, hv6, Lib.hid ⟨by rw [List.length_append, List.length_singleton]; omega, fun z hz => ?_, fun z hz hz1 _ => ?_⟩, hT6, hx6⟩
        ·rcases List.mem_append.1 hz with hz | hz
         ·exact hc.out.2.1 z hz
         ·rw [List.mem_singleton.1 hz]
          exact ⟨hmem, rfl⟩
        ·obtain ⟨h7, h8⟩ := Hone.out z hz
         have h9 : cand = [] := List.eq_nil_of_length_eq_zero (by omega)
         rw [h9, h8]
         rfl
     ·have hd1 : (xk == 1) = false := by rw [beq_eq_false_iff_ne]; exact h1
      go_wp2_with fail
      clear hW5
      have hq := quiet_near hN
      refine wp_region_quiet_below (by kernel_rfl) (by kernel_rfl) ?_
      repeat (first | go_big_quiet_skip | (go_big_quiet_want; go_big_quiet_op; first | go_big_quiet_on | (apply Exists.intro; refine ⟨fun _ => ?_, ?_⟩; (focus (first | (go_at_call 141; exact Calls.regrown_of (nameOf_any ⟨xsrc, xdst, xst, xen, xrate, xrng, xloss⟩ _)))); go_big_quiet_on)))
      refine wpQuiet_nil ?_
      intro w1 hw1
      clear hq
      replace hw1 := quiet_ext hw1
      replace hN := hN.step hw1
      have hC := hN.2
      go_wp2
      go_roundg (gk - 1)
      case measure => have := Hk2.out; omega
      case rel =>
       refine ⟨k2 + 1, cand, by have := Hk2.out; omega, by go_num, ho5.ext hN.1, Lib.hid ⟨by have := hc.out.1; omega, hc.out.2.1, fun z hz hz1 _ => ?_⟩, (hT3.ext hB5).ext hN.1, hE5.trans hN.1⟩
       obtain ⟨h7, h8⟩ := Hone.out z hz
       rw [<- h8] at hz1
       exact absurd hz1 h1
    ·obtain rfl : k2 = l.length := by have := Hk2.out; omega
     have hcl := hc.out.1
     obtain ⟨Ac, ccap, rfl, hRc⟩ := ho.form
     have y3 := hE3.size
     have y7 := hT3.lt
     have hHc := Lib.hid (show (∀ y ∈ cand, y ∈ l /\ y.kind = 1) /\ (∀ x, l = [x] -> x.kind = 1 -> cand = [x]) from ⟨hc.out.2.1, fun x hx hx1 => hc.out.2.2 x hx hx1 (by rw [hx]; simp)⟩)
     have f3 := sortNew_all W2.heap.size _ cand wr ho (by omega)
     clear hc hT3 hkn2 fn fo
     go_wp2_with fail
     refine f3.mono ?_
     clear f3
     rintro e w6 ⟨rfl, ts, hp, hs, ho6, hg6⟩
     have hE6 := ext_grown hE3 ho y0 hg6
     have hts : ts.length = cand.length := hp.length_eq
     have hR6 := ho6.rd
     have hln : cand.length = ts.length := hts.symm
     rw [hln] at *
     have htm : ts.length <= 1000 := by omega
     have HTS := Lib.hid (show ContS l (keepC (ts.map Chg.con)) from ⟨ts, fun y hy => hHc.out.1 y (hp.mem_iff.1 hy), rfl, fun x hx hx1 => by
      rw [hHc.out.2 x hx hx1] at hp
      exact List.perm_singleton.1 hp, by rw [hp.length_eq]; exact hcl⟩)
     clear hp hs hln hcl hts hHc
     go_wp2_with fail
     have hsz6 := hE6.size
     go_loopg [11, 72] ts.length (fun m v11 v72 wq => ∃ (k : Nat), k + m = ts.length /\ v72 = .int .i64 k /\ Owns ECon wq w6.heap.size 61 v11 (keepC ((ts.take k).map Chg.con)) /\ Ext w6 wq)
     case atStart => exact ⟨0, by omega, by go_num, Owns.none_ _ _, Ext.refl _⟩
     case round =>
      obtain ⟨k3, hkn3, rfl, ho7, hE7⟩ := hrel
      have Hk3 := Lib.hid hkn3
      by_cases hlt3 : k3 < ts.length
      ·obtain ⟨b, o', rfl, hb, a0, a1, a2, a3, a4, a5, a6, a7, a8, a9, a10⟩ := (hR6.ext hE7).chg hlt3
       have Hst := Lib.hid (keepC_step (l := ts.map Chg.con) (k := k3) (by rw [List.length_map]; exact hlt3))
       rw [List.getElem_map, <- List.map_take, <- List.map_take] at Hst
       have hkl := keepC_len ((ts.take k3).map Chg.con)
       rw [List.length_map, List.length_take] at hkl
       obtain ⟨x, hx⟩ : ∃ x, ts[k3] = x := ⟨_, rfl⟩
       rw [hx] at a0 a1 a2 a3 a4 a5 a6 a7 a8 a9 a10 Hst
       clear hx
       generalize keepC ((ts.take k3).map Chg.con) = kc at *
       have hkc : kc.length <= 1000 := by omega
       clear hkl hkn3
       obtain ⟨xo, xc, xs, xk, ⟨xsrc, xdst, xst, xen, xrate, xrng, xloss⟩⟩ := x
       dsimp only at a0 a1 a2 a3 a4 a5 a6 a7 a8 a9 a10 Hst
       obtain ⟨W8, hW8, hB8, hk8, hl8⟩ := box1 wr #[.int .i64 xo, .int .i64 xc, .int .i64 xs, .int .i64 xk, .int .i64 xsrc, .int .i64 xdst, .int .i64 xst, .int .i64 xen, .int .i64 xrate, .int .i64 xrng, .int .i64 xloss] 63
       have c8 := hk8.cell
       have l8 := hk8.lt
       obtain ⟨A7, c7, rfl, hR7⟩ := ho7.form
       have hco := containsCon_any A7 c7 kc 148 #[.pointer (some ⟨wr.heap.size, 0, none⟩)] _ W8 (hR7.ext hB8) (by omega) (con1_pred wr.heap.size ⟨xo, xc, xs, xk, ⟨xsrc, xdst, xst, xen, xrate, xrng, xloss⟩⟩ W8 hk8)
       go_wp2_with fail
       clear hW8
       refine hco.mono ?_
       clear hco
       rintro e w9 ⟨rfl, hb9⟩
       have hx9 := (hE7.trans hB8).trans hb9
       have ho9 := (ho7.ext hB8).ext hb9
       cases hany : kc.any fun d => d.overlapB ⟨xsrc, xdst, xst, xen, xrate, xrng, xloss⟩
       ·have Hst2 := Lib.hid Hst.out
        rw [hany] at Hst2
        clear hany
        have k9 := hk8.ext hb9
        have c9 := k9.cell
        have l9 := k9.lt
        have y9 := hx9.size
        clear c8 l8
        go_wp2_with (at_builtin; refine wpList_push rfl (.tmp 80) (.tmp 83) _ (by rfl) w6.heap.size 61 j1 _ 56 Tryz.underlying46 hj1 hx0 hx1 hx2 (by rfl) (.slice A7 kc.length c7) (by rfl) (ho9.ext ((Ext.refl _).alloc _)) w9.heap.size (⟨xsrc, xdst, xst, xen, xrate, xrng, xloss⟩ : Con) (by rfl) (Blk.new w9 _ _) (by simp only [maxLen]; omega) (by omega) (by simp; omega) ?_; intro v10 w10 hv10 hg10 hat10)
        have hx10 := ext_grown (hx9.alloc _) (ho9.ext ((Ext.refl _).alloc _)) (Nat.le_refl _) hg10
        go_roundg (gk - 1)
        case measure => have := Hk3.out; omega
        case rel => exact ⟨k3 + 1, by have := Hk3.out; omega, by go_num, by rw [Hst2.out]; exact hv10, hx10⟩
       ·have Hst2 := Lib.hid Hst.out
        rw [hany] at Hst2
        clear hany
        go_wp2
        go_roundg (gk - 1)
        case measure => have := Hk3.out; omega
        case rel => exact ⟨k3 + 1, by have := Hk3.out; omega, by go_num, by rw [Hst2.out]; exact ho9, hx9⟩
      ·obtain rfl : k3 = ts.length := by have := Hk3.out; omega
       rw [List.take_of_length_le (Nat.le_refl _)] at ho7
       go_wp2
       go_ret
       have z1 := hB1.size
       have z2 := hE6.size
       exact ⟨_, _, rfl, HTS.out, ho7.mono (by omega), hB1.trans (hE6.trans hE7)⟩
end
section
open Go.RowKit Go.Shelf Go.Sort
attribute [local go_sem] Oper.semAt_some
set_option maxRecDepth 100000 in
set_option maxHeartbeats 16000000 in
theorem Contacts_any (n : Int) (A : Option Addr) (cc : Nat) (l : List Chg) (w : World) (hR : Rd EChg w A l) (h0 : hChk n l = 0) :
 Calls Tryz.prog 18 #[.agg #[.int .i64 n, .slice A l.length cc]] w fun e w' => Ext w w' /\ ∃ cs, ContS l cs /\ ((64 < cs.length /\ e = .returned (.tuple #[.slice none 0 0, .int .i64 4])) ∨ (cs.length <= 64 /\ ∃ u ts, e = .returned (.tuple #[u, .int .i64 0]) /\ ts.Perm cs /\ Owns ECon w' w.heap.size 61 u ts)) := by
 obtain ⟨hn, hl, hok⟩ := hChk_ok h0
 have hK := fun y hy => (Chg.ok_con (hok y hy) hn.2).1
 have g0 := fun w h => hCheck_any n A cc l w h
 rw [h0] at g0
 have g1 := fun w h => contacts_any n A cc l w h hl hK
 clear h0 hok hK
 obtain ⟨W1, hW1, hB1, hk1, hl1⟩ := box1 w #[.int .i64 n, .slice A l.length cc] 56
 have e1 := hk1.cell
 have e2 := hk1.lt
 go_enter Tryz.func18, Tryz.ntmps18
 go_wp2_with fail
 clear hW1
 refine (g0 _ (hR.ext hB1)).mono ?_
 rintro e w2 ⟨rfl, hb2⟩
 have hE2 := hB1.trans hb2
 have kh2 := hk1.ext hb2
 clear e1 e2
 have e1 := kh2.cell
 have e2 := kh2.lt
 go_wp2_with fail
 refine (g1 _ (hR.ext hE2)).mono ?_
 rintro e w3 ⟨u, cs, rfl, hS, ho3, hb3⟩
 have hE3 := hE2.trans hb3
 have z2 := hE2.size
 have z3 := hb3.size
 obtain ⟨A3, c3, rfl, hR3⟩ := ho3.form
 by_cases h64 : (64 : Int) < cs.length
 ·have hd : decide ((64 : Int) < cs.length) = true := decide_eq_true h64
  go_wp2
  go_ret2
  exact ⟨hE3, cs, hS, .inl ⟨by omega, rfl⟩⟩
 ·have hd : decide ((64 : Int) < cs.length) = false := decide_eq_false h64
  have g2 := sortCon_all w2.heap.size _ cs w3 ho3 (by omega)
  go_wp2_with fail
  refine g2.mono ?_
  rintro e w4 ⟨rfl, ts, hp, hs, ho4, hg4⟩
  have hE4 := ext_grown hE3 ho3 z2 hg4
  go_wp2
  go_ret2
  exact ⟨hE4, cs, hS, .inr ⟨by omega, _, ts, rfl, hp, ho4.mono z2⟩⟩
end
end Go.Proofs.YtemkpimngbbpkaaGreat

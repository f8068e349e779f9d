/- The example of the chapters' last parts. -/
import Derived.Test.YtemkpimngbbpkaaGreatQs25
import Derived.Test.YtemkpimngbbpkaaGreatQs28
import Derived.Test.YtemkpimngbbpkaaGreatQs36
import Derived.Test.YtemkpimngbbpkaaGreatQs38
import Derived.Test.YtemkpimngbbpkaaGreatQs39
namespace Go.Proofs.YtemkpimngbbpkaaGreat
set_option linter.unusedVariables false
set_option linter.unusedSimpArgs false
open Go.RowKit Go.Shelf
attribute [local go_sem] Oper.semAt_some
def exC5 : Con := ⟨0, 1, 5, 45, 24, 2, 0⟩
def exX5 : Chg := ⟨0, 1, 1, 1, exC5⟩
theorem near_of (W : World) : ∀ w', Ext W w' -> Ext W w' /\ ∀ b o, b < W.heap.size -> w'.cell? ⟨b, o, none⟩ = W.cell? ⟨b, o, none⟩ := fun w' h => ⟨h, fun b o hb => h.cell hb⟩
theorem fld_plan (a b : Value) (w : World) : (Instr.field 68 (.agg #[a, b]) 1).run Tryz.prog w = .ok b w := by kernel_rfl
set_option maxRecDepth 100000 in
set_option maxHeartbeats 16000000 in
theorem awake5_any (w : World) : Calls Tryz.prog 11 #[] w fun e w' => e = .returned (.bool true) /\ Ext w w' := by
 go_enter Tryz.func11, Tryz.ntmps11
 go_wp2_with fail
 refine (uNew_any 3 _ (by omega)).mono ?_
 rintro e w1 ⟨rfl, hb1⟩
 obtain ⟨V2, hV2, hV2e, hv2, hvl2⟩ := box1 w1 #[.int .i64 0, .slice none 0 0] 56
 obtain ⟨W2, hW2, hk2, hB2⟩ : ∃ W2, V2.setCells w1.heap.size 0 [.int .i64 3, .slice none 0 0] = W2 /\ Blk W2 w1.heap.size 56 #[.int .i64 3, .slice none 0 0] /\ Ext w1 W2 :=
  ⟨_, rfl, hv2.setCells_ [.int .i64 3, .slice none 0 0] 0, ext_setCells hV2e (Nat.le_refl _) 0 _⟩
 simp only [World.setCells, Nat.zero_add, Nat.reduceAdd] at hW2
 have hE2 := hb1.trans hB2
 have q1 := hv2.cell
 have q2 := hv2.lt
 have q3 := hv2.frozen
 go_wp2_with fail
 (try rw [hW2])
 clear hW2 hV2 q1 q2 q3
 have c2 := hk2.cell
 have l2 := hk2.lt
 go_cut [3] from 18 to 26 (fun u wx => u = .int .i64 0 /\ ∃ A c, Blk wx w1.heap.size 56 #[.int .i64 3, .slice A 1 c] /\ Rd EChg wx A [exX5] /\ Ext w wx)
 case first =>
  have near := near_of W2
  refine wp_region_P (fun k => k == 9) (fun w' => Ext W2 w' /\ ∀ b o, b < W2.heap.size -> w'.cell? ⟨b, o, none⟩ = W2.cell? ⟨b, o, none⟩) (by kernel_rfl) (near _ (Ext.refl W2).drew) (fun _ => ?_)
  refine pK 0 (v := ?_) rfl (fun _ _ _ h => h) (by rfl) ?_ (by assumption) ?_
  rotate_left
  ·intro w' hw'
   (try have hC := hw'.2)
   (try have hC9 := hw'.1)
   go_simp
   first | done | with_reducible rfl
  try simp only [Act.put, sp1]
  refine pO 1 rfl (fun K hK => ?_)
  go_simp
  refine (plan5_any W2.drew).mono ?_
  rintro e w3 ⟨Aq, b, o, rfl, hp, hb3⟩
  have hx3 := (Ext.refl W2).drew.trans hb3
  refine hK.out _ _ (fun _ _ => near _ hx3) ?_
  clear hK K c2 l2
  have fp := fld_plan
  refine pT 2 (v := ?_) rfl (fun _ _ _ h => h) (by rfl) ?_ ?_
  rotate_left
  ·intro w'; go_simp; first | done | with_reducible rfl
  try simp only [Act.put, sp1]
  refine pT 3 (v := ?_) rfl (fun _ _ _ h => h) (by rfl) ?_ ?_
  rotate_left
  ·intro w'; go_simp; first | done | with_reducible rfl
  try simp only [Act.put, sp1]
  clear fp
  obtain ⟨b', o', e', hb, a0, a1, a2, a3, a4, a5, a6⟩ := hp.c.con (k := 0) (by decide)
  injection e' with e'
  injection e' with e1 e2
  subst e1 e2
  simp only [exP5, List.getElem_cons_zero, Nat.zero_mul, Nat.add_zero] at a0 a1 a2 a3 a4 a5 a6
  refine pO 4 rfl (fun K hK => ?_)
  go_simp
  refine hK.out _ _ (fun _ _ => near _ hx3) ?_
  clear hK K a0 a1 a2 a3 a4 a5 a6
  refine pO 5 rfl (fun K hK => ?_)
  go_simp
  have fput := uPut_any 3 none 0 [] 0 exC5 w3 Rd.nil (by decide) (by simp) (by kernel_rfl) (by kernel_rfl)
  refine Calls.mono fput ?_
  clear fput
  rintro e w4 ⟨u, ts, rfl, hpm, _, ho4, hb4⟩
  have hx4 := hx3.trans hb4
  refine hK.out _ _ (fun _ _ => near _ hx4) ?_
  clear hK K
  obtain rfl : ts = [exX5] := List.perm_singleton.1 hpm
  obtain ⟨A4, c4, rfl, hR4⟩ := ho4.form
  refine pT 6 (v := ?_) rfl (fun _ _ _ h => h) (by rfl) ?_ ?_
  rotate_left
  ·intro w'; go_simp; first | done | with_reducible rfl
  try simp only [Act.put, sp1]
  refine pT 7 (v := ?_) rfl (fun _ _ _ h => h) (by rfl) ?_ ?_
  rotate_left
  ·intro w'; go_simp; first | done | with_reducible rfl
  try simp only [Act.put, sp1]
  refine pT 8 (v := ?_) rfl (fun _ _ _ h => h) (by rfl) ?_ ?_
  rotate_left
  ·intro w'; go_simp; first | done | with_reducible rfl
  try simp only [Act.put, sp1]
  have k4 := hk2.ext hx4
  have z4 := hx4.size
  have z3 := hx3.size
  obtain ⟨w5, hw5, k5, ho5, hx5⟩ : ∃ w5, w4.setCells w1.heap.size 0 [.int .i64 3, .slice A4 1 c4] = w5 /\ Blk w5 w1.heap.size 56 #[.int .i64 3, .slice A4 1 c4] /\ Owns EChg w5 w3.heap.size 63 (.slice A4 1 c4) [exX5] /\ Ext w w5 :=
   ⟨_, rfl, k4.setCells_ [.int .i64 3, .slice A4 1 c4] 0, (ho4.setZ k4 (by decide) 0 _).setZ (k4.set_ 0 _) (by decide) 1 _, ext_setCells (hE2.trans hx4) hb1.size 0 _⟩
  simp only [World.setCells, Nat.zero_add, Nat.reduceAdd] at hw5
  have a1 := k4.cell
  have a2 := k4.lt
  have a3 := k4.frozen
  refine pO 9 rfl (fun K hK => ?_)
  go_simp
  refine hK.out _ _ (fun h => absurd h (by decide)) ?_
  clear hK K
  (try rw [hw5])
  refine pT 10 (v := ?_) rfl (fun _ _ _ h => h) (by rfl) ?_ ?_
  rotate_left
  ·intro w'; go_simp; first | done | with_reducible rfl
  try simp only [Act.put, sp1]
  (try simp only [List.getElem_toArray, List.getElem_cons_succ, List.getElem_cons_zero, Act.put, sp1])
  refine wpAnyP_done (by kernel_rfl) ?_ _
  go_wp2
  go_meet
  exact ⟨rfl, A4, c4, k5, ho5.rd, hx5⟩
 case rest =>
  obtain ⟨rfl, A, c, k5, hR5, hE5⟩ := hcut
  have a1 := k5.cell
  have a2 := k5.lt
  have fc := Contacts_any 3 A c [exX5] wc hR5 (by kernel_rfl)
  go_wp2_with fail
  refine Calls.mono fc ?_
  clear fc
  rintro e w6 ⟨hb6, cs, ⟨cand, _, hcs, h1, _⟩, hor⟩
  obtain rfl : cand = [exX5] := h1 exX5 rfl rfl
  obtain rfl : cs = [exC5] := hcs
  rcases hor with ⟨h64, _⟩ | ⟨_, u, ts, rfl, hp, ho6⟩
  ·exact absurd h64 (by decide)
  obtain rfl : ts = [exC5] := List.perm_singleton.1 hp
  obtain ⟨A6, c6, rfl, _⟩ := ho6.form
  have hE6 := hE5.trans hb6
  clear k5 hR5 a1 a2 ho6
  obtain ⟨V7, hV7, hV7e, hv7, hvl7⟩ := box1 w6 #[.int .i64 0, .int .i64 0, .int .i64 0, .int .i64 0, .int .i64 0, .int .i64 0, .bool false] 85
  obtain ⟨W7, hW7, hk7, hB7⟩ : ∃ W7, V7.setCells w6.heap.size 0 [.int .i64 0, .int .i64 2, .int .i64 16, .int .i64 0, .int .i64 100, .int .i64 0, .bool false] = W7 /\ Blk W7 w6.heap.size 85 #[.int .i64 0, .int .i64 2, .int .i64 16, .int .i64 0, .int .i64 100, .int .i64 0, .bool false] /\ Ext w6 W7 :=
   ⟨_, rfl, hv7.setCells_ [.int .i64 0, .int .i64 2, .int .i64 16, .int .i64 0, .int .i64 100, .int .i64 0, .bool false] 0, ext_setCells hV7e (Nat.le_refl _) 0 _⟩
  simp only [World.setCells, Nat.zero_add, Nat.reduceAdd] at hW7
  have q1 := hv7.cell
  have q2 := hv7.lt
  have q3 := hv7.frozen
  go_wp2_with fail
  (try rw [hW7])
  clear hW7 hV7 q1 q2 q3 hv7 hvl7 hV7e
  have hE7 := hE6.trans hB7
  go_cut [7, 8] from 33 to 39 (fun a b wx => a = .int .i64 13 /\ b = .int .i64 0 /\ Ext W7 wx)
  case first =>
   have near := near_of W7
   have a1 := hk7.cell
   have a2 := hk7.lt
   refine wp_region_P (fun _ => false) (fun w' => Ext W7 w' /\ ∀ b o, b < W7.heap.size -> w'.cell? ⟨b, o, none⟩ = W7.cell? ⟨b, o, none⟩) (by kernel_rfl) (near _ (Ext.refl W7).drew) (fun _ => ?_)
   refine pK 2 (v := ?_) rfl (fun _ _ _ h => h) (by rfl) ?_ (by assumption) ?_
   rotate_left
   ·intro w' hw'
    (try have hC := hw'.2)
    (try have hC9 := hw'.1)
    go_simp
    first | done | with_reducible rfl
   try simp only [Act.put, sp1]
   clear a1 a2
   refine pO 0 rfl (fun K hK => ?_)
   go_simp
   refine (plan5_any W7.drew).mono ?_
   rintro e w8 ⟨Aq, b, o, rfl, hp, hb8⟩
   have hx8 := (Ext.refl W7).drew.trans hb8
   refine hK.out _ _ (fun _ _ => near _ hx8) ?_
   clear hK K
   refine pT 1 (v := ?_) rfl (fun _ _ _ h => h) (by rfl) ?_ ?_
   rotate_left
   ·intro w'; go_simp; first | done | with_reducible rfl
   try simp only [Act.put, sp1]
   refine pO 3 rfl (fun K hK => ?_)
   go_simp
   refine Calls.mono (ex_arrival5 _ _ _ _ _ hp) ?_
   rintro e w9 ⟨rfl, hb9⟩
   have hx9 := hx8.trans hb9
   refine hK.out _ _ (fun _ _ => near _ hx9) ?_
   clear hK K
   refine pT 4 (v := ?_) rfl (fun _ _ _ h => h) (by rfl) ?_ ?_
   rotate_left
   ·intro w'; go_simp; first | done | with_reducible rfl
   try simp only [Act.put, sp1]
   refine pT 5 (v := ?_) rfl (fun _ _ _ h => h) (by rfl) ?_ ?_
   rotate_left
   ·intro w'; go_simp; first | done | with_reducible rfl
   try simp only [Act.put, sp1]
   refine pT 6 (v := ?_) rfl (fun _ _ _ h => h) (by rfl) ?_ ?_
   rotate_left
   ·intro w'; go_simp; first | done | with_reducible rfl
   try simp only [Act.put, sp1]
   refine pT 7 (v := ?_) rfl (fun _ _ _ h => h) (by rfl) ?_ ?_
   rotate_left
   ·intro w'; go_simp; first | done | with_reducible rfl
   try simp only [Act.put, sp1]
   refine pT 8 (v := ?_) rfl (fun _ _ _ h => h) (by rfl) ?_ ?_
   rotate_left
   ·intro w'; go_simp; first | done | with_reducible rfl
   try simp only [Act.put, sp1]
   (try simp only [List.getElem_toArray, List.getElem_cons_succ, List.getElem_cons_zero, Act.put, sp1])
   refine wpAnyP_done (by kernel_rfl) ?_ _
   go_wp2
   go_meet
   exact ⟨rfl, rfl, hx9⟩
  case rest =>
  obtain ⟨rfl, rfl, hx8⟩ := hcut
  have hk8 := hk7.ext hx8
  have hE8 := hE7.trans hx8
  clear hk7 hE7 hB7
  generalize wc = w8 at *
  go_wp2_with fail
  go_cut [9, 10, 11] from 40 to 48 (fun a b c wx => (∃ A n, a = .slice A 2 n) /\ c = .int .i64 0 /\ Ext w8 wx)
  case first =>
   have near := near_of w8
   have a1 := hk8.cell
   have a2 := hk8.lt
   refine wp_region_P (fun _ => false) (fun w' => Ext w8 w' /\ ∀ b o, b < w8.heap.size -> w'.cell? ⟨b, o, none⟩ = w8.cell? ⟨b, o, none⟩) (by kernel_rfl) (near _ (Ext.refl w8).drew) (fun _ => ?_)
   refine pK 2 (v := ?_) rfl (fun _ _ _ h => h) (by rfl) ?_ (by assumption) ?_
   rotate_left
   ·intro w' hw'
    (try have hC := hw'.2)
    (try have hC9 := hw'.1)
    go_simp
    first | done | with_reducible rfl
   try simp only [Act.put, sp1]
   clear a1 a2
   refine wpAnyP_ready (rs := [0, 3]) (by kernel_rfl) (by simp) ?_
   refine AllReadyP.cons rfl (fun K hK => ?_) (AllReadyP.cons rfl (fun K hK => ?_) AllReadyP.nil)
   ·go_simp
    refine (plan5_any w8.drew).mono ?_
    rintro e w9 ⟨Aq, b, o, rfl, hp, hb9⟩
    have hx9 := (Ext.refl w8).drew.trans hb9
    refine hK.out _ _ (fun _ _ => near _ hx9) ?_
    clear hK K
    refine pT 1 (v := ?_) rfl (fun _ _ _ h => h) (by rfl) ?_ ?_
    rotate_left
    ·intro w'; go_simp; first | done | with_reducible rfl
    try simp only [Act.put, sp1]
    obtain ⟨W10, hW10, hB10, hk10, hl10⟩ := box1 w9 #[.int .i64 1, .int .i64 2] 3
    have hx10 := hx9.trans hB10
    refine pO 3 rfl (fun K hK => ?_)
    go_simp
    refine hK.out _ _ (fun _ _ => near _ hx10) ?_
    clear hK K hW10
    refine pO 4 rfl (fun K hK => ?_)
    go_simp
    refine Calls.mono (ex_grow5_call _ _ _ _ _ 2 _ (hp.ext hB10) (rd_blk (l := [1, 2]) hk10)) ?_
    rintro e w11 ⟨A, c, B, d, rfl, hb11⟩
    have hx11 := hx10.trans hb11
    refine hK.out _ _ (fun _ _ => near _ hx11) ?_
    clear hK K
    refine pT 5 (v := ?_) rfl (fun _ _ _ h => h) (by rfl) ?_ ?_
    rotate_left
    ·intro w'; go_simp; first | done | with_reducible rfl
    try simp only [Act.put, sp1]
    refine pT 6 (v := ?_) rfl (fun _ _ _ h => h) (by rfl) ?_ ?_
    rotate_left
    ·intro w'; go_simp; first | done | with_reducible rfl
    try simp only [Act.put, sp1]
    refine pT 7 (v := ?_) rfl (fun _ _ _ h => h) (by rfl) ?_ ?_
    rotate_left
    ·intro w'; go_simp; first | done | with_reducible rfl
    try simp only [Act.put, sp1]
    refine pT 8 (v := ?_) rfl (fun _ _ _ h => h) (by rfl) ?_ ?_
    rotate_left
    ·intro w'; go_simp; first | done | with_reducible rfl
    try simp only [Act.put, sp1]
    refine pT 9 (v := ?_) rfl (fun _ _ _ h => h) (by rfl) ?_ ?_
    rotate_left
    ·intro w'; go_simp; first | done | with_reducible rfl
    try simp only [Act.put, sp1]
    refine pT 10 (v := ?_) rfl (fun _ _ _ h => h) (by rfl) ?_ ?_
    rotate_left
    ·intro w'; go_simp; first | done | with_reducible rfl
    try simp only [Act.put, sp1]
    refine pT 11 (v := ?_) rfl (fun _ _ _ h => h) (by rfl) ?_ ?_
    rotate_left
    ·intro w'; go_simp; first | done | with_reducible rfl
    try simp only [Act.put, sp1]
    (try simp only [List.getElem_toArray, List.getElem_cons_succ, List.getElem_cons_zero, Act.put, sp1])
    refine wpAnyP_done (by kernel_rfl) ?_ _
    go_wp2
    go_meet
    exact ⟨⟨A, c, rfl⟩, rfl, hx11⟩
   ·obtain ⟨W10, hW10, hB10, hk10, hl10⟩ := box1 w8.drew #[.int .i64 1, .int .i64 2] 3
    have hx10 := (Ext.refl w8).drew.trans hB10
    go_simp
    refine hK.out _ _ (fun _ _ => near _ hx10) ?_
    clear hK K hW10
    refine pO 0 rfl (fun K hK => ?_)
    go_simp
    refine (plan5_any W10).mono ?_
    rintro e w9 ⟨Aq, b, o, rfl, hp, hb9⟩
    have hx9 := hx10.trans hb9
    refine hK.out _ _ (fun _ _ => near _ hx9) ?_
    clear hK K
    refine pT 1 (v := ?_) rfl (fun _ _ _ h => h) (by rfl) ?_ ?_
    rotate_left
    ·intro w'; go_simp; first | done | with_reducible rfl
    try simp only [Act.put, sp1]
    refine pO 4 rfl (fun K hK => ?_)
    go_simp
    refine Calls.mono (ex_grow5_call _ _ _ _ _ 2 _ hp ((rd_blk (l := [1, 2]) hk10).ext hb9)) ?_
    rintro e w11 ⟨A, c, B, d, rfl, hb11⟩
    have hx11 := hx9.trans hb11
    refine hK.out _ _ (fun _ _ => near _ hx11) ?_
    clear hK K
    refine pT 5 (v := ?_) rfl (fun _ _ _ h => h) (by rfl) ?_ ?_
    rotate_left
    ·intro w'; go_simp; first | done | with_reducible rfl
    try simp only [Act.put, sp1]
    refine pT 6 (v := ?_) rfl (fun _ _ _ h => h) (by rfl) ?_ ?_
    rotate_left
    ·intro w'; go_simp; first | done | with_reducible rfl
    try simp only [Act.put, sp1]
    refine pT 7 (v := ?_) rfl (fun _ _ _ h => h) (by rfl) ?_ ?_
    rotate_left
    ·intro w'; go_simp; first | done | with_reducible rfl
    try simp only [Act.put, sp1]
    refine pT 8 (v := ?_) rfl (fun _ _ _ h => h) (by rfl) ?_ ?_
    rotate_left
    ·intro w'; go_simp; first | done | with_reducible rfl
    try simp only [Act.put, sp1]
    refine pT 9 (v := ?_) rfl (fun _ _ _ h => h) (by rfl) ?_ ?_
    rotate_left
    ·intro w'; go_simp; first | done | with_reducible rfl
    try simp only [Act.put, sp1]
    refine pT 10 (v := ?_) rfl (fun _ _ _ h => h) (by rfl) ?_ ?_
    rotate_left
    ·intro w'; go_simp; first | done | with_reducible rfl
    try simp only [Act.put, sp1]
    refine pT 11 (v := ?_) rfl (fun _ _ _ h => h) (by rfl) ?_ ?_
    rotate_left
    ·intro w'; go_simp; first | done | with_reducible rfl
    try simp only [Act.put, sp1]
    (try simp only [List.getElem_toArray, List.getElem_cons_succ, List.getElem_cons_zero, Act.put, sp1])
    refine wpAnyP_done (by kernel_rfl) ?_ _
    go_wp2
    go_meet
    exact ⟨⟨A, c, rfl⟩, rfl, hx11⟩
  case rest =>
  obtain ⟨⟨A9, n9, rfl⟩, rfl, hx9⟩ := hcut
  have hE9 := hE8.trans hx9
  clear hk8 hE8 hx9
  generalize wc = w9 at *
  obtain ⟨V1, hV1, hV1e, hv1, hvl1⟩ := box1 w9 #[.int .i64 0, .int .i64 0, .int .i64 0, .int .i64 0, .int .i64 0, .int .i64 0, .int .i64 0, .int .i64 0, .int .i64 0, .int .i64 0, .slice none 0 0, .string ⟨#[]⟩] 29
  obtain ⟨W1, hW1, hk1, hB1⟩ : ∃ W1, V1.setCells w9.heap.size 0 [.int .i64 1, .int .i64 0, .int .i64 0, .int .i64 0, .int .i64 0, .int .i64 1, .int .i64 2, .int .i64 9, .int .i64 0, .int .i64 0, .slice none 0 0, .string ⟨#[104, 105]⟩] = W1 /\ Blk W1 w9.heap.size 29 #[.int .i64 1, .int .i64 0, .int .i64 0, .int .i64 0, .int .i64 0, .int .i64 1, .int .i64 2, .int .i64 9, .int .i64 0, .int .i64 0, .slice none 0 0, .string ⟨#[104, 105]⟩] /\ Ext w9 W1 :=
   ⟨_, rfl, hv1.setCells_ [.int .i64 1, .int .i64 0, .int .i64 0, .int .i64 0, .int .i64 0, .int .i64 1, .int .i64 2, .int .i64 9, .int .i64 0, .int .i64 0, .slice none 0 0, .string ⟨#[104, 105]⟩] 0, ext_setCells hV1e (Nat.le_refl _) 0 _⟩
  simp only [World.setCells, Nat.zero_add, Nat.reduceAdd] at hW1
  have q1 := hv1.cell
  have q2 := hv1.lt
  have q3 := hv1.frozen
  have a1 := hk1.cell
  have a2 := hk1.lt
  clear a1 a2
  go_upto_region 8 with fail
  (try rw [hW1])
  clear hW1 hV1 q1 q2 q3
  go_cut [13] from 52 to 56 (fun u wx => u = .int .i64 0 /\ ∃ A10 c10 pa, strV (protB exBu 1 exKey).pay = .string pa /\ Blk wx w9.heap.size 29 ((protB exBu 1 exKey).cells A10 c10) /\ Rd EBl wx A10 (protB exBu 1 exKey).blocks /\ Ext w9 wx)
  case first =>
   have a1 := hk1.cell
   have a2 := hk1.lt
   go_wp2_with fail
   clear a1 a2
   refine Calls.mono (prot_any exBu none 0 1 exKey W1 Rd.nil) ?_
   rintro e w10 ⟨hpr, hb10⟩
   rcases hpr with ⟨h0, _⟩ | ⟨_, A10, c10, rfl, hR10⟩
   ·exact absurd ex_prot h0
   generalize protB exBu 1 exKey = x at *
   obtain ⟨src, cr, seq, off, tot, dk, dn, life, prio, f, bl, pay⟩ := x
   obtain ⟨sv, hsv, -⟩ := strV_str pay
   have HSV := Lib.hid hsv
   unfold Bu.cells
   dsimp only at hR10 ⊢
   rw [hsv]
   clear hsv
   have hk10 := hk1.ext hb10
   have q1 := hk10.cell
   have q2 := hk10.lt
   have q3 := hk10.frozen
   have hs11 := hk10.setCells_ [.int .i64 src, .int .i64 cr, .int .i64 seq, .int .i64 off, .int .i64 tot, .int .i64 dk, .int .i64 dn, .int .i64 life, .int .i64 prio, .int .i64 f, .slice A10 bl.length c10, .string sv] 0
   rw [arrSets12e] at hs11
   obtain ⟨W11, hW11, hk11, hR11, hB11⟩ : ∃ W11, w10.setCells w9.heap.size 0 [.int .i64 src, .int .i64 cr, .int .i64 seq, .int .i64 off, .int .i64 tot, .int .i64 dk, .int .i64 dn, .int .i64 life, .int .i64 prio, .int .i64 f, .slice A10 bl.length c10, .string sv] = W11 /\ Blk W11 w9.heap.size 29 #[.int .i64 src, .int .i64 cr, .int .i64 seq, .int .i64 off, .int .i64 tot, .int .i64 dk, .int .i64 dn, .int .i64 life, .int .i64 prio, .int .i64 f, .slice A10 bl.length c10, .string sv] /\ Rd EBl W11 A10 bl /\ Ext w9 W11 :=
    ⟨_, rfl, hs11, rd_farB hR10 (fun _ _ h => by cases h) hk10 (fun _ h => by cases h) _, ext_setCells (hB1.trans hb10) (Nat.le_refl _) 0 _⟩
   go_wp2
   simp only [World.setCells, Nat.zero_add, Nat.reduceAdd] at hW11
   (try rw [hW11])
   go_meet
   exact ⟨rfl, A10, c10, sv, HSV.out, by unfold Bu.cells; dsimp only; rw [HSV.out]; exact hk11, hR11, hB11⟩
  case rest =>
  obtain ⟨rfl, A10, c10, pa, hpa, hk10, hR10, hb10⟩ := hcut
  have hE10 := hE9.trans hb10
  have hv0 := fun w h => ver_any (protB exBu 1 exKey) A10 c10 1 exKey w h
  have hv22 := fun w h => ver_any (protB exBu 1 exKey) A10 c10 1 exKey2 w h
  rw [ex_ver] at hv0
  rw [ex_ver2] at hv22
  generalize protB exBu 1 exKey = x at *
  obtain ⟨src, cr, seq, off, tot, dk, dn, life, prio, f, bl, pay⟩ := x
  dsimp only at hpa hR10
  unfold Bu.cells at hv0 hv22 hk10
  dsimp only at hv0 hv22 hk10
  rw [hpa] at hv0 hv22 hk10
  clear hpa hk1 hE9 hb10 hvl1 hv1 hV1e
  have q1 := hk10.cell
  have q2 := hk10.lt
  have hX := Lib.hid hv0
  have hY := Lib.hid hv22
  clear hv0 hv22
  generalize wc = w10 at *
  go_wp2_with fail
  refine Calls.mono (hX.out _ hR10) ?_
  rintro e w11 ⟨rfl, hb11⟩
  have hk11 := hk10.ext hb11
  clear q1 q2
  have q1 := hk11.cell
  have q2 := hk11.lt
  go_wp2_with fail
  refine Calls.mono (hY.out _ (hR10.ext hb11)) ?_
  rintro e w12 ⟨rfl, hb12⟩
  go_wp2
  go_ret
  exact ⟨rfl, (hE10.trans hb11).trans hb12⟩
end Go.Proofs.YtemkpimngbbpkaaGreat

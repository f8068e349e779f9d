/- Update: merging histories of three nodes. · Update: Put of a change that is not valid. · Update: Remove. -/
import Derived.Laws.StructEq
import Derived.Test.YtemkpimngbbpkaaGreatQc06
import Derived.Test.YtemkpimngbbpkaaGreatQc30
import Derived.Test.YtemkpimngbbpkaaGreatQc34
import Derived.Test.YtemkpimngbbpkaaGreatQc37
namespace Go.Proofs.YtemkpimngbbpkaaGreat
set_option linter.unusedVariables false
set_option linter.unusedSimpArgs false
open Go.RowKit Go.Shelf
theorem hist_chb {L : Nat -> List Chg} (h : LogOk L) (hlen : ∀ o, (L o).length <= 1000000) {k : Nat -> Nat} : ∀ y ∈ hist L k, ChB y := by
 intro y hy
 obtain ⟨o, ho, h1⟩ := hist_mem.1 hy
 obtain ⟨i, hi, _, e⟩ := take_mem.1 h1
 have hc := h.cnt o i hi
 have hk := h.ok o ho y (by rw [<- e]; exact List.getElem_mem hi)
 have hl := hlen o
 rw [e] at hc
 unfold Chg.ok at hk
 simp only [Bool.and_eq_true, decide_eq_true_eq] at hk
 unfold ChB
 omega
theorem hist_ok {L : Nat -> List Chg} (h : LogOk L) {k : Nat -> Nat} : ∀ y ∈ hist L k, y.ok 4 = true := by
 intro y hy
 obtain ⟨o, ho, h1⟩ := hist_mem.1 hy
 exact h.ok o ho y (List.mem_of_mem_take h1)
theorem uMergeL_any {L : Nat -> List Chg} (hL : LogOk L) (hlen : ∀ o, (L o).length <= 1000000) {k k' : Nat -> Nat} (A : Option Addr) (cc : Nat) (B : Option Addr) (d : Nat) (l : List Chg) (w : World) (hA : Rd EChg w A (hist L k)) (hB : Rd EChg w B l) (hl : l.length <= 1000)
 (hl1 : ∀ x ∈ l, x ∈ hist L k') (hl2 : ∀ x ∈ hist L k', x ∈ hist L k ∨ x ∈ l) (h1 : (hist L k).length <= 1000) (h2 : (hist L (kmax k k')).length <= 1000) :
 Calls Tryz.prog 16 #[.agg #[.int .i64 4, .slice A (hist L k).length cc], .slice B l.length d] w fun e w' => ∃ u, e = .returned (.tuple #[.agg #[.int .i64 4, u], .int .i64 0]) /\ Owns EChg w' w.heap.size 63 u (hist L (kmax k k')) /\ Ext w w' :=
 uMerge_any A cc (hist L k) B d l (hist L (kmax k k')) w hA hB (hist_chk hL k h1) (fun x hx => hist_ok hL x (hl1 x hx)) hl
  (fun a b ha hb e1 e2 => hist_key hL a b ((hist_max hl1 hl2 a).1 ha) ((hist_max hl1 hl2 b).1 hb) e1 e2) (hist_pw hL _) (hist_max hl1 hl2) (hist_chk hL _ h2) (hist_chb hL hlen)
end Go.Proofs.YtemkpimngbbpkaaGreat
namespace Go.Proofs.YtemkpimngbbpkaaGreat
set_option linter.unusedVariables false
set_option linter.unusedSimpArgs false
open Go.RowKit Go.Shelf Go.Sort
attribute [local go_sem] Oper.semAt_some
set_option maxRecDepth 100000 in
set_option maxHeartbeats 16000000 in
theorem uPut_bad (n : Int) (A : Option Addr) (cc : Nat) (l : List Chg) (o : Int) (c : Con) (w : World) (hA : Rd EChg w A l) (hl : l.length <= 1000) (hb : ∀ y ∈ l, ChB y) (h0 : hChk n l = 0) (h1 : (nextC l o 1 c).ok n = false) :
 Calls Tryz.prog 41 #[.agg #[.int .i64 n, .slice A l.length cc], .int .i64 o, c.val] w fun e w' => e = .returned (.tuple #[.agg #[.int .i64 0, .slice none 0 0], .int .i64 2]) /\ Ext w w' := by
 have g0 := fun w h => hCheck_any n A cc l w h
 rw [h0] at g0
 have g1 := fun w h => uNext_any n A cc l o 1 c w h hb (by omega)
 obtain ⟨y, hy⟩ : ∃ y, nextC l o 1 c = y := ⟨_, rfl⟩
 rw [hy] at g1 h1
 have g2 := fun w => vChg_any n y w
 rw [h1] at g2
 clear hy hb h0 h1
 unfold Chg.arr at g1 g2
 obtain ⟨src, dst, st, en, rate, rng, loss⟩ := c
 unfold Con.val at g1 ⊢
 dsimp only at g1 ⊢
 obtain ⟨W1, hW1, hB1, hk1, hl1⟩ := box1 w #[.int .i64 n, .slice A l.length cc] 56
 obtain ⟨W2, hW2, hB2, hk2, hl2⟩ := box1 W1 #[.int .i64 src, .int .i64 dst, .int .i64 st, .int .i64 en, .int .i64 rate, .int .i64 rng, .int .i64 loss] 61
 obtain ⟨W3, hW3, hB3, hk3, hl3⟩ := box1 W2 #[.int .i64 0, .slice none 0 0] 56
 have kh := (hk1.ext hB2).ext hB3
 have kc := hk2.ext hB3
 have e1 := kh.cell
 have e2 := kh.lt
 have hE3 := (hB1.trans hB2).trans hB3
 have y1 := hB1.size
 have y2 := hB2.size
 have y3 := hB3.size
 go_enter Tryz.func41, Tryz.ntmps41
 go_wp2_with fail
 clear hW1 hW2 hW3
 refine (g0 _ (hA.ext hE3)).mono ?_
 rintro e w4 ⟨rfl, hb4⟩
 have hE4 := hE3.trans hb4
 have kh4 := kh.ext hb4
 have kc4 := kc.ext hb4
 have a1 := kh4.cell
 have a2 := kh4.lt
 have a3 := kc4.cell
 have a4 := kc4.lt
 clear e1 e2
 go_wp2_with fail
 refine (g1 _ (hA.ext hE4)).mono ?_
 rintro e w5 ⟨rfl, hb5⟩
 obtain ⟨W6, hW6, hB6, hk6, hl6⟩ := box1 w5 #[.int .i64 y.org, .int .i64 y.cnt, .int .i64 y.stp, .int .i64 y.kind, .int .i64 y.con.src, .int .i64 y.con.dst, .int .i64 y.con.st, .int .i64 y.con.en, .int .i64 y.con.rate, .int .i64 y.con.rng, .int .i64 y.con.loss] 63
 have hE6 := (hE4.trans hb5).trans hB6
 have kh6 := (kh4.ext hb5).ext hB6
 have b1 := kh6.cell
 have b2 := kh6.lt
 have b3 := hk6.cell
 clear a1 a2 a3 a4
 go_wp2_with fail
 clear hW6
 refine (g2 _).mono ?_
 rintro e w7 ⟨rfl, hb7⟩
 have hE7 := hE6.trans hb7
 have kz7 := (((hk3.ext hb4).ext hb5).ext hB6).ext hb7
 have f1 := kz7.cell
 have f2 := kz7.lt
 have f3 := kz7.frozen
 obtain ⟨w9, hw9, hz9, hE9⟩ : ∃ w9, w7.setCells W2.heap.size 0 [.int .i64 0, .slice none 0 0] = w9 /\ Blk w9 W2.heap.size 56 #[.int .i64 0, .slice none 0 0] /\ Ext w w9 :=
  ⟨_, rfl, kz7.setCells_ [.int .i64 0, .slice none 0 0] 0, ext_setCells hE7 (by omega) 0 _⟩
 simp only [World.setCells, Nat.zero_add, Nat.reduceAdd] at hw9
 clear b1 b2 b3
 go_wp2
 (try rw [hw9])
 have hc9 := hz9.cell
 refine bodyPost_ret (v := .tuple #[.agg #[.int .i64 0, .slice none 0 0], .int .i64 2]) (by rw [results_cell_tmp rfl]; simp [asAddr, Result.andThen, hc9, go_sem]) rfl ?_
 exact ⟨rfl, hE9⟩
end Go.Proofs.YtemkpimngbbpkaaGreat
namespace Go.Proofs.YtemkpimngbbpkaaGreat
set_option linter.unusedVariables false
set_option linter.unusedSimpArgs false
open Go.RowKit Go.Shelf Go.Sort
attribute [local go_sem] Oper.semAt_some
def nmEq (x y : Con) : Bool := decide (x.src = y.src) && (decide (x.dst = y.dst) && decide (x.st = y.st))
theorem eqName_in (x y : Con) (w : World) : (Op.equalIn 10000 244 (.agg #[.int .i64 x.src, .int .i64 x.dst, .int .i64 x.st]) (.agg #[.int .i64 y.src, .int .i64 y.dst, .int .i64 y.st])).run Tryz.prog w = .ok (nmEq x y) w := by
 have hs : Tryz.prog.stoodInHeld 244 = false := by kernel_rfl
 have hu := Tryz.underlying244
 have hf : Tryz.prog.underlying 244 = some (.struct (Tryz.prog.fieldsOf 244)) := by rw [hu]; simp [Program.fieldsOf, hu]
 rw [show (10000 : Nat) = 9999 + 1 from rfl, run_equalIn_struct w 9999 _ _ _ hf hs]
 simp [Program.fieldsOf, hu, Op.eqFields, go_sem, Result.andThen, Tryz.underlying3, Tryz.isAgg3, Tryz.sizeOf3, nmEq]
 by_cases h0 : x.src = y.src <;> simp [h0]
 by_cases h1 : x.dst = y.dst <;> simp [h1]
 by_cases h2 : x.st = y.st <;> simp [h2]
theorem eqlName_run (x y : Con) (w : World) : (binOp .eql 244 (.agg #[.int .i64 x.src, .int .i64 x.dst, .int .i64 x.st]) (.agg #[.int .i64 y.src, .int .i64 y.dst, .int .i64 y.st])).run Tryz.prog w = .ok (.bool (nmEq x y)) w := by
 rw [run_eql_struct, eqName_in]
 rfl
set_option maxRecDepth 100000 in
set_option maxHeartbeats 4000000 in
theorem rem1_pred (g : Nat) (c : Con) (w : World) (hg : Blk w g 61 #[.int .i64 c.src, .int .i64 c.dst, .int .i64 c.st, .int .i64 c.en, .int .i64 c.rate, .int .i64 c.rng, .int .i64 c.loss]) : PredC w 140 #[.pointer (some ⟨g, 0, none⟩)] (fun d => nmEq d c) := by
 refine ⟨enters_of Tryz.func140 (by kernel_rfl) rfl, fun d w1 hw => ?_⟩
 obtain ⟨W, hW, hB, hk, hlt⟩ := box1 w1 #[.int .i64 d.src, .int .i64 d.dst, .int .i64 d.st, .int .i64 d.en, .int .i64 d.rate, .int .i64 d.rng, .int .i64 d.loss] 61
 have hc := hk.cell
 have hd := ((hg.ext hw).ext hB).cell
 have he := ((hg.ext hw).ext hB).lt
 have heq := fun w => eqlName_run d c w
 obtain ⟨v, hv⟩ : ∃ v, nmEq d c = v := ⟨_, rfl⟩
 rw [hv] at heq ⊢
 clear hv
 obtain ⟨ds, dd, dt, de, dr, dg, dl⟩ := d
 obtain ⟨cs, cd, ct, ce, cr, cg, cl⟩ := c
 dsimp only at *
 have hN := Near.refl W
 clear hw hg
 go_enter Tryz.func140, Tryz.ntmps140
 go_wp2_with fail
 clear hW
 have hq := quiet_near hN
 refine wp_region_quiet_below (by kernel_rfl) (by kernel_rfl) ?_
 repeat (first | go_big_quiet_skip | (go_big_quiet_want; go_big_quiet_op; first | go_big_quiet_on | (apply Exists.intro; refine ⟨fun _ => ?_, ?_⟩; (focus (first | (go_at_call 141; exact Calls.regrown_of (nameOf_any ⟨_, _, _, _, _, _, _⟩ _)))); go_big_quiet_on)))
 refine wpQuiet_nil ?_
 intro w1 hw1
 clear hq
 replace hw1 := quiet_ext hw1
 replace hN := hN.step hw1
 have hC := hN.2
 go_wp2
 go_ret
 exact ⟨rfl, hB.trans hN.1⟩
theorem ContS.len {l : List Chg} {cs : List Con} (h : ContS l cs) : cs.length <= l.length := by
 obtain ⟨cand, _, rfl, _, h1⟩ := h
 exact Nat.le_trans (keepC_len _) (by rw [List.length_map]; exact h1)
set_option maxRecDepth 100000 in
set_option maxHeartbeats 16000000 in
theorem uRem_any (n : Int) (A : Option Addr) (cc : Nat) (l : List Chg) (o : Int) (c : Con) (w : World) (hA : Rd EChg w A l) (hl : l.length < 1000) (hb : ∀ y ∈ l, ChB y) (h0 : hChk n l = 0) :
 Calls Tryz.prog 55 #[.agg #[.int .i64 n, .slice A l.length cc], .int .i64 o, c.val] w fun e w' => Ext w w' /\ ((∃ ee : Int, ee ≠ 0 /\ e = .returned (.tuple #[.agg #[.int .i64 0, .slice none 0 0], .int .i64 ee])) ∨
  ((nextC l o 2 c.bare).ok n = true /\ ∃ u ts, e = .returned (.tuple #[.agg #[.int .i64 n, u], .int .i64 0]) /\ ts.Perm (l ++ [nextC l o 2 c.bare]) /\ ts.Pairwise (fun x y => ltOf orgC y x = false) /\ Owns EChg w' w.heap.size 63 u ts)) := by
 obtain ⟨hn, _, hok⟩ := hChk_ok h0
 have hK := fun y hy => (Chg.ok_con (hok y hy) hn.2).1
 have g0 := fun w h => hCheck_any n A cc l w h
 rw [h0] at g0
 have g1 := fun w h => uNext_any n A cc l o 2 c.bare w h hb (by omega)
 have g4 := Lib.hid (fun w h => contacts_any n A cc l w h (by omega) hK)
 obtain ⟨y, hy⟩ : ∃ y, nextC l o 2 c.bare = y := ⟨_, rfl⟩
 rw [hy] at g1 ⊢
 have g2 := fun w => vChg_any n y w
 have g3 := fun w h => with_any n A cc l y w h hl
 have HVv := Lib.hid (show ∀ v, y.ok n = v -> y.ok n = v from fun v h => h)
 obtain ⟨v, hv⟩ : ∃ v, y.ok n = v := ⟨_, rfl⟩
 rw [hv] at g2
 have HV := Lib.hid hv
 clear hy hb h0 hok hK hv HVv
 unfold Chg.arr at g1 g2 g3
 obtain ⟨src, dst, st, en, rate, rng, loss⟩ := c
 unfold Con.bare Con.val at g1
 unfold Con.val
 dsimp only at g1 ⊢
 have G3 := Lib.hid g3
 clear g3
 obtain ⟨W1, hW1, hB1, hk1, hl1⟩ := box1 w #[.int .i64 n, .slice A l.length cc] 56
 obtain ⟨W2, hW2, hB2, hk2, hl2⟩ := box1 W1 #[.int .i64 src, .int .i64 dst, .int .i64 st, .int .i64 en, .int .i64 rate, .int .i64 rng, .int .i64 loss] 61
 obtain ⟨W3, hW3, hB3, hk3, hl3⟩ := box1 W2 #[.int .i64 0, .slice none 0 0] 56
 have kh := (hk1.ext hB2).ext hB3
 have kc := hk2.ext hB3
 have e1 := kh.cell
 have e2 := kh.lt
 have hE3 := (hB1.trans hB2).trans hB3
 have y1 := hB1.size
 have y2 := hB2.size
 have y3 := hB3.size
 go_enter Tryz.func55, Tryz.ntmps55
 go_wp2_with fail
 clear hW1 hW2 hW3
 refine (g0 _ (hA.ext hE3)).mono ?_
 rintro e w4 ⟨rfl, hb4⟩
 have hE4 := hE3.trans hb4
 have kh4 := kh.ext hb4
 have kc4 := kc.ext hb4
 have a1 := kh4.cell
 have a2 := kh4.lt
 have a3 := kc4.cell
 have a4 := kc4.lt
 clear e1 e2
 go_wp2_with fail
 refine (g1 _ (hA.ext hE4)).mono ?_
 rintro e w5 ⟨rfl, hb5⟩
 obtain ⟨W6, hW6, hB6, hk6, hl6⟩ := box1 w5 #[.int .i64 y.org, .int .i64 y.cnt, .int .i64 y.stp, .int .i64 y.kind, .int .i64 y.con.src, .int .i64 y.con.dst, .int .i64 y.con.st, .int .i64 y.con.en, .int .i64 y.con.rate, .int .i64 y.con.rng, .int .i64 y.con.loss] 63
 have hE6 := (hE4.trans hb5).trans hB6
 have kh6 := (kh4.ext hb5).ext hB6
 have kc6 := (kc4.ext hb5).ext hB6
 have b1 := kh6.cell
 have b2 := kh6.lt
 have b3 := hk6.cell
 clear a1 a2 a3 a4
 go_wp2_with fail
 clear hW6
 refine (g2 _).mono ?_
 rintro e w7 ⟨rfl, hb7⟩
 have hE7 := hE6.trans hb7
 have kh7 := kh6.ext hb7
 have kc7 := kc6.ext hb7
 have kx7 := hk6.ext hb7
 have kz7 := (((hk3.ext hb4).ext hb5).ext hB6).ext hb7
 clear b1 b2 b3
 have FIN := Lib.hid (show ∀ wz, Ext w7 wz -> ∃ w9, wz.setCells W2.heap.size 0 [.int .i64 0, .slice none 0 0] = w9 /\ Blk w9 W2.heap.size 56 #[.int .i64 0, .slice none 0 0] /\ Ext w w9 from fun wz hz =>
  ⟨_, rfl, (kz7.ext hz).setCells_ [.int .i64 0, .slice none 0 0] 0, ext_setCells (hE7.trans hz) (by omega) 0 _⟩)
 cases v with
 | false =>
   have f1 := kz7.cell
   have f2 := kz7.lt
   have f3 := kz7.frozen
   obtain ⟨w9, hw9, hz9, hE9⟩ := FIN.out w7 (Ext.refl _)
   simp only [World.setCells, Nat.zero_add, Nat.reduceAdd] at hw9
   go_wp2
   (try rw [hw9])
   have hc9 := hz9.cell
   refine bodyPost_ret (v := .tuple #[.agg #[.int .i64 0, .slice none 0 0], .int .i64 2]) (by rw [results_cell_tmp rfl]; simp [asAddr, Result.andThen, hc9, go_sem]) rfl ?_
   exact ⟨hE9, .inl ⟨2, by omega, rfl⟩⟩
 | true =>
   have c1 := kh7.cell
   have c2 := kh7.lt
   go_wp2_with fail
   refine (g4.out _ (hA.ext hE7)).mono ?_
   rintro e w8 ⟨u8, cs, rfl, hS, ho8, hb8⟩
   have hE8 := hE7.trans hb8
   have kc8 := kc7.ext hb8
   have hcl := hS.len
   obtain ⟨A8, c8, rfl, hR8⟩ := ho8.form
   have hco := containsCon_any A8 c8 cs 140 #[.pointer (some ⟨W1.heap.size, 0, none⟩)] _ w8 hR8 (by omega) (rem1_pred W1.heap.size ⟨src, dst, st, en, rate, rng, loss⟩ w8 kc8)
   obtain ⟨q, hq⟩ : ∃ q, (cs.any fun d => nmEq d ⟨src, dst, st, en, rate, rng, loss⟩) = q := ⟨_, rfl⟩
   rw [hq] at hco
   clear hq c1 c2
   go_wp2_with fail
   refine hco.mono ?_
   clear hco
   rintro e w9 ⟨rfl, hb9⟩
   have hx9 := hb8.trans hb9
   have hE9 := hE7.trans hx9
   cases q with
   | false =>
     have kz9 := kz7.ext hx9
     have f1 := kz9.cell
     have f2 := kz9.lt
     have f3 := kz9.frozen
     obtain ⟨w10, hw10, hz10, hE10⟩ := FIN.out w9 hx9
     simp only [World.setCells, Nat.zero_add, Nat.reduceAdd] at hw10
     go_wp2
     (try rw [hw10])
     have hc10 := hz10.cell
     refine bodyPost_ret (v := .tuple #[.agg #[.int .i64 0, .slice none 0 0], .int .i64 7]) (by rw [results_cell_tmp rfl]; simp [asAddr, Result.andThen, hc10, go_sem]) rfl ?_
     exact ⟨hE10, .inl ⟨7, by omega, rfl⟩⟩
   | true =>
     have kh9 := kh7.ext hx9
     have kx9 := kx7.ext hx9
     have c1 := kh9.cell
     have c2 := kh9.lt
     have c3 := kx9.cell
     have c4 := kx9.lt
     go_wp2_with fail
     refine (G3.out _ (hA.ext hE9)).mono ?_
     rintro e w10 ⟨u, ts, rfl, hp, hs, ho10, hb10⟩
     have hE10 := hE9.trans hb10
     have kz10 := (kz7.ext hx9).ext hb10
     have f1 := kz10.cell
     have f2 := kz10.lt
     have f3 := kz10.frozen
     have z7 := hE9.size
     have z8 := (((hb4.trans hb5).trans hB6).trans hb7).size
     have z9 := hx9.size
     obtain ⟨A9, c9, rfl, hR9⟩ := ho10.form
     obtain ⟨w11, hw11, hz11, hgr, hE11⟩ : ∃ w11, (w10.setCell ⟨W2.heap.size, 0, none⟩ (.int .i64 n)).setCell ⟨W2.heap.size, 1, none⟩ (.slice A9 ts.length c9) = w11 /\ Blk w11 W2.heap.size 56 #[.int .i64 n, .slice A9 ts.length c9] /\ w10.grownBy w11 (some W2.heap.size) /\ Ext w w11 :=
      ⟨_, rfl, (kz10.set_ 0 _).set_ 1 _, grown_setCell (grown_setCell (World.grownBy.refl w10 _) _ _) _ _, (hE10.setCell (by dsimp only; omega) _).setCell (by dsimp only; omega) _⟩
     have ho11 := ho10.kept hgr (fun g hgg e' => by injection e' with e'; have := (ho10.block hgg).1; omega)
     clear c1 c2 c3 c4
     go_wp2
     (try rw [hw11])
     have hc11 := hz11.cell
     refine bodyPost_ret (v := .tuple #[.agg #[.int .i64 n, .slice A9 ts.length c9], .int .i64 0]) (by rw [results_cell_tmp rfl]; simp [asAddr, Result.andThen, hc11, go_sem]) rfl ?_
     exact ⟨hE11, .inr ⟨HV.out, _, ts, rfl, hp, hs, ho11.mono (by omega)⟩⟩
end Go.Proofs.YtemkpimngbbpkaaGreat

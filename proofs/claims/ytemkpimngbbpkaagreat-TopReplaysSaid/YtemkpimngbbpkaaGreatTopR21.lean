/- TopMirror, the example: the search's graph is built. -/
import Derived.Test.YtemkpimngbbpkaaGreatTopR05
import Derived.Test.YtemkpimngbbpkaaGreatTopR20
namespace Go.Proofs.YtemkpimngbbpkaaGreat
set_option linter.unusedVariables false
set_option linter.unusedSimpArgs false
set_option linter.unusedVariables false
set_option linter.unusedSimpArgs false
open Go.RowKit Go.Shelf
attribute [local go_sem] Oper.semAt_some

theorem Owns.kpxZ {α : Type} {E : Elt α} {g : Nat} {w w' : World} {base : Nat} {e t : TypeId} {v : Value} {l : List α} {cs : Array Value} (h : Owns E w base e v l) (hg : Blk w g t cs) (hne : t ≠ e) (hk : KpX w.heap.size g w w') : Owns E w' base e v l :=
  h.kpx hk (fun b hb => ⟨(h.block hb).2, fun e2 => by
    subst e2
    obtain ⟨c2, f2, h2⟩ := h.cellsZ hb
    have h1 : w.heap[b]? = some (.cells cs t (0, 0)) := hg
    rw [h1] at h2
    injection h2 with h2
    injection h2 with _ h2 _
    exact hne h2⟩)
theorem SpsAt.kpxZ {g : Nat} {w w' : World} {base : Nat} {t : TypeId} {cs : Array Value} {L : List Sl} {f : Nat → Spn} (h : SpsAt w base L f) (hg : Blk w g t cs) (hne : t ≠ 190) (hk : KpX w.heap.size g w w') : SpsAt w' base L f := fun k hk2 => ⟨(h k hk2).1, (h k hk2).2.kpxZ hg hne hk⟩
theorem bld_fin {Aq : Option Addr} {nq cq : Nat} {Ac : Option Addr} {nc cc : Nat} {q : Req} {B b0 b1 : Nat} {LG' : List Sl} {DL' : List Int} {u : Value} {f : Nat → Spn} {L : List Sl} {y : Spn} {a w : World} {A6 A9 : Option Addr} {c6 c9 n6 n9 : Nat} {g0 r0 d0 : Value}
    (kB : Blk w B 302 (gcells Aq nq cq Ac nc cc q g0 r0 d0)) (hG : Owns ESl w b1 188 (.slice A6 n6 c6) LG') (hD : Owns EInt w b1 3 (.slice A9 n9 c9) DL') (hS : SpsAt w b0 L f) (hU : Owns ESpn w b0 190 u [y]) (hx : Ext a w) (hB : a.heap.size ≤ B) :
    Blk ((w.setCell ⟨B, 11, none⟩ (.slice A6 n6 c6)).setCell ⟨B, 13, none⟩ (.slice A9 n9 c9)) B 302 (gcells Aq nq cq Ac nc cc q (.slice A6 n6 c6) r0 (.slice A9 n9 c9)) ∧
    Owns ESl ((w.setCell ⟨B, 11, none⟩ (.slice A6 n6 c6)).setCell ⟨B, 13, none⟩ (.slice A9 n9 c9)) b1 188 (.slice A6 n6 c6) LG' ∧
    Owns EInt ((w.setCell ⟨B, 11, none⟩ (.slice A6 n6 c6)).setCell ⟨B, 13, none⟩ (.slice A9 n9 c9)) b1 3 (.slice A9 n9 c9) DL' ∧
    SpsAt ((w.setCell ⟨B, 11, none⟩ (.slice A6 n6 c6)).setCell ⟨B, 13, none⟩ (.slice A9 n9 c9)) b0 L f ∧
    Owns ESpn ((w.setCell ⟨B, 11, none⟩ (.slice A6 n6 c6)).setCell ⟨B, 13, none⟩ (.slice A9 n9 c9)) b0 190 u [y] ∧
    Ext a ((w.setCell ⟨B, 11, none⟩ (.slice A6 n6 c6)).setCell ⟨B, 13, none⟩ (.slice A9 n9 c9)) := by
  have k1 := kB.set_ 11 (.slice A6 n6 c6)
  exact ⟨k1.set_ 13 (.slice A9 n9 c9), (hG.setZ kB (by decide) 11 _).setZ k1 (by decide) 13 _, (hD.setZ kB (by decide) 11 _).setZ k1 (by decide) 13 _, (hS.setCell kB (by decide) 11 _).setCell k1 (by decide) 13 _, (hU.setZ kB (by decide) 11 _).setZ k1 (by decide) 13 _, (hx.setCell hB _).setCell hB _⟩

set_option maxRecDepth 100000 in
set_option maxHeartbeats 32000000 in
theorem build_any (Aq : Option Addr) (cq : Nat) (Ac : Option Addr) (cc : Nat) (p : Pln) (q : Req) (w : World) (h : PlnRd w Aq cq Ac cc p) (h0 : p.chk = 0) (hf : fineR p q = true) (hse : ∀ c ∈ p.cons, c.st < c.en ∧ c.arg q.size = 0) (hqu : ∀ n : Int, 0 ≤ n → n < p.quo.length → q.size ≤ gi p.quo n ∧ gi p.quo n ≤ 1099511627776) (hs : 1 ≤ q.size ∧ q.size ≤ 65536) (hn16 : p.quo.length ≤ 16 ∧ p.cons.length ≤ 64) :
    Calls Tryz.prog 121 #[.agg #[.slice Aq p.quo.length cq, .slice Ac p.cons.length cc, .slice none 0 0, .slice none 0 0], q.val] w fun e w' => ∃ B, e = .returned (.tuple #[.pointer (some ⟨B, 0, none⟩), .bool true]) ∧ w.heap.size ≤ B ∧ GAt Aq cq Ac cc p q w.heap.size w' B ∧ Ext w w' := by
  obtain ⟨i0, hi0, hz0, hz1, hz2⟩ := info_parts info_sl
  obtain ⟨i1, hi1, hy0, hy1, hy2⟩ := info_parts info_int
  obtain ⟨W1, hW1, hB1, hk1, hkq, hl1, hlq⟩ := box2 w #[.slice Aq p.quo.length cq, .slice Ac p.cons.length cc, .slice none 0 0, .slice none 0 0] q.cells 83 85
  simp only [Req.cells] at hW1 hkq
  have htb := tables_nilM Aq cq Ac cc p W1 (h.ext hB1) h0
  have hcr := fun w' (hw' : Ext W1 w') => tCheckRequest_any Aq cq Ac cc p q w' ((h.ext hB1).ext hw')
  have hbf := fun i w h hi hse => bFree_nil Aq cq Ac cc p i w h h0 hi hse
  have hsf := fun n w h hn hq => sFree_nil Aq cq Ac cc p n q.size w h h0 hn hs hq
  have hdu := fun c w => Duration_any c q.size w
  have hrd := h.ext hB1
  have hqm := h.qm
  have hcm := h.cm
  have r0 := hk1.cell
  unfold Pln.val at hcr hbf hsf
  unfold Req.val at hcr ⊢
  have Hf := Lib.hid hf
  have Hse := Lib.hid hse
  have Hqu := Lib.hid hqu
  clear h0 hf hse hqu
  go_enter Tryz.func121, Tryz.ntmps121
  go_wp2_with fail
  clear hW1
  refine htb.mono ?_
  clear htb
  rintro e w1 ⟨rfl, hb1⟩
  have r1 := (hk1.ext hb1).cell
  have r2 := (hkq.ext hb1).cell
  have r3 := (hk1.ext hb1).lt
  have r4 := (hkq.ext hb1).lt
  go_wp2_with fail
  refine (hcr _ hb1).mono ?_
  clear hcr
  rintro e w2 ⟨k, rfl, hk0, hb2⟩
  obtain rfl := hk0.2 Hf.out
  clear hk0 r1 r2 r3 r4
  have hb12 := hb1.trans hb2
  have r1 := (hk1.ext hb12).cell
  have r2 := (hkq.ext hb12).cell
  have r3 := (hk1.ext hb12).lt
  have r4 := (hkq.ext hb12).lt
  obtain ⟨W5, hW5, hB5, hk5, hl5⟩ := box1 w2 #[.slice Aq p.quo.length cq, .slice Ac p.cons.length cc, .slice none 0 0, .slice none 0 0, .int .i64 q.src, .int .i64 q.dst, .int .i64 q.size, .int .i64 q.ready, .int .i64 q.dead, .int .i64 q.prio, .bool q.cust, .slice none 0 0, .slice none 0 0, .slice none 0 0] 302
  have r5 := (hk1.ext (hb12.trans hB5)).cell
  have r6 := (hk1.ext (hb12.trans hB5)).lt
  go_wp2_with fail
  clear r0 r1 r2 r3 r4 r5 r6 hW5
  go_loopg [34] p.cons.length (fun n v wr => ∃ (j : Nat) (Ag Ad : Option Addr) (cg cd : Nat) (LG : List Sl), j + n = p.cons.length ∧ v = .int .i64 j ∧ LG.length = j ∧ Blk wr w2.heap.size 302 (gcells Aq p.quo.length cq Ac p.cons.length cc q (.slice Ag LG.length cg) (.slice none 0 0) (.slice Ad j cd)) ∧ Owns ESl wr W1.heap.size 188 (.slice Ag LG.length cg) LG ∧ Owns EInt wr W1.heap.size 3 (.slice Ad j cd) ((p.cons.take j).map (fun c => c.dur q.size)) ∧ SpsAt wr w.heap.size LG (fun k => ⟨(gc p.cons k).st, (gc p.cons k).en⟩) ∧ Ext W1 wr)
  case atStart => exact ⟨0, none, none, 0, 0, [], by omega, rfl, rfl, hk5, Owns.none_ _ _, Owns.none_ _ _, SpsAt.nil _ _ _, hb12.trans hB5⟩
  case round =>
    obtain ⟨j, Ag, Ad, cg, cd, LG, hjq, rfl, hLG, kB, hG, hD, hS, hx⟩ := hrel
    have Hjq := Lib.hid hjq
    have hjN : j ≤ p.cons.length := by omega
    clear hjq
    have t0 := (hk1.ext hx).cell
    have t1 := (hk1.ext hx).lt
    have hsx := hx.size
    by_cases hlt : j < p.cons.length
    · obtain ⟨bc, oc, rfl, hbc, z0, z1, z2, z3, z4, z5, z6⟩ := (hrd.c.ext hx).con hlt
      have Hgc := Lib.hid (show gc p.cons (j : Int) = p.cons[j] from gc_get (i := (j : Int)) (by omega))
      have hsc := Hse.out _ (List.getElem_mem hlt)
      have Htk := Lib.hid (take_snoc hlt rfl)
      have hbf2 := fun w h => hbf (j : Int) w h ⟨by omega, by omega⟩ (by rw [Hgc.out]; exact hsc.1)
      rw [Hgc.out] at hbf2
      generalize p.cons[j] = c at *
      have hdu2 := fun w => hdu c w
      have hdr : c.durR q.size = c.dur q.size := if_pos hsc.2
      rw [hdr, hsc.2] at hdu2
      unfold Con.val at hdu2
      clear hdr hsc hdu hbf
      obtain ⟨W6, hW6, hB6, hk6, hl6⟩ := box1 wr c.cells 61
      simp only [Con.cells] at hW6 hk6
      have hx6 := hx.trans hB6
      have u0 := (hk1.ext hx6).cell
      have u1 := (hk1.ext hx6).lt
      go_wp2_with fail
      clear hW6 z0 z1 z2 z3 z4 z5 z6 u0 u1 t0 t1
      refine (hbf2 _ (hrd.ext hx6)).mono ?_
      rintro e w7 ⟨u, rfl, hu7, hb7⟩
      obtain ⟨A7, c7, rfl, hR7⟩ := hu7.form
      simp only [List.length_cons, List.length_nil, Nat.zero_add] at hu7 ⊢
      have hx7' := hx6.trans hb7
      have u0 := (hk6.ext hb7).cell
      have u1 := (hk6.ext hb7).lt
      have u2 := (hkq.ext hx7').cell
      have u3 := (hkq.ext hx7').lt
      go_wp2_with fail
      clear u0 u1 u2 u3
      refine (hdu2 _).mono ?_
      rintro e w8 ⟨rfl, hb8⟩
      have hx8 := hx7'.trans hb8
      have hsz8 := hx8.size
      have hw8 : w.heap.size ≤ w8.heap.size := by omega
      have hB8 := (hB6.trans hb7).trans hb8
      have kB8 := kB.ext hB8
      have hGo := hG.ext hB8
      have hDo := hD.ext hB8
      have hSo := hS.ext hB8
      have hUo := (hu7.ext hb8).mono (show w.heap.size ≤ W6.heap.size by have := hx6.size; omega)
      unfold gcells at kB8
      have b0 := kB8.cell
      have b1 := kB8.lt
      have b2 := kB8.frozen
      have Hmn := Lib.hid (show min j p.cons.length = j by omega)
      have hLc : LG.length ≤ 64 := by omega
      have HLG := Lib.hid hLG
      have Hsp := Lib.hid (show (⟨c.st, c.en⟩ : Spn) = ⟨(gc p.cons (LG.length : Int)).st, (gc p.cons (LG.length : Int)).en⟩ by rw [HLG.out, Hgc.out])
      have Hlen := Lib.hid (show (LG ++ [(⟨A7, 1, c7⟩ : Sl)]).length = LG.length + 1 by simp)
      clear hLG
      go_wp2_with fail
      -- GEN BEGIN
      have hS0 : w8.drew.cell? ⟨w2.heap.size, 11, none⟩ = some (.slice Ag LG.length cg) ∧ w8.drew.cell? ⟨w2.heap.size, 13, none⟩ = some (.slice Ad j cd) := ⟨kB8.cell 11, kB8.cell 13⟩
      refine wp_region_P (fun k => decide (16 ≤ k)) (fun w' => w'.cell? ⟨w2.heap.size, 11, none⟩ = some (.slice Ag LG.length cg) ∧ w'.cell? ⟨w2.heap.size, 13, none⟩ = some (.slice Ad j cd)) (by kernel_rfl) hS0 (fun _ => ?_)
      refine wpAnyP_takeT (i := 0) (v := ?_) rfl (by kernel_rfl) (by kernel_rfl) (by kernel_rfl) (fun _ _ _ h => h) (Or.inl ⟨by rfl, ?_⟩) ?_
      rotate_left
      · intro w'
        go_simp
        first | done | with_reducible rfl
      try simp only [Act.put, List.setIfInBounds_toArray, List.set_cons_zero, List.set_cons_succ]
      refine wpAnyP_takeT (i := 1) (v := ?_) rfl (by kernel_rfl) (by kernel_rfl) (by kernel_rfl) (fun _ _ _ h => h) (Or.inl ⟨by rfl, ?_⟩) ?_
      rotate_left
      · intro w'
        go_simp
        first | done | with_reducible rfl
      try simp only [Act.put, List.setIfInBounds_toArray, List.set_cons_zero, List.set_cons_succ]
      refine wpAnyP_takeT (i := 2) (v := ?_) rfl (by kernel_rfl) (by kernel_rfl) (by kernel_rfl) (fun _ _ _ h => h) (Or.inl ⟨by rfl, ?_⟩) ?_
      rotate_left
      · intro w'
        go_simp
        first | done | with_reducible rfl
      try simp only [Act.put, List.setIfInBounds_toArray, List.set_cons_zero, List.set_cons_succ]
      refine wpAnyP_takeT (i := 3) (v := ?_) rfl (by kernel_rfl) (by kernel_rfl) (by kernel_rfl) (fun _ _ _ h => h) (Or.inl ⟨by rfl, ?_⟩) ?_
      rotate_left
      · intro w'
        go_simp
        first | done | with_reducible rfl
      try simp only [Act.put, List.setIfInBounds_toArray, List.set_cons_zero, List.set_cons_succ]
      refine wpAnyP_takeT (i := 4) (v := ?_) rfl (by kernel_rfl) (by kernel_rfl) (by kernel_rfl) (fun _ _ _ h => h) (Or.inl ⟨by rfl, ?_⟩) ?_
      rotate_left
      · intro w'
        go_simp
        first | done | with_reducible rfl
      try simp only [Act.put, List.setIfInBounds_toArray, List.set_cons_zero, List.set_cons_succ]
      refine wpAnyP_take (i := 5) (v := ?_) rfl (by kernel_rfl) (by kernel_rfl) (by kernel_rfl) (by kernel_rfl) (fun _ _ _ h => h) (Or.inl ⟨by rfl, ?_⟩) (by assumption) ?_
      rotate_left
      · intro w' hw'
        (try have hC := hw'.2)
        (try have hC9 := hw'.1)
        go_simp
        first | done | with_reducible rfl
      try simp only [Act.put, List.setIfInBounds_toArray, List.set_cons_zero, List.set_cons_succ]
      refine wpAnyP_takeT (i := 6) (v := ?_) rfl (by kernel_rfl) (by kernel_rfl) (by kernel_rfl) (fun _ _ _ h => h) (Or.inl ⟨by rfl, ?_⟩) ?_
      rotate_left
      · intro w'
        go_simp
        first | done | with_reducible rfl
      try simp only [Act.put, List.setIfInBounds_toArray, List.set_cons_zero, List.set_cons_succ]
      refine wpAnyP_takeT (i := 9) (v := ?_) rfl (by kernel_rfl) (by kernel_rfl) (by kernel_rfl) (fun _ _ _ h => h) (Or.inl ⟨by rfl, ?_⟩) ?_
      rotate_left
      · intro w'
        go_simp
        first | done | with_reducible rfl
      try simp only [Act.put, List.setIfInBounds_toArray, List.set_cons_zero, List.set_cons_succ]
      refine wpAnyP_takeT (i := 10) (v := ?_) rfl (by kernel_rfl) (by kernel_rfl) (by kernel_rfl) (fun _ _ _ h => h) (Or.inl ⟨by rfl, ?_⟩) ?_
      rotate_left
      · intro w'
        go_simp
        first | done | with_reducible rfl
      try simp only [Act.put, List.setIfInBounds_toArray, List.set_cons_zero, List.set_cons_succ]
      refine wpAnyP_takeT (i := 11) (v := ?_) rfl (by kernel_rfl) (by kernel_rfl) (by kernel_rfl) (fun _ _ _ h => h) (Or.inl ⟨by rfl, ?_⟩) ?_
      rotate_left
      · intro w'
        go_simp
        first | done | with_reducible rfl
      try simp only [Act.put, List.setIfInBounds_toArray, List.set_cons_zero, List.set_cons_succ]
      refine wpAnyP_take (i := 12) (v := ?_) rfl (by kernel_rfl) (by kernel_rfl) (by kernel_rfl) (by kernel_rfl) (fun _ _ _ h => h) (Or.inl ⟨by rfl, ?_⟩) (by assumption) ?_
      rotate_left
      · intro w' hw'
        (try have hC := hw'.2)
        (try have hC9 := hw'.1)
        go_simp
        first | done | with_reducible rfl
      try simp only [Act.put, List.setIfInBounds_toArray, List.set_cons_zero, List.set_cons_succ]
      refine wpAnyP_takeT (i := 13) (v := ?_) rfl (by kernel_rfl) (by kernel_rfl) (by kernel_rfl) (fun _ _ _ h => h) (Or.inl ⟨by rfl, ?_⟩) ?_
      rotate_left
      · intro w'
        go_simp
        first | done | with_reducible rfl
      try simp only [Act.put, List.setIfInBounds_toArray, List.set_cons_zero, List.set_cons_succ]
      refine wpAnyP_ready (rs := [7, 14]) (by kernel_rfl) (by simp) ?_
      refine AllReadyP.cons rfl (fun K hK => ?_) (AllReadyP.cons rfl (fun K hK => ?_) AllReadyP.nil)
      · go_simp
        refine hK.out _ _ (fun _ _ => ⟨(Blk.ext kB8 (by repeat (first | exact Ext.refl _ | apply Ext.alloc | apply Ext.drew))).cell 11, (Blk.ext kB8 (by repeat (first | exact Ext.refl _ | apply Ext.alloc | apply Ext.drew))).cell 13⟩) ?_
        clear hK K
        refine wpAnyP_ready (rs := [8, 14]) (by kernel_rfl) (by simp) ?_
        refine AllReadyP.cons rfl (fun K hK => ?_) (AllReadyP.cons rfl (fun K hK => ?_) AllReadyP.nil)
        · refine step_push (by rfl) (.tmp 60) (.tmp 62) _ (by rfl) W1.heap.size 188 i0 _ 24 Tryz.underlying300 hi0 hz0 hz1 hz2 (by rfl) (.slice Ag LG.length cg) (by rfl) (hGo.ext (by repeat (first | exact Ext.refl _ | apply Ext.alloc | apply Ext.drew))) (w8.heap.size) (⟨A7, 1, c7⟩ : Sl) (by rfl) (by first | exact Blk.new _ _ _ | (simp [blk_alloc_iff, blk_drew]; done) | (simp [blk_alloc_iff, blk_drew]; rfl)) (by simp only [maxLen]; omega) (by omega) (by have := hx8.size; simp; omega) ?_
          intro v6 w6 hv6 hg6 hat
          have hD6 := Owns.kepttZ (hDo.ext (by repeat (first | exact Ext.refl _ | apply Ext.alloc | apply Ext.drew))) (hGo.ext (by repeat (first | exact Ext.refl _ | apply Ext.alloc | apply Ext.drew))) (by decide) hg6
          have kB6 := Blk.kepttZ (kB8.ext (by repeat (first | exact Ext.refl _ | apply Ext.alloc | apply Ext.drew))) (hGo.ext (by repeat (first | exact Ext.refl _ | apply Ext.alloc | apply Ext.drew))) (by decide) hg6
          have hS6 := SpsAt.kepttZ (hSo.ext (by repeat (first | exact Ext.refl _ | apply Ext.alloc | apply Ext.drew))) (hGo.ext (by repeat (first | exact Ext.refl _ | apply Ext.alloc | apply Ext.drew))) (by decide) hg6
          have hU6 := Owns.kepttZ (hUo.ext (by repeat (first | exact Ext.refl _ | apply Ext.alloc | apply Ext.drew))) (hGo.ext (by repeat (first | exact Ext.refl _ | apply Ext.alloc | apply Ext.drew))) (by decide) hg6
          have hx6 := ext_grown (hx8.trans (by repeat (first | exact Ext.refl _ | apply Ext.alloc | apply Ext.drew))) (hGo.ext (by repeat (first | exact Ext.refl _ | apply Ext.alloc | apply Ext.drew))) (Nat.le_refl _) hg6
          obtain ⟨A6, c6, rfl, _⟩ := hv6.form
          simp only [List.length_append, List.length_cons, List.length_nil, Nat.zero_add, List.length_map, List.length_take, Hmn.out] at hv6 ⊢
          refine hK.out _ _ (fun _ _ => ⟨kB6.cell 11, kB6.cell 13⟩) ?_
          clear hK K
          refine wpAnyP_ready (rs := [14]) (by kernel_rfl) (by simp) ?_
          refine AllReadyP.cons rfl (fun K hK => ?_) AllReadyP.nil
          · go_simp
            refine hK.out _ _ (fun _ _ => ⟨(Blk.ext kB6 (by repeat (first | exact Ext.refl _ | apply Ext.alloc | apply Ext.drew))).cell 11, (Blk.ext kB6 (by repeat (first | exact Ext.refl _ | apply Ext.alloc | apply Ext.drew))).cell 13⟩) ?_
            clear hK K
            refine wpAnyP_ready (rs := [15]) (by kernel_rfl) (by simp) ?_
            refine AllReadyP.cons rfl (fun K hK => ?_) AllReadyP.nil
            · refine step_push (by rfl) (.tmp 67) (.tmp 69) _ (by rfl) W1.heap.size 3 i1 _ 8 Tryz.underlying30 hi1 hy0 hy1 hy2 (by rfl) (.slice Ad j cd) (by rfl) (hD6.ext (by repeat (first | exact Ext.refl _ | apply Ext.alloc | apply Ext.drew))) (w6.heap.size) (c.dur q.size) (by rfl) (by first | exact Blk.new _ _ _ | (simp [blk_alloc_iff, blk_drew]; done) | (simp [blk_alloc_iff, blk_drew]; rfl)) (by simp [maxLen]; omega) (by simp; omega) (by have := hx6.size; simp; omega) ?_
              intro v17 w17 hv17 hg17 hat
              have hGz := Owns.kepttZ (hv6.ext (by repeat (first | exact Ext.refl _ | apply Ext.alloc | apply Ext.drew))) (hD6.ext (by repeat (first | exact Ext.refl _ | apply Ext.alloc | apply Ext.drew))) (by decide) hg17
              have kBz := Blk.kepttZ (kB6.ext (by repeat (first | exact Ext.refl _ | apply Ext.alloc | apply Ext.drew))) (hD6.ext (by repeat (first | exact Ext.refl _ | apply Ext.alloc | apply Ext.drew))) (by decide) hg17
              have hSz := SpsAt.kepttZ (hS6.ext (by repeat (first | exact Ext.refl _ | apply Ext.alloc | apply Ext.drew))) (hD6.ext (by repeat (first | exact Ext.refl _ | apply Ext.alloc | apply Ext.drew))) (by decide) hg17
              have hUz := Owns.kepttZ (hU6.ext (by repeat (first | exact Ext.refl _ | apply Ext.alloc | apply Ext.drew))) (hD6.ext (by repeat (first | exact Ext.refl _ | apply Ext.alloc | apply Ext.drew))) (by decide) hg17
              have hxz := ext_grown (hx6.trans (by repeat (first | exact Ext.refl _ | apply Ext.alloc | apply Ext.drew))) (hD6.ext (by repeat (first | exact Ext.refl _ | apply Ext.alloc | apply Ext.drew))) (Nat.le_refl _) hg17
              obtain ⟨A9, c9, rfl, _⟩ := hv17.form
              simp only [List.length_append, List.length_cons, List.length_nil, Nat.zero_add, List.length_map, List.length_take, Hmn.out] at hv17 ⊢
              refine hK.out _ _ (fun _ _ => ⟨kBz.cell 11, kBz.cell 13⟩) ?_
              clear hK K
              refine wpAnyP_takeT (i := 16) (v := ?_) rfl (by kernel_rfl) (by kernel_rfl) (by kernel_rfl) (fun _ _ _ h => h) (Or.inl ⟨by rfl, ?_⟩) ?_
              rotate_left
              · intro w'
                go_simp
                first | done | with_reducible rfl
              try simp only [Act.put, List.setIfInBounds_toArray, List.set_cons_zero, List.set_cons_succ]
              refine wpAnyP_takeT (i := 17) (v := ?_) rfl (by kernel_rfl) (by kernel_rfl) (by kernel_rfl) (fun _ _ _ h => h) (Or.inl ⟨by rfl, ?_⟩) ?_
              rotate_left
              · intro w'
                go_simp
                first | done | with_reducible rfl
              try simp only [Act.put, List.setIfInBounds_toArray, List.set_cons_zero, List.set_cons_succ]
              have q1 := kBz.lt
              have q2 := kBz.frozen
              have q3 := kBz.cell
              refine wpAnyP_ready (rs := [18]) (by kernel_rfl) (by simp) ?_
              refine AllReadyP.cons rfl (fun K hK => ?_) AllReadyP.nil
              go_simp
              refine hK.out _ _ (fun h => absurd h (by decide)) ?_
              clear hK K
              refine wpAnyP_takeT (i := 19) (v := ?_) rfl (by kernel_rfl) (by kernel_rfl) (by kernel_rfl) (fun _ _ _ h => h) (Or.inl ⟨by rfl, ?_⟩) ?_
              rotate_left
              · intro w'
                go_simp
                first | done | with_reducible rfl
              try simp only [Act.put, List.setIfInBounds_toArray, List.set_cons_zero, List.set_cons_succ]
              refine wpAnyP_takeT (i := 20) (v := ?_) rfl (by kernel_rfl) (by kernel_rfl) (by kernel_rfl) (fun _ _ _ h => h) (Or.inl ⟨by rfl, ?_⟩) ?_
              rotate_left
              · intro w'
                go_simp
                first | done | with_reducible rfl
              try simp only [Act.put, List.setIfInBounds_toArray, List.set_cons_zero, List.set_cons_succ]
              refine wpAnyP_ready (rs := [21]) (by kernel_rfl) (by simp) ?_
              refine AllReadyP.cons rfl (fun K hK => ?_) AllReadyP.nil
              go_simp
              refine hK.out _ _ (fun h => absurd h (by decide)) ?_
              clear hK K
              refine wpAnyP_done (by kernel_rfl) ?_ _
              have hFin := bld_fin kBz hGz hv17 hSz hUz hxz (by have := hb12.size; omega)
              clear q1 q2 q3
              go_wp2
              go_roundg (gk - 1)
              case measure => have := Hjq.out; omega
              case rel => exact ⟨j + 1, A6, A9, c6, c9, LG ++ [⟨A7, 1, c7⟩], by have := Hjq.out; omega, by go_num, by rw [List.length_append, HLG.out]; rfl, by rw [Hlen.out]; exact hFin.1, by rw [Hlen.out]; exact hFin.2.1, by rw [Htk.out, List.map_append]; exact hFin.2.2.1, SpsAt.push hFin.2.2.2.1 (by (try dsimp only); rw [← Hsp.out]; exact hFin.2.2.2.2.1), hFin.2.2.2.2.2⟩
        · go_simp
          refine hK.out _ _ (fun _ _ => ⟨(Blk.ext kB8 (by repeat (first | exact Ext.refl _ | apply Ext.alloc | apply Ext.drew))).cell 11, (Blk.ext kB8 (by repeat (first | exact Ext.refl _ | apply Ext.alloc | apply Ext.drew))).cell 13⟩) ?_
          clear hK K
          refine wpAnyP_ready (rs := [8]) (by kernel_rfl) (by simp) ?_
          refine AllReadyP.cons rfl (fun K hK => ?_) AllReadyP.nil
          · refine step_push (by rfl) (.tmp 60) (.tmp 62) _ (by rfl) W1.heap.size 188 i0 _ 24 Tryz.underlying300 hi0 hz0 hz1 hz2 (by rfl) (.slice Ag LG.length cg) (by rfl) (hGo.ext (by repeat (first | exact Ext.refl _ | apply Ext.alloc | apply Ext.drew))) (w8.heap.size) (⟨A7, 1, c7⟩ : Sl) (by rfl) (by first | exact Blk.new _ _ _ | (simp [blk_alloc_iff, blk_drew]; done) | (simp [blk_alloc_iff, blk_drew]; rfl)) (by simp only [maxLen]; omega) (by omega) (by have := hx8.size; simp; omega) ?_
            intro v6 w6 hv6 hg6 hat
            have hD6 := Owns.kepttZ (hDo.ext (by repeat (first | exact Ext.refl _ | apply Ext.alloc | apply Ext.drew))) (hGo.ext (by repeat (first | exact Ext.refl _ | apply Ext.alloc | apply Ext.drew))) (by decide) hg6
            have bD6 := Blk.kepttZ (g := w8.heap.size + 1) (t := 3) (cs := #[.int .i64 (c.dur q.size)]) (by first | exact Blk.new _ _ _ | (simp [blk_alloc_iff, blk_drew]; done) | (simp [blk_alloc_iff, blk_drew]; rfl)) (hGo.ext (by repeat (first | exact Ext.refl _ | apply Ext.alloc | apply Ext.drew))) (by decide) hg6
            have kB6 := Blk.kepttZ (kB8.ext (by repeat (first | exact Ext.refl _ | apply Ext.alloc | apply Ext.drew))) (hGo.ext (by repeat (first | exact Ext.refl _ | apply Ext.alloc | apply Ext.drew))) (by decide) hg6
            have hS6 := SpsAt.kepttZ (hSo.ext (by repeat (first | exact Ext.refl _ | apply Ext.alloc | apply Ext.drew))) (hGo.ext (by repeat (first | exact Ext.refl _ | apply Ext.alloc | apply Ext.drew))) (by decide) hg6
            have hU6 := Owns.kepttZ (hUo.ext (by repeat (first | exact Ext.refl _ | apply Ext.alloc | apply Ext.drew))) (hGo.ext (by repeat (first | exact Ext.refl _ | apply Ext.alloc | apply Ext.drew))) (by decide) hg6
            have hx6 := ext_grown (hx8.trans (by repeat (first | exact Ext.refl _ | apply Ext.alloc | apply Ext.drew))) (hGo.ext (by repeat (first | exact Ext.refl _ | apply Ext.alloc | apply Ext.drew))) (Nat.le_refl _) hg6
            obtain ⟨A6, c6, rfl, _⟩ := hv6.form
            simp only [List.length_append, List.length_cons, List.length_nil, Nat.zero_add, List.length_map, List.length_take, Hmn.out] at hv6 ⊢
            refine hK.out _ _ (fun _ _ => ⟨kB6.cell 11, kB6.cell 13⟩) ?_
            clear hK K
            refine wpAnyP_ready (rs := [15]) (by kernel_rfl) (by simp) ?_
            refine AllReadyP.cons rfl (fun K hK => ?_) AllReadyP.nil
            · refine step_push (by rfl) (.tmp 67) (.tmp 69) _ (by rfl) W1.heap.size 3 i1 _ 8 Tryz.underlying30 hi1 hy0 hy1 hy2 (by rfl) (.slice Ad j cd) (by rfl) (hD6.ext (by repeat (first | exact Ext.refl _ | apply Ext.alloc | apply Ext.drew))) (w8.heap.size + 1) (c.dur q.size) (by rfl) bD6 (by simp [maxLen]; omega) (by simp; omega) (by have := hx6.size; simp; omega) ?_
              intro v17 w17 hv17 hg17 hat
              have hGz := Owns.kepttZ (hv6.ext (by repeat (first | exact Ext.refl _ | apply Ext.alloc | apply Ext.drew))) (hD6.ext (by repeat (first | exact Ext.refl _ | apply Ext.alloc | apply Ext.drew))) (by decide) hg17
              have kBz := Blk.kepttZ (kB6.ext (by repeat (first | exact Ext.refl _ | apply Ext.alloc | apply Ext.drew))) (hD6.ext (by repeat (first | exact Ext.refl _ | apply Ext.alloc | apply Ext.drew))) (by decide) hg17
              have hSz := SpsAt.kepttZ (hS6.ext (by repeat (first | exact Ext.refl _ | apply Ext.alloc | apply Ext.drew))) (hD6.ext (by repeat (first | exact Ext.refl _ | apply Ext.alloc | apply Ext.drew))) (by decide) hg17
              have hUz := Owns.kepttZ (hU6.ext (by repeat (first | exact Ext.refl _ | apply Ext.alloc | apply Ext.drew))) (hD6.ext (by repeat (first | exact Ext.refl _ | apply Ext.alloc | apply Ext.drew))) (by decide) hg17
              have hxz := ext_grown (hx6.trans (by repeat (first | exact Ext.refl _ | apply Ext.alloc | apply Ext.drew))) (hD6.ext (by repeat (first | exact Ext.refl _ | apply Ext.alloc | apply Ext.drew))) (Nat.le_refl _) hg17
              obtain ⟨A9, c9, rfl, _⟩ := hv17.form
              simp only [List.length_append, List.length_cons, List.length_nil, Nat.zero_add, List.length_map, List.length_take, Hmn.out] at hv17 ⊢
              refine hK.out _ _ (fun _ _ => ⟨kBz.cell 11, kBz.cell 13⟩) ?_
              clear hK K
              refine wpAnyP_takeT (i := 16) (v := ?_) rfl (by kernel_rfl) (by kernel_rfl) (by kernel_rfl) (fun _ _ _ h => h) (Or.inl ⟨by rfl, ?_⟩) ?_
              rotate_left
              · intro w'
                go_simp
                first | done | with_reducible rfl
              try simp only [Act.put, List.setIfInBounds_toArray, List.set_cons_zero, List.set_cons_succ]
              refine wpAnyP_takeT (i := 17) (v := ?_) rfl (by kernel_rfl) (by kernel_rfl) (by kernel_rfl) (fun _ _ _ h => h) (Or.inl ⟨by rfl, ?_⟩) ?_
              rotate_left
              · intro w'
                go_simp
                first | done | with_reducible rfl
              try simp only [Act.put, List.setIfInBounds_toArray, List.set_cons_zero, List.set_cons_succ]
              have q1 := kBz.lt
              have q2 := kBz.frozen
              have q3 := kBz.cell
              refine wpAnyP_ready (rs := [18]) (by kernel_rfl) (by simp) ?_
              refine AllReadyP.cons rfl (fun K hK => ?_) AllReadyP.nil
              go_simp
              refine hK.out _ _ (fun h => absurd h (by decide)) ?_
              clear hK K
              refine wpAnyP_takeT (i := 19) (v := ?_) rfl (by kernel_rfl) (by kernel_rfl) (by kernel_rfl) (fun _ _ _ h => h) (Or.inl ⟨by rfl, ?_⟩) ?_
              rotate_left
              · intro w'
                go_simp
                first | done | with_reducible rfl
              try simp only [Act.put, List.setIfInBounds_toArray, List.set_cons_zero, List.set_cons_succ]
              refine wpAnyP_takeT (i := 20) (v := ?_) rfl (by kernel_rfl) (by kernel_rfl) (by kernel_rfl) (fun _ _ _ h => h) (Or.inl ⟨by rfl, ?_⟩) ?_
              rotate_left
              · intro w'
                go_simp
                first | done | with_reducible rfl
              try simp only [Act.put, List.setIfInBounds_toArray, List.set_cons_zero, List.set_cons_succ]
              refine wpAnyP_ready (rs := [21]) (by kernel_rfl) (by simp) ?_
              refine AllReadyP.cons rfl (fun K hK => ?_) AllReadyP.nil
              go_simp
              refine hK.out _ _ (fun h => absurd h (by decide)) ?_
              clear hK K
              refine wpAnyP_done (by kernel_rfl) ?_ _
              have hFin := bld_fin kBz hGz hv17 hSz hUz hxz (by have := hb12.size; omega)
              clear q1 q2 q3
              go_wp2
              go_roundg (gk - 1)
              case measure => have := Hjq.out; omega
              case rel => exact ⟨j + 1, A6, A9, c6, c9, LG ++ [⟨A7, 1, c7⟩], by have := Hjq.out; omega, by go_num, by rw [List.length_append, HLG.out]; rfl, by rw [Hlen.out]; exact hFin.1, by rw [Hlen.out]; exact hFin.2.1, by rw [Htk.out, List.map_append]; exact hFin.2.2.1, SpsAt.push hFin.2.2.2.1 (by (try dsimp only); rw [← Hsp.out]; exact hFin.2.2.2.2.1), hFin.2.2.2.2.2⟩
      · go_simp
        refine hK.out _ _ (fun _ _ => ⟨(Blk.ext kB8 (by repeat (first | exact Ext.refl _ | apply Ext.alloc | apply Ext.drew))).cell 11, (Blk.ext kB8 (by repeat (first | exact Ext.refl _ | apply Ext.alloc | apply Ext.drew))).cell 13⟩) ?_
        clear hK K
        refine wpAnyP_ready (rs := [7]) (by kernel_rfl) (by simp) ?_
        refine AllReadyP.cons rfl (fun K hK => ?_) AllReadyP.nil
        · go_simp
          refine hK.out _ _ (fun _ _ => ⟨(Blk.ext kB8 (by repeat (first | exact Ext.refl _ | apply Ext.alloc | apply Ext.drew))).cell 11, (Blk.ext kB8 (by repeat (first | exact Ext.refl _ | apply Ext.alloc | apply Ext.drew))).cell 13⟩) ?_
          clear hK K
          refine wpAnyP_ready (rs := [8]) (by kernel_rfl) (by simp) ?_
          refine AllReadyP.cons rfl (fun K hK => ?_) AllReadyP.nil
          · refine step_push (by rfl) (.tmp 60) (.tmp 62) _ (by rfl) W1.heap.size 188 i0 _ 24 Tryz.underlying300 hi0 hz0 hz1 hz2 (by rfl) (.slice Ag LG.length cg) (by rfl) (hGo.ext (by repeat (first | exact Ext.refl _ | apply Ext.alloc | apply Ext.drew))) (w8.heap.size + 1) (⟨A7, 1, c7⟩ : Sl) (by rfl) (by first | exact Blk.new _ _ _ | (simp [blk_alloc_iff, blk_drew]; done) | (simp [blk_alloc_iff, blk_drew]; rfl)) (by simp only [maxLen]; omega) (by omega) (by have := hx8.size; simp; omega) ?_
            intro v6 w6 hv6 hg6 hat
            have hD6 := Owns.kepttZ (hDo.ext (by repeat (first | exact Ext.refl _ | apply Ext.alloc | apply Ext.drew))) (hGo.ext (by repeat (first | exact Ext.refl _ | apply Ext.alloc | apply Ext.drew))) (by decide) hg6
            have bD6 := Blk.kepttZ (g := w8.heap.size) (t := 3) (cs := #[.int .i64 (c.dur q.size)]) (by first | exact Blk.new _ _ _ | (simp [blk_alloc_iff, blk_drew]; done) | (simp [blk_alloc_iff, blk_drew]; rfl)) (hGo.ext (by repeat (first | exact Ext.refl _ | apply Ext.alloc | apply Ext.drew))) (by decide) hg6
            have kB6 := Blk.kepttZ (kB8.ext (by repeat (first | exact Ext.refl _ | apply Ext.alloc | apply Ext.drew))) (hGo.ext (by repeat (first | exact Ext.refl _ | apply Ext.alloc | apply Ext.drew))) (by decide) hg6
            have hS6 := SpsAt.kepttZ (hSo.ext (by repeat (first | exact Ext.refl _ | apply Ext.alloc | apply Ext.drew))) (hGo.ext (by repeat (first | exact Ext.refl _ | apply Ext.alloc | apply Ext.drew))) (by decide) hg6
            have hU6 := Owns.kepttZ (hUo.ext (by repeat (first | exact Ext.refl _ | apply Ext.alloc | apply Ext.drew))) (hGo.ext (by repeat (first | exact Ext.refl _ | apply Ext.alloc | apply Ext.drew))) (by decide) hg6
            have hx6 := ext_grown (hx8.trans (by repeat (first | exact Ext.refl _ | apply Ext.alloc | apply Ext.drew))) (hGo.ext (by repeat (first | exact Ext.refl _ | apply Ext.alloc | apply Ext.drew))) (Nat.le_refl _) hg6
            obtain ⟨A6, c6, rfl, _⟩ := hv6.form
            simp only [List.length_append, List.length_cons, List.length_nil, Nat.zero_add, List.length_map, List.length_take, Hmn.out] at hv6 ⊢
            refine hK.out _ _ (fun _ _ => ⟨kB6.cell 11, kB6.cell 13⟩) ?_
            clear hK K
            refine wpAnyP_ready (rs := [15]) (by kernel_rfl) (by simp) ?_
            refine AllReadyP.cons rfl (fun K hK => ?_) AllReadyP.nil
            · refine step_push (by rfl) (.tmp 67) (.tmp 69) _ (by rfl) W1.heap.size 3 i1 _ 8 Tryz.underlying30 hi1 hy0 hy1 hy2 (by rfl) (.slice Ad j cd) (by rfl) (hD6.ext (by repeat (first | exact Ext.refl _ | apply Ext.alloc | apply Ext.drew))) (w8.heap.size) (c.dur q.size) (by rfl) bD6 (by simp [maxLen]; omega) (by simp; omega) (by have := hx6.size; simp; omega) ?_
              intro v17 w17 hv17 hg17 hat
              have hGz := Owns.kepttZ (hv6.ext (by repeat (first | exact Ext.refl _ | apply Ext.alloc | apply Ext.drew))) (hD6.ext (by repeat (first | exact Ext.refl _ | apply Ext.alloc | apply Ext.drew))) (by decide) hg17
              have kBz := Blk.kepttZ (kB6.ext (by repeat (first | exact Ext.refl _ | apply Ext.alloc | apply Ext.drew))) (hD6.ext (by repeat (first | exact Ext.refl _ | apply Ext.alloc | apply Ext.drew))) (by decide) hg17
              have hSz := SpsAt.kepttZ (hS6.ext (by repeat (first | exact Ext.refl _ | apply Ext.alloc | apply Ext.drew))) (hD6.ext (by repeat (first | exact Ext.refl _ | apply Ext.alloc | apply Ext.drew))) (by decide) hg17
              have hUz := Owns.kepttZ (hU6.ext (by repeat (first | exact Ext.refl _ | apply Ext.alloc | apply Ext.drew))) (hD6.ext (by repeat (first | exact Ext.refl _ | apply Ext.alloc | apply Ext.drew))) (by decide) hg17
              have hxz := ext_grown (hx6.trans (by repeat (first | exact Ext.refl _ | apply Ext.alloc | apply Ext.drew))) (hD6.ext (by repeat (first | exact Ext.refl _ | apply Ext.alloc | apply Ext.drew))) (Nat.le_refl _) hg17
              obtain ⟨A9, c9, rfl, _⟩ := hv17.form
              simp only [List.length_append, List.length_cons, List.length_nil, Nat.zero_add, List.length_map, List.length_take, Hmn.out] at hv17 ⊢
              refine hK.out _ _ (fun _ _ => ⟨kBz.cell 11, kBz.cell 13⟩) ?_
              clear hK K
              refine wpAnyP_takeT (i := 16) (v := ?_) rfl (by kernel_rfl) (by kernel_rfl) (by kernel_rfl) (fun _ _ _ h => h) (Or.inl ⟨by rfl, ?_⟩) ?_
              rotate_left
              · intro w'
                go_simp
                first | done | with_reducible rfl
              try simp only [Act.put, List.setIfInBounds_toArray, List.set_cons_zero, List.set_cons_succ]
              refine wpAnyP_takeT (i := 17) (v := ?_) rfl (by kernel_rfl) (by kernel_rfl) (by kernel_rfl) (fun _ _ _ h => h) (Or.inl ⟨by rfl, ?_⟩) ?_
              rotate_left
              · intro w'
                go_simp
                first | done | with_reducible rfl
              try simp only [Act.put, List.setIfInBounds_toArray, List.set_cons_zero, List.set_cons_succ]
              have q1 := kBz.lt
              have q2 := kBz.frozen
              have q3 := kBz.cell
              refine wpAnyP_ready (rs := [18]) (by kernel_rfl) (by simp) ?_
              refine AllReadyP.cons rfl (fun K hK => ?_) AllReadyP.nil
              go_simp
              refine hK.out _ _ (fun h => absurd h (by decide)) ?_
              clear hK K
              refine wpAnyP_takeT (i := 19) (v := ?_) rfl (by kernel_rfl) (by kernel_rfl) (by kernel_rfl) (fun _ _ _ h => h) (Or.inl ⟨by rfl, ?_⟩) ?_
              rotate_left
              · intro w'
                go_simp
                first | done | with_reducible rfl
              try simp only [Act.put, List.setIfInBounds_toArray, List.set_cons_zero, List.set_cons_succ]
              refine wpAnyP_takeT (i := 20) (v := ?_) rfl (by kernel_rfl) (by kernel_rfl) (by kernel_rfl) (fun _ _ _ h => h) (Or.inl ⟨by rfl, ?_⟩) ?_
              rotate_left
              · intro w'
                go_simp
                first | done | with_reducible rfl
              try simp only [Act.put, List.setIfInBounds_toArray, List.set_cons_zero, List.set_cons_succ]
              refine wpAnyP_ready (rs := [21]) (by kernel_rfl) (by simp) ?_
              refine AllReadyP.cons rfl (fun K hK => ?_) AllReadyP.nil
              go_simp
              refine hK.out _ _ (fun h => absurd h (by decide)) ?_
              clear hK K
              refine wpAnyP_done (by kernel_rfl) ?_ _
              have hFin := bld_fin kBz hGz hv17 hSz hUz hxz (by have := hb12.size; omega)
              clear q1 q2 q3
              go_wp2
              go_roundg (gk - 1)
              case measure => have := Hjq.out; omega
              case rel => exact ⟨j + 1, A6, A9, c6, c9, LG ++ [⟨A7, 1, c7⟩], by have := Hjq.out; omega, by go_num, by rw [List.length_append, HLG.out]; rfl, by rw [Hlen.out]; exact hFin.1, by rw [Hlen.out]; exact hFin.2.1, by rw [Htk.out, List.map_append]; exact hFin.2.2.1, SpsAt.push hFin.2.2.2.1 (by (try dsimp only); rw [← Hsp.out]; exact hFin.2.2.2.2.1), hFin.2.2.2.2.2⟩
      -- GEN END
    · obtain rfl : j = p.cons.length := by omega
      obtain ⟨wo, rfl⟩ : ∃ wo, wo = wr := ⟨_, rfl⟩
      rw [List.take_length] at hD
      have HLG := Lib.hid hLG
      have hLc : LG.length ≤ 64 := by omega
      clear hLG
      go_wp2_with fail
      clear t0 t1
      go_loopg [80] p.quo.length (fun n v wr => ∃ (i : Nat) (Ar : Option Addr) (cr : Nat) (LR : List Sl), i + n = p.quo.length ∧ v = .int .i64 i ∧ LR.length = i ∧ Blk wr w2.heap.size 302 (gcells Aq p.quo.length cq Ac p.cons.length cc q (.slice Ag LG.length cg) (.slice Ar LR.length cr) (.slice Ad p.cons.length cd)) ∧ Owns ESl wr wo.heap.size 188 (.slice Ar LR.length cr) LR ∧ SpsAt wr w.heap.size LR (fun _ => ⟨0, 1099511627776⟩) ∧ KpX wo.heap.size w2.heap.size wo wr)
      case atStart => exact ⟨0, none, 0, [], by omega, rfl, rfl, kB, Owns.none_ _ _, SpsAt.nil _ _ _, KpX.refl _ _ _⟩
      case round =>
        obtain ⟨i, Ar, cr, LR, hiq, rfl, hLR, kB1, hR, hS1, hK⟩ := hrel
        have Hiq := Lib.hid hiq
        have hiN : i ≤ p.quo.length := by omega
        clear hiq
        have hb12s := hb12.size
        have hEx := hK.ext hx hsx hb12s
        have hKs := hK.size
        by_cases hlt : i < p.quo.length
        · have hqi := Hqu.out (i : Int) (by omega) (by omega)
          have hsf2 := fun w h => hsf (i : Int) w h ⟨by omega, by omega⟩ hqi
          have t0 := (hk1.ext hEx).cell
          have t1 := (hk1.ext hEx).lt
          have t2 := (hkq.ext hEx).cell
          have t3 := (hkq.ext hEx).lt
          have HLR := Lib.hid hLR
          have hLRc : LR.length ≤ 16 := by omega
          clear hLR hqi
          go_wp2_with fail
          clear t0 t1 t2 t3
          refine (hsf2 _ (hrd.ext hEx)).mono ?_
          clear hsf2
          rintro e w7 ⟨u, rfl, hu7, hb7⟩
          obtain ⟨A7, c7, rfl, hR7⟩ := hu7.form
          simp only [List.length_cons, List.length_nil, Nat.zero_add] at hu7 ⊢
          have hEx7 := hEx.trans hb7
          have hu8 := hu7.mono (show w.heap.size ≤ wr.heap.size by have := hB1.size; omega)
          have kB7 := kB1.ext hb7
          unfold gcells at kB7
          have hb7s := hb7.size
          have t0 := kB7.cell
          have t1 := kB7.lt
          have Hlen := Lib.hid (show (LR ++ [(⟨A7, 1, c7⟩ : Sl)]).length = LR.length + 1 by simp)
          go_wp2_with (at_builtin; refine wpList_push rfl (.tmp 98) (.tmp 100) _ (by rfl) wo.heap.size 188 i0 _ 24 Tryz.underlying300 hi0 hz0 hz1 hz2 (by rfl) (.slice Ar LR.length cr) (by rfl) (hR.ext (hb7.alloc _)) w7.heap.size (⟨A7, 1, c7⟩ : Sl) (by rfl) (Blk.new w7 _ _) (by simp only [maxLen]; omega) (by omega) (by simp; omega) ?_; intro v6 w6 hv6 hg6 hat6; have kB6 := Blk.kepttZ (kB7.ext ((Ext.refl _).alloc _)) (hR.ext (hb7.alloc _)) (by decide) hg6; have hS6 := SpsAt.kepttZ (hS1.ext (hb7.alloc _)) (hR.ext (hb7.alloc _)) (by decide) hg6; have hU6 := Owns.kepttZ (hu8.ext ((Ext.refl _).alloc _)) (hR.ext (hb7.alloc _)) (by decide) hg6; have hK6 : KpX wo.heap.size w2.heap.size wo w6 := KpX.trans hK (KpX.trans (KpX.of_ext hKs (hb7.alloc _)) (KpX.grown (by simp; omega) hg6 (fun r e => (hR.block e).1))); have x1 := kB6.lt; have x2 := kB6.frozen; have x3 := kB6.cell; obtain ⟨A6, c6, rfl, hR6⟩ := hv6.form; simp only [List.length_append, List.length_cons, List.length_nil, Nat.zero_add] at hv6 ⊢)
          go_roundg (gk - 1)
          case measure => have := Hiq.out; omega
          case rel => exact ⟨i + 1, A6, c6, LR ++ [⟨A7, 1, c7⟩], by have := Hiq.out; omega, by go_num, by rw [Hlen.out, HLR.out], by rw [Hlen.out]; exact kB6.set_ 12 _, by rw [Hlen.out]; exact hv6.setZ kB6 (by decide) 12 _, SpsAt.push (hS6.setCell kB6 (by decide) 12 _) (hU6.setZ kB6 (by decide) 12 _), hK6.trans (KpX.setCell _ _ _)⟩
        · obtain rfl : i = p.quo.length := by omega
          have hEw := hB1.trans hEx
          go_wp2
          go_ret2
          refine ⟨w2.heap.size, rfl, by have := hB1.size; omega, ⟨Ag, Ar, Ad, cg, cr, cd, LG, LR, kB1, (hG.kpxZ kB (by decide) hK).rd, hR.rd, (hD.kpxZ kB (by decide) hK).rd, HLG.out, hLR, hS.kpxZ kB (by decide) hK, hS1⟩, hEw⟩

end Go.Proofs.YtemkpimngbbpkaaGreat


/- Layer 35 (multicast): the walk of Path. · Layer 35 (multicast): the walk of Prune. · Layer 35 (multicast): trees, plain. -/
import Derived.Test.YtbgdglcnminbaaaGreatMcUV
import Derived.Test.YtbgdglcnminbaaaGreatJrV
import Derived.Test.YtbgdglcnminbaaaGreatMcYG
import Derived.Test.YtbgdglcnminbaaaGreatDefs
namespace Go.Proofs.YtbgdglcnminbaaaGreat
set_option linter.unusedVariables false
set_option linter.unusedSimpArgs false
open Go.RowKit Go.Shelf
attribute [local go_sem] Oper.semAt_some

def hopU (l : List Br) (x : Int) : Hp := (gbr l x.toNat).hop
/-- Between two rounds. -/
def PRl (l : List Br) (k0 : Nat) (A : Option Addr) (c : Nat) (w : World) (B : Nat) (pre : List (UpX l k0)) (W : World) : Prop :=
  ∃ u, Blk W (w.heap.size + 3) 41 #[u] ∧ Owns EHp W B 51 u ((unU pre).map (hopU l)) ∧ Blk W w.heap.size 34 #[.slice A l.length c] ∧ Blk W (w.heap.size + 1) 41 #[.slice none 0 0] ∧ Blk W (w.heap.size + 2) 35 #[.int .i64 0] ∧ Ext w W ∧ (∀ x ∈ unU pre, 0 ≤ x) ∧ B ≤ W.heap.size
def PRx (l : List Br) (k0 : Nat) (w : World) (c : Code) (pre : List (UpX l k0)) (W : World) : Prop :=
  c = .ret ∧ Blk W (w.heap.size + 1) 41 #[.slice none 0 0] ∧ Blk W (w.heap.size + 2) 35 #[.int .i64 2] ∧ Ext w W ∧ -2 ∈ upN l k0
theorem PRl.ext {l : List Br} {k0 : Nat} {A : Option Addr} {c : Nat} {w : World} {B : Nat} {pre : List (UpX l k0)} {W W' : World} (h : PRl l k0 A c w B pre W) (hb : Ext W W') : PRl l k0 A c w B pre W' := by
  obtain ⟨u, h1, h2, h3, h4, h5, h6, h7, h8⟩ := h
  exact ⟨u, h1.ext hb, h2.ext hb, h3.ext hb, h4.ext hb, h5.ext hb, h6.trans hb, h7, Nat.le_trans h8 hb.size⟩
theorem prl_own {l : List Br} {k0 : Nat} {A : Option Addr} {c : Nat} {w : World} {B : Nat} (hB : w.heap.size ≤ B) : OwnFrom B (PRl l k0 A c w B) := by
  intro pre X Y row hs hg hr
  obtain ⟨u, h1, h2, h3, h4, h5, h6, h7, h8⟩ := hs
  have hr2 := fun r e => (hr r e).2
  exact ⟨u, h1.keptc hg hr2, h2.keptc hg hr2, h3.keptc hg hr2, h4.keptc hg hr2, h5.keptc hg hr2, h6.keptb hg (fun r e => Nat.le_trans hB (hr r e).1), h7, Nat.le_trans h8 hg.size⟩
theorem prx_own {l : List Br} {k0 : Nat} {w : World} {B : Nat} (hB : w.heap.size ≤ B) (c : Code) : OwnFrom B (PRx l k0 w c) := by
  intro pre X Y row hs hg hr
  obtain ⟨h0, h4, h5, h6, h7⟩ := hs
  have hr2 := fun r e => (hr r e).2
  exact ⟨h0, h4.keptc hg hr2, h5.keptc hg hr2, h6.keptb hg (fun r e => Nat.le_trans hB (hr r e).1), h7⟩
theorem prl_ab {l : List Br} {k0 : Nat} {A : Option Addr} {c : Nat} {w : World} {B Bi : Nat} (h1 : w.heap.size + 4 ≤ Bi) (h2 : Bi < B) : AbW Bi (PRl l k0 A c w B) := by
  intro pre X Y hs hg
  obtain ⟨u, q1, q2, q3, q4, q5, q6, q7, q8⟩ := hs
  have hn : ∀ k, k < Bi → some k ≠ some Bi := fun k hk e => by injection e; omega
  exact ⟨u, q1.kept hg (hn _ (by omega)), q2.kept hg (fun g hgg e => by injection e with e; have := (q2.block hgg).1; omega), q3.kept hg (hn _ (by omega)), q4.kept hg (hn _ (by omega)), q5.kept hg (hn _ (by omega)), q6.keptb hg (fun r e => by injection e with e; omega), q7, Nat.le_trans q8 hg.size⟩
theorem prx_ab {l : List Br} {k0 : Nat} {w : World} {Bi : Nat} (h1 : w.heap.size + 4 ≤ Bi) (c : Code) : AbW Bi (PRx l k0 w c) := by
  intro pre X Y hs hg
  obtain ⟨h0, h4, h5, h6, h7⟩ := hs
  have hn : ∀ k, k < Bi → some k ≠ some Bi := fun k hk e => by injection e; omega
  exact ⟨h0, h4.kept hg (hn _ (by omega)), h5.kept hg (hn _ (by omega)), h6.keptb hg (fun r e => by injection e with e; omega), h7⟩
theorem prl_put {l : List Br} {k0 : Nat} {A : Option Addr} {c : Nat} {w : World} {B : Nat} {pre : List (UpX l k0)} {x : UpX l k0} {W wq w6 : World} {u v : Value} {y : Hp} {L : List Hp}
    (q1 : Blk W (w.heap.size + 3) 41 #[u]) (q2 : Owns EHp W B 51 u L) (q3 : Blk W w.heap.size 34 #[.slice A l.length c]) (q4 : Blk W (w.heap.size + 1) 41 #[.slice none 0 0]) (q5 : Blk W (w.heap.size + 2) 35 #[.int .i64 0]) (q6 : Ext w W) (q8 : B ≤ W.heap.size)
    (hwq : Ext W wq) (hB : w.heap.size + 4 ≤ B) (hU : (unU (pre ++ [x])).map (hopU l) = L ++ [y]) (hP : ∀ y ∈ unU (pre ++ [x]), 0 ≤ y)
    (hv : Owns EHp w6 B 51 v (L ++ [y])) (hg : (wq.alloc (.cells (EHp.cells y).toArray 51)).grownBy w6 u.ownBlock) :
    KeepsFrom B W (w6.setCell ⟨w.heap.size + 3, 0, none⟩ v) ∧ KpZ B (w.heap.size + 1) (w.heap.size + 4) W (w6.setCell ⟨w.heap.size + 3, 0, none⟩ v) ∧ PRl l k0 A c w B (pre ++ [x]) (w6.setCell ⟨w.heap.size + 3, 0, none⟩ v) := by
  have ha : Ext W (wq.alloc (.cells (EHp.cells y).toArray 51)) := hwq.alloc _
  have oa := q2.ext ha
  have hk : KeepsOthers W (w6.setCell ⟨w.heap.size + 3, 0, none⟩ v) := (ha.keeps.trans (keeps_own oa hg)).trans (KeepsOthers.setCell _ _ _)
  have hBu : ∀ r, u.ownBlock = some r → B ≤ r := fun r e => (q2.block e).1
  have k1 := (q1.ext ha).kept hg (fun e' => by have := hBu _ e'.symm; omega)
  have k3 := (q3.ext ha).kept hg (fun e' => by have := hBu _ e'.symm; omega)
  have k4 := (q4.ext ha).kept hg (fun e' => by have := hBu _ e'.symm; omega)
  have k5 := (q5.ext ha).kept hg (fun e' => by have := hBu _ e'.symm; omega)
  refine ⟨hk.from _, ((KpZ.of_ext q8 ha).trans (KpZ.grown (Nat.le_trans q8 ha.size) hg (fun r e => .inl (hBu r e)))).trans (KpZ.setCell _ ⟨by omega, by omega⟩ _ _), v, k1.set0 _, ?_, k3.far (by simp) _, k4.far (by simp) _, k5.far (by simp) _, ?_, hP, Nat.le_trans q8 hk.size⟩
  · rw [hU]
    exact hv.kept (grown_setCell (World.grownBy.refl w6 (some (w.heap.size + 3))) 0 _) (fun g hgg e' => by injection e' with e'; have := (hv.block hgg).1; omega)
  · have hx6 : Ext w w6 := ext_grown (q6.trans ha) oa (by omega) hg
    exact hx6.setCell (by show _ ≤ w.heap.size + 3; omega) _
theorem results_cc {fn : Func} {p q : Tmp} {t u : TypeId} (h : fn.results = #[.cell p t, .cell q u]) (tmps : Array Value) (P : Program) (w : World) :
    (results fn tmps).run P w =
      ((asAddr (tmps.getD p undef)).run P w).andThen fun a w1 => ((loadVar t a).run P w1).andThen fun x w2 =>
      ((asAddr (tmps.getD q undef)).run P w2).andThen fun a w1 => ((loadVar u a).run P w1).andThen fun y w2 => .ok (.tuple #[x, y]) w2 := by
  simp only [results, h]
  simp [Sem.run_bind, Result.andThen]
theorem ext_set {a w : World} {g : Nat} (h : Ext a w) (hg : a.heap.size ≤ g) (v : Value) : Ext a (w.setCell ⟨g, 0, none⟩ v) := h.setCell hg v
theorem upN_len {l : List Br} : ∀ (k : Nat), (upN l k).length ≤ k + 1
  | 0 => by rw [upN_0]; simp
  | k + 1 => by
    rw [upN_s, List.length_cons]
    split
    · simp
    · rename_i hn
      have := upN_len (l := l) ((gbr l k).par + 1).toNat
      omega
/-- What Path answers. -/
def pathO (l : List Br) (i : Int) : Option (List Hp) := if 0 ≤ i ∧ i < l.length then (if -2 ∈ upN l (i + 1).toNat then none else some ((upN l (i + 1).toNat).map (hopU l)).reverse) else none

def PathP (o : Option (List Hp)) (w : World) (e : Ending) (w' : World) : Prop := Ext w w' ∧ match o with
      | none => e = .returned (.tuple #[.slice none 0 0, .int .i64 2])
      | some m => ∃ u, e = .returned (.tuple #[u, .int .i64 0]) ∧ Owns EHp w' w.heap.size 51 u m

set_option maxRecDepth 100000 in
set_option maxHeartbeats 4000000 in
theorem Path_any (A : Option Addr) (c : Nat) (l : List Br) (i : Int) (w : World) (h : Rd EBr w A l) (hmax : l.length ≤ 1000) :
    Calls Tryz.prog 11 #[.slice A l.length c, .int .i64 i] w (PathP (pathO l i) w) := by
  obtain ⟨i0, hi0, hz0, hz1, hz2⟩ := info_parts info_hopm
  obtain ⟨W0, hW0, hB0, hk2, hl2⟩ := box1 w #[.slice A l.length c] 34
  have s0 : W0.heap.size = w.heap.size + 1 := by rw [← hW0]; simp
  obtain ⟨W1, hW1, hB1, hk4, hl4⟩ := box1 W0 #[.slice none 0 0] 41
  have s1 : W1.heap.size = w.heap.size + 2 := by rw [← hW1]; simp [s0]
  obtain ⟨W2, hW2, hB2, hk5, hl5⟩ := box1 W1 #[.int .i64 0] 35
  have s2 : W2.heap.size = w.heap.size + 3 := by rw [← hW2]; simp [s1]
  rw [s0] at hk4
  rw [s1] at hk5
  have S0 := Lib.hid s0
  have S1 := Lib.hid s1
  have S2 := Lib.hid s2
  have x1 := hB1.trans hB2
  have k2 := hk2.ext x1
  have k4 := hk4.ext hB2
  have hE2 := hB0.trans x1
  have c2 := k2.cell
  have c4 := k4.cell
  have c5 := hk5.cell
  have f4 := k4.frozen
  have f5 := hk5.frozen
  have d2 := k2.lt
  have d4 := k4.lt
  have d5 := hk5.lt
  by_cases hi : 0 ≤ i ∧ i < l.length
  case neg =>
    have HN := Lib.hid (show pathO l i = none by unfold pathO; rw [if_neg hi])
    obtain ⟨w9, hw9, k4', k5', hE9⟩ : ∃ w9, (W2.setCell ⟨w.heap.size + 1, 0, none⟩ (.slice none 0 0)).setCell ⟨w.heap.size + 2, 0, none⟩ (.int .i64 2) = w9 ∧ Blk w9 (w.heap.size + 1) 41 #[.slice none 0 0] ∧ Blk w9 (w.heap.size + 2) 35 #[.int .i64 2] ∧ Ext w w9 :=
      ⟨_, rfl, (k4.set0 _).far (by simp) _, (hk5.far (by simp) _).set0 _, ext_set (ext_set hE2 (by omega) _) (by omega) _⟩
    have t4 := k4'.cell
    have t5 := k5'.cell
    have z0 := S0.out
    have z1 := S1.out
    by_cases h0 : i < 0
    · have dd : decide (i < 0) = true := decide_eq_true h0
      clear hi h0
      go_enter Tryz.func11, Tryz.ntmps11
      go_wp2_with fail
      clear hW0 hW1 hW2
      first | rw [hw9] | skip
      refine bodyPost_ret (v := .tuple #[.slice none 0 0, .int .i64 2]) (by rw [results_cc rfl]; simp [asAddr, Result.andThen, t4, t5, go_sem]) rfl ?_
      rw [HN.out]
      exact ⟨hE9, rfl⟩
    · have dd : decide (i < 0) = false := decide_eq_false h0
      have dd2 : decide ((l.length : Int) ≤ i) = true := decide_eq_true (by omega)
      clear hi h0
      go_enter Tryz.func11, Tryz.ntmps11
      go_wp2_with fail
      clear hW0 hW1 hW2
      first | rw [hw9] | skip
      refine bodyPost_ret (v := .tuple #[.slice none 0 0, .int .i64 2]) (by rw [results_cc rfl]; simp [asAddr, Result.andThen, t4, t5, go_sem]) rfl ?_
      rw [HN.out]
      exact ⟨hE9, rfl⟩
  obtain ⟨k, rfl⟩ : ∃ k : Nat, i = (k : Int) := ⟨i.toNat, by omega⟩
  have hk : k < l.length := by omega
  have dd1 : decide ((k : Int) < 0) = false := decide_eq_false (by omega)
  have dd2 : decide (l.length ≤ k) = false := decide_eq_false (by omega)
  obtain ⟨W3, hW3, hB3, hk6, hl6⟩ := box1 W2 #[.slice none 0 0] 41
  have s3 : W3.heap.size = w.heap.size + 4 := by rw [← hW3]; simp [s2]
  rw [s2] at hk6
  have S3 := Lib.hid s3
  have c2' := (k2.ext hB3).cell
  have d2' := (k2.ext hB3).lt
  have HP := Lib.hid (show pathO l k = if -2 ∈ upN l (k + 1) then none else some ((upN l (k + 1)).map (hopU l)).reverse by
    unfold pathO
    rw [if_pos hi, show ((k : Int) + 1).toNat = k + 1 by omega])
  have hup := fun w => up_any A l.length c (k : Int) w
  refine (callsIn_wide (n := 5)).1 ?_
  refine callsIn_of_wp_marks Tryz.func11 rfl trivial ?_ rfl
  refine wpIn_wide.2 ?_
  refine Code.wp_mono NoPanic.imp ?_
  simp only [Tryz.ntmps11, List.size_toArray, List.length_cons, List.length_nil, Nat.reduceAdd, Nat.reduceSub, Array.replicate_succ, Array.replicate_zero, List.push_toArray, List.append_toArray, List.nil_append, List.cons_append]
  clear hi s0 s1 s2 s3
  go_wp2_with fail
  rw [S0.out, S1.out, S2.out]
  refine (hup _).mono ?_
  clear hup hW0 hW1 hW2 hW3
  rintro e w4 ⟨rfl, hb4, hs4, z1, z2⟩
  rw [S3.out] at z1 z2 hs4
  have k24 := (k2.ext hB3).ext hb4
  have k44 := (k4.ext hB3).ext hb4
  have k54 := (hk5.ext hB3).ext hb4
  have k64 := hk6.ext hb4
  have hE4 := (hE2.trans hB3).trans hb4
  clear c2 c4 c5 f4 f5 c2' d2' d2 d4 d5
  rw [S3.out]
  go_wp2_with fail
  refine (wpIn_wide (n := 5)).1 ?_
  refine wpIn_rangeW rfl (by omega) (gf := 60) (lb := #[.pointer (some ⟨w.heap.size + 4 + 1, 0, none⟩), .pointer (some ⟨w.heap.size + 4, 0, none⟩)]) rfl trivial (enters_of Tryz.func60 (by kernel_rfl) rfl)
    (up_stops (w.heap.size + 4) (w.heap.size + 4 + 1) w4.heap.size (w.heap.size + 1) (w.heap.size + 4) A c l (k + 1) w w4 h (by omega) (by omega) hE4 (by omega) (by omega) (by omega) z1 (by rw [show (((k + 1 : Nat) : Int) - 1) = (k : Int) by omega]; exact z2) ⟨by omega, .inr (by omega), by omega⟩ ⟨by omega, .inr (by omega)⟩) (by omega)
    KpZ.trans (fun W l o o' hl _ _ => KpZ.put W l o' hl) (Below.refl _ _) (fun _ => rfl)
    (PRl l (k + 1) A c w w4.heap.size) (PRx l (k + 1) w) (prl_own (by omega)) (prx_own (by omega)) (prl_ab (by omega) (by omega)) (prx_ab (by omega))
    ⟨_, k64, Owns.none_ _ _, k24, k44, k54, hE4, by simp [unU], Nat.le_refl _⟩
    (fun x => { tmps := #[.slice A l.length c, .int .i64 k, .pointer (some ⟨w.heap.size, 0, none⟩), undef, .pointer (some ⟨w.heap.size + 1, 0, none⟩), .pointer (some ⟨w.heap.size + 2, 0, none⟩), .pointer (some ⟨w.heap.size + 3, 0, none⟩), .int .i64 x.1, .int .i64 k, .bool false, .bool false, .int .i64 k, .slice A l.length c, .int .i64 l.length, .bool false, .bool false, .slice A l.length c, .int .i64 k, .func (.func 60) #[] #[.pointer (some ⟨w.heap.size + 4 + 1, 0, none⟩), .pointer (some ⟨w.heap.size + 4, 0, none⟩)], .int .i64 x.1, undef, undef, undef, undef, undef, undef, undef, undef, undef, undef, undef, undef, undef], defers := [] }) ?assign ?body ?done ?stop
  case assign =>
    intro li x W K hK
    simp only [upV]
    gi_wp2
    exact hK
  case body =>
    rintro li pre x W ⟨u, q1, q2, q3, q4, q5, q6, q7, q8⟩ hlen
    have hxm := upN_mem _ _ x.2
    have g4 := q4.cell
    have g5 := q5.cell
    have e4 := q4.frozen
    have e5 := q5.frozen
    have l4 := q4.lt
    have l5 := q5.lt
    by_cases hx : x.1 < 0
    · have dx : decide (x.1 < 0) = true := decide_eq_true hx
      have HX := Lib.hid (show -2 ∈ upN l (k + 1) by have h2 := x.2; rwa [show x.1 = -2 by omega] at h2)
      clear hx hxm
      gi_wp2
      refine ⟨?_, rfl, (q4.set0 _).far (by simp) _, (q5.far (by simp) _).set0 _, ((q6.setCell (by show _ ≤ w.heap.size + 1; omega) _).setCell (by show _ ≤ w.heap.size + 2; omega) _), HX.out⟩
      exact ((KeepsOthers.setCell _ _ _).trans (KeepsOthers.setCell _ _ _)).from _
    · obtain ⟨n, hn⟩ : ∃ n : Nat, x.1 = (n : Int) := ⟨x.1.toNat, by omega⟩
      have hnl : n < l.length := by omega
      have HU := Lib.hid (show (unU (pre ++ [x])).map (hopU l) = (unU pre).map (hopU l) ++ [hopU l n] by rw [unU_snoc, hn]; simp)
      have HP0 := Lib.hid (show ∀ y ∈ unU (pre ++ [x]), 0 ≤ y by
        intro y hy
        rw [unU_snoc, List.mem_append, List.mem_singleton] at hy
        rcases hy with hy | rfl
        · exact q7 y hy
        · omega)
      rw [hn]
      clear hx hxm g4 g5 e4 e5
      gi_wp2
      obtain ⟨b, o, rfl, hb, c0, c1, c2, c3, c4⟩ := (h.ext q6).br hnl
      have hgb := gbr_get hnl
      have HY := Lib.hid (show hopU l n = ⟨l[n].con, l[n].beg, l[n].en, l[n].arr⟩ by unfold hopU; rw [Int.toNat_natCast, hgb]; rfl)
      have hbw : ∀ w', Ext w w' → w'.cell? ⟨b, o + n * 5, none⟩ = some (.int .i64 l[n].con) ∧ w'.cell? ⟨b, o + n * 5 + 1, none⟩ = some (.int .i64 l[n].beg) ∧ w'.cell? ⟨b, o + n * 5 + 2, none⟩ = some (.int .i64 l[n].en) ∧ w'.cell? ⟨b, o + n * 5 + 3, none⟩ = some (.int .i64 l[n].arr) := fun w' hw => by
        obtain ⟨b', o', he, _, d0, d1, d2, d3, _⟩ := (h.ext hw).br hnl
        injection he with he
        injection he with he1 he2
        subst he1 he2
        exact ⟨d0, d1, d2, d3⟩
      generalize l[n] = y at *
      clear hgb
      rw [HY.out] at HU
      clear HY
      have hpl : ((unU pre).map (hopU l)).length ≤ 1002 := by rw [List.length_map, unU_len]; omega
      generalize (unU pre).map (hopU l) = L at *
      obtain ⟨Au, cu, rfl, hRu⟩ := q2.form
      have hfn : ∀ k, Fence.wide.fn k := fun _ => trivial
      have hmix : Tryz.prog.follows .mixedOrders = true := by kernel_rfl
      have hSof : ∀ w', Blk w' w.heap.size 34 #[.slice (some ⟨b, o, none⟩) l.length c] → Ext w w' → (Blk w' w.heap.size 34 #[.slice (some ⟨b, o, none⟩) l.length c] ∧ w'.cell? ⟨b, o + n * 5, none⟩ = some (.int .i64 y.con) ∧ w'.cell? ⟨b, o + n * 5 + 1, none⟩ = some (.int .i64 y.beg) ∧ w'.cell? ⟨b, o + n * 5 + 2, none⟩ = some (.int .i64 y.en) ∧ w'.cell? ⟨b, o + n * 5 + 3, none⟩ = some (.int .i64 y.arr)) := fun w' h1 h2 => ⟨h1, hbw w' h2⟩
      have q6s := q6.size
      refine wpIn_region_held_round (S := fun w' => Blk w' w.heap.size 34 #[.slice (some ⟨b, o, none⟩) l.length c] ∧ w'.cell? ⟨b, o + n * 5, none⟩ = some (.int .i64 y.con) ∧ w'.cell? ⟨b, o + n * 5 + 1, none⟩ = some (.int .i64 y.beg) ∧ w'.cell? ⟨b, o + n * 5 + 2, none⟩ = some (.int .i64 y.en) ∧ w'.cell? ⟨b, o + n * 5 + 3, none⟩ = some (.int .i64 y.arr)) hmix (fun ⟨_, _, h⟩ => h) (by kernel_rfl) (hSof _ (q3.ext ((Ext.refl W).drew)) (q6.trans ((Ext.refl W).drew))) (fun hS0 => ?_)
      have k19 := q1.ext ((Ext.refl W).drew)
      have k39 := q3.ext ((Ext.refl W).drew)
      have o9 := q2.ext ((Ext.refl W).drew)
      have f1 := k19.cell
      have l1 := k19.lt
      have l3 := k39.lt
      clear c0 c1 c2 c3 c4 hn
      refine wpAnyH_take (i := 1) (v := ?_) rfl (by kernel_rfl) (by kernel_rfl) (by kernel_rfl) (fun _ _ _ h => h) (Or.inl ⟨by rfl, ?_⟩) (by assumption) ?_
      rotate_left
      · intro w' hw'
        obtain ⟨hw1, g0, g1, g2, g3⟩ := hw'
        have e1 := hw1.cell
        go_simp
        first | done | with_reducible rfl
      refine wpAnyH_take (i := 2) (v := ?_) rfl (by kernel_rfl) (by kernel_rfl) (by kernel_rfl) (fun _ _ _ h => h) (Or.inl ⟨by rfl, ?_⟩) (by assumption) ?_
      rotate_left
      · intro w' hw'
        obtain ⟨hw1, g0, g1, g2, g3⟩ := hw'
        have e1 := hw1.cell
        go_simp
        first | done | with_reducible rfl
      refine wpAnyH_take (i := 3) (v := ?_) rfl (by kernel_rfl) (by kernel_rfl) (by kernel_rfl) (fun _ _ _ h => h) (Or.inl ⟨by rfl, ?_⟩) (by assumption) ?_
      rotate_left
      · intro w' hw'
        obtain ⟨hw1, g0, g1, g2, g3⟩ := hw'
        have e1 := hw1.cell
        go_simp
        first | done | with_reducible rfl
      refine wpAnyH_take (i := 4) (v := ?_) rfl (by kernel_rfl) (by kernel_rfl) (by kernel_rfl) (fun _ _ _ h => h) (Or.inl ⟨by rfl, ?_⟩) (by assumption) ?_
      rotate_left
      · intro w' hw'
        obtain ⟨hw1, g0, g1, g2, g3⟩ := hw'
        have e1 := hw1.cell
        go_simp
        first | done | with_reducible rfl
      refine wpAnyH_take (i := 5) (v := ?_) rfl (by kernel_rfl) (by kernel_rfl) (by kernel_rfl) (fun _ _ _ h => h) (Or.inl ⟨by rfl, ?_⟩) (by assumption) ?_
      rotate_left
      · intro w' hw'
        obtain ⟨hw1, g0, g1, g2, g3⟩ := hw'
        have e1 := hw1.cell
        go_simp
        first | done | with_reducible rfl
      refine wpAnyH_ready (rs := [0, 6]) (by kernel_rfl) (by simp) ?_
      refine AllReadyH.cons rfl (fun K hK => ?_) (AllReadyH.cons rfl (fun K hK => ?_) AllReadyH.nil)
      · go_simp
        refine hK.out _ _ hS0 (fun _ => ?_)
        clear hK K
        refine wpAnyH_ready (rs := [6]) (by kernel_rfl) (by simp) ?_
        refine AllReadyH.cons rfl (fun K hK => ?_) AllReadyH.nil
        go_simp
        refine hK.out _ _ (hSof _ (k39.ext ((Ext.refl _).alloc _)) ((q6.trans ((Ext.refl W).drew)).alloc _)) (fun hS2 => ?_)
        clear hK K
        refine wpAnyH_ready (rs := [7]) (by kernel_rfl) (by simp) ?_
        refine AllReadyH.cons rfl (fun K hK => ?_) AllReadyH.nil
        refine step_push (by rfl) (.tmp 22) (.tmp 28) _ (by rfl) w4.heap.size 51 i0 _ 32 Tryz.underlying41 hi0 hz0 hz1 hz2 (by rfl) (.slice Au L.length cu) (by rfl) (o9.ext ((Ext.refl _).alloc _)) W.drew.heap.size (⟨y.con, y.beg, y.en, y.arr⟩ : Hp) (by rfl) (Blk.new W.drew _ _) (by simp only [maxLen]; omega) (by omega) (by simp; omega) ?_
        intro v6 wq hv6 hg6 hat6
        obtain ⟨A6, d6, rfl, hR6⟩ := hv6.form
        simp only [List.length_append, List.length_cons, List.length_nil, Nat.zero_add] at hv6 hat6
        have FIN := Lib.hid (prl_put q1 q2 q3 q4 q5 q6 q8 ((Ext.refl W).drew) (by omega) HU.out HP0.out hv6 hg6)
        have m1 := Blk.kept (k19.ext ((Ext.refl _).alloc _)) hg6 (fun e' => by have := (q2.block e'.symm).1; omega)
        have m3 := Blk.kept (k39.ext ((Ext.refl _).alloc _)) hg6 (fun e' => by have := (q2.block e'.symm).1; omega)
        have hx9 : Ext w wq := ext_grown (q6.trans (((Ext.refl W).drew).alloc _)) (o9.ext ((Ext.refl _).alloc _)) (by omega) hg6
        refine hK.out _ _ (hSof _ m3 hx9) (fun hS3 => ?_)
        clear hK K
        refine wpAnyH_ready (rs := [8]) (by kernel_rfl) (by simp) ?_
        refine AllReadyH.cons rfl (fun K hK => ?_) AllReadyH.nil
        have n1 := m1.cell
        have n2 := m1.lt
        have n3 := m1.frozen
        go_simp
        refine hK.out _ _ (hSof _ (m3.far (by simp) _) (hx9.setCell (by show _ ≤ w.heap.size + 3; omega) _)) (fun hS4 => ?_)
        clear hK K
        refine wpAnyH_done (by kernel_rfl) ?_ _
        gi_wp2
        exact FIN.out
      · go_simp
        refine hK.out _ _ (hSof _ (k39.ext ((Ext.refl _).alloc _)) ((q6.trans ((Ext.refl W).drew)).alloc _)) (fun hS2 => ?_)
        clear hK K
        have f1' := ((q1.ext ((Ext.refl _).alloc (.cells #[.int .i64 y.con, .int .i64 y.beg, .int .i64 y.en, .int .i64 y.arr] 51))).ext ((Ext.refl _).drew)).cell
        refine wpAnyH_ready (rs := [0]) (by kernel_rfl) (by simp) ?_
        refine AllReadyH.cons rfl (fun K hK => ?_) AllReadyH.nil
        go_simp
        refine hK.out _ _ hS2 (fun _ => ?_)
        clear hK K
        refine wpAnyH_ready (rs := [7]) (by kernel_rfl) (by simp) ?_
        refine AllReadyH.cons rfl (fun K hK => ?_) AllReadyH.nil
        refine step_push (by rfl) (.tmp 22) (.tmp 28) _ (by rfl) w4.heap.size 51 i0 _ 32 Tryz.underlying41 hi0 hz0 hz1 hz2 (by rfl) (.slice Au L.length cu) (by rfl) (o9.ext ((Ext.refl _).alloc _)) W.drew.heap.size (⟨y.con, y.beg, y.en, y.arr⟩ : Hp) (by rfl) (Blk.new W.drew _ _) (by simp only [maxLen]; omega) (by omega) (by simp; omega) ?_
        intro v6 wq hv6 hg6 hat6
        obtain ⟨A6, d6, rfl, hR6⟩ := hv6.form
        simp only [List.length_append, List.length_cons, List.length_nil, Nat.zero_add] at hv6 hat6
        have FIN := Lib.hid (prl_put q1 q2 q3 q4 q5 q6 q8 ((Ext.refl W).drew) (by omega) HU.out HP0.out hv6 hg6)
        have m1 := Blk.kept (k19.ext ((Ext.refl _).alloc _)) hg6 (fun e' => by have := (q2.block e'.symm).1; omega)
        have m3 := Blk.kept (k39.ext ((Ext.refl _).alloc _)) hg6 (fun e' => by have := (q2.block e'.symm).1; omega)
        have hx9 : Ext w wq := ext_grown (q6.trans (((Ext.refl W).drew).alloc _)) (o9.ext ((Ext.refl _).alloc _)) (by omega) hg6
        refine hK.out _ _ (hSof _ m3 hx9) (fun hS3 => ?_)
        clear hK K
        refine wpAnyH_ready (rs := [8]) (by kernel_rfl) (by simp) ?_
        refine AllReadyH.cons rfl (fun K hK => ?_) AllReadyH.nil
        have n1 := m1.cell
        have n2 := m1.lt
        have n3 := m1.frozen
        go_simp
        refine hK.out _ _ (hSof _ (m3.far (by simp) _) (hx9.setCell (by show _ ≤ w.heap.size + 3; omega) _)) (fun hS4 => ?_)
        clear hK K
        refine wpAnyH_done (by kernel_rfl) ?_ _
        gi_wp2
        exact FIN.out
  case done =>
    rintro D ys W hDD hS ⟨u, q1, q2, q3, q4, q5, q6, q7, q8⟩ hK
    have hnn : ¬ (-2 ∈ upN l (k + 1)) := fun hm => by
      rw [← hS] at hm
      have := q7 _ hm
      omega
    have HR := Lib.hid (HP.out.trans (by rw [if_neg hnn]))
    rw [hS] at q2
    clear hnn HP
    have hll : ((upN l (k + 1)).map (hopU l)).length ≤ 1099511627776 := by
      have := upN_len (l := l) (k + 1)
      rw [List.length_map]
      omega
    generalize (upN l (k + 1)).map (hopU l) = L at *
    obtain ⟨Au, cu, rfl, hRu⟩ := q2.form
    have hrv := reverse_any Au L.length cu L w4.heap.size W q2 hll
    have hds := (DSx.nil w4.heap.size w4.heap.size W).cons hDD hDD hK
    have l1 := q1.cell
    have l2 := q1.lt
    go_wp2_with fail
    refine hrv.mono ?_
    clear hrv
    rintro e w5 ⟨⟨v, rfl⟩, o5, w5', hg5, rfl⟩
    have hn5 : ∀ g, g < w4.heap.size → some g ≠ (Value.slice Au L.length cu).ownBlock := fun g hg e' => by have := (q2.block e'.symm).1; omega
    have k1 := q1.kept hg5 (hn5 _ (by omega))
    have k4 := q4.kept hg5 (hn5 _ (by omega))
    have k5 := q5.kept hg5 (hn5 _ (by omega))
    have hE5 : Ext w w5 := q6.keptb hg5 (fun r e => by have := (q2.block e).1; omega)
    have hds5 := hds.keeps (keeps_own q2 hg5)
    have t1 := k1.cell
    have t2 := k1.lt
    have t4 := k4.frozen
    have t5 := k5.frozen
    have t6 := k4.lt
    have t7 := k5.lt
    have t8 := k4.cell
    have t9 := k5.cell
    clear l1 l2
    go_wp2_with fail
    have k4' := (k4.set0 (.slice Au L.length cu)).far (p := ⟨w.heap.size + 2, 0, none⟩) (by simp) (.int .i64 0)
    have k5' := (k5.far (p := ⟨w.heap.size + 1, 0, none⟩) (by simp) (.slice Au L.length cu)).set0 (.int .i64 0)
    have o5' := (o5.kept (grown_setCell (World.grownBy.refl w5 (some (w.heap.size + 1))) 0 (.slice Au L.length cu)) (fun g hgg e' => by injection e' with e'; have := (o5.block hgg).1; omega)).kept (grown_setCell (World.grownBy.refl _ (some (w.heap.size + 2))) 0 (.int .i64 0)) (fun g hgg e' => by injection e' with e'; have := (o5.block hgg).1; omega)
    have hE8 := ext_set (g := w.heap.size + 2) (ext_set (g := w.heap.size + 1) hE5 (by omega) (.slice Au L.length cu)) (by omega) (.int .i64 0)
    have hds8 := (hds5.keeps (KeepsOthers.setCell w5 ⟨w.heap.size + 1, 0, none⟩ (.slice Au L.length cu))).keeps (KeepsOthers.setCell _ ⟨w.heap.size + 2, 0, none⟩ (.int .i64 0))
    show LeavesInM _ _ _ _ _ _ [mkD D] .returning _
    refine hds8.leaves ?_
    intro w' hw'
    have hfn := hw' (fun W => Blk W (w.heap.size + 1) 41 #[.slice Au L.length cu] ∧ Blk W (w.heap.size + 2) 35 #[.int .i64 0] ∧ Owns EHp W w4.heap.size 51 (.slice Au L.length cu) L.reverse ∧ Ext w W)
      (fun s X Y row hs hg hr => ⟨hs.1.keptc hg (fun r e => (hr r e).2), hs.2.1.keptc hg (fun r e => (hr r e).2), hs.2.2.1.keptc hg (fun r e => (hr r e).2), hs.2.2.2.keptb hg (fun r e => by have := (hr r e).1; omega)⟩) ⟨k4', k5', o5', hE8⟩
    have y4 := hfn.1.cell
    have y5 := hfn.2.1.cell
    refine ⟨.tuple #[.slice Au L.length cu, .int .i64 0], ?_, ?_⟩
    · rw [results_cc rfl]; simp [asAddr, Result.andThen, y4, y5, go_sem]
    · rw [HR.out]
      exact ⟨hfn.2.2.2, _, rfl, hfn.2.2.1.mono (by omega)⟩
  case stop =>
    rintro D cc pre W hD _ ⟨rfl, q4, q5, q6, q7⟩ hK
    have HR := Lib.hid (HP.out.trans (by rw [if_pos q7]))
    have hds := (DSx.nil w4.heap.size w4.heap.size W).cons hD hD hK
    gi_wp2_with fail
    show LeavesInM _ _ _ _ _ _ [mkD D] .returning _
    refine hds.leaves ?_
    intro w' hw'
    have hfn := hw' (fun W => Blk W (w.heap.size + 1) 41 #[.slice none 0 0] ∧ Blk W (w.heap.size + 2) 35 #[.int .i64 2] ∧ Ext w W)
      (fun s X Y row hs hg hr => ⟨hs.1.keptc hg (fun r e => (hr r e).2), hs.2.1.keptc hg (fun r e => (hr r e).2), hs.2.2.keptb hg (fun r e => by have := (hr r e).1; omega)⟩) ⟨q4, q5, q6⟩
    have y4 := hfn.1.cell
    have y5 := hfn.2.1.cell
    refine ⟨.tuple #[.slice none 0 0, .int .i64 2], ?_, ?_⟩
    · rw [results_cc rfl]; simp [asAddr, Result.andThen, y4, y5, go_sem]
    · rw [HR.out]
      exact ⟨hfn.2.2, rfl⟩

end Go.Proofs.YtbgdglcnminbaaaGreat

namespace Go.Proofs.YtbgdglcnminbaaaGreat
set_option linter.unusedVariables false
set_option linter.unusedSimpArgs false
open Go.RowKit Go.Shelf
attribute [local go_sem] Oper.semAt_some

def boolV (l : List Bool) : Array Value := (l.map Value.bool).toArray
theorem boolV_get {l : List Bool} {i : Nat} (h : i < l.length) : (boolV l)[i]? = some (.bool l[i]) := by
  unfold boolV
  simp [h]
theorem boolV_set {l : List Bool} {i : Nat} (v : Bool) : (boolV l).setIfInBounds i (.bool v) = boolV (l.set i v) := by
  unfold boolV
  apply Array.ext_getElem?
  intro k
  simp only [Array.getElem?_setIfInBounds, List.getElem?_toArray, List.size_toArray, List.length_map, List.getElem?_map, List.getElem?_set]
  by_cases e : i = k
  · subst e
    by_cases h : i < l.length <;> simp [h]
  · simp [e]
/-- A tree's branches. -/
def TreeK (p : Pln) (l : List Br) : Prop := ∀ k, k < l.length → InB p (gbr l k) ∧ -1 ≤ (gbr l k).par ∧ (gbr l k).par < k
theorem TreeK.up {p : Pln} {l : List Br} (T : TreeK p l) : ∀ (k : Nat), k ≤ l.length → ∀ x ∈ upN l k, 0 ≤ x ∧ x < l.length
  | 0, _, x, h => by rw [upN_0] at h; cases h
  | k + 1, hk, x, h => by
    obtain ⟨t1, t2, t3⟩ := T k (by omega)
    rw [upN_s, if_neg (by omega)] at h
    rcases List.mem_cons.1 h with rfl | h
    · omega
    · exact T.up ((gbr l k).par + 1).toNat (by omega) x h
theorem mErr_all {p : Pln} {q : Req} {l : List Br} : ∀ {n : Nat}, p.mErr q l n = 0 → ∀ k, k < n → p.brE q l k (p.mAt q l k) = 0
  | 0, _, k, h => by omega
  | n + 1, h, k, hk => by
    have h2 : p.mErr q l (n + 1) = if p.mErr q l n = 0 then p.brE q l n (p.mAt q l n) else p.mErr q l n := rfl
    rw [h2] at h
    split at h
    · rename_i h0
      by_cases e : k = n
      · subst e; exact h
      · exact mErr_all h0 k (by omega)
    · rename_i h0; exact absurd h h0
theorem mchk_ok {p : Pln} {q : Req} {mem : List Int} {l : List Br} (h : p.mchk q mem l = 0) : fineR p q = true ∧ memsB p.quo.length q.src mem = true ∧ l.length ≤ 16 ∧ p.mErr q l l.length = 0 ∧ ∀ m ∈ mem, 0 ≤ gi (p.mAt q l l.length) m := by
  unfold Pln.mchk at h
  split at h
  · rename_i h0
    split at h
    · cases h
    · split at h
      · rename_i h1 h2
        split at h
        · cases h
        · rename_i h3
          refine ⟨h0.1, h0.2, by omega, h2, fun m hm => ?_⟩
          simp only [List.any_eq_true, decide_eq_true_eq, not_exists, not_and] at h3
          have := h3 m hm
          omega
      · rename_i h1; exact absurd h h1
  · cases h
theorem mchk_tree {p : Pln} {q : Req} {mem : List Int} {l : List Br} (h : p.mchk q mem l = 0) : TreeK p l := by
  intro k hk
  have h1 := mErr_all (mchk_ok h).2.2.2.1 k hk
  unfold Pln.brE at h1
  split at h1
  · cases h1
  · unfold InB
    omega
/-- Which branches the members need. -/
def Pln.nee1 (p : Pln) (l : List Br) (nd : List Bool) (m : Int) : List Bool := (upN l (p.lead l m + 1).toNat).foldl (fun nd k => nd.set k.toNat true) nd
def Pln.nee (p : Pln) (l : List Br) (mem : List Int) : List Bool := mem.foldl (p.nee1 l) (List.replicate l.length false)
/-- The branches that stay, and their numbers. -/
def prS (l : List Br) (nd : List Bool) : Nat → List Br × List Int
  | 0 => ([], List.replicate l.length 0)
  | k + 1 => if nd.getD k false = true then
      ((prS l nd k).1 ++ [{ gbr l k with par := if 0 ≤ (gbr l k).par then gi (prS l nd k).2 (gbr l k).par else (gbr l k).par }], (prS l nd k).2.set k (prS l nd k).1.length) else prS l nd k
def Pln.prune (p : Pln) (l : List Br) (mem : List Int) : List Br := (prS l (p.nee l mem) l.length).1

theorem info_boolm : (Tryz.prog.info? 4).map (fun i => (i.zero, i.size, i.bytes)) = some (some (.bool false), 1, 1) := by kernel_rfl
/-- At the head of the loop over the members. -/
def NRel (p : Pln) (l : List Br) (mem : List Int) (w1 : World) (n : Nat) (u : Value) (ds : List Deferred) (wr : World) : Prop :=
  ∃ j : Nat, j + n = mem.length ∧ u = .int .i64 j ∧ Blk wr w1.heap.size 4 (boolV ((mem.take j).foldl (p.nee1 l) (List.replicate l.length false))) ∧ Blk wr (w1.heap.size + 1) 82 #[.slice (some ⟨w1.heap.size, 0, none⟩) l.length l.length] ∧ Ext w1 wr ∧ DSx wr.heap.size w1.heap.size ds wr
/-- Between two rounds on the way up. -/
def NRl (l : List Br) (k0 : Nat) (nd : List Bool) (w1 : World) (B0 B : Nat) (ds : List Deferred) (pre : List (UpX l k0)) (W : World) : Prop :=
  Blk W w1.heap.size 4 (boolV ((unU pre).foldl (fun nd k => nd.set k.toNat true) nd)) ∧ Blk W (w1.heap.size + 1) 82 #[.slice (some ⟨w1.heap.size, 0, none⟩) l.length l.length] ∧ Ext w1 W ∧ DSx B0 w1.heap.size ds W ∧ B ≤ W.heap.size
theorem nrl_own {l : List Br} {k0 : Nat} {nd : List Bool} {w1 : World} {B0 B : Nat} {ds : List Deferred} (h1 : w1.heap.size ≤ B) (h2 : B0 ≤ B) : OwnFrom B (NRl l k0 nd w1 B0 B ds) := by
  intro pre X Y row hs hg hr
  obtain ⟨q1, q2, q3, q4, q5⟩ := hs
  have hr2 := fun r e => (hr r e).2
  exact ⟨q1.keptc hg hr2, q2.keptc hg hr2, q3.keptb hg (fun r e => Nat.le_trans h1 (hr r e).1), q4.kept hg (fun r e => Nat.le_trans h2 (hr r e).1), Nat.le_trans q5 hg.size⟩
theorem nrl_ab {l : List Br} {k0 : Nat} {nd : List Bool} {w1 : World} {B0 B Bi : Nat} {ds : List Deferred} (h1 : w1.heap.size + 2 ≤ Bi) (h2 : B0 ≤ Bi) : AbW Bi (NRl l k0 nd w1 B0 B ds) := by
  intro pre X Y hs hg
  obtain ⟨q1, q2, q3, q4, q5⟩ := hs
  have hn : ∀ k, k < Bi → some k ≠ some Bi := fun k hk e => by injection e; omega
  exact ⟨q1.kept hg (hn _ (by omega)), q2.kept hg (hn _ (by omega)), q3.keptb hg (fun r e => by injection e with e; omega), q4.kept hg (fun r e => by injection e with e; omega), Nat.le_trans q5 hg.size⟩
theorem nee_len : ∀ (ks : List Int) (nd : List Bool), (ks.foldl (fun nd k => nd.set k.toNat true) nd).length = nd.length
  | [], _ => rfl
  | k :: ks, nd => by rw [List.foldl_cons, nee_len ks, List.length_set]
theorem neeM_len {p : Pln} {l : List Br} : ∀ (ms : List Int) (nd : List Bool), (ms.foldl (p.nee1 l) nd).length = nd.length
  | [], _ => rfl
  | m :: ms, nd => by rw [List.foldl_cons, neeM_len ms]; exact nee_len _ _
theorem nrl_put {l : List Br} {k0 : Nat} {nd : List Bool} {w1 : World} {B0 B : Nat} {ds : List Deferred} {pre : List (UpX l k0)} {x : UpX l k0} {W : World} (h : NRl l k0 nd w1 B0 B ds pre W) (hB : w1.heap.size + 2 ≤ B) :
    KeepsFrom B W (W.setCell ⟨w1.heap.size, x.1.toNat, none⟩ (.bool true)) ∧ KpZ B w1.heap.size (w1.heap.size + 1) W (W.setCell ⟨w1.heap.size, x.1.toNat, none⟩ (.bool true)) ∧ NRl l k0 nd w1 B0 B ds (pre ++ [x]) (W.setCell ⟨w1.heap.size, x.1.toNat, none⟩ (.bool true)) := by
  obtain ⟨q1, q2, q3, q4, q5⟩ := h
  refine ⟨(KeepsOthers.setCell _ _ _).from _, KpZ.setCell _ ⟨by omega, by omega⟩ _ _, ?_, q2.far (by simp) _, q3.setCell (Nat.le_refl _) _, q4.setCell _ _, by simpa [World.setCell] using q5⟩
  rw [unU_snoc, List.foldl_append]
  show Blk _ _ _ (boolV (List.set _ _ _))
  rw [← boolV_set]
  exact q1.set_ _ _

theorem prS_len (l : List Br) (nd : List Bool) : ∀ k, (prS l nd k).2.length = l.length
  | 0 => by simp [prS]
  | k + 1 => by
    unfold prS
    split
    · rw [List.length_set]; exact prS_len l nd k
    · exact prS_len l nd k
theorem prS_out (l : List Br) (nd : List Bool) : ∀ k, (prS l nd k).1.length ≤ k
  | 0 => by simp [prS]
  | k + 1 => by
    have := prS_out l nd k
    unfold prS
    split
    · simp; omega
    · omega
theorem results_tmp2' {fn : Func} {a b : Tmp} (h : fn.results = #[.tmp a, .tmp b]) (tmps : Array Value) (P : Program) (w : World) : (results fn tmps).run P w = .ok (.tuple #[tmps.getD a undef, tmps.getD b undef]) w := by
  simp only [results, h]
  simp [Sem.run_bind, Result.andThen]
theorem findI_bd {α : Type} (f : α → Bool) (l : List α) : -1 ≤ findI f l ∧ findI f l < l.length := by
  unfold findI
  split
  · rename_i h
    have := List.findIdx_lt_length.2 (by simpa using List.any_eq_true.1 h)
    omega
  · omega
theorem lead_bd (p : Pln) (l : List Br) (m : Int) : -1 ≤ p.lead l m ∧ p.lead l m < l.length := findI_bd _ _

set_option maxRecDepth 100000 in
set_option maxHeartbeats 4000000 in
theorem Prune_any (Aq : Option Addr) (cq : Nat) (Ac : Option Addr) (cc : Nat) (p : Pln) (q : Req) (Am : Option Addr) (cm : Nat) (mem : List Int) (Al : Option Addr) (cl : Nat) (l : List Br) (w : World) (h : PlnRd w Aq cq Ac cc p) (hmm : Rd EInt w Am mem) (hml : mem.length ≤ 1000000) (hl : Rd EBr w Al l) (hlm : l.length ≤ 1000000) :
    Calls Tryz.prog 15 #[p.val Aq cq Ac cc, q.val, .slice Am mem.length cm, .slice Al l.length cl] w fun e w' => Ext w w' ∧ ((p.mchk q mem l = 0 ∧ ∃ v, e = .returned (.tuple #[v, .int .i64 0]) ∧ Owns EBr w' w.heap.size 57 v (p.prune l mem)) ∨ (p.mchk q mem l ≠ 0 ∧ e = .returned (.tuple #[.slice none 0 0, .int .i64 (p.mchk q mem l)]))) := by
  obtain ⟨i0, hi0, hz0, hz1, hz2⟩ := info_parts info_boolm
  obtain ⟨ii, hii, hiz, hi1, hi2⟩ := info_parts info_int
  obtain ⟨j0, hj0, hy0, hy1, hy2⟩ := info_parts info_br
  obtain ⟨W0, hW0, hB0, hkp, hkq, hlp, hlq⟩ := box2 w #[.slice Aq p.quo.length cq, .slice Ac p.cons.length cc] q.cells 25 31
  simp only [Req.cells] at hW0 hkq
  have hch := mCheck_any Aq cq Ac cc p q Am cm mem Al cl l W0 (h.ext hB0) (hmm.ext hB0) hml (hl.ext hB0) hlm
  have c0 := hkp.cell
  have c1 := hkq.cell
  by_cases hk : p.mchk q mem l = 0
  case neg =>
    have d0 : (p.mchk q mem l != 0) = true := by simpa using hk
    have Hk := Lib.hid hk
    clear hk
    unfold Pln.val Req.val at hch ⊢
    go_enter Tryz.func15, Tryz.ntmps15
    go_wp2_with fail
    clear hW0
    refine hch.mono ?_
    rintro e w1 ⟨rfl, hb1⟩
    go_wp2_with fail
    go_ret2
    exact ⟨hB0.trans hb1, .inr ⟨Hk.out, rfl⟩⟩
  have HTr := Lib.hid (mchk_tree hk)
  have hll := (mchk_ok hk).2.2.1
  have Hk := Lib.hid hk
  rw [hk] at hch
  clear hk
  unfold Pln.val Req.val at hch ⊢
  refine (callsIn_wide (n := 5)).1 ?_
  refine callsIn_of_wp_marks Tryz.func15 rfl trivial ?_ rfl
  refine wpIn_wide.2 ?_
  refine Code.wp_mono NoPanic.imp ?_
  simp only [Tryz.ntmps15, List.size_toArray, List.length_cons, List.length_nil, Nat.reduceAdd, Nat.reduceSub, Array.replicate_succ, Array.replicate_zero, List.push_toArray, List.append_toArray, List.nil_append, List.cons_append]
  go_wp2_with fail
  clear hW0
  refine hch.mono ?_
  clear hch
  rintro e w1 ⟨rfl, hb1⟩
  have hmk := fun w => run_make1 (n := l.length) Tryz.underlying82 hi0 hz0 hz1 (by omega) rfl hlm w
  have hmi := fun w => run_make1 (n := l.length) Tryz.underlying22 hii hiz hi1 (by omega) rfl hlm w
  obtain ⟨W2, hW2, hB2, hk2, hl2⟩ := box1 w1 (Array.replicate l.length (.bool false)) 4
  have s2 : W2.heap.size = w1.heap.size + 1 := by rw [← hW2]; simp
  obtain ⟨W3, hW3, hB3, hk3, hl3⟩ := box1 W2 #[.slice (some ⟨w1.heap.size, 0, none⟩) l.length l.length] 82
  have s3 : W3.heap.size = w1.heap.size + 2 := by rw [← hW3]; simp [s2]
  rw [s2] at hk3
  have S2 := Lib.hid s2
  have S3 := Lib.hid s3
  clear s2 s3 c0 c1
  go_wp2_with fail
  rw [S2.out]
  clear hW2 hW3
  have hnee0 : boolV (List.replicate l.length false) = Array.replicate l.length (.bool false) := by simp [boolV]
  rw [← hnee0] at hk2
  clear hnee0
  have kp3 := ((hkp.ext hb1).ext hB2).ext hB3
  have kn3 := hk2.ext hB3
  have x1 := hB0.trans hb1
  have kp1 := hkp.ext hb1
  refine wp_loop_ghost_k (fun n a wr => ∃ (u13 u32 u46 u33 u34 u35 u36 u37 u38 u39 u40 u41 : Value) (ds : List Deferred), NRel p l mem w1 n u32 ds wr ∧
    a = { tmps := #[.agg #[.slice Aq p.quo.length cq, .slice Ac p.cons.length cc], .agg #[.int .i64 q.src, .int .i64 q.dst, .int .i64 q.size, .int .i64 q.ready, .int .i64 q.dead, .int .i64 q.prio, .bool q.cust], .slice Am mem.length cm, .slice Al l.length cl, .pointer (some ⟨w.heap.size, 0, none⟩), .pointer (some ⟨w.heap.size + 1, 0, none⟩), undef, undef, .slice none 0 0, .int .i64 0, .int .i64 0, .pointer (some ⟨w1.heap.size + 1, 0, none⟩), undef, u13, undef, undef, undef, undef, undef, .agg #[.slice Aq p.quo.length cq, .slice Ac p.cons.length cc], .agg #[.int .i64 q.src, .int .i64 q.dst, .int .i64 q.size, .int .i64 q.ready, .int .i64 q.dead, .int .i64 q.prio, .bool q.cust], .slice Am mem.length cm, .slice Al l.length cl, .int .i64 0, .int .i64 0, .bool false, undef, .slice Al l.length cl, .int .i64 l.length, .slice (some ⟨w1.heap.size, 0, none⟩) l.length l.length, .slice Am mem.length cm, .int .i64 mem.length, u32, u33, u34, u35, u36, u37, u38, u39, u40, u41, undef, undef, undef, undef, u46, undef, undef, undef, undef, undef, undef, undef, undef, undef, undef, undef, undef, undef, undef, undef, undef, undef, undef, undef, undef, undef, undef, undef, undef, undef, undef, undef, undef, undef, undef, undef, undef, undef, undef, undef], defers := ds }) mem.length ?_ ?_
  · exact ⟨_, _, _, _, _, _, _, _, _, _, _, _, [], ⟨0, by omega, rfl, kn3, hk3, hB2.trans hB3, DSx.nil _ _ _⟩, rfl⟩
  · intro gk _ wr hinv
    obtain ⟨u13, u32, u46, u33, u34, u35, u36, u37, u38, u39, u40, u41, ds, hrel, ha⟩ := hinv
    subst ha
    intro _ _ _ _
    obtain ⟨j, hjk, rfl, kn, kb, hE, hds⟩ := hrel
    have Hjk := Lib.hid hjk
    have hjN : j ≤ mem.length := by omega
    clear hjk
    have hEw := x1.trans hE
    have kp := kp1.ext hE
    have s0 := kp.cell
    have s1 := kp.lt
    have sb := kb.lt
    by_cases hlt : j < mem.length
    case pos =>
      obtain ⟨bm, om, rfl, hbm, g1⟩ := (hmm.ext hEw).int hlt
      have Hst := Lib.hid (show (mem.take (j + 1)).foldl (p.nee1 l) (List.replicate l.length false) = p.nee1 l ((mem.take j).foldl (p.nee1 l) (List.replicate l.length false)) mem[j] by
        rw [take_snoc hlt rfl, List.foldl_append]; rfl)
      generalize hme : mem[j] = m at *
      clear hme
      have hle := fun w h hA => leading_any Aq cq Ac cc p Al cl l m w h hA hlm (fun b hb => by
        obtain ⟨i, hi, rfl⟩ := List.getElem_of_mem hb
        have := (HTr.out i hi).1
        rwa [gbr_get hi] at this)
      unfold Pln.val at hle
      have hLd := Lib.hid (lead_bd p l m)
      obtain ⟨lead, hlead⟩ : ∃ lead, p.lead l m = lead := ⟨_, rfl⟩
      rw [hlead] at hLd hle
      have Hlead := Lib.hid hlead
      clear hlead
      have hnl : ((mem.take j).foldl (p.nee1 l) (List.replicate l.length false)).length = l.length := by rw [neeM_len]; simp
      generalize (mem.take j).foldl (p.nee1 l) (List.replicate l.length false) = nd at *
      go_wp2_with fail
      refine (hle _ (h.ext hEw) (hl.ext hEw)).mono ?_
      clear hle
      rintro e w4 ⟨rfl, hb4⟩
      go_wp2_with fail
      refine (up_any Al l.length cl lead w4).mono ?_
      rintro e w5 ⟨rfl, hb5, hs5, z1, z2⟩
      have hb45 := hb4.trans hb5
      have hs4 := hb4.size
      have hE5 := hE.trans hb45
      obtain ⟨k0, hk0⟩ : ∃ k0 : Nat, lead = (k0 : Int) - 1 := ⟨(lead + 1).toNat, by have := hLd.out; omega⟩
      have hk0l : k0 ≤ l.length := by have := hLd.out; omega
      have Hk0 := Lib.hid hk0
      have z2' : Blk w5 (w4.heap.size + 1) 3 #[.int .i64 ((k0 : Int) - 1)] := by rw [← hk0]; exact z2
      have Hk02 := Lib.hid (show (lead + 1).toNat = k0 by omega)
      have hs1w := hb1.size
      have hsB0 := hB0.size
      clear hk0
      go_wp2_with fail
      refine (wpIn_wide (n := 5)).1 ?_
      refine wpIn_rangeW rfl (by omega) (gf := 60) (lb := #[.pointer (some ⟨w4.heap.size + 1, 0, none⟩), .pointer (some ⟨w4.heap.size, 0, none⟩)]) rfl trivial (enters_of Tryz.func60 (by kernel_rfl) rfl)
        (up_stops w4.heap.size (w4.heap.size + 1) w5.heap.size w1.heap.size (w1.heap.size + 1) Al cl l k0 w w5 hl hlm hk0l (x1.trans hE5) (by omega) (by omega) (by omega) z1 z2' ⟨by omega, .inr (by omega), by omega⟩ ⟨by omega, .inr (by omega)⟩) (by omega)
        KpZ.trans (fun W l o o' hl _ _ => KpZ.put W l o' hl) (Below.refl _ _) (fun _ => rfl)
        (NRl l k0 nd w1 wr.heap.size w5.heap.size ds) (fun _ _ _ => False) (nrl_own (by omega) (by omega)) (fun _ _ _ _ _ hs _ _ => hs) (nrl_ab (by omega) (by omega)) (fun _ _ _ _ hs _ => hs)
        ⟨kn.ext hb45, kb.ext hb45, hE5, hds.ext hb45, Nat.le_refl _⟩
        (fun x => { tmps := #[.agg #[.slice Aq p.quo.length cq, .slice Ac p.cons.length cc], .agg #[.int .i64 q.src, .int .i64 q.dst, .int .i64 q.size, .int .i64 q.ready, .int .i64 q.dead, .int .i64 q.prio, .bool q.cust], .slice (some ⟨bm, om, none⟩) mem.length cm, .slice Al l.length cl, .pointer (some ⟨w.heap.size, 0, none⟩), .pointer (some ⟨w.heap.size + 1, 0, none⟩), undef, undef, .slice none 0 0, .int .i64 0, .int .i64 0, .pointer (some ⟨w1.heap.size + 1, 0, none⟩), undef, .int .i64 m, .int .i64 x.1, undef, undef, undef, undef, .agg #[.slice Aq p.quo.length cq, .slice Ac p.cons.length cc], .agg #[.int .i64 q.src, .int .i64 q.dst, .int .i64 q.size, .int .i64 q.ready, .int .i64 q.dead, .int .i64 q.prio, .bool q.cust], .slice (some ⟨bm, om, none⟩) mem.length cm, .slice Al l.length cl, .int .i64 0, .int .i64 0, .bool false, undef, .slice Al l.length cl, .int .i64 l.length, .slice (some ⟨w1.heap.size, 0, none⟩) l.length l.length, .slice (some ⟨bm, om, none⟩) mem.length cm, .int .i64 mem.length, .int .i64 j, .bool true, .pointer (some ⟨bm, om + j, none⟩), .int .i64 m, .slice Al l.length cl, .agg #[.slice Aq p.quo.length cq, .slice Ac p.cons.length cc], .slice Al l.length cl, .int .i64 m, .int .i64 lead, .func (.func 60) #[] #[.pointer (some ⟨w4.heap.size + 1, 0, none⟩), .pointer (some ⟨w4.heap.size, 0, none⟩)], .int .i64 x.1, undef, undef, undef, u46, undef, undef, undef, undef, undef, undef, undef, undef, undef, undef, undef, undef, undef, undef, undef, undef, undef, undef, undef, undef, undef, undef, undef, undef, undef, undef, undef, undef, undef, undef, undef, undef, undef, undef, undef], defers := [] }) ?assign ?body ?done ?stop
      case assign =>
        intro li x W K hK
        simp only [upV]
        gi_wp2
        exact hK
      case body =>
        rintro li pre x W hNR hlen
        have hput := nrl_put (x := x) hNR (by omega)
        have Hput := Lib.hid hput
        obtain ⟨q1, q2, q3, q4, q5⟩ := hNR
        have hxm := HTr.out.up k0 hk0l _ x.2
        obtain ⟨n, hn⟩ : ∃ n : Nat, x.1 = (n : Int) := ⟨x.1.toNat, by omega⟩
        rw [hn] at Hput ⊢
        have hnl2 : n < l.length := by omega
        have f1 := q1.cell n
        rw [boolV_get (by rw [nee_len, hnl]; omega)] at f1
        have f2 := q1.lt
        have f3 := q1.frozen
        have f4 := q2.cell
        have f5 := q2.lt
        simp only [Int.toNat_natCast] at Hput
        clear hput hn hxm
        gi_wp2
        exact Hput.out
      case done =>
        rintro D ys W hDD hS ⟨q1, q2, q3, q4, q5⟩ hK
        rw [hS, ← Hk02.out, ← Hlead.out] at q1
        change Blk W w1.heap.size 4 (boolV (p.nee1 l nd m)) at q1
        rw [← Hst.out] at q1
        have hd2 := q4.cons (D := D) (by omega) (by omega) hK
        clear hS
        go_wp2_with fail
        go_roundg (mem.length - (j + 1))
        case measure => have := Hjk.out; omega
        case rel => exact ⟨j + 1, by omega, by go_num, q1, q2, q3, hd2⟩
      case stop =>
        rintro D c pre W _ _ h _
        exact h.elim
    case neg =>
      obtain rfl : j = mem.length := by omega
      rw [List.take_length] at kn
      have hnl : (mem.foldl (p.nee1 l) (List.replicate l.length false)).length = l.length := by rw [neeM_len]; simp
      have Hpr := Lib.hid (show p.prune l mem = (prS l (mem.foldl (p.nee1 l) (List.replicate l.length false)) l.length).1 from rfl)
      generalize mem.foldl (p.nee1 l) (List.replicate l.length false) = nd at *
      obtain ⟨W6, hW6, hB6, hk6, hl6⟩ := box1 wr (Array.replicate l.length (.int .i64 0)) 3
      have hz : arrV (List.replicate l.length 0) = Array.replicate l.length (.int .i64 0) := by simp [arrV]
      rw [← hz] at hk6
      have S6 := Lib.hid (show W6.heap.size = wr.heap.size + 1 by rw [← hW6]; simp)
      clear hz hlt
      go_wp2_with fail
      clear hW6
      obtain ⟨wo, rfl⟩ : ∃ wo, wo = wr := ⟨_, rfl⟩
      obtain ⟨gq, rfl⟩ : ∃ gq, gq = gk := ⟨_, rfl⟩
      go_loopg [15, 52] l.length (fun n u x wr => ∃ k : Nat, k + n = l.length ∧ x = .int .i64 k ∧ Owns EBr wr W6.heap.size 57 u (prS l nd k).1 ∧ Blk wr wo.heap.size 3 (arrV (prS l nd k).2) ∧ Ext wo wr ∧ W6.heap.size ≤ wr.heap.size)
      case atStart => exact ⟨0, by omega, rfl, Owns.none_ _ _, hk6, hB6, Nat.le_refl _⟩
      case round =>
        obtain ⟨k, hkn, rfl, ou, ki, hx, hxs⟩ := hrel
        have Hkn := Lib.hid hkn
        have hkN : k ≤ l.length := by omega
        clear hkn
        have kbr := kb.ext hx
        have knr := kn.ext hx
        have hEr := hE.trans hx
        have h6 := S6.out
        have s2 := kbr.cell
        have s3 := kbr.lt
        have s5 := knr.lt
        have s6 := ki.lt
        have s7 := ki.frozen
        by_cases hlt2 : k < l.length
        case neg =>
          obtain rfl : k = l.length := by omega
          rw [← Hpr.out] at ou
          have hds2 := hds.ext hx
          clear s0 s1 s2 s3 s5 s6 s7 sb
          go_wp2_with fail
          show LeavesInM _ _ _ _ _ _ ds .returning _
          refine hds2.leaves ?_
          intro w' hw'
          have hfin := hw' (fun W => Owns EBr W W6.heap.size 57 _ (p.prune l mem) ∧ Ext w W)
            (fun s X Y row hs hg hr => ⟨hs.1.keptc hg (fun r e => (hr r e).2), hs.2.keptb hg (fun r e => Nat.le_trans x1.size (hr r e).1)⟩) ⟨ou, x1.trans hEr⟩
          exact ⟨_, results_tmp2' rfl _ _ _, hfin.2, .inl ⟨Hk.out, _, rfl, hfin.1.mono (by have := hEw.size; omega)⟩⟩
        case pos =>
          obtain ⟨b, o, rfl, hb, c0, c1, c2, c3, c4⟩ := (hl.ext (x1.trans hEr)).br hlt2
          have hp := (HTr.out k hlt2).2
          have Hst := Lib.hid (show prS l nd (k + 1) = if nd.getD k false = true then ((prS l nd k).1 ++ [{ gbr l k with par := if 0 ≤ (gbr l k).par then gi (prS l nd k).2 (gbr l k).par else (gbr l k).par }], (prS l nd k).2.set k (prS l nd k).1.length) else prS l nd k from rfl)
          have hgd : nd.getD k false = nd[k]'(by omega) := by simp [hnl, hlt2]
          rw [hgd] at Hst
          rw [gbr_get hlt2] at hp Hst
          have f1 := knr.cell k
          rw [boolV_get (by omega)] at f1
          have hil : (prS l nd k).2.length = l.length := prS_len _ _ _
          have hol := prS_out l nd k
          generalize l[k] = y at *
          generalize prS l nd k = S at *
          obtain ⟨W7, hW7, hB7, hk7, hl7⟩ := box1 wr #[.int .i64 y.con, .int .i64 y.beg, .int .i64 y.en, .int .i64 y.arr, .int .i64 y.par] 57
          have k7 := hk7.cell
          have s2' := (kbr.ext hB7).cell
          have s3' := (kbr.ext hB7).lt
          have s5' := (knr.ext hB7).lt
          have f1' := ((knr.ext hB7).cell k).trans ((knr.cell k).symm.trans f1)
          obtain ⟨nk, hnk⟩ : ∃ nk, nd[k]'(by omega) = nk := ⟨_, rfl⟩
          rw [hnk] at f1' f1 Hst
          clear hnk hgd s0 s1 s2 s3 s5 sb f1
          cases nk with
          | false =>
            go_wp2_with fail
            go_roundg (gk - 1)
            case measure => have := Hkn.out; omega
            case rel => exact ⟨k + 1, by have := Hkn.out; omega, by go_num, by rw [Hst.out, if_neg (by decide)]; exact ou.ext hB7, by rw [Hst.out, if_neg (by decide)]; exact ki.ext hB7, hx.trans hB7, by have := hB7.size; omega⟩
          | true =>
            by_cases hp0 : 0 ≤ y.par
            case neg =>
              have dp : decide (0 ≤ y.par) = false := decide_eq_false hp0
              replace Hst := Lib.hid (Hst.out.trans (by rw [if_pos rfl, if_neg hp0]))
              clear hp0
              obtain ⟨Au, cu, rfl, hRu⟩ := ou.form
              have kix' := (ki.ext hB7).cell k
              rw [arrV_get (by omega)] at kix'
              have kil := (ki.ext hB7).lt
              have kif := (ki.ext hB7).frozen
              go_upto_region 20 with fail
              have kix := ki.ext hB7
              have t1 := (kix.cell k).trans (arrV_get (by omega))
              have t2 := kix.lt
              have t3 := kix.frozen
              have oux := ou.ext hB7
              have hszx := hB7.size
              obtain ⟨W8, hW8, ki8, hk8, ou8, hE8⟩ : ∃ W8, W7.setCell ⟨wo.heap.size, k, none⟩ (.int .i64 S.1.length) = W8 ∧ Blk W8 wo.heap.size 3 (arrV (S.2.set k S.1.length)) ∧ Blk W8 wr.heap.size 57 #[.int .i64 y.con, .int .i64 y.beg, .int .i64 y.en, .int .i64 y.arr, .int .i64 (y.par)] ∧ Owns EBr W8 W6.heap.size 57 (.slice Au S.1.length cu) S.1 ∧ Ext wo W8 :=
                ⟨_, rfl, by rw [← arrV_set]; exact kix.set_ _ _, hk7.far (by simp; omega) _, oux.kept (grown_setCell (World.grownBy.refl W7 (some wo.heap.size)) _ _) (fun g hgg e' => by injection e' with e'; have := (oux.block hgg).1; omega), (hx.trans hB7).setCell (Nat.le_refl _) _⟩
              have k8 := hk8.cell
              have l8 := hk8.lt
              have hs8 : W6.heap.size ≤ W8.heap.size := by rw [← hW8]; simp [World.setCell]; omega
              go_wp2_with (at_builtin; refine wpList_push rfl (.tmp 76) (.tmp 78) _ (by rfl) W6.heap.size 57 j0 _ 40 Tryz.underlying34 hj0 hy0 hy1 hy2 (by rfl) (.slice Au S.1.length cu) (by rfl) (ou8.ext ((Ext.refl _).alloc _)) W8.heap.size ⟨y.con, y.beg, y.en, y.arr, y.par⟩ (by rfl) (Blk.new W8 _ _) (by simp only [maxLen]; omega) (by omega) (by simp; omega) ?_; intro v6 w6 hv6 hg6 hat6; have hx6 := ext_grown (hE8.alloc _) (ou8.ext ((Ext.refl _).alloc _)) (by omega) hg6)
              have hb6 : ∀ r, (Value.slice Au S.1.length cu).ownBlock = some r → W6.heap.size ≤ r := fun r e => (ou8.block e).1
              have ki6 := (ki8.ext ((Ext.refl _).alloc _)).kept hg6 (fun e' => by have := hb6 _ e'.symm; omega)
              go_roundg (gk - 1)
              case measure => have := Hkn.out; omega
              case rel => exact ⟨k + 1, by have := Hkn.out; omega, by go_num, by rw [Hst.out]; exact hv6, by rw [Hst.out]; exact ki6, hx6, by have := hg6.size; simp at this; omega⟩
            case pos =>
              have dp : decide (0 ≤ y.par) = true := decide_eq_true hp0
              replace Hst := Lib.hid (Hst.out.trans (by rw [if_pos rfl, if_pos hp0]))
              obtain ⟨Au, cu, rfl, hRu⟩ := ou.form
              have hp1 : y.par.toNat < l.length := by omega
              have kix' := (ki.ext hB7).cell y.par.toNat
              rw [arrV_get (by omega), show ((y.par.toNat : Nat) : Int) = y.par by omega] at kix'
              have kil := (ki.ext hB7).lt
              have f7 := hk7.frozen
              have hp2 : y.par < l.length := by omega
              obtain ⟨Wy, hWy, hky, hBy⟩ : ∃ Wy, W7.setCell ⟨wr.heap.size, 4, none⟩ (.int .i64 (gi S.2 y.par)) = Wy ∧ Blk Wy wr.heap.size 57 #[.int .i64 y.con, .int .i64 y.beg, .int .i64 y.en, .int .i64 y.arr, .int .i64 (gi S.2 y.par)] ∧ Ext wr Wy :=
                ⟨_, rfl, hk7.set_ 4 _, hB7.setCell (Nat.le_refl _) _⟩
              go_upto_region 20 with fail
              clear hWy hW7 kix' f7
              have kix := ki.ext hBy
              have t1 := (kix.cell k).trans (arrV_get (by omega))
              have t2 := kix.lt
              have t3 := kix.frozen
              have oux := ou.ext hBy
              have hszx := hBy.size
              obtain ⟨W8, hW8, ki8, hk8, ou8, hE8⟩ : ∃ W8, Wy.setCell ⟨wo.heap.size, k, none⟩ (.int .i64 S.1.length) = W8 ∧ Blk W8 wo.heap.size 3 (arrV (S.2.set k S.1.length)) ∧ Blk W8 wr.heap.size 57 #[.int .i64 y.con, .int .i64 y.beg, .int .i64 y.en, .int .i64 y.arr, .int .i64 (gi S.2 y.par)] ∧ Owns EBr W8 W6.heap.size 57 (.slice Au S.1.length cu) S.1 ∧ Ext wo W8 :=
                ⟨_, rfl, by rw [← arrV_set]; exact kix.set_ _ _, hky.far (by simp; omega) _, oux.kept (grown_setCell (World.grownBy.refl Wy (some wo.heap.size)) _ _) (fun g hgg e' => by injection e' with e'; have := (oux.block hgg).1; omega), (hx.trans hBy).setCell (Nat.le_refl _) _⟩
              have k8 := hk8.cell
              have l8 := hk8.lt
              have hs8 : W6.heap.size ≤ W8.heap.size := by rw [← hW8]; simp [World.setCell]; omega
              go_wp2_with (at_builtin; refine wpList_push rfl (.tmp 76) (.tmp 78) _ (by rfl) W6.heap.size 57 j0 _ 40 Tryz.underlying34 hj0 hy0 hy1 hy2 (by rfl) (.slice Au S.1.length cu) (by rfl) (ou8.ext ((Ext.refl _).alloc _)) W8.heap.size ⟨y.con, y.beg, y.en, y.arr, gi S.2 y.par⟩ (by rfl) (Blk.new W8 _ _) (by simp only [maxLen]; omega) (by omega) (by simp; omega) ?_; intro v6 w6 hv6 hg6 hat6; have hx6 := ext_grown (hE8.alloc _) (ou8.ext ((Ext.refl _).alloc _)) (by omega) hg6)
              have hb6 : ∀ r, (Value.slice Au S.1.length cu).ownBlock = some r → W6.heap.size ≤ r := fun r e => (ou8.block e).1
              have ki6 := (ki8.ext ((Ext.refl _).alloc _)).kept hg6 (fun e' => by have := hb6 _ e'.symm; omega)
              go_roundg (gk - 1)
              case measure => have := Hkn.out; omega
              case rel => exact ⟨k + 1, by have := Hkn.out; omega, by go_num, by rw [Hst.out]; exact hv6, by rw [Hst.out]; exact ki6, hx6, by have := hg6.size; simp at this; omega⟩

end Go.Proofs.YtbgdglcnminbaaaGreat

namespace Go.Proofs.YtbgdglcnminbaaaGreat
set_option linter.unusedVariables false
open Go.RowKit

/-- The node of a branch. -/
def Pln.nd (p : Pln) (l : List Br) (k : Nat) : Int := (gc p.cons (gbr l k).con).dst
structure BrV (p : Pln) (q : Req) (l : List Br) (k : Nat) : Prop where
  con0 : 0 ≤ (gbr l k).con
  con1 : (gbr l k).con < p.cons.length
  par0 : -1 ≤ (gbr l k).par
  par1 : (gbr l k).par < k
  ok : (gc p.cons (gbr l k).con).Ok
  nd0 : 0 ≤ p.nd l k
  nd1 : p.nd l k < p.quo.length
  root : (gbr l k).par = -1 → (gc p.cons (gbr l k).con).src = q.src ∧ q.ready ≤ (gbr l k).beg
  next : 0 ≤ (gbr l k).par → (gc p.cons (gbr l k).con).src = p.nd l (gbr l k).par.toNat ∧ (gbr l (gbr l k).par.toNat).arr ≤ (gbr l k).beg
  new : gi (p.mAt q l k) (p.nd l k) < 0
  fits : (gc p.cons (gbr l k).con).fitsB (gbr l k).beg q.size = true
  at0 : (gc p.cons (gbr l k).con).atE (gbr l k).beg q.size = 0
  en : (gbr l k).en = (gbr l k).beg + (gc p.cons (gbr l k).con).dur q.size
  arr : (gbr l k).arr = (gbr l k).en + (gc p.cons (gbr l k).con).rng
  arr0 : 0 ≤ (gbr l k).arr
  dead : (gbr l k).arr ≤ q.dead
theorem brV {p : Pln} {q : Req} {l : List Br} {k : Nat} (hf : fineR p q = true) (h : p.brE q l k (p.mAt q l k) = 0) : BrV p q l k := by
  have hok := Pln.ok_of (fineR_of hf).1
  unfold Pln.brE at h
  split at h
  · cases h
  · rename_i h1
    have hcl : (gbr l k).con.toNat < p.cons.length := by omega
    have hgc := gc_get (cons := p.cons) (i := (gbr l k).con) hcl
    have hc := hok.con _ (List.getElem_mem hcl)
    rw [← hgc] at hc
    have key : ∀ node ready, brT (gc p.cons (gbr l k).con) q (gbr l k) (p.mAt q l k) node ready = 0 → (gc p.cons (gbr l k).con).src = node ∧ ready ≤ (gbr l k).beg ∧ gi (p.mAt q l k) (gc p.cons (gbr l k).con).dst < 0 ∧ (gc p.cons (gbr l k).con).atE (gbr l k).beg q.size = 0 ∧ (gbr l k).arr = (gc p.cons (gbr l k).con).arrT (gbr l k).beg q.size ∧ (gbr l k).en = (gc p.cons (gbr l k).con).arrT (gbr l k).beg q.size - (gc p.cons (gbr l k).con).rng ∧ (gc p.cons (gbr l k).con).arrT (gbr l k).beg q.size ≤ q.dead := by
      intro node ready hb
      unfold brT at hb
      split at hb
      · rename_i a1
        split at hb
        · cases hb
        · rename_i a2
          split at hb
          · cases hb
          · rename_i a3
            split at hb
            · cases hb
            · rename_i a4
              split at hb
              · cases hb
              · rename_i a5
                split at hb
                · cases hb
                · rename_i a6
                  have a5' := Classical.not_not.1 a5
                  exact ⟨a1, by omega, by omega, Classical.not_not.1 a4, a5'.1, a5'.2, by omega⟩
      · cases hb
    have fin : ∀ node ready, brT (gc p.cons (gbr l k).con) q (gbr l k) (p.mAt q l k) node ready = 0 → ((gbr l k).par = -1 → node = q.src ∧ ready = q.ready) → (0 ≤ (gbr l k).par → node = p.nd l (gbr l k).par.toNat ∧ ready = (gbr l (gbr l k).par.toNat).arr) → BrV p q l k := by
      intro node ready hb hr hn
      obtain ⟨b1, b2, b3, b4, b5, b6, b7⟩ := key node ready hb
      have ha := Con.at_ok.1 b4
      have hat : (gc p.cons (gbr l k).con).arrT (gbr l k).beg q.size = (gbr l k).beg + (gc p.cons (gbr l k).con).dur q.size + (gc p.cons (gbr l k).con).rng := by
        unfold Con.arrT Con.aftT
        rw [if_pos b4]
        omega
      have hd := Con.dur_bd ha.1 ha.2.1.1 ha.2.1.2
      have hs0 := ha.1.st0
      have hr0 := ha.1.rng0
      rw [hat] at b5 b6 b7
      exact ⟨by omega, by omega, by omega, by omega, ha.1, ha.1.dst0, hc.2.2, fun e => by have := hr e; exact ⟨by omega, by omega⟩, fun e => by have := hn e; exact ⟨by omega, by omega⟩, b3, by unfold Con.fitsB; exact decide_eq_true ha.2.2, b4, by omega, by omega, by omega, by omega⟩
    split at h
    · exact fin _ _ h (fun e => by omega) (fun e => ⟨rfl, rfl⟩)
    · exact fin _ _ h (fun e => ⟨rfl, rfl⟩) (fun e => by omega)

/-- A tree. -/
structure VT (p : Pln) (q : Req) (l : List Br) : Prop where
  fine : fineR p q = true
  len : l.length ≤ 16
  br : ∀ k, k < l.length → BrV p q l k
theorem mchk_vt {p : Pln} {q : Req} {mem : List Int} {l : List Br} (h : p.mchk q mem l = 0) : VT p q l := by
  obtain ⟨h1, h2, h3, h4, h5⟩ := mchk_ok h
  exact ⟨h1, h3, fun k hk => brV h1 (mErr_all h4 k hk)⟩
theorem VT.req {p : Pln} {q : Req} {l : List Br} (V : VT p q l) : 0 ≤ q.src ∧ q.src < p.quo.length ∧ p.quo.length ≤ 16 ∧ 1 ≤ q.size ∧ q.size ≤ 65536 ∧ 0 ≤ q.ready ∧ q.ready ≤ q.dead := by
  have h := fineR_of V.fine
  have hok := Pln.ok_of h.1
  have hn := hok.n16
  have hq := h.2
  simp only [Req.okB, decide_eq_true_eq] at hq
  omega
theorem gi_get' {m : List Int} {x : Int} (h : x.toNat < m.length) : gi m x = m[x.toNat] := by simp [gi, h]
theorem startL_gi {q : Req} (h0 : 0 ≤ q.src) (h1 : q.src < 16) {x : Int} (hx : 0 ≤ x) (hx1 : x < 16) : gi (startL q) x = if x = q.src then q.ready else -1 := by
  unfold startL
  rw [gi_set16 (by simp) h0 h1 hx]
  split
  · rfl
  · have h : x.toNat < (List.replicate 16 (-1 : Int)).length := by simp; omega
    rw [gi_get' h]
    exact List.getElem_replicate h
theorem mAt_set {p : Pln} {q : Req} {l : List Br} (V : VT p q l) {k : Nat} (hk : k < l.length) {x : Int} (hx : 0 ≤ x) : gi (p.mAt q l (k + 1)) x = if x = p.nd l k then (gbr l k).arr else gi (p.mAt q l k) x := by
  have b := V.br k hk
  have := V.req
  exact gi_set16 (p.mAt_len q l k) b.nd0 (show p.nd l k < 16 by have := b.nd1; omega) hx
theorem mAt_src {p : Pln} {q : Req} {l : List Br} (V : VT p q l) : ∀ k, k ≤ l.length → gi (p.mAt q l k) q.src = q.ready
  | 0, _ => by
    have := V.req
    show gi (startL q) q.src = _
    rw [startL_gi (by omega) (by omega) (by omega) (by omega), if_pos rfl]
  | k + 1, hk => by
    have ih := mAt_src V k (by omega)
    have b := V.br k (by omega)
    have hr := V.req
    rw [mAt_set V (by omega) hr.1]
    have hn := b.new
    rw [if_neg (fun e => by rw [← e, ih] at hn; omega)]
    exact ih
theorem mAt_nd {p : Pln} {q : Req} {l : List Br} (V : VT p q l) : ∀ k, k ≤ l.length → ∀ j, j < k → gi (p.mAt q l k) (p.nd l j) = (gbr l j).arr
  | 0, _, j, hj => by omega
  | k + 1, hk, j, hj => by
    have b := V.br k (by omega)
    have bj := V.br j (by omega)
    rw [mAt_set V (by omega) bj.nd0]
    by_cases e : j = k
    · subst e; rw [if_pos rfl]
    · have ih := mAt_nd V k (by omega) j (by omega)
      have hn := b.new
      have ha := bj.arr0
      rw [if_neg (fun e => by rw [← e, ih] at hn; omega)]
      exact ih
theorem mAt_none {p : Pln} {q : Req} {l : List Br} (V : VT p q l) : ∀ k, k ≤ l.length → ∀ x, 0 ≤ x → x < 16 → x ≠ q.src → (∀ j, j < k → x ≠ p.nd l j) → gi (p.mAt q l k) x = -1
  | 0, _, x, h0, h1, h2, _ => by
    have := V.req
    show gi (startL q) x = _
    rw [startL_gi (by omega) (by omega) (by omega) (by omega), if_neg h2]
  | k + 1, hk, x, h0, h1, h2, h3 => by
    rw [mAt_set V (by omega) h0, if_neg (h3 k (by omega))]
    exact mAt_none V k (by omega) x h0 h1 h2 (fun j hj => h3 j (by omega))
theorem VT.inj {p : Pln} {q : Req} {l : List Br} (V : VT p q l) {i j : Nat} (hi : i < j) (hj : j < l.length) : p.nd l i ≠ p.nd l j := fun e => by
  have h1 := mAt_nd V j (by omega) i hi
  have h2 := (V.br j hj).new
  have h3 := (V.br i (by omega)).arr0
  rw [e] at h1
  omega
theorem VT.nsrc {p : Pln} {q : Req} {l : List Br} (V : VT p q l) {j : Nat} (hj : j < l.length) : p.nd l j ≠ q.src := fun e => by
  have h1 := mAt_src V j (by omega)
  have h2 := (V.br j hj).new
  have h3 := V.req
  rw [e] at h2
  omega
theorem VT.tree {p : Pln} {q : Req} {l : List Br} (V : VT p q l) : TreeK p l := fun k hk => by
  have b := V.br k hk
  exact ⟨⟨b.con0, b.con1⟩, b.par0, b.par1⟩

/-- The path to a branch, at its number + 1. -/
def pth (l : List Br) (k : Nat) : List Hp := ((upN l k).map (hopU l)).reverse
theorem pth_s {p : Pln} {q : Req} {l : List Br} (V : VT p q l) {k : Nat} (hk : k < l.length) : pth l (k + 1) = pth l ((gbr l k).par + 1).toNat ++ [hopU l k] := by
  have b := V.br k hk
  have := b.par0
  have := b.par1
  unfold pth
  rw [upN_s, if_neg (by omega), List.map_cons, List.reverse_cons]
/-- A path passes, and what is seen on it. -/
theorem pth_chk {p : Pln} {q : Req} {l : List Br} (V : VT p q l) (dest D : Int) : ∀ k, k ≤ l.length → ∃ seen, (∀ x ∈ seen, x = q.src ∨ ∃ j, j < k ∧ x = p.nd l j) ∧
    ∀ rest, chkL p.cons q.size dest D q.src q.ready [q.src] (pth l k ++ rest) = chkL p.cons q.size dest D (if k = 0 then q.src else p.nd l (k - 1)) (if k = 0 then q.ready else (gbr l (k - 1)).arr) seen rest
  | 0, _ => ⟨[q.src], fun x hx => .inl (by simpa using hx), fun rest => by unfold pth; rw [upN_0]; simp⟩
  | k + 1, hk => by
    have b := V.br k (by omega)
    have hp0 := b.par0
    have hp1 := b.par1
    obtain ⟨seen, hs, hr⟩ := pth_chk V dest D ((gbr l k).par + 1).toNat (by omega)
    refine ⟨seen ++ [p.nd l k], fun x hx => ?_, fun rest => ?_⟩
    · rcases List.mem_append.1 hx with hx | hx
      · rcases hs x hx with h | ⟨j, hj, h⟩
        · exact .inl h
        · exact .inr ⟨j, by omega, h⟩
      · exact .inr ⟨k, by omega, by simpa using hx⟩
    · rw [pth_s V (by omega), List.append_assoc, hr]
      have hu : hopU l k = (gbr l k).hop := by unfold hopU; rw [Int.toNat_natCast]
      have hsb : seenB seen (p.nd l k) = false := by
        cases hh : seenB seen (p.nd l k)
        · rfl
        · rcases hs _ (seenB_iff.1 hh) with h | ⟨j, hj, h⟩
          · exact absurd h (V.nsrc (by omega))
          · exact absurd h.symm (V.inj (by omega) (by omega))
      have hnode : (gc p.cons (gbr l k).con).src = (if ((gbr l k).par + 1).toNat = 0 then q.src else p.nd l (((gbr l k).par + 1).toNat - 1)) ∧ (if ((gbr l k).par + 1).toNat = 0 then q.ready else (gbr l (((gbr l k).par + 1).toNat - 1)).arr) ≤ (gbr l k).beg := by
        by_cases e : (gbr l k).par = -1
        · have := b.root e
          rw [if_pos (by omega), if_pos (by omega)]
          exact this
        · have h2 := b.next (by omega)
          rw [if_neg (by omega), if_neg (by omega), show ((gbr l k).par + 1).toNat - 1 = (gbr l k).par.toNat by omega]
          exact h2
      have e1 : ((gbr l k).hop).con = (gbr l k).con := rfl
      have e2 : ((gbr l k).hop).beg = (gbr l k).beg := rfl
      have e3 : ((gbr l k).hop).en = (gbr l k).en := rfl
      have e4 : ((gbr l k).hop).arr = (gbr l k).arr := rfl
      have hnd : p.nd l k = (gc p.cons (gbr l k).con).dst := rfl
      have h1 := b.con0
      have h2 := b.con1
      have h3 := b.en
      have h4 := b.arr
      rw [hu, List.singleton_append]
      simp only [chkL, e1, e2, e3, e4]
      rw [if_neg (by omega), if_neg (fun h => h hnode.1), ← hnd, hsb, if_neg (by simp), if_neg (by omega), b.fits, if_neg (by simp), if_neg (by omega)]
      simp
/-- The path of a branch is a journey to its node. -/
theorem pth_jchk {p : Pln} {q : Req} {l : List Br} (V : VT p q l) {k : Nat} (hk : k < l.length) : p.jchk { q with dst := p.nd l k } (pth l (k + 1)) = 0 := by
  have b := V.br k hk
  have hf := fineR_of V.fine
  have hq := hf.2
  have hns := V.nsrc hk
  have h0 := b.nd0
  have h1 := b.nd1
  unfold Pln.jchk
  rw [if_pos ⟨hf.1, by
    simp only [Req.okB, decide_eq_true_eq] at hq ⊢
    exact ⟨hq.1, hq.2.1, h0, h1, fun e => hns e.symm, hq.2.2.2.2.2⟩⟩, if_neg (by rw [pth_s V hk]; simp)]
  obtain ⟨seen, _, hr⟩ := pth_chk V (p.nd l k) q.dead (k + 1) (by omega)
  have h2 := hr []
  rw [List.append_nil] at h2
  refine h2.trans ?_
  have hd := b.dead
  rw [if_neg (by omega), if_neg (by omega), Nat.add_sub_cancel]
  simp only [chkL]
  rw [if_neg (by simp), if_neg (by omega)]
theorem path_good {p : Pln} {q : Req} {l : List Br} (V : VT p q l) {k : Nat} (hk : k < l.length) : pathO l k = some (pth l (k + 1)) := by
  unfold pathO
  rw [if_pos (by omega), show ((k : Int) + 1).toNat = k + 1 by omega, if_neg (fun h => by
    have := V.tree.up (k + 1) (by omega) _ h
    omega)]
  rfl

end Go.Proofs.YtbgdglcnminbaaaGreat

/- TopMerged: the walk. -/
import Derived.Test.YtemkpimngbbpkaaGreatQm36
import Derived.Test.YtemkpimngbbpkaaGreatQm41
import Derived.Test.YtemkpimngbbpkaaGreatQm48
namespace Go.Proofs.YtemkpimngbbpkaaGreat
set_option linter.unusedVariables false
set_option linter.unusedSimpArgs false
set_option linter.unusedVariables false
set_option linter.unusedSimpArgs false
open Go.RowKit Go.Shelf
attribute [local go_sem] Oper.semAt_some

theorem plan_of {l : List Chg} {cs ts : List Con} (hS : ContS l cs) (hok : ∀ y ∈ l, y.ok 4 = true) (hl : l.length ≤ 64) (hp : ts.Perm cs) {quo : List Int} (hq : quo.length = 4) (hq2 : ∀ q ∈ quo, 0 ≤ q ∧ q ≤ 1073741824) : (⟨quo, ts⟩ : Pln).chk = 0 := by
  have hcl := hS.len
  obtain ⟨cand, hc, rfl, _, _⟩ := hS
  refine plan_ok (p := ⟨quo, ts⟩) (by show 1 ≤ quo.length; omega) (by show quo.length ≤ 16; omega) hq2 (by show ts.length ≤ 64; rw [hp.length_eq]; omega) (fun c hcc => ?_) ?_
  · have h1 := keepC_mem (hp.mem_iff.1 hcc)
    obtain ⟨y, hy, rfl⟩ := List.mem_map.1 h1
    have h2 := (Chg.ok_con (hok y (hc y hy).1) (by omega)).2 (hc y hy).2
    show y.con.Ok ∧ y.con.src < (quo.length : Int) ∧ y.con.dst < (quo.length : Int)
    rw [hq]
    exact h2
  · exact (keepC_pw _).perm hp.symm (fun {a b} h => by rw [overlap_comm]; exact h)

structure Od where
  a : Nat
  b : Nat
  c : Nat
def EOd : Elt Od := ⟨fun x => [.int .i64 x.a, .int .i64 x.b, .int .i64 x.c], 3, fun _ => rfl, by omega, fun x u hu => by simp at hu; rcases hu with h | h | h <;> subst h <;> rfl⟩
def ods : List Od := [⟨0, 1, 2⟩, ⟨0, 2, 1⟩, ⟨1, 0, 2⟩, ⟨1, 2, 0⟩, ⟨2, 0, 1⟩, ⟨2, 1, 0⟩]
theorem ods_ok : ∀ o ∈ ods, (o.a < 3 ∧ o.b < 3 ∧ o.c < 3) ∧ ∀ K : Nat → Nat → Nat, kmax (kmax (K o.a) (K o.b)) (K o.c) = kmax (kmax (K 0) (K 1)) (K 2) := by
  intro o ho
  simp only [ods, List.mem_cons, List.not_mem_nil, or_false] at ho
  rcases ho with rfl | rfl | rfl | rfl | rfl | rfl <;> exact ⟨by decide, fun K => by first | rfl | (funext x; simp only [kmax]; omega)⟩
theorem Rd.od {w : World} {A : Option Addr} {l : List Od} (h : Rd EOd w A l) {k : Nat} (hk : k < l.length) : ∃ b o, A = some ⟨b, o, none⟩ ∧ b < w.heap.size ∧
    w.cell? ⟨b, o + k * 3, none⟩ = some (.int .i64 l[k].a) ∧ w.cell? ⟨b, o + k * 3 + 1, none⟩ = some (.int .i64 l[k].b) ∧ w.cell? ⟨b, o + k * 3 + 2, none⟩ = some (.int .i64 l[k].c) := by
  obtain ⟨b, o, rfl, hb, hc⟩ := h.at hk
  exact ⟨b, o, rfl, hb, hc 0 _ rfl, hc 1 _ rfl, hc 2 _ rfl⟩

theorem res_at {w : World} {base : Nat} {A : Option Addr} {rs : List Hs} {l : List Chg} (ho : Rd EHs w A rs) (hs : ∀ x ∈ rs, Owns EChg w base 63 (.slice x.A x.n x.c) l) {k : Nat} (hk : k < rs.length) :
    ∃ (b o : Nat) (A' : Option Addr) (c : Nat), A = some ⟨b, o, none⟩ ∧ b < w.heap.size ∧ w.cell? ⟨b, o + k * 2, none⟩ = some (.int .i64 4) ∧ w.cell? ⟨b, o + k * 2 + 1, none⟩ = some (.slice A' l.length c) ∧ Rd EChg w A' l := by
  obtain ⟨b, o, rfl, hb, hc⟩ := ho.at hk
  have h1 := hs _ (List.getElem_mem hk)
  refine ⟨b, o, rs[k].A, rs[k].c, rfl, hb, hc 0 _ rfl, ?_, h1.rd⟩
  rw [← h1.len]
  exact hc 1 _ rfl

set_option maxRecDepth 100000 in
set_option maxHeartbeats 16000000 in
theorem merged_walk (Aa : Option Addr) (ca : Nat) (acts : List Act1) (Ac : Option Addr) (cc : Nat) (cons : List Con) (w : World) (hA : Rd EAct w Aa acts) (hC : Rd ECon w Ac cons) (hla : acts.length ≤ maxLen) (hlc : cons.length ≤ maxLen) :
    Calls Tryz.prog 4 #[.agg #[.slice Aa acts.length ca, .slice Ac cons.length cc]] w fun e w' => e = .returned (.bool true) ∧ Ext w w' := by
  unfold maxLen at hla hlc
  obtain ⟨W1, hW1, hB1, hk1, hl1⟩ := box1 w #[.slice Aa acts.length ca, .slice Ac cons.length cc] 48
  have c1 := hk1.cell
  have c2 := hk1.lt
  by_cases h20 : acts.length ≤ 20
  case neg =>
    have d1 : decide ((20 : Int) < (acts.length : Int)) = true := decide_eq_true (by omega)
    have d2 : decide (20 < acts.length) = true := decide_eq_true (by omega)
    go_enter Tryz.func4, Tryz.ntmps4
    go_wp2_with fail
    clear hW1
    refine (awake5_any _).mono ?_
    rintro e w4 ⟨rfl, hb4⟩
    go_wp2
    go_ret
    exact ⟨rfl, hB1.trans hb4⟩
  have d1 : decide ((20 : Int) < (acts.length : Int)) = false := decide_eq_false (by omega)
  have d2 : decide (20 < acts.length) = false := decide_eq_false (by omega)
  by_cases h8 : cons.length ≤ 8
  case neg =>
    have d3 : decide ((8 : Int) < (cons.length : Int)) = true := decide_eq_true (by omega)
    have d4 : decide (8 < cons.length) = true := decide_eq_true (by omega)
    go_enter Tryz.func4, Tryz.ntmps4
    go_wp2_with fail
    clear hW1
    refine (awake5_any _).mono ?_
    rintro e w4 ⟨rfl, hb4⟩
    go_wp2
    go_ret
    exact ⟨rfl, hB1.trans hb4⟩
  have d3 : decide ((8 : Int) < (cons.length : Int)) = false := decide_eq_false (by omega)
  have d4 : decide (8 < cons.length) = false := decide_eq_false (by omega)
  go_enter Tryz.func4, Tryz.ntmps4
  go_wp2_with fail
  clear hW1
  refine (play_any Aa ca acts Ac cc cons _ (hA.ext hB1) (hC.ext hB1) h20 h8).mono ?_
  rintro e w2 ⟨B, L, K, xs, rfl, hP, hH, hb2⟩
  have hE2 := hB1.trans hb2
  clear c1 c2 d1 d2 d3 d4 hA hC
  go_wp2_with fail
  refine (awake5_any _).mono ?_
  rintro e w3 ⟨rfl, hb3⟩
  have hE3 := hE2.trans hb3
  have hH3 := hH.ext hb3
  obtain ⟨W4, hW4, hB4, hk4, hl4⟩ := box1 w3 #[.int .i64 0, .int .i64 1, .int .i64 2, .int .i64 0, .int .i64 2, .int .i64 1, .int .i64 1, .int .i64 0, .int .i64 2, .int .i64 1, .int .i64 2, .int .i64 0, .int .i64 2, .int .i64 0, .int .i64 1, .int .i64 2, .int .i64 1, .int .i64 0] 52
  have hO4 : Rd EOd W4 (some ⟨w3.heap.size, 0, none⟩) ods := rd_blk (e := 52) hk4
  have hE4 := hE3.trans hB4
  have hH4 := hH3.ext hB4
  go_upto_region 8 with fail
  (try rw [hW4])
  clear hW4
  obtain ⟨i0, hi0, hz0, hz1, hz2⟩ := info_parts info_his
  obtain ⟨T, hT⟩ : ∃ T, hist L (kmax (kmax (K 0) (K 1)) (K 2)) = T := ⟨_, rfl⟩
  have HT := Lib.hid hT
  clear hT
  go_loopg [5, 46] 6 (fun q v5 vi wr => ∃ (k : Nat) (rs : List Hs) (A : Option Addr) (c : Nat), k + q = 6 ∧ vi = .int .i64 k ∧ v5 = .slice A rs.length c ∧ rs.length = k ∧ Owns EHs wr W4.heap.size 56 (.slice A rs.length c) rs ∧ (∀ x ∈ rs, Owns EChg wr W4.heap.size 63 (.slice x.A x.n x.c) T) ∧ Ext W4 wr)
  case atStart => exact ⟨0, [], none, 0, by omega, by go_num, rfl, rfl, Owns.none_ _ _, (fun x hx => (by cases hx)), Ext.refl _⟩
  case round =>
    obtain ⟨k, rs, Ar, cr, hkq, rfl, rfl, hrk, hor, hrs, hE⟩ := hrel
    have Hkq := Lib.hid hkq
    have Hrk := Lib.hid hrk
    by_cases hlt : k < 6
    · obtain ⟨b', o', e', hb, a0, a1, a2⟩ := (hO4.ext hE).od (k := k) hlt
      injection e' with e'
      injection e' with e1 e2
      subst e1 e2
      simp only [Nat.zero_add] at a0 a1 a2
      obtain ⟨⟨oa, ob, oc⟩, hok⟩ := ods_ok _ (List.getElem_mem (show k < ods.length from hlt))
      have Hok := Lib.hid (hok K)
      have hk6 : (k : Int) < 6 := by omega
      generalize ods[k] = od at *
      obtain ⟨a, b, c⟩ := od
      dsimp only at a0 a1 a2 oa ob oc Hok
      obtain ⟨W5, hW5, hB5, hk5, hl5⟩ := box1 wr #[.int .i64 a, .int .i64 b, .int .i64 c] 52
      have hH5 := (hH4.ext hE).ext hB5
      have q1 := hk5.cell
      have q2 := hk5.lt
      obtain ⟨f1, f2, f3⟩ := hH5.free
      obtain ⟨Ax, cx, hRx, x1, x2⟩ := hH5.at_ oa
      obtain ⟨Ay, cy, hRy, y1, y2⟩ := hH5.at_ ob
      obtain ⟨Az, cz, hRz, z1', z2'⟩ := hH5.at_ oc
      have oa' : (a : Int) < 3 := by omega
      have ob' : (b : Int) < 3 := by omega
      have oc' : (c : Int) < 3 := by omega
      have na := fun o => hP.le a o oa
      have nb := fun o => hP.le b o ob
      have nc := fun o => hP.le c o oc
      have hlen := hP.hlen (by omega)
      have l1 := hP.hl na
      have l2 := hP.hl nb
      have l3 := hP.hl nc
      have l4 := hP.hl (k := kmax (K a) (K b)) (fun o => by have := na o; have := nb o; unfold kmax; omega)
      have l5 := hP.hl (k := kmax (kmax (K a) (K b)) (K c)) (fun o => by have := na o; have := nb o; have := nc o; unfold kmax; omega)
      have M1 := Lib.hid (fun w ha hb => uMergeL_any hP.log hlen (k := K a) (k' := K b) Ax cx Ay cy (hist L (K b)) w ha hb (by omega) (fun x hx => hx) (fun x hx => .inr hx) (by omega) (by omega))
      have M2 := Lib.hid (fun A' c' w ha hb => uMergeL_any hP.log hlen (k := kmax (K a) (K b)) (k' := K c) A' c' Az cz (hist L (K c)) w ha hb (by omega) (fun x hx => hx) (fun x hx => .inr hx) (by omega) (by omega))
      rw [Hok.out, HT.out] at M2
      obtain ⟨la, hla⟩ : ∃ la, hist L (K a) = la := ⟨_, rfl⟩
      obtain ⟨lb, hlb⟩ : ∃ lb, hist L (K b) = lb := ⟨_, rfl⟩
      obtain ⟨lc, hlc⟩ : ∃ lc, hist L (K c) = lc := ⟨_, rfl⟩
      obtain ⟨lab, hlab⟩ : ∃ lab, hist L (kmax (K a) (K b)) = lab := ⟨_, rfl⟩
      rw [hla] at hRx x2
      rw [hlb] at hRy y2
      rw [hlc] at hRz z2'
      rw [hla, hlb, hlab] at M1
      rw [hlc, hlab] at M2
      clear hla hlb hlc hlab l1 l2 l3 l4 l5 hlen na nb nc hok hkq hrk
      go_upto_region 10 with fail
      (try rw [hW5])
      clear hW5 a0 a1 a2
      go_cut [8, 9] from 50 to 65 (fun a8 a9 wx => ∃ (g : Nat) (A : Option Addr) (c : Nat), a8 = .pointer (some ⟨g, 0, none⟩) ∧ a9 = .int .i64 0 ∧ W5.heap.size ≤ g ∧ Blk wx g 56 #[.int .i64 4, .slice A lab.length c] ∧ Owns EChg wx W5.heap.size 63 (.slice A lab.length c) lab ∧ Ext W5 wx)
      case first =>
        have near := near_of9 W5
        refine wp_region_P (fun _ => false) (fun w' => Ext W5 w' ∧ ∀ b o, b < W5.heap.size → w'.cell? ⟨b, o, none⟩ = W5.cell? ⟨b, o, none⟩) (by kernel_rfl) (near _ (Ext.refl W5).drew) (fun _ => ?_)
        refine wpAnyP_takeT (i := 0) (v := ?_) rfl (by kernel_rfl) (by kernel_rfl) (by kernel_rfl) (fun _ _ _ h => h) (Or.inl ⟨by rfl, ?_⟩) ?_
        rotate_left
        · intro w'
          go_simp
          first | done | with_reducible rfl
        try simp only [Act.put, List.setIfInBounds_toArray, List.set_cons_zero, List.set_cons_succ]
        refine wpAnyP_takeT (i := 1) (v := ?_) rfl (by kernel_rfl) (by kernel_rfl) (by kernel_rfl) (fun _ _ _ h => h) (Or.inl ⟨by rfl, ?_⟩) ?_
        rotate_left
        · intro w'
          go_simp
          first | done | with_reducible rfl
        try simp only [Act.put, List.setIfInBounds_toArray, List.set_cons_zero, List.set_cons_succ]
        refine wpAnyP_take (i := 2) (v := ?_) rfl (by kernel_rfl) (by kernel_rfl) (by kernel_rfl) (by kernel_rfl) (fun _ _ _ h => h) (Or.inl ⟨by rfl, ?_⟩) (by assumption) ?_
        rotate_left
        · intro w' hw'
          (try have hC := hw'.2)
          (try have hC9 := hw'.1)
          go_simp
          first | done | with_reducible rfl
        try simp only [Act.put, List.setIfInBounds_toArray, List.set_cons_zero, List.set_cons_succ]
        refine wpAnyP_takeT (i := 3) (v := ?_) rfl (by kernel_rfl) (by kernel_rfl) (by kernel_rfl) (fun _ _ _ h => h) (Or.inl ⟨by rfl, ?_⟩) ?_
        rotate_left
        · intro w'
          go_simp
          first | done | with_reducible rfl
        try simp only [Act.put, List.setIfInBounds_toArray, List.set_cons_zero, List.set_cons_succ]
        refine wpAnyP_take (i := 4) (v := ?_) rfl (by kernel_rfl) (by kernel_rfl) (by kernel_rfl) (by kernel_rfl) (fun _ _ _ h => h) (Or.inl ⟨by rfl, ?_⟩) (by assumption) ?_
        rotate_left
        · intro w' hw'
          (try have hC := hw'.2)
          (try have hC9 := hw'.1)
          go_simp
          first | done | with_reducible rfl
        try simp only [Act.put, List.setIfInBounds_toArray, List.set_cons_zero, List.set_cons_succ]
        refine wpAnyP_takeT (i := 5) (v := ?_) rfl (by kernel_rfl) (by kernel_rfl) (by kernel_rfl) (fun _ _ _ h => h) (Or.inl ⟨by rfl, ?_⟩) ?_
        rotate_left
        · intro w'
          go_simp
          first | done | with_reducible rfl
        try simp only [Act.put, List.setIfInBounds_toArray, List.set_cons_zero, List.set_cons_succ]
        refine wpAnyP_takeT (i := 6) (v := ?_) rfl (by kernel_rfl) (by kernel_rfl) (by kernel_rfl) (fun _ _ _ h => h) (Or.inl ⟨by rfl, ?_⟩) ?_
        rotate_left
        · intro w'
          go_simp
          first | done | with_reducible rfl
        try simp only [Act.put, List.setIfInBounds_toArray, List.set_cons_zero, List.set_cons_succ]
        refine wpAnyP_take (i := 7) (v := ?_) rfl (by kernel_rfl) (by kernel_rfl) (by kernel_rfl) (by kernel_rfl) (fun _ _ _ h => h) (Or.inl ⟨by rfl, ?_⟩) (by assumption) ?_
        rotate_left
        · intro w' hw'
          (try have hC := hw'.2)
          (try have hC9 := hw'.1)
          go_simp
          first | done | with_reducible rfl
        try simp only [Act.put, List.setIfInBounds_toArray, List.set_cons_zero, List.set_cons_succ]
        refine wpAnyP_takeT (i := 8) (v := ?_) rfl (by kernel_rfl) (by kernel_rfl) (by kernel_rfl) (fun _ _ _ h => h) (Or.inl ⟨by rfl, ?_⟩) ?_
        rotate_left
        · intro w'
          go_simp
          first | done | with_reducible rfl
        try simp only [Act.put, List.setIfInBounds_toArray, List.set_cons_zero, List.set_cons_succ]
        refine wpAnyP_takeT (i := 9) (v := ?_) rfl (by kernel_rfl) (by kernel_rfl) (by kernel_rfl) (fun _ _ _ h => h) (Or.inl ⟨by rfl, ?_⟩) ?_
        rotate_left
        · intro w'
          go_simp
          first | done | with_reducible rfl
        try simp only [Act.put, List.setIfInBounds_toArray, List.set_cons_zero, List.set_cons_succ]
        refine wpAnyP_take (i := 10) (v := ?_) rfl (by kernel_rfl) (by kernel_rfl) (by kernel_rfl) (by kernel_rfl) (fun _ _ _ h => h) (Or.inl ⟨by rfl, ?_⟩) (by assumption) ?_
        rotate_left
        · intro w' hw'
          (try have hC := hw'.2)
          (try have hC9 := hw'.1)
          go_simp
          first | done | with_reducible rfl
        try simp only [Act.put, List.setIfInBounds_toArray, List.set_cons_zero, List.set_cons_succ]
        simp only [List.getElem_toArray, List.getElem_cons_succ, List.getElem_cons_zero, Act.put, List.setIfInBounds_toArray, List.set_cons_zero, List.set_cons_succ]
        clear q1 q2
        refine wpAnyP_ready (rs := [11, 15]) (by kernel_rfl) (by simp) ?_
        refine AllReadyP.cons rfl (fun K hK => ?_) (AllReadyP.cons rfl (fun K hK => ?_) AllReadyP.nil)
        · go_simp
          refine Calls.mono (M1.out W5.drew (hRx.ext ((Ext.refl W5).drew)) (hRy.ext ((Ext.refl W5).drew))) ?_
          rintro e w7 ⟨u9, rfl, ho7, hb7⟩; obtain ⟨A9, c9, rfl, hR9⟩ := (ho7).form
          have hx7 := ((Ext.refl W5).drew).trans hb7
          refine hK.out _ _ (fun _ _ => near _ hx7) ?_
          clear hK K
          refine wpAnyP_takeT (i := 12) (v := ?_) rfl (by kernel_rfl) (by kernel_rfl) (by kernel_rfl) (fun _ _ _ h => h) (Or.inl ⟨by rfl, ?_⟩) ?_
          rotate_left
          · intro w'
            go_simp
            first | done | with_reducible rfl
          try simp only [Act.put, List.setIfInBounds_toArray, List.set_cons_zero, List.set_cons_succ]
          refine wpAnyP_takeT (i := 13) (v := ?_) rfl (by kernel_rfl) (by kernel_rfl) (by kernel_rfl) (fun _ _ _ h => h) (Or.inl ⟨by rfl, ?_⟩) ?_
          rotate_left
          · intro w'
            go_simp
            first | done | with_reducible rfl
          try simp only [Act.put, List.setIfInBounds_toArray, List.set_cons_zero, List.set_cons_succ]
          refine wpAnyP_takeT (i := 14) (v := ?_) rfl (by kernel_rfl) (by kernel_rfl) (by kernel_rfl) (fun _ _ _ h => h) (Or.inl ⟨by rfl, ?_⟩) ?_
          rotate_left
          · intro w'
            go_simp
            first | done | with_reducible rfl
          try simp only [Act.put, List.setIfInBounds_toArray, List.set_cons_zero, List.set_cons_succ]
          obtain ⟨w8, hV8, hB8, kz8, lz8⟩ := box1 w7 #[.int .i64 0, .slice none 0 0] 56
          have hx8 := hx7.trans hB8
          have hg8 := hx7.size
          have ho8 := ho7.ext hB8
          obtain ⟨w9, hw9, hz9, ho9, hE9⟩ : ∃ w9, w8.setCells w7.heap.size 0 [.int .i64 4, .slice A9 lab.length c9] = w9 ∧ Blk w9 w7.heap.size 56 #[.int .i64 4, .slice A9 lab.length c9] ∧ Owns EChg w9 W5.heap.size 63 (.slice A9 lab.length c9) lab ∧ Ext W5 w9 :=
            ⟨_, rfl, kz8.setCells_ [.int .i64 4, .slice A9 lab.length c9] 0, ((ho8.setZ kz8 (by decide) 0 _).setZ (kz8.set_ 0 _) (by decide) 1 _).mono (by first | exact Nat.le_refl _ | omega), ext_setCells hx8 hg8 0 _⟩
          simp only [World.setCells, Nat.zero_add, Nat.reduceAdd] at hw9
          have q1 := kz8.cell
          have q2 := kz8.lt
          have q3 := kz8.frozen
          clear q1 q2 q3
          refine wpAnyP_ready (rs := [15]) (by kernel_rfl) (by simp) ?_
          refine AllReadyP.cons rfl (fun K hK => ?_) AllReadyP.nil
          go_simp
          refine hK.out _ _ (fun _ _ => near _ hx8) ?_
          clear hK K hV8
          have q1 := kz8.cell
          have q2 := kz8.lt
          have q3 := kz8.frozen
          refine wpAnyP_ready (rs := [16]) (by kernel_rfl) (by simp) ?_
          refine AllReadyP.cons rfl (fun K hK => ?_) AllReadyP.nil
          go_simp
          (try rw [hw9])
          refine hK.out _ _ (fun _ _ => near _ hE9) ?_
          clear hK K
          refine wpAnyP_takeT (i := 17) (v := ?_) rfl (by kernel_rfl) (by kernel_rfl) (by kernel_rfl) (fun _ _ _ h => h) (Or.inl ⟨by rfl, ?_⟩) ?_
          rotate_left
          · intro w'
            go_simp
            first | done | with_reducible rfl
          try simp only [Act.put, List.setIfInBounds_toArray, List.set_cons_zero, List.set_cons_succ]
          (try simp only [List.getElem_toArray, List.getElem_cons_succ, List.getElem_cons_zero, Act.put, List.setIfInBounds_toArray, List.set_cons_zero, List.set_cons_succ])
          refine wpAnyP_done (by kernel_rfl) ?_ _
          go_wp2
          go_meet
          exact ⟨_, A9, c9, rfl, rfl, hg8, hz9, ho9, hE9⟩
        · obtain ⟨W7, hV7, hB7, kz7, lz7⟩ := box1 W5.drew #[.int .i64 0, .slice none 0 0] 56
          go_simp
          refine hK.out _ _ (fun _ _ => near _ (((Ext.refl W5).drew).trans hB7)) ?_
          clear hK K hV7
          refine wpAnyP_ready (rs := [11]) (by kernel_rfl) (by simp) ?_
          refine AllReadyP.cons rfl (fun K hK => ?_) AllReadyP.nil
          go_simp
          refine Calls.mono (M1.out W7 (hRx.ext (((Ext.refl W5).drew).trans hB7)) (hRy.ext (((Ext.refl W5).drew).trans hB7))) ?_
          rintro e w8 ⟨u9, rfl, ho8, hb8⟩; obtain ⟨A9, c9, rfl, hR9⟩ := (ho8).form
          have hx8 := (((Ext.refl W5).drew).trans hB7).trans hb8
          refine hK.out _ _ (fun _ _ => near _ hx8) ?_
          clear hK K
          refine wpAnyP_takeT (i := 12) (v := ?_) rfl (by kernel_rfl) (by kernel_rfl) (by kernel_rfl) (fun _ _ _ h => h) (Or.inl ⟨by rfl, ?_⟩) ?_
          rotate_left
          · intro w'
            go_simp
            first | done | with_reducible rfl
          try simp only [Act.put, List.setIfInBounds_toArray, List.set_cons_zero, List.set_cons_succ]
          refine wpAnyP_takeT (i := 13) (v := ?_) rfl (by kernel_rfl) (by kernel_rfl) (by kernel_rfl) (fun _ _ _ h => h) (Or.inl ⟨by rfl, ?_⟩) ?_
          rotate_left
          · intro w'
            go_simp
            first | done | with_reducible rfl
          try simp only [Act.put, List.setIfInBounds_toArray, List.set_cons_zero, List.set_cons_succ]
          refine wpAnyP_takeT (i := 14) (v := ?_) rfl (by kernel_rfl) (by kernel_rfl) (by kernel_rfl) (fun _ _ _ h => h) (Or.inl ⟨by rfl, ?_⟩) ?_
          rotate_left
          · intro w'
            go_simp
            first | done | with_reducible rfl
          try simp only [Act.put, List.setIfInBounds_toArray, List.set_cons_zero, List.set_cons_succ]
          have kz8 : Blk w8 W5.heap.size 56 #[.int .i64 0, .slice none 0 0] := kz7.ext hb8
          have hs7 : W5.heap.size ≤ W7.heap.size := hB7.size
          have hg8 := Nat.le_refl W5.heap.size
          obtain ⟨w9, hw9, hz9, ho9, hE9⟩ : ∃ w9, w8.setCells W5.heap.size 0 [.int .i64 4, .slice A9 lab.length c9] = w9 ∧ Blk w9 W5.heap.size 56 #[.int .i64 4, .slice A9 lab.length c9] ∧ Owns EChg w9 W5.heap.size 63 (.slice A9 lab.length c9) lab ∧ Ext W5 w9 :=
            ⟨_, rfl, kz8.setCells_ [.int .i64 4, .slice A9 lab.length c9] 0, ((ho8.setZ kz8 (by decide) 0 _).setZ (kz8.set_ 0 _) (by decide) 1 _).mono (by first | exact Nat.le_refl _ | omega), ext_setCells hx8 hg8 0 _⟩
          simp only [World.setCells, Nat.zero_add, Nat.reduceAdd] at hw9
          have q1 := kz8.cell
          have q2 := kz8.lt
          have q3 := kz8.frozen
          refine wpAnyP_ready (rs := [16]) (by kernel_rfl) (by simp) ?_
          refine AllReadyP.cons rfl (fun K hK => ?_) AllReadyP.nil
          go_simp
          (try rw [hw9])
          refine hK.out _ _ (fun _ _ => near _ hE9) ?_
          clear hK K
          refine wpAnyP_takeT (i := 17) (v := ?_) rfl (by kernel_rfl) (by kernel_rfl) (by kernel_rfl) (fun _ _ _ h => h) (Or.inl ⟨by rfl, ?_⟩) ?_
          rotate_left
          · intro w'
            go_simp
            first | done | with_reducible rfl
          try simp only [Act.put, List.setIfInBounds_toArray, List.set_cons_zero, List.set_cons_succ]
          (try simp only [List.getElem_toArray, List.getElem_cons_succ, List.getElem_cons_zero, Act.put, List.setIfInBounds_toArray, List.set_cons_zero, List.set_cons_succ])
          refine wpAnyP_done (by kernel_rfl) ?_ _
          go_wp2
          go_meet
          exact ⟨_, A9, c9, rfl, rfl, hg8, hz9, ho9, hE9⟩
      case rest =>
        obtain ⟨g, A9, c9, rfl, rfl, hg9, hz9, ho9, hx9⟩ := hcut
        generalize wc = W6 at *
        have hH6 := hH5.ext hx9
        have k6 := hk5.ext hx9
        clear x1 x2 y1 y2 f1 f2 f3 hRx hRy M1
        obtain ⟨f1, f2, f3⟩ := hH6.free
        obtain ⟨z1, z2⟩ : W6.cell? ⟨B, c * 2, none⟩ = some (.int .i64 4) ∧ W6.cell? ⟨B, c * 2 + 1, none⟩ = some (.slice Az lc.length cz) := ⟨(hx9.cell_some z1'), (hx9.cell_some z2')⟩
        have q1 := k6.cell
        have q2 := k6.lt
        have p1 := hz9.cell
        have p2 := hz9.lt
        go_upto_region 11 with fail
        go_cut [10, 11] from 65 to 76 (fun a8 a9 wx => ∃ (g : Nat) (A : Option Addr) (c : Nat), a8 = .pointer (some ⟨g, 0, none⟩) ∧ a9 = .int .i64 0 ∧ W6.heap.size ≤ g ∧ Blk wx g 56 #[.int .i64 4, .slice A T.length c] ∧ Owns EChg wx W6.heap.size 63 (.slice A T.length c) T ∧ Ext W6 wx)
        case first =>
          have near := near_of9 W6
          refine wp_region_P (fun _ => false) (fun w' => Ext W6 w' ∧ ∀ b o, b < W6.heap.size → w'.cell? ⟨b, o, none⟩ = W6.cell? ⟨b, o, none⟩) (by kernel_rfl) (near _ (Ext.refl W6).drew) (fun _ => ?_)
          refine wpAnyP_take (i := 0) (v := ?_) rfl (by kernel_rfl) (by kernel_rfl) (by kernel_rfl) (by kernel_rfl) (fun _ _ _ h => h) (Or.inl ⟨by rfl, ?_⟩) (by assumption) ?_
          rotate_left
          · intro w' hw'
            (try have hC := hw'.2)
            (try have hC9 := hw'.1)
            go_simp
            first | done | with_reducible rfl
          try simp only [Act.put, List.setIfInBounds_toArray, List.set_cons_zero, List.set_cons_succ]
          refine wpAnyP_takeT (i := 1) (v := ?_) rfl (by kernel_rfl) (by kernel_rfl) (by kernel_rfl) (fun _ _ _ h => h) (Or.inl ⟨by rfl, ?_⟩) ?_
          rotate_left
          · intro w'
            go_simp
            first | done | with_reducible rfl
          try simp only [Act.put, List.setIfInBounds_toArray, List.set_cons_zero, List.set_cons_succ]
          refine wpAnyP_takeT (i := 2) (v := ?_) rfl (by kernel_rfl) (by kernel_rfl) (by kernel_rfl) (fun _ _ _ h => h) (Or.inl ⟨by rfl, ?_⟩) ?_
          rotate_left
          · intro w'
            go_simp
            first | done | with_reducible rfl
          try simp only [Act.put, List.setIfInBounds_toArray, List.set_cons_zero, List.set_cons_succ]
          refine wpAnyP_take (i := 3) (v := ?_) rfl (by kernel_rfl) (by kernel_rfl) (by kernel_rfl) (by kernel_rfl) (fun _ _ _ h => h) (Or.inl ⟨by rfl, ?_⟩) (by assumption) ?_
          rotate_left
          · intro w' hw'
            (try have hC := hw'.2)
            (try have hC9 := hw'.1)
            go_simp
            first | done | with_reducible rfl
          try simp only [Act.put, List.setIfInBounds_toArray, List.set_cons_zero, List.set_cons_succ]
          refine wpAnyP_takeT (i := 4) (v := ?_) rfl (by kernel_rfl) (by kernel_rfl) (by kernel_rfl) (fun _ _ _ h => h) (Or.inl ⟨by rfl, ?_⟩) ?_
          rotate_left
          · intro w'
            go_simp
            first | done | with_reducible rfl
          try simp only [Act.put, List.setIfInBounds_toArray, List.set_cons_zero, List.set_cons_succ]
          refine wpAnyP_takeT (i := 5) (v := ?_) rfl (by kernel_rfl) (by kernel_rfl) (by kernel_rfl) (fun _ _ _ h => h) (Or.inl ⟨by rfl, ?_⟩) ?_
          rotate_left
          · intro w'
            go_simp
            first | done | with_reducible rfl
          try simp only [Act.put, List.setIfInBounds_toArray, List.set_cons_zero, List.set_cons_succ]
          refine wpAnyP_take (i := 6) (v := ?_) rfl (by kernel_rfl) (by kernel_rfl) (by kernel_rfl) (by kernel_rfl) (fun _ _ _ h => h) (Or.inl ⟨by rfl, ?_⟩) (by assumption) ?_
          rotate_left
          · intro w' hw'
            (try have hC := hw'.2)
            (try have hC9 := hw'.1)
            go_simp
            first | done | with_reducible rfl
          try simp only [Act.put, List.setIfInBounds_toArray, List.set_cons_zero, List.set_cons_succ]
          simp only [List.getElem_toArray, List.getElem_cons_succ, List.getElem_cons_zero, Act.put, List.setIfInBounds_toArray, List.set_cons_zero, List.set_cons_succ]
          clear q1 q2 p1 p2
          have hR9 := ho9.rd
          refine wpAnyP_ready (rs := [7, 11]) (by kernel_rfl) (by simp) ?_
          refine AllReadyP.cons rfl (fun K hK => ?_) (AllReadyP.cons rfl (fun K hK => ?_) AllReadyP.nil)
          · go_simp
            refine Calls.mono (M2.out A9 c9 W6.drew (hR9.ext ((Ext.refl W6).drew)) (hRz.ext (hx9.trans ((Ext.refl W6).drew)))) ?_
            rintro e w7 ⟨u8, rfl, ho7, hb7⟩; obtain ⟨A8, c8, rfl, hR8⟩ := (ho7).form
            have hx7 := ((Ext.refl W6).drew).trans hb7
            refine hK.out _ _ (fun _ _ => near _ hx7) ?_
            clear hK K
            refine wpAnyP_takeT (i := 8) (v := ?_) rfl (by kernel_rfl) (by kernel_rfl) (by kernel_rfl) (fun _ _ _ h => h) (Or.inl ⟨by rfl, ?_⟩) ?_
            rotate_left
            · intro w'
              go_simp
              first | done | with_reducible rfl
            try simp only [Act.put, List.setIfInBounds_toArray, List.set_cons_zero, List.set_cons_succ]
            refine wpAnyP_takeT (i := 9) (v := ?_) rfl (by kernel_rfl) (by kernel_rfl) (by kernel_rfl) (fun _ _ _ h => h) (Or.inl ⟨by rfl, ?_⟩) ?_
            rotate_left
            · intro w'
              go_simp
              first | done | with_reducible rfl
            try simp only [Act.put, List.setIfInBounds_toArray, List.set_cons_zero, List.set_cons_succ]
            refine wpAnyP_takeT (i := 10) (v := ?_) rfl (by kernel_rfl) (by kernel_rfl) (by kernel_rfl) (fun _ _ _ h => h) (Or.inl ⟨by rfl, ?_⟩) ?_
            rotate_left
            · intro w'
              go_simp
              first | done | with_reducible rfl
            try simp only [Act.put, List.setIfInBounds_toArray, List.set_cons_zero, List.set_cons_succ]
            obtain ⟨w8, hV8, hB8, kz8, lz8⟩ := box1 w7 #[.int .i64 0, .slice none 0 0] 56
            have hx8 := hx7.trans hB8
            have hg8 := hx7.size
            have ho8 := ho7.ext hB8
            obtain ⟨w9, hw9, hz9, ho9, hE9⟩ : ∃ w9, w8.setCells w7.heap.size 0 [.int .i64 4, .slice A8 T.length c8] = w9 ∧ Blk w9 w7.heap.size 56 #[.int .i64 4, .slice A8 T.length c8] ∧ Owns EChg w9 W6.heap.size 63 (.slice A8 T.length c8) T ∧ Ext W6 w9 :=
              ⟨_, rfl, kz8.setCells_ [.int .i64 4, .slice A8 T.length c8] 0, ((ho8.setZ kz8 (by decide) 0 _).setZ (kz8.set_ 0 _) (by decide) 1 _).mono (by first | exact Nat.le_refl _ | omega), ext_setCells hx8 hg8 0 _⟩
            simp only [World.setCells, Nat.zero_add, Nat.reduceAdd] at hw9
            have q1 := kz8.cell
            have q2 := kz8.lt
            have q3 := kz8.frozen
            clear q1 q2 q3
            refine wpAnyP_ready (rs := [11]) (by kernel_rfl) (by simp) ?_
            refine AllReadyP.cons rfl (fun K hK => ?_) AllReadyP.nil
            go_simp
            refine hK.out _ _ (fun _ _ => near _ hx8) ?_
            clear hK K hV8
            have q1 := kz8.cell
            have q2 := kz8.lt
            have q3 := kz8.frozen
            refine wpAnyP_ready (rs := [12]) (by kernel_rfl) (by simp) ?_
            refine AllReadyP.cons rfl (fun K hK => ?_) AllReadyP.nil
            go_simp
            (try rw [hw9])
            refine hK.out _ _ (fun _ _ => near _ hE9) ?_
            clear hK K
            refine wpAnyP_takeT (i := 13) (v := ?_) rfl (by kernel_rfl) (by kernel_rfl) (by kernel_rfl) (fun _ _ _ h => h) (Or.inl ⟨by rfl, ?_⟩) ?_
            rotate_left
            · intro w'
              go_simp
              first | done | with_reducible rfl
            try simp only [Act.put, List.setIfInBounds_toArray, List.set_cons_zero, List.set_cons_succ]
            (try simp only [List.getElem_toArray, List.getElem_cons_succ, List.getElem_cons_zero, Act.put, List.setIfInBounds_toArray, List.set_cons_zero, List.set_cons_succ])
            refine wpAnyP_done (by kernel_rfl) ?_ _
            go_wp2
            go_meet
            exact ⟨_, A8, c8, rfl, rfl, hg8, hz9, ho9, hE9⟩
          · obtain ⟨W7, hV7, hB7, kz7, lz7⟩ := box1 W6.drew #[.int .i64 0, .slice none 0 0] 56
            go_simp
            refine hK.out _ _ (fun _ _ => near _ (((Ext.refl W6).drew).trans hB7)) ?_
            clear hK K hV7
            refine wpAnyP_ready (rs := [7]) (by kernel_rfl) (by simp) ?_
            refine AllReadyP.cons rfl (fun K hK => ?_) AllReadyP.nil
            go_simp
            refine Calls.mono (M2.out A9 c9 W7 (hR9.ext (((Ext.refl W6).drew).trans hB7)) (hRz.ext (hx9.trans (((Ext.refl W6).drew).trans hB7)))) ?_
            rintro e w8 ⟨u8, rfl, ho8, hb8⟩; obtain ⟨A8, c8, rfl, hR8⟩ := (ho8).form
            have hx8 := (((Ext.refl W6).drew).trans hB7).trans hb8
            refine hK.out _ _ (fun _ _ => near _ hx8) ?_
            clear hK K
            refine wpAnyP_takeT (i := 8) (v := ?_) rfl (by kernel_rfl) (by kernel_rfl) (by kernel_rfl) (fun _ _ _ h => h) (Or.inl ⟨by rfl, ?_⟩) ?_
            rotate_left
            · intro w'
              go_simp
              first | done | with_reducible rfl
            try simp only [Act.put, List.setIfInBounds_toArray, List.set_cons_zero, List.set_cons_succ]
            refine wpAnyP_takeT (i := 9) (v := ?_) rfl (by kernel_rfl) (by kernel_rfl) (by kernel_rfl) (fun _ _ _ h => h) (Or.inl ⟨by rfl, ?_⟩) ?_
            rotate_left
            · intro w'
              go_simp
              first | done | with_reducible rfl
            try simp only [Act.put, List.setIfInBounds_toArray, List.set_cons_zero, List.set_cons_succ]
            refine wpAnyP_takeT (i := 10) (v := ?_) rfl (by kernel_rfl) (by kernel_rfl) (by kernel_rfl) (fun _ _ _ h => h) (Or.inl ⟨by rfl, ?_⟩) ?_
            rotate_left
            · intro w'
              go_simp
              first | done | with_reducible rfl
            try simp only [Act.put, List.setIfInBounds_toArray, List.set_cons_zero, List.set_cons_succ]
            have kz8 : Blk w8 W6.heap.size 56 #[.int .i64 0, .slice none 0 0] := kz7.ext hb8
            have hs7 : W6.heap.size ≤ W7.heap.size := hB7.size
            have hg8 := Nat.le_refl W6.heap.size
            obtain ⟨w9, hw9, hz9, ho9, hE9⟩ : ∃ w9, w8.setCells W6.heap.size 0 [.int .i64 4, .slice A8 T.length c8] = w9 ∧ Blk w9 W6.heap.size 56 #[.int .i64 4, .slice A8 T.length c8] ∧ Owns EChg w9 W6.heap.size 63 (.slice A8 T.length c8) T ∧ Ext W6 w9 :=
              ⟨_, rfl, kz8.setCells_ [.int .i64 4, .slice A8 T.length c8] 0, ((ho8.setZ kz8 (by decide) 0 _).setZ (kz8.set_ 0 _) (by decide) 1 _).mono (by first | exact Nat.le_refl _ | omega), ext_setCells hx8 hg8 0 _⟩
            simp only [World.setCells, Nat.zero_add, Nat.reduceAdd] at hw9
            have q1 := kz8.cell
            have q2 := kz8.lt
            have q3 := kz8.frozen
            refine wpAnyP_ready (rs := [12]) (by kernel_rfl) (by simp) ?_
            refine AllReadyP.cons rfl (fun K hK => ?_) AllReadyP.nil
            go_simp
            (try rw [hw9])
            refine hK.out _ _ (fun _ _ => near _ hE9) ?_
            clear hK K
            refine wpAnyP_takeT (i := 13) (v := ?_) rfl (by kernel_rfl) (by kernel_rfl) (by kernel_rfl) (fun _ _ _ h => h) (Or.inl ⟨by rfl, ?_⟩) ?_
            rotate_left
            · intro w'
              go_simp
              first | done | with_reducible rfl
            try simp only [Act.put, List.setIfInBounds_toArray, List.set_cons_zero, List.set_cons_succ]
            (try simp only [List.getElem_toArray, List.getElem_cons_succ, List.getElem_cons_zero, Act.put, List.setIfInBounds_toArray, List.set_cons_zero, List.set_cons_succ])
            refine wpAnyP_done (by kernel_rfl) ?_ _
            go_wp2
            go_meet
            exact ⟨_, A8, c8, rfl, rfl, hg8, hz9, ho9, hE9⟩
        case rest =>
          obtain ⟨g2, A8, c8, rfl, rfl, hg8, hz8, ho8, hx8⟩ := hcut
          generalize wc = W7 at *
          have hE7 := ((hE.trans hB5).trans hx9).trans hx8
          have hxr := (hB5.trans hx9).trans hx8
          have hor7 := hor.ext hxr
          have y7 := hE7.size
          have y8 := (hE.trans (hB5.trans hx9)).size
          have hrs7 : Hid (∀ x ∈ rs, Owns EChg W7 W4.heap.size 63 (.slice x.A x.n x.c) T) := Lib.hid (fun x hx => (hrs x hx).ext hxr)
          have ho8' := ho8.mono y8
          clear q1 q2 p1 p2 z1 z2 f1 f2 f3 hRz hH6 hH5 k6 hk5 hz9 ho9 hor hrs M2
          have p1 := hz8.cell
          have p2 := hz8.lt
          have hrk := Lib.hid (show rs.length ≤ 6 by have := Hrk.out; omega)
          go_wp2_with (at_builtin; refine wpList_push rfl (.tmp 82) (.tmp 84) _ (by rfl) W4.heap.size 56 i0 _ 32 Tryz.underlying49 hi0 hz0 hz1 hz2 (by rfl) (.slice Ar rs.length cr) (by rfl) (hor7.ext ((Ext.refl _).alloc _)) W7.heap.size (⟨A8, T.length, c8⟩ : Hs) (by rfl) (Blk.new W7 _ _) (by simp only [maxLen]; have := hrk.out; omega) (by have := hrk.out; omega) (by simp; omega) ?_; intro v9 w9 hv9 hg9 hat9; obtain ⟨A9, d9, rfl, hR9⟩ := hv9.form; have H9 : Hid (_) := Lib.hid (And.intro hv9 hg9); clear hv9 hg9 hat9)
          go_roundg (gk - 1)
          case measure => have := Hkq.out; omega
          case rel =>
            obtain ⟨hv9, hg9⟩ := H9.out
            have hx9 : Ext W4 w9 := ext_grown (hE7.alloc _) (hor7.ext ((Ext.refl _).alloc _)) (Nat.le_refl _) hg9
            refine ⟨k + 1, rs ++ [⟨A8, T.length, c8⟩], A9, d9, by have := Hkq.out; omega, by go_num, by simp, by simp; have := Hrk.out; omega, hv9, ?_, hx9⟩
            intro x hx
            rcases List.mem_append.1 hx with hx | hx
            · exact ((hrs7.out x hx).ext ((Ext.refl _).alloc _)).kepttZ (hor7.ext ((Ext.refl _).alloc _)) (by decide) hg9
            · obtain rfl := List.mem_singleton.1 hx
              exact (ho8'.ext ((Ext.refl _).alloc _)).kepttZ (hor7.ext ((Ext.refl _).alloc _)) (by decide) hg9
    · obtain rfl : k = 6 := by omega
      have hT4 : T.length ≤ 20 := by
        rw [← HT.out]
        exact hP.hl (fun o => by have := hP.le 0 o (by omega); have := hP.le 1 o (by omega); have := hP.le 2 o (by omega); unfold kmax; omega)
      have hTc : hChk 4 T = 0 := by
        rw [← HT.out]
        exact hist_chk hP.log _ (by rw [HT.out]; omega)
      have hTo : ∀ y ∈ T, y.ok 4 = true := by
        rw [← HT.out]
        exact hist_ok hP.log
      have hR := hor.rd
      rw [hrk] at hor ⊢
      clear hkq HT hO4 hH4 hH3 hH
      obtain ⟨w8, rfl⟩ : ∃ w8, w8 = wr := ⟨_, rfl⟩
      go_wp2_with fail
      go_loopg [89] 6 (fun q vi wx => ∃ j : Nat, j + q = 6 ∧ vi = .int .i64 j ∧ Ext w8 wx)
      case atStart => exact ⟨0, by omega, by go_num, Ext.refl _⟩
      case round =>
        obtain ⟨j, hjq, rfl, hE8⟩ := hrel
        have Hjq := Lib.hid hjq
        by_cases hj : j < 6
        · obtain ⟨b, o, A', c', rfl, hb, a0, a1, hRT⟩ := res_at (hR.ext hE8) (fun x hx => (hrs x hx).ext hE8) (k := j) (by omega)
          obtain ⟨b', o', A0, c0, e', _, b0, b1, hRT0⟩ := res_at (hR.ext hE8) (fun x hx => (hrs x hx).ext hE8) (k := 0) (by omega)
          injection e' with e'
          injection e' with e1 e2
          subst e1 e2
          simp only [Nat.zero_mul, Nat.add_zero] at b0 b1
          have hj6 : (j : Int) < 6 := by omega
          obtain ⟨W9, hW9, hB9, hk9, hl9⟩ := box1 wr #[.int .i64 4, .slice A' T.length c'] 56
          have q1 := hk9.cell
          have q2 := hk9.lt
          have b1' := hB9.cell_some b1
          have hbl := Nat.lt_of_lt_of_le hb hB9.size
          go_upto_region 19 with fail
          (try rw [hW9])
          clear hW9 a0 a1 b0 b1
          have near := near_of9 W9
          refine wp_region_P (fun _ => false) (fun w' => Ext W9 w' ∧ ∀ b o, b < W9.heap.size → w'.cell? ⟨b, o, none⟩ = W9.cell? ⟨b, o, none⟩) (by kernel_rfl) (near _ (Ext.refl W9).drew) (fun _ => ?_)
          refine wpAnyP_takeT (i := 0) (v := ?_) rfl (by kernel_rfl) (by kernel_rfl) (by kernel_rfl) (fun _ _ _ h => h) (Or.inl ⟨by rfl, ?_⟩) ?_
          rotate_left
          · intro w'
            go_simp
            first | done | with_reducible rfl
          try simp only [Act.put, List.setIfInBounds_toArray, List.set_cons_zero, List.set_cons_succ]
          refine wpAnyP_take (i := 1) (v := ?_) rfl (by kernel_rfl) (by kernel_rfl) (by kernel_rfl) (by kernel_rfl) (fun _ _ _ h => h) (Or.inl ⟨by rfl, ?_⟩) (by assumption) ?_
          rotate_left
          · intro w' hw'
            (try have hC := hw'.2)
            (try have hC9 := hw'.1)
            go_simp
            first | done | with_reducible rfl
          try simp only [Act.put, List.setIfInBounds_toArray, List.set_cons_zero, List.set_cons_succ]
          refine wpAnyP_takeT (i := 2) (v := ?_) rfl (by kernel_rfl) (by kernel_rfl) (by kernel_rfl) (fun _ _ _ h => h) (Or.inl ⟨by rfl, ?_⟩) ?_
          rotate_left
          · intro w'
            go_simp
            first | done | with_reducible rfl
          try simp only [Act.put, List.setIfInBounds_toArray, List.set_cons_zero, List.set_cons_succ]
          refine wpAnyP_takeT (i := 3) (v := ?_) rfl (by kernel_rfl) (by kernel_rfl) (by kernel_rfl) (fun _ _ _ h => h) (Or.inl ⟨by rfl, ?_⟩) ?_
          rotate_left
          · intro w'
            go_simp
            first | done | with_reducible rfl
          try simp only [Act.put, List.setIfInBounds_toArray, List.set_cons_zero, List.set_cons_succ]
          refine wpAnyP_takeT (i := 4) (v := ?_) rfl (by kernel_rfl) (by kernel_rfl) (by kernel_rfl) (fun _ _ _ h => h) (Or.inl ⟨by rfl, ?_⟩) ?_
          rotate_left
          · intro w'
            go_simp
            first | done | with_reducible rfl
          try simp only [Act.put, List.setIfInBounds_toArray, List.set_cons_zero, List.set_cons_succ]
          refine wpAnyP_take (i := 5) (v := ?_) rfl (by kernel_rfl) (by kernel_rfl) (by kernel_rfl) (by kernel_rfl) (fun _ _ _ h => h) (Or.inl ⟨by rfl, ?_⟩) (by assumption) ?_
          rotate_left
          · intro w' hw'
            (try have hC := hw'.2)
            (try have hC9 := hw'.1)
            go_simp
            first | done | with_reducible rfl
          try simp only [Act.put, List.setIfInBounds_toArray, List.set_cons_zero, List.set_cons_succ]
          simp only [List.getElem_toArray, List.getElem_cons_succ, List.getElem_cons_zero, Act.put, List.setIfInBounds_toArray, List.set_cons_zero, List.set_cons_succ]
          refine wpAnyP_ready (rs := [6]) (by kernel_rfl) (by simp) ?_
          refine AllReadyP.cons rfl (fun K hK => ?_) AllReadyP.nil
          go_simp
          refine Calls.mono (equalChg_same A' A0 c' c0 T W9.drew ((hRT.ext hB9).ext (Ext.refl W9).drew) ((hRT0.ext hB9).ext (Ext.refl W9).drew) (by omega)) ?_
          rintro e w10 ⟨rfl, hb10⟩
          refine hK.out _ _ (fun _ _ => near _ ((Ext.refl W9).drew.trans hb10)) ?_
          clear hK K
          refine wpAnyP_takeT (i := 7) (v := ?_) rfl (by kernel_rfl) (by kernel_rfl) (by kernel_rfl) (fun _ _ _ h => h) (Or.inl ⟨by rfl, ?_⟩) ?_
          rotate_left
          · intro w'
            go_simp
            first | done | with_reducible rfl
          try simp only [Act.put, List.setIfInBounds_toArray, List.set_cons_zero, List.set_cons_succ]
          simp only [List.getElem_toArray, List.getElem_cons_succ, List.getElem_cons_zero, Act.put, List.setIfInBounds_toArray, List.set_cons_zero, List.set_cons_succ]
          refine wpAnyP_done (by kernel_rfl) ?_ _
          go_wp2
          go_roundg (gk - 1)
          case measure => have := Hjq.out; omega
          case rel => exact ⟨j + 1, by have := Hjq.out; omega, by go_num, (hE8.trans hB9).trans ((Ext.refl W9).drew.trans hb10)⟩
        · obtain ⟨b, o, A0, c0, rfl, hb, b0, b1, hRT⟩ := res_at (hR.ext hE8) (fun x hx => (hrs x hx).ext hE8) (k := 0) (by omega)
          simp only [Nat.zero_mul, Nat.add_zero] at b0 b1
          have fc := Contacts_any 4 A0 c0 T wr hRT hTc
          go_wp2_with fail
          refine Calls.mono fc ?_
          clear fc
          rintro e w9 ⟨hb9, cs, hS, hor9⟩
          have hcl := hS.len
          rcases hor9 with ⟨h64, _⟩ | ⟨_, u, ts, rfl, hp, ho9⟩
          · omega
          obtain ⟨A9, c9, rfl, hR9⟩ := ho9.form
          have hchk := plan_of hS hTo (by omega) hp (quo := List.replicate 4 0) rfl (fun q hq => by rw [List.eq_of_mem_replicate hq]; omega)
          obtain ⟨j0, hj0, hy0, hy1, hy2⟩ := info_parts info_intD
          have hmk : ∀ w, (Instr.makeSlice 30 (.int .i64 4) (.int .i64 4)).run Tryz.prog w = .ok (.slice (some ⟨w.heap.size, 0, none⟩) 4 4) (w.alloc (.cells (Array.replicate 4 (.int .i64 0)) 3)) := fun w => run_make1 (n := 4) Tryz.underlying30 hj0 hy0 hy1 (by omega) rfl (by omega) w
          obtain ⟨W10, hW10⟩ : ∃ W10, w9.alloc (.cells (Array.replicate 4 (.int .i64 0)) 3) = W10 := ⟨_, rfl⟩
          have hQ10 : Owns EInt W10 w9.heap.size 3 (.slice (some ⟨w9.heap.size, 0, none⟩) 4 4) (List.replicate 4 0) := by rw [← hW10]; exact Owns.madeInts w9 _ _ 4 (Nat.le_refl _) (by simp only [maxLen]; omega) _ rfl
          have hB10 : Ext w9 W10 := by rw [← hW10]; exact (Ext.refl _).alloc _
          have htl : ts.length ≤ 64 := by rw [hp.length_eq]; omega
          have hpc := pcheck_any (some ⟨w9.heap.size, 0, none⟩) 4 A9 c9 ⟨List.replicate 4 0, ts⟩ W10 ⟨hQ10.rd, hR9.ext hB10, by simp, by show ts.length ≤ 1000000; omega, by simp, ho9.cap⟩
          rw [hchk] at hpc
          unfold Pln.val at hpc
          simp only [List.length_replicate] at hpc
          have HPC := Lib.hid hpc
          have hfin := (((hE4.trans hE).trans hE8).trans hb9).trans hB10
          clear hpc hchk hS hp
          go_wp2_with fail
          (try rw [hW10])
          refine Calls.mono HPC.out ?_
          rintro e w11 ⟨rfl, hb11⟩
          go_wp2
          go_ret
          exact ⟨rfl, hfin.trans hb11⟩
end Go.Proofs.YtemkpimngbbpkaaGreat

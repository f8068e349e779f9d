/- TopMirror, the example: bookings in their order are sorted. · TopMirror, the example: holds in their order are sorted. -/
import Derived.Test.YtmaengcmhopmbaaGreatTaSA
import Derived.Deep.RegionHeld3
import Derived.BigQuiet
namespace Go.Proofs.YtmaengcmhopmbaaGreat
set_option linter.unusedVariables false
set_option linter.unusedSimpArgs false
open Go.RowKit Go.Shelf
attribute [local go_sem] Oper.semAt_some

set_option maxRecDepth 100000 in
set_option maxHeartbeats 2000000 in
theorem bcmp1_any (a b : Bk) (w : World) :
    Calls Tryz.prog 93 #[.agg #[.int .i64 a.con, .int .i64 a.beg, .int .i64 a.en, .int .i64 a.tic], .agg #[.int .i64 b.con, .int .i64 b.beg, .int .i64 b.en, .int .i64 b.tic]] w fun e w' => e = .returned (.int .i64 (bkCmp a b)) ∧ Ext w w' := by
  obtain ⟨W, hW, hB, hk, hk2, hlt, hlt2⟩ := box2 w #[.int .i64 a.con, .int .i64 a.beg, .int .i64 a.en, .int .i64 a.tic] #[.int .i64 b.con, .int .i64 b.beg, .int .i64 b.en, .int .i64 b.tic] 118 118
  have hc := hk.cell
  have hc2 := hk2.cell
  go_enter Tryz.func93, Tryz.ntmps93
  go_wp2_with fail
  clear hW
  have hN := Near.refl W
  go_region_held3 (fun w' => Ext W w' ∧ ∀ b o, b < W.heap.size → w'.cell? ⟨b, o, none⟩ = W.cell? ⟨b, o, none⟩) (first | exact hN.drew | exact near_alloc (by assumption) _ | assumption)
    (first | (go_at_call 95; refine (cmp_any _ _ _).mono ?_; rintro e w1 ⟨rfl, rfl⟩) | (go_at_call 94; refine (or_any _ 2 [cmpI a.con b.con, cmpI a.beg b.beg] _ (by first | exact rd_blk2 (Blk.new _ _ _) | exact rd_new2 _ _ _ _) (by simp)).mono ?_; rintro e w1 ⟨rfl, rfl⟩))
  all_goals
    clear hN
    go_wp2
    go_ret
    exact ⟨rfl, hB.trans (And.left ‹Ext W _ ∧ _›)⟩

set_option maxRecDepth 100000 in
set_option maxHeartbeats 4000000 in
theorem bins1_any (A : Option Addr) (c : Nat) (l : List Bk) (w : World) (hR : Rd EBk w A l) (hm : l.length ≤ 12) (hs : ∀ k (h : k + 1 < l.length), ¬ bkCmp l[k + 1] l[k] < 0) :
    Calls Tryz.prog 150 #[.slice A l.length c, .int .i64 0, .int .i64 l.length, .func (.func 93) #[] #[]] w fun e w' => e = .returned (.tuple #[]) ∧ Ext w w' := by
  have Hs := Lib.hid hs
  clear hs
  go_enter Tryz.func150, Tryz.ntmps150
  go_wp2_with fail
  go_loopg [8] (l.length + 1) (fun n v wr => ∃ i : Nat, i + n = l.length + 1 ∧ v = .int .i64 ((i : Int) + 1) ∧ Ext w wr)
  case atStart => exact ⟨0, by omega, by go_num, Ext.refl _⟩
  case round =>
    obtain ⟨i, hik, rfl, hx⟩ := hrel
    have Hik := Lib.hid hik
    have hil : i ≤ l.length + 1 := by omega
    clear hik
    obtain ⟨wo, rfl⟩ : ∃ wo, wo = wr := ⟨_, rfl⟩
    by_cases hlt : i + 1 < l.length
    · obtain ⟨b, o, e1, hb, c0, c1, c2, c3⟩ := (hR.ext hx).bk (k := i) (by omega)
      obtain ⟨b', o', e2, hb', d0, d1, d2, d3⟩ := (hR.ext hx).bk hlt
      obtain ⟨rfl, rfl⟩ : b = b' ∧ o = o' := by rw [e1] at e2; injection e2 with e2; injection e2 with e3 e4; exact ⟨e3, e4⟩
      subst e1
      have Hc := Lib.hid (Hs.out i hlt)
      have ei : ((i : Int) + 1 - 1) = (i : Int) := by omega
      have en : ((i : Int) + 1).toNat = i + 1 := by omega
      generalize l[i + 1] = y at *
      generalize l[i] = x at *
      obtain ⟨v, hv⟩ : ∃ v, bkCmp y x = v := ⟨_, rfl⟩
      have hcQ := fun d os => bcmp1_any y x (Sort.grow (redrawn wo d) os)
      simp only [hv] at hcQ
      rw [hv] at Hc
      have dv : decide (v < 0) = false := decide_eq_false (by have := Hc.out; omega)
      have di : decide (0 < (i : Int) + 1) = true := decide_eq_true (by omega)
      clear hv
      obtain ⟨gko, rfl⟩ : ∃ g, g = gk := ⟨_, rfl⟩
      go_wp2_with fail
      go_loopg [9] 1 (fun n v wr => v = .int .i64 ((i : Int) + 1) ∧ wr = wo)
      case atStart => exact ⟨rfl, rfl⟩
      case round =>
        obtain ⟨rfl, rfl⟩ := hrel
        have hN := Near.refl wr
        have hC := hN.2
        go_wp2_with fail
        have hq := quiet_near hN
        refine wp_region_quiet_below (by kernel_rfl) (by kernel_rfl) ?_
        repeat (first | go_big_quiet_skip | (go_big_quiet_want; go_big_quiet_op; first | go_big_quiet_on | (apply Exists.intro; refine ⟨fun _ => ?_, ?_⟩; (focus (first | (go_at_call 93; with_reducible exact Calls.regrown_of (hcQ _ _)))); go_big_quiet_on)))
        refine wpQuiet_nil ?_
        intro w1 hw1
        clear hq
        replace hw1 := quiet_ext hw1
        replace hN := hN.step hw1
        have hC := hN.2
        go_wp2
        go_roundg (gko - 1)
        case measure => have := Hik.out; omega
        case rel => exact ⟨i + 1, by have := Hik.out; omega, by go_num, hx.trans hN.1⟩
    · go_wp2
      go_end0
      exact ⟨rfl, hx⟩

set_option maxRecDepth 100000 in
set_option maxHeartbeats 4000000 in
theorem bstable1_any (A : Option Addr) (c : Nat) (l : List Bk) (w : World) (hR : Rd EBk w A l) (hm : l.length ≤ 12) (hs : ∀ k (h : k + 1 < l.length), ¬ bkCmp l[k + 1] l[k] < 0) :
    Calls Tryz.prog 92 #[.slice A l.length c, .func (.func 93) #[] #[]] w fun e w' => e = .returned (.tuple #[]) ∧ Ext w w' := by
  have hst : ∀ w, Rd EBk w A l → Calls Tryz.prog 128 #[.slice A l.length c, .int .i64 l.length, .func (.func 93) #[] #[]] w fun e w' => e = .returned (.tuple #[]) ∧ Ext w w' := fun w hR => by
    have hi := bins1_any A c l w hR hm hs
    have e1 : decide ((20 : Int) ≤ (l.length : Int)) = false := decide_eq_false (by omega)
    have e2 : decide ((20 : Int) < (l.length : Int)) = false := decide_eq_false (by omega)
    clear hs
    go_enter Tryz.func128, Tryz.ntmps128
    go_wp2_with fail
    go_loopg [7, 8] 0 (fun q a b wr => a = .int .i64 0 ∧ b = .int .i64 20 ∧ wr = w)
    case atStart => exact ⟨rfl, rfl, rfl⟩
    case round =>
      obtain ⟨rfl, rfl, rfl⟩ := hrel
      go_wp2_with fail
      refine hi.mono ?_
      rintro e w1 ⟨rfl, hb1⟩
      go_wp2_with fail
      go_loopg [6, 7, 8] 0 (fun q s a b wr => s = .int .i64 20 ∧ a = .int .i64 0 ∧ b = .int .i64 20 ∧ wr = w1)
      case atStart => exact ⟨rfl, rfl, rfl, rfl⟩
      case round =>
        obtain ⟨rfl, rfl, rfl, rfl⟩ := hrel
        go_wp2_with fail
        go_end0
        exact ⟨rfl, hb1⟩
  clear hs
  go_enter Tryz.func92, Tryz.ntmps92
  go_wp2_with fail
  refine (hst _ hR).mono ?_
  rintro e w1 ⟨rfl, hb1⟩
  go_wp2_with fail
  go_end0
  exact ⟨rfl, hb1⟩

set_option maxRecDepth 100000 in
set_option maxHeartbeats 2000000 in
theorem bcmp2_any (a b : Bk) (w : World) :
    Calls Tryz.prog 98 #[.agg #[.int .i64 a.con, .int .i64 a.beg, .int .i64 a.en, .int .i64 a.tic], .agg #[.int .i64 b.con, .int .i64 b.beg, .int .i64 b.en, .int .i64 b.tic]] w fun e w' => e = .returned (.int .i64 (bkCmp a b)) ∧ Ext w w' := by
  obtain ⟨W, hW, hB, hk, hk2, hlt, hlt2⟩ := box2 w #[.int .i64 a.con, .int .i64 a.beg, .int .i64 a.en, .int .i64 a.tic] #[.int .i64 b.con, .int .i64 b.beg, .int .i64 b.en, .int .i64 b.tic] 118 118
  have hc := hk.cell
  have hc2 := hk2.cell
  go_enter Tryz.func98, Tryz.ntmps98
  go_wp2_with fail
  clear hW
  have hN := Near.refl W
  go_region_held3 (fun w' => Ext W w' ∧ ∀ b o, b < W.heap.size → w'.cell? ⟨b, o, none⟩ = W.cell? ⟨b, o, none⟩) (first | exact hN.drew | exact near_alloc (by assumption) _ | assumption)
    (first | (go_at_call 95; refine (cmp_any _ _ _).mono ?_; rintro e w1 ⟨rfl, rfl⟩) | (go_at_call 94; refine (or_any _ 2 [cmpI a.con b.con, cmpI a.beg b.beg] _ (by first | exact rd_blk2 (Blk.new _ _ _) | exact rd_new2 _ _ _ _) (by simp)).mono ?_; rintro e w1 ⟨rfl, rfl⟩))
  all_goals
    clear hN
    go_wp2
    go_ret
    exact ⟨rfl, hB.trans (And.left ‹Ext W _ ∧ _›)⟩

set_option maxRecDepth 100000 in
set_option maxHeartbeats 4000000 in
theorem bins2_any (A : Option Addr) (c : Nat) (l : List Bk) (w : World) (hR : Rd EBk w A l) (hm : l.length ≤ 12) (hs : ∀ k (h : k + 1 < l.length), ¬ bkCmp l[k + 1] l[k] < 0) :
    Calls Tryz.prog 150 #[.slice A l.length c, .int .i64 0, .int .i64 l.length, .func (.func 98) #[] #[]] w fun e w' => e = .returned (.tuple #[]) ∧ Ext w w' := by
  have Hs := Lib.hid hs
  clear hs
  go_enter Tryz.func150, Tryz.ntmps150
  go_wp2_with fail
  go_loopg [8] (l.length + 1) (fun n v wr => ∃ i : Nat, i + n = l.length + 1 ∧ v = .int .i64 ((i : Int) + 1) ∧ Ext w wr)
  case atStart => exact ⟨0, by omega, by go_num, Ext.refl _⟩
  case round =>
    obtain ⟨i, hik, rfl, hx⟩ := hrel
    have Hik := Lib.hid hik
    have hil : i ≤ l.length + 1 := by omega
    clear hik
    obtain ⟨wo, rfl⟩ : ∃ wo, wo = wr := ⟨_, rfl⟩
    by_cases hlt : i + 1 < l.length
    · obtain ⟨b, o, e1, hb, c0, c1, c2, c3⟩ := (hR.ext hx).bk (k := i) (by omega)
      obtain ⟨b', o', e2, hb', d0, d1, d2, d3⟩ := (hR.ext hx).bk hlt
      obtain ⟨rfl, rfl⟩ : b = b' ∧ o = o' := by rw [e1] at e2; injection e2 with e2; injection e2 with e3 e4; exact ⟨e3, e4⟩
      subst e1
      have Hc := Lib.hid (Hs.out i hlt)
      have ei : ((i : Int) + 1 - 1) = (i : Int) := by omega
      have en : ((i : Int) + 1).toNat = i + 1 := by omega
      generalize l[i + 1] = y at *
      generalize l[i] = x at *
      obtain ⟨v, hv⟩ : ∃ v, bkCmp y x = v := ⟨_, rfl⟩
      have hcQ := fun d os => bcmp2_any y x (Sort.grow (redrawn wo d) os)
      simp only [hv] at hcQ
      rw [hv] at Hc
      have dv : decide (v < 0) = false := decide_eq_false (by have := Hc.out; omega)
      have di : decide (0 < (i : Int) + 1) = true := decide_eq_true (by omega)
      clear hv
      obtain ⟨gko, rfl⟩ : ∃ g, g = gk := ⟨_, rfl⟩
      go_wp2_with fail
      go_loopg [9] 1 (fun n v wr => v = .int .i64 ((i : Int) + 1) ∧ wr = wo)
      case atStart => exact ⟨rfl, rfl⟩
      case round =>
        obtain ⟨rfl, rfl⟩ := hrel
        have hN := Near.refl wr
        have hC := hN.2
        go_wp2_with fail
        have hq := quiet_near hN
        refine wp_region_quiet_below (by kernel_rfl) (by kernel_rfl) ?_
        repeat (first | go_big_quiet_skip | (go_big_quiet_want; go_big_quiet_op; first | go_big_quiet_on | (apply Exists.intro; refine ⟨fun _ => ?_, ?_⟩; (focus (first | (go_at_call 98; with_reducible exact Calls.regrown_of (hcQ _ _)))); go_big_quiet_on)))
        refine wpQuiet_nil ?_
        intro w1 hw1
        clear hq
        replace hw1 := quiet_ext hw1
        replace hN := hN.step hw1
        have hC := hN.2
        go_wp2
        go_roundg (gko - 1)
        case measure => have := Hik.out; omega
        case rel => exact ⟨i + 1, by have := Hik.out; omega, by go_num, hx.trans hN.1⟩
    · go_wp2
      go_end0
      exact ⟨rfl, hx⟩

set_option maxRecDepth 100000 in
set_option maxHeartbeats 4000000 in
theorem bstable2_any (A : Option Addr) (c : Nat) (l : List Bk) (w : World) (hR : Rd EBk w A l) (hm : l.length ≤ 12) (hs : ∀ k (h : k + 1 < l.length), ¬ bkCmp l[k + 1] l[k] < 0) :
    Calls Tryz.prog 92 #[.slice A l.length c, .func (.func 98) #[] #[]] w fun e w' => e = .returned (.tuple #[]) ∧ Ext w w' := by
  have hst : ∀ w, Rd EBk w A l → Calls Tryz.prog 128 #[.slice A l.length c, .int .i64 l.length, .func (.func 98) #[] #[]] w fun e w' => e = .returned (.tuple #[]) ∧ Ext w w' := fun w hR => by
    have hi := bins2_any A c l w hR hm hs
    have e1 : decide ((20 : Int) ≤ (l.length : Int)) = false := decide_eq_false (by omega)
    have e2 : decide ((20 : Int) < (l.length : Int)) = false := decide_eq_false (by omega)
    clear hs
    go_enter Tryz.func128, Tryz.ntmps128
    go_wp2_with fail
    go_loopg [7, 8] 0 (fun q a b wr => a = .int .i64 0 ∧ b = .int .i64 20 ∧ wr = w)
    case atStart => exact ⟨rfl, rfl, rfl⟩
    case round =>
      obtain ⟨rfl, rfl, rfl⟩ := hrel
      go_wp2_with fail
      refine hi.mono ?_
      rintro e w1 ⟨rfl, hb1⟩
      go_wp2_with fail
      go_loopg [6, 7, 8] 0 (fun q s a b wr => s = .int .i64 20 ∧ a = .int .i64 0 ∧ b = .int .i64 20 ∧ wr = w1)
      case atStart => exact ⟨rfl, rfl, rfl, rfl⟩
      case round =>
        obtain ⟨rfl, rfl, rfl, rfl⟩ := hrel
        go_wp2_with fail
        go_end0
        exact ⟨rfl, hb1⟩
  clear hs
  go_enter Tryz.func92, Tryz.ntmps92
  go_wp2_with fail
  refine (hst _ hR).mono ?_
  rintro e w1 ⟨rfl, hb1⟩
  go_wp2_with fail
  go_end0
  exact ⟨rfl, hb1⟩

end Go.Proofs.YtmaengcmhopmbaaGreat

namespace Go.Proofs.YtmaengcmhopmbaaGreat
set_option linter.unusedVariables false
set_option linter.unusedSimpArgs false
open Go.RowKit Go.Shelf
attribute [local go_sem] Oper.semAt_some

structure Hd where
  nod : Int
  fr : Int
  til : Int
  siz : Int
  tic : Int
def Hd.cells (b : Hd) : List Value := [.int .i64 b.nod, .int .i64 b.fr, .int .i64 b.til, .int .i64 b.siz, .int .i64 b.tic]
def Hd.val (b : Hd) : Value := .agg #[.int .i64 b.nod, .int .i64 b.fr, .int .i64 b.til, .int .i64 b.siz, .int .i64 b.tic]
def EHd : Elt Hd := ⟨Hd.cells, 5, fun _ => rfl, by omega, fun x u hu => by simp [Hd.cells] at hu; rcases hu with h | h | h | h | h <;> subst h <;> rfl⟩
theorem Rd.hd {w : World} {A : Option Addr} {l : List Hd} (h : Rd EHd w A l) {k : Nat} (hk : k < l.length) : ∃ b o, A = some ⟨b, o, none⟩ ∧ b < w.heap.size ∧
    w.cell? ⟨b, o + k * 5, none⟩ = some (.int .i64 l[k].nod) ∧ w.cell? ⟨b, o + k * 5 + 1, none⟩ = some (.int .i64 l[k].fr) ∧ w.cell? ⟨b, o + k * 5 + 2, none⟩ = some (.int .i64 l[k].til) ∧ w.cell? ⟨b, o + k * 5 + 3, none⟩ = some (.int .i64 l[k].siz) ∧ w.cell? ⟨b, o + k * 5 + 4, none⟩ = some (.int .i64 l[k].tic) := by
  obtain ⟨b, o, rfl, hb, hc⟩ := h.at hk
  exact ⟨b, o, rfl, hb, hc 0 _ rfl, hc 1 _ rfl, hc 2 _ rfl, hc 3 _ rfl, hc 4 _ rfl⟩

def hdCmp (a b : Hd) : Int := orL [cmpI a.nod b.nod, cmpI a.fr b.fr, cmpI a.til b.til, cmpI a.tic b.tic, cmpI a.siz b.siz]
theorem rd_blk5 {w : World} {g : Nat} {t : TypeId} {a b c d e : Int} (h : Blk w g t #[.int .i64 a, .int .i64 b, .int .i64 c, .int .i64 d, .int .i64 e]) : Rd EInt w (some ⟨g, 0, none⟩) [a, b, c, d, e] := by
  refine ⟨rfl, fun _ => ⟨_, rfl, h.lt, fun j u hu => ?_⟩⟩
  rw [Addr.add_lit, Nat.zero_add, h.cell]
  rw [← hu]
  match j with
  | 0 | 1 | 2 | 3 | 4 => rfl
  | j + 5 => rfl
theorem rd_new5 (W : World) (t : TypeId) (a b c d e : Int) : Rd EInt (W.alloc (.cells #[.int .i64 a, .int .i64 b, .int .i64 c, .int .i64 d, .int .i64 e] t)).drew (some ⟨W.heap.size, 0, none⟩) [a, b, c, d, e] := rd_blk5 (t := t) (show Blk (W.alloc (.cells #[.int .i64 a, .int .i64 b, .int .i64 c, .int .i64 d, .int .i64 e] t)).drew W.heap.size t #[.int .i64 a, .int .i64 b, .int .i64 c, .int .i64 d, .int .i64 e] from Blk.new W t _)
set_option maxRecDepth 100000 in
set_option maxHeartbeats 8000000 in
theorem hcmp2_any (a b : Hd) (w : World) :
    Calls Tryz.prog 100 #[.agg #[.int .i64 a.nod, .int .i64 a.fr, .int .i64 a.til, .int .i64 a.siz, .int .i64 a.tic], .agg #[.int .i64 b.nod, .int .i64 b.fr, .int .i64 b.til, .int .i64 b.siz, .int .i64 b.tic]] w fun e w' => e = .returned (.int .i64 (hdCmp a b)) ∧ Ext w w' := by
  obtain ⟨W, hW, hB, hk, hk2, hlt, hlt2⟩ := box2 w #[.int .i64 a.nod, .int .i64 a.fr, .int .i64 a.til, .int .i64 a.siz, .int .i64 a.tic] #[.int .i64 b.nod, .int .i64 b.fr, .int .i64 b.til, .int .i64 b.siz, .int .i64 b.tic] 167 167
  have hc := hk.cell
  have hc2 := hk2.cell
  go_enter Tryz.func100, Tryz.ntmps100
  go_wp2_with fail
  clear hW
  have hN := Near.refl W
  go_region_held3 (fun w' => Ext W w' ∧ ∀ b o, b < W.heap.size → w'.cell? ⟨b, o, none⟩ = W.cell? ⟨b, o, none⟩) (first | exact hN.drew | exact near_alloc (by assumption) _ | assumption)
    (first | (go_at_call 95; refine (cmp_any _ _ _).mono ?_; rintro e w1 ⟨rfl, rfl⟩) | (go_at_call 94; refine (or_any _ 5 [cmpI a.nod b.nod, cmpI a.fr b.fr, cmpI a.til b.til, cmpI a.tic b.tic, cmpI a.siz b.siz] _ (by first | exact rd_blk5 (Blk.new _ _ _) | exact rd_new5 _ _ _ _ _ _ _) (by simp)).mono ?_; rintro e w1 ⟨rfl, rfl⟩))
  all_goals
    clear hN
    go_wp2
    go_ret
    exact ⟨rfl, hB.trans (And.left ‹Ext W _ ∧ _›)⟩

set_option maxRecDepth 100000 in
set_option maxHeartbeats 4000000 in
theorem hins2_any (A : Option Addr) (c : Nat) (l : List Hd) (w : World) (hR : Rd EHd w A l) (hm : l.length ≤ 12) (hs : ∀ k (h : k + 1 < l.length), ¬ hdCmp l[k + 1] l[k] < 0) :
    Calls Tryz.prog 152 #[.slice A l.length c, .int .i64 0, .int .i64 l.length, .func (.func 100) #[] #[]] w fun e w' => e = .returned (.tuple #[]) ∧ Ext w w' := by
  have Hs := Lib.hid hs
  clear hs
  go_enter Tryz.func152, Tryz.ntmps152
  go_wp2_with fail
  go_loopg [8] (l.length + 1) (fun n v wr => ∃ i : Nat, i + n = l.length + 1 ∧ v = .int .i64 ((i : Int) + 1) ∧ Ext w wr)
  case atStart => exact ⟨0, by omega, by go_num, Ext.refl _⟩
  case round =>
    obtain ⟨i, hik, rfl, hx⟩ := hrel
    have Hik := Lib.hid hik
    have hil : i ≤ l.length + 1 := by omega
    clear hik
    obtain ⟨wo, rfl⟩ : ∃ wo, wo = wr := ⟨_, rfl⟩
    by_cases hlt : i + 1 < l.length
    · obtain ⟨b, o, e1, hb, c0, c1, c2, c3, c4⟩ := (hR.ext hx).hd (k := i) (by omega)
      obtain ⟨b', o', e2, hb', d0, d1, d2, d3, d4⟩ := (hR.ext hx).hd hlt
      obtain ⟨rfl, rfl⟩ : b = b' ∧ o = o' := by rw [e1] at e2; injection e2 with e2; injection e2 with e3 e4; exact ⟨e3, e4⟩
      subst e1
      have Hc := Lib.hid (Hs.out i hlt)
      have ei : ((i : Int) + 1 - 1) = (i : Int) := by omega
      have en : ((i : Int) + 1).toNat = i + 1 := by omega
      generalize l[i + 1] = y at *
      generalize l[i] = x at *
      obtain ⟨v, hv⟩ : ∃ v, hdCmp y x = v := ⟨_, rfl⟩
      have hcQ := fun d os => hcmp2_any y x (Sort.grow (redrawn wo d) os)
      simp only [hv] at hcQ
      rw [hv] at Hc
      have dv : decide (v < 0) = false := decide_eq_false (by have := Hc.out; omega)
      have di : decide (0 < (i : Int) + 1) = true := decide_eq_true (by omega)
      clear hv
      obtain ⟨gko, rfl⟩ : ∃ g, g = gk := ⟨_, rfl⟩
      go_wp2_with fail
      go_loopg [9] 1 (fun n v wr => v = .int .i64 ((i : Int) + 1) ∧ wr = wo)
      case atStart => exact ⟨rfl, rfl⟩
      case round =>
        obtain ⟨rfl, rfl⟩ := hrel
        have hN := Near.refl wr
        have hC := hN.2
        go_wp2_with fail
        have hq := quiet_near hN
        refine wp_region_quiet_below (by kernel_rfl) (by kernel_rfl) ?_
        repeat (first | go_big_quiet_skip | (go_big_quiet_want; go_big_quiet_op; first | go_big_quiet_on | (apply Exists.intro; refine ⟨fun _ => ?_, ?_⟩; (focus (first | (go_at_call 100; with_reducible exact Calls.regrown_of (hcQ _ _)))); go_big_quiet_on)))
        refine wpQuiet_nil ?_
        intro w1 hw1
        clear hq
        replace hw1 := quiet_ext hw1
        replace hN := hN.step hw1
        have hC := hN.2
        go_wp2
        go_roundg (gko - 1)
        case measure => have := Hik.out; omega
        case rel => exact ⟨i + 1, by have := Hik.out; omega, by go_num, hx.trans hN.1⟩
    · go_wp2
      go_end0
      exact ⟨rfl, hx⟩

set_option maxRecDepth 100000 in
set_option maxHeartbeats 4000000 in
theorem hstable2_any (A : Option Addr) (c : Nat) (l : List Hd) (w : World) (hR : Rd EHd w A l) (hm : l.length ≤ 12) (hs : ∀ k (h : k + 1 < l.length), ¬ hdCmp l[k + 1] l[k] < 0) :
    Calls Tryz.prog 99 #[.slice A l.length c, .func (.func 100) #[] #[]] w fun e w' => e = .returned (.tuple #[]) ∧ Ext w w' := by
  have hst : ∀ w, Rd EHd w A l → Calls Tryz.prog 130 #[.slice A l.length c, .int .i64 l.length, .func (.func 100) #[] #[]] w fun e w' => e = .returned (.tuple #[]) ∧ Ext w w' := fun w hR => by
    have hi := hins2_any A c l w hR hm hs
    have e1 : decide ((20 : Int) ≤ (l.length : Int)) = false := decide_eq_false (by omega)
    have e2 : decide ((20 : Int) < (l.length : Int)) = false := decide_eq_false (by omega)
    clear hs
    go_enter Tryz.func130, Tryz.ntmps130
    go_wp2_with fail
    go_loopg [7, 8] 0 (fun q a b wr => a = .int .i64 0 ∧ b = .int .i64 20 ∧ wr = w)
    case atStart => exact ⟨rfl, rfl, rfl⟩
    case round =>
      obtain ⟨rfl, rfl, rfl⟩ := hrel
      go_wp2_with fail
      refine hi.mono ?_
      rintro e w1 ⟨rfl, hb1⟩
      go_wp2_with fail
      go_loopg [6, 7, 8] 0 (fun q s a b wr => s = .int .i64 20 ∧ a = .int .i64 0 ∧ b = .int .i64 20 ∧ wr = w1)
      case atStart => exact ⟨rfl, rfl, rfl, rfl⟩
      case round =>
        obtain ⟨rfl, rfl, rfl, rfl⟩ := hrel
        go_wp2_with fail
        go_end0
        exact ⟨rfl, hb1⟩
  clear hs
  go_enter Tryz.func99, Tryz.ntmps99
  go_wp2_with fail
  refine (hst _ hR).mono ?_
  rintro e w1 ⟨rfl, hb1⟩
  go_wp2_with fail
  go_end0
  exact ⟨rfl, hb1⟩

end Go.Proofs.YtmaengcmhopmbaaGreat

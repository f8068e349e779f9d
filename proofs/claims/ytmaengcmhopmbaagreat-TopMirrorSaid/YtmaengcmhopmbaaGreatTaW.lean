/- TopMirror: the example of the chapter (ledgers). -/
import Derived.Test.YtmaengcmhopmbaaGreatTaUV
import Derived.Test.YtmaengcmhopmbaaGreatTaM
namespace Go.Proofs.YtmaengcmhopmbaaGreat
set_option linter.unusedVariables false
set_option linter.unusedSimpArgs false
open Go.RowKit Go.Shelf
attribute [local go_sem] Oper.semAt_some

def exPM : Pln := ⟨[100, 100, 100], [⟨0, 1, 10, 60, 4, 5, 0⟩, ⟨1, 2, 50, 100, 4, 5, 0⟩]⟩
def exQM : Req := ⟨0, 2, 20, 0, 90, 0, false⟩
def exLM : List Lb := [⟨0, 0, 1099511627776, 0⟩, ⟨1, 0, 1099511627776, 24⟩]
def exFM : Nat → Nat × Con := fun k => if k = 0 then (0, ⟨0, 1, 10, 60, 4, 5, 0⟩) else (1, ⟨1, 2, 50, 100, 4, 5, 0⟩)
def exHM : List Hp := [⟨0, 10, 19, 24⟩, ⟨1, 50, 59, 64⟩]

theorem exampleM_any (w : World) : Calls Tryz.prog 14 #[] w fun e w' => ∃ Aq Ac, e = .returned (.agg #[.slice Aq 3 3, .slice Ac 2 2]) ∧ PlnRd w' Aq 3 Ac 2 exPM ∧ Ext w w' := by
  go_enter Tryz.func14, Tryz.ntmps14
  go_wp2
  go_returns
  refine ⟨_, _, rfl, ⟨rd_blk (l := [100, 100, 100]) (e := 3) ?_, rd_blk (l := exPM.cons) (e := 61) ?_, by simp [exPM], by simp [exPM], by simp [exPM], by simp [exPM]⟩, (((Ext.refl w).alloc _).alloc _).alloc _⟩
  · have := (Blk.new (w.alloc (.cells #[.slice (some ⟨w.heap.size + 1, 0, none⟩) 3 3, .slice (some ⟨w.heap.size + 1 + 1, 0, none⟩) 2 2] 25)) 3 #[.int .i64 100, .int .i64 100, .int .i64 100]).ext ((Ext.refl _).alloc (.cells (ECon.all exPM.cons).toArray 61))
    simp only [World.size_alloc] at this
    exact this
  · have := Blk.new ((w.alloc (.cells #[.slice (some ⟨w.heap.size + 1, 0, none⟩) 3 3, .slice (some ⟨w.heap.size + 1 + 1, 0, none⟩) 2 2] 25)).alloc (.cells #[.int .i64 100, .int .i64 100, .int .i64 100] 3)) 61 (ECon.all exPM.cons).toArray
    simp only [World.size_alloc] at this
    exact this

theorem exM_chk : exPM.chk = 0 := by kernel_rfl
theorem exM_fine : fineR exPM exQM = true := by kernel_rfl
theorem exM_mv0 : MvD exPM exQM ⟨0, 0, 1099511627776, 0⟩ 0 ⟨0, 1, 10, 60, 4, 5, 0⟩ where
  at_ := rfl
  one := by
    intro k c h
    match k with
    | 0 => simp [exPM] at h; subst h; simp
    | 1 => simp [exPM] at h; subst h; simp
    | k + 2 => simp [exPM] at h
  n16 := by decide +kernel
  dst := by decide +kernel
  fit := by decide +kernel
  bd := by decide +kernel
  til := by decide +kernel
  dead := by decide +kernel
  room := by decide +kernel
  cust := rfl
theorem exM_mv1 : MvD exPM exQM ⟨1, 0, 1099511627776, 24⟩ 1 ⟨1, 2, 50, 100, 4, 5, 0⟩ where
  at_ := rfl
  one := by
    intro k c h
    match k with
    | 0 => simp [exPM] at h; subst h; simp
    | 1 => simp [exPM] at h; subst h; simp
    | k + 2 => simp [exPM] at h
  n16 := by decide +kernel
  dst := by decide +kernel
  fit := by decide +kernel
  bd := by decide +kernel
  til := by decide +kernel
  dead := by decide +kernel
  room := by decide +kernel
  cust := rfl
theorem exM_ch : LbCh exPM exQM exLM exFM where
  len := by decide +kernel
  fst := fun _ => rfl
  src := by decide +kernel
  rdy := by decide +kernel
  mv := by
    intro k h
    match k, h with
    | 0, _ => exact exM_mv0
    | 1, _ => exact exM_mv1
  next := by
    intro k h
    match k, h with
    | 0, _ =>
      refine ⟨by decide +kernel, by kernel_rfl, ?_⟩
      intro j hj h2
      obtain rfl : j = 0 := by omega
      kernel_rfl
  last := by
    intro k h
    obtain rfl : k = 1 := by simp [exLM] at h; omega
    kernel_rfl
  ord := by
    intro k h
    match k, h with
    | 0, _ => exact (by decide +kernel : ¬ lbC ⟨1, 0, 1099511627776, 24⟩ ⟨0, 0, 1099511627776, 0⟩ < 0)

theorem acceptM (Aq Ac : Option Addr) (w : World) (h : PlnRd w Aq 3 Ac 2 exPM) :
    Calls Tryz.prog 15 #[.agg #[.slice Aq 3 3, .slice Ac 2 2, .slice none 0 0, .slice none 0 0], .agg #[.int .i64 0, .int .i64 2, .int .i64 20, .int .i64 0, .int .i64 90, .int .i64 0, .bool false], .int .i64 0] w fun e w' => ∃ At ct Ah ch, e = .returned (.tuple #[.agg #[.slice Aq 3 3, .slice Ac 2 2, .slice none 0 0, .slice At 1 ct], .agg #[.bool true, .int .i64 1, .slice none 0 0, .slice none 0 0, .slice none 0 0], .int .i64 0]) ∧ Rd ETk w' At [⟨1, exQM, Ah, 2, ch, 1, 0⟩] ∧ Rd EHp w' Ah exHM ∧ Ext w w' := by
  refine accept_ch Aq 3 Ac 2 exPM exQM exLM exFM exHM 64 w h exM_chk exM_fine ?_ ?_ (by decide) (by decide) exM_ch ?_ rfl ?_ (fun base B w' h' hg => labels_any Aq 3 Ac 2 exPM exQM base B exLM exFM w' h' hg exM_ch) (by decide) rfl (by decide) ?_ ?_ (by kernel_rfl) ?_ ?_
  · intro c hc
    simp [exPM] at hc
    rcases hc with rfl | rfl <;> decide +kernel
  · intro n h0 h1
    have h2 : n < 3 := h1
    rcases (show n = 0 ∨ n = 1 ∨ n = 2 by omega) with rfl | rfl | rfl <;> decide +kernel
  · intro k h
    obtain rfl : k = 1 := by simp [exLM] at h; omega
    kernel_rfl
  · intro k h
    match k, h with
    | 0, _ => exact (by kernel_rfl : (⟨0, 10, 19, 24⟩ : Hp) = hopC exQM ⟨0, 0, 1099511627776, 0⟩ 0 ⟨0, 1, 10, 60, 4, 5, 0⟩)
    | 1, _ => exact (by kernel_rfl : (⟨1, 50, 59, 64⟩ : Hp) = hopC exQM ⟨1, 0, 1099511627776, 24⟩ 1 ⟨1, 2, 50, 100, 4, 5, 0⟩)
  · intro k h
    match k, h with
    | 0, _ => exact (by decide +kernel : (0 : Int) ≤ 0 ∧ (0 : Int) < exPM.cons.length)
    | 1, _ => exact (by decide +kernel : (0 : Int) ≤ 1 ∧ (1 : Int) < exPM.cons.length)
  · intro k h
    match k, h with
    | 0, _ => decide +kernel
    | 1, _ => decide +kernel
  · intro k h
    match k, h with
    | 0, _ => exact (by decide +kernel : ¬ bkCmp ⟨1, 50, 59, 1⟩ ⟨0, 10, 19, 1⟩ < 0)
  · intro k h
    match k, h with
    | 0, _ => exact (by decide +kernel : ¬ hdCmp ⟨1, 10, 59, 20, 1⟩ ⟨0, 0, 19, 20, 1⟩ < 0)

set_option maxRecDepth 100000 in
set_option maxHeartbeats 8000000 in
theorem awakeM_any (w : World) :
    Calls Tryz.prog 6 #[] w fun e w' => e = .returned (.bool true) ∧ Ext w w' := by
  go_enter Tryz.func6, Tryz.ntmps6
  go_wp2_with fail
  refine (exampleM_any _).mono ?_
  rintro e w1 ⟨Aq, Ac, rfl, hp, hb1⟩
  go_wp2_with fail
  refine (lNew_any Aq 3 Ac 2 exPM _ hp exM_chk).mono ?_
  rintro e w2 ⟨rfl, hb2⟩
  have hp2 := hp.ext hb2
  go_wp2_with fail
  refine (acceptM Aq Ac _ (hp2.ext ((Ext.refl _).alloc _))).mono ?_
  rintro e w3 ⟨At, ct, Ah, ch, rfl, hT, hH, hb3⟩
  obtain ⟨b, o, rfl, hb, hcs⟩ := hT.at (k := 0) (by simp)
  obtain ⟨bh, oh, rfl, hbh, hch⟩ := hH.at (k := 1) (by decide)
  have t8 := hcs 8 _ rfl
  have h3 : w3.cell? ⟨bh, oh + 4 + 3, none⟩ = some (.int .i64 64) := hch 3 _ rfl
  have h4 : w3.cell? ⟨bh, oh + 7, none⟩ = some (.int .i64 64) := h3
  simp only [List.getElem_cons_zero, Nat.zero_mul, Nat.add_zero] at t8
  clear hcs hch
  go_wp2
  go_ret
  exact ⟨rfl, ((hb1.trans hb2).trans ((Ext.refl _).alloc _)).trans (hb3.trans (((Ext.refl _).alloc _).alloc _))⟩

end Go.Proofs.YtmaengcmhopmbaaGreat

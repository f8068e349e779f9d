/- Security: a bundle's value; bundle.checkPayload. · Security: bundle.checkFlags. · Security: what makes a bundle valid; what protecting and verifying compute; the plain law that joins them. · Update: valid, follows. -/
import Derived.BigRegion
import Derived.Test.YtemkpimngbbpkaaGreatTopR01
import Derived.Test.YtemkpimngbbpkaaGreatTopR06
namespace Go.Proofs.YtemkpimngbbpkaaGreat
set_option linter.unusedVariables false
set_option linter.unusedSimpArgs false
set_option linter.unusedVariables false
set_option linter.unusedSimpArgs false
open Go.RowKit Go.Shelf
attribute [local go_sem] Oper.semAt_some

/-- The cells of a bundle whose blocks lie at A. -/
def Bu.cells (b : Bu) (A : Option Addr) (c : Nat) : Array Value := #[.int .i64 b.src, .int .i64 b.cr, .int .i64 b.seq, .int .i64 b.off, .int .i64 b.tot, .int .i64 b.dk, .int .i64 b.dn, .int .i64 b.life, .int .i64 b.prio, .int .i64 b.flags, .slice A b.blocks.length c, strV b.pay]
def payE (off tot : Int) (n : Nat) : Int := if 4096 < n then 4 else if 0 < tot ∧ ¬ (1 ≤ (n : Int) ∧ (n : Int) ≤ tot - off) then 10 else 0

set_option maxHeartbeats 8000000 in
theorem chkPay_any (b : Bu) (A : Option Addr) (cap : Nat) (w : World) (h0 : 0 ≤ b.off ∧ b.off ≤ 4096) (h1 : 0 ≤ b.tot ∧ b.tot ≤ 4096) :
    Calls Tryz.prog 178 #[.agg (b.cells A cap)] w fun e w' => e = .returned (.int .i64 (payE b.off b.tot b.pay.length)) ∧ Ext w w' := by
  obtain ⟨src, cr, seq, off, tot, dk, dn, life, prio, flags, bl, pay⟩ := b
  unfold Bu.cells strV
  dsimp only at *
  obtain ⟨sv, hsv, hsz⟩ : ∃ sv : ByteArray, ⟨pay.toArray⟩ = sv ∧ sv.size = pay.length := ⟨_, rfl, by show pay.toArray.size = pay.length; simp⟩
  rw [hsv]
  clear hsv
  generalize pay.length = n at *
  obtain ⟨W, hW, hB, hk, hlt⟩ := box1 w #[.int .i64 src, .int .i64 cr, .int .i64 seq, .int .i64 off, .int .i64 tot, .int .i64 dk, .int .i64 dn, .int .i64 life, .int .i64 prio, .int .i64 flags, .slice A bl.length cap, .string sv] 29
  have hc := hk.cell
  have f1 := fun w => buWithin_any n 1 (tot - off) w
  obtain ⟨v, hv⟩ : ∃ v, payE off tot n = v := ⟨_, rfl⟩
  have HV := Lib.hid hv
  rw [hv]
  clear hv
  by_cases x1 : 4096 < n
  case pos =>
    have HX := Lib.hid (show v = 4 by rw [← HV.out]; unfold payE; rw [if_pos x1])
    go_enter Tryz.func178, Tryz.ntmps178
    go_wp2
    go_ret
    exact ⟨by rw [HX.out]; rfl, hB⟩
  by_cases x2 : 0 < tot
  case neg =>
    have HX := Lib.hid (show v = 0 by rw [← HV.out]; unfold payE; rw [if_neg x1, if_neg (fun h => x2 h.1)])
    go_enter Tryz.func178, Tryz.ntmps178
    go_wp2
    go_ret
    exact ⟨by rw [HX.out]; rfl, hB⟩
  by_cases x3 : 1 ≤ (n : Int) ∧ (n : Int) ≤ tot - off
  case neg =>
    rw [decide_eq_false x3] at f1
    have HX := Lib.hid (show v = 10 by rw [← HV.out]; unfold payE; rw [if_neg x1, if_pos ⟨x2, x3⟩])
    go_enter Tryz.func178, Tryz.ntmps178
    go_wp2_with fail
    refine (f1 _).mono ?_
    rintro e w1 ⟨rfl, rfl⟩
    go_wp2
    go_ret
    exact ⟨by rw [HX.out]; rfl, hB⟩
  rw [decide_eq_true x3] at f1
  have HX := Lib.hid (show v = 0 by rw [← HV.out]; unfold payE; rw [if_neg x1, if_neg (fun h => h.2 x3)])
  go_enter Tryz.func178, Tryz.ntmps178
  go_wp2_with fail
  refine (f1 _).mono ?_
  rintro e w1 ⟨rfl, rfl⟩
  go_wp2
  go_ret
  exact ⟨by rw [HX.out]; rfl, hB⟩

end Go.Proofs.YtemkpimngbbpkaaGreat

namespace Go.Proofs.YtemkpimngbbpkaaGreat
set_option linter.unusedVariables false
set_option linter.unusedSimpArgs false
set_option linter.unusedVariables false
set_option linter.unusedSimpArgs false
open Go.RowKit Go.Shelf
attribute [local go_sem] Oper.semAt_some

def flgE (f tot : Int) : Int := if ¬ (0 ≤ f ∧ f ≤ 127) then 1 else if bits .and .i64 f 4 ≠ 0 ∧ bits .and .i64 f 64 ≠ 0 then 1 else if 0 < tot ∧ bits .and .i64 f 2 ≠ 0 then 1 else 0

set_option maxHeartbeats 8000000 in
theorem chkFlg_any (b : Bu) (A : Option Addr) (cap : Nat) (w : World) :
    Calls Tryz.prog 176 #[.agg (b.cells A cap)] w fun e w' => e = .returned (.int .i64 (flgE b.flags b.tot)) ∧ Ext w w' := by
  obtain ⟨src, cr, seq, off, tot, dk, dn, life, prio, f, bl, pay⟩ := b
  unfold Bu.cells
  dsimp only at *
  generalize strV pay = sv at *
  obtain ⟨W, hW, hB, hk, hlt⟩ := box1 w #[.int .i64 src, .int .i64 cr, .int .i64 seq, .int .i64 off, .int .i64 tot, .int .i64 dk, .int .i64 dn, .int .i64 life, .int .i64 prio, .int .i64 f, .slice A bl.length cap, sv] 29
  have hc := hk.cell
  have f1 := fun w => buWithin_any f 0 127 w
  obtain ⟨v, hv⟩ : ∃ v, flgE f tot = v := ⟨_, rfl⟩
  unfold flgE at hv
  have HV0 := Lib.hid (show flgE f tot = v from hv)
  obtain ⟨a4, g4⟩ : ∃ x, bits .and .i64 f 4 = x := ⟨_, rfl⟩
  obtain ⟨a6, g6⟩ : ∃ x, bits .and .i64 f 64 = x := ⟨_, rfl⟩
  obtain ⟨a2, g2⟩ : ∃ x, bits .and .i64 f 2 = x := ⟨_, rfl⟩
  rw [g4, g6, g2] at hv
  have HV := Lib.hid hv
  rw [HV0.out]
  clear hv HV0
  by_cases x1 : 0 ≤ f ∧ f ≤ 127
  case neg =>
    rw [decide_eq_false x1] at f1
    have HX := Lib.hid (show v = 1 by rw [← HV.out, if_pos x1])
    go_enter Tryz.func176, Tryz.ntmps176
    go_wp2_with fail
    refine (f1 _).mono ?_
    rintro e w1 ⟨rfl, rfl⟩
    go_wp2
    go_ret
    exact ⟨by rw [HX.out]; rfl, hB⟩
  rw [decide_eq_true x1] at f1
  by_cases y4 : a4 = 0
  case pos =>
    have z4 : (a4 == 0) = true := by rw [beq_iff_eq]; exact y4
    by_cases x3 : 0 < tot
    case neg =>
      have HX := Lib.hid (show v = 0 by rw [← HV.out, if_neg (fun h => h x1), if_neg (fun h => h.1 y4), if_neg (fun h => x3 h.1)])
      go_enter Tryz.func176, Tryz.ntmps176
      go_wp2_with fail
      refine (f1 _).mono ?_
      rintro e w1 ⟨rfl, rfl⟩
      go_wp2
      go_ret
      exact ⟨by rw [HX.out]; rfl, hB⟩
    by_cases y2 : a2 = 0
    case pos =>
      have z2 : (a2 == 0) = true := by rw [beq_iff_eq]; exact y2
      have HX := Lib.hid (show v = 0 by rw [← HV.out, if_neg (fun h => h x1), if_neg (fun h => h.1 y4), if_neg (fun h => h.2 y2)])
      go_enter Tryz.func176, Tryz.ntmps176
      go_wp2_with fail
      refine (f1 _).mono ?_
      rintro e w1 ⟨rfl, rfl⟩
      go_wp2
      go_ret
      exact ⟨by rw [HX.out]; rfl, hB⟩
    have z2 : (a2 == 0) = false := by rw [beq_eq_false_iff_ne]; exact y2
    have HX := Lib.hid (show v = 1 by rw [← HV.out, if_neg (fun h => h x1), if_neg (fun h => h.1 y4), if_pos ⟨x3, y2⟩])
    go_enter Tryz.func176, Tryz.ntmps176
    go_wp2_with fail
    refine (f1 _).mono ?_
    rintro e w1 ⟨rfl, rfl⟩
    go_wp2
    go_ret
    exact ⟨by rw [HX.out]; rfl, hB⟩
  have z4 : (a4 == 0) = false := by rw [beq_eq_false_iff_ne]; exact y4
  by_cases y6 : a6 = 0
  case pos =>
    have z6 : (a6 == 0) = true := by rw [beq_iff_eq]; exact y6
    by_cases x3 : 0 < tot
    case neg =>
      have HX := Lib.hid (show v = 0 by rw [← HV.out, if_neg (fun h => h x1), if_neg (fun h => h.2 y6), if_neg (fun h => x3 h.1)])
      go_enter Tryz.func176, Tryz.ntmps176
      go_wp2_with fail
      refine (f1 _).mono ?_
      rintro e w1 ⟨rfl, rfl⟩
      go_wp2
      go_ret
      exact ⟨by rw [HX.out]; rfl, hB⟩
    by_cases y2 : a2 = 0
    case pos =>
      have z2 : (a2 == 0) = true := by rw [beq_iff_eq]; exact y2
      have HX := Lib.hid (show v = 0 by rw [← HV.out, if_neg (fun h => h x1), if_neg (fun h => h.2 y6), if_neg (fun h => h.2 y2)])
      go_enter Tryz.func176, Tryz.ntmps176
      go_wp2_with fail
      refine (f1 _).mono ?_
      rintro e w1 ⟨rfl, rfl⟩
      go_wp2
      go_ret
      exact ⟨by rw [HX.out]; rfl, hB⟩
    have z2 : (a2 == 0) = false := by rw [beq_eq_false_iff_ne]; exact y2
    have HX := Lib.hid (show v = 1 by rw [← HV.out, if_neg (fun h => h x1), if_neg (fun h => h.2 y6), if_pos ⟨x3, y2⟩])
    go_enter Tryz.func176, Tryz.ntmps176
    go_wp2_with fail
    refine (f1 _).mono ?_
    rintro e w1 ⟨rfl, rfl⟩
    go_wp2
    go_ret
    exact ⟨by rw [HX.out]; rfl, hB⟩
  have z6 : (a6 == 0) = false := by rw [beq_eq_false_iff_ne]; exact y6
  have HX := Lib.hid (show v = 1 by rw [← HV.out, if_neg (fun h => h x1), if_pos ⟨y4, y6⟩])
  go_enter Tryz.func176, Tryz.ntmps176
  go_wp2_with fail
  refine (f1 _).mono ?_
  rintro e w1 ⟨rfl, rfl⟩
  go_wp2
  go_ret
  exact ⟨by rw [HX.out]; rfl, hB⟩

end Go.Proofs.YtemkpimngbbpkaaGreat

namespace Go.Proofs.YtemkpimngbbpkaaGreat
set_option linter.unusedVariables false
set_option linter.unusedSimpArgs false
set_option linter.unusedVariables false
open Go.RowKit

def blkErrs : List Bl → Int
  | [] => 0
  | b :: r => if b.err ≠ 0 then b.err else blkErrs r
def AscB (l : List Bl) : Prop := l.Pairwise (fun x y => x.kind < y.kind)
instance (l : List Bl) : Decidable (AscB l) := inferInstanceAs (Decidable (l.Pairwise _))
def blksE (l : List Bl) : Int := if 8 < l.length then 4 else if blkErrs l ≠ 0 then blkErrs l else if AscB l then 0 else 9
theorem blkErrs_ok {l : List Bl} : blkErrs l = 0 ↔ ∀ b ∈ l, b.err = 0 := by
  induction l with
  | nil => simp [blkErrs]
  | cons x r ih =>
    unfold blkErrs
    split
    · rename_i h
      simp only [List.mem_cons, forall_eq_or_imp]
      constructor
      · intro h1; exact absurd h1 h
      · intro h1; exact absurd h1.1 h
    · rename_i h
      rw [ih]
      simp only [List.mem_cons, forall_eq_or_imp]
      constructor
      · intro h1; exact ⟨by simpa using h, h1⟩
      · intro h1; exact h1.2
theorem blksE_ok {l : List Bl} : blksE l = 0 ↔ l.length ≤ 8 ∧ (∀ b ∈ l, b.err = 0) ∧ AscB l := by
  unfold blksE
  constructor
  · intro h
    split at h
    · omega
    · split at h
      · rename_i h1; exact absurd h h1
      · rename_i h1 h2
        split at h
        · rename_i h3; exact ⟨by omega, blkErrs_ok.1 (by simpa using h2), h3⟩
        · omega
  · rintro ⟨h1, h2, h3⟩
    rw [if_neg (by omega), if_neg (by rw [blkErrs_ok.2 h2]; simp), if_pos h3]
/-- Why a bundle is not valid. -/
def buE (b : Bu) : Int :=
  if idE b.src b.cr b.seq b.off b.tot ≠ 0 then idE b.src b.cr b.seq b.off b.tot
  else if epE b.dk b.dn ≠ 0 then epE b.dk b.dn
  else if b.life < 1 ∨ 1099511627776 - b.cr < b.life then 2
  else if ¬ (0 ≤ b.prio ∧ b.prio ≤ 2) then 8
  else if flgE b.flags b.tot ≠ 0 then flgE b.flags b.tot
  else if blksE b.blocks ≠ 0 then blksE b.blocks
  else payE b.off b.tot b.pay.length
theorem buE_blocks {b : Bu} (h : buE b = 0) : blksE b.blocks = 0 := by
  unfold buE at h
  split at h
  · rename_i h1; exact absurd h h1
  · split at h
    · rename_i h1; exact absurd h h1
    · split at h
      · omega
      · split at h
        · omega
        · split at h
          · rename_i h1; exact absurd h h1
          · split at h
            · rename_i h1; exact absurd h h1
            · rename_i h1; simpa using h1
theorem buE_with {b : Bu} {l : List Bl} (h : buE b = 0) (hl : blksE l = 0) : buE { b with blocks := l } = 0 := by
  have h0 := buE_blocks h
  unfold buE at h ⊢
  dsimp only
  rw [hl]
  rw [h0] at h
  exact h

def findK (l : List Bl) (k : Int) : Option Bl := l.find? (fun x => decide (x.kind = k))
def Bu.auth (b : Bu) : Bl := (findK b.blocks 4).getD ⟨0, 0, []⟩
def secE (b : Bu) : Int := match findK b.blocks 4 with
  | some x => if damB x.data then 11 else 0
  | none => 0
def allE (b : Bu) (node : Int) (key : Bts) : Int := if buE b ≠ 0 then buE b else if node < 0 ∨ 16 ≤ node then 2 else if key.length ≠ 16 then 1 else secE b
def remK (l : List Bl) (k : Int) : List Bl := l.filter (fun x => decide (x.kind ≠ k))
def Bu.bare (b : Bu) : Bu := { b with blocks := remK (remK (remK (remK b.blocks 1) 2) 3) 4 }
def nby (node : Int) : UInt8 := UInt8.ofNat node.toNat
def signT (b : Bu) (node : Int) (key : Bts) : Bts := tagB key (chainB [[nby node], b.bare.enc])
def putK (l : List Bl) (b : Bl) : List Bl := l.filter (fun x => decide (x.kind < b.kind)) ++ b :: l.filter (fun x => decide (b.kind < x.kind))
def Bu.newAuth (b : Bu) (node : Int) (key : Bts) : Bl := ⟨4, b.auth.flags, sflat (insS (nby node, signT b node key) (sigs b.auth.data))⟩
def protE (b : Bu) (node : Int) (key : Bts) : Int :=
  if allE b node key ≠ 0 then allE b node key
  else if (findS (sigs b.auth.data) (nby node).toNat).isSome then 6
  else if (b.newAuth node key).err ≠ 0 then (b.newAuth node key).err
  else if 8 < (putK b.blocks (b.newAuth node key)).length then 4 else 0
def protB (b : Bu) (node : Int) (key : Bts) : Bu := { b with blocks := putK b.blocks (b.newAuth node key) }
def verE (b : Bu) (node : Int) (key : Bts) : Int :=
  if allE b node key ≠ 0 then allE b node key
  else match findS (sigs b.auth.data) (nby node).toNat with
    | none => 7
    | some t => if t = signT b node key then 0 else 22

theorem wby_len (m : UInt64) : (wby m).length = 8 := by simp [wby]
theorem allE_ok {b : Bu} {node : Int} {key : Bts} (h : allE b node key = 0) : buE b = 0 ∧ (0 ≤ node ∧ node < 16) ∧ key.length = 16 ∧ secE b = 0 := by
  unfold allE at h
  split at h
  · rename_i h1; exact absurd h h1
  · rename_i h1
    split at h
    · omega
    · split at h
      · omega
      · rename_i h2 h3
        exact ⟨by simpa using h1, by omega, by simpa using h3, h⟩
theorem allE_of {b : Bu} {node : Int} {key : Bts} (h1 : buE b = 0) (h2 : 0 ≤ node ∧ node < 16) (h3 : key.length = 16) (h4 : secE b = 0) : allE b node key = 0 := by
  unfold allE
  rw [if_neg (by rw [h1]; simp), if_neg (by omega), if_neg (by simpa using h3)]
  exact h4
theorem nby_toNat {node : Int} (h : 0 ≤ node ∧ node < 16) : (nby node).toNat = node.toNat := by
  unfold nby
  rw [UInt8.toNat_ofNat']
  omega
theorem putK_valid {l : List Bl} {b : Bl} (h : blksE l = 0) (hb : b.err = 0) (hl : (putK l b).length ≤ 8) : blksE (putK l b) = 0 := by
  obtain ⟨_, h2, h3⟩ := blksE_ok.1 h
  refine blksE_ok.2 ⟨hl, fun x hx => ?_, ?_⟩
  · unfold putK at hx
    rcases List.mem_append.1 hx with hx | hx
    · exact h2 x (List.mem_filter.1 hx).1
    · rcases List.mem_cons.1 hx with rfl | hx
      · exact hb
      · exact h2 x (List.mem_filter.1 hx).1
  · unfold AscB putK
    rw [List.pairwise_append, List.pairwise_cons]
    refine ⟨h3.sublist List.filter_sublist, ⟨fun x hx => ?_, h3.sublist List.filter_sublist⟩, fun x hx y hy => ?_⟩
    · have := (List.mem_filter.1 hx).2
      simpa using this
    · have hx := (List.mem_filter.1 hx).2
      simp only [decide_eq_true_eq] at hx
      rcases List.mem_cons.1 hy with rfl | hy
      · exact hx
      · have hy := (List.mem_filter.1 hy).2
        simp only [decide_eq_true_eq] at hy
        omega
theorem remK_valid {l : List Bl} (k : Int) (h : blksE l = 0) : blksE (remK l k) = 0 := by
  obtain ⟨h1, h2, h3⟩ := blksE_ok.1 h
  exact blksE_ok.2 ⟨Nat.le_trans (List.length_filter_le _ _) h1, fun x hx => h2 x (List.mem_filter.1 hx).1, h3.sublist List.filter_sublist⟩
theorem bare_valid {b : Bu} (h : buE b = 0) : buE b.bare = 0 := buE_with h (remK_valid _ (remK_valid _ (remK_valid _ (remK_valid _ (buE_blocks h)))))
theorem findK_put {l : List Bl} {b : Bl} : findK (putK l b) b.kind = some b := by
  unfold findK putK
  rw [List.find?_append, List.find?_eq_none.2]
  · simp
  · intro x hx
    have := (List.mem_filter.1 hx).2
    simp only [decide_eq_true_eq] at this ⊢
    omega
theorem asc_split {p : Bl → Bool} (k : Int) : ∀ {l : List Bl}, AscB l → (∀ x, p x = true → x.kind ≠ k) → (l.filter (fun x => decide (x.kind < k))).filter p ++ (l.filter (fun x => decide (k < x.kind))).filter p = l.filter p
  | [], _, _ => rfl
  | x :: l, h, hp => by
    obtain ⟨h1, h2⟩ := List.pairwise_cons.1 h
    have ih := asc_split k (l := l) h2 hp
    by_cases e1 : x.kind < k
    · have e2 : ¬ k < x.kind := by omega
      rw [List.filter_cons_of_pos (by simpa using e1), List.filter_cons_of_neg (p := fun x : Bl => decide (k < x.kind)) (by simpa using e2)]
      by_cases e3 : p x = true
      · rw [List.filter_cons, if_pos e3, List.filter_cons, if_pos e3, List.cons_append, ih]
      · rw [List.filter_cons, if_neg e3, List.filter_cons, if_neg e3, ih]
    · have hn : l.filter (fun x => decide (x.kind < k)) = [] := by
        rw [List.filter_eq_nil_iff]
        intro y hy
        have := h1 y hy
        simp only [decide_eq_true_eq]
        omega
      rw [List.filter_cons, if_neg (by simpa using e1), hn, List.filter_nil, List.nil_append]
      rw [hn, List.filter_nil, List.nil_append] at ih
      by_cases e2 : k < x.kind
      · rw [List.filter_cons, if_pos (by simpa using e2)]
        by_cases e3 : p x = true
        · rw [List.filter_cons, if_pos e3, List.filter_cons, if_pos e3, ih]
        · rw [List.filter_cons, if_neg e3, List.filter_cons, if_neg e3, ih]
      · have e4 : ¬ p x = true := fun e => hp x e (by omega)
        rw [List.filter_cons_of_neg (p := fun x : Bl => decide (k < x.kind)) (by simpa using e2), List.filter_cons_of_neg e4, ih]
theorem bare_put {l : List Bl} {b : Bl} (h : AscB l) (hb : b.kind = 4) : remK (remK (remK (remK (putK l b) 1) 2) 3) 4 = remK (remK (remK (remK l 1) 2) 3) 4 := by
  have e : ∀ m : List Bl, remK (remK (remK (remK m 1) 2) 3) 4 = m.filter (fun x => decide (x.kind ≠ 4) && (decide (x.kind ≠ 3) && (decide (x.kind ≠ 2) && decide (x.kind ≠ 1)))) := fun m => by
    unfold remK
    rw [List.filter_filter, List.filter_filter, List.filter_filter]
    refine List.filter_congr (fun x _ => ?_)
    simp only [Bool.and_assoc]
  rw [e, e]
  unfold putK
  rw [List.filter_append, List.filter_cons, if_neg (by rw [hb]; simp)]
  rw [hb]
  exact asc_split 4 h (fun x hx => by simp only [Bool.and_eq_true, decide_eq_true_eq] at hx; exact hx.1)

/-- What was protected is verified. -/
theorem prot_ver {b : Bu} {node : Int} {key : Bts} (h : protE b node key = 0) : verE (protB b node key) node key = 0 := by
  unfold protE at h
  split at h
  · rename_i h1; exact absurd h h1
  · rename_i h1
    obtain ⟨a1, a2, a3, a4⟩ := allE_ok (by simpa using h1)
    split at h
    · omega
    · rename_i h2
      have h2 : findS (sigs b.auth.data) (nby node).toNat = none := by simpa using h2
      split at h
      · rename_i h3; exact absurd h h3
      · rename_i h3
        have h3 : (b.newAuth node key).err = 0 := by simpa using h3
        split at h
        · omega
        · rename_i h4
          have hv := putK_valid (buE_blocks a1) h3 (by omega)
          have hk : (b.newAuth node key).kind = 4 := rfl
          have hf : findK (protB b node key).blocks 4 = some (b.newAuth node key) := by
            have := findK_put (l := b.blocks) (b := b.newAuth node key)
            rw [hk] at this
            exact this
          have hauth : (protB b node key).auth = b.newAuth node key := by unfold Bu.auth; rw [hf]; rfl
          have h8 : ∀ x ∈ insS (nby node, signT b node key) (sigs b.auth.data), x.2.length = 8 := insS_8 (by exact wby_len _) sigs_8
          have hsg : sigs (b.newAuth node key).data = insS (nby node, signT b node key) (sigs b.auth.data) := sigs_flat h8
          have hlen : (b.newAuth node key).data.length = 9 * ((sigs b.auth.data).length + 1) := by
            have := sflat_len h8
            rw [insS_len] at this
            exact this
          have hold : okS (-1) (sigs b.auth.data) = true := by
            unfold secE at a4
            unfold Bu.auth
            cases hfb : findK b.blocks 4 with
            | none => rfl
            | some x =>
              rw [hfb] at a4
              dsimp only at a4
              split at a4
              · omega
              · rename_i hd
                simp only [damB, Bool.or_eq_true, not_or, Bool.not_eq_true'] at hd
                have := hd.1.1
                simpa using this
          have hnt := nby_toNat a2
          have hdam : damB (b.newAuth node key).data = false := by
            unfold damB
            rw [hsg, insS_ok (m := (nby node, signT b node key)) (by dsimp only; omega) hold (by dsimp only; omega) h2, hlen]
            simp
          have hsec : secE (protB b node key) = 0 := by
            unfold secE
            rw [hf]
            dsimp only
            rw [hdam]
            rfl
          have hall := allE_of (node := node) (key := key) (buE_with a1 hv) a2 a3 hsec
          have hsign : signT (protB b node key) node key = signT b node key := by
            unfold signT
            have : (protB b node key).bare = b.bare := by
              unfold Bu.bare protB
              dsimp only
              rw [bare_put (blksE_ok.1 (buE_blocks a1)).2.2 hk]
            rw [this]
          unfold verE
          rw [if_neg (by rw [show allE (protB b node key) node key = 0 from hall]; simp), hauth, hsg, insS_find h2]
          dsimp only
          rw [hsign, if_pos rfl]

end Go.Proofs.YtemkpimngbbpkaaGreat

namespace Go.Proofs.YtemkpimngbbpkaaGreat
set_option linter.unusedVariables false
set_option linter.unusedSimpArgs false
set_option linter.unusedVariables false
set_option linter.unusedSimpArgs false
open Go.RowKit Go.Shelf
attribute [local go_sem] Oper.semAt_some

set_option maxRecDepth 100000 in
set_option maxHeartbeats 8000000 in
theorem vChg_any (n : Int) (x : Chg) (w : World) :
    Calls Tryz.prog 58 #[.int .i64 n, .agg x.arr] w fun e w' => e = .returned (.bool (x.ok n)) ∧ Ext w w' := by
  have fv := fun w => vCon_any n x w
  obtain ⟨v, hv⟩ : ∃ v, x.ok n = v := ⟨_, rfl⟩
  rw [hv]
  unfold Chg.ok at hv
  obtain ⟨ck, hck⟩ : ∃ ck, x.cok n = ck := ⟨_, rfl⟩
  rw [hck] at fv hv
  have HV := Lib.hid hv
  unfold Chg.arr at fv ⊢
  obtain ⟨W1, hW1, hB1, hk1, hl1⟩ := box1 w #[.int .i64 x.org, .int .i64 x.cnt, .int .i64 x.stp, .int .i64 x.kind, .int .i64 x.con.src, .int .i64 x.con.dst, .int .i64 x.con.st, .int .i64 x.con.en, .int .i64 x.con.rate, .int .i64 x.con.rng, .int .i64 x.con.loss] 63
  have c1 := hk1.cell
  clear hv hck
  generalize x.org = org at *
  generalize x.cnt = cnt at *
  generalize x.stp = stp at *
  generalize x.kind = kind at *
  by_cases t0 : 0 ≤ org
  case neg =>
    have HX := Lib.hid (show v = false by rw [← HV.out, decide_eq_false (fun h => t0 h.1)]; rfl)
    clear fv
    go_enter Tryz.func58, Tryz.ntmps58
    go_wp2
    go_ret
    exact ⟨by rw [HX.out]; rfl, hB1⟩
  by_cases t1 : org < n
  case neg =>
    have HX := Lib.hid (show v = false by rw [← HV.out, decide_eq_false (fun h => t1 h.2.1)]; rfl)
    clear fv
    go_enter Tryz.func58, Tryz.ntmps58
    go_wp2
    go_ret
    exact ⟨by rw [HX.out]; rfl, hB1⟩
  by_cases t2 : 1 ≤ cnt
  case neg =>
    have HX := Lib.hid (show v = false by rw [← HV.out, decide_eq_false (fun h => t2 h.2.2.1)]; rfl)
    clear fv
    go_enter Tryz.func58, Tryz.ntmps58
    go_wp2
    go_ret
    exact ⟨by rw [HX.out]; rfl, hB1⟩
  by_cases t3 : 1 ≤ stp
  case neg =>
    have HX := Lib.hid (show v = false by rw [← HV.out, decide_eq_false (fun h => t3 h.2.2.2.1)]; rfl)
    clear fv
    go_enter Tryz.func58, Tryz.ntmps58
    go_wp2
    go_ret
    exact ⟨by rw [HX.out]; rfl, hB1⟩
  by_cases t4 : stp ≤ 1099511627776
  case neg =>
    have HX := Lib.hid (show v = false by rw [← HV.out, decide_eq_false (fun h => t4 h.2.2.2.2)]; rfl)
    clear fv
    go_enter Tryz.func58, Tryz.ntmps58
    go_wp2
    go_ret
    exact ⟨by rw [HX.out]; rfl, hB1⟩
  have HX := Lib.hid (show v = ck by rw [← HV.out, decide_eq_true (show 0 ≤ org ∧ org < n ∧ 1 ≤ cnt ∧ 1 ≤ stp ∧ stp ≤ 1099511627776 from ⟨t0, t1, t2, t3, t4⟩)]; rfl)
  go_enter Tryz.func58, Tryz.ntmps58
  go_wp2_with fail
  clear hW1
  refine (fv _).mono ?_
  rintro e w2 ⟨rfl, hb2⟩
  go_wp2
  go_ret
  exact ⟨by rw [HX.out]; rfl, hB1.trans hb2⟩

theorem fol_none (x : Chg) (w : World) :
    Calls Tryz.prog 75 #[.pointer none, .agg x.arr] w fun e w' => e = .returned (.int .i64 (folE none x)) ∧ Ext w w' := by
  obtain ⟨v, hv⟩ : ∃ v, folE none x = v := ⟨_, rfl⟩
  rw [hv]
  unfold folE at hv
  dsimp only at hv
  have HV := Lib.hid hv
  unfold Chg.arr
  obtain ⟨W1, hW1, hB1, hk1, hl1⟩ := box1 w #[.int .i64 x.org, .int .i64 x.cnt, .int .i64 x.stp, .int .i64 x.kind, .int .i64 x.con.src, .int .i64 x.con.dst, .int .i64 x.con.st, .int .i64 x.con.en, .int .i64 x.con.rate, .int .i64 x.con.rng, .int .i64 x.con.loss] 63
  have c1 := hk1.cell
  clear hv
  generalize x.org = org at *
  generalize x.cnt = cnt at *
  by_cases h : cnt = 1
  · have hb : (cnt != 1) = false := by rw [bne_eq_false_iff_eq]; exact h
    have HX := Lib.hid (show v = 0 by rw [← HV.out, if_pos h])
    clear h
    go_enter Tryz.func75, Tryz.ntmps75
    go_wp2_with fail
    clear hW1
    go_region
    go_wp2_with fail
    go_region
    go_wp2_with fail
    go_region
    go_wp2_with fail
    go_region
    go_wp2
    go_ret
    exact ⟨by rw [HX.out]; rfl, (((hB1.drew).drew).drew).drew⟩
  · have hb : (cnt != 1) = true := by rw [bne_iff_ne]; exact h
    have HX := Lib.hid (show v = 25 by rw [← HV.out, if_neg h])
    clear h
    go_enter Tryz.func75, Tryz.ntmps75
    go_wp2_with fail
    clear hW1
    go_region
    go_wp2_with fail
    go_region
    go_wp2_with fail
    go_region
    go_wp2
    go_ret
    exact ⟨by rw [HX.out]; rfl, ((hB1.drew).drew).drew⟩

end Go.Proofs.YtemkpimngbbpkaaGreat

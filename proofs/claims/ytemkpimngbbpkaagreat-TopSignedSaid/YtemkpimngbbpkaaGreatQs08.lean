/- Security: bundle.checkFlags. · Security: what makes a bundle valid; what protecting and verifying compute; the plain law that joins them. · Security: bundle.checkBlocks, bundle.Check. -/
import Derived.BigRegion
import Derived.Test.YtemkpimngbbpkaaGreatQs01
import Derived.Test.YtemkpimngbbpkaaGreatQs05
namespace Go.Proofs.YtemkpimngbbpkaaGreat
set_option linter.unusedVariables false
set_option linter.unusedSimpArgs false
section
open Go.RowKit Go.Shelf
attribute [local go_sem] Oper.semAt_some
def flgE (f tot : Int) : Int := if ¬ (0 <= f /\ f <= 127) then 1 else if bits .and .i64 f 4 ≠ 0 /\ bits .and .i64 f 64 ≠ 0 then 1 else if 0 < tot /\ bits .and .i64 f 2 ≠ 0 then 1 else 0
set_option maxHeartbeats 8000000 in
theorem chkFlg_any (b : Bu) (A : Option Addr) (cap : Nat) (w : World) :
 Calls Tryz.prog 176 #[.agg (b.cells A cap)] w fun e w' => e = .returned (.int .i64 (flgE b.flags b.tot)) /\ Ext w w' := by
 obtain ⟨src, cr, seq, off, tot, dk, dn, life, prio, f, bl, pay⟩ := b
 unfold Bu.cells
 dsimp only at *
 generalize strV pay = sv at *
 obtain ⟨W, hW, hB, hk, hlt⟩ := box1 w #[.int .i64 src, .int .i64 cr, .int .i64 seq, .int .i64 off, .int .i64 tot, .int .i64 dk, .int .i64 dn, .int .i64 life, .int .i64 prio, .int .i64 f, .slice A bl.length cap, sv] 29
 have hc := hk.cell
 have f1 := fun w => buWithin_any f 0 127 w
 obtain ⟨v, hv⟩ : ∃ v, flgE f tot = v := ⟨_, rfl⟩
 unfold flgE at hv
 have HV0 := Lib.hid (show flgE f tot = v from hv)
 obtain ⟨a4, g4⟩ : ∃ x, bits .and .i64 f 4 = x := ⟨_, rfl⟩
 obtain ⟨a6, g6⟩ : ∃ x, bits .and .i64 f 64 = x := ⟨_, rfl⟩
 obtain ⟨a2, g2⟩ : ∃ x, bits .and .i64 f 2 = x := ⟨_, rfl⟩
 rw [g4, g6, g2] at hv
 have HV := Lib.hid hv
 rw [HV0.out]
 clear hv HV0
 by_cases x1 : 0 <= f /\ f <= 127
 case neg =>
  rw [decide_eq_false x1] at f1
  have HX := Lib.hid (show v = 1 by rw [<- HV.out, if_pos x1])
  go_enter Tryz.func176, Tryz.ntmps176
  go_wp2_with fail
  refine (f1 _).mono ?_
  rintro e w1 ⟨rfl, rfl⟩
  go_wp2
  go_ret
  exact ⟨by rw [HX.out]; rfl, hB⟩
 rw [decide_eq_true x1] at f1
 by_cases y4 : a4 = 0
 case pos =>
  have z4 : (a4 == 0) = true := by rw [beq_iff_eq]; exact y4
  by_cases x3 : 0 < tot
  case neg =>
   have HX := Lib.hid (show v = 0 by rw [<- HV.out, if_neg (fun h => h x1), if_neg (fun h => h.1 y4), if_neg (fun h => x3 h.1)])
   go_enter Tryz.func176, Tryz.ntmps176
   go_wp2_with fail
   refine (f1 _).mono ?_
   rintro e w1 ⟨rfl, rfl⟩
   go_wp2
   go_ret
   exact ⟨by rw [HX.out]; rfl, hB⟩
  by_cases y2 : a2 = 0
  case pos =>
   have z2 : (a2 == 0) = true := by rw [beq_iff_eq]; exact y2
   have HX := Lib.hid (show v = 0 by rw [<- HV.out, if_neg (fun h => h x1), if_neg (fun h => h.1 y4), if_neg (fun h => h.2 y2)])
   go_enter Tryz.func176, Tryz.ntmps176
   go_wp2_with fail
   refine (f1 _).mono ?_
   rintro e w1 ⟨rfl, rfl⟩
   go_wp2
   go_ret
   exact ⟨by rw [HX.out]; rfl, hB⟩
  have z2 : (a2 == 0) = false := by rw [beq_eq_false_iff_ne]; exact y2
  have HX := Lib.hid (show v = 1 by rw [<- HV.out, if_neg (fun h => h x1), if_neg (fun h => h.1 y4), if_pos ⟨x3, y2⟩])
  go_enter Tryz.func176, Tryz.ntmps176
  go_wp2_with fail
  refine (f1 _).mono ?_
  rintro e w1 ⟨rfl, rfl⟩
  go_wp2
  go_ret
  exact ⟨by rw [HX.out]; rfl, hB⟩
 have z4 : (a4 == 0) = false := by rw [beq_eq_false_iff_ne]; exact y4
 by_cases y6 : a6 = 0
 case pos =>
  have z6 : (a6 == 0) = true := by rw [beq_iff_eq]; exact y6
  by_cases x3 : 0 < tot
  case neg =>
   have HX := Lib.hid (show v = 0 by rw [<- HV.out, if_neg (fun h => h x1), if_neg (fun h => h.2 y6), if_neg (fun h => x3 h.1)])
   go_enter Tryz.func176, Tryz.ntmps176
   go_wp2_with fail
   refine (f1 _).mono ?_
   rintro e w1 ⟨rfl, rfl⟩
   go_wp2
   go_ret
   exact ⟨by rw [HX.out]; rfl, hB⟩
  by_cases y2 : a2 = 0
  case pos =>
   have z2 : (a2 == 0) = true := by rw [beq_iff_eq]; exact y2
   have HX := Lib.hid (show v = 0 by rw [<- HV.out, if_neg (fun h => h x1), if_neg (fun h => h.2 y6), if_neg (fun h => h.2 y2)])
   go_enter Tryz.func176, Tryz.ntmps176
   go_wp2_with fail
   refine (f1 _).mono ?_
   rintro e w1 ⟨rfl, rfl⟩
   go_wp2
   go_ret
   exact ⟨by rw [HX.out]; rfl, hB⟩
  have z2 : (a2 == 0) = false := by rw [beq_eq_false_iff_ne]; exact y2
  have HX := Lib.hid (show v = 1 by rw [<- HV.out, if_neg (fun h => h x1), if_neg (fun h => h.2 y6), if_pos ⟨x3, y2⟩])
  go_enter Tryz.func176, Tryz.ntmps176
  go_wp2_with fail
  refine (f1 _).mono ?_
  rintro e w1 ⟨rfl, rfl⟩
  go_wp2
  go_ret
  exact ⟨by rw [HX.out]; rfl, hB⟩
 have z6 : (a6 == 0) = false := by rw [beq_eq_false_iff_ne]; exact y6
 have HX := Lib.hid (show v = 1 by rw [<- HV.out, if_neg (fun h => h x1), if_pos ⟨y4, y6⟩])
 go_enter Tryz.func176, Tryz.ntmps176
 go_wp2_with fail
 refine (f1 _).mono ?_
 rintro e w1 ⟨rfl, rfl⟩
 go_wp2
 go_ret
 exact ⟨by rw [HX.out]; rfl, hB⟩
end
section
open Go.RowKit
def blkErrs : List Bl -> Int
 | [] => 0
 | b :: r => if b.err ≠ 0 then b.err else blkErrs r
def AscB (l : List Bl) : Prop := l.Pairwise (fun x y => x.kind < y.kind)
instance (l : List Bl) : Decidable (AscB l) := inferInstanceAs (Decidable (l.Pairwise _))
def blksE (l : List Bl) : Int := if 8 < l.length then 4 else if blkErrs l ≠ 0 then blkErrs l else if AscB l then 0 else 9
theorem blkErrs_ok {l : List Bl} : blkErrs l = 0 ↔ ∀ b ∈ l, b.err = 0 := by
 induction l with
 | nil => simp [blkErrs]
 | cons x r ih =>
   unfold blkErrs
   split
   ·rename_i h
    simp only [List.mem_cons, forall_eq_or_imp]
    constructor
    ·intro h1; exact absurd h1 h
    ·intro h1; exact absurd h1.1 h
   ·rename_i h
    rw [ih]
    simp only [List.mem_cons, forall_eq_or_imp]
    constructor
    ·intro h1; exact ⟨by simpa using h, h1⟩
    ·intro h1; exact h1.2
theorem blksE_ok {l : List Bl} : blksE l = 0 ↔ l.length <= 8 /\ (∀ b ∈ l, b.err = 0) /\ AscB l := by
 unfold blksE
 constructor
 ·intro h
  split at h
  ·omega
  ·split at h
   ·rename_i h1; exact absurd h h1
   ·rename_i h1 h2
    split at h
    ·rename_i h3; exact ⟨by omega, blkErrs_ok.1 (by simpa using h2), h3⟩
    ·omega
 ·rintro ⟨h1, h2, h3⟩
  rw [if_neg (by omega), if_neg (by rw [blkErrs_ok.2 h2]; simp), if_pos h3]
def buE (b : Bu) : Int :=
 if idE b.src b.cr b.seq b.off b.tot ≠ 0 then idE b.src b.cr b.seq b.off b.tot
 else if epE b.dk b.dn ≠ 0 then epE b.dk b.dn
 else if b.life < 1 ∨ 1099511627776 - b.cr < b.life then 2
 else if ¬ (0 <= b.prio /\ b.prio <= 2) then 8
 else if flgE b.flags b.tot ≠ 0 then flgE b.flags b.tot
 else if blksE b.blocks ≠ 0 then blksE b.blocks
 else payE b.off b.tot b.pay.length
theorem buE_blocks {b : Bu} (h : buE b = 0) : blksE b.blocks = 0 := by
 unfold buE at h
 split at h
 ·rename_i h1; exact absurd h h1
 ·split at h
  ·rename_i h1; exact absurd h h1
  ·split at h
   ·omega
   ·split at h
    ·omega
    ·split at h
     ·rename_i h1; exact absurd h h1
     ·split at h
      ·rename_i h1; exact absurd h h1
      ·rename_i h1; simpa using h1
theorem buE_with {b : Bu} {l : List Bl} (h : buE b = 0) (hl : blksE l = 0) : buE { b with blocks := l } = 0 := by
 have h0 := buE_blocks h
 unfold buE at h ⊢
 dsimp only
 rw [hl]
 rw [h0] at h
 exact h
def findK (l : List Bl) (k : Int) : Option Bl := l.find? (fun x => decide (x.kind = k))
def Bu.auth (b : Bu) : Bl := (findK b.blocks 4).getD ⟨0, 0, []⟩
def secE (b : Bu) : Int := match findK b.blocks 4 with
 | some x => if damB x.data then 11 else 0
 | none => 0
def allE (b : Bu) (node : Int) (key : Bts) : Int := if buE b ≠ 0 then buE b else if node < 0 ∨ 16 <= node then 2 else if key.length ≠ 16 then 1 else secE b
def remK (l : List Bl) (k : Int) : List Bl := l.filter (fun x => decide (x.kind ≠ k))
def Bu.bare (b : Bu) : Bu := { b with blocks := remK (remK (remK (remK b.blocks 1) 2) 3) 4 }
def nby (node : Int) : UInt8 := UInt8.ofNat node.toNat
def signT (b : Bu) (node : Int) (key : Bts) : Bts := tagB key (chainB [[nby node], b.bare.enc])
def putK (l : List Bl) (b : Bl) : List Bl := l.filter (fun x => decide (x.kind < b.kind)) ++ b :: l.filter (fun x => decide (b.kind < x.kind))
def Bu.newAuth (b : Bu) (node : Int) (key : Bts) : Bl := ⟨4, b.auth.flags, sflat (insS (nby node, signT b node key) (sigs b.auth.data))⟩
def protE (b : Bu) (node : Int) (key : Bts) : Int :=
 if allE b node key ≠ 0 then allE b node key
 else if (findS (sigs b.auth.data) (nby node).toNat).isSome then 6
 else if (b.newAuth node key).err ≠ 0 then (b.newAuth node key).err
 else if 8 < (putK b.blocks (b.newAuth node key)).length then 4 else 0
def protB (b : Bu) (node : Int) (key : Bts) : Bu := { b with blocks := putK b.blocks (b.newAuth node key) }
def verE (b : Bu) (node : Int) (key : Bts) : Int :=
 if allE b node key ≠ 0 then allE b node key
 else match findS (sigs b.auth.data) (nby node).toNat with
  | none => 7
  | some t => if t = signT b node key then 0 else 22
theorem wby_len (m : UInt64) : (wby m).length = 8 := by simp [wby]
theorem allE_ok {b : Bu} {node : Int} {key : Bts} (h : allE b node key = 0) : buE b = 0 /\ (0 <= node /\ node < 16) /\ key.length = 16 /\ secE b = 0 := by
 unfold allE at h
 split at h
 ·rename_i h1; exact absurd h h1
 ·rename_i h1
  split at h
  ·omega
  ·split at h
   ·omega
   ·rename_i h2 h3
    exact ⟨by simpa using h1, by omega, by simpa using h3, h⟩
theorem allE_of {b : Bu} {node : Int} {key : Bts} (h1 : buE b = 0) (h2 : 0 <= node /\ node < 16) (h3 : key.length = 16) (h4 : secE b = 0) : allE b node key = 0 := by
 unfold allE
 rw [if_neg (by rw [h1]; simp), if_neg (by omega), if_neg (by simpa using h3)]
 exact h4
theorem nby_toNat {node : Int} (h : 0 <= node /\ node < 16) : (nby node).toNat = node.toNat := by
 unfold nby
 rw [UInt8.toNat_ofNat']
 omega
theorem putK_valid {l : List Bl} {b : Bl} (h : blksE l = 0) (hb : b.err = 0) (hl : (putK l b).length <= 8) : blksE (putK l b) = 0 := by
 obtain ⟨_, h2, h3⟩ := blksE_ok.1 h
 refine blksE_ok.2 ⟨hl, fun x hx => ?_, ?_⟩
 ·unfold putK at hx
  rcases List.mem_append.1 hx with hx | hx
  ·exact h2 x (List.mem_filter.1 hx).1
  ·rcases List.mem_cons.1 hx with rfl | hx
   ·exact hb
   ·exact h2 x (List.mem_filter.1 hx).1
 ·unfold AscB putK
  rw [List.pairwise_append, List.pairwise_cons]
  refine ⟨h3.sublist List.filter_sublist, ⟨fun x hx => ?_, h3.sublist List.filter_sublist⟩, fun x hx y hy => ?_⟩
  ·have := (List.mem_filter.1 hx).2
   simpa using this
  ·have hx := (List.mem_filter.1 hx).2
   simp only [decide_eq_true_eq] at hx
   rcases List.mem_cons.1 hy with rfl | hy
   ·exact hx
   ·have hy := (List.mem_filter.1 hy).2
    simp only [decide_eq_true_eq] at hy
    omega
theorem remK_valid {l : List Bl} (k : Int) (h : blksE l = 0) : blksE (remK l k) = 0 := by
 obtain ⟨h1, h2, h3⟩ := blksE_ok.1 h
 exact blksE_ok.2 ⟨Nat.le_trans (List.length_filter_le _ _) h1, fun x hx => h2 x (List.mem_filter.1 hx).1, h3.sublist List.filter_sublist⟩
theorem bare_valid {b : Bu} (h : buE b = 0) : buE b.bare = 0 := buE_with h (remK_valid _ (remK_valid _ (remK_valid _ (remK_valid _ (buE_blocks h)))))
theorem findK_put {l : List Bl} {b : Bl} : findK (putK l b) b.kind = some b := by
 unfold findK putK
 rw [List.find?_append, List.find?_eq_none.2]
 ·simp
 ·intro x hx
  have := (List.mem_filter.1 hx).2
  simp only [decide_eq_true_eq] at this ⊢
  omega
theorem asc_split {p : Bl -> Bool} (k : Int) : ∀ {l : List Bl}, AscB l -> (∀ x, p x = true -> x.kind ≠ k) -> (l.filter (fun x => decide (x.kind < k))).filter p ++ (l.filter (fun x => decide (k < x.kind))).filter p = l.filter p
 | [], _, _ => rfl
 | x :: l, h, hp => by
   obtain ⟨h1, h2⟩ := List.pairwise_cons.1 h
   have ih := asc_split k (l := l) h2 hp
   by_cases e1 : x.kind < k
   ·have e2 : ¬ k < x.kind := by omega
    rw [List.filter_cons_of_pos (by simpa using e1), List.filter_cons_of_neg (p := fun x : Bl => decide (k < x.kind)) (by simpa using e2)]
    by_cases e3 : p x = true
    ·rw [List.filter_cons, if_pos e3, List.filter_cons, if_pos e3, List.cons_append, ih]
    ·rw [List.filter_cons, if_neg e3, List.filter_cons, if_neg e3, ih]
   ·have hn : l.filter (fun x => decide (x.kind < k)) = [] := by
     rw [List.filter_eq_nil_iff]
     intro y hy
     have := h1 y hy
     simp only [decide_eq_true_eq]
     omega
    rw [List.filter_cons, if_neg (by simpa using e1), hn, List.filter_nil, List.nil_append]
    rw [hn, List.filter_nil, List.nil_append] at ih
    by_cases e2 : k < x.kind
    ·rw [List.filter_cons, if_pos (by simpa using e2)]
     by_cases e3 : p x = true
     ·rw [List.filter_cons, if_pos e3, List.filter_cons, if_pos e3, ih]
     ·rw [List.filter_cons, if_neg e3, List.filter_cons, if_neg e3, ih]
    ·have e4 : ¬ p x = true := fun e => hp x e (by omega)
     rw [List.filter_cons_of_neg (p := fun x : Bl => decide (k < x.kind)) (by simpa using e2), List.filter_cons_of_neg e4, ih]
theorem bare_put {l : List Bl} {b : Bl} (h : AscB l) (hb : b.kind = 4) : remK (remK (remK (remK (putK l b) 1) 2) 3) 4 = remK (remK (remK (remK l 1) 2) 3) 4 := by
 have e : ∀ m : List Bl, remK (remK (remK (remK m 1) 2) 3) 4 = m.filter (fun x => decide (x.kind ≠ 4) && (decide (x.kind ≠ 3) && (decide (x.kind ≠ 2) && decide (x.kind ≠ 1)))) := fun m => by
  unfold remK
  rw [List.filter_filter, List.filter_filter, List.filter_filter]
  refine List.filter_congr (fun x _ => ?_)
  simp only [Bool.and_assoc]
 rw [e, e]
 unfold putK
 rw [List.filter_append, List.filter_cons, if_neg (by rw [hb]; simp)]
 rw [hb]
 exact asc_split 4 h (fun x hx => by simp only [Bool.and_eq_true, decide_eq_true_eq] at hx; exact hx.1)
theorem prot_ver {b : Bu} {node : Int} {key : Bts} (h : protE b node key = 0) : verE (protB b node key) node key = 0 := by
 unfold protE at h
 split at h
 ·rename_i h1; exact absurd h h1
 ·rename_i h1
  obtain ⟨a1, a2, a3, a4⟩ := allE_ok (by simpa using h1)
  split at h
  ·omega
  ·rename_i h2
   have h2 : findS (sigs b.auth.data) (nby node).toNat = none := by simpa using h2
   split at h
   ·rename_i h3; exact absurd h h3
   ·rename_i h3
    have h3 : (b.newAuth node key).err = 0 := by simpa using h3
    split at h
    ·omega
    ·rename_i h4
     have hv := putK_valid (buE_blocks a1) h3 (by omega)
     have hk : (b.newAuth node key).kind = 4 := rfl
     have hf : findK (protB b node key).blocks 4 = some (b.newAuth node key) := by
      have := findK_put (l := b.blocks) (b := b.newAuth node key)
      rw [hk] at this
      exact this
     have hauth : (protB b node key).auth = b.newAuth node key := by unfold Bu.auth; rw [hf]; rfl
     have h8 : ∀ x ∈ insS (nby node, signT b node key) (sigs b.auth.data), x.2.length = 8 := insS_8 (by exact wby_len _) sigs_8
     have hsg : sigs (b.newAuth node key).data = insS (nby node, signT b node key) (sigs b.auth.data) := sigs_flat h8
     have hlen : (b.newAuth node key).data.length = 9 * ((sigs b.auth.data).length + 1) := by
      have := sflat_len h8
      rw [insS_len] at this
      exact this
     have hold : okS (-1) (sigs b.auth.data) = true := by
      unfold secE at a4
      unfold Bu.auth
      cases hfb : findK b.blocks 4 with
      | none => rfl
      | some x =>
        rw [hfb] at a4
        dsimp only at a4
        split at a4
        ·omega
        ·rename_i hd
         simp only [damB, Bool.or_eq_true, not_or, Bool.not_eq_true'] at hd
         have := hd.1.1
         simpa using this
     have hnt := nby_toNat a2
     have hdam : damB (b.newAuth node key).data = false := by
      unfold damB
      rw [hsg, insS_ok (m := (nby node, signT b node key)) (by dsimp only; omega) hold (by dsimp only; omega) h2, hlen]
      simp
     have hsec : secE (protB b node key) = 0 := by
      unfold secE
      rw [hf]
      dsimp only
      rw [hdam]
      rfl
     have hall := allE_of (node := node) (key := key) (buE_with a1 hv) a2 a3 hsec
     have hsign : signT (protB b node key) node key = signT b node key := by
      unfold signT
      have : (protB b node key).bare = b.bare := by
       unfold Bu.bare protB
       dsimp only
       rw [bare_put (blksE_ok.1 (buE_blocks a1)).2.2 hk]
      rw [this]
     unfold verE
     rw [if_neg (by rw [show allE (protB b node key) node key = 0 from hall]; simp), hauth, hsg, insS_find h2]
     dsimp only
     rw [hsign, if_pos rfl]
end
section
open Go.RowKit Go.Shelf
attribute [local go_sem] Oper.semAt_some
theorem Rd.bl {w : World} {A : Option Addr} {l : List Bl} (h : Rd EBl w A l) {k : Nat} (hk : k < l.length) : ∃ b o, A = some ⟨b, o, none⟩ /\ b < w.heap.size /\
 w.cell? ⟨b, o + k * 3, none⟩ = some (.int .i64 l[k].kind) /\ w.cell? ⟨b, o + k * 3 + 1, none⟩ = some (.int .i64 l[k].flags) /\ w.cell? ⟨b, o + k * 3 + 2, none⟩ = some (strV l[k].data) := by
 obtain ⟨b, o, rfl, hb, hc⟩ := h.at hk
 exact ⟨b, o, rfl, hb, hc 0 _ rfl, hc 1 _ rfl, hc 2 _ rfl⟩
theorem strV_str (l : Bts) : ∃ ba : ByteArray, strV l = .string ba /\ ba.size = l.length := ⟨⟨l.toArray⟩, rfl, by show l.toArray.size = l.length; simp⟩
theorem blkErrs_take {l : List Bl} {k : Nat} (h : k < l.length) (h0 : blkErrs (l.take k) = 0) (h1 : l[k].err = 0) : blkErrs (l.take (k + 1)) = 0 := by
 rw [blkErrs_ok] at h0 ⊢
 intro b hb
 rw [<- List.take_append_getElem h] at hb
 rcases List.mem_append.1 hb with hb | hb
 ·exact h0 b hb
 ·rw [List.mem_singleton.1 hb]; exact h1
theorem blkErrs_bad : ∀ {l : List Bl} {k : Nat} (h : k < l.length), blkErrs (l.take k) = 0 -> l[k].err ≠ 0 -> blkErrs l = l[k].err
 | x :: l, 0, _, _, h1 => by
   unfold blkErrs
   rw [if_pos (by simpa using h1)]
   rfl
 | x :: l, k + 1, h, h0, h1 => by
   rw [List.take_succ_cons] at h0
   have h2 : x.err = 0 := blkErrs_ok.1 h0 x (by simp)
   have h3 : blkErrs (l.take k) = 0 := blkErrs_ok.2 (fun b hb => blkErrs_ok.1 h0 b (by simp [hb]))
   unfold blkErrs
   rw [if_neg (by rw [h2]; simp)]
   exact blkErrs_bad (by simpa using h) h3 (by simpa using h1)
theorem asc_take {l : List Bl} {k : Nat} (h : k + 1 < l.length) (h0 : AscB (l.take (k + 1))) (h1 : l[k].kind < l[k + 1].kind) : AscB (l.take (k + 2)) := by
 have e : l.take (k + 2) = l.take (k + 1) ++ [l[k + 1]] := (List.take_append_getElem h).symm
 unfold AscB at *
 rw [e, List.pairwise_append]
 refine ⟨h0, by simp, fun a ha b hb => ?_⟩
 rw [List.mem_singleton.1 hb]
 obtain ⟨i, hi, rfl⟩ := List.mem_iff_getElem.1 ha
 rw [List.length_take] at hi
 rw [List.getElem_take]
 rcases Nat.lt_or_ge i k with h2 | h2
 ·have := List.pairwise_iff_getElem.1 h0 i k (by rw [List.length_take]; omega) (by rw [List.length_take]; omega) h2
  rw [List.getElem_take, List.getElem_take] at this
  omega
 ·have : i = k := by omega
  subst this
  exact h1
theorem idE_ok {a b c d t : Int} (h : idE a b c d t = 0) : (0 <= d /\ d <= 4096) /\ (0 <= t /\ t <= 4096) /\ (0 <= b /\ b <= 1099511627776) := by
 unfold idE at h
 split at h
 ·omega
 ·split at h
  ·omega
  ·split at h
   ·omega
   ·omega
theorem asc_bad {l : List Bl} {k : Nat} (h : k + 1 < l.length) (h1 : l[k + 1].kind <= l[k].kind) : ¬ AscB l := fun ha => by
 have := List.pairwise_iff_getElem.1 ha k (k + 1) (by omega) h (by omega)
 omega
set_option maxRecDepth 100000 in
set_option maxHeartbeats 8000000 in
theorem chkBlks_any (A : Option Addr) (cc : Nat) (l : List Bl) (w : World) (hR : Rd EBl w A l) :
 Calls Tryz.prog 177 #[.slice A l.length cc] w fun e w' => e = .returned (.int .i64 (blksE l)) /\ Ext w w' := by
 by_cases h8 : 8 < l.length
 ·have HV := Lib.hid (show blksE l = 4 by unfold blksE; rw [if_pos h8])
  go_enter Tryz.func177, Tryz.ntmps177
  go_wp2
  go_ret
  exact ⟨by rw [HV.out]; rfl, Ext.refl _⟩
 ·have H8 : l.length <= 8 := by omega
  go_enter Tryz.func177, Tryz.ntmps177
  go_wp2_with fail
  go_loopg [12] l.length (fun n v wr => ∃ k : Nat, k + n = l.length /\ v = .int .i64 k /\ Hid (blkErrs (l.take k) = 0) /\ Ext w wr)
  case atStart => exact ⟨0, by omega, by go_num, Lib.hid rfl, Ext.refl _⟩
  case round =>
   obtain ⟨k, hkn, rfl, hk0, hE⟩ := hrel
   have Hkn := Lib.hid hkn
   by_cases hlt : k < l.length
   ·obtain ⟨b, o, rfl, hb, c0, c1, c2⟩ := (hR.ext hE).bl hlt
    have hck := fun w => blChk_any l[k] w
    have hbad := fun h1 => blkErrs_bad hlt hk0.out h1
    have hgood := fun h1 => blkErrs_take hlt hk0.out h1
    obtain ⟨y, hy⟩ : ∃ y, l[k] = y := ⟨_, rfl⟩
    rw [hy] at c0 c1 c2 hck hbad hgood
    obtain ⟨ba, hba, _⟩ := strV_str y.data
    rw [hba] at c2 hck
    obtain ⟨kd, hkd⟩ : ∃ kd, y.kind = kd := ⟨_, rfl⟩
    obtain ⟨fl, hfl⟩ : ∃ fl, y.flags = fl := ⟨_, rfl⟩
    obtain ⟨er, her⟩ : ∃ er, y.err = er := ⟨_, rfl⟩
    rw [hkd, hfl, her] at hck
    rw [hkd] at c0
    rw [hfl] at c1
    rw [her] at hbad hgood
    obtain ⟨W1, hW1, hB1, hk1, hl1⟩ := box1 wr #[.int .i64 kd, .int .i64 fl, .string ba] 116
    have d1 := hk1.cell
    clear hy hba hkd hfl her hkn
    by_cases h0 : er = 0
    ·subst h0
     have Hg := Lib.hid (hgood rfl)
     clear hgood hbad
     go_wp2_with fail
     clear hW1 c0 c1 c2
     refine (hck _).mono ?_
     clear hck
     rintro e w2 ⟨rfl, hb2⟩
     go_wp2
     go_roundg (gk - 1)
     case measure => have := Hkn.out; omega
     case rel => exact ⟨k + 1, by have := Hkn.out; omega, by go_num, Lib.hid Hg.out, (hE.trans hB1).trans hb2⟩
    ·have hn0 : (er != 0) = true := by rw [bne_iff_ne]; exact h0
     have HV := Lib.hid (show blksE l = er by unfold blksE; rw [if_neg h8, if_pos (by rw [hbad h0]; exact h0)]; exact hbad h0)
     clear hgood hbad
     go_wp2_with fail
     clear hW1 c0 c1 c2
     refine (hck _).mono ?_
     clear hck
     rintro e w2 ⟨rfl, hb2⟩
     go_wp2
     go_ret
     exact ⟨by rw [HV.out]; rfl, (hE.trans hB1).trans hb2⟩
   ·obtain rfl : k = l.length := by omega
    have Hk0 := Lib.hid (show blkErrs l = 0 by have := hk0.out; rwa [List.take_length] at this)
    clear hk0
    go_wp2_with fail
    clear hkn
    obtain ⟨wo, rfl⟩ : ∃ wo, wo = wr := ⟨_, rfl⟩
    obtain ⟨gko, rfl⟩ : ∃ g, g = gk := ⟨_, rfl⟩
    go_loopg [6] l.length (fun n v wy => ∃ k : Nat, v = .int .i64 ((k : Int) + 1) /\ n = l.length - k /\ (k = 0 ∨ k + 1 <= l.length) /\ Hid (AscB (l.take (k + 1))) /\ Ext w wy)
    case atStart => exact ⟨0, by go_num, by omega, .inl rfl, Lib.hid (by cases l with
     | nil => simp [AscB]
     | cons x l => simp [AscB]), hE⟩
    case round =>
     obtain ⟨k, rfl, rfl, hk1, ha, hE2⟩ := hrel
     by_cases hlt : k + 1 < l.length
     ·have hR1 := hR.ext hE2
      obtain ⟨b, o, rfl, hb, c0, _, _⟩ := hR1.bl (k := k) (by omega)
      obtain ⟨b', o', e', _, e0, _, _⟩ := hR1.bl hlt
      injection e' with e'
      injection e' with e1 e2
      subst e1 e2
      have hgood := fun h1 => asc_take hlt ha.out h1
      have hbad := fun h1 => asc_bad hlt h1
      generalize l[k].kind = x at *
      generalize l[k + 1].kind = y at *
      have hkb : k <= 8 := by omega
      clear hR1
      by_cases hxy : x < y
      ·have d1 : decide (y <= x) = false := decide_eq_false (by omega)
       have Hg := Lib.hid (hgood hxy)
       clear hgood hbad hxy
       go_wp2_with fail
       go_region
       go_wp2
       go_roundg (l.length - (k + 1))
       case measure => omega
       case rel => exact ⟨k + 1, by go_num, rfl, .inr (by omega), Hg, hE2.drew⟩
      ·have d1 : decide (y <= x) = true := decide_eq_true (by omega)
       have HV := Lib.hid (show blksE l = 9 by unfold blksE; rw [if_neg h8, if_neg (by rw [Hk0.out]; simp), if_neg (hbad (by omega))])
       clear hgood hbad hxy
       go_wp2_with fail
       go_region
       go_wp2
       go_ret
       exact ⟨by rw [HV.out]; rfl, hE2.drew⟩
     ·have HA := Lib.hid (show AscB l by have := ha.out; rwa [List.take_of_length_le (by omega)] at this)
      have HV := Lib.hid (show blksE l = 0 by unfold blksE; rw [if_neg h8, if_neg (by rw [Hk0.out]; simp), if_pos HA.out])
      have d1 : decide ((k : Int) + 1 < (l.length : Int)) = false := decide_eq_false (by omega)
      clear ha
      go_wp2
      go_ret
      exact ⟨by rw [HV.out]; rfl, hE2⟩
set_option maxRecDepth 100000 in
set_option maxHeartbeats 16000000 in
theorem buChk_any (b : Bu) (A : Option Addr) (cap : Nat) (w : World) (hR : Rd EBl w A b.blocks) :
 Calls Tryz.prog 94 #[.agg (b.cells A cap)] w fun e w' => e = .returned (.int .i64 (buE b)) /\ Ext w w' := by
 have f1 := fun w => chkId_any b.src b.cr b.seq b.off b.tot w
 have f2 := fun w => ep_any b.dk b.dn w
 have f3 := fun w => buWithin_any b.prio 0 2 w
 have f4 := fun w => chkFlg_any b A cap w
 have f5 := fun w h => chkBlks_any A cap b.blocks w h
 have f6 := fun w h0 h1 => chkPay_any b A cap w h0 h1
 obtain ⟨v, hv⟩ : ∃ v, buE b = v := ⟨_, rfl⟩
 rw [hv]
 unfold buE at hv
 have HV := Lib.hid hv
 clear hv
 unfold Bu.cells at *
 obtain ⟨W, hW, hB, hk, hlt⟩ := box1 w #[.int .i64 b.src, .int .i64 b.cr, .int .i64 b.seq, .int .i64 b.off, .int .i64 b.tot, .int .i64 b.dk, .int .i64 b.dn, .int .i64 b.life, .int .i64 b.prio, .int .i64 b.flags, .slice A b.blocks.length cap, strV b.pay] 29
 have hc0 := hk.cell
 generalize strV b.pay = sv at *
 by_cases x1 : idE b.src b.cr b.seq b.off b.tot = 0
 case neg =>
  have HX := Lib.hid (show v = idE b.src b.cr b.seq b.off b.tot by rw [<- HV.out, if_pos x1])
  obtain ⟨u, hu⟩ : ∃ u, idE b.src b.cr b.seq b.off b.tot = u := ⟨_, rfl⟩
  rw [hu] at f1 HX x1
  have hn0 : (u != 0) = true := by rw [bne_iff_ne]; exact x1
  clear hu x1
  go_enter Tryz.func94, Tryz.ntmps94
  have hx := Ext.refl W
  go_wp2_with fail
  clear hW
  refine (f1 _).mono ?_
  rintro e w1 ⟨rfl, hb1⟩
  replace hx := hx.trans hb1
  clear hc0
  have hc1 := (hk.ext hx).cell
  have hl1 := (hk.ext hx).lt
  go_wp2
  go_ret
  exact ⟨by rw [HX.out]; rfl, hB.trans hx⟩
 rw [x1] at f1
 have z1 : ¬ idE b.src b.cr b.seq b.off b.tot ≠ 0 := fun h => h x1
 have hid := idE_ok x1
 obtain ⟨h0, h1, hcr⟩ := hid
 by_cases x2 : epE b.dk b.dn = 0
 case neg =>
  have HX := Lib.hid (show v = epE b.dk b.dn by rw [<- HV.out, if_neg z1, if_pos x2])
  obtain ⟨u, hu⟩ : ∃ u, epE b.dk b.dn = u := ⟨_, rfl⟩
  rw [hu] at f2 HX x2
  have hn0 : (u != 0) = true := by rw [bne_iff_ne]; exact x2
  clear hu x2
  go_enter Tryz.func94, Tryz.ntmps94
  have hx := Ext.refl W
  go_wp2_with fail
  clear hW
  refine (f1 _).mono ?_
  rintro e w1 ⟨rfl, hb1⟩
  replace hx := hx.trans hb1
  clear hc0
  have hc1 := (hk.ext hx).cell
  have hl1 := (hk.ext hx).lt
  go_wp2_with fail
  refine (f2 _).mono ?_
  rintro e w2 ⟨rfl, hb2⟩
  replace hx := hx.trans hb2
  clear hc1
  have hc2 := (hk.ext hx).cell
  have hl2 := (hk.ext hx).lt
  go_wp2
  go_ret
  exact ⟨by rw [HX.out]; rfl, hB.trans hx⟩
 rw [x2] at f2
 have z2 : ¬ epE b.dk b.dn ≠ 0 := fun h => h x2
 by_cases x3 : b.life < 1
 case pos =>
  have HX := Lib.hid (show v = 2 by rw [<- HV.out, if_neg z1, if_neg z2, if_pos (.inl x3)])
  go_enter Tryz.func94, Tryz.ntmps94
  have hx := Ext.refl W
  go_wp2_with fail
  clear hW
  refine (f1 _).mono ?_
  rintro e w1 ⟨rfl, hb1⟩
  replace hx := hx.trans hb1
  clear hc0
  have hc1 := (hk.ext hx).cell
  have hl1 := (hk.ext hx).lt
  go_wp2_with fail
  refine (f2 _).mono ?_
  rintro e w2 ⟨rfl, hb2⟩
  replace hx := hx.trans hb2
  clear hc1
  have hc2 := (hk.ext hx).cell
  have hl2 := (hk.ext hx).lt
  go_wp2
  go_ret
  exact ⟨by rw [HX.out]; rfl, hB.trans hx⟩
 by_cases y3 : 1099511627776 - b.cr < b.life
 case pos =>
  have HX := Lib.hid (show v = 2 by rw [<- HV.out, if_neg z1, if_neg z2, if_pos (.inr y3)])
  go_enter Tryz.func94, Tryz.ntmps94
  have hx := Ext.refl W
  go_wp2_with fail
  clear hW
  refine (f1 _).mono ?_
  rintro e w1 ⟨rfl, hb1⟩
  replace hx := hx.trans hb1
  clear hc0
  have hc1 := (hk.ext hx).cell
  have hl1 := (hk.ext hx).lt
  go_wp2_with fail
  refine (f2 _).mono ?_
  rintro e w2 ⟨rfl, hb2⟩
  replace hx := hx.trans hb2
  clear hc1
  have hc2 := (hk.ext hx).cell
  have hl2 := (hk.ext hx).lt
  go_wp2
  go_ret
  exact ⟨by rw [HX.out]; rfl, hB.trans hx⟩
 have z3 : ¬ (b.life < 1 ∨ 1099511627776 - b.cr < b.life) := by omega
 by_cases x4 : 0 <= b.prio /\ b.prio <= 2
 case neg =>
  have HX := Lib.hid (show v = 8 by rw [<- HV.out, if_neg z1, if_neg z2, if_neg z3, if_pos x4])
  rw [decide_eq_false x4] at f3
  go_enter Tryz.func94, Tryz.ntmps94
  have hx := Ext.refl W
  go_wp2_with fail
  clear hW
  refine (f1 _).mono ?_
  rintro e w1 ⟨rfl, hb1⟩
  replace hx := hx.trans hb1
  clear hc0
  have hc1 := (hk.ext hx).cell
  have hl1 := (hk.ext hx).lt
  go_wp2_with fail
  refine (f2 _).mono ?_
  rintro e w2 ⟨rfl, hb2⟩
  replace hx := hx.trans hb2
  clear hc1
  have hc2 := (hk.ext hx).cell
  have hl2 := (hk.ext hx).lt
  go_wp2_with fail
  refine (f3 _).mono ?_
  rintro e w4 ⟨rfl, rfl⟩
  go_wp2
  go_ret
  exact ⟨by rw [HX.out]; rfl, hB.trans hx⟩
 rw [decide_eq_true x4] at f3
 have z4 : ¬ ¬ (0 <= b.prio /\ b.prio <= 2) := fun h => h x4
 by_cases x5 : flgE b.flags b.tot = 0
 case neg =>
  have HX := Lib.hid (show v = flgE b.flags b.tot by rw [<- HV.out, if_neg z1, if_neg z2, if_neg z3, if_neg z4, if_pos x5])
  obtain ⟨u, hu⟩ : ∃ u, flgE b.flags b.tot = u := ⟨_, rfl⟩
  rw [hu] at f4 HX x5
  have hn0 : (u != 0) = true := by rw [bne_iff_ne]; exact x5
  clear hu x5
  go_enter Tryz.func94, Tryz.ntmps94
  have hx := Ext.refl W
  go_wp2_with fail
  clear hW
  refine (f1 _).mono ?_
  rintro e w1 ⟨rfl, hb1⟩
  replace hx := hx.trans hb1
  clear hc0
  have hc1 := (hk.ext hx).cell
  have hl1 := (hk.ext hx).lt
  go_wp2_with fail
  refine (f2 _).mono ?_
  rintro e w2 ⟨rfl, hb2⟩
  replace hx := hx.trans hb2
  clear hc1
  have hc2 := (hk.ext hx).cell
  have hl2 := (hk.ext hx).lt
  go_wp2_with fail
  refine (f3 _).mono ?_
  rintro e w4 ⟨rfl, rfl⟩
  go_wp2_with fail
  refine (f4 _).mono ?_
  rintro e w5 ⟨rfl, hb5⟩
  replace hx := hx.trans hb5
  clear hc2
  have hc5 := (hk.ext hx).cell
  have hl5 := (hk.ext hx).lt
  go_wp2
  go_ret
  exact ⟨by rw [HX.out]; rfl, hB.trans hx⟩
 rw [x5] at f4
 have z5 : ¬ flgE b.flags b.tot ≠ 0 := fun h => h x5
 by_cases x6 : blksE b.blocks = 0
 case neg =>
  have HX := Lib.hid (show v = blksE b.blocks by rw [<- HV.out, if_neg z1, if_neg z2, if_neg z3, if_neg z4, if_neg z5, if_pos x6])
  obtain ⟨u, hu⟩ : ∃ u, blksE b.blocks = u := ⟨_, rfl⟩
  rw [hu] at f5 HX x6
  have hn0 : (u != 0) = true := by rw [bne_iff_ne]; exact x6
  clear hu x6
  go_enter Tryz.func94, Tryz.ntmps94
  have hx := Ext.refl W
  go_wp2_with fail
  clear hW
  refine (f1 _).mono ?_
  rintro e w1 ⟨rfl, hb1⟩
  replace hx := hx.trans hb1
  clear hc0
  have hc1 := (hk.ext hx).cell
  have hl1 := (hk.ext hx).lt
  go_wp2_with fail
  refine (f2 _).mono ?_
  rintro e w2 ⟨rfl, hb2⟩
  replace hx := hx.trans hb2
  clear hc1
  have hc2 := (hk.ext hx).cell
  have hl2 := (hk.ext hx).lt
  go_wp2_with fail
  refine (f3 _).mono ?_
  rintro e w4 ⟨rfl, rfl⟩
  go_wp2_with fail
  refine (f4 _).mono ?_
  rintro e w5 ⟨rfl, hb5⟩
  replace hx := hx.trans hb5
  clear hc2
  have hc5 := (hk.ext hx).cell
  have hl5 := (hk.ext hx).lt
  go_wp2_with fail
  refine (f5 _ ((hR.ext hB).ext hx)).mono ?_
  rintro e w6 ⟨rfl, hb6⟩
  replace hx := hx.trans hb6
  clear hc5
  have hc6 := (hk.ext hx).cell
  have hl6 := (hk.ext hx).lt
  go_wp2
  go_ret
  exact ⟨by rw [HX.out]; rfl, hB.trans hx⟩
 rw [x6] at f5
 have z6 : ¬ blksE b.blocks ≠ 0 := fun h => h x6
 have HX := Lib.hid (show v = payE b.off b.tot b.pay.length by rw [<- HV.out, if_neg z1, if_neg z2, if_neg z3, if_neg z4, if_neg z5, if_neg z6])
 obtain ⟨u, hu⟩ : ∃ u, payE b.off b.tot b.pay.length = u := ⟨_, rfl⟩
 rw [hu] at f6 HX
 clear hu x1 x2 x5 x6 z1 z2 z3 z4 z5 z6
 go_enter Tryz.func94, Tryz.ntmps94
 have hx := Ext.refl W
 go_wp2_with fail
 clear hW
 refine (f1 _).mono ?_
 rintro e w1 ⟨rfl, hb1⟩
 replace hx := hx.trans hb1
 clear hc0
 have hc1 := (hk.ext hx).cell
 have hl1 := (hk.ext hx).lt
 go_wp2_with fail
 refine (f2 _).mono ?_
 rintro e w2 ⟨rfl, hb2⟩
 replace hx := hx.trans hb2
 clear hc1
 have hc2 := (hk.ext hx).cell
 have hl2 := (hk.ext hx).lt
 go_wp2_with fail
 refine (f3 _).mono ?_
 rintro e w4 ⟨rfl, rfl⟩
 go_wp2_with fail
 refine (f4 _).mono ?_
 rintro e w5 ⟨rfl, hb5⟩
 replace hx := hx.trans hb5
 clear hc2
 have hc5 := (hk.ext hx).cell
 have hl5 := (hk.ext hx).lt
 go_wp2_with fail
 refine (f5 _ ((hR.ext hB).ext hx)).mono ?_
 rintro e w6 ⟨rfl, hb6⟩
 replace hx := hx.trans hb6
 clear hc5
 have hc6 := (hk.ext hx).cell
 have hl6 := (hk.ext hx).lt
 go_wp2_with fail
 refine (f6 _ h0 h1).mono ?_
 rintro e w7 ⟨rfl, hb7⟩
 replace hx := hx.trans hb7
 clear hc6
 have hc7 := (hk.ext hx).cell
 have hl7 := (hk.ext hx).lt
 go_wp2
 go_ret
 exact ⟨by rw [HX.out]; rfl, hB.trans hx⟩
end
end Go.Proofs.YtemkpimngbbpkaaGreat

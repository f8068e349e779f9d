/- Update: slices.AppendSeq and slices.Collect at the changes that are not known; Missing. · Three nodes' play: one gets what it is missing from another one. · Three nodes' play: three histories in memory. · Three nodes' play: top35Play. · Bookings: slices.BinarySearchFunc at bookings. -/
import Derived.Test.YtemkpimngbbpkaaGreatQt03
import Derived.Test.YtemkpimngbbpkaaGreatQt05
import Derived.Test.YtemkpimngbbpkaaGreatQt08
import Derived.Test.YtemkpimngbbpkaaGreatQt18
import Derived.Test.YtemkpimngbbpkaaGreatQt36
import Derived.Test.YtemkpimngbbpkaaGreatQt39
import Derived.Test.YtemkpimngbbpkaaGreatQt41
namespace Go.Proofs.YtemkpimngbbpkaaGreat
set_option linter.unusedVariables false
set_option linter.unusedSimpArgs false
section
open Go.RowKit Go.Shelf
attribute [local go_sem] Oper.semAt_some
end
section
open Go.RowKit Go.Shelf
attribute [local go_sem] Oper.semAt_some
end
section
open Go.RowKit Go.Shelf
structure Hs where
 A : Option Addr
 n : Nat
 c : Nat
section
variable {w w' : World} {base B : Nat} {L : Nat -> List Chg} {K : Nat -> Nat -> Nat} {xs : List Hs}
end
end
section
open Go.RowKit Go.Shelf
attribute [local go_sem] Oper.semAt_some
section
variable {t : Nat} {L : Nat -> List Chg} {K : Nat -> Nat -> Nat}
end
theorem near_of9 (W : World) : ∀ w', Ext W w' -> Ext W w' /\ ∀ b o, b < W.heap.size -> w'.cell? ⟨b, o, none⟩ = W.cell? ⟨b, o, none⟩ := fun w' h => ⟨h, fun b o hb => h.cell hb⟩
end
section
open Go.RowKit Go.Shelf
attribute [local go_sem] Oper.semAt_some
structure BsP (l : List Bk) (b : Bk) (i : Nat) : Prop where
 le : i <= l.length
 lo : ∀ k, k < i -> bkCmp (gbk l k) b < 0
 hi : ∀ k, i <= k -> k < l.length -> ¬ bkCmp (gbk l k) b < 0
def BsR (l : List Bk) (b : Bk) (w : World) (e : Ending) (w' : World) : Prop := ∃ (i : Nat) (f : Bool), e = .returned (.tuple #[.int .i64 i, .bool f]) /\ BsP l b i /\ Ext w w'
set_option maxRecDepth 100000 in
set_option maxHeartbeats 4000000 in
theorem bsearchBk_any (A : Option Addr) (c : Nat) (l : List Bk) (b : Bk) (w : World) (hA : Rd EBk w A l) (hl : l.length <= 1000000) (hm : ∀ x y, x <= y -> y < l.length -> bkCmp (gbk l y) b < 0 -> bkCmp (gbk l x) b < 0) :
 Calls Tryz.prog 170 #[.slice A l.length c, b.val, .func (.func 93) #[] #[]] w (BsR l b w) := by
 have hcm := fun a w => bcompare_any a b w
 have hen : ∀ args w, (callFunc 93 args).run Tryz.prog w = .ok (.enter 93 args) w := enters_of Tryz.func93 (by kernel_rfl) rfl
 obtain ⟨cf, hcf⟩ : ∃ cf : Bk -> Int, (fun x => bkCmp x b) = cf := ⟨_, rfl⟩
 have HCF := Lib.hid (show ∀ x, bkCmp x b = cf x from fun x => by rw [<- hcf])
 have hcm' : ∀ a w, Calls Tryz.prog 93 #[a.val, b.val] w fun e w' => e = .returned (.int .i64 (cf a)) /\ Ext w w' := fun a w => by rw [<- HCF.out]; exact hcm a w
 have HM : Hid (∀ x y, x <= y -> y < l.length -> cf (gbk l y) < 0 -> cf (gbk l x) < 0) := Lib.hid (fun x y h1 h2 h3 => by rw [<- HCF.out] at h3 ⊢; exact hm x y h1 h2 h3)
 clear hcm hcf hm
 obtain ⟨bc, bb, be, bt⟩ := b
 unfold Bk.val at hcm' ⊢
 dsimp only at hcm' ⊢
 obtain ⟨W1, hW1, hB1, hk1, hl1⟩ := box1 w #[.int .i64 bc, .int .i64 bb, .int .i64 be, .int .i64 bt] 100
 have hR1 := hA.ext hB1
 go_enter Tryz.func170, Tryz.ntmps170
 go_wp2_with fail
 clear hW1
 go_loopg [9, 10] l.length (fun q vi vj wr => ∃ i j : Nat, i + q = j /\ j <= l.length /\ vi = .int .i64 i /\ vj = .int .i64 j /\ Hid (∀ k, k < i -> cf (gbk l k) < 0) /\ Hid (∀ k, j <= k -> k < l.length -> ¬ cf (gbk l k) < 0) /\ Ext W1 wr)
 case atStart => exact ⟨0, l.length, by omega, Nat.le_refl _, by go_num, rfl, Lib.hid (fun k h => by omega), Lib.hid (fun k h1 h2 => by omega), Ext.refl _⟩
 case round =>
  obtain ⟨i, j, hij, hjl, rfl, rfl, HLo, HHi, hE⟩ := hrel
  have Hij := Lib.hid hij
  have kk := hk1.ext hE
  have c1 := kk.cell
  have c2 := kk.lt
  by_cases hlt : i < j
  ·have d1 : decide ((i : Int) < (j : Int)) = true := decide_eq_true (by omega)
   obtain ⟨h, hh⟩ : ∃ h, (i + j) / 2 = h := ⟨_, rfl⟩
   have e1 : ((i : Int) + (j : Int)) / 2 = (h : Int) := by omega
   have h1 : i <= h := by omega
   have h2 : h < j := by omega
   have hhl : h < l.length := by omega
   obtain ⟨b0, o0, rfl, hb0, a0, a1, a2, a3⟩ := (hR1.ext hE).bk hhl
   have hgb := gbk_get hhl
   generalize l[h] = y at *
   have HY := Lib.hid hgb
   have hcy := fun w => hcm' y w
   obtain ⟨v, hv⟩ : ∃ v, cf y = v := ⟨_, rfl⟩
   rw [hv] at hcy
   have HV := Lib.hid hv
   obtain ⟨yc, yb, ye, yt⟩ := y
   dsimp only at a0 a1 a2 a3 hcy
   clear hij hh hgb hv
   go_upto_region 5 with fail
   have near := near_of9 wr
   have hbl : b0 < wr.heap.size := hb0
   by_cases hv0 : v < 0
   case' pos =>
    have dv : decide (v < 0) = true := decide_eq_true hv0
    have HN : Hid (∀ k, k < h + 1 -> cf (gbk l k) < 0) := Lib.hid (fun k hk => HM.out k h (by omega) hhl (by rw [HY.out, HV.out]; exact hv0))
   case' neg =>
    have dv : decide (v < 0) = false := decide_eq_false hv0
    have HN : Hid (∀ k, h <= k -> k < l.length -> ¬ cf (gbk l k) < 0) := Lib.hid (fun k hk hkl hc => hv0 (by rw [<- HV.out, <- HY.out]; exact HM.out h k hk hkl hc))
   all_goals
    clear hv0
    refine wp_region_P (fun _ => false) (fun w' => Ext wr w' /\ ∀ b o, b < wr.heap.size -> w'.cell? ⟨b, o, none⟩ = wr.cell? ⟨b, o, none⟩) (by kernel_rfl) (near _ (Ext.refl wr).drew) (fun _ => ?_)
    refine pT 0 (v := ?_) rfl (fun _ _ _ h => h) (by kernel_rfl) ?_ ?_
    rotate_left
    ·intro w'; go_simp; first | done | with_reducible rfl
    try simp only [Act.put, List.getElem_toArray, List.getElem_cons_succ, List.getElem_cons_zero, sp1]
    refine pT 1 (v := ?_) rfl (fun _ _ _ h => h) (by kernel_rfl) ?_ ?_
    rotate_left
    ·intro w'; go_simp; first | done | with_reducible rfl
    try simp only [Act.put, List.getElem_toArray, List.getElem_cons_succ, List.getElem_cons_zero, sp1]
    refine pT 2 (v := ?_) rfl (fun _ _ _ h => h) (by kernel_rfl) ?_ ?_
    rotate_left
    ·intro w'; go_simp; first | done | with_reducible rfl
    try simp only [Act.put, List.getElem_toArray, List.getElem_cons_succ, List.getElem_cons_zero, sp1]
    refine pT 3 (v := ?_) rfl (fun _ _ _ h => h) (by kernel_rfl) ?_ ?_
    rotate_left
    ·intro w'; go_simp; first | done | with_reducible rfl
    try simp only [Act.put, List.getElem_toArray, List.getElem_cons_succ, List.getElem_cons_zero, sp1]
    refine pK 4 (v := ?_) rfl (fun _ _ _ h => h) (by kernel_rfl) ?_ (by assumption) ?_
    rotate_left
    ·intro w' hw'
     (try have hC := hw'.2)
     (try have hC9 := hw'.1)
     go_simp
     first | done | with_reducible rfl
    try simp only [Act.put, List.getElem_toArray, List.getElem_cons_succ, List.getElem_cons_zero, sp1]
    refine pK 5 (v := ?_) rfl (fun _ _ _ h => h) (by kernel_rfl) ?_ (by assumption) ?_
    rotate_left
    ·intro w' hw'
     (try have hC := hw'.2)
     (try have hC9 := hw'.1)
     go_simp
     first | done | with_reducible rfl
    try simp only [Act.put, List.getElem_toArray, List.getElem_cons_succ, List.getElem_cons_zero, sp1]
    refine pO 6 rfl (fun K hK => ?_)
    go_simp
    refine Calls.mono (hcy wr.drew) ?_
    rintro e w7 ⟨rfl, hb7⟩
    have hx7 := (Ext.refl wr).drew.trans hb7
    refine hK.out _ _ (fun _ _ => near _ hx7) ?_
    clear hK K
    refine pT 7 (v := ?_) rfl (fun _ _ _ h => h) (by kernel_rfl) ?_ ?_
    rotate_left
    ·intro w'; go_simp; first | done | with_reducible rfl
    try simp only [Act.put, List.getElem_toArray, List.getElem_cons_succ, List.getElem_cons_zero, sp1]
    (try simp only [List.getElem_toArray, List.getElem_cons_succ, List.getElem_cons_zero, Act.put, sp1])
    refine wpAnyP_done (by kernel_rfl) ?_ _
    clear e1 a0 a1 a2 a3 c1 c2
    go_wp2
    first
     | (go_roundg (j - (h + 1))
        case measure => have := Hij.out; omega
        case rel => exact ⟨h + 1, j, by omega, hjl, by go_num, rfl, HN, HHi, hE.trans hx7⟩)
     | (go_roundg (h - i)
        case measure => have := Hij.out; omega
        case rel => exact ⟨i, h, by omega, by omega, rfl, by go_num, HLo, HN, hE.trans hx7⟩)
  ·have d1 : decide ((i : Int) < (j : Int)) = false := decide_eq_false (by omega)
   obtain rfl : i = j := by omega
   have hfin : BsP l ⟨bc, bb, be, bt⟩ i := ⟨hjl, fun k hk => by rw [HCF.out]; exact HLo.out k hk, fun k h1 h2 => by rw [HCF.out]; exact HHi.out k h1 h2⟩
   have HFIN := Lib.hid hfin
   have near := near_of9 wr
   clear hfin hij
   by_cases hil : i < l.length
   ·have d2 : decide ((i : Int) < (l.length : Int)) = true := decide_eq_true (by omega)
    have d2' : decide (i < l.length) = true := decide_eq_true hil
    obtain ⟨b0, o0, rfl, hb0, a0, a1, a2, a3⟩ := (hR1.ext hE).bk hil
    generalize l[i] = y at *
    have hcy := fun w => hcm' y w
    obtain ⟨v, hv⟩ : ∃ v, cf y = v := ⟨_, rfl⟩
    rw [hv] at hcy
    obtain ⟨yc, yb, ye, yt⟩ := y
    dsimp only at a0 a1 a2 a3 hcy
    clear hv
    have hbl : b0 < wr.heap.size := hb0
    go_upto_region 8 with fail
    refine wp_region_P (fun _ => false) (fun w' => Ext wr w' /\ ∀ b o, b < wr.heap.size -> w'.cell? ⟨b, o, none⟩ = wr.cell? ⟨b, o, none⟩) (by kernel_rfl) (near _ (Ext.refl wr).drew) (fun _ => ?_)
    refine pT 0 (v := ?_) rfl (fun _ _ _ h => h) (by kernel_rfl) ?_ ?_
    rotate_left
    ·intro w'; go_simp; first | done | with_reducible rfl
    try simp only [Act.put, List.getElem_toArray, List.getElem_cons_succ, List.getElem_cons_zero, sp1]
    refine pT 1 (v := ?_) rfl (fun _ _ _ h => h) (by kernel_rfl) ?_ ?_
    rotate_left
    ·intro w'; go_simp; first | done | with_reducible rfl
    try simp only [Act.put, List.getElem_toArray, List.getElem_cons_succ, List.getElem_cons_zero, sp1]
    refine pT 2 (v := ?_) rfl (fun _ _ _ h => h) (by kernel_rfl) ?_ ?_
    rotate_left
    ·intro w'; go_simp; first | done | with_reducible rfl
    try simp only [Act.put, List.getElem_toArray, List.getElem_cons_succ, List.getElem_cons_zero, sp1]
    refine pT 3 (v := ?_) rfl (fun _ _ _ h => h) (by kernel_rfl) ?_ ?_
    rotate_left
    ·intro w'; go_simp; first | done | with_reducible rfl
    try simp only [Act.put, List.getElem_toArray, List.getElem_cons_succ, List.getElem_cons_zero, sp1]
    refine pT 4 (v := ?_) rfl (fun _ _ _ h => h) (by kernel_rfl) ?_ ?_
    rotate_left
    ·intro w'; go_simp; first | done | with_reducible rfl
    try simp only [Act.put, List.getElem_toArray, List.getElem_cons_succ, List.getElem_cons_zero, sp1]
    refine pT 5 (v := ?_) rfl (fun _ _ _ h => h) (by kernel_rfl) ?_ ?_
    rotate_left
    ·intro w'; go_simp; first | done | with_reducible rfl
    try simp only [Act.put, List.getElem_toArray, List.getElem_cons_succ, List.getElem_cons_zero, sp1]
    refine pT 6 (v := ?_) rfl (fun _ _ _ h => h) (by kernel_rfl) ?_ ?_
    rotate_left
    ·intro w'; go_simp; first | done | with_reducible rfl
    try simp only [Act.put, List.getElem_toArray, List.getElem_cons_succ, List.getElem_cons_zero, sp1]
    refine pT 7 (v := ?_) rfl (fun _ _ _ h => h) (by kernel_rfl) ?_ ?_
    rotate_left
    ·intro w'; go_simp; first | done | with_reducible rfl
    try simp only [Act.put, List.getElem_toArray, List.getElem_cons_succ, List.getElem_cons_zero, sp1]
    refine pT 8 (v := ?_) rfl (fun _ _ _ h => h) (by kernel_rfl) ?_ ?_
    rotate_left
    ·intro w'; go_simp; first | done | with_reducible rfl
    try simp only [Act.put, List.getElem_toArray, List.getElem_cons_succ, List.getElem_cons_zero, sp1]
    refine pK 9 (v := ?_) rfl (fun _ _ _ h => h) (by kernel_rfl) ?_ (by assumption) ?_
    rotate_left
    ·intro w' hw'
     (try have hC := hw'.2)
     (try have hC9 := hw'.1)
     go_simp
     first | done | with_reducible rfl
    try simp only [Act.put, List.getElem_toArray, List.getElem_cons_succ, List.getElem_cons_zero, sp1]
    refine pK 10 (v := ?_) rfl (fun _ _ _ h => h) (by kernel_rfl) ?_ (by assumption) ?_
    rotate_left
    ·intro w' hw'
     (try have hC := hw'.2)
     (try have hC9 := hw'.1)
     go_simp
     first | done | with_reducible rfl
    try simp only [Act.put, List.getElem_toArray, List.getElem_cons_succ, List.getElem_cons_zero, sp1]
    refine pO 11 rfl (fun K hK => ?_)
    go_simp
    refine Calls.mono (hcy wr.drew) ?_
    rintro e w7 ⟨rfl, hb7⟩
    have hx7 := (Ext.refl wr).drew.trans hb7
    refine hK.out _ _ (fun _ _ => near _ hx7) ?_
    clear hK K
    refine pT 12 (v := ?_) rfl (fun _ _ _ h => h) (by kernel_rfl) ?_ ?_
    rotate_left
    ·intro w'; go_simp; first | done | with_reducible rfl
    try simp only [Act.put, List.getElem_toArray, List.getElem_cons_succ, List.getElem_cons_zero, sp1]
    refine pT 13 (v := ?_) rfl (fun _ _ _ h => h) (by kernel_rfl) ?_ ?_
    rotate_left
    ·intro w'; go_simp; first | done | with_reducible rfl
    try simp only [Act.put, List.getElem_toArray, List.getElem_cons_succ, List.getElem_cons_zero, sp1]
    refine pT 14 (v := ?_) rfl (fun _ _ _ h => h) (by kernel_rfl) ?_ ?_
    rotate_left
    ·intro w'; go_simp; first | done | with_reducible rfl
    try simp only [Act.put, List.getElem_toArray, List.getElem_cons_succ, List.getElem_cons_zero, sp1]
    refine pT 15 (v := ?_) rfl (fun _ _ _ h => h) (by kernel_rfl) ?_ ?_
    rotate_left
    ·intro w'; go_simp; first | done | with_reducible rfl
    try simp only [Act.put, List.getElem_toArray, List.getElem_cons_succ, List.getElem_cons_zero, sp1]
    (try simp only [List.getElem_toArray, List.getElem_cons_succ, List.getElem_cons_zero, Act.put, sp1])
    refine wpAnyP_done (by kernel_rfl) ?_ _
    go_wp2
    go_ret2
    exact ⟨i, _, rfl, HFIN.out, (hB1.trans hE).trans hx7⟩
   ·have d2 : decide ((i : Int) < (l.length : Int)) = false := decide_eq_false (by omega)
    have d2' : decide (i < l.length) = false := decide_eq_false hil
    have hN := Near.refl wr
    go_wp2_with fail
    have hq := quiet_near hN
    refine wp_region_quiet_below (by kernel_rfl) (by kernel_rfl) ?_
    repeat (first | go_big_quiet_skip | (go_big_quiet_want; go_big_quiet_op; first | go_big_quiet_on | (apply Exists.intro; refine ⟨fun _ => ?_, ?_⟩; (focus (first | fail)); go_big_quiet_on)))
    refine wpQuiet_nil ?_
    intro w1 hw1
    clear hq
    replace hw1 := quiet_ext hw1
    replace hN := hN.step hw1
    have hC := hN.2
    go_wp2
    go_ret2
    exact ⟨i, _, rfl, HFIN.out, (hB1.trans hE).trans hN.1⟩
end
end Go.Proofs.YtemkpimngbbpkaaGreat

/- Decoding: varint.ReadList; the reader of extensions. · Forwarding: the parsers of ages and hops. · Forwarding: the parsers of ages and hops, walked. -/
import Derived.Test.YtemkpimngbbpkaaGreatQs16
import Derived.Test.YtemkpimngbbpkaaGreatQs21
import Derived.Test.YtemkpimngbbpkaaGreatQs34
namespace Go.Proofs.YtemkpimngbbpkaaGreat
set_option linter.unusedVariables false
set_option linter.unusedSimpArgs false
section
open Go.RowKit Go.Shelf
attribute [local go_sem] Oper.semAt_some
def LsS (n : Nat) (s0 : Bts) (k : Nat) (out : List Int) (at' : Nat) (er : Int) : Prop :=
 k <= n /\ out.length = k /\ at' <= s0.length /\
 ((er = 0 /\ rdLs n s0 = if (rdLs (n - k) (s0.drop at')).1 ≠ 0 then ((rdLs (n - k) (s0.drop at')).1, [], 0) else (0, out ++ (rdLs (n - k) (s0.drop at')).2.1, at' + (rdLs (n - k) (s0.drop at')).2.2)) ∨
  (er ≠ 0 /\ rdLs n s0 = (er, [], 0)))
theorem rdLs_err {n : Nat} {s : Bts} (h : (rdLs n s).1 ≠ 0) : rdLs n s = ((rdLs n s).1, [], 0) := by
 cases n with
 | zero => exact absurd rfl h
 | succ n =>
   unfold rdLs at h ⊢
   split
   ·rfl
   ·rename_i h1
    split
    ·rfl
    ·rename_i h2
     rw [if_neg h1, if_neg h2] at h
     exact absurd rfl h
theorem LsS.zero (n : Nat) (s0 : Bts) : LsS n s0 0 [] 0 0 := by
 refine ⟨Nat.zero_le _, rfl, Nat.zero_le _, .inl ⟨rfl, ?_⟩⟩
 rw [Nat.sub_zero, List.drop_zero]
 split
 ·rename_i h; exact rdLs_err h
 ·rename_i h
  refine Prod.ext (by simpa using h) (Prod.ext ?_ ?_)
  ·simp
  ·simp
theorem LsS.good {n : Nat} {s0 : Bts} {k : Nat} {out : List Int} {at' : Nat} (h : LsS n s0 k out at' 0) (hk : k < n) (hr : (rdI (s0.drop at')).1 = 0) :
 LsS n s0 (k + 1) (out ++ [(rdI (s0.drop at')).2.1]) (at' + (rdI (s0.drop at')).2.2) 0 := by
 obtain ⟨h1, h2, h3, h4⟩ := h
 have hle := rdI_le hr
 rw [List.length_drop] at hle
 rcases h4 with ⟨_, h4⟩ | ⟨h4, _⟩
 ·refine ⟨by omega, by rw [List.length_append, h2]; rfl, by omega, .inl ⟨rfl, ?_⟩⟩
  rw [h4]
  obtain ⟨j, hj⟩ : ∃ j, n - k = j + 1 := ⟨n - k - 1, by omega⟩
  rw [hj, show n - (k + 1) = j by omega, <- List.drop_drop]
  generalize s0.drop at' = X at *
  have e : rdLs (j + 1) X = if (rdLs j (X.drop (rdI X).2.2)).1 ≠ 0 then ((rdLs j (X.drop (rdI X).2.2)).1, [], 0) else (0, (rdI X).2.1 :: (rdLs j (X.drop (rdI X).2.2)).2.1, (rdI X).2.2 + (rdLs j (X.drop (rdI X).2.2)).2.2) := by
   conv => lhs; unfold rdLs
   rw [if_neg (by rw [hr]; simp)]
  rw [e]
  by_cases hc : (rdLs j (X.drop (rdI X).2.2)).1 = 0
  ·rw [if_neg (show ¬ (rdLs j (X.drop (rdI X).2.2)).1 ≠ 0 by rw [hc]; simp)]
   dsimp only
   rw [if_neg (by simp), if_neg (by rw [hc]; simp)]
   refine Prod.ext rfl (Prod.ext ?_ ?_)
   ·simp
   ·dsimp only; omega
  ·rw [if_pos hc]
   dsimp only
   rw [if_pos hc, if_pos hc]
 ·exact absurd rfl h4
theorem LsS.bad {n : Nat} {s0 : Bts} {k : Nat} {out : List Int} {at' : Nat} (h : LsS n s0 k out at' 0) (hk : k < n) (hr : (rdI (s0.drop at')).1 ≠ 0) (x : Int) :
 LsS n s0 (k + 1) (out ++ [x]) at' (rdI (s0.drop at')).1 := by
 obtain ⟨h1, h2, h3, h4⟩ := h
 rcases h4 with ⟨_, h4⟩ | ⟨h4, _⟩
 ·refine ⟨by omega, by rw [List.length_append, h2]; rfl, h3, .inr ⟨hr, ?_⟩⟩
  rw [h4]
  obtain ⟨j, hj⟩ : ∃ j, n - k = j + 1 := ⟨n - k - 1, by omega⟩
  rw [hj]
  have e : rdLs (j + 1) (s0.drop at') = ((rdI (s0.drop at')).1, [], 0) := by
   conv => lhs; unfold rdLs
   rw [if_pos hr]
  rw [e]
  dsimp only
  rw [if_pos hr]
 ·exact absurd rfl h4
theorem LsS.done {n : Nat} {s0 : Bts} {out : List Int} {at' : Nat} (h : LsS n s0 n out at' 0) : rdLs n s0 = (0, out, at') := by
 obtain ⟨h1, h2, h3, h4⟩ := h
 rcases h4 with ⟨_, h4⟩ | ⟨h4, _⟩
 ·rw [h4, Nat.sub_self]
  simp [rdLs]
 ·exact absurd rfl h4
theorem LsS.fell {n : Nat} {s0 : Bts} {k : Nat} {out : List Int} {at' : Nat} {er : Int} (h : LsS n s0 k out at' er) (he : er ≠ 0) : rdLs n s0 = (er, [], 0) := by
 obtain ⟨h1, h2, h3, h4⟩ := h
 rcases h4 with ⟨h4, _⟩ | ⟨_, h4⟩
 ·exact absurd h4 he
 ·exact h4
theorem rdL_of (s : Bts) {er n : Int} {sz : Nat} (h : rdN s = (er, n, sz)) : rdL s = if er ≠ 0 then (er, [], 0) else if (rdLs n.toNat (s.drop sz)).1 ≠ 0 then ((rdLs n.toNat (s.drop sz)).1, [], 0) else (0, (rdLs n.toNat (s.drop sz)).2.1, sz + (rdLs n.toNat (s.drop sz)).2.2) := by
 unfold rdL
 rw [h]
set_option maxRecDepth 100000 in
set_option maxHeartbeats 8000000 in
theorem ReadList_any (s : Bts) (w : World) (hs : s.length <= 1000000) :
 Calls Tryz.prog 301 #[strV s] w fun e w' => ∃ A c, e = .returned (.tuple #[.slice A (rdL s).2.1.length c, .int .i64 ((rdL s).2.2 : Nat), .int .i64 (rdL s).1]) /\ (rdL s).2.1.length <= c /\ Rd EInt w' A (rdL s).2.1 /\ Ext w w' := by
 have f1 := fun g w hk => length_any g s 0 w hk hs (Nat.zero_le _)
 simp only [List.drop_zero, Nat.zero_add] at f1
 have f2 := fun g (a : Nat) w hk ha => integer_any g s a w hk hs ha
 have hle := rdN_le (s := s)
 have her := rdN_err (s := s)
 obtain ⟨r, hr⟩ : ∃ r, rdN s = r := ⟨_, rfl⟩
 rw [hr] at f1 hle her
 obtain ⟨er, n, sz⟩ := r
 have hT := rdL_of s hr
 dsimp only at f1 hle her
 obtain ⟨q, hq⟩ : ∃ q, rdL s = q := ⟨_, rfl⟩
 rw [hq] at hT ⊢
 obtain ⟨ba, hba, hbv, hbs⟩ := str_name s
 rw [hbv] at f1 f2 ⊢
 obtain ⟨L, hL⟩ : ∃ L, s.length = L := ⟨_, rfl⟩
 rw [hL] at hle her f2
 obtain ⟨s0, hs0⟩ : ∃ s0, s.drop sz = s0 := ⟨_, rfl⟩
 have hs0l : s0.length = L - sz := by rw [<- hs0, List.length_drop, hL]
 have hdd : ∀ a, s.drop (sz + a) = s0.drop a := fun a => by rw [<- hs0, List.drop_drop]
 rw [hs0] at hT
 have F2 := Lib.hid (fun g (a : Nat) w hk ha => by have := f2 g (sz + a) w hk ha; rw [hdd a] at this; exact this)
 have HQ := Lib.hid hT
 obtain ⟨i0, hi0, hz0, hz1, hz2⟩ := info_parts info_intD
 obtain ⟨W, hW, hB, hk, hlt⟩ := box1 w #[.string ba, .int .i64 0, .int .i64 0] 372
 have hc := hk.cell
 clear hr hq hba hbv hL hs0 hdd f2 hT hbs hs
 by_cases h0 : er = 0
 case neg =>
  obtain ⟨rfl, l2⟩ := her h0
  have HX := Lib.hid (show q = (er, [], 0) by rw [HQ.out, if_pos h0])
  have hb : (er != 0) = true := by rw [bne_iff_ne]; exact h0
  clear hle her
  go_enter Tryz.func301, Tryz.ntmps301
  go_wp2_with fail
  clear hW
  refine (f1 _ _ hk).mono ?_
  clear hc f1
  rintro e w1 ⟨rfl, hu1, hk1⟩
  have hE := hu1.ext hB (Nat.le_refl _)
  have c1 := hk1.cell
  have c2 := hk1.lt
  go_wp2_with fail
  go_loopg [7, 8] 0 (fun m vo vi wr => vo = .slice none 0 0 /\ vi = .int .i64 0 /\ wr = w1)
  case atStart => exact ⟨rfl, by go_num, rfl⟩
  case round =>
   obtain ⟨rfl, rfl, rfl⟩ := hrel
   have hN := Near.refl wr
   go_upto_region 9 with fail
   have hC := hN.2
   have hq := quiet_near hN
   refine wp_region_quiet_below (by kernel_rfl) (by kernel_rfl) ?_
   repeat (first | go_big_quiet_skip | (go_big_quiet_want; go_big_quiet_op; first | go_big_quiet_on | (apply Exists.intro; refine ⟨fun _ => ?_, ?_⟩; (focus (first | fail)); go_big_quiet_on)))
   refine wpQuiet_nil ?_
   intro w1 hw1
   clear hq
   replace hw1 := quiet_ext hw1
   replace hN := hN.step hw1
   have hC := hN.2
   go_wp2
   go_ret3
   rw [HX.out]
   exact ⟨none, 0, rfl, Nat.le_refl _, Rd.nil, hE.trans hw1⟩
 subst h0
 obtain ⟨l1, l2, l3, l4⟩ := hle rfl
 obtain ⟨nn, rfl⟩ := Int.eq_ofNat_of_zero_le l3
 rw [if_neg (by simp), Int.toNat_natCast] at HQ
 clear hle her
 go_enter Tryz.func301, Tryz.ntmps301
 go_wp2_with fail
 clear hW
 refine (f1 _ _ hk).mono ?_
 clear hc f1
 rintro e w1 ⟨rfl, hu1, hk1⟩
 have hE := hu1.ext hB (Nat.le_refl _)
 have c1 := hk1.cell
 have c2 := hk1.lt
 have g1 := hu1.size
 go_wp2_with fail
 go_loopg [7, 8] nn (fun m vo vi wr => ∃ (k : Nat) (out : List Int) (a : Nat) (er : Int), k + m = nn /\ vi = .int .i64 k /\ LsS nn s0 k out a er /\ Blk wr w.heap.size 372 #[.string ba, .int .i64 ((sz + a : Nat) : Int), .int .i64 er] /\ Owns EInt wr w1.heap.size 3 vo out /\ Ext w wr /\ w1.heap.size <= wr.heap.size)
 case atStart => exact ⟨0, [], 0, 0, by omega, by go_num, LsS.zero _ _, hk1, Owns.none_ _ _, hE, Nat.le_refl _⟩
 case round =>
  obtain ⟨k, out, a, er, hkn, rfl, hI, hk9, ho, hE9, hs9⟩ := hrel
  have Hkn := Lib.hid hkn
  have HI := Lib.hid hI
  have hol := hI.2.1
  have hal := hI.2.2.1
  have hkl := hI.1
  obtain ⟨A1, c1', rfl, hR1⟩ := ho.form
  have d1 := hk9.cell
  have d2 := hk9.lt
  clear c1 c2 hkn hI
  by_cases he : er = 0
  ·subst he
   by_cases hlt : k < nn
   ·have h2 := F2.out _ a _ hk9 (by omega)
    have hgood := HI.out.good hlt
    have hbad := HI.out.bad hlt
    have hie := rdI_err (s := s0.drop a)
    obtain ⟨r, hr⟩ : ∃ r, rdI (s0.drop a) = r := ⟨_, rfl⟩
    rw [hr] at h2 hgood hbad hie
    obtain ⟨e2, n2, z2⟩ := r
    dsimp only at h2 hgood hbad hie
    have HST : Hid (LsS nn s0 (k + 1) (out ++ [n2]) (a + z2) e2) := Lib.hid (by
     by_cases h0 : e2 = 0
     ·subst h0; exact hgood rfl
     ·have := hie h0
      injection this with _ this
      injection this with t1 t2
      subst t1 t2
      exact hbad h0 0)
    clear hr hgood hbad hie
    go_wp2_with fail
    refine h2.mono ?_
    clear h2
    rintro e w2 ⟨rfl, hu2, hk2⟩
    have hE2 := hu2.ext hE9 (Nat.le_refl _)
    have ho2 := hu2.owns ho (by omega)
    have s2 := hu2.size
    rw [hol] at ho2
    clear d1 d2
    have HC := Lib.hid hk2
    go_wp2_with (at_builtin; refine wpList_push (y := n2) rfl (.tmp 27) (.tmp 30) _ (by rfl) w1.heap.size 3 i0 _ 8 Tryz.underlying30 hi0 hz0 hz1 hz2 (by rfl) (.slice A1 k c1') (by rfl) (ho2.ext ((Ext.refl _).alloc _)) w2.heap.size (by rfl) (Blk.new w2 _ _) (by rw [hol]; simp only [maxLen]; omega) (by rw [hol]; omega) (by simp; omega) ?_; intro v7 w7 hv7 hg7 hat7)
    have hx2 := (Ext.refl w2).alloc (.cells #[.int .i64 n2] 3)
    go_roundg (gk - 1)
    case measure => have := Hkn.out; omega
    case rel => exact ⟨k + 1, out ++ [n2], a + z2, e2, by have := Hkn.out; omega, by go_num, HST.out, by rw [<- Nat.add_assoc]; exact Blk.kepttZ (HC.out.ext hx2) (ho2.ext hx2) (by decide) hg7, hv7, ext_grown (hE2.trans hx2) (ho2.ext hx2) (by omega) hg7, by have := hx2.size; have := hg7.size; omega⟩
   ·obtain rfl : k = nn := by omega
    have HD := Lib.hid (show q = (0, out, sz + a) by rw [HQ.out, HI.out.done]; simp)
    have hN := Near.refl wr
    go_upto_region 10 with fail
    have hC := hN.2
    have hq := quiet_near hN
    refine wp_region_quiet_below (by kernel_rfl) (by kernel_rfl) ?_
    repeat (first | go_big_quiet_skip | (go_big_quiet_want; go_big_quiet_op; first | go_big_quiet_on | (apply Exists.intro; refine ⟨fun _ => ?_, ?_⟩; (focus (first | fail)); go_big_quiet_on)))
    refine wpQuiet_nil ?_
    intro w1 hw1
    clear hq
    replace hw1 := quiet_ext hw1
    replace hN := hN.step hw1
    have hC := hN.2
    go_wp2
    go_ret3
    rw [HD.out]
    dsimp only
    rw [hol]
    exact ⟨_, _, rfl, by have := ho.cap; omega, hR1.ext hw1, hE9.trans hw1⟩
  ·have HD := Lib.hid (show q = (er, [], 0) by rw [HQ.out, HI.out.fell he, if_pos he])
   have hb : (er != 0) = true := by rw [bne_iff_ne]; exact he
   have hb2 : (er == 0) = false := by rw [beq_eq_false_iff_ne]; exact he
   have hN := Near.refl wr
   by_cases hlt : k < nn
   ·go_upto_region 9 with fail
    have hC := hN.2
    have hq := quiet_near hN
    refine wp_region_quiet_below (by kernel_rfl) (by kernel_rfl) ?_
    repeat (first | go_big_quiet_skip | (go_big_quiet_want; go_big_quiet_op; first | go_big_quiet_on | (apply Exists.intro; refine ⟨fun _ => ?_, ?_⟩; (focus (first | fail)); go_big_quiet_on)))
    refine wpQuiet_nil ?_
    intro w1 hw1
    clear hq
    replace hw1 := quiet_ext hw1
    replace hN := hN.step hw1
    have hC := hN.2
    go_wp2
    go_ret3
    rw [HD.out]
    exact ⟨none, 0, rfl, Nat.le_refl _, Rd.nil, hE9.trans hw1⟩
   ·go_upto_region 9 with fail
    have hC := hN.2
    have hq := quiet_near hN
    refine wp_region_quiet_below (by kernel_rfl) (by kernel_rfl) ?_
    repeat (first | go_big_quiet_skip | (go_big_quiet_want; go_big_quiet_op; first | go_big_quiet_on | (apply Exists.intro; refine ⟨fun _ => ?_, ?_⟩; (focus (first | fail)); go_big_quiet_on)))
    refine wpQuiet_nil ?_
    intro w1 hw1
    clear hq
    replace hw1 := quiet_ext hw1
    replace hN := hN.step hw1
    have hC := hN.2
    go_wp2
    go_ret3
    rw [HD.out]
    exact ⟨none, 0, rfl, Nat.le_refl _, Rd.nil, hE9.trans hw1⟩
end
section
open Go.RowKit Go.Shelf
attribute [local go_sem] Oper.semAt_some
def enO (s : Bts) (bad : Bool) : Bool := !bad && decide ((rdI s).1 = 0)
def enV (s : Bts) (bad : Bool) : Int := if enO s bad then (rdI s).2.1 else 0
def enS (s : Bts) (bad : Bool) : Bts := if enO s bad then s.drop (rdI s).2.2 else s
set_option maxRecDepth 100000 in
set_option maxHeartbeats 4000000 in
theorem enum_any (g : Nat) (s : Bts) (bad : Bool) (w : World) (hk : Blk w g 419 #[strV s, .bool bad]) (hs : s.length <= 1000000) :
 Calls Tryz.prog 298 #[.pointer (some ⟨g, 0, none⟩)] w fun e w' => e = .returned (.int .i64 (enV s bad)) /\ Ups g w w' /\ Blk w' g 419 #[strV (enS s bad), .bool (!enO s bad)] := by
 have f1 := fun w => ReadInt_any s w hs
 have hle := rdI_le (s := s)
 unfold enV enS enO
 obtain ⟨r, hr⟩ : ∃ r, rdI s = r := ⟨_, rfl⟩
 rw [hr] at f1 hle ⊢
 obtain ⟨er, n, sz⟩ := r
 dsimp only at f1 hle ⊢
 obtain ⟨ba, hba, hbv, hbs⟩ := str_name s
 rw [hbv] at f1
 cases bad with
 | true =>
   simp only [Bool.not_true, Bool.false_and, Bool.false_eq_true, if_false, Bool.not_false]
   rw [hbv] at hk ⊢
   have c1 := hk.cell
   have c2 := hk.lt
   clear hr hba hbv hle
   go_enter Tryz.func298, Tryz.ntmps298
   go_wp2_with fail
   refine (f1 _).mono ?_
   rintro e w1 ⟨rfl, hb1⟩
   have k1 := hk.ext hb1
   clear c1 c2
   have c1 := k1.cell
   have c2 := k1.lt
   have c3 := k1.frozen
   have k2 := k1.set_ 1 (.bool true)
   have u2 := (Ups.of_ext (g := g) hb1).setCell 1 (.bool true)
   go_wp2
   go_ret
   exact ⟨rfl, u2, k2⟩
 | false =>
   by_cases h0 : er = 0
   ·subst h0
    have hle := hle rfl
    simp only [Bool.not_false, Bool.true_and, decide_true, if_true, Bool.not_true]
    have hsl := fun w => slice_from (P := Tryz.prog) 9 s sz Tryz.underlying9 hle.2.1 w
    have hex : ba.extract sz ba.size = ⟨(s.drop sz).toArray⟩ := by
     rw [hbs, ext_str hba sz s.length (Nat.le_refl _), List.take_of_length_le (by simp)]
    have hsz := hle.2.1
    obtain ⟨X, hX⟩ : ∃ X, s.drop sz = X := ⟨_, rfl⟩
    rw [hX] at hsl hex ⊢
    obtain ⟨xb, hxb, hxv, -⟩ := str_name X
    rw [hxb] at hex
    rw [hxv] at hsl ⊢
    rw [hbv] at hk hsl
    rw [<- hbs] at hsz
    have c1 := hk.cell
    have c2 := hk.lt
    clear hr hba hbv hle hX hxb hxv
    go_enter Tryz.func298, Tryz.ntmps298
    go_wp2_with fail
    refine (f1 _).mono ?_
    rintro e w1 ⟨rfl, hb1⟩
    have k1 := hk.ext hb1
    clear c1 c2
    have c1 := k1.cell
    have c2 := k1.lt
    have c3 := k1.frozen
    have k2 := k1.set_ 0 (.string xb)
    have u2 := (Ups.of_ext (g := g) hb1).setCell 0 (.string xb)
    go_wp2
    go_ret
    exact ⟨rfl, u2, k2⟩
   ·have hb : (er != 0) = true := by rw [bne_iff_ne]; exact h0
    rw [decide_eq_false h0]
    simp only [Bool.not_false, Bool.true_and, Bool.false_eq_true, if_false]
    rw [hbv] at hk ⊢
    have c1 := hk.cell
    have c2 := hk.lt
    clear hr hba hbv hle
    go_enter Tryz.func298, Tryz.ntmps298
    go_wp2_with fail
    refine (f1 _).mono ?_
    rintro e w1 ⟨rfl, hb1⟩
    have k1 := hk.ext hb1
    clear c1 c2
    have c1 := k1.cell
    have c2 := k1.lt
    have c3 := k1.frozen
    have k2 := k1.set_ 1 (.bool true)
    have u2 := (Ups.of_ext (g := g) hb1).setCell 1 (.bool true)
    go_wp2
    go_ret
    exact ⟨rfl, u2, k2⟩
theorem par1_en (s : Bts) : par1 s = if enO s false = true /\ enS s false = [] /\ 0 <= enV s false /\ enV s false <= 1099511627776 then some [enV s false] else none := by
 unfold par1 enS enV
 by_cases h : (rdI s).1 = 0
 ·have ho : enO s false = true := by unfold enO; rw [decide_eq_true h]; rfl
  have hle := rdI_le h
  rw [ho]
  simp only [if_true, h, true_and]
  have : (rdI s).2.2 = s.length ↔ s.drop (rdI s).2.2 = [] := by rw [List.drop_eq_nil_iff]; omega
  simp only [this]
 ·have ho : enO s false = false := by unfold enO; rw [decide_eq_false h]; rfl
  rw [ho, if_neg (fun hh => h hh.1), if_neg (fun hh => by cases hh.1)]
theorem par2_en (s : Bts) : par2 s = if enO (enS s false) (!enO s false) = true /\ enS (enS s false) (!enO s false) = [] /\ (1 <= enV s false /\ enV s false <= 255) /\ 0 <= enV (enS s false) (!enO s false) /\ enV (enS s false) (!enO s false) <= enV s false then some [enV s false, enV (enS s false) (!enO s false)] else none := by
 by_cases h : (rdI s).1 = 0
 ·have ho : enO s false = true := by unfold enO; rw [decide_eq_true h]; rfl
  have e1 : enS s false = s.drop (rdI s).2.2 := by unfold enS; rw [ho]; rfl
  have v1 : enV s false = (rdI s).2.1 := by unfold enV; rw [ho]; rfl
  rw [ho, e1, v1]
  have hle := rdI_le h
  have hl := List.length_drop (l := s) (i := (rdI s).2.2)
  unfold par2
  generalize s.drop (rdI s).2.2 = X at *
  by_cases h2 : (rdI X).1 = 0
  ·have ho2 : enO X (!true) = true := by unfold enO; rw [decide_eq_true h2]; rfl
   have e2 : enS X (!true) = X.drop (rdI X).2.2 := by unfold enS; rw [ho2]; rfl
   have v2 : enV X (!true) = (rdI X).2.1 := by unfold enV; rw [ho2]; rfl
   have hle2 := rdI_le h2
   rw [ho2, e2, v2]
   have : (rdI s).2.2 + (rdI X).2.2 = s.length ↔ X.drop (rdI X).2.2 = [] := by rw [List.drop_eq_nil_iff]; omega
   simp only [h, h2, true_and, this]
  ·have ho2 : enO X (!true) = false := by unfold enO; rw [decide_eq_false h2]; rfl
   rw [ho2, if_neg (fun hh => h2 hh.2.1), if_neg (fun hh => by cases hh.1)]
 ·have ho : enO s false = false := by unfold enO; rw [decide_eq_false h]; rfl
  rw [ho]
  unfold par2
  rw [if_neg (fun hh => h hh.1), if_neg (fun hh => by cases hh.1)]
def ParR (o : Option (List Int)) (e : Ending) (w' : World) : Prop := match o with
 | none => ∃ u, e = .returned (.tuple #[u, .bool false])
 | some l => ∃ A c, e = .returned (.tuple #[.slice A l.length c, .bool true]) /\ Rd EInt w' A l
theorem rd_one {w : World} {g : Nat} {x : Int} (h : Blk w g 3 #[.int .i64 x]) : Rd EInt w (some ⟨g, 0, none⟩) [x] := rd_blk (E := EInt) (l := [x]) h
theorem rd_two {w : World} {g : Nat} {x y : Int} (h : Blk w g 3 #[.int .i64 x, .int .i64 y]) : Rd EInt w (some ⟨g, 0, none⟩) [x, y] := rd_blk (E := EInt) (l := [x, y]) h
theorem str_empty {r : Bts} {rb : ByteArray} (h : (⟨r.toArray⟩ : ByteArray) = rb) (hr : r ≠ []) : rb.toList.isEmpty = false := by
 rw [<- h, ByteArray.toList_eq]
 simpa using hr
end
section
open Go.RowKit Go.Shelf
attribute [local go_sem] Oper.semAt_some
set_option maxRecDepth 100000 in
set_option maxHeartbeats 8000000 in
theorem par1_any (s : Bts) (w : World) (hs : s.length <= 1000000) :
 Calls Tryz.prog 297 #[strV s] w fun e w' => ParR (par1 s) e w' /\ Ext w w' := by
 have f1 := fun g w hk => enum_any g s false w hk hs
 rw [par1_en]
 generalize enO s false = o1 at *
 generalize enV s false = v1 at *
 generalize enS s false = s1 at *
 obtain ⟨ba, hba, hbv, -⟩ := str_name s
 obtain ⟨b1, hb1, hv1, -⟩ := str_name s1
 rw [hbv] at f1 ⊢
 rw [hv1] at f1
 obtain ⟨W, hW, hB, hk, hlt⟩ := box1 w #[.string ba, .bool false] 419
 have hc := hk.cell
 clear hba hbv hv1
 cases o1 with
 | false =>
   rw [if_neg (fun h => by cases h.1)]
   go_enter Tryz.func297, Tryz.ntmps297
   go_wp2_with fail
   clear hW
   refine (f1 _ _ hk).mono ?_
   clear hc f1
   rintro e w1 ⟨rfl, hu1, hk1⟩
   have hE1 := hu1.ext hB (Nat.le_refl _)
   obtain ⟨W2, hW2, hB2, hk2, hl2⟩ := box1 w1 #[.int .i64 v1] 3
   have k1 := hk1.ext hB2
   have c1 := k1.cell
   have c2 := k1.lt
   have d1 := hk2.cell
   have hE2 := hE1.trans hB2
   have hN := Near.refl W2
   go_upto_region 4 with fail
   clear hW2
   have hC := hN.2
   have hq := quiet_near hN
   refine wp_region_quiet_below (by kernel_rfl) (by kernel_rfl) ?_
   repeat (first | go_big_quiet_skip | (go_big_quiet_want; go_big_quiet_op; first | go_big_quiet_on | (apply Exists.intro; refine ⟨fun _ => ?_, ?_⟩; (focus (first | fail)); go_big_quiet_on)))
   refine wpQuiet_nil ?_
   intro w1 hw1
   clear hq
   replace hw1 := quiet_ext hw1
   replace hN := hN.step hw1
   have hC := hN.2
   go_wp2
   go_ret2
   exact ⟨⟨_, rfl⟩, hE2.trans hw1⟩
 | true =>
 by_cases h2 : s1 = []
 case neg =>
  rw [if_neg (fun h => h2 h.2.1)]
  have hbe := str_empty hb1 h2
  clear hb1
  go_enter Tryz.func297, Tryz.ntmps297
  go_wp2_with fail
  clear hW
  refine (f1 _ _ hk).mono ?_
  clear hc f1
  rintro e w1 ⟨rfl, hu1, hk1⟩
  have hE1 := hu1.ext hB (Nat.le_refl _)
  obtain ⟨W2, hW2, hB2, hk2, hl2⟩ := box1 w1 #[.int .i64 v1] 3
  have k1 := hk1.ext hB2
  have c1 := k1.cell
  have c2 := k1.lt
  have d1 := hk2.cell
  have hE2 := hE1.trans hB2
  have hN := Near.refl W2
  go_upto_region 4 with fail
  clear hW2
  have hC := hN.2
  have hq := quiet_near hN
  refine wp_region_quiet_below (by kernel_rfl) (by kernel_rfl) ?_
  repeat (first | go_big_quiet_skip | (go_big_quiet_want; go_big_quiet_op; first | go_big_quiet_on | (apply Exists.intro; refine ⟨fun _ => ?_, ?_⟩; (focus (first | fail)); go_big_quiet_on)))
  refine wpQuiet_nil ?_
  intro w1 hw1
  clear hq
  replace hw1 := quiet_ext hw1
  replace hN := hN.step hw1
  have hC := hN.2
  go_wp2
  go_ret2
  exact ⟨⟨_, rfl⟩, hE2.trans hw1⟩
 subst h2
 obtain rfl : (⟨#[]⟩ : ByteArray) = b1 := hb1
 by_cases h3 : 0 <= v1
 case neg =>
  rw [if_neg (fun h => h3 h.2.2.1)]
  have h3 : decide (0 <= v1) = false := decide_eq_false h3
  have h3' : v1 < 0 := by simpa using h3
  go_enter Tryz.func297, Tryz.ntmps297
  go_wp2_with fail
  clear hW
  refine (f1 _ _ hk).mono ?_
  clear hc f1
  rintro e w1 ⟨rfl, hu1, hk1⟩
  have hE1 := hu1.ext hB (Nat.le_refl _)
  obtain ⟨W2, hW2, hB2, hk2, hl2⟩ := box1 w1 #[.int .i64 v1] 3
  have k1 := hk1.ext hB2
  have c1 := k1.cell
  have c2 := k1.lt
  have d1 := hk2.cell
  have hE2 := hE1.trans hB2
  have hN := Near.refl W2
  go_upto_region 4 with fail
  clear hW2
  have hC := hN.2
  have hq := quiet_near hN
  refine wp_region_quiet_below (by kernel_rfl) (by kernel_rfl) ?_
  repeat (first | go_big_quiet_skip | (go_big_quiet_want; go_big_quiet_op; first | go_big_quiet_on | (apply Exists.intro; refine ⟨fun _ => ?_, ?_⟩; (focus (first | fail)); go_big_quiet_on)))
  refine wpQuiet_nil ?_
  intro w1 hw1
  clear hq
  replace hw1 := quiet_ext hw1
  replace hN := hN.step hw1
  have hC := hN.2
  go_wp2
  go_ret2
  exact ⟨⟨_, rfl⟩, hE2.trans hw1⟩
 by_cases h4 : v1 <= 1099511627776
 case neg =>
  rw [if_neg (fun h => h4 h.2.2.2)]
  have h4 : decide (v1 <= 1099511627776) = false := decide_eq_false h4
  go_enter Tryz.func297, Tryz.ntmps297
  go_wp2_with fail
  clear hW
  refine (f1 _ _ hk).mono ?_
  clear hc f1
  rintro e w1 ⟨rfl, hu1, hk1⟩
  have hE1 := hu1.ext hB (Nat.le_refl _)
  obtain ⟨W2, hW2, hB2, hk2, hl2⟩ := box1 w1 #[.int .i64 v1] 3
  have k1 := hk1.ext hB2
  have c1 := k1.cell
  have c2 := k1.lt
  have d1 := hk2.cell
  have hE2 := hE1.trans hB2
  have hN := Near.refl W2
  go_upto_region 4 with fail
  clear hW2
  have hC := hN.2
  have hq := quiet_near hN
  refine wp_region_quiet_below (by kernel_rfl) (by kernel_rfl) ?_
  repeat (first | go_big_quiet_skip | (go_big_quiet_want; go_big_quiet_op; first | go_big_quiet_on | (apply Exists.intro; refine ⟨fun _ => ?_, ?_⟩; (focus (first | fail)); go_big_quiet_on)))
  refine wpQuiet_nil ?_
  intro w1 hw1
  clear hq
  replace hw1 := quiet_ext hw1
  replace hN := hN.step hw1
  have hC := hN.2
  go_wp2
  go_ret2
  exact ⟨⟨_, rfl⟩, hE2.trans hw1⟩
 ·rw [if_pos ⟨rfl, rfl, h3, h4⟩]
  go_enter Tryz.func297, Tryz.ntmps297
  go_wp2_with fail
  clear hW
  refine (f1 _ _ hk).mono ?_
  clear hc f1
  rintro e w1 ⟨rfl, hu1, hk1⟩
  have hE1 := hu1.ext hB (Nat.le_refl _)
  obtain ⟨W2, hW2, hB2, hk2, hl2⟩ := box1 w1 #[.int .i64 v1] 3
  have k1 := hk1.ext hB2
  have c1 := k1.cell
  have c2 := k1.lt
  have d1 := hk2.cell
  have hE2 := hE1.trans hB2
  have hN := Near.refl W2
  go_upto_region 4 with fail
  clear hW2
  have hC := hN.2
  have hq := quiet_near hN
  refine wp_region_quiet_below (by kernel_rfl) (by kernel_rfl) ?_
  repeat (first | go_big_quiet_skip | (go_big_quiet_want; go_big_quiet_op; first | go_big_quiet_on | (apply Exists.intro; refine ⟨fun _ => ?_, ?_⟩; (focus (first | fail)); go_big_quiet_on)))
  refine wpQuiet_nil ?_
  intro w1 hw1
  clear hq
  replace hw1 := quiet_ext hw1
  replace hN := hN.step hw1
  have hC := hN.2
  go_wp2
  go_ret2
  exact ⟨⟨_, _, rfl, (rd_one hk2).ext hw1⟩, hE2.trans hw1⟩
end
end Go.Proofs.YtemkpimngbbpkaaGreat

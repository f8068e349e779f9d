
/- Layer 24 (journey): the walks of slices.Contains of numbers and of Check. -/
import Derived.Test.YtbgdglcnminbaaaJrVd
import Derived.Test.YtbgdglcnminbaaaJrA
namespace Go.Proofs.Ytbgdglcnminbaaa
set_option linter.unusedVariables false
set_option linter.unusedSimpArgs false
open Go.RowKit Go.Shelf

set_option maxHeartbeats 1000000 in
theorem indexInt_any (A : Option Addr) (c : Nat) (l : List Int) (x : Int) (w : World) (hA : Rd EInt w A l) (hmax : l.length ≤ 2199023255552) :
    Calls Try.prog 37 #[.slice A l.length c, .int .i64 x] w fun e w' => e = .returned (.int .i64 (findI (fun y => y == x) l)) ∧ Ext w w' := by
  go_enter Try.func37, Try.ntmps37
  go_wp2
  go_loopg [8] l.length (fun n i wr => ∃ k : Nat, k + n = l.length ∧ i = .int .i64 k ∧ Hid ((l.take k).any (fun y => y == x) = false) ∧ Ext w wr)
  case atStart => exact ⟨0, by omega, rfl, Lib.hid rfl, Ext.refl _⟩
  case round =>
    obtain ⟨k, hkl, rfl, hu, hN⟩ := hrel
    by_cases hlt : k < l.length
    · obtain ⟨b, o, rfl, hb, c0⟩ := (hA.ext hN).int hlt
      have Hl := Lib.hid hkl
      generalize hxe : l[k] = y at *
      have Hx := Lib.hid hxe
      clear hxe hkl
      by_cases hxy : y = x
      · subst hxy
        go_wp2
        go_ret
        exact ⟨ret_i64 (findI_at hlt hu.out (by rw [Hx.out]; simp)).symm, hN⟩
      · have hd : (x == y) = false := by simp; exact fun e => hxy e.symm
        have hd2 : (y == x) = false := by simp; exact hxy
        have Hd := Lib.hid hd2
        clear hxy hd2
        go_wp2
        go_roundg (gk - 1)
        case measure => have := Hl.out; omega
        case rel => exact ⟨k + 1, by have := Hl.out; omega, by go_num, Lib.hid (any_step hlt Hx.out hu.out Hd.out), hN⟩
    · have hle : l.length ≤ k := by omega
      have hu2 := hu.out
      rw [List.take_of_length_le hle] at hu2
      have Hu := Lib.hid hu2
      clear hu2
      go_wp2
      go_ret
      exact ⟨ret_i64 (findI_nope Hu.out).symm, hN⟩
set_option maxHeartbeats 1000000 in
theorem containsInt_any (A : Option Addr) (c : Nat) (l : List Int) (x : Int) (w : World) (hA : Rd EInt w A l) (hmax : l.length ≤ 2199023255552) :
    Calls Try.prog 17 #[.slice A l.length c, .int .i64 x] w fun e w' => e = .returned (.bool (seenB l x)) ∧ Ext w w' := by
  have hfn := Lib.hid (findI_neg (p := fun y => y == x) (l := l))
  have hi := fun w hA => indexInt_any A c l x w hA hmax
  go_enter Try.func17, Try.ntmps17
  go_wp2_with fail
  refine (hi _ hA).mono ?_
  rintro e w1 ⟨rfl, hb⟩
  clear hi
  go_wp2
  go_ret
  exact ⟨ret_bool hfn.out, hb⟩

theorem chkL_step {cons : List Con} {n dest D a now : Int} {seen : List Int} {l : List Hp} {j : Nat} {y : Hp} (h : j < l.length) (hy : l[j] = y) :
    chkL cons n dest D a now seen (l.drop j) = chkL cons n dest D a now seen (y :: l.drop (j + 1)) := by
  rw [List.drop_eq_getElem_cons h, hy]
theorem fitsR_ok {c : Con} {b n : Int} (h : c.Ok) (hn : 1 ≤ n ∧ n ≤ 65536) : c.fitsR b n = c.fitsB b n := by
  unfold Con.fitsR
  rw [Con.arg_ok.2 ⟨h, hn⟩]
  simp

set_option maxRecDepth 100000 in
set_option maxHeartbeats 4000000 in
theorem jCheck_any (Aq : Option Addr) (cq : Nat) (Ac : Option Addr) (cc : Nat) (p : Pln) (q : Req) (Al : Option Addr) (cl : Nat) (l : List Hp) (w : World) (h : PlnRd w Aq cq Ac cc p) (hl : Rd EHp w Al l) (hm : l.length ≤ 1099511627776) :
    Calls Try.prog 21 #[p.val Aq cq Ac cc, q.val, .slice Al l.length cl] w fun e w' => e = .returned (.int .i64 (p.jchk q l)) ∧ Ext w w' := by
  obtain ⟨i0, hi0, hz0, hz1, hz2⟩ := info_parts info_int
  obtain ⟨W, hW, hB, hk, hk2, hlt, hlt2⟩ := box2 w #[.slice Aq p.quo.length cq, .slice Ac p.cons.length cc] q.cells 25 31
  simp only [Req.cells] at hW hk2
  have hc := hk.cell
  have hc2 := hk2.cell
  have hqm := h.qm
  have hpc := pcheck_any Aq cq Ac cc p W (h.ext hB)
  by_cases h0 : p.chk = 0
  · have hok := Pln.ok_of h0
    rw [h0] at hpc
    have H0 := Lib.hid h0
    clear h0
    have hva := fun w => valid_any Aq cq Ac cc p q w hqm
    cases hq : q.okB p.quo.length
    · rw [hq] at hva
      have Hq := Lib.hid hq
      clear hq
      unfold Pln.val at hpc hva ⊢
      unfold Req.val at hva ⊢
      go_enter Try.func21, Try.ntmps21
      go_wp2_with fail
      clear hW
      refine hpc.mono ?_
      clear hpc
      rintro e w1 ⟨rfl, hb1⟩
      replace hc := (hk.ext hb1).cell
      replace hc2 := (hk2.ext hb1).cell
      go_wp2_with fail
      refine (hva _).mono ?_
      clear hva
      rintro e w2 ⟨rfl, hb2⟩
      go_wp2
      go_ret
      exact ⟨ret_i64 (by unfold Pln.jchk; rw [if_neg (fun h => by rw [Hq.out] at h; exact Bool.false_ne_true h.2)]), (hB.trans hb1).trans hb2⟩
    · rw [hq] at hva
      have Hq := Lib.hid hq
      have hq2 := hq
      simp only [Req.okB, decide_eq_true_eq] at hq2
      obtain ⟨a1, a2, a3, a4, a5, a6, a7, a8, a9, a10, a11, a12⟩ := hq2
      have hm64 := hok.m64
      clear hq a5
      unfold Pln.val at hpc hva ⊢
      unfold Req.val at hva ⊢
      by_cases hl0 : l.length = 0
      · have Hl0 := Lib.hid hl0
        rw [hl0]
        clear hl0
        go_enter Try.func21, Try.ntmps21
        go_wp2_with fail
        clear hW
        refine hpc.mono ?_
        clear hpc
        rintro e w1 ⟨rfl, hb1⟩
        replace hc := (hk.ext hb1).cell
        replace hc2 := (hk2.ext hb1).cell
        go_wp2_with fail
        refine (hva _).mono ?_
        clear hva
        rintro e w2 ⟨rfl, hb2⟩
        go_wp2
        go_ret
        exact ⟨ret_i64 (by unfold Pln.jchk; rw [if_pos ⟨H0.out, Hq.out⟩, if_pos Hl0.out]), (hB.trans hb1).trans hb2⟩
      · have hlpos : 0 < l.length := by omega
        have hle0 : ((l.length : Int) == 0) = false := by simpa using hl0
        have Hj := Lib.hid (show p.jchk q l = chkL p.cons q.size q.dst q.dead q.src q.ready [q.src] l by unfold Pln.jchk; rw [if_pos ⟨H0.out, Hq.out⟩, if_neg hl0])
        clear hl0
        go_enter Try.func21, Try.ntmps21
        go_wp2_with fail
        clear hW
        refine hpc.mono ?_
        clear hpc
        rintro e w1 ⟨rfl, hb1⟩
        replace hc := (hk.ext hb1).cell
        replace hc2 := (hk2.ext hb1).cell
        go_wp2_with fail
        refine (hva _).mono ?_
        clear hva
        rintro e w2 ⟨rfl, hb2⟩
        have kp2 := (hk.ext hb1).ext hb2
        have kq2 := (hk2.ext hb1).ext hb2
        have hE2 := (hB.trans hb1).trans hb2
        replace hc := kp2.cell
        replace hc2 := kq2.cell
        have hlp2 := kp2.lt
        have hlq2 := kq2.lt
        clear hb1 hb2 hk hk2 hB
        have hN := Near.refl w2
        go_wp2_with fail
        have hq := quiet_near hN
        refine wp_region_quiet_below (by kernel_rfl) (by kernel_rfl) ?_
        repeat (first | go_big_quiet_skip | (go_big_quiet_want; go_big_quiet_op; first | go_big_quiet_on | (apply Exists.intro; refine ⟨fun _ => ?_, ?_⟩; (focus (first | fail)); go_big_quiet_on)))
        refine wpQuiet_nil ?_
        intro w1 hw1
        clear hq
        replace hw1 := quiet_ext hw1
        replace hN := hN.step hw1
        have hC := hN.2
        have hE3 := hE2.trans hN.1
        have kp3 := kp2.ext hN.1
        have kq3 := kq2.ext hN.1
        have hcp3 := kp3.cell
        have hcq3 := kq3.cell
        have hlp3 := kp3.lt
        have hlq3 := kq3.lt
        clear hc hc2 hC
        obtain ⟨W4, hW4, hB4, hk4, hl4⟩ := box1 w1 #[.int .i64 q.src] 3
        go_wp2_with fail
        clear hW4
        have hseen := owns_blk (E := EInt) (l := [q.src]) (base := w1.heap.size) hk4 (Nat.le_refl _) (by simp [maxLen])
        go_loopg [7, 8, 9, 36] l.length (fun n u7 u8 u9 i wr => ∃ (j : Nat) (a now : Int) (seen : List Int), j + n = l.length ∧ i = .int .i64 j ∧ u7 = .int .i64 a ∧ u8 = .int .i64 now ∧ seen.length = j + 1 ∧ Owns EInt wr w1.heap.size 3 u9 seen ∧ Ext w1 wr ∧ Hid (chkL p.cons q.size q.dst q.dead q.src q.ready [q.src] l = chkL p.cons q.size q.dst q.dead a now seen (l.drop j)))
        case atStart => exact ⟨0, q.src, q.ready, [q.src], by omega, rfl, rfl, rfl, rfl, hseen, hB4, Lib.hid rfl⟩
        case round =>
          obtain ⟨j, a, now, seen, hjn, rfl, rfl, rfl, hsl, hu, hF, hx⟩ := hrel
          clear hseen hk4 hl4 hB4
          have kp5 := kp3.ext hF
          have kq5 := kq3.ext hF
          have hcp5 := kp5.cell
          have hcq5 := kq5.cell
          have hlp5 := kp5.lt
          have hlq5 := kq5.lt
          have hE5 := hE3.trans hF
          have Hjn := Lib.hid hjn
          have Hsl := Lib.hid hsl
          have hsn : seen.length ≤ 1099511627777 := by omega
          have hjl : j ≤ l.length := by omega
          clear hjn hcp3 hcq3 hsl
          by_cases hlt : j < l.length
          · obtain ⟨b, o, rfl, hb, c0, c1, c2, c3⟩ := (hl.ext hE5).hp hlt
            have hst := chkL_step (cons := p.cons) (n := q.size) (dest := q.dst) (D := q.dead) (a := a) (now := now) (seen := seen) hlt rfl
            generalize l[j] = y at *
            obtain ⟨yc, yb, ye, ya⟩ := y
            simp only at c0 c1 c2 c3
            have Hx := Lib.hid (Hj.out.trans (hx.out.trans hst))
            clear hst hx
            obtain ⟨W6, hW6, hB6, hk6, hl6⟩ := box1 wr #[.int .i64 yc, .int .i64 yb, .int .i64 ye, .int .i64 ya] 50
            have hc6 := hk6.cell
            have kp6 := kp5.ext hB6
            have kq6 := kq5.ext hB6
            have hcp6 := kp6.cell
            have hcq6 := kq6.cell
            have hlp6 := kp6.lt
            have hlq6 := kq6.lt
            have hcl : p.cons.length ≤ 64 := hm64
            by_cases hr1 : yc < 0
            · have hd : decide (yc < 0) = true := decide_eq_true hr1
              go_wp2_with fail
              go_ret
              exact ⟨ret_i64 (by rw [Hx.out]; simp only [chkL]; rw [if_pos (.inl hr1)]), hE5.trans hB6⟩
            have hd1 : decide (yc < 0) = false := decide_eq_false hr1
            by_cases hr2 : (p.cons.length : Int) ≤ yc
            · have hd : decide ((p.cons.length : Int) ≤ yc) = true := decide_eq_true hr2
              go_wp2_with fail
              go_ret
              exact ⟨ret_i64 (by rw [Hx.out]; simp only [chkL]; rw [if_pos (.inr hr2)]), hE5.trans hB6⟩
            obtain ⟨k, rfl⟩ : ∃ k : Nat, yc = k := ⟨yc.toNat, by omega⟩
            have hk : k < p.cons.length := by omega
            have hki : (k : Int) < (p.cons.length : Int) := by omega
            have hno : ¬ ((k : Int) < 0 ∨ (p.cons.length : Int) ≤ (k : Int)) := by omega
            have Hno := Lib.hid hno
            obtain ⟨bc, oc, rfl, hbc, e0, e1, e2, e3, e4, e5, e6⟩ := ((h.c.ext hE5).ext hB6).con hk
            have hyc := hok.con _ (List.getElem_mem hk)
            have hgc := gc_get (cons := p.cons) (i := (k : Int)) hk
            simp only [Int.toNat_natCast] at hgc
            generalize p.cons[k] = c at *
            have Hgc := Lib.hid hgc
            obtain ⟨W7, hW7, hB7, hk7, hl7⟩ := box1 W6 c.cells 54
            simp only [Con.cells] at hW7 hk7
            have hc7 := hk7.cell
            have hl7b := hk7.lt
            have hk67 := hk6.ext hB7
            have hc67 := hk67.cell
            have hl67 := hk67.lt
            have hE7 := (hE5.trans hB6).trans hB7
            have kp7 := kp6.ext hB7
            have kq7 := kq6.ext hB7
            have hcp7 := kp7.cell
            have hcq7 := kq7.cell
            have hlp7 := kp7.lt
            have hlq7 := kq7.lt
            clear hgc hno hr1 hr2 hd1
            have hok2 := hyc.1
            by_cases hsa : c.src = a
            case neg =>
              have hd : (c.src != a) = true := by simpa using hsa
              have Hsa := Lib.hid hsa
              clear hsa
              go_wp2_with fail
              go_ret
              exact ⟨ret_i64 (by rw [Hx.out]; simp only [chkL]; rw [if_neg Hno.out, Hgc.out, if_pos Hsa.out]), hE7⟩
            have hd : (c.src != a) = false := by simpa using hsa
            have Hsa := Lib.hid hsa
            clear hsa
            obtain ⟨A9, d9, rfl, hR9⟩ := hu.form
            obtain ⟨g9, rfl, hg9⟩ := hu.some_ (by have := Hsl.out; omega)
            have hcn := containsInt_any (some ⟨g9, 0, none⟩) d9 seen c.dst _ ((hR9.ext hB6).ext hB7) (by omega)
            cases hsb : seenB seen c.dst
            case true =>
              rw [hsb] at hcn
              have Hsb := Lib.hid hsb
              clear hsb
              go_wp2_with fail
              refine hcn.mono ?_
              rintro e w8 ⟨rfl, hb8⟩
              go_wp2_with fail
              go_ret
              exact ⟨ret_i64 (by rw [Hx.out]; simp only [chkL]; rw [if_neg Hno.out, Hgc.out, if_neg (not_not_intro Hsa.out), if_pos Hsb.out]), hE7.trans hb8⟩
            rw [hsb] at hcn
            have Hsb := Lib.hid (show ¬ (seenB seen c.dst = true) by rw [hsb]; simp)
            have Hsa2 := Lib.hid (not_not_intro Hsa.out)
            clear hsb
            go_wp2_with fail
            refine hcn.mono ?_
            clear hcn hW6 hW7
            rintro e w8 ⟨rfl, hb8⟩
            have kp8 := ((kp5.ext hB6).ext hB7).ext hb8
            have kq8 := ((kq5.ext hB6).ext hB7).ext hb8
            have hcp8 := kp8.cell
            have hcq8 := kq8.cell
            have hk8 := hk67.ext hb8
            have hc8 := hk8.cell
            have hk78 := hk7.ext hb8
            have hc78 := hk78.cell
            clear hcp5 hcq5 hcp6 hcq6 hcp7 hcq7 hc6 hc67 hc7 e0 e1 e2 e3 e4 e5 e6 c0 c1 c2 c3
            have hE8 := hE7.trans hb8
            by_cases hyb : yb < now
            case pos =>
              have hd2 : decide (yb < now) = true := decide_eq_true hyb
              go_wp2_with fail
              go_ret
              exact ⟨ret_i64 (by rw [Hx.out]; simp only [chkL]; rw [if_neg Hno.out, Hgc.out, if_neg Hsa2.out, if_neg Hsb.out, if_pos hyb]), hE8⟩
            have hd2 : decide (yb < now) = false := decide_eq_false hyb
            have Hyb := Lib.hid hyb
            clear hyb
            have hfi := fun w => Fits_any c yb q.size w
            simp only [fitsR_ok hok2 (And.intro a6 a7)] at hfi
            unfold Con.val at hfi
            cases hff : c.fitsB yb q.size
            case false =>
              rw [hff] at hfi
              have Hff := Lib.hid hff
              clear hff
              go_wp2_with fail
              refine (hfi _).mono ?_
              rintro e w9 ⟨rfl, hb9⟩
              go_wp2_with fail
              go_ret
              exact ⟨ret_i64 (by rw [Hx.out]; simp only [chkL]; rw [if_neg Hno.out, Hgc.out, if_neg Hsa2.out, if_neg Hsb.out, if_neg (show ¬ yb < now by have := Hyb.out; omega), if_pos Hff.out]), hE8.trans hb9⟩
            rw [hff] at hfi
            have Hff := Lib.hid (show ¬ (c.fitsB yb q.size = false) by rw [hff]; simp)
            have hft := hff
            simp only [Con.fitsB, decide_eq_true_eq] at hft
            clear hff
            go_wp2_with fail
            refine (hfi _).mono ?_
            clear hfi
            rintro e w9 ⟨rfl, hb9⟩
            have kp9 := kp8.ext hb9
            have kq9 := kq8.ext hb9
            have hcp9 := kp9.cell
            have hcq9 := kq9.cell
            have hk9 := hk8.ext hb9
            have hc9 := hk9.cell
            have hk79 := hk78.ext hb9
            have hc79 := hk79.cell
            clear hcp8 hcq8 hc8 hc78
            have hDu : ∀ w, Calls Try.prog 42 #[c.val, .int .i64 q.size] w fun e w' => e = .returned (.tuple #[.int .i64 (c.dur q.size), .int .i64 0]) ∧ Ext w w' := fun w => by
              have h9 := Duration_any c q.size w
              have h8 : c.arg q.size = 0 := Con.arg_ok.2 ⟨hok2, a6, a7⟩
              rw [Con.durR, if_pos h8, h8] at h9
              exact h9
            unfold Con.val at hDu
            go_wp2_with fail
            refine (hDu _).mono ?_
            clear hDu
            rintro e w10 ⟨rfl, hb10⟩
            have kp10 := kp9.ext hb10
            have kq10 := kq9.ext hb10
            have hcp10 := kp10.cell
            have hcq10 := kq10.cell
            have hk10 := hk9.ext hb10
            have hc10 := hk10.cell
            have hk710 := hk79.ext hb10
            have hc710 := hk710.cell
            clear hcp9 hcq9 hc9 hc79
            have dbd := Con.dur_bd hok2 a6 a7
            have hrg0 := hok2.rng0
            have hrg1 := hok2.rng1
            have hst0 := hok2.st0
            have hen := hok2.en1
            have hE10 := hE8.trans (hb9.trans hb10)
            have hs1 : 0 ≤ yb + c.dur q.size := by omega
            have hs2 : yb + c.dur q.size ≤ 1099511627776 := by omega
            obtain ⟨hft1, hft2⟩ := hft
            by_cases hye : ye = yb + c.dur q.size
            case neg =>
              have hd3 : (ye != yb + c.dur q.size) = true := by simpa using hye
              have Hye := Lib.hid hye
              clear hye
              go_wp2_with fail
              go_ret
              exact ⟨ret_i64 (by rw [Hx.out]; simp only [chkL]; rw [if_neg Hno.out, Hgc.out, if_neg Hsa2.out, if_neg Hsb.out, if_neg (show ¬ yb < now by have := Hyb.out; omega), if_neg Hff.out, if_pos (.inl Hye.out)]), hE10⟩
            have hd3 : (ye != yb + c.dur q.size) = false := by simpa using hye
            have hs3 : 0 ≤ ye + c.rng := by omega
            have hs4 : ye + c.rng ≤ 1099511627776 + 1048576 := by omega
            have Hye := Lib.hid hye
            clear hye
            by_cases hya : ya = ye + c.rng
            case neg =>
              have hd4 : (ya != ye + c.rng) = true := by simpa using hya
              have Hya := Lib.hid hya
              clear hya
              go_wp2_with fail
              go_ret
              exact ⟨ret_i64 (by rw [Hx.out]; simp only [chkL]; rw [if_neg Hno.out, Hgc.out, if_neg Hsa2.out, if_neg Hsb.out, if_neg (show ¬ yb < now by have := Hyb.out; omega), if_neg Hff.out, if_pos (.inr Hya.out)]), hE10⟩
            have hd4 : (ya != ye + c.rng) = false := by simpa using hya
            have Hx2 := Lib.hid (show p.jchk q l = chkL p.cons q.size q.dst q.dead c.dst ya (seen ++ [c.dst]) (l.drop (j + 1)) by
              rw [Hx.out]
              have e1 := Hye.out
              simp only [chkL]
              rw [if_neg Hno.out, Hgc.out, if_neg Hsa2.out, if_neg Hsb.out, if_neg (show ¬ yb < now by have := Hyb.out; omega), if_neg Hff.out, if_neg (by intro h; rcases h with h | h <;> contradiction)])
            clear hya
            have hu10 : Owns EInt w10 w1.heap.size 3 (.slice (some ⟨g9, 0, none⟩) seen.length d9) seen := hu.ext ((hB6.trans hB7).trans (hb8.trans (hb9.trans hb10)))
            have hF10 : Ext w1 w10 := hF.trans ((hB6.trans hB7).trans (hb8.trans (hb9.trans hb10)))
            have hs10 := hF10.size
            go_wp2_with (at_builtin; refine wpList_push rfl (.tmp 100) (.tmp 103) _ (by rfl) w1.heap.size 3 i0 _ 8 Try.underlying22 hi0 hz0 hz1 hz2 (by rfl) (.slice (some ⟨g9, 0, none⟩) seen.length d9) (by rfl) (hu10.ext ((Ext.refl _).alloc _)) w10.heap.size c.dst (by rfl) (Blk.new w10 _ _) (by simp only [maxLen]; omega) (by omega) (by simp; omega) ?_; intro v11 w11 hv11 hg11 hat11; have hx11 := ext_grown (hF10.alloc _) (hu10.ext ((Ext.refl _).alloc _)) (Nat.le_refl _) hg11; have kh11 := Blk.kept (hk10.ext ((Ext.refl _).alloc _)) hg11 (fun e' => by have := (hu.block e'.symm).2; omega); have kc11 := Blk.kept (hk710.ext ((Ext.refl _).alloc _)) hg11 (fun e' => by have := (hu.block e'.symm).2; omega); have hch11 := kh11.cell; have hcc11 := kc11.cell; have hlh11 := kh11.lt; have hlc11 := kc11.lt; clear hc10 hc710 hcp10 hcq10; have hN := Near.refl w11)
            have hq := quiet_near hN
            refine wp_region_quiet_below (by kernel_rfl) (by kernel_rfl) ?_
            repeat (first | go_big_quiet_skip | (go_big_quiet_want; go_big_quiet_op; first | go_big_quiet_on | (apply Exists.intro; refine ⟨fun _ => ?_, ?_⟩; (focus (first | fail)); go_big_quiet_on)))
            refine wpQuiet_nil ?_
            intro w1 hw1
            clear hq
            replace hw1 := quiet_ext hw1
            replace hN := hN.step hw1
            have hC := hN.2
            go_wp2
            go_roundg (gk - 1)
            case measure => have := Hjn.out; omega
            case rel =>
              exact ⟨j + 1, c.dst, ya, seen ++ [c.dst], by have := Hjn.out; omega, by go_num, rfl, rfl, by rw [List.length_append, List.length_singleton, Hsl.out], hv11.ext hN.1, hx11.trans hN.1, Lib.hid (Hj.out.symm.trans Hx2.out)⟩
          · have hj : l.length ≤ j := by omega
            have hx2 := Hj.out.trans hx.out
            rw [List.drop_eq_nil_of_le hj] at hx2
            have Hx := Lib.hid hx2
            clear hx2 hx
            by_cases hda : a = q.dst
            · have hd : (a != q.dst) = false := by simpa using hda
              have Hda := Lib.hid hda
              clear hda
              by_cases hnd : q.dead < now
              · have hd2 : decide (q.dead < now) = true := decide_eq_true hnd
                go_wp2_with fail
                go_ret
                exact ⟨ret_i64 (by rw [Hx.out]; simp only [chkL]; rw [if_neg (not_not_intro Hda.out), if_pos hnd]), hE5⟩
              · have hd2 : decide (q.dead < now) = false := decide_eq_false hnd
                have Hnd := Lib.hid hnd
                clear hnd
                go_wp2_with fail
                go_ret
                exact ⟨ret_i64 (by rw [Hx.out]; simp only [chkL]; rw [if_neg (not_not_intro Hda.out), if_neg (show ¬ q.dead < now by have := Hnd.out; omega)]), hE5⟩
            · have hd : (a != q.dst) = true := by simpa using hda
              have Hda := Lib.hid hda
              clear hda
              go_wp2_with fail
              go_ret
              exact ⟨ret_i64 (by rw [Hx.out]; simp only [chkL]; rw [if_pos Hda.out]), hE5⟩
  · have hd : (p.chk != 0) = true := by simpa using h0
    have H0 := Lib.hid h0
    clear h0
    unfold Pln.val at hpc ⊢
    unfold Req.val
    go_enter Try.func21, Try.ntmps21
    go_wp2_with fail
    clear hW
    refine hpc.mono ?_
    rintro e w1 ⟨rfl, hb1⟩
    go_wp2
    go_ret
    exact ⟨ret_i64 (by unfold Pln.jchk; rw [if_neg (fun h => H0.out h.1)]), hB.trans hb1⟩

end Go.Proofs.Ytbgdglcnminbaaa

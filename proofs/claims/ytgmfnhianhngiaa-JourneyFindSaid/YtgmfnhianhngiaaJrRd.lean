
/- Layer 24 (journey): the walk of the reference's Check. -/
import Derived.Test.YtgmfnhianhngiaaJrRc
namespace Go.Proofs.Ytgmfnhianhngiaa
set_option linter.unusedVariables false
set_option linter.unusedSimpArgs false
open Go.RowKit Go.Shelf

theorem atE_fit {c : Con} {b n : Int} (h : c.Ok) (hn : 1 ≤ n ∧ n ≤ 65536) (hf : c.fitsB b n = true) : c.atE b n = 0 ∧ c.arrT b n = b + c.dur n + c.rng := by
  have e : c.atE b n = 0 := by unfold Con.atE; rw [if_pos (Con.arg_ok.2 ⟨h, hn⟩), hf]; rfl
  refine ⟨e, ?_⟩
  unfold Con.arrT Con.aftT
  rw [if_pos e]; omega
theorem atE_unfit {c : Con} {b n : Int} (h : c.Ok) (hn : 1 ≤ n ∧ n ≤ 65536) (hf : c.fitsB b n = false) : c.atE b n = 16 := by
  unfold Con.atE; rw [if_pos (Con.arg_ok.2 ⟨h, hn⟩), hf]; rfl

set_option maxRecDepth 100000 in
set_option maxHeartbeats 4000000 in
theorem rCheck24_any (Aq : Option Addr) (cq : Nat) (Ac : Option Addr) (cc : Nat) (p : Pln) (q : Req) (Al : Option Addr) (cl : Nat) (l : List Hp) (w : World) (h : PlnRd w Aq cq Ac cc p) (hl : Rd EHp w Al l) (hm : l.length ≤ 1099511627776) :
    Calls Try.prog 26 #[p.val Aq cq Ac cc, q.val, .slice Al l.length cl] w fun e w' => e = .returned (.int .i64 (p.jchk q l)) ∧ Ext w w' := by
  obtain ⟨W, hW, hB, hk, hk2, hlt, hlt2⟩ := box2 w #[.slice Aq p.quo.length cq, .slice Ac p.cons.length cc] q.cells 25 34
  simp only [Req.cells] at hW hk2
  have hc := hk.cell
  have hc2 := hk2.cell
  have hcr := rCheckRequest_any Aq cq Ac cc p q W (h.ext hB)
  cases hf : fineQ p q
  · rw [hf] at hcr
    have Hf := Lib.hid (show ¬ (p.chk = 0 ∧ q.okB p.quo.length = true) by intro h2; unfold fineQ at hf; rw [h2.2, decide_eq_true h2.1] at hf; cases hf)
    clear hf
    unfold Pln.val at hcr ⊢
    unfold Req.val at hcr ⊢
    go_enter Try.func26, Try.ntmps26
    go_wp2_with fail
    clear hW
    refine hcr.mono ?_
    clear hcr
    rintro e w1 ⟨rfl, hb1⟩
    go_wp2
    go_ret
    exact ⟨ret_i64 (by unfold Pln.jchk; rw [if_neg Hf.out]), hB.trans hb1⟩
  rw [hf] at hcr
  have hfo : p.chk = 0 ∧ q.okB p.quo.length = true := by simpa [fineQ] using hf
  have hok := Pln.ok_of hfo.1
  have Hfo := Lib.hid hfo
  have hq2 := hfo.2
  simp only [Req.okB, decide_eq_true_eq] at hq2
  obtain ⟨a1, a2, a3, a4, a5, a6, a7, a8, a9, a10, a11, a12⟩ := hq2
  have hm64 := hok.m64
  clear a5 hf hfo
  unfold Pln.val at hcr ⊢
  unfold Req.val at hcr ⊢
  by_cases hl0 : l.length = 0
  · have Hl0 := Lib.hid hl0
    rw [hl0]
    clear hl0
    go_enter Try.func26, Try.ntmps26
    go_wp2_with fail
    clear hW
    refine hcr.mono ?_
    clear hcr
    rintro e w1 ⟨rfl, hb1⟩
    go_wp2
    go_ret
    exact ⟨ret_i64 (by unfold Pln.jchk; rw [if_pos Hfo.out, if_pos Hl0.out]), hB.trans hb1⟩
  have hlpos : 0 < l.length := by omega
  have hle0 : ((l.length : Int) == 0) = false := by simpa using hl0
  have Hj := Lib.hid (show p.jchk q l = chkL p.cons q.size q.dst q.dead q.src q.ready (seenL p q (l.take 0)) l by unfold Pln.jchk; rw [if_pos Hfo.out, if_neg hl0]; rfl)
  clear hl0
  go_enter Try.func26, Try.ntmps26
  go_wp2_with fail
  clear hW
  refine hcr.mono ?_
  clear hcr
  rintro e w2 ⟨rfl, hb1⟩
  have kp2 := hk.ext hb1
  have kq2 := hk2.ext hb1
  have hE2 := hB.trans hb1
  replace hc := kp2.cell
  replace hc2 := kq2.cell
  have hlp2 := kp2.lt
  have hlq2 := kq2.lt
  clear hb1 hk hk2 hB
  have hN := Near.refl w2
  go_wp2_with fail
  have hq := quiet_near hN
  refine wp_region_quiet_below (by kernel_rfl) (by kernel_rfl) ?_
  repeat (first | go_big_quiet_skip | (go_big_quiet_want; go_big_quiet_op; first | go_big_quiet_on | (apply Exists.intro; refine ⟨fun _ => ?_, ?_⟩; (focus (first | fail)); go_big_quiet_on)))
  refine wpQuiet_nil ?_
  intro w1 hw1
  clear hq
  replace hw1 := quiet_ext hw1
  replace hN := hN.step hw1
  have hC := hN.2
  obtain ⟨w3, rfl⟩ : ∃ x, x = w1 := ⟨_, rfl⟩
  have hE3 := hE2.trans hN.1
  have kp3 := kp2.ext hN.1
  have kq3 := kq2.ext hN.1
  clear hc hc2 hC hN
  go_wp2_with fail
  go_loopg [7, 8, 9] l.length (fun n u7 u8 i wr => ∃ (j : Nat) (a now : Int), j + n = l.length ∧ i = .int .i64 j ∧ u7 = .int .i64 a ∧ u8 = .int .i64 now ∧ Ext w3 wr ∧ Hid (∀ k (hk : k < l.length), k < j → 0 ≤ l[k].con ∧ l[k].con < p.cons.length) ∧ Hid (chkL p.cons q.size q.dst q.dead q.src q.ready (seenL p q (l.take 0)) l = chkL p.cons q.size q.dst q.dead a now (seenL p q (l.take j)) (l.drop j)))
  case atStart => exact ⟨0, q.src, q.ready, by omega, rfl, rfl, rfl, Ext.refl _, Lib.hid (fun k _ hk => by omega), Lib.hid rfl⟩
  case round =>
    obtain ⟨j, a, now, hjn, rfl, rfl, rfl, hF, hin, hx⟩ := hrel
    have kp5 := kp3.ext hF
    have kq5 := kq3.ext hF
    have hcp5 := kp5.cell
    have hcq5 := kq5.cell
    have hlp5 := kp5.lt
    have hlq5 := kq5.lt
    have hE5 := hE3.trans hF
    have Hjn := Lib.hid hjn
    have hjl : j ≤ l.length := by omega
    clear hjn
    by_cases hlt : j < l.length
    · obtain ⟨b, o, rfl, hb, c0, c1, c2, c3⟩ := (hl.ext hE5).hp hlt
      have hst := chkL_step (cons := p.cons) (n := q.size) (dest := q.dst) (D := q.dead) (a := a) (now := now) (seen := seenL p q (l.take j)) hlt rfl
      have hsn := seenL_snoc (p := p) (q := q) hlt rfl
      have hstep : 0 ≤ l[j].con → l[j].con < p.cons.length → ∀ k (hk : k < l.length), k < j + 1 → 0 ≤ l[k].con ∧ l[k].con < p.cons.length := fun h0 h1 k hk hkj => by
        by_cases e : k = j
        · subst e; exact ⟨h0, h1⟩
        · exact hin.out k hk (by omega)
      have Hstep := Lib.hid hstep
      generalize hye : l[j] = y at *
      obtain ⟨yc, yb, ye, ya⟩ := y
      simp only at c0 c1 c2 c3 hsn
      have Hye0 := Lib.hid hye
      have Hx := Lib.hid (Hj.out.trans (hx.out.trans hst))
      have Hsn := Lib.hid hsn
      clear hst hx hsn hye hstep
      obtain ⟨W6, hW6, hB6, hk6, hl6⟩ := box1 wr #[.int .i64 yc, .int .i64 yb, .int .i64 ye, .int .i64 ya] 53
      have hc6 := hk6.cell
      have kp6 := kp5.ext hB6
      have kq6 := kq5.ext hB6
      have hcp6 := kp6.cell
      have hcq6 := kq6.cell
      have hlp6 := kp6.lt
      have hlq6 := kq6.lt
      have hcl : p.cons.length ≤ 64 := hm64
      by_cases hr1 : yc < 0
      · have hd : decide (yc < 0) = true := decide_eq_true hr1
        go_wp2_with fail
        go_ret
        exact ⟨ret_i64 (by rw [Hx.out]; simp only [chkL]; rw [if_pos (.inl hr1)]), hE5.trans hB6⟩
      have hd1 : decide (yc < 0) = false := decide_eq_false hr1
      by_cases hr2 : (p.cons.length : Int) ≤ yc
      · have hd : decide ((p.cons.length : Int) ≤ yc) = true := decide_eq_true hr2
        go_wp2_with fail
        go_ret
        exact ⟨ret_i64 (by rw [Hx.out]; simp only [chkL]; rw [if_pos (.inr hr2)]), hE5.trans hB6⟩
      obtain ⟨k, rfl⟩ : ∃ k : Nat, yc = k := ⟨yc.toNat, by omega⟩
      have hk : k < p.cons.length := by omega
      have hki : (k : Int) < (p.cons.length : Int) := by omega
      have hno : ¬ ((k : Int) < 0 ∨ (p.cons.length : Int) ≤ (k : Int)) := by omega
      have Hno := Lib.hid hno
      obtain ⟨bc, oc, rfl, hbc, e0, e1, e2, e3, e4, e5, e6⟩ := ((h.c.ext hE5).ext hB6).con hk
      have hyc := hok.con _ (List.getElem_mem hk)
      have hgc := gc_get (cons := p.cons) (i := (k : Int)) hk
      simp only [Int.toNat_natCast] at hgc
      generalize p.cons[k] = c at *
      have Hgc := Lib.hid hgc
      obtain ⟨W7, hW7, hB7, hk7, hl7⟩ := box1 W6 c.cells 36
      simp only [Con.cells] at hW7 hk7
      have hc7 := hk7.cell
      have hl7b := hk7.lt
      have hk67 := hk6.ext hB7
      have hc67 := hk67.cell
      have hl67 := hk67.lt
      have hE7 := (hE5.trans hB6).trans hB7
      have kp7 := kp6.ext hB7
      have kq7 := kq6.ext hB7
      have hcp7 := kp7.cell
      have hcq7 := kq7.cell
      have hlp7 := kp7.lt
      have hlq7 := kq7.lt
      clear hgc hno hr1 hr2 hd1
      have hok2 := hyc.1
      by_cases hsa : c.src = a
      case neg =>
        have hd : (c.src != a) = true := by simpa using hsa
        have Hsa := Lib.hid hsa
        clear hsa
        go_wp2_with fail
        go_ret
        exact ⟨ret_i64 (by rw [Hx.out]; simp only [chkL]; rw [if_neg Hno.out, Hgc.out, if_pos Hsa.out]), hE7⟩
      have hd : (c.src != a) = false := by simpa using hsa
      have Hsa2 := Lib.hid (not_not_intro hsa)
      clear hsa
      have hvi := visited_any Aq cq (some ⟨bc, oc, none⟩) cc p q (some ⟨b, o, none⟩) cl l j c.dst W7 (h.ext hE7) (hl.ext hE7) (by omega) hm (fun k hk => hin.out k (by omega) hk)
      unfold Pln.val Req.val at hvi
      obtain ⟨seen, hse⟩ : ∃ seen, seenL p q (l.take j) = seen := ⟨_, rfl⟩
      rw [hse] at hvi
      have Hse := Lib.hid hse
      clear hse
      cases hsb : seenB seen c.dst
      case true =>
        rw [hsb] at hvi
        have Hsb := Lib.hid hsb
        clear hsb
        go_wp2_with fail
        refine hvi.mono ?_
        rintro e w8 ⟨rfl, hb8⟩
        go_wp2_with fail
        go_ret
        exact ⟨ret_i64 (by rw [Hx.out]; simp only [chkL]; rw [if_neg Hno.out, Hgc.out, if_neg Hsa2.out, Hse.out, if_pos Hsb.out]), hE7.trans hb8⟩
      rw [hsb] at hvi
      have Hsb := Lib.hid (show ¬ (seenB seen c.dst = true) by rw [hsb]; simp)
      clear hsb
      go_wp2_with fail
      refine hvi.mono ?_
      clear hvi hW6 hW7
      rintro e w8 ⟨rfl, hb8⟩
      have kp8 := kp7.ext hb8
      have kq8 := kq7.ext hb8
      have hcp8 := kp8.cell
      have hcq8 := kq8.cell
      have hk8 := hk67.ext hb8
      have hc8 := hk8.cell
      have hk78 := hk7.ext hb8
      have hc78 := hk78.cell
      clear hcp5 hcq5 hcp6 hcq6 hcp7 hcq7 hc6 hc67 hc7 e0 e1 e2 e3 e4 e5 e6 c0 c1 c2 c3
      have hE8 := hE7.trans hb8
      by_cases hyb : yb < now
      case pos =>
        have hd2 : decide (yb < now) = true := decide_eq_true hyb
        go_wp2_with fail
        go_ret
        exact ⟨ret_i64 (by rw [Hx.out]; simp only [chkL]; rw [if_neg Hno.out, Hgc.out, if_neg Hsa2.out, Hse.out, if_neg Hsb.out, if_pos hyb]), hE8⟩
      have hd2 : decide (yb < now) = false := decide_eq_false hyb
      have Hyb := Lib.hid hyb
      clear hyb
      have hfi := fun w => rArrival_any c yb q.size w
      unfold Con.val at hfi
      cases hff : c.fitsB yb q.size
      case false =>
        simp only [atE_unfit hok2 (And.intro a6 a7) hff] at hfi
        have Hff := Lib.hid hff
        clear hff
        go_wp2_with fail
        refine (hfi _).mono ?_
        rintro e w9 ⟨rfl, hb9⟩
        go_wp2_with fail
        go_ret
        exact ⟨ret_i64 (by rw [Hx.out]; simp only [chkL]; rw [if_neg Hno.out, Hgc.out, if_neg Hsa2.out, Hse.out, if_neg Hsb.out, if_neg (show ¬ yb < now by have := Hyb.out; omega), if_pos Hff.out]), hE8.trans hb9⟩
      have haf := atE_fit hok2 (And.intro a6 a7) hff
      simp only [haf.1, haf.2] at hfi
      have Hff := Lib.hid (show ¬ (c.fitsB yb q.size = false) by rw [hff]; simp)
      have hft := hff
      simp only [Con.fitsB, decide_eq_true_eq] at hft
      have dbd := Con.dur_bd hok2 a6 a7
      have hrg0 := hok2.rng0
      have hrg1 := hok2.rng1
      have hst0 := hok2.st0
      have hen := hok2.en1
      obtain ⟨hft1, hft2⟩ := hft
      obtain ⟨av, hav⟩ : ∃ av, yb + c.dur q.size + c.rng = av := ⟨_, rfl⟩
      rw [hav] at hfi
      have hav0 : 0 ≤ av - c.rng := by omega
      have hav1 : av - c.rng ≤ 1099511627776 := by omega
      have Hav := Lib.hid hav
      clear hff haf hav hft1 hft2 dbd hst0 hen
      go_wp2_with fail
      refine (hfi _).mono ?_
      clear hfi
      rintro e w9 ⟨rfl, hb9⟩
      have kp9 := kp8.ext hb9
      have kq9 := kq8.ext hb9
      have hcp9 := kp9.cell
      have hcq9 := kq9.cell
      have hk9 := hk8.ext hb9
      have hc9 := hk9.cell
      have hk79 := hk78.ext hb9
      have hc79 := hk79.cell
      clear hcp8 hcq8 hc8 hc78
      have hE9 := hE8.trans hb9
      by_cases hya : ya = av
      case neg =>
        have hd3 : (ya != av) = true := by simpa using hya
        have Hya := Lib.hid hya
        clear hya
        go_wp2_with fail
        go_ret
        exact ⟨ret_i64 (by rw [Hx.out]; simp only [chkL]; rw [if_neg Hno.out, Hgc.out, if_neg Hsa2.out, Hse.out, if_neg Hsb.out, if_neg (show ¬ yb < now by have := Hyb.out; omega), if_neg Hff.out, if_pos (by have h1 := Hya.out; have h2 := Hav.out; omega)]), hE9⟩
      have hd3 : (ya != av) = false := by simpa using hya
      have Hya := Lib.hid hya
      clear hya
      by_cases hye : ye = av - c.rng
      case neg =>
        have hd4 : (ye != av - c.rng) = true := by simpa using hye
        have Hye := Lib.hid hye
        clear hye
        go_wp2_with fail
        go_ret
        exact ⟨ret_i64 (by rw [Hx.out]; simp only [chkL]; rw [if_neg Hno.out, Hgc.out, if_neg Hsa2.out, Hse.out, if_neg Hsb.out, if_neg (show ¬ yb < now by have := Hyb.out; omega), if_neg Hff.out, if_pos (by have h1 := Hye.out; have h2 := Hav.out; omega)]), hE9⟩
      have hd4 : (ye != av - c.rng) = false := by simpa using hye
      have Hx2 := Lib.hid (show p.jchk q l = chkL p.cons q.size q.dst q.dead c.dst av (seenL p q (l.take (j + 1))) (l.drop (j + 1)) by
        rw [Hx.out, Hsn.out]
        have h1 := Hya.out
        have h2 := Hav.out
        simp only [chkL]
        rw [if_neg Hno.out, Hgc.out, if_neg Hsa2.out, Hse.out, if_neg Hsb.out, if_neg (show ¬ yb < now by have := Hyb.out; omega), if_neg Hff.out, if_neg (by omega), h1])
      have Hstep2 := Lib.hid (Hstep.out (by omega) hki)
      clear hye
      go_wp2
      go_roundg (gk - 1)
      case measure => have := Hjn.out; omega
      case rel =>
        exact ⟨j + 1, c.dst, av, by have := Hjn.out; omega, by go_num, rfl, rfl, hF.trans ((hB6.trans hB7).trans (hb8.trans hb9)), Hstep2, Lib.hid (Hj.out.symm.trans Hx2.out)⟩
    · have hj : l.length ≤ j := by omega
      have hx2 := Hj.out.trans hx.out
      rw [List.drop_eq_nil_of_le hj] at hx2
      have Hx := Lib.hid hx2
      clear hx2 hx
      by_cases hda : a = q.dst
      · have hd : (a != q.dst) = false := by simpa using hda
        have Hda := Lib.hid hda
        clear hda
        by_cases hnd : q.dead < now
        · have hd2 : decide (q.dead < now) = true := decide_eq_true hnd
          go_wp2_with fail
          go_ret
          exact ⟨ret_i64 (by rw [Hx.out]; simp only [chkL]; rw [if_neg (not_not_intro Hda.out), if_pos hnd]), hE5⟩
        · have hd2 : decide (q.dead < now) = false := decide_eq_false hnd
          have Hnd := Lib.hid hnd
          clear hnd
          go_wp2_with fail
          go_ret
          exact ⟨ret_i64 (by rw [Hx.out]; simp only [chkL]; rw [if_neg (not_not_intro Hda.out), if_neg (show ¬ q.dead < now by have := Hnd.out; omega)]), hE5⟩
      · have hd : (a != q.dst) = true := by simpa using hda
        have Hda := Lib.hid hda
        clear hda
        go_wp2_with fail
        go_ret
        exact ⟨ret_i64 (by rw [Hx.out]; simp only [chkL]; rw [if_pos Hda.out]), hE5⟩

end Go.Proofs.Ytgmfnhianhngiaa

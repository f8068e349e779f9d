
/- Layer 25 (latest): the walks of both functions times. -/
import Derived.Test.YtifopbkhflpbfaaGreatLatW2
import Derived.Laws.EntriesVeiled
namespace Go.Proofs.YtifopbkhflpbfaaGreat
set_option linter.unusedVariables false
open Go.RowKit Go.Shelf

theorem info_int : (Tryz.prog.info? 3).map (fun i => (i.zero, i.size, i.bytes)) = some (some (.int .i64 0), 1, 8) := by kernel_rfl

set_option maxRecDepth 100000 in
set_option maxHeartbeats 4000000 in
theorem ltimes_any (Aq : Option Addr) (cq : Nat) (Ac : Option Addr) (cc : Nat) (p : Pln) (dest D size : Int) (w : World) (h : PlnRd w Aq cq Ac cc p) (hok : p.Ok) (ha : p.argB dest D size = true) :
    Calls Tryz.prog 74 #[p.val Aq cq Ac cc, .int .i64 dest, .int .i64 D, .int .i64 size] w fun e w' => ∃ v, e = .returned v ∧ Owns EInt w' w.heap.size 3 v (p.times dest D size) ∧ Ext w w' := by
  have ⟨q1, q2, q3, q4⟩ := hok
  have ha' := ha
  simp only [Pln.argB, decide_eq_true_eq] at ha'
  obtain ⟨a1, a2, a3, a4, a5, a6⟩ := ha'
  obtain ⟨ii, hii, hiz, hi1, hi2⟩ := info_parts info_int
  have hmk := fun w => run_make1 (n := p.quo.length) Tryz.underlying22 hii hiz hi1 (by omega) rfl (by omega) w
  obtain ⟨W1, hW1, hB1, hk1, hl1⟩ := box1 w #[.slice Aq p.quo.length cq, .slice Ac p.cons.length cc] 25
  obtain ⟨W2, hW2, hB2, hk2, hl2⟩ := box1 W1 #[.int .i64 dest] 3
  obtain ⟨W3, hW3, hB3, hk3, hl3⟩ := box1 W2 #[.int .i64 size] 3
  obtain ⟨W4, hW4, hB4, hk4, hl4⟩ := box1 W3 (Array.replicate p.quo.length (.int .i64 0)) 3
  have hown := Owns.madeInts W3 w.heap.size 3 p.quo.length (by omega) (by unfold maxLen; omega) _ rfl
  rw [hW4] at hown
  obtain ⟨W5, hW5, hB5, hk5, hl5⟩ := box1 W4 #[.slice (some ⟨W3.heap.size, 0, none⟩) p.quo.length p.quo.length] 22
  have hc1 := ((hk1.ext hB2).ext hB3).cell
  have hc5 := hk5.cell
  unfold Pln.val
  go_enter Tryz.func74, Tryz.ntmps74
  go_wp2
  clear hmk hW1 hW2 hW3 hW4 hW5
  go_loopg [18] p.quo.length (fun q i wr => ∃ j : Nat, j + q = p.quo.length ∧ i = .int .i64 j ∧ Owns EInt wr w.heap.size 3 (.slice (some ⟨W3.heap.size, 0, none⟩) p.quo.length p.quo.length) (List.replicate j (-1) ++ List.replicate (p.quo.length - j) 0) ∧ W5.grownBy wr (some W3.heap.size))
  case atStart => exact ⟨0, by omega, rfl, hown.ext hB5, World.grownBy.refl _ _⟩
  case round =>
    obtain ⟨j, hjq, rfl, hu, hN⟩ := hrel
    have ho := hk5.keptg hN (by omega)
    have hco := ho.cell
    have hlo := ho.lt
    by_cases hlt : j < p.quo.length
    · have hlm : (List.replicate j (-1 : Int) ++ List.replicate (p.quo.length - j) 0).length = p.quo.length := by simp; omega
      have hgc := hu.gi (i := (j : Int)) (by omega)
      rw [Int.toNat_natCast] at hgc
      obtain ⟨hgl, hfz⟩ := hu.free
      have hset := hu.seti (k := j) (by omega) (-1)
      rw [fill_step _ _ _ _ hlt] at hset
      clear hlm
      go_wp2
      go_roundg (gk - 1)
      case measure => omega
      case rel => exact ⟨j + 1, by omega, by go_num, hset, grown_setCell hN _ _⟩
    · have hlist : List.replicate j (-1 : Int) ++ List.replicate (p.quo.length - j) 0 = List.replicate p.quo.length (-1) := by
        rw [show j = p.quo.length by omega, Nat.sub_self]; simp
      rw [hlist] at hu
      clear hlist
      have hd5 := ((((hk2.ext hB3).ext hB4).ext hB5)).keptg hN (by omega)
      have hcd := hd5.cell
      have hld := hd5.lt
      have hlm : (List.replicate p.quo.length (-1 : Int)).length = p.quo.length := by simp
      have hgc := hu.gi (i := dest) (by omega)
      obtain ⟨hgl, hfz⟩ := hu.free
      have hset := hu.seti (k := dest.toNat) (by omega) D
      change Owns EInt _ _ _ _ (lstart p.quo.length dest D) at hset
      clear hlm
      obtain ⟨V1, hV1⟩ : ∃ V1, wr.setCell ⟨W3.heap.size, dest.toNat, none⟩ (.int .i64 D) = V1 := ⟨_, rfl⟩
      have hN1 := grown_setCell hN dest.toNat (.int .i64 D)
      rw [hV1] at hset hN1
      have hz1 : wr.heap.size = V1.heap.size := by rw [← hV1]; simp [World.setCell]
      have Hz1 := Lib.hid hz1
      clear hz1
      go_wp2_with fail
      obtain ⟨W6, hW6, hB6, hk6, hl6⟩ := box1 V1 #[.func (.func 88) #[] #[.pointer (some ⟨w.heap.size, 0, none⟩), .pointer (some ⟨W4.heap.size, 0, none⟩), .pointer (some ⟨W2.heap.size, 0, none⟩), .pointer (some ⟨W1.heap.size, 0, none⟩), .pointer (some ⟨V1.heap.size, 0, none⟩)]] 124
      rw [hW6]
      clear hW6
      have hV5 : W5.heap.size ≤ V1.heap.size := hN1.size
      have hN6 := grown_ext hN1 hB6
      have hw5 : Ext w W5 := (((hB1.trans hB2).trans hB3).trans hB4).trans hB5
      have hw6 : Ext w W6 := ext_of_grown hw5 hN6 (by omega)
      have hctx : LCtx W6 w.heap.size W4.heap.size W2.heap.size W1.heap.size V1.heap.size W3.heap.size Aq cq Ac cc p p.quo.length p.quo.length size dest :=
        ⟨((((hk1.ext hB2).ext hB3).ext hB4).ext hB5).keptg hN6 (by omega), hk5.keptg hN6 (by omega), ((hk3.ext hB4).ext hB5).keptg hN6 (by omega), (((hk2.ext hB3).ext hB4).ext hB5).keptg hN6 (by omega), ⟨_, hk6⟩, by omega, by omega, by omega, by omega, by omega⟩
      have himp := improve_any w W6 w.heap.size w.heap.size W4.heap.size W2.heap.size W1.heap.size V1.heap.size W3.heap.size Aq cq Ac cc p p.quo.length p.quo.length size dest D hctx h.c hw6 (by omega) q4 ⟨a5, a6⟩ a1 a4 (by omega) (by omega)
        (mu D (lstart p.quo.length dest D)) (lstart p.quo.length dest D) W6 (lstart_inv ⟨a1, a2⟩ a3) (Nat.le_refl _) (World.grownBy.refl _ _) (hset.ext hB6)
      refine himp.mono ?_
      clear himp
      rintro e w2 ⟨⟨r, rfl⟩, hu3, hg3⟩
      have ho3 := hctx.out.keptg hg3 (by omega)
      have hc3 := ho3.cell
      go_wp2
      go_ret
      exact ⟨_, rfl, hu3, ext_of_grown hw6 hg3 (by omega)⟩

/-- Between the passes of the reference. -/
def LOut (p : Pln) (dest D size : Int) (q : Nat) (ch : Bool) (m : List Int) : Prop :=
  (ch = true ∧ ∃ k, q = k + 1 ∧ mu D m ≤ k ∧ p.times dest D size = liter dest size p.cons k m) ∨ (ch = false ∧ p.times dest D size = m)
theorem LOut.next {p : Pln} {dest D size : Int} {q : Nat} {m : List Int} (hsz : 1 ≤ size ∧ size ≤ 65536) (hd : 0 ≤ dest) (hc : Cons p.quo.length p.cons) (hi : LInv p.quo.length D dest m) (h : LOut p dest D size q true m) :
    ∃ q', q' < q ∧ LOut p dest D size q' (lpass dest size p.cons m).1 (lpass dest size p.cons m).2 := by
  have hp := lpass_inv hsz hd hc hi
  rcases h with ⟨_, k, rfl, hk, ht⟩ | ⟨h, _⟩
  · cases hch : (lpass dest size p.cons m).1
    · refine ⟨0, by omega, .inr ⟨rfl, ?_⟩⟩
      rw [ht, liter_stop k hch, hp.2.2 hch]
    · have hlt := hp.2.1 hch
      obtain ⟨k', rfl⟩ : ∃ k', k = k' + 1 := ⟨k - 1, by omega⟩
      refine ⟨k' + 1, by omega, .inl ⟨rfl, k', rfl, by omega, ?_⟩⟩
      rw [ht]; simp only [liter, hch, if_true]
  · cases h

set_option maxRecDepth 100000 in
set_option maxHeartbeats 4000000 in
theorem rltimes_any (Aq : Option Addr) (cq : Nat) (Ac : Option Addr) (cc : Nat) (p : Pln) (dest D size : Int) (w : World) (h : PlnRd w Aq cq Ac cc p) (hok : p.Ok) (ha : p.argB dest D size = true) :
    Calls Tryz.prog 35 #[p.val Aq cq Ac cc, .int .i64 dest, .int .i64 D, .int .i64 size] w fun e w' => ∃ v, e = .returned v ∧ Owns EInt w' w.heap.size 3 v (p.times dest D size) ∧ Ext w w' := by
  have ⟨q1, q2, q3, q4⟩ := hok
  have ha' := ha
  simp only [Pln.argB, decide_eq_true_eq] at ha'
  obtain ⟨a1, a2, a3, a4, a5, a6⟩ := ha'
  obtain ⟨ii, hii, hiz, hi1, hi2⟩ := info_parts info_int
  have hmk := fun w => run_make1 (n := p.quo.length) Tryz.underlying22 hii hiz hi1 (by omega) rfl (by omega) w
  obtain ⟨W1, hW1, hB1, hk1, hl1⟩ := box1 w #[.slice Aq p.quo.length cq, .slice Ac p.cons.length cc] 25
  obtain ⟨W4, hW4, hB4, hk4, hl4⟩ := box1 W1 (Array.replicate p.quo.length (.int .i64 0)) 3
  have hown := Owns.madeInts W1 w.heap.size 3 p.quo.length (by omega) (by unfold maxLen; omega) _ rfl
  rw [hW4] at hown
  have hc1 := hk1.cell
  have hA : Ext w W4 := hB1.trans hB4
  have hA0 := h.c
  have hA1 := hA0.ext hA
  unfold Pln.val
  go_enter Tryz.func35, Tryz.ntmps35
  go_wp2
  clear hmk hW1 hW4
  go_loopg [10] p.quo.length (fun q i wr => ∃ j : Nat, j + q = p.quo.length ∧ i = .int .i64 j ∧ Owns EInt wr w.heap.size 3 (.slice (some ⟨W1.heap.size, 0, none⟩) p.quo.length p.quo.length) (List.replicate j (-1) ++ List.replicate (p.quo.length - j) 0) ∧ W4.grownBy wr (some W1.heap.size))
  case atStart => exact ⟨0, by omega, rfl, hown, World.grownBy.refl _ _⟩
  case round =>
    obtain ⟨j, hjq, rfl, hu, hN⟩ := hrel
    by_cases hlt : j < p.quo.length
    · have hlm : (List.replicate j (-1 : Int) ++ List.replicate (p.quo.length - j) 0).length = p.quo.length := by simp; omega
      have hgc := hu.gi (i := (j : Int)) (by omega)
      rw [Int.toNat_natCast] at hgc
      obtain ⟨hgl, hfz⟩ := hu.free
      have hset := hu.seti (k := j) (by omega) (-1)
      rw [fill_step _ _ _ _ hlt] at hset
      clear hlm
      go_wp2
      go_roundg (gk - 1)
      case measure => omega
      case rel => exact ⟨j + 1, by omega, by go_num, hset, grown_setCell hN _ _⟩
    · have hlist : List.replicate j (-1 : Int) ++ List.replicate (p.quo.length - j) 0 = List.replicate p.quo.length (-1) := by
        rw [show j = p.quo.length by omega, Nat.sub_self]; simp
      rw [hlist] at hu
      clear hlist
      have hlm : (List.replicate p.quo.length (-1 : Int)).length = p.quo.length := by simp
      have hgc := hu.gi (i := dest) (by omega)
      obtain ⟨hgl, hfz⟩ := hu.free
      have hset := hu.seti (k := dest.toNat) (by omega) D
      change Owns EInt _ _ _ _ (lstart p.quo.length dest D) at hset
      clear hlm
      obtain ⟨V1, hV1⟩ : ∃ V1, wr.setCell ⟨W1.heap.size, dest.toNat, none⟩ (.int .i64 D) = V1 := ⟨_, rfl⟩
      have hN1 := grown_setCell hN dest.toNat (.int .i64 D)
      rw [hV1] at hset hN1
      go_wp2
      clear hgc hgl hfz hV1 hu hN
      go_loopg [11] (mu D (lstart p.quo.length dest D) + 1) (fun q f wr => ∃ (ch : Bool) (m : List Int), f = .bool ch ∧ LInv p.quo.length D dest m ∧ Owns EInt wr w.heap.size 3 (.slice (some ⟨W1.heap.size, 0, none⟩) p.quo.length p.quo.length) m ∧ W4.grownBy wr (some W1.heap.size) ∧ LOut p dest D size q ch m)
      case atStart => exact ⟨true, _, rfl, lstart_inv ⟨a1, a2⟩ a3, hset, hN1, .inl ⟨rfl, _, rfl, Nat.le_refl _, rfl⟩⟩
      case round =>
        obtain ⟨ch, m, rfl, hinv, hu, hN, hout⟩ := hrel
        cases ch
        · go_wp2
          go_ret
          have e1 : p.times dest D size = m := by
            rcases hout with ⟨h, _⟩ | ⟨_, h⟩
            · cases h
            · exact h
          rw [e1]
          exact ⟨_, rfl, hu, ext_of_grown hA hN (by omega)⟩
        · obtain ⟨q', hq', hnext⟩ := LOut.next ⟨a5, a6⟩ a1 q4 hinv hout
          have Hnext := Lib.hid hnext
          obtain ⟨gq, rfl⟩ : ∃ gq, gq = gk := ⟨_, rfl⟩
          obtain ⟨wo, rfl⟩ : ∃ wo, wo = wr := ⟨_, rfl⟩
          clear hnext hout
          go_wp2
          go_loopg [11, 12] p.cons.length (fun q f i wr => ∃ j : Nat, j + q = p.cons.length ∧ i = .int .i64 j ∧ f = .bool ((p.cons.take j).foldl (lstep dest size) (false, m)).1 ∧ Owns EInt wr w.heap.size 3 (.slice (some ⟨W1.heap.size, 0, none⟩) p.quo.length p.quo.length) ((p.cons.take j).foldl (lstep dest size) (false, m)).2 ∧ W4.grownBy wr (some W1.heap.size))
          case atStart => exact ⟨0, by omega, rfl, rfl, hu, hN⟩
          case round =>
            obtain ⟨j, hjq, rfl, rfl, hu, hN⟩ := hrel
            have hA2 := hA0.ext (ext_of_grown hA hN (by omega))
            have hp1 := (hk1.ext hB4).keptg hN (by omega)
            have hcp := hp1.cell
            have hlp := hp1.lt
            by_cases hlt : j < p.cons.length
            · obtain ⟨b, o, rfl, hb, c0, c1, c2, c3, c4, c5, c6⟩ := hA2.con hlt
              have hsi := lfold_take ⟨a5, a6⟩ a1 q4 hinv j
              have hst := lfold_snoc (dest := dest) (size := size) (s := (false, m)) hlt rfl
              have hyc := q4 _ (List.getElem_mem hlt)
              generalize hye : p.cons[j] = y at *
              have Hst := Lib.hid hst
              have Hy := Lib.hid hye
              clear hst hye
              generalize hs : (p.cons.take j).foldl (lstep dest size) (false, m) = s at *
              have Hs := Lib.hid hs
              clear hs
              have hs0 := hyc.1.src0
              have hs1 := hyc.2.1
              have hd0 := hyc.1.dst0
              have hd1 := hyc.2.2
              obtain ⟨W, hW, hB, hkb, hltW⟩ := box1 wr y.cells 42
              simp only [Con.cells] at hW hkb
              have hck := hkb.cell
              have hu2 := hu.ext hB
              have hlen := hsi.len
              have hgd := hu2.gi (i := y.dst) (by omega)
              have hgs := hu2.gi (i := y.src) (by omega)
              obtain ⟨hgl, hfz⟩ := hu2.free
              have hlo2 := hsi.lo _ (gi_mem (m := s.2) (i := y.dst) (by omega))
              have hhi2 := hsi.hi _ (gi_mem (m := s.2) (i := y.dst) (by omega))
              have hE := grown_ext hN hB
              have Hlen := Lib.hid hlen
              clear hlen
              have hN0 := hN
              clear hN
              by_cases hsd : y.src = dest
              · have hdd : (y.src == dest) = true := by simpa using hsd
                have Hsd := Lib.hid hsd
                clear hsd
                go_wp2
                go_roundg (gk - 1)
                case measure => omega
                case rel =>
                  have e1 : lstep dest size s y = s := by unfold lstep; rw [if_neg (fun h => h.1 Hsd.out)]
                  refine ⟨j + 1, by omega, by go_num, ?_, ?_, hE⟩
                  · rw [Hst.out, e1]
                  · rw [Hst.out, e1]; exact hu2
              · have hdd : (y.src == dest) = false := by simpa using hsd
                have Hsd := Lib.hid hsd
                clear hsd
                go_wp2
                clear hW c0 c1 c2 c3 c4 c5 c6 hcp hlp
                have hN := Near.refl W
                by_cases hlb : gi s.2 y.src < lbeg y (gi s.2 y.dst) size
                · skip
                  have hq := quiet_near hN
                  refine wp_region_quiet_below (by kernel_rfl) (by kernel_rfl) ?_
                  repeat (first | go_big_quiet_skip | (go_big_quiet_want; go_big_quiet_op; first | go_big_quiet_on | (apply Exists.intro; refine ⟨fun _ => ?_, ?_⟩; (focus (first | (go_at_call 53; exact Calls.regrown_of (rlbegin_any y (gi s.2 y.dst) size _ hyc.1 ⟨a5, a6⟩ ⟨by omega, by omega⟩)))); go_big_quiet_on)))
                  refine wpQuiet_nil ?_
                  intro w1 hw1
                  clear hq
                  replace hw1 := quiet_ext hw1
                  replace hN := hN.step hw1
                  have hC := hN.2
                  obtain ⟨hgl9, hfz9⟩ := (hu2.ext hN.1).free
                  go_wp2
                  go_roundg (gk - 1)
                  case measure => omega
                  case rel =>
                    have e1 : lstep dest size s y = (true, s.2.set y.src.toNat (lbeg y (gi s.2 y.dst) size)) := by unfold lstep; rw [if_pos ⟨Hsd.out, hlb⟩]
                    refine ⟨j + 1, by omega, by go_num, ?_, ?_, grown_setCell (grown_ext hE hN.1) _ _⟩
                    · rw [Hst.out, e1]
                    · rw [Hst.out, e1]; exact (hu2.ext hN.1).seti (by have := Hlen.out; omega) _
                · skip
                  have hq := quiet_near hN
                  refine wp_region_quiet_below (by kernel_rfl) (by kernel_rfl) ?_
                  repeat (first | go_big_quiet_skip | (go_big_quiet_want; go_big_quiet_op; first | go_big_quiet_on | (apply Exists.intro; refine ⟨fun _ => ?_, ?_⟩; (focus (first | (go_at_call 53; exact Calls.regrown_of (rlbegin_any y (gi s.2 y.dst) size _ hyc.1 ⟨a5, a6⟩ ⟨by omega, by omega⟩)))); go_big_quiet_on)))
                  refine wpQuiet_nil ?_
                  intro w1 hw1
                  clear hq
                  replace hw1 := quiet_ext hw1
                  replace hN := hN.step hw1
                  have hC := hN.2
                  go_wp2
                  go_roundg (gk - 1)
                  case measure => omega
                  case rel =>
                    have e1 : lstep dest size s y = s := by unfold lstep; rw [if_neg (fun h => absurd h.2 (by omega))]
                    refine ⟨j + 1, by omega, by go_num, ?_, ?_, grown_ext hE hN.1⟩
                    · rw [Hst.out, e1]
                    · rw [Hst.out, e1]; exact hu2.ext hN.1
            · have htk : p.cons.take j = p.cons := List.take_of_length_le (by omega)
              rw [htk] at hu
              rw [htk]
              clear htk
              go_wp2
              go_roundg q'
              case measure => omega
              case rel => exact ⟨_, _, rfl, (lpass_inv ⟨a5, a6⟩ a1 q4 hinv).1, hu, hN, Hnext.out⟩

end Go.Proofs.YtifopbkhflpbfaaGreat


/- Layer 25 (latest): the walks of begin and of the closures. · Layer 25 (latest): the walks of times and of its closures. · Layer 25 (latest): the walks of both functions times. -/
import Derived.Test.YtmaengcmhopmbaaGreatPlnA
import Derived.Test.YtmaengcmhopmbaaGreatPlnW
import Derived.Laws.EntriesVeiled
namespace Go.Proofs.YtmaengcmhopmbaaGreat
set_option linter.unusedVariables false
open Go.RowKit Go.Shelf

set_option maxHeartbeats 1000000 in
theorem lbegin_any (c : Con) (t n : Int) (w : World) (h : c.Ok) (hn : 1 ≤ n ∧ n ≤ 65536) (ht : -1 ≤ t ∧ t ≤ 1099511627776) :
    Calls Tryz.prog 22 #[c.val, .int .i64 t, .int .i64 n] w fun e w' => e = .returned (.int .i64 (lbeg c t n)) ∧ Ext w w' := by
  have d := Con.dur_bd h hn.1 hn.2
  have ha : c.arg n = 0 := Con.arg_ok.2 ⟨h, hn⟩
  have hD : ∀ w, Calls Tryz.prog 23 #[c.val, .int .i64 n] w fun e w' => e = .returned (.tuple #[.int .i64 (c.dur n), .int .i64 0]) ∧ Ext w w' := fun w => by
    have := Duration_any c n w
    rw [Con.durR, if_pos ha, ha] at this
    exact this
  have ⟨h1, h2, h3, h4, h5, h6, h7, h8, h9, h10, h11, h12, h13, h14⟩ := h
  obtain ⟨ht1, ht2⟩ := ht
  obtain ⟨d1, d2⟩ := d
  clear ha
  by_cases hm : t = -1
  · have hd : (t == -1) = true := by simpa using hm
    have HL := Lib.hid (show lbeg c t n = -1 by unfold lbeg; rw [if_pos hm])
    have Hm := Lib.hid hm
    clear hm
    unfold Con.val at hD ⊢
    go_enter Tryz.func22, Tryz.ntmps22
    go_wp2_with fail
    obtain ⟨W, hW, hB, hk, hlt⟩ := box1 w c.cells 61
    simp only [Con.cells] at hW hk
    rw [hW]
    clear hW
    have hc := hk.cell
    have hN := Near.refl W
    go_wp2_with (go_at_call 23; refine (hD _).mono ?_; rintro e w1 ⟨rfl, hb⟩; replace hN := hN.step hb; have hC := hN.2)
    go_ret
    exact ⟨ret_i64 HL.out.symm, hB.trans hN.1⟩
  · have hd : (t == -1) = false := by simpa using hm
    have HL := Lib.hid (show lbeg c t n = if min c.en (t - c.rng) - c.dur n < c.st then -1 else min c.en (t - c.rng) - c.dur n by unfold lbeg; rw [if_neg hm])
    have Hm := Lib.hid hm
    clear hm
    unfold Con.val at hD ⊢
    go_enter Tryz.func22, Tryz.ntmps22
    go_wp2_with fail
    obtain ⟨W, hW, hB, hk, hlt⟩ := box1 w c.cells 61
    simp only [Con.cells] at hW hk
    rw [hW]
    clear hW
    have hc := hk.cell
    have hN := Near.refl W
    go_wp2_with (go_at_call 23; refine (hD _).mono ?_; rintro e w1 ⟨rfl, hb⟩; replace hN := hN.step hb; have hC := hN.2)
    all_goals go_ret
    all_goals refine ⟨ret_i64 ?_, hB.trans hN.1⟩
    all_goals rw [HL.out]
    all_goals clear hk hc hN hB hD HL
    all_goals (first | (rw [if_pos (by omega)]) | (rw [if_neg (by omega)]; omega))

end Go.Proofs.YtmaengcmhopmbaaGreat

namespace Go.Proofs.YtmaengcmhopmbaaGreat
set_option linter.unusedVariables false
open Go.RowKit Go.Shelf

set_option maxHeartbeats 1000000 in
theorem lset_any (w : World) (base g n c bo : Nat) (m : List Int) (i v : Int) (hk : Blk w bo 22 #[.slice (some ⟨g, 0, none⟩) n c]) (ho : Owns EInt w base 3 (.slice (some ⟨g, 0, none⟩) n c) m) (hi : 0 ≤ i) (hin : i.toNat < m.length) (hn : n ≤ 1000000) :
    Calls Tryz.prog 45 #[.int .i64 i, .int .i64 v, .pointer (some ⟨bo, 0, none⟩)] w fun e w' => (∃ r, e = .returned r) ∧ w' = w.setCell ⟨g, i.toNat, none⟩ (.int .i64 v) := by
  have hc := hk.cell
  have hl := hk.lt
  have hlen := ho.len
  subst hlen
  have hcg := ho.gi hin
  obtain ⟨hgl, hfz⟩ := ho.free
  have hi2 : i < m.length := by omega
  go_enter Tryz.func45, Tryz.ntmps45
  go_wp2
  go_end0
  exact ⟨⟨_, rfl⟩, rfl⟩

/-- What the closures of times share: the blocks of its variables; g holds the times. -/
structure LCtx (w9 : World) (bp bo bs bd bi g : Nat) (Aq : Option Addr) (cq : Nat) (Ac : Option Addr) (cc : Nat) (p : Pln) (n c : Nat) (size dest : Int) : Prop where
  plan : Blk w9 bp 25 #[.slice Aq p.quo.length cq, .slice Ac p.cons.length cc]
  out : Blk w9 bo 22 #[.slice (some ⟨g, 0, none⟩) n c]
  siz : Blk w9 bs 3 #[.int .i64 size]
  dst : Blk w9 bd 3 #[.int .i64 dest]
  imp : ∃ tf, Blk w9 bi tf #[.func (.func 44) #[] #[.pointer (some ⟨bp, 0, none⟩), .pointer (some ⟨bo, 0, none⟩), .pointer (some ⟨bs, 0, none⟩), .pointer (some ⟨bd, 0, none⟩), .pointer (some ⟨bi, 0, none⟩)]]
  ne : bp ≠ g ∧ bo ≠ g ∧ bs ≠ g ∧ bd ≠ g ∧ bi ≠ g

theorem lfold_snoc {dest size : Int} {cons : List Con} {k : Nat} {y : Con} {s : Bool × List Int} (h : k < cons.length) (hy : cons[k] = y) : (cons.take (k + 1)).foldl (lstep dest size) s = lstep dest size ((cons.take k).foldl (lstep dest size) s) y := by
  rw [take_snoc h hy, List.foldl_append]; rfl
theorem lfold_take {n : Nat} {D dest size : Int} (hsz : 1 ≤ size ∧ size ≤ 65536) (hd : 0 ≤ dest) {cons : List Con} {m : List Int} (hc : Cons n cons) (h : LInv n D dest m) (k : Nat) : LInv n D dest ((cons.take k).foldl (lstep dest size) (false, m)).2 :=
  (lfold_inv hsz hd (cons.take k) (false, m) (fun x hx => hc x (List.mem_of_mem_take hx)) h).1
theorem liter_stop {dest size : Int} {cons : List Con} {m : List Int} (k : Nat) (h : (lpass dest size cons m).1 = false) : liter dest size cons k m = m := by
  cases k with
  | zero => rfl
  | succ k => simp [liter, h]

set_option maxRecDepth 100000 in
set_option maxHeartbeats 4000000 in
theorem improve_any (w00 w9 : World) (base bp bo bs bd bi g : Nat) (Aq : Option Addr) (cq : Nat) (Ac : Option Addr) (cc : Nat) (p : Pln) (n c : Nat) (size dest D : Int)
    (hx : LCtx w9 bp bo bs bd bi g Aq cq Ac cc p n c size dest) (hA : Rd ECon w00 Ac p.cons) (h9 : Ext w00 w9) (hg : w00.heap.size ≤ g) (hcons : Cons n p.cons) (hsz : 1 ≤ size ∧ size ≤ 65536) (hd : 0 ≤ dest) (hD : D ≤ 1099511627776) (hn : n ≤ 1000000) (hcm : p.cons.length ≤ 1000000) :
    ∀ (k : Nat) (m : List Int) (w : World), LInv n D dest m → mu D m ≤ k → w9.grownBy w (some g) → Owns EInt w base 3 (.slice (some ⟨g, 0, none⟩) n c) m →
    Calls Tryz.prog 44 #[.func (.func 45) #[] #[.pointer (some ⟨bo, 0, none⟩)], .pointer (some ⟨bp, 0, none⟩), .pointer (some ⟨bo, 0, none⟩), .pointer (some ⟨bs, 0, none⟩), .pointer (some ⟨bd, 0, none⟩), .pointer (some ⟨bi, 0, none⟩)] w
      fun e w' => (∃ r, e = .returned r) ∧ Owns EInt w' base 3 (.slice (some ⟨g, 0, none⟩) n c) (liter dest size p.cons k m) ∧ w9.grownBy w' (some g) := by
  have hen : ∀ args w, (callFunc 45 args).run Tryz.prog w = .ok (.enter 45 args) w := enters_of Tryz.func45 (by kernel_rfl) rfl
  have hen1 : ∀ args w, (callFunc 44 args).run Tryz.prog w = .ok (.enter 44 args) w := enters_of Tryz.func44 (by kernel_rfl) rfl
  obtain ⟨hxp, hxo, hxs, hxd, ⟨tf, hxi⟩, n1, n2, n3, n4, n5⟩ := hx
  have N1 := Lib.hid n1
  have N2 := Lib.hid n2
  have N3 := Lib.hid n3
  have N4 := Lib.hid n4
  have N5 := Lib.hid n5
  clear n1 n2 n3 n4 n5
  intro k
  induction k using Nat.strongRecOn with
  | _ k ih =>
    intro m w hinv hmu hgr hown
    have Hmu := Lib.hid hmu
    clear hmu
    have kp := hxp.keptg hgr N1.out
    have hc0 := kp.cell
    have hl0 := kp.lt
    go_enter Tryz.func44, Tryz.ntmps44
    go_wp2
    go_loopg [7, 14] p.cons.length (fun q f i wr => ∃ j : Nat, j + q = p.cons.length ∧ i = .int .i64 j ∧ f = .bool ((p.cons.take j).foldl (lstep dest size) (false, m)).1 ∧ Owns EInt wr base 3 (.slice (some ⟨g, 0, none⟩) n c) ((p.cons.take j).foldl (lstep dest size) (false, m)).2 ∧ w9.grownBy wr (some g))
    case atStart => exact ⟨0, by omega, rfl, rfl, hown, hgr⟩
    case round =>
      obtain ⟨j, hjq, rfl, rfl, hu, hN⟩ := hrel
      have hA2 := hA.ext (ext_of_grown h9 hN hg)
      by_cases hlt : j < p.cons.length
      · obtain ⟨b, o, rfl, hb, c0, c1, c2, c3, c4, c5, c6⟩ := hA2.con hlt
        have hsi := lfold_take hsz hd hcons hinv j
        have hst := lfold_snoc (dest := dest) (size := size) (s := (false, m)) hlt rfl
        have hyc := hcons _ (List.getElem_mem hlt)
        generalize hye : p.cons[j] = y at *
        have Hst := Lib.hid hst
        have Hy := Lib.hid hye
        clear hst hye
        generalize hs : (p.cons.take j).foldl (lstep dest size) (false, m) = s at *
        have Hs := Lib.hid hs
        clear hs
        go_wp2_with fail
        obtain ⟨W, hW, hB, hkb, hltW⟩ := box1 wr y.cells 61
        simp only [Con.cells] at hW hkb
        rw [hW]
        clear hW
        have hck := hkb.cell
        have hoW := (hxo.keptg hN N2.out).ext hB
        have hco := hoW.cell
        have hlo := hoW.lt
        have hsW := (hxs.keptg hN N3.out).ext hB
        have hcs := hsW.cell
        have hls := hsW.lt
        have hdW := (hxd.keptg hN N4.out).ext hB
        have hcd := hdW.cell
        have hld := hdW.lt
        have hu2 := hu.ext hB
        have hlen := hsi.len
        have hs0 := hyc.1.src0
        have hs1 := hyc.2.1
        have hd0 := hyc.1.dst0
        have hd1 := hyc.2.2
        have hgd := hu2.gi (i := y.dst) (by omega)
        have hgs := hu2.gi (i := y.src) (by omega)
        obtain ⟨hgl, _⟩ := hu2.free
        have hlo2 := hsi.lo _ (gi_mem (m := s.2) (i := y.dst) (by omega))
        have hhi2 := hsi.hi _ (gi_mem (m := s.2) (i := y.dst) (by omega))
        have hE := grown_ext hN hB
        have Hlen := Lib.hid hlen
        clear hlen
        have hN0 := hN
        clear hN c0 c1 c2 c3 c4 c5 c6
        have hN := Near.refl W
        by_cases hsd : y.src = dest
        · have hdd : (y.src != dest) = false := by simpa using hsd
          have Hsd := Lib.hid hsd
          clear hsd
          have hq := quiet_near hN
          refine wp_region_quiet_below (by kernel_rfl) (by kernel_rfl) ?_
          repeat (first | go_big_quiet_skip | (go_big_quiet_want; go_big_quiet_op; first | go_big_quiet_on | (apply Exists.intro; refine ⟨fun _ => ?_, ?_⟩; (focus (first | (go_at_call 22; exact Calls.regrown_of (lbegin_any y (gi s.2 y.dst) size _ hyc.1 hsz ⟨by omega, by omega⟩)))); go_big_quiet_on)))
          refine wpQuiet_nil ?_
          intro w1 hw1
          clear hq
          replace hw1 := quiet_ext hw1
          replace hN := hN.step hw1
          have hC := hN.2
          go_wp2
          go_roundg (gk - 1)
          case measure => omega
          case rel =>
            have e1 : lstep dest size s y = s := by unfold lstep; rw [if_neg (fun h => h.1 Hsd.out)]
            refine ⟨j + 1, by omega, by go_num, ?_, ?_, grown_ext hE hN.1⟩
            · rw [Hst.out, e1]
            · rw [Hst.out, e1]; exact hu2.ext hN.1
        · have hdd : (y.src != dest) = true := by simpa using hsd
          have Hsd := Lib.hid hsd
          clear hsd
          by_cases hlb : gi s.2 y.src < lbeg y (gi s.2 y.dst) size
          · skip
            have hq := quiet_near hN
            refine wp_region_quiet_below (by kernel_rfl) (by kernel_rfl) ?_
            repeat (first | go_big_quiet_skip | (go_big_quiet_want; go_big_quiet_op; first | go_big_quiet_on | (apply Exists.intro; refine ⟨fun _ => ?_, ?_⟩; (focus (first | (go_at_call 22; exact Calls.regrown_of (lbegin_any y (gi s.2 y.dst) size _ hyc.1 hsz ⟨by omega, by omega⟩)))); go_big_quiet_on)))
            refine wpQuiet_nil ?_
            intro w1 hw1
            clear hq
            replace hw1 := quiet_ext hw1
            replace hN := hN.step hw1
            have hC := hN.2
            go_wp2_with fail
            refine (lset_any w1 base g n c bo s.2 y.src _ (hoW.ext hN.1) (hu2.ext hN.1) hs0 (by have := Hlen.out; omega) hn).mono ?_
            rintro e w2 ⟨⟨r, rfl⟩, rfl⟩
            go_wp2
            go_roundg (gk - 1)
            case measure => omega
            case rel =>
              have e1 : lstep dest size s y = (true, s.2.set y.src.toNat (lbeg y (gi s.2 y.dst) size)) := by unfold lstep; rw [if_pos ⟨Hsd.out, hlb⟩]
              refine ⟨j + 1, by omega, by go_num, ?_, ?_, grown_setCell (grown_ext hE hN.1) _ _⟩
              · rw [Hst.out, e1]
              · rw [Hst.out, e1]; exact (hu2.ext hN.1).seti (by have := Hlen.out; omega) _
          · skip
            have hq := quiet_near hN
            refine wp_region_quiet_below (by kernel_rfl) (by kernel_rfl) ?_
            repeat (first | go_big_quiet_skip | (go_big_quiet_want; go_big_quiet_op; first | go_big_quiet_on | (apply Exists.intro; refine ⟨fun _ => ?_, ?_⟩; (focus (first | (go_at_call 22; exact Calls.regrown_of (lbegin_any y (gi s.2 y.dst) size _ hyc.1 hsz ⟨by omega, by omega⟩)))); go_big_quiet_on)))
            refine wpQuiet_nil ?_
            intro w1 hw1
            clear hq
            replace hw1 := quiet_ext hw1
            replace hN := hN.step hw1
            have hC := hN.2
            go_wp2
            go_roundg (gk - 1)
            case measure => omega
            case rel =>
              have e1 : lstep dest size s y = s := by unfold lstep; rw [if_neg (fun h => absurd h.2 (by omega))]
              refine ⟨j + 1, by omega, by go_num, ?_, ?_, grown_ext hE hN.1⟩
              · rw [Hst.out, e1]
              · rw [Hst.out, e1]; exact hu2.ext hN.1
      · have htk : p.cons.take j = p.cons := List.take_of_length_le (by omega)
        rw [htk] at hu
        rw [htk]
        clear htk
        have hp := lpass_inv hsz hd hcons hinv
        change Owns EInt wr base _ _ (lpass dest size p.cons m).2 at hu
        change Code.wp _ _ _ _ _ at *
        have hiW := hxi.keptg hN N5.out
        have hci := hiW.cell
        have hli := hiW.lt
        show Code.wp _ _ _ _ _
        cases hch : (lpass dest size p.cons m).1
        · have hch2 : (List.foldl (lstep dest size) (false, m) p.cons).1 = false := hch
          rw [hch2]
          go_wp2
          go_end0
          have e1 := liter_stop k hch
          have e2 := hp.2.2 hch
          rw [e1]
          rw [e2] at hu
          exact ⟨⟨_, rfl⟩, hu, hN⟩
        · have hch2 : (List.foldl (lstep dest size) (false, m) p.cons).1 = true := hch
          rw [hch2]
          have hlt2 := hp.2.1 hch
          have hk1 : k ≠ 0 := by have := Hmu.out; omega
          have ih2 := ih (k - 1) (by omega) (lpass dest size p.cons m).2 wr hp.1 (by have := Hmu.out; omega) hN hu
          have e1 : Hid (liter dest size p.cons k m = liter dest size p.cons (k - 1) (lpass dest size p.cons m).2) := Lib.hid (by
            obtain ⟨k', rfl⟩ : ∃ k', k = k' + 1 := ⟨k - 1, by omega⟩
            simp only [liter, hch, if_true, Nat.add_sub_cancel])
          clear hch hch2 hk1 hlt2 hp
          go_wp2_with fail
          refine ih2.mono ?_
          rintro e w2 ⟨⟨r, rfl⟩, hu3, hg3⟩
          go_wp2
          go_end0
          rw [e1.out]
          exact ⟨⟨_, rfl⟩, hu3, hg3⟩

end Go.Proofs.YtmaengcmhopmbaaGreat

namespace Go.Proofs.YtmaengcmhopmbaaGreat
set_option linter.unusedVariables false
open Go.RowKit Go.Shelf

theorem info_int : (Tryz.prog.info? 3).map (fun i => (i.zero, i.size, i.bytes)) = some (some (.int .i64 0), 1, 8) := by kernel_rfl

set_option maxRecDepth 100000 in
set_option maxHeartbeats 4000000 in
theorem ltimes_any (Aq : Option Addr) (cq : Nat) (Ac : Option Addr) (cc : Nat) (p : Pln) (dest D size : Int) (w : World) (h : PlnRd w Aq cq Ac cc p) (hok : p.Ok) (ha : p.argB dest D size = true) :
    Calls Tryz.prog 17 #[p.val Aq cq Ac cc, .int .i64 dest, .int .i64 D, .int .i64 size] w fun e w' => ∃ v, e = .returned v ∧ Owns EInt w' w.heap.size 3 v (p.times dest D size) ∧ Ext w w' := by
  have ⟨q1, q2, q3, q4⟩ := hok
  have ha' := ha
  simp only [Pln.argB, decide_eq_true_eq] at ha'
  obtain ⟨a1, a2, a3, a4, a5, a6⟩ := ha'
  obtain ⟨ii, hii, hiz, hi1, hi2⟩ := info_parts info_int
  have hmk := fun w => run_make1 (n := p.quo.length) Tryz.underlying22 hii hiz hi1 (by omega) rfl (by omega) w
  obtain ⟨W1, hW1, hB1, hk1, hl1⟩ := box1 w #[.slice Aq p.quo.length cq, .slice Ac p.cons.length cc] 25
  obtain ⟨W2, hW2, hB2, hk2, hl2⟩ := box1 W1 #[.int .i64 dest] 3
  obtain ⟨W3, hW3, hB3, hk3, hl3⟩ := box1 W2 #[.int .i64 size] 3
  obtain ⟨W4, hW4, hB4, hk4, hl4⟩ := box1 W3 (Array.replicate p.quo.length (.int .i64 0)) 3
  have hown := Owns.madeInts W3 w.heap.size 3 p.quo.length (by omega) (by unfold maxLen; omega) _ rfl
  rw [hW4] at hown
  obtain ⟨W5, hW5, hB5, hk5, hl5⟩ := box1 W4 #[.slice (some ⟨W3.heap.size, 0, none⟩) p.quo.length p.quo.length] 22
  have hc1 := ((hk1.ext hB2).ext hB3).cell
  have hc5 := hk5.cell
  unfold Pln.val
  go_enter Tryz.func17, Tryz.ntmps17
  go_wp2
  clear hmk hW1 hW2 hW3 hW4 hW5
  go_loopg [18] p.quo.length (fun q i wr => ∃ j : Nat, j + q = p.quo.length ∧ i = .int .i64 j ∧ Owns EInt wr w.heap.size 3 (.slice (some ⟨W3.heap.size, 0, none⟩) p.quo.length p.quo.length) (List.replicate j (-1) ++ List.replicate (p.quo.length - j) 0) ∧ W5.grownBy wr (some W3.heap.size))
  case atStart => exact ⟨0, by omega, rfl, hown.ext hB5, World.grownBy.refl _ _⟩
  case round =>
    obtain ⟨j, hjq, rfl, hu, hN⟩ := hrel
    have ho := hk5.keptg hN (by omega)
    have hco := ho.cell
    have hlo := ho.lt
    by_cases hlt : j < p.quo.length
    · have hlm : (List.replicate j (-1 : Int) ++ List.replicate (p.quo.length - j) 0).length = p.quo.length := by simp; omega
      have hgc := hu.gi (i := (j : Int)) (by omega)
      rw [Int.toNat_natCast] at hgc
      obtain ⟨hgl, hfz⟩ := hu.free
      have hset := hu.seti (k := j) (by omega) (-1)
      rw [fill_step _ _ _ _ hlt] at hset
      clear hlm
      go_wp2
      go_roundg (gk - 1)
      case measure => omega
      case rel => exact ⟨j + 1, by omega, by go_num, hset, grown_setCell hN _ _⟩
    · have hlist : List.replicate j (-1 : Int) ++ List.replicate (p.quo.length - j) 0 = List.replicate p.quo.length (-1) := by
        rw [show j = p.quo.length by omega, Nat.sub_self]; simp
      rw [hlist] at hu
      clear hlist
      have hd5 := ((((hk2.ext hB3).ext hB4).ext hB5)).keptg hN (by omega)
      have hcd := hd5.cell
      have hld := hd5.lt
      have hlm : (List.replicate p.quo.length (-1 : Int)).length = p.quo.length := by simp
      have hgc := hu.gi (i := dest) (by omega)
      obtain ⟨hgl, hfz⟩ := hu.free
      have hset := hu.seti (k := dest.toNat) (by omega) D
      change Owns EInt _ _ _ _ (lstart p.quo.length dest D) at hset
      clear hlm
      obtain ⟨V1, hV1⟩ : ∃ V1, wr.setCell ⟨W3.heap.size, dest.toNat, none⟩ (.int .i64 D) = V1 := ⟨_, rfl⟩
      have hN1 := grown_setCell hN dest.toNat (.int .i64 D)
      rw [hV1] at hset hN1
      have hz1 : wr.heap.size = V1.heap.size := by rw [← hV1]; simp [World.setCell]
      have Hz1 := Lib.hid hz1
      clear hz1
      go_wp2_with fail
      obtain ⟨W6, hW6, hB6, hk6, hl6⟩ := box1 V1 #[.func (.func 44) #[] #[.pointer (some ⟨w.heap.size, 0, none⟩), .pointer (some ⟨W4.heap.size, 0, none⟩), .pointer (some ⟨W2.heap.size, 0, none⟩), .pointer (some ⟨W1.heap.size, 0, none⟩), .pointer (some ⟨V1.heap.size, 0, none⟩)]] 106
      rw [hW6]
      clear hW6
      have hV5 : W5.heap.size ≤ V1.heap.size := hN1.size
      have hN6 := grown_ext hN1 hB6
      have hw5 : Ext w W5 := (((hB1.trans hB2).trans hB3).trans hB4).trans hB5
      have hw6 : Ext w W6 := ext_of_grown hw5 hN6 (by omega)
      have hctx : LCtx W6 w.heap.size W4.heap.size W2.heap.size W1.heap.size V1.heap.size W3.heap.size Aq cq Ac cc p p.quo.length p.quo.length size dest :=
        ⟨((((hk1.ext hB2).ext hB3).ext hB4).ext hB5).keptg hN6 (by omega), hk5.keptg hN6 (by omega), ((hk3.ext hB4).ext hB5).keptg hN6 (by omega), (((hk2.ext hB3).ext hB4).ext hB5).keptg hN6 (by omega), ⟨_, hk6⟩, by omega, by omega, by omega, by omega, by omega⟩
      have himp := improve_any w W6 w.heap.size w.heap.size W4.heap.size W2.heap.size W1.heap.size V1.heap.size W3.heap.size Aq cq Ac cc p p.quo.length p.quo.length size dest D hctx h.c hw6 (by omega) q4 ⟨a5, a6⟩ a1 a4 (by omega) (by omega)
        (mu D (lstart p.quo.length dest D)) (lstart p.quo.length dest D) W6 (lstart_inv ⟨a1, a2⟩ a3) (Nat.le_refl _) (World.grownBy.refl _ _) (hset.ext hB6)
      refine himp.mono ?_
      clear himp
      rintro e w2 ⟨⟨r, rfl⟩, hu3, hg3⟩
      have ho3 := hctx.out.keptg hg3 (by omega)
      have hc3 := ho3.cell
      go_wp2
      go_ret
      exact ⟨_, rfl, hu3, ext_of_grown hw6 hg3 (by omega)⟩

/-- Between the passes of the reference. -/
def LOut (p : Pln) (dest D size : Int) (q : Nat) (ch : Bool) (m : List Int) : Prop :=
  (ch = true ∧ ∃ k, q = k + 1 ∧ mu D m ≤ k ∧ p.times dest D size = liter dest size p.cons k m) ∨ (ch = false ∧ p.times dest D size = m)
theorem LOut.next {p : Pln} {dest D size : Int} {q : Nat} {m : List Int} (hsz : 1 ≤ size ∧ size ≤ 65536) (hd : 0 ≤ dest) (hc : Cons p.quo.length p.cons) (hi : LInv p.quo.length D dest m) (h : LOut p dest D size q true m) :
    ∃ q', q' < q ∧ LOut p dest D size q' (lpass dest size p.cons m).1 (lpass dest size p.cons m).2 := by
  have hp := lpass_inv hsz hd hc hi
  rcases h with ⟨_, k, rfl, hk, ht⟩ | ⟨h, _⟩
  · cases hch : (lpass dest size p.cons m).1
    · refine ⟨0, by omega, .inr ⟨rfl, ?_⟩⟩
      rw [ht, liter_stop k hch, hp.2.2 hch]
    · have hlt := hp.2.1 hch
      obtain ⟨k', rfl⟩ : ∃ k', k = k' + 1 := ⟨k - 1, by omega⟩
      refine ⟨k' + 1, by omega, .inl ⟨rfl, k', rfl, by omega, ?_⟩⟩
      rw [ht]; simp only [liter, hch, if_true]
  · cases h

end Go.Proofs.YtmaengcmhopmbaaGreat

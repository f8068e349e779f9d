
/- Layer 25 (latest): the walks of times and of its closures. -/
import Derived.Test.YtifopbkhflpbfaaGreatLatW1
namespace Go.Proofs.YtifopbkhflpbfaaGreat
set_option linter.unusedVariables false
open Go.RowKit Go.Shelf

set_option maxHeartbeats 1000000 in
theorem lset_any (w : World) (base g n c bo : Nat) (m : List Int) (i v : Int) (hk : Blk w bo 22 #[.slice (some ⟨g, 0, none⟩) n c]) (ho : Owns EInt w base 3 (.slice (some ⟨g, 0, none⟩) n c) m) (hi : 0 ≤ i) (hin : i.toNat < m.length) (hn : n ≤ 1000000) :
    Calls Tryz.prog 90 #[.int .i64 i, .int .i64 v, .pointer (some ⟨bo, 0, none⟩)] w fun e w' => (∃ r, e = .returned r) ∧ w' = w.setCell ⟨g, i.toNat, none⟩ (.int .i64 v) := by
  have hc := hk.cell
  have hl := hk.lt
  have hlen := ho.len
  subst hlen
  have hcg := ho.gi hin
  obtain ⟨hgl, hfz⟩ := ho.free
  have hi2 : i < m.length := by omega
  go_enter Tryz.func90, Tryz.ntmps90
  go_wp2
  go_end0
  exact ⟨⟨_, rfl⟩, rfl⟩

/-- What the closures of times share: the blocks of its variables; g holds the times. -/
structure LCtx (w9 : World) (bp bo bs bd bi g : Nat) (Aq : Option Addr) (cq : Nat) (Ac : Option Addr) (cc : Nat) (p : Pln) (n c : Nat) (size dest : Int) : Prop where
  plan : Blk w9 bp 25 #[.slice Aq p.quo.length cq, .slice Ac p.cons.length cc]
  out : Blk w9 bo 22 #[.slice (some ⟨g, 0, none⟩) n c]
  siz : Blk w9 bs 3 #[.int .i64 size]
  dst : Blk w9 bd 3 #[.int .i64 dest]
  imp : ∃ tf, Blk w9 bi tf #[.func (.func 88) #[] #[.pointer (some ⟨bp, 0, none⟩), .pointer (some ⟨bo, 0, none⟩), .pointer (some ⟨bs, 0, none⟩), .pointer (some ⟨bd, 0, none⟩), .pointer (some ⟨bi, 0, none⟩)]]
  ne : bp ≠ g ∧ bo ≠ g ∧ bs ≠ g ∧ bd ≠ g ∧ bi ≠ g

theorem lfold_snoc {dest size : Int} {cons : List Con} {k : Nat} {y : Con} {s : Bool × List Int} (h : k < cons.length) (hy : cons[k] = y) : (cons.take (k + 1)).foldl (lstep dest size) s = lstep dest size ((cons.take k).foldl (lstep dest size) s) y := by
  rw [take_snoc h hy, List.foldl_append]; rfl
theorem lfold_take {n : Nat} {D dest size : Int} (hsz : 1 ≤ size ∧ size ≤ 65536) (hd : 0 ≤ dest) {cons : List Con} {m : List Int} (hc : Cons n cons) (h : LInv n D dest m) (k : Nat) : LInv n D dest ((cons.take k).foldl (lstep dest size) (false, m)).2 :=
  (lfold_inv hsz hd (cons.take k) (false, m) (fun x hx => hc x (List.mem_of_mem_take hx)) h).1
theorem liter_stop {dest size : Int} {cons : List Con} {m : List Int} (k : Nat) (h : (lpass dest size cons m).1 = false) : liter dest size cons k m = m := by
  cases k with
  | zero => rfl
  | succ k => simp [liter, h]

set_option maxRecDepth 100000 in
set_option maxHeartbeats 4000000 in
theorem improve_any (w00 w9 : World) (base bp bo bs bd bi g : Nat) (Aq : Option Addr) (cq : Nat) (Ac : Option Addr) (cc : Nat) (p : Pln) (n c : Nat) (size dest D : Int)
    (hx : LCtx w9 bp bo bs bd bi g Aq cq Ac cc p n c size dest) (hA : Rd ECon w00 Ac p.cons) (h9 : Ext w00 w9) (hg : w00.heap.size ≤ g) (hcons : Cons n p.cons) (hsz : 1 ≤ size ∧ size ≤ 65536) (hd : 0 ≤ dest) (hD : D ≤ 1099511627776) (hn : n ≤ 1000000) (hcm : p.cons.length ≤ 1000000) :
    ∀ (k : Nat) (m : List Int) (w : World), LInv n D dest m → mu D m ≤ k → w9.grownBy w (some g) → Owns EInt w base 3 (.slice (some ⟨g, 0, none⟩) n c) m →
    Calls Tryz.prog 88 #[.func (.func 90) #[] #[.pointer (some ⟨bo, 0, none⟩)], .pointer (some ⟨bp, 0, none⟩), .pointer (some ⟨bo, 0, none⟩), .pointer (some ⟨bs, 0, none⟩), .pointer (some ⟨bd, 0, none⟩), .pointer (some ⟨bi, 0, none⟩)] w
      fun e w' => (∃ r, e = .returned r) ∧ Owns EInt w' base 3 (.slice (some ⟨g, 0, none⟩) n c) (liter dest size p.cons k m) ∧ w9.grownBy w' (some g) := by
  have hen : ∀ args w, (callFunc 90 args).run Tryz.prog w = .ok (.enter 90 args) w := enters_of Tryz.func90 (by kernel_rfl) rfl
  have hen1 : ∀ args w, (callFunc 88 args).run Tryz.prog w = .ok (.enter 88 args) w := enters_of Tryz.func88 (by kernel_rfl) rfl
  obtain ⟨hxp, hxo, hxs, hxd, ⟨tf, hxi⟩, n1, n2, n3, n4, n5⟩ := hx
  have N1 := Lib.hid n1
  have N2 := Lib.hid n2
  have N3 := Lib.hid n3
  have N4 := Lib.hid n4
  have N5 := Lib.hid n5
  clear n1 n2 n3 n4 n5
  intro k
  induction k using Nat.strongRecOn with
  | _ k ih =>
    intro m w hinv hmu hgr hown
    have Hmu := Lib.hid hmu
    clear hmu
    have kp := hxp.keptg hgr N1.out
    have hc0 := kp.cell
    have hl0 := kp.lt
    go_enter Tryz.func88, Tryz.ntmps88
    go_wp2
    go_loopg [7, 14] p.cons.length (fun q f i wr => ∃ j : Nat, j + q = p.cons.length ∧ i = .int .i64 j ∧ f = .bool ((p.cons.take j).foldl (lstep dest size) (false, m)).1 ∧ Owns EInt wr base 3 (.slice (some ⟨g, 0, none⟩) n c) ((p.cons.take j).foldl (lstep dest size) (false, m)).2 ∧ w9.grownBy wr (some g))
    case atStart => exact ⟨0, by omega, rfl, rfl, hown, hgr⟩
    case round =>
      obtain ⟨j, hjq, rfl, rfl, hu, hN⟩ := hrel
      have hA2 := hA.ext (ext_of_grown h9 hN hg)
      by_cases hlt : j < p.cons.length
      · obtain ⟨b, o, rfl, hb, c0, c1, c2, c3, c4, c5, c6⟩ := hA2.con hlt
        have hsi := lfold_take hsz hd hcons hinv j
        have hst := lfold_snoc (dest := dest) (size := size) (s := (false, m)) hlt rfl
        have hyc := hcons _ (List.getElem_mem hlt)
        generalize hye : p.cons[j] = y at *
        have Hst := Lib.hid hst
        have Hy := Lib.hid hye
        clear hst hye
        generalize hs : (p.cons.take j).foldl (lstep dest size) (false, m) = s at *
        have Hs := Lib.hid hs
        clear hs
        go_wp2_with fail
        obtain ⟨W, hW, hB, hkb, hltW⟩ := box1 wr y.cells 42
        simp only [Con.cells] at hW hkb
        rw [hW]
        clear hW
        have hck := hkb.cell
        have hoW := (hxo.keptg hN N2.out).ext hB
        have hco := hoW.cell
        have hlo := hoW.lt
        have hsW := (hxs.keptg hN N3.out).ext hB
        have hcs := hsW.cell
        have hls := hsW.lt
        have hdW := (hxd.keptg hN N4.out).ext hB
        have hcd := hdW.cell
        have hld := hdW.lt
        have hu2 := hu.ext hB
        have hlen := hsi.len
        have hs0 := hyc.1.src0
        have hs1 := hyc.2.1
        have hd0 := hyc.1.dst0
        have hd1 := hyc.2.2
        have hgd := hu2.gi (i := y.dst) (by omega)
        have hgs := hu2.gi (i := y.src) (by omega)
        obtain ⟨hgl, _⟩ := hu2.free
        have hlo2 := hsi.lo _ (gi_mem (m := s.2) (i := y.dst) (by omega))
        have hhi2 := hsi.hi _ (gi_mem (m := s.2) (i := y.dst) (by omega))
        have hE := grown_ext hN hB
        have Hlen := Lib.hid hlen
        clear hlen
        have hN0 := hN
        clear hN c0 c1 c2 c3 c4 c5 c6
        have hN := Near.refl W
        by_cases hsd : y.src = dest
        · have hdd : (y.src != dest) = false := by simpa using hsd
          have Hsd := Lib.hid hsd
          clear hsd
          have hq := quiet_near hN
          refine wp_region_quiet_below (by kernel_rfl) (by kernel_rfl) ?_
          repeat (first | go_big_quiet_skip | (go_big_quiet_want; go_big_quiet_op; first | go_big_quiet_on | (apply Exists.intro; refine ⟨fun _ => ?_, ?_⟩; (focus (first | (go_at_call 89; exact Calls.regrown_of (lbegin_any y (gi s.2 y.dst) size _ hyc.1 hsz ⟨by omega, by omega⟩)))); go_big_quiet_on)))
          refine wpQuiet_nil ?_
          intro w1 hw1
          clear hq
          replace hw1 := quiet_ext hw1
          replace hN := hN.step hw1
          have hC := hN.2
          go_wp2
          go_roundg (gk - 1)
          case measure => omega
          case rel =>
            have e1 : lstep dest size s y = s := by unfold lstep; rw [if_neg (fun h => h.1 Hsd.out)]
            refine ⟨j + 1, by omega, by go_num, ?_, ?_, grown_ext hE hN.1⟩
            · rw [Hst.out, e1]
            · rw [Hst.out, e1]; exact hu2.ext hN.1
        · have hdd : (y.src != dest) = true := by simpa using hsd
          have Hsd := Lib.hid hsd
          clear hsd
          by_cases hlb : gi s.2 y.src < lbeg y (gi s.2 y.dst) size
          · skip
            have hq := quiet_near hN
            refine wp_region_quiet_below (by kernel_rfl) (by kernel_rfl) ?_
            repeat (first | go_big_quiet_skip | (go_big_quiet_want; go_big_quiet_op; first | go_big_quiet_on | (apply Exists.intro; refine ⟨fun _ => ?_, ?_⟩; (focus (first | (go_at_call 89; exact Calls.regrown_of (lbegin_any y (gi s.2 y.dst) size _ hyc.1 hsz ⟨by omega, by omega⟩)))); go_big_quiet_on)))
            refine wpQuiet_nil ?_
            intro w1 hw1
            clear hq
            replace hw1 := quiet_ext hw1
            replace hN := hN.step hw1
            have hC := hN.2
            go_wp2_with fail
            refine (lset_any w1 base g n c bo s.2 y.src _ (hoW.ext hN.1) (hu2.ext hN.1) hs0 (by have := Hlen.out; omega) hn).mono ?_
            rintro e w2 ⟨⟨r, rfl⟩, rfl⟩
            go_wp2
            go_roundg (gk - 1)
            case measure => omega
            case rel =>
              have e1 : lstep dest size s y = (true, s.2.set y.src.toNat (lbeg y (gi s.2 y.dst) size)) := by unfold lstep; rw [if_pos ⟨Hsd.out, hlb⟩]
              refine ⟨j + 1, by omega, by go_num, ?_, ?_, grown_setCell (grown_ext hE hN.1) _ _⟩
              · rw [Hst.out, e1]
              · rw [Hst.out, e1]; exact (hu2.ext hN.1).seti (by have := Hlen.out; omega) _
          · skip
            have hq := quiet_near hN
            refine wp_region_quiet_below (by kernel_rfl) (by kernel_rfl) ?_
            repeat (first | go_big_quiet_skip | (go_big_quiet_want; go_big_quiet_op; first | go_big_quiet_on | (apply Exists.intro; refine ⟨fun _ => ?_, ?_⟩; (focus (first | (go_at_call 89; exact Calls.regrown_of (lbegin_any y (gi s.2 y.dst) size _ hyc.1 hsz ⟨by omega, by omega⟩)))); go_big_quiet_on)))
            refine wpQuiet_nil ?_
            intro w1 hw1
            clear hq
            replace hw1 := quiet_ext hw1
            replace hN := hN.step hw1
            have hC := hN.2
            go_wp2
            go_roundg (gk - 1)
            case measure => omega
            case rel =>
              have e1 : lstep dest size s y = s := by unfold lstep; rw [if_neg (fun h => absurd h.2 (by omega))]
              refine ⟨j + 1, by omega, by go_num, ?_, ?_, grown_ext hE hN.1⟩
              · rw [Hst.out, e1]
              · rw [Hst.out, e1]; exact hu2.ext hN.1
      · have htk : p.cons.take j = p.cons := List.take_of_length_le (by omega)
        rw [htk] at hu
        rw [htk]
        clear htk
        have hp := lpass_inv hsz hd hcons hinv
        change Owns EInt wr base _ _ (lpass dest size p.cons m).2 at hu
        change Code.wp _ _ _ _ _ at *
        have hiW := hxi.keptg hN N5.out
        have hci := hiW.cell
        have hli := hiW.lt
        show Code.wp _ _ _ _ _
        cases hch : (lpass dest size p.cons m).1
        · have hch2 : (List.foldl (lstep dest size) (false, m) p.cons).1 = false := hch
          rw [hch2]
          go_wp2
          go_end0
          have e1 := liter_stop k hch
          have e2 := hp.2.2 hch
          rw [e1]
          rw [e2] at hu
          exact ⟨⟨_, rfl⟩, hu, hN⟩
        · have hch2 : (List.foldl (lstep dest size) (false, m) p.cons).1 = true := hch
          rw [hch2]
          have hlt2 := hp.2.1 hch
          have hk1 : k ≠ 0 := by have := Hmu.out; omega
          have ih2 := ih (k - 1) (by omega) (lpass dest size p.cons m).2 wr hp.1 (by have := Hmu.out; omega) hN hu
          have e1 : Hid (liter dest size p.cons k m = liter dest size p.cons (k - 1) (lpass dest size p.cons m).2) := Lib.hid (by
            obtain ⟨k', rfl⟩ : ∃ k', k = k' + 1 := ⟨k - 1, by omega⟩
            simp only [liter, hch, if_true, Nat.add_sub_cancel])
          clear hch hch2 hk1 hlt2 hp
          go_wp2_with fail
          refine ih2.mono ?_
          rintro e w2 ⟨⟨r, rfl⟩, hu3, hg3⟩
          go_wp2
          go_end0
          rw [e1.out]
          exact ⟨⟨_, rfl⟩, hu3, hg3⟩

end Go.Proofs.YtifopbkhflpbfaaGreat

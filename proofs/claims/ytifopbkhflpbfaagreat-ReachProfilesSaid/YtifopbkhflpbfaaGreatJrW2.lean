
/- Layer 24 (journey): the reference's round, start, arrivals. -/
import Derived.Test.YtifopbkhflpbfaaGreatJrW1
import Derived.Laws.IdiomCopy
import Derived.Deep.AppendLies
import Derived.Deep.RegionLaw
import Derived.Deep.CutRange
namespace Go.Proofs.YtifopbkhflpbfaaGreat
set_option linter.unusedVariables false
open Go.RowKit Go.Shelf

theorem info_int : (Tryz.prog.info? 3).map (fun i => (i.zero, i.size, i.bytes)) = some (some (.int .i64 0), 1, 8) := by kernel_rfl
theorem Owns.some_ {α : Type} {E : Elt α} {w : World} {base : Nat} {e : TypeId} {A : Option Addr} {n c : Nat} {l : List α} (h : Owns E w base e (.slice A n c) l) (hl : 0 < l.length) : ∃ b, A = some ⟨b, 0, none⟩ ∧ base ≤ b := by
  have hn := h.len
  rcases h.2 with ⟨e1, e2⟩ | ⟨g, cap, cur, e1, _⟩
  · injection e1 with e1 e3
    omega
  · injection e1 with e1
    subst e1
    exact ⟨g, rfl, (h.block (g := g) rfl).1⟩

theorem rstep_len (n : Int) (m out : List Int) (c : Con) : (rstep n m out c).length = out.length := by
  unfold rstep
  split
  · exact relax_len _ _ _
  · rfl
theorem rfold_len (n : Int) (m : List Int) : ∀ (l : List Con) (out : List Int), (l.foldl (rstep n m) out).length = out.length
  | [], _ => rfl
  | c :: l, out => by rw [List.foldl_cons, rfold_len n m l, rstep_len]
theorem rfold_snoc {n : Int} {m out : List Int} {cons : List Con} {k : Nat} {y : Con} (h : k < cons.length) (hy : cons[k] = y) : (cons.take (k + 1)).foldl (rstep n m) out = rstep n m ((cons.take k).foldl (rstep n m) out) y := by
  rw [take_snoc h hy, List.foldl_append]; rfl
/-- Behind the statement 'h, ok := hop(..)'. -/
def HopR (w : World) (i : Nat) (c : Con) (t n : Int) (h ok : Value) (w' : World) : Prop :=
  ∃ B, h = .pointer (some ⟨B, 0, none⟩) ∧ w.heap.size ≤ B ∧ ok = .bool (decide (earr c t n ≠ -1)) ∧ Blk w' B 95 (hopR i c t n).cells.toArray ∧ Ext w w'

theorem hop_cells {i : Nat} {c : Con} {t n : Int} (he : earr c t n ≠ -1) : (hopR i c t n).cells.toArray = #[.int .i64 i, .int .i64 (c.beg t), .int .i64 (c.beg t + c.dur n), .int .i64 (earr c t n)] := by
  have h := hopAt_arr (i := i) he
  unfold hopR
  rw [if_neg he]
  rw [← h]
  rfl
theorem HopR.yes {w w' : World} {i : Nat} {c : Con} {t n : Int} {h ok : Value} (he : earr c t n ≠ -1) (hr : HopR w i c t n h ok w') :
    ∃ B, h = .pointer (some ⟨B, 0, none⟩) ∧ w.heap.size ≤ B ∧ ok = .bool true ∧ Blk w' B 95 #[.int .i64 i, .int .i64 (c.beg t), .int .i64 (c.beg t + c.dur n), .int .i64 (earr c t n)] ∧ Ext w w' := by
  obtain ⟨B, h1, h2, h3, h4, h5⟩ := hr
  rw [hop_cells he] at h4
  exact ⟨B, h1, h2, by rw [h3]; simp [he], h4, h5⟩
theorem HopR.no {w w' : World} {i : Nat} {c : Con} {t n : Int} {h ok : Value} (he : earr c t n = -1) (hr : HopR w i c t n h ok w') :
    ∃ B, h = .pointer (some ⟨B, 0, none⟩) ∧ ok = .bool false ∧ Ext w w' := by
  obtain ⟨B, h1, h2, h3, h4, h5⟩ := hr
  exact ⟨B, h1, by rw [h3]; simp [he], h5⟩

set_option maxRecDepth 100000 in
set_option maxHeartbeats 4000000 in
theorem rround_any (Aq : Option Addr) (cq : Nat) (Ac : Option Addr) (cc : Nat) (p : Pln) (n : Int) (Am : Option Addr) (cm : Nat) (m : List Int) (w : World) (h : PlnRd w Aq cq Ac cc p) (hok : p.Ok) (hn : 1 ≤ n ∧ n ≤ 65536) (hm : Rd EInt w Am m) (hml : m.length = p.quo.length) :
    Calls Tryz.prog 73 #[p.val Aq cq Ac cc, .int .i64 n, .slice Am m.length cm] w fun e w' => ∃ v, e = .returned v ∧ Owns EInt w' w.heap.size 3 v (rnd p.cons n m) ∧ Ext w w' := by
  obtain ⟨i0, hi0, hz0, hz1, hz2⟩ := info_parts info_int
  obtain ⟨W1, hW1, hB1, hk1, hl1⟩ := box1 w #[.slice Aq p.quo.length cq, .slice Ac p.cons.length cc] 25
  obtain ⟨W2, hW2, hB2, hkx2, hl2⟩ := box1 W1 #[] 3
  have hn1 := hok.n1
  have hn16 := hok.n16
  have hm64 := hok.m64
  have hown0 := Owns.made (E := EInt) W1 W1.heap.size 3 (by omega)
  rw [hW2] at hown0
  have hA2 := (hm.ext hB1).ext hB2
  have hA0 := h.c
  have hc1 := hk1.cell
  have Hml := Lib.hid hml
  have hm16 : m.length ≤ 16 := by omega
  have hm1 : 1 ≤ m.length := by omega
  obtain ⟨Bm, om, rfl, hbm, hcx⟩ := hm.int (k := 0) (by omega)
  clear hcx hml
  unfold Pln.val
  go_enter Tryz.func73, Tryz.ntmps73
  go_wp2_with (at_builtin; refine wpList_cat rfl (.tmp 12) (.tmp 13) _ (by rfl) W1.heap.size 3 i0 _ 8 Tryz.underlying22 hi0 hz0 hz1 hz2 (by rfl) (.slice (some ⟨W1.heap.size, 0, none⟩) 0 0) (by rfl) hown0 cm _ (by rfl) (by rfl) hA2 (by simp [maxLen]; omega) (by simp; omega) (by omega) ?_; intro v6 w6 hv6 hg6 hat6; have hx6 := ext_grown hB2 hown0 (Nat.le_refl _) hg6; have hk6 := (hk1.ext hx6); have hc6 := hk6.cell; have hl6 := hk6.lt; obtain ⟨A6, d6, rfl, hR6⟩ := hv6.form; obtain ⟨g6, rfl, hg6b⟩ := hv6.some_ (by simp; omega))
  clear hW1 hW2
  have hE6 := hB1.trans hx6
  have hm6 := hm.ext hE6
  simp only [List.nil_append] at hv6 ⊢
  go_loopg [8] p.cons.length (fun q i wr => ∃ j : Nat, j + q = p.cons.length ∧ i = .int .i64 j ∧ Owns EInt wr W1.heap.size 3 (.slice (some ⟨g6, 0, none⟩) m.length d6) ((p.cons.take j).foldl (rstep n m) m) ∧ w6.grownBy wr (some g6))
  case atStart => exact ⟨0, by omega, rfl, hv6, World.grownBy.refl _ _⟩
  case round =>
    obtain ⟨j, hjq, rfl, hu, hN⟩ := hrel
    have hE := ext_of_grown hE6 hN (by omega)
    have hE1 := ext_of_grown hx6 hN (by omega)
    have hkr := hk1.ext hE1
    have hcr := hkr.cell
    have hlr := hkr.lt
    have Hjq := Lib.hid hjq
    have hjl : j ≤ p.cons.length := by omega
    clear hjq
    by_cases hlt : j < p.cons.length
    · obtain ⟨b, o, rfl, hb, c0, c1, c2, c3, c4, c5, c6⟩ := (hA0.ext hE).con hlt
      have hst := rfold_snoc (n := n) (m := m) (out := m) hlt rfl
      have hyc := hok.con _ (List.getElem_mem hlt)
      have hfl := rfold_len n m (p.cons.take j) m
      generalize hye : p.cons[j] = y at *
      generalize hs : (p.cons.take j).foldl (rstep n m) m = s at *
      have Hst := Lib.hid hst
      have Hy := Lib.hid hye
      have Hs := Lib.hid hs
      clear hst hye hs
      have hs0 := hyc.1.src0
      have hs1 := hyc.2.1
      have hd0 := hyc.1.dst0
      have hd1 := hyc.2.2
      have hml := Hml.out
      have hsl : y.src.toNat < m.length := by omega
      have hdl : y.dst.toNat < s.length := by omega
      have hsl2 : y.src < m.length := by omega
      have hdl2 : y.dst < m.length := by omega
      obtain ⟨W3, hW3, hB3, hk3, hl3⟩ := box1 wr y.cells 42
      simp only [Con.cells] at hW3 hk3
      have hck := hk3.cell
      have hcm := ((hm.ext hE).ext hB3).gi (i := y.src) hsl
      obtain ⟨hcm1, hcm2⟩ := hcm
      have hN3 := grown_ext hN hB3
      have hu3 := hu.ext hB3
      have hfl2 := Lib.hid hfl
      clear hml hfl
      by_cases h0 : gi m y.src < 0
      · go_wp2
        go_roundg (gk - 1)
        case measure => have := Hjq.out; omega
        case rel =>
          refine ⟨j + 1, by have := Hjq.out; omega, by go_num, ?_, hN3⟩
          have e1 : rstep n m s y = s := by unfold rstep; rw [if_neg (by omega)]
          rw [Hst.out, e1]; exact hu3
      · have h0' : 0 ≤ gi m y.src := by omega
        have hho := fun w h => rhop_any Aq cq (some ⟨b, o, none⟩) cc p j y (gi m y.src) n w h hlt Hy.out hyc.1 hn h0'
        unfold Pln.val hopV Hp.val at hho
        obtain ⟨hh, hhe⟩ : ∃ hh, hopR j y (gi m y.src) n = hh := ⟨_, rfl⟩
        obtain ⟨kk, hke⟩ : ∃ kk, decide (earr y (gi m y.src) n ≠ -1) = kk := ⟨_, rfl⟩
        rw [hhe, hke] at hho
        have Hhe := Lib.hid hhe
        have Hke := Lib.hid hke
        clear hhe hke
        have hr3 : PlnRd W3 Aq cq (some ⟨b, o, none⟩) cc p := (h.ext hE).ext hB3
        have hlk3 := hk3.lt
        go_wp2_with fail
        clear hW3 c0 c1 c2 c3 c4 c5 c6
        have hcp3 := (hkr.ext hB3).cell
        have hlp3 := (hkr.ext hB3).lt
        go_cut [10, 11] from 15 to 69 (fun x ok wx => HopR W3 j y (gi m y.src) n x ok wx)
        case first =>
          clear hcr
          go_region_law (first
            | (go_simp; go_at_call 87; refine (hho _ (hr3.ext (((Ext.refl _).alloc _).drew))).mono ?_; rintro e w4 ⟨rfl, hb4⟩; have hx4 : Ext W3 w4 := ((Ext.refl _).alloc _).drew.trans hb4; have hz4 : Blk w4 W3.heap.size 95 #[.int .i64 0, .int .i64 0, .int .i64 0, .int .i64 0] := (Blk.new W3 _ _).ext ((Ext.refl _).drew.trans hb4); have hzc := hz4.cell; have hzf := hz4.frozen; have hzl := hz4.lt)
            | (go_simp; go_at_call 87; refine (hho _ (hr3.ext ((Ext.refl _).drew))).mono ?_; rintro e w4 ⟨rfl, hb4⟩; have hx4 : Ext W3 w4 := (Ext.refl _).drew.trans hb4))
          all_goals
            go_wp2_with fail
            go_meet
            first
              | exact ⟨W3.heap.size, rfl, Nat.le_refl _, by rw [Hke.out], by rw [Hhe.out]; exact hz4.setCells_ hh.cells 0, ext_setCells hx4 (Nat.le_refl _) 0 hh.cells⟩
              | exact ⟨w4.heap.size, rfl, hx4.size, by rw [Hke.out], by rw [Hhe.out]; exact Blk.new _ _ _, hx4.alloc _⟩
        case rest =>
          clear hcr hcp3 hck hho Hhe Hke
          by_cases he : earr y (gi m y.src) n = -1
          · obtain ⟨B, rfl, rfl, hx4⟩ := hcut.no he
            have e1 : rstep n m s y = s := by unfold rstep; rw [if_pos h0']; unfold relax; rw [if_neg (fun h => h.1 he)]
            clear he
            have hN := Near.refl wc
            go_wp2_with fail
            have hq := quiet_near hN
            refine wp_region_quiet_below (by kernel_rfl) (by kernel_rfl) ?_
            repeat (first | go_big_quiet_skip | (go_big_quiet_want; go_big_quiet_op; first | go_big_quiet_on | (apply Exists.intro; refine ⟨fun _ => ?_, ?_⟩; (focus (first | fail)); go_big_quiet_on)))
            refine wpQuiet_nil ?_
            intro w1 hw1
            clear hq
            replace hw1 := quiet_ext hw1
            replace hN := hN.step hw1
            have hC := hN.2
            go_wp2
            go_roundg (gk - 1)
            case measure => have := Hjq.out; omega
            case rel => exact ⟨j + 1, by have := Hjq.out; omega, by go_num, by rw [Hst.out, e1]; exact (hu3.ext hx4).ext hN.1, grown_ext (grown_ext hN3 hx4) hN.1⟩
          · obtain ⟨B, rfl, hBl, rfl, hkh, hx4⟩ := hcut.yes he
            have hc4 := hkh.cell
            have hk4 := hk3.ext hx4
            have hck4 := hk4.cell
            have hu4 := hu3.ext hx4
            have hgd := hu4.gi (i := y.dst) hdl
            obtain ⟨hgl4, hgf4⟩ := hu4.free
            have hlh := hkh.lt
            have hlk := hk4.lt
            have Hhe := Lib.hid he
            have hN := Near.refl wc
            by_cases hd0 : gi s y.dst < 0
            · have hd1 : decide (gi s y.dst < 0) = true := by simpa using hd0
              have e1 : rstep n m s y = s.set y.dst.toNat (earr y (gi m y.src) n) := by unfold rstep; rw [if_pos h0']; unfold relax; rw [if_pos ⟨he, .inl hd0⟩]
              clear he
              go_wp2_with fail
              have hq := quiet_near hN
              refine wp_region_quiet_below (by kernel_rfl) (by kernel_rfl) ?_
              repeat (first | go_big_quiet_skip | (go_big_quiet_want; go_big_quiet_op; first | go_big_quiet_on | (apply Exists.intro; refine ⟨fun _ => ?_, ?_⟩; (focus (first | fail)); go_big_quiet_on)))
              refine wpQuiet_nil ?_
              intro w1 hw1
              clear hq
              replace hw1 := quiet_ext hw1
              replace hN := hN.step hw1
              have hC := hN.2
              have hu5 := hu4.ext hN.1
              obtain ⟨hgl5, hgf5⟩ := hu5.free
              go_wp2
              go_roundg (gk - 1)
              case measure => have := Hjq.out; omega
              case rel => exact ⟨j + 1, by have := Hjq.out; omega, by go_num, by rw [Hst.out, e1]; exact hu5.seti hdl _, grown_setCell (grown_ext (grown_ext hN3 hx4) hN.1) _ _⟩
            · have hd1 : decide (gi s y.dst < 0) = false := by simpa using hd0
              by_cases hlt2 : earr y (gi m y.src) n < gi s y.dst
              · have e1 : rstep n m s y = s.set y.dst.toNat (earr y (gi m y.src) n) := by unfold rstep; rw [if_pos h0']; unfold relax; rw [if_pos ⟨he, .inr hlt2⟩]
                clear he
                go_wp2_with fail
                have hq := quiet_near hN
                refine wp_region_quiet_below (by kernel_rfl) (by kernel_rfl) ?_
                repeat (first | go_big_quiet_skip | (go_big_quiet_want; go_big_quiet_op; first | go_big_quiet_on | (apply Exists.intro; refine ⟨fun _ => ?_, ?_⟩; (focus (first | fail)); go_big_quiet_on)))
                refine wpQuiet_nil ?_
                intro w1 hw1
                clear hq
                replace hw1 := quiet_ext hw1
                replace hN := hN.step hw1
                have hC := hN.2
                have hu5 := hu4.ext hN.1
                obtain ⟨hgl5, hgf5⟩ := hu5.free
                go_wp2
                go_roundg (gk - 1)
                case measure => have := Hjq.out; omega
                case rel => exact ⟨j + 1, by have := Hjq.out; omega, by go_num, by rw [Hst.out, e1]; exact hu5.seti hdl _, grown_setCell (grown_ext (grown_ext hN3 hx4) hN.1) _ _⟩
              · have hlt3 : decide (earr y (gi m y.src) n < gi s y.dst) = false := by simpa using hlt2
                have e1 : rstep n m s y = s := by unfold rstep; rw [if_pos h0']; unfold relax; rw [if_neg (fun h => by rcases h.2 with h | h <;> omega)]
                clear he hlt2
                go_wp2_with fail
                have hq := quiet_near hN
                refine wp_region_quiet_below (by kernel_rfl) (by kernel_rfl) ?_
                repeat (first | go_big_quiet_skip | (go_big_quiet_want; go_big_quiet_op; first | go_big_quiet_on | (apply Exists.intro; refine ⟨fun _ => ?_, ?_⟩; (focus (first | fail)); go_big_quiet_on)))
                refine wpQuiet_nil ?_
                intro w1 hw1
                clear hq
                replace hw1 := quiet_ext hw1
                replace hN := hN.step hw1
                have hC := hN.2
                go_wp2
                go_roundg (gk - 1)
                case measure => have := Hjq.out; omega
                case rel => exact ⟨j + 1, by have := Hjq.out; omega, by go_num, by rw [Hst.out, e1]; exact hu4.ext hN.1, grown_ext (grown_ext hN3 hx4) hN.1⟩
    · have htk : p.cons.take j = p.cons := List.take_of_length_le (by omega)
      rw [htk] at hu
      clear htk
      go_wp2
      go_ret
      exact ⟨_, rfl, hu.mono (by omega), hE⟩

end Go.Proofs.YtifopbkhflpbfaaGreat

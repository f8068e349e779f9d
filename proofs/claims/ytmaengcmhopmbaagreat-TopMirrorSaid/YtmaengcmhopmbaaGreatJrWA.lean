
/- Layer 24 (journey): the walks of hop (the program's and the reference's). · Layer 24 (journey): the reference's round, start, arrivals. -/
import Derived.Test.YtmaengcmhopmbaaGreatPlnA
import Derived.Test.YtmaengcmhopmbaaGreatPlnW
import Derived.Laws.ResultCell
import Derived.Laws.IdiomCopy
import Derived.Deep.AppendLies
import Derived.Deep.RegionLaw
import Derived.Deep.CutRange
namespace Go.Proofs.YtmaengcmhopmbaaGreat
set_option linter.unusedVariables false
open Go.RowKit Go.Shelf

theorem begin_ok {c : Con} {t n : Int} (h : c.Ok) (hn : 1 ≤ n ∧ n ≤ 65536) (he : earr c t n ≠ -1) : c.beginE t n = 0 ∧ c.beginT t n = c.beg t ∧ c.atE (c.beg t) n = 0 ∧ c.arrT (c.beg t) n = earr c t n := by
  have ha : c.arg n = 0 := Con.arg_ok.2 ⟨h, hn⟩
  rcases earr_cases (t := t) h hn with g | ⟨g1, g2, g3, g4, g5, g6⟩
  · exact absurd g.1 he
  · have e : c.atE (c.beg t) n = 0 := by unfold Con.atE; rw [if_pos ha, g1]; rfl
    refine ⟨by unfold Con.beginE; exact e, by unfold Con.beginT; rw [if_pos e], e, ?_⟩
    unfold Con.arrT Con.aftT
    rw [if_pos e, g3]; omega
theorem begin_no {c : Con} {t n : Int} (h : c.Ok) (hn : 1 ≤ n ∧ n ≤ 65536) (he : earr c t n = -1) : c.beginE t n = 16 ∧ c.beginT t n = 0 := by
  have ha : c.arg n = 0 := Con.arg_ok.2 ⟨h, hn⟩
  rcases earr_cases (t := t) h hn with g | ⟨g1, g2, g3, g4, g5, g6⟩
  · have e : c.atE (c.beg t) n = 16 := by unfold Con.atE; rw [if_pos ha, g.2]; rfl
    refine ⟨by unfold Con.beginE; exact e, by unfold Con.beginT; rw [if_neg (by omega)]⟩
  · omega
def hopV (i : Nat) (c : Con) (t n : Int) : Value := .tuple #[(hopR i c t n).val, .bool (decide (earr c t n ≠ -1))]

set_option maxRecDepth 100000 in
set_option maxHeartbeats 4000000 in
theorem hop_any (Aq : Option Addr) (cq : Nat) (Ac : Option Addr) (cc : Nat) (p : Pln) (i : Nat) (c : Con) (t n : Int) (w : World) (h : PlnRd w Aq cq Ac cc p) (hi : i < p.cons.length) (hci : p.cons[i] = c) (hok : c.Ok) (hn : 1 ≤ n ∧ n ≤ 65536) (ht : 0 ≤ t) :
    Calls Tryz.prog 46 #[p.val Aq cq Ac cc, .int .i64 i, .int .i64 t, .int .i64 n] w fun e w' => e = .returned (hopV i c t n) ∧ Ext w w' := by
  obtain ⟨W1, hW1, hB1, hk1, hl1⟩ := box1 w #[.slice Aq p.quo.length cq, .slice Ac p.cons.length cc] 25
  obtain ⟨W2, hW2, hB2, hk2, hl2⟩ := box1 W1 #[.int .i64 0, .int .i64 0, .int .i64 0, .int .i64 0] 40
  obtain ⟨W3, hW3, hB3, hk3, hl3⟩ := box1 W2 c.cells 61
  simp only [Con.cells] at hW3 hk3
  obtain ⟨b, o, rfl, hb, c0, c1, c2, c3, c4, c5, c6⟩ := ((h.c.ext hB1).ext hB2).con hi
  rw [hci] at c0 c1 c2 c3 c4 c5 c6
  have hE3 := (hB1.trans hB2).trans hB3
  have hm := h.cm
  have hcp := (hk1.ext hB2).cell
  have hck := hk3.cell
  have HV : Hid (hopV i c t n = hopV i c t n) := Lib.hid rfl
  have Hci := Lib.hid hci
  clear hci
  by_cases he : earr c t n = -1
  · have hbn := begin_no hok hn he
    have hbg := fun w => Begin_any c t n w
    simp only [hbn.1, hbn.2] at hbg
    have HR := Lib.hid (show hopV i c t n = .tuple #[.agg #[.int .i64 0, .int .i64 0, .int .i64 0, .int .i64 0], .bool false] by simp [hopV, hopR, he, Hp.val])
    clear he hbn
    unfold Pln.val
    unfold Con.val at hbg
    go_enter Tryz.func46, Tryz.ntmps46
    go_wp2_with fail
    clear hW1 hW2 hW3 c0 c1 c2 c3 c4 c5 c6 hcp
    refine (hbg _).mono ?_
    rintro e w4 ⟨rfl, hb4⟩
    have hk4 := (hk2.ext hB3).ext hb4
    have hc4 := hk4.cell
    have hf4 := hk4.frozen
    have hl4 := hk4.lt
    go_wp2
    obtain ⟨w7, hw7, hz7, hE7⟩ : ∃ w7, w4.setCells W1.heap.size 0 [.int .i64 0, .int .i64 0, .int .i64 0, .int .i64 0] = w7 ∧ Blk w7 W1.heap.size 40 #[.int .i64 0, .int .i64 0, .int .i64 0, .int .i64 0] ∧ Ext w w7 :=
      ⟨_, rfl, hk4.setCells_ [.int .i64 0, .int .i64 0, .int .i64 0, .int .i64 0] 0, ext_setCells (hE3.trans hb4) (by omega) 0 _⟩
    simp only [World.setCells, Nat.zero_add, Nat.reduceAdd] at hw7
    rw [hw7]
    have hc7 := hz7.cell
    refine bodyPost_ret (v := .tuple #[.agg #[.int .i64 0, .int .i64 0, .int .i64 0, .int .i64 0], .bool false]) (by rw [results_cell_tmp rfl]; simp [asAddr, Result.andThen, hc7, go_sem]) rfl ?_
    exact ⟨by rw [HR.out], hE7⟩
  · have hbn := begin_ok hok hn he
    have hcs := earr_cases (t := t) hok hn
    have hbg := fun w => Begin_any c t n w
    simp only [hbn.1, hbn.2.1] at hbg
    have hDu : ∀ w, Calls Tryz.prog 23 #[c.val, .int .i64 n] w fun e w' => e = .returned (.tuple #[.int .i64 (c.dur n), .int .i64 0]) ∧ Ext w w' := fun w => by
      have h9 := Duration_any c n w
      have h8 : c.arg n = 0 := Con.arg_ok.2 ⟨hok, hn⟩
      rw [Con.durR, if_pos h8, h8] at h9
      exact h9
    have HR := Lib.hid (show hopV i c t n = .tuple #[.agg #[.int .i64 i, .int .i64 (c.beg t), .int .i64 (c.beg t + c.dur n), .int .i64 (c.beg t + c.dur n + c.rng)], .bool true] by simp [hopV, hopR, he, Hp.val, hopAt])
    obtain ⟨g1, g2, g3, g4, g5, g6⟩ := hcs.resolve_left (fun h => he h.1)
    have dbd := Con.dur_bd hok hn.1 hn.2
    have hrg0 := hok.rng0
    have hrg1 := hok.rng1
    have hst0 := hok.st0
    have hbt := beg_ge c t
    have hs1 : 0 ≤ c.beg t + c.dur n := by omega
    have hs2 : c.beg t + c.dur n ≤ 1099511627776 := by omega
    have hs3 : c.beg t + c.dur n + c.rng ≤ 1099511627776 := by omega
    have hs4 : 0 ≤ c.beg t := by omega
    clear he hbn hcs g1 g2 g3 g4 g5 g6
    unfold Pln.val
    unfold Con.val at hbg hDu
    go_enter Tryz.func46, Tryz.ntmps46
    go_wp2_with fail
    clear hW1 hW2 hW3 c0 c1 c2 c3 c4 c5 c6 hcp
    refine (hbg _).mono ?_
    rintro e w4 ⟨rfl, hb4⟩
    have hkc4 := hk3.ext hb4
    replace hck := hkc4.cell
    go_wp2_with fail
    refine (hDu _).mono ?_
    rintro e w5 ⟨rfl, hb5⟩
    have hb6 := hb4.trans hb5
    have hkc5 := hkc4.ext hb5
    replace hck := hkc5.cell
    have hk4 := (hk2.ext hB3).ext hb6
    have hc4 := hk4.cell
    have hf4 := hk4.frozen
    have hl4 := hk4.lt
    go_wp2
    obtain ⟨w7, hw7, hz7, hE7⟩ : ∃ w7, w5.setCells W1.heap.size 0 [.int .i64 i, .int .i64 (c.beg t), .int .i64 (c.beg t + c.dur n), .int .i64 (c.beg t + c.dur n + c.rng)] = w7 ∧ Blk w7 W1.heap.size 40 #[.int .i64 i, .int .i64 (c.beg t), .int .i64 (c.beg t + c.dur n), .int .i64 (c.beg t + c.dur n + c.rng)] ∧ Ext w w7 :=
      ⟨_, rfl, hk4.setCells_ [.int .i64 i, .int .i64 (c.beg t), .int .i64 (c.beg t + c.dur n), .int .i64 (c.beg t + c.dur n + c.rng)] 0, ext_setCells (hE3.trans hb6) (by omega) 0 _⟩
    simp only [World.setCells, Nat.zero_add, Nat.reduceAdd] at hw7
    rw [hw7]
    have hc7 := hz7.cell
    refine bodyPost_ret (v := .tuple #[.agg #[.int .i64 i, .int .i64 (c.beg t), .int .i64 (c.beg t + c.dur n), .int .i64 (c.beg t + c.dur n + c.rng)], .bool true]) (by rw [results_cell_tmp rfl]; simp [asAddr, Result.andThen, hc7, go_sem]) rfl ?_
    exact ⟨by rw [HR.out], hE7⟩

end Go.Proofs.YtmaengcmhopmbaaGreat

namespace Go.Proofs.YtmaengcmhopmbaaGreat
set_option linter.unusedVariables false
open Go.RowKit Go.Shelf

theorem info_int : (Tryz.prog.info? 3).map (fun i => (i.zero, i.size, i.bytes)) = some (some (.int .i64 0), 1, 8) := by kernel_rfl
theorem Owns.some_ {α : Type} {E : Elt α} {w : World} {base : Nat} {e : TypeId} {A : Option Addr} {n c : Nat} {l : List α} (h : Owns E w base e (.slice A n c) l) (hl : 0 < l.length) : ∃ b, A = some ⟨b, 0, none⟩ ∧ base ≤ b := by
  have hn := h.len
  rcases h.2 with ⟨e1, e2⟩ | ⟨g, cap, cur, e1, _⟩
  · injection e1 with e1 e3
    omega
  · injection e1 with e1
    subst e1
    exact ⟨g, rfl, (h.block (g := g) rfl).1⟩

theorem rstep_len (n : Int) (m out : List Int) (c : Con) : (rstep n m out c).length = out.length := by
  unfold rstep
  split
  · exact relax_len _ _ _
  · rfl
theorem rfold_len (n : Int) (m : List Int) : ∀ (l : List Con) (out : List Int), (l.foldl (rstep n m) out).length = out.length
  | [], _ => rfl
  | c :: l, out => by rw [List.foldl_cons, rfold_len n m l, rstep_len]
theorem rfold_snoc {n : Int} {m out : List Int} {cons : List Con} {k : Nat} {y : Con} (h : k < cons.length) (hy : cons[k] = y) : (cons.take (k + 1)).foldl (rstep n m) out = rstep n m ((cons.take k).foldl (rstep n m) out) y := by
  rw [take_snoc h hy, List.foldl_append]; rfl
/-- Behind the statement 'h, ok := hop(..)'. -/
def HopR (w : World) (i : Nat) (c : Con) (t n : Int) (h ok : Value) (w' : World) : Prop :=
  ∃ B, h = .pointer (some ⟨B, 0, none⟩) ∧ w.heap.size ≤ B ∧ ok = .bool (decide (earr c t n ≠ -1)) ∧ Blk w' B 40 (hopR i c t n).cells.toArray ∧ Ext w w'

theorem hop_cells {i : Nat} {c : Con} {t n : Int} (he : earr c t n ≠ -1) : (hopR i c t n).cells.toArray = #[.int .i64 i, .int .i64 (c.beg t), .int .i64 (c.beg t + c.dur n), .int .i64 (earr c t n)] := by
  have h := hopAt_arr (i := i) he
  unfold hopR
  rw [if_neg he]
  rw [← h]
  rfl
theorem HopR.yes {w w' : World} {i : Nat} {c : Con} {t n : Int} {h ok : Value} (he : earr c t n ≠ -1) (hr : HopR w i c t n h ok w') :
    ∃ B, h = .pointer (some ⟨B, 0, none⟩) ∧ w.heap.size ≤ B ∧ ok = .bool true ∧ Blk w' B 40 #[.int .i64 i, .int .i64 (c.beg t), .int .i64 (c.beg t + c.dur n), .int .i64 (earr c t n)] ∧ Ext w w' := by
  obtain ⟨B, h1, h2, h3, h4, h5⟩ := hr
  rw [hop_cells he] at h4
  exact ⟨B, h1, h2, by rw [h3]; simp [he], h4, h5⟩
theorem HopR.no {w w' : World} {i : Nat} {c : Con} {t n : Int} {h ok : Value} (he : earr c t n = -1) (hr : HopR w i c t n h ok w') :
    ∃ B, h = .pointer (some ⟨B, 0, none⟩) ∧ ok = .bool false ∧ Ext w w' := by
  obtain ⟨B, h1, h2, h3, h4, h5⟩ := hr
  exact ⟨B, h1, by rw [h3]; simp [he], h5⟩

end Go.Proofs.YtmaengcmhopmbaaGreat


/- Layer 25 (latest): the walks of both functions times. -/
import Derived.Test.YtifopbkhflpbfaaLatW2
import Derived.Laws.EntriesVeiled
namespace Go.Proofs.Ytifopbkhflpbfaa
set_option linter.unusedVariables false
open Go.RowKit Go.Shelf

theorem info_int : (Try.prog.info? 3).map (fun i => (i.zero, i.size, i.bytes)) = some (some (.int .i64 0), 1, 8) := by kernel_rfl

set_option maxRecDepth 100000 in
set_option maxHeartbeats 4000000 in
theorem ltimes_any (Aq : Option Addr) (cq : Nat) (Ac : Option Addr) (cc : Nat) (p : Pln) (dest D size : Int) (w : World) (h : PlnRd w Aq cq Ac cc p) (hok : p.Ok) (ha : p.argB dest D size = true) :
    Calls Try.prog 75 #[p.val Aq cq Ac cc, .int .i64 dest, .int .i64 D, .int .i64 size] w fun e w' => ∃ v, e = .returned v ∧ Owns EInt w' w.heap.size 3 v (p.times dest D size) ∧ Ext w w' := by
  have ⟨q1, q2, q3, q4⟩ := hok
  have ha' := ha
  simp only [Pln.argB, decide_eq_true_eq] at ha'
  obtain ⟨a1, a2, a3, a4, a5, a6⟩ := ha'
  obtain ⟨ii, hii, hiz, hi1, hi2⟩ := info_parts info_int
  have hmk := fun w => run_make1 (n := p.quo.length) Try.underlying22 hii hiz hi1 (by omega) rfl (by omega) w
  obtain ⟨W1, hW1, hB1, hk1, hl1⟩ := box1 w #[.slice Aq p.quo.length cq, .slice Ac p.cons.length cc] 25
  obtain ⟨W2, hW2, hB2, hk2, hl2⟩ := box1 W1 #[.int .i64 dest] 3
  obtain ⟨W3, hW3, hB3, hk3, hl3⟩ := box1 W2 #[.int .i64 size] 3
  obtain ⟨W4, hW4, hB4, hk4, hl4⟩ := box1 W3 (Array.replicate p.quo.length (.int .i64 0)) 3
  have hown := Owns.madeInts W3 w.heap.size 3 p.quo.length (by omega) (by unfold maxLen; omega) _ rfl
  rw [hW4] at hown
  obtain ⟨W5, hW5, hB5, hk5, hl5⟩ := box1 W4 #[.slice (some ⟨W3.heap.size, 0, none⟩) p.quo.length p.quo.length] 22
  have hc1 := ((hk1.ext hB2).ext hB3).cell
  have hc5 := hk5.cell
  unfold Pln.val
  go_enter Try.func75, Try.ntmps75
  go_wp2
  clear hmk hW1 hW2 hW3 hW4 hW5
  go_loopg [18] p.quo.length (fun q i wr => ∃ j : Nat, j + q = p.quo.length ∧ i = .int .i64 j ∧ Owns EInt wr w.heap.size 3 (.slice (some ⟨W3.heap.size, 0, none⟩) p.quo.length p.quo.length) (List.replicate j (-1) ++ List.replicate (p.quo.length - j) 0) ∧ W5.grownBy wr (some W3.heap.size))
  case atStart => exact ⟨0, by omega, rfl, hown.ext hB5, World.grownBy.refl _ _⟩
  case round =>
    obtain ⟨j, hjq, rfl, hu, hN⟩ := hrel
    have ho := hk5.keptg hN (by omega)
    have hco := ho.cell
    have hlo := ho.lt
    by_cases hlt : j < p.quo.length
    · have hlm : (List.replicate j (-1 : Int) ++ List.replicate (p.quo.length - j) 0).length = p.quo.length := by simp; omega
      have hgc := hu.gi (i := (j : Int)) (by omega)
      rw [Int.toNat_natCast] at hgc
      obtain ⟨hgl, hfz⟩ := hu.free
      have hset := hu.seti (k := j) (by omega) (-1)
      rw [fill_step _ _ _ _ hlt] at hset
      clear hlm
      go_wp2
      go_roundg (gk - 1)
      case measure => omega
      case rel => exact ⟨j + 1, by omega, by go_num, hset, grown_setCell hN _ _⟩
    · have hlist : List.replicate j (-1 : Int) ++ List.replicate (p.quo.length - j) 0 = List.replicate p.quo.length (-1) := by
        rw [show j = p.quo.length by omega, Nat.sub_self]; simp
      rw [hlist] at hu
      clear hlist
      have hd5 := ((((hk2.ext hB3).ext hB4).ext hB5)).keptg hN (by omega)
      have hcd := hd5.cell
      have hld := hd5.lt
      have hlm : (List.replicate p.quo.length (-1 : Int)).length = p.quo.length := by simp
      have hgc := hu.gi (i := dest) (by omega)
      obtain ⟨hgl, hfz⟩ := hu.free
      have hset := hu.seti (k := dest.toNat) (by omega) D
      change Owns EInt _ _ _ _ (lstart p.quo.length dest D) at hset
      clear hlm
      obtain ⟨V1, hV1⟩ : ∃ V1, wr.setCell ⟨W3.heap.size, dest.toNat, none⟩ (.int .i64 D) = V1 := ⟨_, rfl⟩
      have hN1 := grown_setCell hN dest.toNat (.int .i64 D)
      rw [hV1] at hset hN1
      have hz1 : wr.heap.size = V1.heap.size := by rw [← hV1]; simp [World.setCell]
      have Hz1 := Lib.hid hz1
      clear hz1
      go_wp2_with fail
      obtain ⟨W6, hW6, hB6, hk6, hl6⟩ := box1 V1 #[.func (.func 90) #[] #[.pointer (some ⟨w.heap.size, 0, none⟩), .pointer (some ⟨W4.heap.size, 0, none⟩), .pointer (some ⟨W2.heap.size, 0, none⟩), .pointer (some ⟨W1.heap.size, 0, none⟩), .pointer (some ⟨V1.heap.size, 0, none⟩)]] 125
      rw [hW6]
      clear hW6
      have hV5 : W5.heap.size ≤ V1.heap.size := hN1.size
      have hN6 := grown_ext hN1 hB6
      have hw5 : Ext w W5 := (((hB1.trans hB2).trans hB3).trans hB4).trans hB5
      have hw6 : Ext w W6 := ext_of_grown hw5 hN6 (by omega)
      have hctx : LCtx W6 w.heap.size W4.heap.size W2.heap.size W1.heap.size V1.heap.size W3.heap.size Aq cq Ac cc p p.quo.length p.quo.length size dest :=
        ⟨((((hk1.ext hB2).ext hB3).ext hB4).ext hB5).keptg hN6 (by omega), hk5.keptg hN6 (by omega), ((hk3.ext hB4).ext hB5).keptg hN6 (by omega), (((hk2.ext hB3).ext hB4).ext hB5).keptg hN6 (by omega), ⟨_, hk6⟩, by omega, by omega, by omega, by omega, by omega⟩
      have himp := improve_any w W6 w.heap.size w.heap.size W4.heap.size W2.heap.size W1.heap.size V1.heap.size W3.heap.size Aq cq Ac cc p p.quo.length p.quo.length size dest D hctx h.c hw6 (by omega) q4 ⟨a5, a6⟩ a1 a4 (by omega) (by omega)
        (mu D (lstart p.quo.length dest D)) (lstart p.quo.length dest D) W6 (lstart_inv ⟨a1, a2⟩ a3) (Nat.le_refl _) (World.grownBy.refl _ _) (hset.ext hB6)
      refine himp.mono ?_
      clear himp
      rintro e w2 ⟨⟨r, rfl⟩, hu3, hg3⟩
      have ho3 := hctx.out.keptg hg3 (by omega)
      have hc3 := ho3.cell
      go_wp2
      go_ret
      exact ⟨_, rfl, hu3, ext_of_grown hw6 hg3 (by omega)⟩

/-- Between the passes of the reference. -/
def LOut (p : Pln) (dest D size : Int) (q : Nat) (ch : Bool) (m : List Int) : Prop :=
  (ch = true ∧ ∃ k, q = k + 1 ∧ mu D m ≤ k ∧ p.times dest D size = liter dest size p.cons k m) ∨ (ch = false ∧ p.times dest D size = m)
theorem LOut.next {p : Pln} {dest D size : Int} {q : Nat} {m : List Int} (hsz : 1 ≤ size ∧ size ≤ 65536) (hd : 0 ≤ dest) (hc : Cons p.quo.length p.cons) (hi : LInv p.quo.length D dest m) (h : LOut p dest D size q true m) :
    ∃ q', q' < q ∧ LOut p dest D size q' (lpass dest size p.cons m).1 (lpass dest size p.cons m).2 := by
  have hp := lpass_inv hsz hd hc hi
  rcases h with ⟨_, k, rfl, hk, ht⟩ | ⟨h, _⟩
  · cases hch : (lpass dest size p.cons m).1
    · refine ⟨0, by omega, .inr ⟨rfl, ?_⟩⟩
      rw [ht, liter_stop k hch, hp.2.2 hch]
    · have hlt := hp.2.1 hch
      obtain ⟨k', rfl⟩ : ∃ k', k = k' + 1 := ⟨k - 1, by omega⟩
      refine ⟨k' + 1, by omega, .inl ⟨rfl, k', rfl, by omega, ?_⟩⟩
      rw [ht]; simp only [liter, hch, if_true]
  · cases h

end Go.Proofs.Ytifopbkhflpbfaa

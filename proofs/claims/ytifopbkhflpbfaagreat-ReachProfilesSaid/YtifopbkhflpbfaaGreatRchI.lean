
/- Layer 26 (reach): the iterator over the steps of a profile. -/
import Derived.Test.YtifopbkhflpbfaaGreatPlnA
import Derived.Test.YtifopbkhflpbfaaGreatJrW6
import Derived.Test.YtifopbkhflpbfaaGreatLatW4
import Derived.StillTailTactics
namespace Go.Proofs.YtifopbkhflpbfaaGreat
set_option linter.unusedVariables false
set_option linter.unusedSimpArgs false
open Go.RowKit Go.Shelf
attribute [local go_sem] Oper.semAt_some

/-- What a round keeps: all below n but the blocks from lo to hi. -/
structure KpR (n lo hi : Nat) (W W' : World) : Prop where
  os : W'.os = W.os
  tape : W'.tape = W.tape
  output : W'.output = W.output
  size : W.heap.size ≤ W'.heap.size
  block : ∀ k, k < n → (k < lo ∨ hi ≤ k) → W'.heap[k]? = W.heap[k]?
theorem KpR.refl (n lo hi : Nat) (W : World) : KpR n lo hi W W := ⟨rfl, rfl, rfl, Nat.le_refl _, fun _ _ _ => rfl⟩
theorem KpR.trans {n lo hi : Nat} {A B C : World} (h : KpR n lo hi A B) (k : KpR n lo hi B C) : KpR n lo hi A C :=
  ⟨k.os.trans h.os, k.tape.trans h.tape, k.output.trans h.output, Nat.le_trans h.size k.size, fun i h1 h2 => (k.block i h1 h2).trans (h.block i h1 h2)⟩
theorem KpR.of_ext {n lo hi : Nat} {W W' : World} (hn : n ≤ W.heap.size) (h : Ext W W') : KpR n lo hi W W' :=
  ⟨h.os, h.tape, h.output, h.size, fun k hk _ => h.block k (by omega)⟩
theorem KpR.setCell {n lo hi : Nat} (W : World) {g : Nat} (hg : lo ≤ g ∧ g < hi) (o : Nat) (v : Value) : KpR n lo hi W (W.setCell ⟨g, o, none⟩ v) :=
  ⟨rfl, rfl, rfl, by simp [World.setCell], fun k _ hne => Below.heap_setCell W ⟨g, o, none⟩ v k (fun e => by have : k = g := e; omega)⟩
theorem KpR.put {n lo hi : Nat} (W : World) (l : Nat) (o : Obj) (hl : n ≤ l) : KpR n lo hi W (W.putObj l o) :=
  ⟨rfl, rfl, rfl, by simp, fun k hk _ => World.putObj_heap_other (by omega)⟩
theorem KpR.grown {n lo hi : Nat} {W W' : World} {row : Option Nat} (hn : n ≤ W.heap.size) (h : W.grownBy W' row) (hr : ∀ r, row = some r → n ≤ r ∨ (lo ≤ r ∧ r < hi)) : KpR n lo hi W W' :=
  ⟨h.os, h.tape, h.output, h.size, fun k hk hk2 => h.block k (by omega) (fun e => by have := hr k e.symm; omega)⟩
theorem KpR.blk {n lo hi : Nat} {W W' : World} (h : KpR n lo hi W W') {b : Nat} {t : TypeId} {cs : Array Value} (hb : Blk W b t cs) (h1 : b < n) (h2 : b < lo ∨ hi ≤ b) : Blk W' b t cs := (h.block b h1 h2).trans hb
theorem KpR.below {n lo hi B : Nat} {W W' : World} (h : KpR n lo hi W W') (h1 : B ≤ n) (h2 : B ≤ lo) : Below B W W' :=
  ⟨h.os, h.tape, h.output, h.size, fun k hk => h.block k (by omega) (by omega)⟩
theorem KpR.ext {n lo hi : Nat} {w W W' : World} (h : KpR n lo hi W W') (hw : Ext w W) (h1 : w.heap.size ≤ n) (h2 : w.heap.size ≤ lo) : Ext w W' := Below.trans hw (h.below h1 h2)

/-- What a round keeps: all below n but its boxes, and every list whose elements are no levels. -/
structure KpT (n lo hi : Nat) (W W' : World) : Prop where
  r : KpR n lo hi W W'
  t : ∀ k cs (ty : TypeId) fr, ty ≠ 39 → W.heap[k]? = some (.cells cs ty fr) → (k < lo ∨ hi ≤ k) → W'.heap[k]? = some (.cells cs ty fr)
theorem KpT.refl (n lo hi : Nat) (W : World) : KpT n lo hi W W := ⟨KpR.refl _ _ _ _, fun _ _ _ _ _ h _ => h⟩
theorem KpT.trans {n lo hi : Nat} {A B C : World} (h : KpT n lo hi A B) (k : KpT n lo hi B C) : KpT n lo hi A C :=
  ⟨h.r.trans k.r, fun b cs ty fr h1 h2 h3 => k.t b cs ty fr h1 (h.t b cs ty fr h1 h2 h3) h3⟩
theorem KpT.of_ext {n lo hi : Nat} {W W' : World} (hn : n ≤ W.heap.size) (h : Ext W W') : KpT n lo hi W W' :=
  ⟨KpR.of_ext hn h, fun k cs ty fr _ h2 _ => (h.block k (Array.getElem?_eq_some_iff.1 h2).1).trans h2⟩
theorem KpT.setCell {n lo hi : Nat} (W : World) {g : Nat} (hg : lo ≤ g ∧ g < hi) (o : Nat) (v : Value) : KpT n lo hi W (W.setCell ⟨g, o, none⟩ v) :=
  ⟨KpR.setCell W hg o v, fun k cs ty fr _ h2 h3 => (Below.heap_setCell W ⟨g, o, none⟩ v k (fun e => by have : k = g := e; omega)).trans h2⟩
theorem KpT.put {n lo hi : Nat} (W : World) (l : Nat) (o o' : Obj) (hl : n ≤ l) (h1 : W.heap[l]? = some o) (h2 : o.isCells = false) : KpT n lo hi W (W.putObj l o') :=
  ⟨KpR.put W l o' hl, fun k cs ty fr _ h3 _ => by
    by_cases e : k = l
    · subst e; rw [h1] at h3; injection h3 with h3; subst h3; cases h2
    · exact (World.putObj_heap_other e).trans h3⟩
theorem Owns.typed {α : Type} {E : Elt α} {n lo hi : Nat} {w w' : World} {base : Nat} {e : TypeId} {v : Value} {l : List α} (h : Owns E w base e v l) (hk : KpT n lo hi w w') (he : e ≠ 39) (hb : hi ≤ base) : Owns E w' base e v l :=
  ⟨h.1, h.2.imp id fun ⟨g, cap, cur, hv, hg, hh, r⟩ => ⟨g, cap, cur, hv, hg, hk.t g _ _ _ he hh (.inr (by omega)), r⟩⟩

abbrev StpX := { s : Stp // 0 ≤ s.fr ∧ s.fr ≤ s.til ∧ s.til + 2 ≤ s.val ∧ s.val ≤ 1099511627776 }
def stpX (x : StpX) : Array Value := #[.agg #[.int .i64 x.1.fr, .int .i64 x.1.til, .int .i64 x.1.val]]
def unX (l : List StpX) : List Stp := l.map (·.1)
theorem unX_snoc (l : List StpX) (x : StpX) : unX (l ++ [x]) = unX l ++ [x.1] := by simp [unX]
theorem unX_len (l : List StpX) : (unX l).length = l.length := by simp [unX]
def StpS (p : Pln) (src dst n : Int) (ys : List StpX) : Prop := ∃ t, Chn p src dst n (unX ys) t ∧ p.stopAt src dst n t
def StpP (p : Pln) (src dst n : Int) (ys : List StpX) : Prop := ∃ t, Chn p src dst n (unX ys) t

set_option maxRecDepth 100000 in
set_option maxHeartbeats 4000000 in
theorem Latest_own (Aq : Option Addr) (cq : Nat) (Ac : Option Addr) (cc : Nat) (p : Pln) (dest D size : Int) (w : World) (h : PlnRd w Aq cq Ac cc p) (h0 : p.chk = 0) (ha : p.argB dest D size = true) :
    Calls Tryz.prog 50 #[p.val Aq cq Ac cc, .int .i64 dest, .int .i64 D, .int .i64 size] w fun e w' => ∃ v, e = .returned (.tuple #[v, .int .i64 0]) ∧ Owns EInt w' w.heap.size 3 v (p.times dest D size) ∧ Ext w w' := by
  obtain ⟨W, hW, hB, hk, hlt⟩ := box1 w #[.slice Aq p.quo.length cq, .slice Ac p.cons.length cc] 25
  have hc := hk.cell
  have hqm := h.qm
  have hpc := pcheck_any Aq cq Ac cc p W (h.ext hB)
  have hok := Pln.ok_of h0
  have ha2 := ha
  simp only [Pln.argB, decide_eq_true_eq] at ha2
  obtain ⟨a1, a2, a3, a4, a5, a6⟩ := ha2
  have Ha := Lib.hid ha
  rw [h0] at hpc
  clear ha h0
  unfold Pln.val at hpc ⊢
  go_enter Tryz.func50, Tryz.ntmps50
  go_wp2_with fail
  clear hW
  refine hpc.mono ?_
  rintro e w1 ⟨rfl, hb1⟩
  have hc1 := (hk.ext hb1).cell
  clear hpc
  go_wp2_with fail
  refine (ltimes_any Aq cq Ac cc p dest D size w1 ((h.ext hB).ext hb1) hok Ha.out).mono ?_
  rintro e w2 ⟨v, rfl, hv, hb2⟩
  go_wp2
  go_ret2
  exact ⟨v, rfl, hv.mono (hB.trans hb1).size, (hB.trans hb1).trans hb2⟩

/-- Behind the statement 'last, e := latest.Latest(..)'. -/
def LatV (M : List Int) (w : World) (x y : Value) (w' : World) : Prop := ∃ A c, x = .slice A M.length c ∧ y = .int .i64 0 ∧ Owns EInt w' w.heap.size 3 (.slice A M.length c) M ∧ Ext w w'

set_option maxRecDepth 100000 in
set_option maxHeartbeats 4000000 in
theorem steps_iter (l Bp Bs Bn Bd n₁ lo hi : Nat) (Aq : Option Addr) (cq : Nat) (Ac : Option Addr) (cc : Nat) (p : Pln) (src dst n : Int) (w0 W : World) (h : PlnRd w0 Aq cq Ac cc p) (h0 : p.chk = 0) (hP : PA p src dst n)
    (hE0 : Ext w0 W) (hn0 : w0.heap.size ≤ n₁) (hg0 : w0.heap.size ≤ lo) (hhi : hi ≤ n₁) (hn1 : n₁ ≤ W.heap.size)
    (kp : Blk W Bp 25 #[.slice Aq p.quo.length cq, .slice Ac p.cons.length cc]) (ks : Blk W Bs 3 #[.int .i64 src]) (kn : Blk W Bn 3 #[.int .i64 n]) (kd : Blk W Bd 3 #[.int .i64 dst])
    (bp : Bp < n₁ ∧ (Bp < lo ∨ hi ≤ Bp)) (bs : Bs < n₁ ∧ (Bs < lo ∨ hi ≤ Bs)) (bn : Bn < n₁ ∧ (Bn < lo ∨ hi ≤ Bn)) (bd : Bd < n₁ ∧ (Bd < lo ∨ hi ≤ Bd))
    (J Jx : List StpX → World → Prop) (hJ : AbidesFrom W.heap.size J)
    (hY : ∀ pre x W, J pre W → pre.length < 1099511627777 → YieldAt Fence.wide 3 Tryz.prog l (stpX x) W fun e W' =>
      (e = .returned (.bool true) ∧ J (pre ++ [x]) W' ∧ KpT n₁ lo hi W W') ∨ (e = .returned (.bool false) ∧ Jx (pre ++ [x]) W'))
    (hj : J [] W) :
    CallsIn Fence.wide 4 Tryz.prog 49 #[.func (.yield l) #[] #[], .pointer (some ⟨Bp, 0, none⟩), .pointer (some ⟨Bs, 0, none⟩), .pointer (some ⟨Bn, 0, none⟩), .pointer (some ⟨Bd, 0, none⟩)] W fun e W' => (∃ v, e = .returned v) ∧
      ((∃ ys, StpS p src dst n ys ∧ J ys W') ∨ (∃ pre : List StpX, StpP p src dst n pre ∧ Jx pre W')) := by
  have hc := kp.cell
  have hs0 := hP.s0
  have hs1 := hP.s1
  have hd0 := hP.d0
  have hd1 := hP.d1
  have hok := hP.ok
  have hn16 := hok.n16
  refine callsIn_of_wp Tryz.func49 rfl trivial ?_ rfl
  simp only [Tryz.ntmps49, List.size_toArray, List.length_cons, List.length_nil, Nat.reduceAdd, Nat.reduceSub, Array.replicate_succ, Array.replicate_zero, List.push_toArray, List.append_toArray, List.nil_append, List.cons_append]
  gi_wp2
  gi_loopw [6] (fun i wr => ∃ (t : Int) (pre : List StpX), i = .int .i64 t ∧ Hid (Chn p src dst n (unX pre) t) ∧ J pre wr ∧ KpR n₁ lo hi W wr) (fun i _ => (1099511627777 - intOf i).toNat)
  case atStart => exact ⟨0, [], rfl, Lib.hid .nil, hj, KpR.refl _ _ _ _⟩
  case round =>
    obtain ⟨t, pre, rfl, hchn, hjr, hK⟩ := hrel
    have hE := hK.ext hE0 hn0 hg0
    have kp1 := hK.blk kp bp.1 bp.2
    have ks1 := hK.blk ks bs.1 bs.2
    have kn1 := hK.blk kn bn.1 bn.2
    have kd1 := hK.blk kd bd.1 bd.2
    have hcp1 := kp1.cell
    have hcs1 := ks1.cell
    have hcn1 := kn1.cell
    have hcd1 := kd1.cell
    have hsz := hK.size
    obtain ⟨ht0, ht1, htl⟩ := hchn.out.rng hP
    rw [unX_len] at htl
    have hF := Foremost_any Aq cq Ac cc p src t n wr (h.ext hE)
    have haf := hP.argF ht0 ht1
    have fe : p.forE src t n = 0 := by unfold Pln.forE; rw [if_pos h0, haf]; rfl
    have ft : p.forT src t n = p.arrs src t n := by unfold Pln.forT; rw [if_pos fe]
    rw [ft, fe] at hF
    have hTl := (hP.least ht0 ht1).len
    have hcase := hP.ear_cases ht0 ht1
    have hear : p.ear src dst n t = gi (p.arrs src t n) dst := rfl
    obtain ⟨T, hT⟩ : ∃ T, p.arrs src t n = T := ⟨_, rfl⟩
    rw [hT] at hF hTl hear
    have Hear := Lib.hid hear
    have HTl := Lib.hid hTl
    have hle : t ≤ 1099511627776 := ht1
    unfold Pln.val at hF
    have hdT : dst < (T.length : Int) := by omega
    have hsT : src < (T.length : Int) := by omega
    clear fe ft haf hT hTl hear
    by_cases he : gi T dst = -1
    · have hde : (gi T dst == -1) = true := by simpa using he
      have He := Lib.hid he
      clear he
      gi_wp2_with (refine ⟨trivial, ?_⟩; gi_at_call 23; refine (callsIn_wide.2 hF).mono ?_; rintro e w4 ⟨A4, c4, rfl, hR4, hb4, _⟩; have kd4 := kd1.ext hb4; have hcd4 := kd4.cell; obtain ⟨b4, o4, rfl, hb4l, hxx⟩ := hR4.int (k := dst.toNat) (by have := HTl.out; omega); clear hxx; obtain ⟨htd, _⟩ := hR4.gi (i := dst) (by have := HTl.out; omega))
      refine bodyPost_ret (results_none rfl _ _ _) rfl ?_
      exact ⟨⟨_, rfl⟩, .inl ⟨pre, ⟨t, hchn.out, .inr (Hear.out.trans He.out)⟩, abides_ext hJ hjr hb4⟩⟩
    have hde : (gi T dst == -1) = false := by simpa using he
    have hera := hcase.resolve_left (fun e => he (Hear.out.symm.trans e))
    have hne : p.ear src dst n t ≠ -1 := fun e => he (Hear.out.symm.trans e)
    have hab := hP.argB (a := p.ear src dst n t) (by omega) hera.2.2
    have hL := fun w h => Latest_own Aq cq Ac cc p dst (p.ear src dst n t) n w h h0 hab
    have hMl := (Pln.times_inv hok hab).1.len
    have hlge := hP.lat_ge ht0 ht1 hne (Int.le_refl _) hera.2.2
    have hllt := hP.lat_lt (a := p.ear src dst n t) (by omega) hera.2.2 (by omega)
    have hx := hchn.out.snoc ht1 hne
    have hlat : p.lat src dst n (p.ear src dst n t) = gi (p.times dst (p.ear src dst n t) n) src := rfl
    have hstp : p.stp src dst n t = ⟨t, p.lat src dst n (p.ear src dst n t), p.ear src dst n t⟩ := rfl
    obtain ⟨M, hM⟩ : ∃ M, p.times dst (p.ear src dst n t) n = M := ⟨_, rfl⟩
    rw [hM] at hL hMl hlat
    rw [hstp] at hx
    obtain ⟨la, hla⟩ : ∃ la, p.lat src dst n (p.ear src dst n t) = la := ⟨_, rfl⟩
    rw [hla] at hlge hllt hx hlat
    obtain ⟨ev, hev⟩ : ∃ ev, p.ear src dst n t = ev := ⟨_, rfl⟩
    rw [hev] at hL hllt hx hera
    have Hx := Lib.hid hx
    have HMl := Lib.hid hMl
    have Hlat := Lib.hid hlat
    have Hev := Lib.hid (hev.symm.trans Hear.out)
    obtain ⟨_, hev1, hev2⟩ := hera
    have hsM : src < (M.length : Int) := by omega
    unfold Pln.val at hL
    clear he hne hx hab hlat hstp hM hla hev hMl hcase
    gi_wp2_with (refine ⟨trivial, ?_⟩; gi_at_call 23; refine (callsIn_wide.2 hF).mono ?_; rintro e w4 ⟨A4, c4, rfl, hR4, hb4, _⟩; have kd4 := kd1.ext hb4; have hcd4 := kd4.cell; have ks4 := ks1.ext hb4; have kp4 := kp1.ext hb4; have kn4 := kn1.ext hb4; have hcs4 := ks4.cell; have hcp4 := kp4.cell; have hcn4 := kn4.cell; obtain ⟨b4, o4, rfl, hb4l, hxx⟩ := hR4.int (k := dst.toNat) (by have := HTl.out; omega); clear hxx; obtain ⟨htd, _⟩ := hR4.gi (i := dst) (by have := HTl.out; omega))
    rw [← Hev.out] at htd
    have hr4 := (h.ext hE).ext hb4
    have hlp4 := kp4.lt
    have hls4 := ks4.lt
    have hln4 := kn4.lt
    have hld4 := kd4.lt
    refine wpIn_wide.2 ?_
    go_cut [9, 8] from 29 to 39 (fun x y wx => LatV M w4 x y wx)
    case first =>
      have hN9 := Near.refl w4
      go_region_held3 (fun w' => Ext w4 w' ∧ ∀ b o, b < w4.heap.size → w'.cell? ⟨b, o, none⟩ = w4.cell? ⟨b, o, none⟩) (first | exact hN9.drew | exact Near.step (by assumption) hb9)
        (first | (go_at_call 50; refine (hL _ (hr4.ext (And.left (by assumption)))).mono ?_; rintro e w9 ⟨v9, rfl, hv9, hb9⟩; obtain ⟨A9, c9, rfl, _⟩ := hv9.form; have hx9 : Ext w4 w9 := Ext.trans (And.left (by assumption)) hb9; replace hv9 := hv9.mono (Ext.size (a := w4) (And.left (by assumption)))))
      all_goals
        go_wp2_with fail
        go_meet
        exact ⟨A9, c9, rfl, rfl, hv9, hx9⟩
    case rest =>
      obtain ⟨A9, c9, rfl, rfl, hv9, hx9⟩ := hcut
      have hR9 := hv9.rd
      obtain ⟨b9, o9, rfl, hb9l, hxx⟩ := hR9.int (k := src.toNat) (by have := HMl.out; omega)
      clear hxx
      obtain ⟨hms, _⟩ := hR9.gi (i := src) (by have := HMl.out; omega)
      rw [← Hlat.out] at hms
      obtain ⟨wd, hwd, hxd⟩ : ∃ wd, wc.drew = wd ∧ Ext wc wd := ⟨_, rfl, (Ext.refl _).drew⟩
      have hx9d := hx9.trans hxd
      have kd9 := kd4.ext hx9
      have ks9 := ks4.ext hx9
      have hcd9 := kd9.cell
      have hcs9 := ks9.cell
      have kdd := kd9.ext hxd
      have ksd := ks9.ext hxd
      have hcdd := kdd.cell
      have hcsd := ksd.cell
      obtain ⟨hmsd, _⟩ := (hR9.ext hxd).gi (i := src) (by have := HMl.out; omega)
      rw [← Hlat.out] at hmsd
      obtain ⟨htdd, _⟩ := (hR4.ext hx9d).gi (i := dst) (by have := HTl.out; omega)
      rw [← Hev.out] at htdd
      have hdl : decide (la < t) = false := decide_eq_false (by omega)
      have hmix : Tryz.prog.follows .mixedOrders = true := by kernel_rfl
      have hjd := abides_ext hJ hjr ((hb4.trans hx9).trans hxd)
      obtain ⟨fn, tmps, assign, body, hy, hR⟩ := hY pre ⟨⟨t, la, ev⟩, ht0, hlge, hllt, hev2⟩ wd hjd (by omega)
      dsimp only [stpX] at hy
      gi_wp2
      refine wpIn_region_any hmix ?_
      change wpAnyIn _ _ _ _ _ _ _ _ _ (World.drew _)
      rw [hwd]
      clear hwd hcd9 hcs9 hms
      refine wpAnyIn_take (i := 0) (v := ?_) rfl rfl (by kernel_rfl) (by kernel_rfl) (by kernel_rfl) (fun _ _ _ h => h) ⟨Or.inl ⟨by rfl, ?_⟩, fun _ => rfl⟩ ?_
      rotate_left
      · intro w'
        go_simp
        first | done | with_reducible rfl
      refine wpAnyIn_take (i := 1) (v := ?_) rfl rfl (by kernel_rfl) (by kernel_rfl) (by kernel_rfl) (fun _ _ _ h => h) ⟨Or.inl ⟨by rfl, ?_⟩, fun _ => rfl⟩ ?_
      rotate_left
      · intro w'
        go_simp
        first | done | with_reducible rfl
      refine wpAnyIn_take (i := 2) (v := ?_) rfl rfl (by kernel_rfl) (by kernel_rfl) (by kernel_rfl) (fun _ _ _ h => h) ⟨Or.inl ⟨by rfl, ?_⟩, fun _ => rfl⟩ ?_
      rotate_left
      · intro w'
        go_simp
        first | done | with_reducible rfl
      refine wpAnyIn_take (i := 6) (v := ?_) rfl rfl (by kernel_rfl) (by kernel_rfl) (by kernel_rfl) (fun _ _ _ h => h) ⟨Or.inl ⟨by rfl, ?_⟩, fun _ => rfl⟩ ?_
      rotate_left
      · intro w'
        go_simp
        first | done | with_reducible rfl
      refine wpAnyIn_ready (rs := [3, 7]) (by kernel_rfl) (by simp) ?_
      refine AllReadyIn.cons rfl (fun K hK => ?_) (AllReadyIn.cons rfl (fun K hK => ?_) AllReadyIn.nil)
      · go_simp
        refine hK _ _ ?_
        clear hK K
        refine wpAnyIn_take (i := 4) (v := ?_) rfl rfl (by kernel_rfl) (by kernel_rfl) (by kernel_rfl) (fun _ _ _ h => h) ⟨Or.inl ⟨by rfl, ?_⟩, fun _ => rfl⟩ ?_
        rotate_left
        · intro w'
          go_simp
          first | done | with_reducible rfl
        refine wpAnyIn_ready (rs := [5, 7]) (by kernel_rfl) (by simp) ?_
        refine AllReadyIn.cons rfl (fun K hK => ?_) (AllReadyIn.cons rfl (fun K hK => ?_) AllReadyIn.nil)
        · go_simp
          refine hK _ _ ?_
          clear hK K
          refine wpAnyIn_ready (rs := [7]) (by kernel_rfl) (by simp) ?_
          refine AllReadyIn.cons rfl (fun K hK => ?_) ?_
          rotate_left
          · exact AllReadyIn.nil
          go_simp
          refine hK _ _ ?_
          clear hK K
          refine wpAnyIn_take (i := 8) (v := ?_) rfl rfl (by kernel_rfl) (by kernel_rfl) (by kernel_rfl) (fun _ _ _ h => h) ⟨Or.inl ⟨by rfl, ?_⟩, fun _ => rfl⟩ ?_
          rotate_left
          · intro w'
            go_simp
            first | done | with_reducible rfl
          refine wpAnyIn_ready (rs := [9]) (by kernel_rfl) (by simp) ?_
          refine AllReadyIn.cons rfl (fun K hK => ?_) ?_
          rotate_left
          · exact AllReadyIn.nil
          go_simp
          refine hK _ _ ?_
          clear hK K
          refine wpAnyIn_take (i := 10) (v := ?_) rfl rfl (by kernel_rfl) (by kernel_rfl) (by kernel_rfl) (fun _ _ _ h => h) ⟨Or.inl ⟨by rfl, ?_⟩, fun _ => rfl⟩ ?_
          rotate_left
          · intro w'
            go_simp
            first | done | with_reducible rfl
          refine wpAnyIn_ready (rs := [11]) (by kernel_rfl) (by simp) ?_
          refine AllReadyIn.cons rfl (fun K hK => ?_) AllReadyIn.nil
          go_simp
          refine hR.mono ?_
          rintro e W6 (⟨rfl, hJ6, hk6⟩ | ⟨rfl, hJx6⟩)
          · refine hK _ _ ?_
            clear hK K
            refine wpAnyIn_ready (rs := [12]) (by kernel_rfl) (by simp) ?_
            refine AllReadyIn.cons rfl (fun K hK => ?_) ?_
            rotate_left
            · exact AllReadyIn.nil
            go_simp
            refine hK _ _ ?_
            clear hK K
            refine wpAnyIn_done (by kernel_rfl) ?_ _
            have hcs6 := (hk6.r.blk ksd bs.1 bs.2).cell
            obtain ⟨hm6, _⟩ := ((hv9.ext hxd).typed (lo := lo) hk6 (by decide) (by have := hb4.size; omega)).rd.gi (i := src) (by have := HMl.out; omega)
            rw [← Hlat.out] at hm6
            gi_wp2
            go_roundw
            case rel => exact ⟨la + 1, pre ++ [⟨⟨t, la, ev⟩, ht0, hlge, hllt, hev2⟩], by go_num, Lib.hid (by rw [unX_snoc]; exact Hx.out), hJ6, hK.trans ((KpR.of_ext (by omega) (hb4.trans hx9d)).trans hk6.r)⟩
            case measure => simp [intOf]; omega
          · refine hK _ _ ?_
            clear hK K
            refine wpAnyIn_ready (rs := [12]) (by kernel_rfl) (by simp) ?_
            refine AllReadyIn.cons rfl (fun K hK => ?_) ?_
            rotate_left
            · exact AllReadyIn.nil
            go_simp
            refine hK _ _ ?_
            clear hK K
            refine wpAnyIn_done (by kernel_rfl) ?_ _
            gi_wp2
            refine bodyPost_ret (results_none rfl _ _ _) rfl ?_
            exact ⟨⟨_, rfl⟩, .inr ⟨pre ++ [⟨⟨t, la, ev⟩, ht0, hlge, hllt, hev2⟩], ⟨la + 1, by rw [unX_snoc]; exact Hx.out⟩, hJx6⟩⟩
          
        · go_simp
          refine hK _ _ ?_
          clear hK K
          refine wpAnyIn_take (i := 8) (v := ?_) rfl rfl (by kernel_rfl) (by kernel_rfl) (by kernel_rfl) (fun _ _ _ h => h) ⟨Or.inl ⟨by rfl, ?_⟩, fun _ => rfl⟩ ?_
          rotate_left
          · intro w'
            go_simp
            first | done | with_reducible rfl
          refine wpAnyIn_ready (rs := [5, 9]) (by kernel_rfl) (by simp) ?_
          refine AllReadyIn.cons rfl (fun K hK => ?_) (AllReadyIn.cons rfl (fun K hK => ?_) AllReadyIn.nil)
          · go_simp
            refine hK _ _ ?_
            clear hK K
            refine wpAnyIn_ready (rs := [9]) (by kernel_rfl) (by simp) ?_
            refine AllReadyIn.cons rfl (fun K hK => ?_) ?_
            rotate_left
            · exact AllReadyIn.nil
            go_simp
            refine hK _ _ ?_
            clear hK K
            refine wpAnyIn_take (i := 10) (v := ?_) rfl rfl (by kernel_rfl) (by kernel_rfl) (by kernel_rfl) (fun _ _ _ h => h) ⟨Or.inl ⟨by rfl, ?_⟩, fun _ => rfl⟩ ?_
            rotate_left
            · intro w'
              go_simp
              first | done | with_reducible rfl
            refine wpAnyIn_ready (rs := [11]) (by kernel_rfl) (by simp) ?_
            refine AllReadyIn.cons rfl (fun K hK => ?_) AllReadyIn.nil
            go_simp
            refine hR.mono ?_
            rintro e W6 (⟨rfl, hJ6, hk6⟩ | ⟨rfl, hJx6⟩)
            · refine hK _ _ ?_
              clear hK K
              refine wpAnyIn_ready (rs := [12]) (by kernel_rfl) (by simp) ?_
              refine AllReadyIn.cons rfl (fun K hK => ?_) ?_
              rotate_left
              · exact AllReadyIn.nil
              go_simp
              refine hK _ _ ?_
              clear hK K
              refine wpAnyIn_done (by kernel_rfl) ?_ _
              have hcs6 := (hk6.r.blk ksd bs.1 bs.2).cell
              obtain ⟨hm6, _⟩ := ((hv9.ext hxd).typed (lo := lo) hk6 (by decide) (by have := hb4.size; omega)).rd.gi (i := src) (by have := HMl.out; omega)
              rw [← Hlat.out] at hm6
              gi_wp2
              go_roundw
              case rel => exact ⟨la + 1, pre ++ [⟨⟨t, la, ev⟩, ht0, hlge, hllt, hev2⟩], by go_num, Lib.hid (by rw [unX_snoc]; exact Hx.out), hJ6, hK.trans ((KpR.of_ext (by omega) (hb4.trans hx9d)).trans hk6.r)⟩
              case measure => simp [intOf]; omega
            · refine hK _ _ ?_
              clear hK K
              refine wpAnyIn_ready (rs := [12]) (by kernel_rfl) (by simp) ?_
              refine AllReadyIn.cons rfl (fun K hK => ?_) ?_
              rotate_left
              · exact AllReadyIn.nil
              go_simp
              refine hK _ _ ?_
              clear hK K
              refine wpAnyIn_done (by kernel_rfl) ?_ _
              gi_wp2
              refine bodyPost_ret (results_none rfl _ _ _) rfl ?_
              exact ⟨⟨_, rfl⟩, .inr ⟨pre ++ [⟨⟨t, la, ev⟩, ht0, hlge, hllt, hev2⟩], ⟨la + 1, by rw [unX_snoc]; exact Hx.out⟩, hJx6⟩⟩
            
          · go_simp
            refine hK _ _ ?_
            clear hK K
            refine wpAnyIn_ready (rs := [5]) (by kernel_rfl) (by simp) ?_
            refine AllReadyIn.cons rfl (fun K hK => ?_) ?_
            rotate_left
            · exact AllReadyIn.nil
            go_simp
            refine hK _ _ ?_
            clear hK K
            refine wpAnyIn_take (i := 10) (v := ?_) rfl rfl (by kernel_rfl) (by kernel_rfl) (by kernel_rfl) (fun _ _ _ h => h) ⟨Or.inl ⟨by rfl, ?_⟩, fun _ => rfl⟩ ?_
            rotate_left
            · intro w'
              go_simp
              first | done | with_reducible rfl
            refine wpAnyIn_ready (rs := [11]) (by kernel_rfl) (by simp) ?_
            refine AllReadyIn.cons rfl (fun K hK => ?_) AllReadyIn.nil
            go_simp
            refine hR.mono ?_
            rintro e W6 (⟨rfl, hJ6, hk6⟩ | ⟨rfl, hJx6⟩)
            · refine hK _ _ ?_
              clear hK K
              refine wpAnyIn_ready (rs := [12]) (by kernel_rfl) (by simp) ?_
              refine AllReadyIn.cons rfl (fun K hK => ?_) ?_
              rotate_left
              · exact AllReadyIn.nil
              go_simp
              refine hK _ _ ?_
              clear hK K
              refine wpAnyIn_done (by kernel_rfl) ?_ _
              have hcs6 := (hk6.r.blk ksd bs.1 bs.2).cell
              obtain ⟨hm6, _⟩ := ((hv9.ext hxd).typed (lo := lo) hk6 (by decide) (by have := hb4.size; omega)).rd.gi (i := src) (by have := HMl.out; omega)
              rw [← Hlat.out] at hm6
              gi_wp2
              go_roundw
              case rel => exact ⟨la + 1, pre ++ [⟨⟨t, la, ev⟩, ht0, hlge, hllt, hev2⟩], by go_num, Lib.hid (by rw [unX_snoc]; exact Hx.out), hJ6, hK.trans ((KpR.of_ext (by omega) (hb4.trans hx9d)).trans hk6.r)⟩
              case measure => simp [intOf]; omega
            · refine hK _ _ ?_
              clear hK K
              refine wpAnyIn_ready (rs := [12]) (by kernel_rfl) (by simp) ?_
              refine AllReadyIn.cons rfl (fun K hK => ?_) ?_
              rotate_left
              · exact AllReadyIn.nil
              go_simp
              refine hK _ _ ?_
              clear hK K
              refine wpAnyIn_done (by kernel_rfl) ?_ _
              gi_wp2
              refine bodyPost_ret (results_none rfl _ _ _) rfl ?_
              exact ⟨⟨_, rfl⟩, .inr ⟨pre ++ [⟨⟨t, la, ev⟩, ht0, hlge, hllt, hev2⟩], ⟨la + 1, by rw [unX_snoc]; exact Hx.out⟩, hJx6⟩⟩
            
      · go_simp
        refine hK _ _ ?_
        clear hK K
        refine wpAnyIn_take (i := 8) (v := ?_) rfl rfl (by kernel_rfl) (by kernel_rfl) (by kernel_rfl) (fun _ _ _ h => h) ⟨Or.inl ⟨by rfl, ?_⟩, fun _ => rfl⟩ ?_
        rotate_left
        · intro w'
          go_simp
          first | done | with_reducible rfl
        refine wpAnyIn_ready (rs := [3, 9]) (by kernel_rfl) (by simp) ?_
        refine AllReadyIn.cons rfl (fun K hK => ?_) (AllReadyIn.cons rfl (fun K hK => ?_) AllReadyIn.nil)
        · go_simp
          refine hK _ _ ?_
          clear hK K
          refine wpAnyIn_take (i := 4) (v := ?_) rfl rfl (by kernel_rfl) (by kernel_rfl) (by kernel_rfl) (fun _ _ _ h => h) ⟨Or.inl ⟨by rfl, ?_⟩, fun _ => rfl⟩ ?_
          rotate_left
          · intro w'
            go_simp
            first | done | with_reducible rfl
          refine wpAnyIn_ready (rs := [5, 9]) (by kernel_rfl) (by simp) ?_
          refine AllReadyIn.cons rfl (fun K hK => ?_) (AllReadyIn.cons rfl (fun K hK => ?_) AllReadyIn.nil)
          · go_simp
            refine hK _ _ ?_
            clear hK K
            refine wpAnyIn_ready (rs := [9]) (by kernel_rfl) (by simp) ?_
            refine AllReadyIn.cons rfl (fun K hK => ?_) ?_
            rotate_left
            · exact AllReadyIn.nil
            go_simp
            refine hK _ _ ?_
            clear hK K
            refine wpAnyIn_take (i := 10) (v := ?_) rfl rfl (by kernel_rfl) (by kernel_rfl) (by kernel_rfl) (fun _ _ _ h => h) ⟨Or.inl ⟨by rfl, ?_⟩, fun _ => rfl⟩ ?_
            rotate_left
            · intro w'
              go_simp
              first | done | with_reducible rfl
            refine wpAnyIn_ready (rs := [11]) (by kernel_rfl) (by simp) ?_
            refine AllReadyIn.cons rfl (fun K hK => ?_) AllReadyIn.nil
            go_simp
            refine hR.mono ?_
            rintro e W6 (⟨rfl, hJ6, hk6⟩ | ⟨rfl, hJx6⟩)
            · refine hK _ _ ?_
              clear hK K
              refine wpAnyIn_ready (rs := [12]) (by kernel_rfl) (by simp) ?_
              refine AllReadyIn.cons rfl (fun K hK => ?_) ?_
              rotate_left
              · exact AllReadyIn.nil
              go_simp
              refine hK _ _ ?_
              clear hK K
              refine wpAnyIn_done (by kernel_rfl) ?_ _
              have hcs6 := (hk6.r.blk ksd bs.1 bs.2).cell
              obtain ⟨hm6, _⟩ := ((hv9.ext hxd).typed (lo := lo) hk6 (by decide) (by have := hb4.size; omega)).rd.gi (i := src) (by have := HMl.out; omega)
              rw [← Hlat.out] at hm6
              gi_wp2
              go_roundw
              case rel => exact ⟨la + 1, pre ++ [⟨⟨t, la, ev⟩, ht0, hlge, hllt, hev2⟩], by go_num, Lib.hid (by rw [unX_snoc]; exact Hx.out), hJ6, hK.trans ((KpR.of_ext (by omega) (hb4.trans hx9d)).trans hk6.r)⟩
              case measure => simp [intOf]; omega
            · refine hK _ _ ?_
              clear hK K
              refine wpAnyIn_ready (rs := [12]) (by kernel_rfl) (by simp) ?_
              refine AllReadyIn.cons rfl (fun K hK => ?_) ?_
              rotate_left
              · exact AllReadyIn.nil
              go_simp
              refine hK _ _ ?_
              clear hK K
              refine wpAnyIn_done (by kernel_rfl) ?_ _
              gi_wp2
              refine bodyPost_ret (results_none rfl _ _ _) rfl ?_
              exact ⟨⟨_, rfl⟩, .inr ⟨pre ++ [⟨⟨t, la, ev⟩, ht0, hlge, hllt, hev2⟩], ⟨la + 1, by rw [unX_snoc]; exact Hx.out⟩, hJx6⟩⟩
            
          · go_simp
            refine hK _ _ ?_
            clear hK K
            refine wpAnyIn_ready (rs := [5]) (by kernel_rfl) (by simp) ?_
            refine AllReadyIn.cons rfl (fun K hK => ?_) ?_
            rotate_left
            · exact AllReadyIn.nil
            go_simp
            refine hK _ _ ?_
            clear hK K
            refine wpAnyIn_take (i := 10) (v := ?_) rfl rfl (by kernel_rfl) (by kernel_rfl) (by kernel_rfl) (fun _ _ _ h => h) ⟨Or.inl ⟨by rfl, ?_⟩, fun _ => rfl⟩ ?_
            rotate_left
            · intro w'
              go_simp
              first | done | with_reducible rfl
            refine wpAnyIn_ready (rs := [11]) (by kernel_rfl) (by simp) ?_
            refine AllReadyIn.cons rfl (fun K hK => ?_) AllReadyIn.nil
            go_simp
            refine hR.mono ?_
            rintro e W6 (⟨rfl, hJ6, hk6⟩ | ⟨rfl, hJx6⟩)
            · refine hK _ _ ?_
              clear hK K
              refine wpAnyIn_ready (rs := [12]) (by kernel_rfl) (by simp) ?_
              refine AllReadyIn.cons rfl (fun K hK => ?_) ?_
              rotate_left
              · exact AllReadyIn.nil
              go_simp
              refine hK _ _ ?_
              clear hK K
              refine wpAnyIn_done (by kernel_rfl) ?_ _
              have hcs6 := (hk6.r.blk ksd bs.1 bs.2).cell
              obtain ⟨hm6, _⟩ := ((hv9.ext hxd).typed (lo := lo) hk6 (by decide) (by have := hb4.size; omega)).rd.gi (i := src) (by have := HMl.out; omega)
              rw [← Hlat.out] at hm6
              gi_wp2
              go_roundw
              case rel => exact ⟨la + 1, pre ++ [⟨⟨t, la, ev⟩, ht0, hlge, hllt, hev2⟩], by go_num, Lib.hid (by rw [unX_snoc]; exact Hx.out), hJ6, hK.trans ((KpR.of_ext (by omega) (hb4.trans hx9d)).trans hk6.r)⟩
              case measure => simp [intOf]; omega
            · refine hK _ _ ?_
              clear hK K
              refine wpAnyIn_ready (rs := [12]) (by kernel_rfl) (by simp) ?_
              refine AllReadyIn.cons rfl (fun K hK => ?_) ?_
              rotate_left
              · exact AllReadyIn.nil
              go_simp
              refine hK _ _ ?_
              clear hK K
              refine wpAnyIn_done (by kernel_rfl) ?_ _
              gi_wp2
              refine bodyPost_ret (results_none rfl _ _ _) rfl ?_
              exact ⟨⟨_, rfl⟩, .inr ⟨pre ++ [⟨⟨t, la, ev⟩, ht0, hlge, hllt, hev2⟩], ⟨la + 1, by rw [unX_snoc]; exact Hx.out⟩, hJx6⟩⟩
            
        · go_simp
          refine hK _ _ ?_
          clear hK K
          refine wpAnyIn_ready (rs := [3]) (by kernel_rfl) (by simp) ?_
          refine AllReadyIn.cons rfl (fun K hK => ?_) ?_
          rotate_left
          · exact AllReadyIn.nil
          go_simp
          refine hK _ _ ?_
          clear hK K
          refine wpAnyIn_take (i := 4) (v := ?_) rfl rfl (by kernel_rfl) (by kernel_rfl) (by kernel_rfl) (fun _ _ _ h => h) ⟨Or.inl ⟨by rfl, ?_⟩, fun _ => rfl⟩ ?_
          rotate_left
          · intro w'
            go_simp
            first | done | with_reducible rfl
          refine wpAnyIn_ready (rs := [5]) (by kernel_rfl) (by simp) ?_
          refine AllReadyIn.cons rfl (fun K hK => ?_) ?_
          rotate_left
          · exact AllReadyIn.nil
          go_simp
          refine hK _ _ ?_
          clear hK K
          refine wpAnyIn_take (i := 10) (v := ?_) rfl rfl (by kernel_rfl) (by kernel_rfl) (by kernel_rfl) (fun _ _ _ h => h) ⟨Or.inl ⟨by rfl, ?_⟩, fun _ => rfl⟩ ?_
          rotate_left
          · intro w'
            go_simp
            first | done | with_reducible rfl
          refine wpAnyIn_ready (rs := [11]) (by kernel_rfl) (by simp) ?_
          refine AllReadyIn.cons rfl (fun K hK => ?_) AllReadyIn.nil
          go_simp
          refine hR.mono ?_
          rintro e W6 (⟨rfl, hJ6, hk6⟩ | ⟨rfl, hJx6⟩)
          · refine hK _ _ ?_
            clear hK K
            refine wpAnyIn_ready (rs := [12]) (by kernel_rfl) (by simp) ?_
            refine AllReadyIn.cons rfl (fun K hK => ?_) ?_
            rotate_left
            · exact AllReadyIn.nil
            go_simp
            refine hK _ _ ?_
            clear hK K
            refine wpAnyIn_done (by kernel_rfl) ?_ _
            have hcs6 := (hk6.r.blk ksd bs.1 bs.2).cell
            obtain ⟨hm6, _⟩ := ((hv9.ext hxd).typed (lo := lo) hk6 (by decide) (by have := hb4.size; omega)).rd.gi (i := src) (by have := HMl.out; omega)
            rw [← Hlat.out] at hm6
            gi_wp2
            go_roundw
            case rel => exact ⟨la + 1, pre ++ [⟨⟨t, la, ev⟩, ht0, hlge, hllt, hev2⟩], by go_num, Lib.hid (by rw [unX_snoc]; exact Hx.out), hJ6, hK.trans ((KpR.of_ext (by omega) (hb4.trans hx9d)).trans hk6.r)⟩
            case measure => simp [intOf]; omega
          · refine hK _ _ ?_
            clear hK K
            refine wpAnyIn_ready (rs := [12]) (by kernel_rfl) (by simp) ?_
            refine AllReadyIn.cons rfl (fun K hK => ?_) ?_
            rotate_left
            · exact AllReadyIn.nil
            go_simp
            refine hK _ _ ?_
            clear hK K
            refine wpAnyIn_done (by kernel_rfl) ?_ _
            gi_wp2
            refine bodyPost_ret (results_none rfl _ _ _) rfl ?_
            exact ⟨⟨_, rfl⟩, .inr ⟨pre ++ [⟨⟨t, la, ev⟩, ht0, hlge, hllt, hev2⟩], ⟨la + 1, by rw [unX_snoc]; exact Hx.out⟩, hJx6⟩⟩
          

theorem steps_stops (Bp Bs Bn Bd n₁ lo hi : Nat) (Aq : Option Addr) (cq : Nat) (Ac : Option Addr) (cc : Nat) (p : Pln) (src dst n : Int) (w0 w : World) (h : PlnRd w0 Aq cq Ac cc p) (h0 : p.chk = 0) (hP : PA p src dst n)
    (hE0 : Ext w0 w) (hn0 : w0.heap.size ≤ n₁) (hg0 : w0.heap.size ≤ lo) (hhi : hi ≤ n₁) (hn1 : n₁ ≤ w.heap.size)
    (kp : Blk w Bp 25 #[.slice Aq p.quo.length cq, .slice Ac p.cons.length cc]) (ks : Blk w Bs 3 #[.int .i64 src]) (kn : Blk w Bn 3 #[.int .i64 n]) (kd : Blk w Bd 3 #[.int .i64 dst])
    (bp : Bp < n₁ ∧ (Bp < lo ∨ hi ≤ Bp)) (bs : Bs < n₁ ∧ (Bs < lo ∨ hi ≤ Bs)) (bn : Bn < n₁ ∧ (Bn < lo ∨ hi ≤ Bn)) (bd : Bd < n₁ ∧ (Bd < lo ∨ hi ≤ Bd)) :
    SeqStopsK Fence.wide 4 Tryz.prog 49 #[.pointer (some ⟨Bp, 0, none⟩), .pointer (some ⟨Bs, 0, none⟩), .pointer (some ⟨Bn, 0, none⟩), .pointer (some ⟨Bd, 0, none⟩)] stpX (KpT n₁ lo hi) (StpS p src dst n) (StpP p src dst n) 1099511627777 w :=
  fun l J Jx W hW hJ _ hY hj => steps_iter l Bp Bs Bn Bd n₁ lo hi Aq cq Ac cc p src dst n w0 W h h0 hP (hE0.trans hW) hn0 hg0 hhi (Nat.le_trans hn1 (Ext.size hW)) (kp.ext hW) (ks.ext hW) (kn.ext hW) (kd.ext hW) bp bs bn bd J Jx hJ hY hj

set_option maxHeartbeats 400000 in
theorem steps_any (Aq : Option Addr) (cq : Nat) (Ac : Option Addr) (cc : Nat) (p : Pln) (src dst n : Int) (w : World) :
    Calls Tryz.prog 33 #[p.val Aq cq Ac cc, .int .i64 src, .int .i64 dst, .int .i64 n] w fun e w' =>
      e = .returned (.func (.func 49) #[] #[.pointer (some ⟨w.heap.size, 0, none⟩), .pointer (some ⟨w.heap.size + 1, 0, none⟩), .pointer (some ⟨w.heap.size + 3, 0, none⟩), .pointer (some ⟨w.heap.size + 2, 0, none⟩)]) ∧ Ext w w' ∧ w'.heap.size = w.heap.size + 4 ∧
      Blk w' w.heap.size 25 #[.slice Aq p.quo.length cq, .slice Ac p.cons.length cc] ∧ Blk w' (w.heap.size + 1) 3 #[.int .i64 src] ∧ Blk w' (w.heap.size + 2) 3 #[.int .i64 dst] ∧ Blk w' (w.heap.size + 3) 3 #[.int .i64 n] := by
  obtain ⟨W1, hW1, hB1, hk1, hl1⟩ := box1 w #[.slice Aq p.quo.length cq, .slice Ac p.cons.length cc] 25
  have s1 : W1.heap.size = w.heap.size + 1 := by rw [← hW1]; simp
  obtain ⟨W2, hW2, hB2, hk2, hl2⟩ := box1 W1 #[.int .i64 src] 3
  have s2 : W2.heap.size = w.heap.size + 2 := by rw [← hW2]; simp [s1]
  obtain ⟨W3, hW3, hB3, hk3, hl3⟩ := box1 W2 #[.int .i64 dst] 3
  have s3 : W3.heap.size = w.heap.size + 3 := by rw [← hW3]; simp [s2]
  obtain ⟨W4, hW4, hB4, hk4, hl4⟩ := box1 W3 #[.int .i64 n] 3
  have s4 : W4.heap.size = w.heap.size + 4 := by rw [← hW4]; simp [s3]
  rw [s1] at hk2
  rw [s2] at hk3
  rw [s3] at hk4
  have S1 := Lib.hid s1
  have S2 := Lib.hid s2
  have S3 := Lib.hid s3
  have S4 := Lib.hid s4
  clear s1 s2 s3 s4
  unfold Pln.val
  go_enter Tryz.func33, Tryz.ntmps33
  go_wp2
  go_ret
  refine ⟨?_, (hB1.trans hB2).trans (hB3.trans hB4), S4.out, ((hk1.ext hB2).ext hB3).ext hB4, (hk2.ext hB3).ext hB4, hk3.ext hB4, hk4⟩
  rw [S1.out, S2.out, S3.out]
  rfl

end Go.Proofs.YtifopbkhflpbfaaGreat


/- A range over a function whose iterator writes a box of its own between the rounds. · Layer 35 (multicast): the iterator up. · Layer 35 (multicast): Check, Reached. -/
import Derived.Test.YtbgdglcnminbaaaGreatMcWN
import Derived.RangeFuncNested
import Derived.Test.YtbgdglcnminbaaaGreatMcBE
import Derived.Sort.LoopGhostIn
import Derived.BigQuiet
import Derived.Test.YtbgdglcnminbaaaGreatRchD
namespace Go.Proofs.YtbgdglcnminbaaaGreat
set_option linter.unusedVariables false
open Go.RowKit Go.Shelf

/-- What a world keeps while the iterator writes its box. -/
def AbW {β : Type} (Bi : Nat) (J : β → World → Prop) : Prop := ∀ s A B, J s A → A.grownBy B (some Bi) → J s B
/-- The contract of an iterator that writes the box Bi. -/
def SeqStopsW {α : Type} (F : Fence) (n : Nat) (P : Program) (g : Nat) (lb : Array Value) (encs : α → Array Value) (Kp : World → World → Prop) (Bi : Nat) (S Sp : List α → Prop) (N : Nat) (w : World) : Prop :=
  ∀ (l : Nat) (J Jx : List α → World → Prop) (W : World), Below w.heap.size w W → AbW Bi J → AbW Bi Jx →
    (∀ pre x A, J pre A → pre.length < N → YieldAt F (n - 1) P l (encs x) A fun e B =>
      (e = .returned (.bool true) ∧ J (pre ++ [x]) B ∧ Kp A B) ∨ (e = .returned (.bool false) ∧ Jx (pre ++ [x]) B)) →
    J [] W →
    CallsIn F n P g (#[.func (.yield l) #[] #[]] ++ lb) W fun e B => (∃ v, e = .returned v) ∧ ((∃ xs, S xs ∧ J xs B) ∨ (∃ pre, Sp pre ∧ Jx pre B))

/-- The two blocks of the loop's books. -/
def Books (D : Nat) (r : Loop) (W : World) : Prop := W.heap[D + 1]? = some (.loop r) ∧ W.heap[D]? = some (.deferred (some []))
theorem Books.lt {D : Nat} {r : Loop} {W : World} (h : Books D r W) : D + 1 < W.heap.size := (Array.getElem?_eq_some_iff.1 h.1).1
theorem Books.from {D : Nat} {r : Loop} {A B : World} (h : Books D r A) (hk : KeepsFrom D A B) : Books D r B :=
  ⟨hk.same _ _ (Nat.le_succ _) h.1 rfl, hk.same _ _ (Nat.le_refl _) h.2 rfl⟩
theorem Books.grown {D b : Nat} {r : Loop} {A B : World} (h : Books D r A) (hb : b < D) (hg : A.grownBy B (some b)) : Books D r B := by
  have := h.lt
  exact ⟨(hg.block _ h.lt (fun e => by injection e; omega)).trans h.1, (hg.block _ (by omega) (fun e => by injection e; omega)).trans h.2⟩
theorem Books.put {D : Nat} {r : Loop} {A : World} (h : Books D r A) (r' : Loop) : Books D r' (A.putObj (D + 1) (.loop r')) :=
  ⟨World.putObj_heap_same h.lt, (World.putObj_heap_other (by omega)).trans h.2⟩

theorem wpIn_rangeW {F : Fence} {n : Nat} {P : Program} {α : Type} {g : Operand} {ps : Array Tmp} {assign body : Code} {Q : Exit → Act → World → Prop} {a : Act} {w : World}
    (hro : F.round = none) (h1 : 1 ≤ n) {gf : Nat} {lb : Array Value} (hg : a.eval g = .func (.func gf) #[] lb) (hFg : F.fn gf) (eg : ∀ args w, (callFunc gf args).run P w = .ok (.enter gf args) w)
    {encs : α → Array Value} {Kp : World → World → Prop} {Bi : Nat} {S Sp : List α → Prop} {N : Nat} {w0 : World} (hseq : SeqStopsW F (n - 1) P gf lb encs Kp Bi S Sp N w0) (hBi : Bi < w.heap.size)
    (hKt : ∀ {A B C : World}, Kp A B → Kp B C → Kp A C) (hKb : ∀ (W : World) (l : Nat) (o o' : Obj), w.heap.size ≤ l → W.heap[l]? = some o → o.isCells = false → Kp W (W.putObj l o')) (hb0 : Below w0.heap.size w0 w) (hps : ∀ x, (encs x).size = ps.size)
    (I : List α → World → Prop) (Ix : Code → List α → World → Prop) (hI : OwnFrom w.heap.size I) (hIx : ∀ c, OwnFrom w.heap.size (Ix c)) (hIw : AbW Bi I) (hIxw : ∀ c, AbW Bi (Ix c)) (h0 : I [] w) (a₁ : α → Act)
    (hassign : ∀ (l : Nat) (x : α) (W : World) (K : Act → World → Prop), K (a₁ x) W →
      assign.wpIn (F.inRound l) (n - 1 - 1) P (Exit.then K (fun _ _ _ => False)) { tmps := (ps.zip (encs x)).foldl (fun t (p, v) => t.setIfInBounds p v) a.tmps, defers := [] } W)
    (hbody : ∀ (l : Nat) (pre : List α) (x : α) (W : World), I pre W → pre.length < N → body.wpIn (F.inRound l) (n - 1 - 1) P (ownPostG w.heap.size Kp I Ix (pre ++ [x]) W) (a₁ x) W)
    (hdone : ∀ (D : Nat) (xs : List α) (W : World), w.heap.size ≤ D → S xs → I xs W → W.heap[D]? = some (.deferred (some [])) → Q .normal { a with defers := { target := .collected D, args := #[] } :: a.defers } W)
    (hstop : ∀ (D : Nat) (c : Code) (pre : List α) (W : World), w.heap.size ≤ D → Sp pre → Ix c pre W → W.heap[D]? = some (.deferred (some [])) → c.wpIn F n P Q { a with defers := { target := .collected D, args := #[] } :: a.defers } W) :
    (Code.rangeFunc g ps assign body).wpIn F n P Q a w := by
  refine wpIn_rangeFunc (fun fn hfn => ?_)
  rw [hro]
  obtain ⟨D, hD⟩ : ∃ D, D = w.heap.size := ⟨_, rfl⟩
  let R : LoopState → Option Code → Loop := fun st pe => { state := st, pending := pe, fn, tmps := a.tmps, params := ps, assign, body, defers := D }
  have hR : ∀ st pe, R st pe = { state := st, pending := pe, fn, tmps := a.tmps, params := ps, assign, body, defers := D } := fun _ _ => rfl
  have hent := run_enterLoop_outer (P := P) (w := w) fn a.tmps ps assign body
  rw [← hD, ← hR] at hent
  generalize R = R at hR hent
  obtain ⟨W1, hW1⟩ : ∃ W1, (w.alloc (.deferred (some []))).alloc (.loop (R .ready none)) = W1 := ⟨_, rfl⟩
  have hB1 : Books D (R .ready none) W1 := by
    rw [hD, ← hW1]
    have e := World.alloc_heap_new (w.alloc (.deferred (some []))) (.loop (R .ready none))
    rw [World.size_alloc] at e
    exact ⟨e, (Below.heap_alloc _ _ _ (by simp)).trans (World.alloc_heap_new w _)⟩
  have hI1 : I [] W1 := by rw [← hW1]; exact hI.alloc _ (hI.alloc _ h0)
  have hb1 : Below w0.heap.size w0 W1 := by
    rw [← hW1]; exact hb0.trans ((((Below.refl _ w).alloc (Nat.le_refl _) _).alloc (by simp) _).mono hb0.size)
  rw [hW1] at hent
  rw [← hD] at hI hIx hdone hstop hBi hKb hbody
  refine ⟨_, _, W1, { target := .fn (.func gf) lb, args := #[.func (.yield (D + 1)) #[] #[]] }, W1, gf, #[.func (.yield (D + 1)) #[] #[]] ++ lb, W1, hent, ?_, ?_, ?_, fun _ => h1, ?_⟩
  · simp only [resolve, hg]
    simp [go_sem]
  · intro f' hf'
    simp [Target.leads] at hf'
    subst hf'
    exact hFg
  · simp [invoke, go_sem, eg]
  have putI : ∀ {J : List α → World → Prop} {s : List α} {W : World} {r r' : Loop}, OwnFrom D J → J s W → Books D r W → J s (W.putObj (D + 1) (.loop r')) := fun hJ hj hb => hJ.putObj _ hj (Nat.le_succ _) hb.1 rfl
  have hround : ∀ pre x A, (I pre A ∧ Books D (R .ready none) A) → pre.length < N → YieldAt F (n - 1 - 1) P (D + 1) (encs x) A fun e B =>
      (e = .returned (.bool true) ∧ (I (pre ++ [x]) B ∧ Books D (R .ready none) B) ∧ Kp A B) ∨ (e = .returned (.bool false) ∧ ∃ c, Ix c (pre ++ [x]) B ∧ Books D (R .done (some c)) B) := by
    rintro pre x A ⟨hi, hb⟩ hlen
    have hy := run_yield (P := P) (args := encs x) hb.1 (by rw [hR]; exact hps x)
    rw [hR] at hy
    refine ⟨fn, _, assign, body, hy, roundIn_of_wpIn hfn (hassign _ x A _ ⟨_, run_beginRound hb.1 (by rw [hR]), ?_⟩)⟩
    have hb2 := hb.put { R .ready none with state := .busy }
    refine wpIn_mono (hbody _ pre x _ (putI hI hi hb) hlen) ?_
    have hk0 : Kp A (A.putObj (D + 1) (.loop { R .ready none with state := .busy })) := hKb _ _ _ _ (Nat.le_succ _) hb.1 rfl
    -- the end of a round
    have fin : ∀ (j : Option Code) (C : World), KeepsFrom D (A.putObj (D + 1) (.loop { R .ready none with state := .busy })) C →
        (Instr.endRound (D + 1) j).run P C = .ok (.bool j.isNone) (C.putObj (D + 1) (.loop (R (if j.isNone then .ready else .done) j))) ∧ Books D { R .ready none with state := .busy } C := fun j C hk => by
      have hb3 := hb2.from hk
      have e := run_endRound (P := P) j hb3.1
      refine ⟨?_, hb3⟩
      rw [hR] at e ⊢
      exact e
    have out : ∀ (c : Code) (C : World), KeepsFrom D (A.putObj (D + 1) (.loop { R .ready none with state := .busy })) C → Ix c (pre ++ [x]) C →
        (Instr.endRound (D + 1) (some c)).run P C = .ok (.bool false) (C.putObj (D + 1) (.loop (R .done (some c)))) ∧ ∃ c', Ix c' (pre ++ [x]) (C.putObj (D + 1) (.loop (R .done (some c)))) ∧ Books D (R .done (some c')) (C.putObj (D + 1) (.loop (R .done (some c)))) := fun c C hk hx => by
      obtain ⟨e, hb3⟩ := fin (some c) C hk
      exact ⟨e, c, putI (hIx c) hx hb3, hb3.put _⟩
    intro e a3 C hp
    cases e with
    | normal =>
      obtain ⟨hk3, hkp3, hi3⟩ := hp
      obtain ⟨hr, hb3⟩ := fin none C hk3
      exact ⟨_, _, hr, .inl ⟨rfl, ⟨putI hI hi3 hb3, hb3.put _⟩, hKt (hKt hk0 hkp3) (hKb _ _ _ _ (Nat.le_succ _) hb3.1 rfl)⟩⟩
    | ret => exact ⟨_, _, (out .ret C hp.1 hp.2).1, .inr ⟨rfl, (out .ret C hp.1 hp.2).2⟩⟩
    | exit id => exact ⟨_, _, (out (.exit id) C hp.1 hp.2).1, .inr ⟨rfl, (out (.exit id) C hp.1 hp.2).2⟩⟩
    | goto t => exact ⟨_, _, (out (.goto t) C hp.1 hp.2).1, .inr ⟨rfl, (out (.goto t) C hp.1 hp.2).2⟩⟩
    | panic ch => exact hp.elim
    | outgrown => exact hp.elim
  refine (hseq (D + 1) (fun pre W => I pre W ∧ Books D (R .ready none) W) (fun pre W => ∃ c, Ix c pre W ∧ Books D (R .done (some c)) W) W1 hb1
    (fun s A B hs hg' => ⟨hIw s A B hs.1 hg', hs.2.grown hBi hg'⟩) (fun s A B ⟨c, hc, hb⟩ hg' => ⟨c, hIxw c s A B hc hg', hb.grown hBi hg'⟩) hround ⟨hI1, hB1⟩).mono ?_
  rintro e W2 ⟨⟨v, rfl⟩, (⟨xs, hS, hi, hb⟩ | ⟨pre, hSp, c, hi, hb⟩)⟩
  · have e := run_endLoop (P := P) hb.1 (by rw [hR]; simp)
    rw [hR] at e
    exact ⟨none, _, e, hdone _ xs _ (Nat.le_refl _) hS (putI hI hi hb) ((World.putObj_heap_other (by omega)).trans hb.2)⟩
  · have e := run_endLoop (P := P) hb.1 (by rw [hR]; simp)
    rw [hR] at e
    exact ⟨some c, _, e, hstop _ c pre _ (Nat.le_refl _) hSp (putI (hIx c) hi hb) ((World.putObj_heap_other (by omega)).trans hb.2)⟩

end Go.Proofs.YtbgdglcnminbaaaGreat

namespace Go.Proofs.YtbgdglcnminbaaaGreat
set_option linter.unusedVariables false
set_option linter.unusedSimpArgs false
open Go.RowKit Go.Shelf
attribute [local go_sem] Oper.semAt_some

/-- What up yields from the branch i on, at i + 1. -/
def upN (l : List Br) : Nat → List Int
  | 0 => []
  | k + 1 => (k : Int) :: (if (gbr l k).par < -1 ∨ (k : Int) ≤ (gbr l k).par then [-2] else upN l ((gbr l k).par + 1).toNat)
termination_by k => k
decreasing_by omega
theorem upN_0 (l : List Br) : upN l 0 = [] := by rw [upN]
theorem upN_s (l : List Br) (k : Nat) : upN l (k + 1) = (k : Int) :: (if (gbr l k).par < -1 ∨ (k : Int) ≤ (gbr l k).par then [-2] else upN l ((gbr l k).par + 1).toNat) := by rw [upN]
theorem KpZ.out {n lo hi : Nat} {w W W' : World} (h : KpZ n lo hi W W') (hw : Ext w W) (h1 : w.heap.size ≤ n) (h2 : w.heap.size ≤ lo) : Ext w W' :=
  Below.trans hw ⟨h.os, h.tape, h.output, h.size, fun k hk => h.block k (by omega) (by omega)⟩
theorem grown_of_ext {A B : World} {b : Nat} (h : Ext A B) : A.grownBy B (some b) := ⟨h.os, h.tape, h.output, h.size, fun k hk _ => h.block k hk⟩
abbrev UpX (l : List Br) (k0 : Nat) := { x : Int // x ∈ upN l k0 }
def upV {l : List Br} {k0 : Nat} (x : UpX l k0) : Array Value := #[.int .i64 x.1]
def unU {l : List Br} {k0 : Nat} (ys : List (UpX l k0)) : List Int := ys.map (·.1)
theorem unU_snoc {l : List Br} {k0 : Nat} (ys : List (UpX l k0)) (x : UpX l k0) : unU (ys ++ [x]) = unU ys ++ [x.1] := by simp [unU]
theorem unU_len {l : List Br} {k0 : Nat} (ys : List (UpX l k0)) : (unU ys).length = ys.length := by simp [unU]
theorem upN_mem {l : List Br} : ∀ (k : Nat), ∀ x ∈ upN l k, x = -2 ∨ (0 ≤ x ∧ x < k)
  | 0, x, h => by rw [upN_0] at h; cases h
  | k + 1, x, h => by
    rw [upN_s] at h
    rcases List.mem_cons.1 h with rfl | h
    · right; omega
    · split at h
      · left; simpa using h
      · rename_i hn
        have := upN_mem ((gbr l k).par + 1).toNat x h
        omega

set_option maxRecDepth 100000 in
set_option maxHeartbeats 4000000 in
theorem up_iter (li Bl Bi n₁ lo hi : Nat) (A : Option Addr) (c : Nat) (l : List Br) (k0 : Nat) (w0 W : World) (h : Rd EBr w0 A l) (hmax : l.length ≤ 1000000) (hk0 : k0 ≤ l.length) (hE : Ext w0 W) (hn0 : w0.heap.size ≤ n₁) (hlo : w0.heap.size ≤ lo) (hBi : w0.heap.size ≤ Bi)
    (kl : Blk W Bl 34 #[.slice A l.length c]) (ki : Blk W Bi 3 #[.int .i64 ((k0 : Int) - 1)]) (bl : Bl < n₁ ∧ (Bl < lo ∨ hi ≤ Bl) ∧ Bl ≠ Bi) (bi : Bi < n₁ ∧ (Bi < lo ∨ hi ≤ Bi))
    (J Jx : List (UpX l k0) → World → Prop) (hJ : AbW Bi J)
    (hY : ∀ pre x W, J pre W → pre.length < l.length + 2 → YieldAt Fence.wide 3 Tryz.prog li (upV x) W fun e W' =>
      (e = .returned (.bool true) ∧ J (pre ++ [x]) W' ∧ KpZ n₁ lo hi W W') ∨ (e = .returned (.bool false) ∧ Jx (pre ++ [x]) W'))
    (hj : J [] W) :
    CallsIn Fence.wide 4 Tryz.prog 60 #[.func (.yield li) #[] #[], .pointer (some ⟨Bi, 0, none⟩), .pointer (some ⟨Bl, 0, none⟩)] W fun e W' => (∃ v, e = .returned v) ∧
      ((∃ ys, unU ys = upN l k0 ∧ J ys W') ∨ (∃ pre : List (UpX l k0), True ∧ Jx pre W')) := by
  refine callsIn_of_wp Tryz.func60 rfl trivial ?_ rfl
  simp only [Tryz.ntmps60, List.size_toArray, List.length_cons, List.length_nil, Nat.reduceAdd, Nat.reduceSub, Array.replicate_succ, Array.replicate_zero, List.push_toArray, List.append_toArray, List.nil_append, List.cons_append]
  gi_wp2
  gi_loopg [] k0 (fun k wr => k ≤ l.length ∧ Blk wr Bi 3 #[.int .i64 ((k : Int) - 1)] ∧ Blk wr Bl 34 #[.slice A l.length c] ∧ Ext w0 wr ∧ ∃ pre : List (UpX l k0), Hid (unU pre ++ upN l k = upN l k0 ∧ pre.length + k ≤ l.length) ∧ J pre wr)
  case atStart => exact ⟨hk0, ki, kl, hE, [], Lib.hid ⟨by simp [unU], by simpa using hk0⟩, hj⟩
  case round =>
    obtain ⟨hk, ki1, kl1, hE1, pre, hcov, hjr⟩ := hrel
    have s0 := ki1.cell
    have s1 := ki1.lt
    clear ki kl hE
    cases gk with
    | zero =>
      gi_wp2
      go_end0
      exact ⟨⟨_, rfl⟩, .inl ⟨pre, by have := hcov.out.1; rwa [upN_0, List.append_nil] at this, hjr⟩⟩
    | succ m =>
      have hlt : m < l.length := by omega
      have em : ((m + 1 : Nat) : Int) - 1 = (m : Int) := by omega
      rw [em] at s0
      have hmem : (m : Int) ∈ upN l k0 := by rw [← hcov.out.1, upN_s]; simp
      obtain ⟨fn, tmps, assign, body, hy, hR⟩ := hY pre ⟨(m : Int), hmem⟩ wr hjr (by have := hcov.out.2; omega)
      dsimp only [upV] at hy
      gi_wp2
      refine hR.mono ?_
      rintro e W6 (⟨rfl, hJ6, hk6⟩ | ⟨rfl, hJx6⟩)
      case inr =>
        gi_wp2
        refine bodyPost_ret (results_none rfl _ _ _) rfl ?_
        exact ⟨⟨_, rfl⟩, .inr ⟨_, trivial, hJx6⟩⟩
      have ki6 := hk6.blk ki1 bi.1 bi.2
      have kl6 := hk6.blk kl1 bl.1 bl.2.1
      have hE6 := hk6.out hE1 hn0 hlo
      rw [em] at ki6
      obtain ⟨b, o, rfl, hb, c0, c1, c2, c3, c4⟩ := (h.ext hE6).br hlt
      have Hup := Lib.hid (upN_s l m)
      rw [gbr_get hlt] at Hup
      generalize l[m] = y at *
      clear s0 s1
      have s0 := ki6.cell
      have s1 := ki6.lt
      have s2 := kl6.cell
      have s3 := kl6.lt
      have s4 := ki6.frozen
      have hN := Near.refl W6
      by_cases hb1 : y.par < -1
      · have d1 : decide (y.par < -1) = true := decide_eq_true hb1
        have HB := Lib.hid (Hup.out.trans (by rw [if_pos (.inl hb1)]))
        clear hb1 Hup
        gi_wp2
        refine wpIn_wide.2 ?_
        have hq := quiet_near hN
        refine wp_region_quiet_below (by kernel_rfl) (by kernel_rfl) ?_
        repeat (first | go_big_quiet_skip | (go_big_quiet_want; go_big_quiet_op; first | go_big_quiet_on | (apply Exists.intro; refine ⟨fun _ => ?_, ?_⟩; (focus (first | fail)); go_big_quiet_on)))
        refine wpQuiet_nil ?_
        intro w1 hw1
        clear hq
        replace hw1 := quiet_ext hw1
        replace hN := hN.step hw1
        have hC := hN.2
        have e2 : unU pre ++ [(m : Int), -2] = upN l k0 := by have := hcov.out.1; rwa [HB.out] at this
        have hm2 : (-2 : Int) ∈ upN l k0 := by rw [← e2]; simp
        have E2 := Lib.hid e2
        clear e2
        obtain ⟨fn2, tmps2, assign2, body2, hy2, hR2⟩ := hY (pre ++ [⟨(m : Int), hmem⟩]) ⟨-2, hm2⟩ w1 (hJ _ _ _ hJ6 (grown_of_ext hw1)) (by have := hcov.out.2; simp; omega)
        dsimp only [upV] at hy2
        gi_wp2
        refine hR2.mono ?_
        rintro e W7 (⟨rfl, hJ7, _⟩ | ⟨rfl, hJx7⟩)
        · gi_wp2
          refine bodyPost_ret (results_none rfl _ _ _) rfl ?_
          exact ⟨⟨_, rfl⟩, .inl ⟨_, by rw [unU_snoc, unU_snoc]; simpa using E2.out, hJ7⟩⟩
        · gi_wp2
          refine bodyPost_ret (results_none rfl _ _ _) rfl ?_
          exact ⟨⟨_, rfl⟩, .inr ⟨_, trivial, hJx7⟩⟩
      have d1 : decide (y.par < -1) = false := decide_eq_false hb1
      by_cases hb2 : (m : Int) ≤ y.par
      · have d2 : decide ((m : Int) ≤ y.par) = true := decide_eq_true hb2
        have HB := Lib.hid (Hup.out.trans (by rw [if_pos (.inr hb2)]))
        clear hb1 hb2 Hup
        gi_wp2
        refine wpIn_wide.2 ?_
        have hq := quiet_near hN
        refine wp_region_quiet_below (by kernel_rfl) (by kernel_rfl) ?_
        repeat (first | go_big_quiet_skip | (go_big_quiet_want; go_big_quiet_op; first | go_big_quiet_on | (apply Exists.intro; refine ⟨fun _ => ?_, ?_⟩; (focus (first | fail)); go_big_quiet_on)))
        refine wpQuiet_nil ?_
        intro w1 hw1
        clear hq
        replace hw1 := quiet_ext hw1
        replace hN := hN.step hw1
        have hC := hN.2
        have e2 : unU pre ++ [(m : Int), -2] = upN l k0 := by have := hcov.out.1; rwa [HB.out] at this
        have hm2 : (-2 : Int) ∈ upN l k0 := by rw [← e2]; simp
        have E2 := Lib.hid e2
        clear e2
        obtain ⟨fn2, tmps2, assign2, body2, hy2, hR2⟩ := hY (pre ++ [⟨(m : Int), hmem⟩]) ⟨-2, hm2⟩ w1 (hJ _ _ _ hJ6 (grown_of_ext hw1)) (by have := hcov.out.2; simp; omega)
        dsimp only [upV] at hy2
        gi_wp2
        refine hR2.mono ?_
        rintro e W7 (⟨rfl, hJ7, _⟩ | ⟨rfl, hJx7⟩)
        · gi_wp2
          refine bodyPost_ret (results_none rfl _ _ _) rfl ?_
          exact ⟨⟨_, rfl⟩, .inl ⟨_, by rw [unU_snoc, unU_snoc]; simpa using E2.out, hJ7⟩⟩
        · gi_wp2
          refine bodyPost_ret (results_none rfl _ _ _) rfl ?_
          exact ⟨⟨_, rfl⟩, .inr ⟨_, trivial, hJx7⟩⟩
      have d2 : decide ((m : Int) ≤ y.par) = false := decide_eq_false hb2
      have HB := Lib.hid (Hup.out.trans (by rw [if_neg (fun e => e.elim hb1 hb2)]))
      clear Hup
      gi_wp2
      refine wpIn_wide.2 ?_
      have hq := quiet_near hN
      refine wp_region_quiet_below (by kernel_rfl) (by kernel_rfl) ?_
      repeat (first | go_big_quiet_skip | (go_big_quiet_want; go_big_quiet_op; first | go_big_quiet_on | (apply Exists.intro; refine ⟨fun _ => ?_, ?_⟩; (focus (first | fail)); go_big_quiet_on)))
      refine wpQuiet_nil ?_
      intro w1 hw1
      clear hq
      replace hw1 := quiet_ext hw1
      replace hN := hN.step hw1
      have hC := hN.2
      have hJ8 := hJ _ _ _ hJ6 (grown_of_ext hw1)
      have ki8 := ki6.ext hw1
      have kl8 := kl6.ext hw1
      have t0 := ki8.cell
      have t1 := ki8.lt
      have t2 := kl8.cell
      have t3 := kl8.lt
      have t4 := ki8.frozen
      have hE8 := hE6.trans hw1
      have g4 := c4
      rw [← hC b _ hb] at g4
      have hb8 : b < w1.heap.size := Nat.lt_of_lt_of_le hb hw1.size
      clear hC hN s0 s1 s2 s3 s4
      gi_wp2
      obtain ⟨k, hk2⟩ : ∃ k : Nat, y.par = (k : Int) - 1 := ⟨(y.par + 1).toNat, by omega⟩
      have hki : Blk (w1.setCell ⟨Bi, 0, none⟩ (.int .i64 y.par)) Bi 3 #[.int .i64 ((k : Int) - 1)] := by rw [← hk2]; exact ki8.set0 _
      go_roundg k
      case measure => omega
      case rel =>
        refine ⟨by omega, hki, kl8.far (fun e => bl.2.2 e) _, hE8.setCell hBi _, _, Lib.hid ⟨?_, ?_⟩, hJ _ _ _ hJ8 (grownBy_setCell' w1 Bi _)⟩
        · have e2 := hcov.out.1
          rw [HB.out, show (y.par + 1).toNat = k by omega] at e2
          rw [unU_snoc]
          simpa using e2
        · have := hcov.out.2
          simp
          omega

theorem up_stops (Bl Bi n₁ lo hi : Nat) (A : Option Addr) (c : Nat) (l : List Br) (k0 : Nat) (w0 w : World) (h : Rd EBr w0 A l) (hmax : l.length ≤ 1000000) (hk0 : k0 ≤ l.length) (hE : Ext w0 w) (hn0 : w0.heap.size ≤ n₁) (hlo : w0.heap.size ≤ lo) (hBi : w0.heap.size ≤ Bi)
    (kl : Blk w Bl 34 #[.slice A l.length c]) (ki : Blk w Bi 3 #[.int .i64 ((k0 : Int) - 1)]) (bl : Bl < n₁ ∧ (Bl < lo ∨ hi ≤ Bl) ∧ Bl ≠ Bi) (bi : Bi < n₁ ∧ (Bi < lo ∨ hi ≤ Bi)) :
    SeqStopsW Fence.wide 4 Tryz.prog 60 #[.pointer (some ⟨Bi, 0, none⟩), .pointer (some ⟨Bl, 0, none⟩)] (upV (l := l) (k0 := k0)) (KpZ n₁ lo hi) Bi (fun ys => unU ys = upN l k0) (fun _ => True) (l.length + 2) w :=
  fun li J Jx W hW hJ _ hY hj => up_iter li Bl Bi n₁ lo hi A c l k0 w0 W h hmax hk0 (hE.trans hW) hn0 hlo hBi (kl.ext hW) (ki.ext hW) bl bi J Jx hJ hY hj

set_option maxHeartbeats 400000 in
theorem up_any (A : Option Addr) (n c : Nat) (i : Int) (w : World) :
    Calls Tryz.prog 36 #[.slice A n c, .int .i64 i] w fun e w' =>
      e = .returned (.func (.func 60) #[] #[.pointer (some ⟨w.heap.size + 1, 0, none⟩), .pointer (some ⟨w.heap.size, 0, none⟩)]) ∧ Ext w w' ∧ w'.heap.size = w.heap.size + 2 ∧ Blk w' w.heap.size 34 #[.slice A n c] ∧ Blk w' (w.heap.size + 1) 3 #[.int .i64 i] := by
  obtain ⟨W1, hW1, hB1, hk1, hl1⟩ := box1 w #[.slice A n c] 34
  have s1 : W1.heap.size = w.heap.size + 1 := by rw [← hW1]; simp
  obtain ⟨W2, hW2, hB2, hk2, hl2⟩ := box1 W1 #[.int .i64 i] 3
  have s2 : W2.heap.size = w.heap.size + 2 := by rw [← hW2]; simp [s1]
  rw [s1] at hk2
  have S1 := Lib.hid s1
  have S2 := Lib.hid s2
  clear s1 s2
  go_enter Tryz.func36, Tryz.ntmps36
  go_wp2
  go_ret
  exact ⟨by rw [S1.out]; rfl, hB1.trans hB2, S2.out, hk1.ext hB2, hk2⟩

end Go.Proofs.YtbgdglcnminbaaaGreat

namespace Go.Proofs.YtbgdglcnminbaaaGreat
set_option linter.unusedVariables false
set_option linter.unusedSimpArgs false
open Go.RowKit Go.Shelf
attribute [local go_sem] Oper.semAt_some

theorem mT_len (p : Pln) (q : Req) (mem : List Int) (l : List Br) : (p.mT q mem l).length = 16 := by
  unfold Pln.mT
  split
  · exact Pln.mAt_len _ _ _ _
  · rfl

set_option maxRecDepth 100000 in
set_option maxHeartbeats 4000000 in
theorem mCheck_any (Aq : Option Addr) (cq : Nat) (Ac : Option Addr) (cc : Nat) (p : Pln) (q : Req) (Am : Option Addr) (cm : Nat) (mem : List Int) (Al : Option Addr) (cl : Nat) (l : List Br) (w : World) (h : PlnRd w Aq cq Ac cc p) (hmm : Rd EInt w Am mem) (hml : mem.length ≤ 1000000) (hl : Rd EBr w Al l) (hlm : l.length ≤ 1000000) :
    Calls Tryz.prog 17 #[p.val Aq cq Ac cc, q.val, .slice Am mem.length cm, .slice Al l.length cl] w fun e w' => e = .returned (.int .i64 (p.mchk q mem l)) ∧ Ext w w' := by
  obtain ⟨W0, hW0, hB0, hkp, hkq, hlp, hlq⟩ := box2 w #[.slice Aq p.quo.length cq, .slice Ac p.cons.length cc] q.cells 25 31
  simp only [Req.cells] at hW0 hkq
  have hch := mcheck_any Aq cq Ac cc p q Am cm mem Al cl l W0 (h.ext hB0) (hmm.ext hB0) hml (hl.ext hB0) hlm
  have hT := mT_len p q mem l
  have c0 := hkp.cell
  have c1 := hkq.cell
  generalize p.mT q mem l = T at *
  unfold Pln.val Req.val at hch ⊢
  go_enter Tryz.func17, Tryz.ntmps17
  go_wp2_with fail
  clear hW0
  refine hch.mono ?_
  rintro e w1 ⟨rfl, hb1⟩
  go_wp2_with (refine wpList_fresh16 rfl rfl rfl rfl rfl (by assumption) ?_; intro W7 hB7 hk7 hs7)
  go_ret
  exact ⟨rfl, (hB0.trans hb1).trans hB7⟩

theorem run_cut16 {k : Nat} (hk : k ≤ 16) (w : World) {g : Nat} :
    (Instr.sliceAt 62 (.pointer (some ⟨g, 0, none⟩)) none (some (.int .i64 (k : Int))) none).run Tryz.prog w = .ok (.slice (some ⟨g, 0, none⟩) k 16) w := by
  have ha : Tryz.prog.arrayLen 62 = 16 := by kernel_rfl
  have he : Tryz.prog.elem 62 = 3 := by kernel_rfl
  obtain ⟨ii, hii, hiz, hi1, hi2⟩ := info_parts info_int
  rw [run_sliceAt_array_h w _ _ (by kernel_rfl) .i64 _ (by omega) (by rw [ha]; omega), he, run_sizeOf w hii, ha]
  simp [Result.andThen, slicedAt, Addr.add]

theorem rd_arrV {w : World} {g : Nat} {t : TypeId} {T : List Int} (h : Blk w g t (arrV T)) {k : Nat} : Rd EInt w (some ⟨g, 0, none⟩) (T.take k) := by
  refine ⟨by rw [EInt.all_len], fun _ => ⟨_, rfl, h.lt, fun j u hu => ?_⟩⟩
  rw [Addr.add_lit, Nat.zero_add, h.cell]
  have e : (EInt.all (T.take k)) = (T.take k).map (Value.int .i64) := by
    induction T.take k with
    | nil => rfl
    | cons x l ih => simp only [Elt.all, List.flatMap_cons, List.map_cons] at ih ⊢; rw [ih]; rfl
  rw [e, List.getElem?_map] at hu
  rw [arrV, List.getElem?_toArray, List.getElem?_map]
  rw [Option.map_eq_some_iff] at hu ⊢
  obtain ⟨x, h1, h2⟩ := hu
  rw [List.getElem?_take] at h1
  split at h1
  · exact ⟨x, h1, h2⟩
  · cases h1

set_option maxRecDepth 100000 in
set_option maxHeartbeats 4000000 in
theorem Reached_any (Aq : Option Addr) (cq : Nat) (Ac : Option Addr) (cc : Nat) (p : Pln) (q : Req) (Al : Option Addr) (cl : Nat) (l : List Br) (w : World) (h : PlnRd w Aq cq Ac cc p) (hl : Rd EBr w Al l) (hlm : l.length ≤ 1000000) :
    Calls Tryz.prog 13 #[p.val Aq cq Ac cc, q.val, .slice Al l.length cl] w fun e w' => Ext w w' ∧ ((p.mchk q [] l = 0 ∧ ∃ v, e = .returned (.tuple #[v, .int .i64 0]) ∧ Owns EInt w' w.heap.size 3 v ((p.mAt q l l.length).take p.quo.length)) ∨ (p.mchk q [] l ≠ 0 ∧ e = .returned (.tuple #[.slice none 0 0, .int .i64 (p.mchk q [] l)]))) := by
  obtain ⟨W0, hW0, hB0, hkp, hkq, hlp, hlq⟩ := box2 w #[.slice Aq p.quo.length cq, .slice Ac p.cons.length cc] q.cells 25 31
  simp only [Req.cells] at hW0 hkq
  have hch := mcheck_any Aq cq Ac cc p q none 0 [] Al cl l W0 (h.ext hB0) Rd.nil (by simp) (hl.ext hB0) hlm
  simp only [List.length_nil] at hch
  have hT := mT_len p q [] l
  have c0 := hkp.cell
  have c1 := hkq.cell
  by_cases hk : p.mchk q [] l = 0
  · have HT := Lib.hid (show p.mT q [] l = p.mAt q l l.length by unfold Pln.mT; rw [if_pos hk])
    have Hk := Lib.hid hk
    rw [hk] at hch
    clear hk
    generalize p.mT q [] l = T at *
    have hok := Pln.ok_of (show p.chk = 0 from by
      have h2 := Hk.out
      unfold Pln.mchk at h2
      split at h2
      · rename_i hf
        exact (fineR_of hf.1).1
      · cases h2)
    have hn16 := hok.n16
    have hqc := h.qc
    have hlt : (T.take p.quo.length).length = p.quo.length := by rw [List.length_take, hT]; omega
    have hcut := fun w g => run_cut16 (k := p.quo.length) hn16 w (g := g)
    have hcl := fun A w (h : Rd EInt w A (T.take p.quo.length)) => cloneInt_any A 16 _ w h (by rw [hlt]; omega)
    rw [hlt] at hcl
    have Hlt := Lib.hid hlt
    have HT2 := Lib.hid hT
    have hE9 : ∀ {w}, Ext W0 w → True := fun _ => trivial
    clear hlt hok hE9
    unfold Pln.val Req.val at hch ⊢
    go_enter Tryz.func13, Tryz.ntmps13
    go_wp2_with fail
    clear hW0
    refine hch.mono ?_
    clear hch
    rintro e w1 ⟨rfl, hb1⟩
    have kp1 := hkp.ext hb1
    clear c0 c1 hT
    have hT := HT2.out
    go_wp2_with (refine wpList_fresh16 rfl rfl rfl rfl rfl (by assumption) ?_; intro W7 hB7 hk7 hs7; have c2 := (kp1.ext hB7).cell; have c3 := (kp1.ext hB7).lt)
    refine (hcl _ _ (rd_arrV hk7)).mono ?_
    rintro e w8 ⟨v, rfl, hv, hb8⟩
    go_wp2
    go_ret2
    have hE := (hB0.trans hb1).trans hB7
    exact ⟨hE.trans hb8, .inl ⟨Hk.out, v, rfl, by rw [← HT.out]; exact hv.mono hE.size⟩⟩
  · have d0 : (p.mchk q [] l != 0) = true := by simpa using hk
    have Hk := Lib.hid hk
    clear hk
    generalize p.mT q [] l = T at *
    unfold Pln.val Req.val at hch ⊢
    go_enter Tryz.func13, Tryz.ntmps13
    go_wp2_with fail
    clear hW0
    refine hch.mono ?_
    rintro e w1 ⟨rfl, hb1⟩
    go_wp2_with (refine wpList_fresh16 rfl rfl rfl rfl rfl (by assumption) ?_; intro W7 hB7 hk7 hs7)
    go_ret2
    exact ⟨(hB0.trans hb1).trans hB7, .inr ⟨Hk.out, rfl⟩⟩
end Go.Proofs.YtbgdglcnminbaaaGreat

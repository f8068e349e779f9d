
/- Layer 26 (reach): levels, Profile and Fastest. -/
import Derived.Test.YtifopbkhflpbfaaGreatRchI
import Derived.Test.YtifopbkhflpbfaaGreatRchW1
import Derived.Laws.ResultCell
namespace Go.Proofs.YtifopbkhflpbfaaGreat
set_option linter.unusedVariables false
set_option linter.unusedSimpArgs false
open Go.RowKit Go.Shelf
attribute [local go_sem] Oper.semAt_some

/-- Where the last step ends. -/
def endS (l : List Stp) : Int := match l.getLast? with | none => 0 | some s => s.til + 1
theorem endS_snoc (l : List Stp) (s : Stp) : endS (l ++ [s]) = s.til + 1 := by simp [endS]
theorem Chn.endS {p : Pln} {src dst n : Int} {l : List Stp} {t : Int} (h : Chn p src dst n l t) : endS l = t := by
  cases h with
  | nil => rfl
  | snoc h h1 h2 => rw [endS_snoc]; rfl
theorem info_lev : (Tryz.prog.info? 39).map (fun i => (i.zero, i.size, i.bytes)) = some (some (.agg #[.int .i64 0, .int .i64 0]), 2, 16) := by kernel_rfl

/-- What levels returns, in memory. -/
def LevR (p : Pln) (src dst n : Int) (w : World) (e : Ending) (w' : World) : Prop :=
  ∃ (A : Option Addr) (c : Nat) (out : List Lev) (b1 b2 er : Int), e = .returned (.tuple #[.slice A out.length c, .agg #[.int .i64 b1, .int .i64 b2], .int .i64 er]) ∧
    Owns ELev w' w.heap.size 39 (.slice A out.length c) out ∧ Ext w w' ∧ LevP p src dst n out (b1, b2) er

/-- Between two rounds of the loop over the steps. -/
def LevI (w : World) (n₁ lo : Nat) (pre : List StpX) (W : World) : Prop :=
  ∃ (A : Option Addr) (c : Nat) (b1 b2 e : Int), Owns ELev W n₁ 39 (.slice A pre.length c) (lvs (unX pre)) ∧
    Blk W lo 28 #[.slice A pre.length c] ∧ Blk W (lo + 1) 33 #[.int .i64 b1, .int .i64 b2] ∧ Blk W (lo + 2) 3 #[.int .i64 e] ∧
    Hid ((b1, b2) = bestS (unX pre) ∧ e = endS (unX pre)) ∧ (0 ≤ b1 ∧ b1 ≤ 1099511627776 ∧ 0 ≤ b2 ∧ b2 ≤ 1099511627776 ∧ 0 ≤ e ∧ e ≤ 1099511627775) ∧ pre.length ≤ 1000 ∧
    Blk W (w.heap.size + 1) 28 #[.slice none 0 0] ∧ Blk W (w.heap.size + 2) 33 #[.int .i64 0, .int .i64 0] ∧ Blk W (w.heap.size + 3) 29 #[.int .i64 0] ∧ Ext w W ∧ n₁ ≤ W.heap.size
theorem LevI.ext {w : World} {n₁ lo : Nat} {pre : List StpX} {W W' : World} (h : LevI w n₁ lo pre W) (hb : Ext W W') : LevI w n₁ lo pre W' := by
  obtain ⟨A, c, b1, b2, e, h1, h2, h3, h4, h5, h6, h7, h8, h9, h10, h11, h12⟩ := h
  exact ⟨A, c, b1, b2, e, h1.ext hb, h2.ext hb, h3.ext hb, h4.ext hb, h5, h6, h7, h8.ext hb, h9.ext hb, h10.ext hb, h11.trans hb, Nat.le_trans h12 hb.size⟩
theorem levI_own {w : World} {n₁ lo : Nat} (hn : w.heap.size ≤ n₁) : OwnFrom n₁ (LevI w n₁ lo) := by
  intro pre X Y row hs hg hr
  obtain ⟨A, c, b1, b2, e, h1, h2, h3, h4, h5, h6, h7, h8, h9, h10, h11, h12⟩ := hs
  have hr2 := fun r e => (hr r e).2
  exact ⟨A, c, b1, b2, e, h1.keptc hg hr2, h2.keptc hg hr2, h3.keptc hg hr2, h4.keptc hg hr2, h5, h6, h7, h8.keptc hg hr2, h9.keptc hg hr2, h10.keptc hg hr2, h11.keptb hg (fun r e => Nat.le_trans hn (hr r e).1), Nat.le_trans h12 hg.size⟩
/-- Behind a return out of the loop. -/
def LevX (w : World) (n₁ : Nat) (c : Code) (pre : List StpX) (W : World) : Prop :=
  c = .ret ∧ pre.length = 1001 ∧ Blk W (w.heap.size + 1) 28 #[.slice none 0 0] ∧ Blk W (w.heap.size + 2) 33 #[.int .i64 0, .int .i64 0] ∧ Blk W (w.heap.size + 3) 29 #[.int .i64 4] ∧ Ext w W
theorem levX_own {w : World} {n₁ : Nat} (hn : w.heap.size ≤ n₁) (c : Code) : OwnFrom n₁ (LevX w n₁ c) := by
  intro pre X Y row hs hg hr
  obtain ⟨h1, h2, h3, h4, h5, h6⟩ := hs
  have hr2 := fun r e => (hr r e).2
  exact ⟨h1, h2, h3.keptc hg hr2, h4.keptc hg hr2, h5.keptc hg hr2, h6.keptb hg (fun r e => Nat.le_trans hn (hr r e).1)⟩

theorem results_cell3 {fn : Func} {p q r : Tmp} {t u v : TypeId} (h : fn.results = #[.cell p t, .cell q u, .cell r v]) (tmps : Array Value) (P : Program) (w : World) :
    (results fn tmps).run P w =
      ((asAddr (tmps.getD p undef)).run P w).andThen fun a w1 => ((loadVar t a).run P w1).andThen fun x w2 =>
      ((asAddr (tmps.getD q undef)).run P w2).andThen fun a w1 => ((loadVar u a).run P w1).andThen fun y w2 =>
      ((asAddr (tmps.getD r undef)).run P w2).andThen fun a w1 => ((loadVar v a).run P w1).andThen fun z w2 => .ok (.tuple #[x, y, z]) w2 := by
  simp only [results, h]
  simp [Sem.run_bind, Result.andThen]
theorem lev_res {W : World} {g : Nat} {tmps : Array Value} {A : Option Addr} {N c : Nat} {b1 b2 er : Int} (h8 : tmps.getD 8 undef = .pointer (some ⟨g + 1, 0, none⟩)) (h9 : tmps.getD 9 undef = .pointer (some ⟨g + 2, 0, none⟩)) (h10 : tmps.getD 10 undef = .pointer (some ⟨g + 3, 0, none⟩))
    (k1 : Blk W (g + 1) 28 #[.slice A N c]) (k2 : Blk W (g + 2) 33 #[.int .i64 b1, .int .i64 b2]) (k3 : Blk W (g + 3) 29 #[.int .i64 er]) :
    (results Tryz.f18 tmps).run Tryz.prog W = .ok (.tuple #[.slice A N c, .agg #[.int .i64 b1, .int .i64 b2], .int .i64 er]) W := by
  have c1 := k1.cell
  have c2 := k2.cell
  have c3 := k3.cell
  rw [results_cell3 (p := 8) (q := 9) (r := 10) rfl, h8, h9, h10]
  simp [asAddr, Result.andThen, c1, c2, c3, go_sem]
theorem lev_store {w W : World} {g : Nat} {v u a b c a0 b0 c0 : Value} (k1 : Blk W (g + 1) 28 #[v]) (k2 : Blk W (g + 2) 33 #[a0, b0]) (k3 : Blk W (g + 3) 29 #[c0]) (hE : Ext w W) (hg : w.heap.size ≤ g) :
    ∃ W', (((W.setCell ⟨g + 1, 0, none⟩ u).setCell ⟨g + 2, 0, none⟩ a).setCell ⟨g + 2, 1, none⟩ b).setCell ⟨g + 3, 0, none⟩ c = W' ∧
      Blk W' (g + 1) 28 #[u] ∧ Blk W' (g + 2) 33 #[a, b] ∧ Blk W' (g + 3) 29 #[c] ∧ Ext w W' ∧ (∀ k, k < g + 1 ∨ g + 4 ≤ k → W'.heap[k]? = W.heap[k]?) ∧ W'.heap.size = W.heap.size ∧ KeepsOthers W W' := by
  have z1 := k1.set0 u
  have z2 : Blk (((W.setCell ⟨g + 1, 0, none⟩ u).setCell ⟨g + 2, 0, none⟩ a).setCell ⟨g + 2, 1, none⟩ b) (g + 2) 33 #[a, b] := ((k2.far (by simp) u).setCells_ [a, b] 0)
  refine ⟨_, rfl, ((z1.far (by simp) a).far (by simp) b).far (by simp) c, z2.far (by simp) c, (((k3.far (by simp) u).far (by simp) a).far (by simp) b).set0 c, ?_, ?_, ?_, ?_⟩
  · exact (((hE.setCell (by dsimp only; omega) _).setCell (by dsimp only; omega) _).setCell (by dsimp only; omega) _).setCell (by dsimp only; omega) _
  · intro k hk
    rw [Below.heap_setCell _ _ _ _ (by dsimp only; omega), Below.heap_setCell _ _ _ _ (by dsimp only; omega), Below.heap_setCell _ _ _ _ (by dsimp only; omega), Below.heap_setCell _ _ _ _ (by dsimp only; omega)]
  · simp [World.setCell]
  · exact (((KeepsOthers.setCell _ _ _).trans (KeepsOthers.setCell _ _ _)).trans (KeepsOthers.setCell _ _ _)).trans (KeepsOthers.setCell _ _ _)

/-- 'out = append(out, x)' inside a fence. -/
theorem wpListIn_push {α : Type} {E : Elt α} {F : Fence} {n : Nat} {P : Program} {w : World} {l : List α} {ops : Array Oper} {rest : List Oper} {o : Oper} {a : Act} {Q : Exit → Act → World → Prop} (hgd : o.guard = none) (s x : Operand) (t : TypeId)
    (ho : o.op = .call { callee := .builtin .append, args := #[s, x], argTypes := #[t, t] })
    (base : Nat) (e : TypeId) (i : TypeInfo) (z : Value) (bytes : Nat) (ht : P.underlying t = some (.slice e)) (hi : P.info? e = some i) (hz : i.zero = some z)
    (hsize : i.size = E.size) (hby : i.bytes = bytes) (hzs : z.cells.size = E.size)
    (v : Value) (hs : a.eval s = v) (hown : Owns E w base e v l)
    (g : Nat) (y : α) (hx : a.eval x = .slice (some ⟨g, 0, none⟩) 1 1) (hy : Blk w g e (E.cells y).toArray)
    (h63 : l.length + 1 ≤ maxLen) (hbytes : (l.length + 1) * bytes ≤ 140737488355328) (hbase : base ≤ w.heap.size)
    (h : ∀ v' w', Owns E w' base e v' (l ++ [y]) → w.grownBy w' v.ownBlock → (v'.ownBlock = v.ownBlock ∨ v'.ownBlock = some w.heap.size) → wpListIn F n P ops Q rest (a.put o.dst v') w') : wpListIn F n P ops Q (o :: rest) a w := by
  refine wpListIn_plain hgd fun K hK' => ?_
  obtain ⟨v', w', hrun, h2, h3, h4⟩ := run_append_any (P := P) w base t o.type e i z E.size bytes ht hi hz hsize hby hzs E.pos v l.length (E.all l) hown w.heap.size (some ⟨g, 0, none⟩) 1 1 (E.cells y) (reads_one hy) (E.one y) h63 hbytes hbase
  unfold Oper.wpIn
  refine ⟨?_, ?_⟩
  · simp [Oper.about, ho, resolve, Target.leads, Sem.run_pure]
  · rw [Oper.semAt_plain F _ _ (by rw [ho]; intro c hc'; cases hc')]
    simp only [execOp, ho, resolve, invoke, builtin, Sem.run_bind, Sem.run_pure, Result.andThen_ok, List.map_toArray, List.map_cons, List.map_nil, hs, hx, hrun]
    exact hK' _ _ (h v' w' (by
      unfold Owns
      rw [E.all_append, List.length_append]
      simpa [Elt.all] using h2) h3 h4)

theorem Owns.celld {α : Type} {E : Elt α} {w : World} {base : Nat} {e : TypeId} {v : Value} {l : List α} (h : Owns E w base e v l) {r : Nat} (hr : v.ownBlock = some r) : ∃ cur fr, w.heap[r]? = some (.cells cur e fr) := by
  rcases h.2 with ⟨rfl, _⟩ | ⟨g, cap, cur, rfl, _, hh, _⟩
  · cases hr
  · injection hr with hr
    subst hr
    exact ⟨_, _, hh⟩
theorem Blk.keptl {α : Type} {E : Elt α} {w w' : World} {k : Nat} {ty : TypeId} {cs : Array Value} (hk : Blk w k ty cs) {base : Nat} {e : TypeId} {v : Value} {l : List α} (ho : Owns E w base e v l) (hne : ty ≠ e) (hg : w.grownBy w' v.ownBlock) : Blk w' k ty cs :=
  (hg.block k hk.lt (fun e2 => by
    obtain ⟨cur, fr, h1⟩ := ho.celld e2.symm
    have h2 : w.heap[k]? = _ := hk
    rw [h1] at h2
    injection h2 with h2
    injection h2 with _ h2 _
    exact hne h2.symm)).trans hk
theorem KpT.grown {α : Type} {E : Elt α} {w w' : World} {n lo hi : Nat} {v : Value} {l : List α} (hn : n ≤ w.heap.size) (ho : Owns E w n 39 v l) (hg : w.grownBy w' v.ownBlock) : KpT n lo hi w w' :=
  ⟨KpR.grown hn hg (fun r e => .inl (ho.block e).1), fun k cs ty fr h1 h2 _ => (hg.block k (Array.getElem?_eq_some_iff.1 h2).1 (fun e2 => by
    obtain ⟨cur, fr2, h3⟩ := ho.celld e2.symm
    rw [h3] at h2
    injection h2 with h2
    injection h2 with _ h2 _
    exact h1 h2.symm)).trans h2⟩
theorem keeps_grown {α : Type} {E : Elt α} {w w' : World} {base : Nat} {e : TypeId} {v : Value} {l : List α} (ho : Owns E w base e v l) (hg : w.grownBy w' v.ownBlock) : KeepsOthers w w' :=
  ⟨hg.size, fun k o hk h => (hg.block k (Array.getElem?_eq_some_iff.1 hk).1 (fun e2 => by
    obtain ⟨cur, fr2, h3⟩ := ho.celld e2.symm
    rw [h3] at hk
    injection hk with hk
    subst hk
    cases h)).trans hk⟩

/-- Within a round of the loop over the steps. -/
structure LevF (w : World) (n₁ lo : Nat) (W0 : World) (A : Option Addr) (N c : Nat) (l : List Lev) (b1 b2 e : Int) (W : World) : Prop where
  o : Owns ELev W n₁ 39 (.slice A N c) l
  q1 : Blk W lo 28 #[.slice A N c]
  q2 : Blk W (lo + 1) 33 #[.int .i64 b1, .int .i64 b2]
  q3 : Blk W (lo + 2) 3 #[.int .i64 e]
  q4 : Blk W (w.heap.size + 1) 28 #[.slice none 0 0]
  q5 : Blk W (w.heap.size + 2) 33 #[.int .i64 0, .int .i64 0]
  q6 : Blk W (w.heap.size + 3) 29 #[.int .i64 0]
  x : Ext w W
  s : n₁ ≤ W.heap.size
  k : KpT n₁ lo (lo + 3) W0 W
  oth : KeepsOthers W0 W
theorem Owns.past {α : Type} {E : Elt α} {w : World} {base : Nat} {e : TypeId} {v : Value} {l : List α} (h : Owns E w base e v l) {b : Nat} (hb : b < base) (o : Nat) (u : Value) : Owns E (w.setCell ⟨b, o, none⟩ u) base e v l :=
  h.kept (grown_setCell (World.grownBy.refl w _) o u) (fun g hg e' => by injection e' with e'; have := (h.block hg).1; omega)
section
variable {w : World} {n₁ lo : Nat} {W0 : World} {A : Option Addr} {N c : Nat} {l : List Lev} {b1 b2 e : Int} {W : World}
theorem LevF.best (h : LevF w n₁ lo W0 A N c l b1 b2 e W) (h1 : w.heap.size + 4 ≤ lo) (h2 : lo + 3 ≤ n₁) (u1 u2 : Int) : LevF w n₁ lo W0 A N c l u1 u2 e ((W.setCell ⟨lo + 1, 0, none⟩ (.int .i64 u1)).setCell ⟨lo + 1, 1, none⟩ (.int .i64 u2)) := by
  obtain ⟨o, q1, q2, q3, q4, q5, q6, x, s, k, oth⟩ := h
  exact ⟨(o.past (by omega) _ _).past (by omega) _ _, (q1.far (by simp) _).far (by simp) _, q2.setCells_ [.int .i64 u1, .int .i64 u2] 0, (q3.far (by simp) _).far (by simp) _, (q4.far (by dsimp only; omega) _).far (by dsimp only; omega) _, (q5.far (by dsimp only; omega) _).far (by dsimp only; omega) _, (q6.far (by dsimp only; omega) _).far (by dsimp only; omega) _,
    (x.setCell (by dsimp only; omega) _).setCell (by dsimp only; omega) _, by simpa [World.setCell] using s, (k.trans (KpT.setCell _ (by omega) _ _)).trans (KpT.setCell _ (by omega) _ _), (oth.trans (KeepsOthers.setCell _ _ _)).trans (KeepsOthers.setCell _ _ _)⟩
theorem LevF.end_ (h : LevF w n₁ lo W0 A N c l b1 b2 e W) (h1 : w.heap.size + 4 ≤ lo) (h2 : lo + 3 ≤ n₁) (u : Int) : LevF w n₁ lo W0 A N c l b1 b2 u (W.setCell ⟨lo + 2, 0, none⟩ (.int .i64 u)) := by
  obtain ⟨o, q1, q2, q3, q4, q5, q6, x, s, k, oth⟩ := h
  exact ⟨o.past (by omega) _ _, q1.far (by simp) _, q2.far (by simp) _, q3.set0 _, q4.far (by dsimp only; omega) _, q5.far (by dsimp only; omega) _, q6.far (by dsimp only; omega) _,
    x.setCell (by dsimp only; omega) _, by simpa [World.setCell] using s, k.trans (KpT.setCell _ (by omega) _ _), oth.trans (KeepsOthers.setCell _ _ _)⟩
/-- Behind 'out = append(out, ..)'. -/
theorem LevF.push (h : LevF w n₁ lo W0 A N c l b1 b2 e W) (h1 : w.heap.size + 4 ≤ lo) (h2 : lo + 3 ≤ n₁) {W' : World} {A' : Option Addr} {N' c' : Nat} {l' : List Lev} (o : Owns ELev W' n₁ 39 (.slice A' N' c') l') (hg : W.grownBy W' (Value.slice A N c).ownBlock) :
    LevF w n₁ lo W0 A' N' c' l' b1 b2 e (W'.setCell ⟨lo, 0, none⟩ (.slice A' N' c')) := by
  obtain ⟨o0, q1, q2, q3, q4, q5, q6, x, s, k, oth⟩ := h
  have x' : Ext w W' := ext_grown x o0 (by omega) hg
  exact ⟨o.past (by omega) _ _, (q1.keptl o0 (by decide) hg).set0 _, (q2.keptl o0 (by decide) hg).far (by simp) _, (q3.keptl o0 (by decide) hg).far (by simp) _, (q4.keptl o0 (by decide) hg).far (by dsimp only; omega) _, (q5.keptl o0 (by decide) hg).far (by dsimp only; omega) _, (q6.keptl o0 (by decide) hg).far (by dsimp only; omega) _,
    x'.setCell (by dsimp only; omega) _, by have := hg.size; simp [World.setCell]; omega, (k.trans (KpT.grown s o0 hg)).trans (KpT.setCell _ (by omega) _ _), (oth.trans (keeps_grown o0 hg)).trans (KeepsOthers.setCell _ _ _)⟩
theorem LevF.alloc (h : LevF w n₁ lo W0 A N c l b1 b2 e W) (o : Obj) : LevF w n₁ lo W0 A N c l b1 b2 e (W.alloc o) := by
  have hb := (Ext.refl W).alloc o
  obtain ⟨o0, q1, q2, q3, q4, q5, q6, x, s, k, oth⟩ := h
  exact ⟨o0.ext hb, q1.ext hb, q2.ext hb, q3.ext hb, q4.ext hb, q5.ext hb, q6.ext hb, x.trans hb, Nat.le_trans s hb.size, k.trans (KpT.of_ext s hb), oth.trans (KeepsOthers.alloc _ _)⟩
end

theorem lev_leave {w W : World} {n₁ D : Nat} {A : Option Addr} {N c : Nat} {b1 b2 er : Int} {out : List Lev} {tmps : Array Value} {p : Pln} {src dst n : Int} (hn : w.heap.size ≤ n₁) (hD : n₁ ≤ D) (hK : W.heap[D]? = some (.deferred (some [])))
    (q1 : Blk W (w.heap.size + 1) 28 #[.slice A N c]) (q2 : Blk W (w.heap.size + 2) 33 #[.int .i64 b1, .int .i64 b2]) (q3 : Blk W (w.heap.size + 3) 29 #[.int .i64 er])
    (o : Owns ELev W w.heap.size 39 (.slice A N c) out) (hl : N = out.length) (hx : Ext w W) (hp : LevP p src dst n out (b1, b2) er)
    (h8 : tmps.getD 8 undef = .pointer (some ⟨w.heap.size + 1, 0, none⟩)) (h9 : tmps.getD 9 undef = .pointer (some ⟨w.heap.size + 2, 0, none⟩)) (h10 : tmps.getD 10 undef = .pointer (some ⟨w.heap.size + 3, 0, none⟩)) :
    NoPanic (bodyPostM Fence.wide 5 Tryz.prog Tryz.f18 (LevR p src dst n w)) Exit.ret { tmps := tmps, defers := [{ target := .collected D, args := #[] }] } W := by
  show LeavesInM _ _ _ _ _ _ [mkD D] .returning W
  refine ((DSx.nil D n₁ W).cons (Nat.le_refl _) hD hK).leaves ?_
  intro w' hw'
  obtain ⟨f1, f2, f3, f4, f5⟩ := hw' (fun W => Blk W (w.heap.size + 1) 28 #[.slice A N c] ∧ Blk W (w.heap.size + 2) 33 #[.int .i64 b1, .int .i64 b2] ∧ Blk W (w.heap.size + 3) 29 #[.int .i64 er] ∧ Owns ELev W w.heap.size 39 (.slice A N c) out ∧ Ext w W)
    (fun s X Y row hs hg hr => ⟨hs.1.keptc hg (fun r e => (hr r e).2), hs.2.1.keptc hg (fun r e => (hr r e).2), hs.2.2.1.keptc hg (fun r e => (hr r e).2), hs.2.2.2.1.keptc hg (fun r e => (hr r e).2), hs.2.2.2.2.keptb hg (fun r e => Nat.le_trans hn (hr r e).1)⟩) ⟨q1, q2, q3, o, hx⟩
  refine ⟨_, lev_res h8 h9 h10 f1 f2 f3, ?_⟩
  subst hl
  exact ⟨A, c, out, b1, b2, er, rfl, f4, f5, hp⟩

set_option maxRecDepth 100000 in
set_option maxHeartbeats 4000000 in
theorem levels_any (Aq : Option Addr) (cq : Nat) (Ac : Option Addr) (cc : Nat) (p : Pln) (src dst n : Int) (w : World) (h : PlnRd w Aq cq Ac cc p) :
    Calls Tryz.prog 18 #[p.val Aq cq Ac cc, .int .i64 src, .int .i64 dst, .int .i64 n] w (LevR p src dst n w) := by
  obtain ⟨i0, hi0, hz0, hz1, hz2⟩ := info_parts info_lev
  obtain ⟨W1, hW1, hB1, hk1, hl1⟩ := box1 w #[.slice Aq p.quo.length cq, .slice Ac p.cons.length cc] 25
  have s1 : W1.heap.size = w.heap.size + 1 := by rw [← hW1]; simp
  obtain ⟨W2, hW2, hB2, hk2, hl2⟩ := box1 W1 #[.slice none 0 0] 28
  have s2 : W2.heap.size = w.heap.size + 2 := by rw [← hW2]; simp [s1]
  obtain ⟨W3, hW3, hB3, hk3, hl3⟩ := box1 W2 #[.int .i64 0, .int .i64 0] 33
  have s3 : W3.heap.size = w.heap.size + 3 := by rw [← hW3]; simp [s2]
  obtain ⟨W4, hW4, hB4, hk4, hl4⟩ := box1 W3 #[.int .i64 0] 29
  have s4 : W4.heap.size = w.heap.size + 4 := by rw [← hW4]; simp [s3]
  obtain ⟨W5, hW5, hB5, hk5, hl5⟩ := box1 W4 #[.int .i64 src, .int .i64 dst] 3
  have s5 : W5.heap.size = w.heap.size + 5 := by rw [← hW5]; simp [s4]
  rw [s1] at hk2
  rw [s2] at hk3
  rw [s3] at hk4
  rw [s4] at hk5
  have E4 := ((hB1.trans hB2).trans (hB3.trans hB4))
  have E5 := E4.trans hB5
  have k1 := (((hk1.ext hB2).ext hB3).ext hB4).ext hB5
  have k2 := ((hk2.ext hB3).ext hB4).ext hB5
  have k3 := (hk3.ext hB4).ext hB5
  have k4 := hk4.ext hB5
  have hcp := ((hk1.ext hB2).ext hB3).ext hB4 |>.cell
  have hrv := rvalid_any Aq cq Ac cc p n (some ⟨w.heap.size + 4, 0, none⟩) 2 [src, dst] W5 (h.ext E5) (rd_blk hk5) (by simp)
  simp only [List.length_cons, List.length_nil, Nat.zero_add, Nat.reduceAdd] at hrv
  by_cases h0 : p.rv n [src, dst] = 0
  · rw [h0] at hrv
    by_cases h1 : src = dst
    · have d1 : (src == dst) = true := by simpa using h1
      have Hp := Lib.hid (show LevP p src dst n [] (0, 0) 10 by unfold LevP; rw [if_pos h0, if_pos h1]; exact ⟨rfl, rfl, rfl⟩)
      clear h0 h1
      unfold Pln.val at hrv ⊢
      go_enter Tryz.func18, Tryz.ntmps18
      go_wp2_with fail
      clear hW1 hW2 hW3 hW4 hW5 hcp
      refine hrv.mono ?_
      clear hrv
      rintro e W6 ⟨rfl, hb6⟩
      obtain ⟨W7, hW7, q1, q2, q3, hE7, _⟩ := lev_store (u := .slice none 0 0) (a := .int .i64 0) (b := .int .i64 0) (c := .int .i64 10) (k2.ext hb6) (k3.ext hb6) (k4.ext hb6) (E5.trans hb6) (Nat.le_refl _)
      have j2 := k2.ext hb6
      have j3 := k3.ext hb6
      have j4 := k4.ext hb6
      have f2 := j2.frozen
      have f3 := j3.frozen
      have f4 := j4.frozen
      have l4 := j4.lt
      have c2 := j2.cell
      have c3 := j3.cell
      have c4 := j4.cell
      go_wp2
      refine bodyPost_ret (lev_res rfl rfl rfl q1 q2 q3) rfl ?_
      exact ⟨none, 0, [], 0, 0, 10, rfl, Owns.none_ _ _, hE7, Hp.out⟩
    · have d1 : (src == dst) = false := by simpa using h1
      have hP := Pln.rv_pa h0 h1
      have hchk : p.chk = 0 := by
        apply Classical.byContradiction
        intro hh
        unfold Pln.rv at h0
        rw [if_neg hh] at h0
        omega
      have Hp := Lib.hid h0
      have H1 := Lib.hid h1
      clear h0 h1
      unfold Pln.val at hrv ⊢
      refine (callsIn_wide (n := 5)).1 ?_
      refine callsIn_of_wp_marks Tryz.func18 rfl trivial ?_ rfl
      refine wpIn_wide.2 ?_
      refine Code.wp_mono NoPanic.imp ?_
      simp only [Tryz.ntmps18, List.size_toArray, List.length_cons, List.length_nil, Nat.reduceAdd, Nat.reduceSub, Array.replicate_succ, Array.replicate_zero, List.push_toArray, List.append_toArray, List.nil_append, List.cons_append]
      go_wp2_with fail
      clear hW1 hW2 hW3 hW4 hW5 hcp
      refine hrv.mono ?_
      clear hrv
      rintro e W6 ⟨rfl, hb6⟩
      have j1 := k1.ext hb6
      have j2 := k2.ext hb6
      have j3 := k3.ext hb6
      have j4 := k4.ext hb6
      obtain ⟨V1, hV1, hD1, m1, v1⟩ := box1 W6 #[.slice none 0 0] 28
      have t1 : V1.heap.size = W6.heap.size + 1 := by rw [← hV1]; simp
      obtain ⟨V2, hV2, hD2, m2, v2⟩ := box1 V1 #[.int .i64 0, .int .i64 0] 33
      have t2 : V2.heap.size = W6.heap.size + 2 := by rw [← hV2]; simp [t1]
      obtain ⟨V3, hV3, hD3, m3, v3⟩ := box1 V2 #[.int .i64 0] 3
      have t3 : V3.heap.size = W6.heap.size + 3 := by rw [← hV3]; simp [t2]
      rw [t1] at m2
      rw [t2] at m3
      obtain ⟨V4, hV4⟩ : ∃ V4, V3.setCell ⟨W6.heap.size + 2, 0, none⟩ (.int .i64 0) = V4 := ⟨_, rfl⟩
      have t4 : V4.heap.size = W6.heap.size + 3 := by rw [← hV4]; simp [World.setCell, t3]
      have D4 : Ext W6 V4 := by rw [← hV4]; exact ((hD1.trans hD2).trans hD3).setCell (by dsimp only; omega) _
      have y3 : Blk V4 (W6.heap.size + 2) 3 #[.int .i64 0] := by rw [← hV4]; exact m3.set0 _
      have y2 : Blk V4 (W6.heap.size + 1) 33 #[.int .i64 0, .int .i64 0] := by rw [← hV4]; exact (m2.ext hD3).far (by simp) _
      have y1 : Blk V4 W6.heap.size 28 #[.slice none 0 0] := by rw [← hV4]; exact ((m1.ext hD2).ext hD3).far (by simp) _
      have mc := m3.cell
      have mf := m3.frozen
      have ml := m3.lt
      have hcp := (j1.ext D4).cell
      have hst := steps_any Aq cq Ac cc p src dst n V4
      rw [t4] at hst
      unfold Pln.val at hst
      go_wp2_with fail
      clear hV1 hV2 hV3 hV4 hcp mc mf ml
      refine hst.mono ?_
      clear hst
      rintro e W9 ⟨rfl, hb9, hs9, g1, g2, g3, g4⟩
      go_wp2_with fail
      have hz6 : w.heap.size + 5 ≤ W6.heap.size := by have := hb6.size; omega
      have hE6 : Ext w W6 := E5.trans hb6
      have hn9 : w.heap.size + 8 ≤ W9.heap.size := by omega
      have hE9 : Ext w W9 := (hE6.trans D4).trans hb9
      have x4 := (j2.ext D4).ext hb9
      have x5 := (j3.ext D4).ext hb9
      have x6 := (j4.ext D4).ext hb9
      refine (wpIn_wide (n := 5)).1 ?_
      refine wpIn_rangeFunc_ownH rfl (by omega) (gf := 49) (lb := #[.pointer (some ⟨W6.heap.size + 3, 0, none⟩), .pointer (some ⟨W6.heap.size + 3 + 1, 0, none⟩), .pointer (some ⟨W6.heap.size + 3 + 3, 0, none⟩), .pointer (some ⟨W6.heap.size + 3 + 2, 0, none⟩)]) rfl trivial (enters_of Tryz.func49 (by kernel_rfl) rfl)
        (steps_stops (W6.heap.size + 3) (W6.heap.size + 3 + 1) (W6.heap.size + 3 + 3) (W6.heap.size + 3 + 2) W9.heap.size W6.heap.size (W6.heap.size + 3) Aq cq Ac cc p src dst n w W9 h hchk hP hE9 hE9.size (by omega) (by omega) (Nat.le_refl _) g1 g2 g4 g3 ⟨by omega, by omega⟩ ⟨by omega, by omega⟩ ⟨by omega, by omega⟩ ⟨by omega, by omega⟩)
        KpT.trans (fun W l o o' hl h1 h2 _ => KpT.put W l o o' hl h1 h2) (Below.refl _ _) (fun _ => rfl)
        (LevI w W9.heap.size W6.heap.size) (LevX w W9.heap.size) (levI_own hE9.size) (fun c => levX_own hE9.size c)
        ⟨none, 0, 0, 0, 0, Owns.none_ _ _, y1.ext hb9, y2.ext hb9, y3.ext hb9, Lib.hid ⟨rfl, rfl⟩, ⟨by omega, by omega, by omega, by omega, by omega, by omega⟩, by simp, x4, x5, x6, hE9, Nat.le_refl _⟩
        (fun x a' W => ∃ Bx, W9.heap.size ≤ Bx ∧ Blk W Bx 66 #[.int .i64 x.1.fr, .int .i64 x.1.til, .int .i64 x.1.val] ∧ a' = { tmps := #[.agg #[.slice Aq p.quo.length cq, .slice Ac p.cons.length cc], .int .i64 src, .int .i64 dst, .int .i64 n, .pointer (some ⟨w.heap.size, 0, none⟩), undef, undef, undef, .pointer (some ⟨w.heap.size + 1, 0, none⟩), .pointer (some ⟨w.heap.size + 2, 0, none⟩), .pointer (some ⟨w.heap.size + 3, 0, none⟩), .int .i64 0, .pointer (some ⟨W6.heap.size, 0, none⟩), .pointer (some ⟨W6.heap.size + 1, 0, none⟩), .pointer (some ⟨W6.heap.size + 2, 0, none⟩), .pointer (some ⟨Bx, 0, none⟩), .agg #[.slice Aq p.quo.length cq, .slice Ac p.cons.length cc], .int .i64 n, .int .i64 src, .int .i64 dst, .slice (some ⟨w.heap.size + 4, 0, none⟩) 2 2, .int .i64 0, .int .i64 0, .bool false, undef, undef, .int .i64 src, .int .i64 dst, .bool false, undef, .agg #[.slice Aq p.quo.length cq, .slice Ac p.cons.length cc], .int .i64 src, .int .i64 dst, .int .i64 n, .func (.func 49) #[] #[.pointer (some ⟨W6.heap.size + 3, 0, none⟩), .pointer (some ⟨W6.heap.size + 3 + 1, 0, none⟩), .pointer (some ⟨W6.heap.size + 3 + 3, 0, none⟩), .pointer (some ⟨W6.heap.size + 3 + 2, 0, none⟩)], .agg #[.int .i64 x.1.fr, .int .i64 x.1.til, .int .i64 x.1.val], undef, undef, undef, undef, undef, undef, undef, undef, undef, undef, undef, undef, undef, undef, undef, undef, undef, undef, undef, undef, undef, undef, undef, undef, undef, undef, undef, undef, undef, undef, undef, undef, undef, undef, undef, undef, undef, undef, undef, undef, undef, undef, undef, undef, undef, undef, undef, undef, undef, undef, undef, undef, undef, undef], defers := [] })
        (fun x a' s X Y row hs hg hr => by obtain ⟨Bx, z1, z2, z3⟩ := hs; exact ⟨Bx, z1, z2.keptc hg (fun r e => (hr r e).2), z3⟩) ?assign ?body ?done ?stop
      case assign =>
        rintro l pre x W K hi hK
        have hBW : W9.heap.size ≤ W.heap.size := by obtain ⟨A, c, b1, b2, e, _, _, _, _, _, _, _, _, _, _, _, z⟩ := hi; exact z
        simp only [stpX]
        gi_wp2
        exact hK _ _ ((KeepsOthers.alloc _ _).from _) (KpT.of_ext hBW ((Ext.refl W).alloc _)) (hi.ext ((Ext.refl W).alloc _)) ⟨W.heap.size, hBW, Blk.new _ _ _, rfl⟩
      case body =>
        rintro l pre x a' W hl ⟨rr, hrr⟩ hI ⟨Bx, hbx, kx, rfl⟩ hlen
        obtain ⟨A, c, b1, b2, e, o1, r1, r2, r3, hbe, ⟨z1, z2, z3, z4, z5, z6⟩, z7, r4, r5, r6, r7, r8⟩ := hI
        obtain ⟨hx0, hx1, hx2, hx3⟩ := x.2
        have F0 : LevF w W9.heap.size W6.heap.size W A pre.length c (lvs (unX pre)) b1 b2 e W := ⟨o1, r1, r2, r3, r4, r5, r6, r7, r8, KpT.refl _ _ _ _, KeepsOthers.refl _⟩
        obtain ⟨a, ha⟩ : ∃ a, x.1.fr = a := ⟨_, rfl⟩
        obtain ⟨b, hb⟩ : ∃ b, x.1.til = b := ⟨_, rfl⟩
        obtain ⟨v, hv⟩ : ∃ v, x.1.val = v := ⟨_, rfl⟩
        rw [ha, hb, hv] at kx
        rw [ha] at hx0 hx1
        rw [hb] at hx1 hx2
        rw [hv] at hx2 hx3
        have hcx := kx.cell
        have hco := r1.cell
        have hfo := r1.frozen
        have hlo := r1.lt
        have hlx := kx.lt
        have hls : (lvs (unX pre)).length = pre.length := by rw [lvs_len, unX_len]
        have hxl : x.1 = ⟨a, b, v⟩ := by rw [← ha, ← hb, ← hv]
        have Hx := Lib.hid hxl
        have Hls := Lib.hid hls
        clear hls hxl
        rw [ha, hb, hv]
        have hfn : ∀ k, Fence.wide.fn k := fun _ => trivial
        have Hl9 := Lib.hid (show lvs (unX pre) ++ [⟨a, v⟩] = lvs (unX (pre ++ [x])) by rw [unX_snoc, lvs_snoc, Hx.out])
        have PUSH : ∀ {A6 c6 w6}, Owns ELev w6 W9.heap.size 39 (.slice A6 (pre.length + 1) c6) (lvs (unX (pre ++ [x]))) → (W.alloc (.cells #[.int .i64 a, .int .i64 v] 39)).grownBy w6 (Value.slice A pre.length c).ownBlock →
            ∃ W7, w6.setCell ⟨W6.heap.size, 0, none⟩ (.slice A6 (pre.length + 1) c6) = W7 ∧ LevF w W9.heap.size W6.heap.size W A6 (pre.length + 1) c6 (lvs (unX (pre ++ [x]))) b1 b2 e W7 ∧ Blk W7 Bx 66 #[.int .i64 a, .int .i64 b, .int .i64 v] :=
          fun o hg => ⟨_, rfl, (F0.alloc _).push (by omega) (by omega) o hg, ((kx.ext ((Ext.refl _).alloc _)).keptl (o1.ext ((Ext.refl _).alloc _)) (by decide) hg).far (by dsimp only; omega) _⟩
        have BEST : ∀ {A6 c6 W7}, LevF w W9.heap.size W6.heap.size W A6 (pre.length + 1) c6 (lvs (unX (pre ++ [x]))) b1 b2 e W7 → Blk W7 Bx 66 #[.int .i64 a, .int .i64 b, .int .i64 v] →
            ∃ W8, (W7.setCell ⟨W6.heap.size + 1, 0, none⟩ (.int .i64 b)).setCell ⟨W6.heap.size + 1, 1, none⟩ (.int .i64 v) = W8 ∧ LevF w W9.heap.size W6.heap.size W A6 (pre.length + 1) c6 (lvs (unX (pre ++ [x]))) b v e W8 ∧ Blk W8 Bx 66 #[.int .i64 a, .int .i64 b, .int .i64 v] :=
          fun F k => ⟨_, rfl, F.best (by omega) (by omega) b v, (k.far (by dsimp only; omega) _).far (by dsimp only; omega) _⟩
        have hbest : ∀ {W8 A6 c6 u1 u2}, LevF w W9.heap.size W6.heap.size W A6 (pre.length + 1) c6 (lvs (unX (pre ++ [x]))) u1 u2 e W8 → (u1, u2) = bestS (unX (pre ++ [x])) → (0 ≤ u1 ∧ u1 ≤ 1099511627776 ∧ 0 ≤ u2 ∧ u2 ≤ 1099511627776) → pre.length < 1000 →
            KeepsFrom W9.heap.size W (W8.setCell ⟨W6.heap.size + 2, 0, none⟩ (.int .i64 (b + 1))) ∧ KpT W9.heap.size W6.heap.size (W6.heap.size + 3) W (W8.setCell ⟨W6.heap.size + 2, 0, none⟩ (.int .i64 (b + 1))) ∧ LevI w W9.heap.size W6.heap.size (pre ++ [x]) (W8.setCell ⟨W6.heap.size + 2, 0, none⟩ (.int .i64 (b + 1))) := by
          intro W8 A6 c6 u1 u2 F hu hr hl
          have F9 := F.end_ (by omega) (by omega) (b + 1)
          refine ⟨F9.oth.from _, F9.k, A6, c6, u1, u2, b + 1, ?_, ?_, F9.q2, F9.q3, Lib.hid ⟨hu, by rw [unX_snoc, endS_snoc, Hx.out]⟩, ⟨hr.1, hr.2.1, hr.2.2.1, hr.2.2.2, by omega, by omega⟩, by simp; omega, F9.q4, F9.q5, F9.q6, F9.x, F9.s⟩
          · have := F9.o; rw [List.length_append, List.length_singleton]; exact this
          · have := F9.q1; rw [List.length_append, List.length_singleton]; exact this
        have Hbest := fun {W8 A6 c6 u1 u2} => @hbest W8 A6 c6 u1 u2
        clear hbest
        have Hs9 := Lib.hid hs9
        clear hs9 s1 s2 s3 s4 s5 t1 t2 t3 t4 F0 y1 y2 y3
        by_cases hp : pre.length = 1000
        · have d1 : decide ((1000 : Int) < (pre.length : Int) + 1) = true := decide_eq_true (by omega)
          have Hp1 := Lib.hid hp
          clear hp BEST Hbest
          gi_wp2_with (gi_at_builtin; refine wpListIn_push rfl (.tmp 36) (.tmp 42) _ (by rfl) W9.heap.size 39 i0 _ 16 Tryz.underlying28 hi0 hz0 hz1 hz2 (by rfl) (.slice A pre.length c) (by rfl) (o1.ext ((Ext.refl _).alloc _)) W.heap.size ⟨a, v⟩ (by rfl) (Blk.new W _ _) (by have := Hls.out; simp only [maxLen]; omega) (by have := Hls.out; omega) (by simp; omega) ?_; intro v6 w6 hv6 hg6 hat6; obtain ⟨A6, c6, hv6e, _⟩ := hv6.form; rw [List.length_append, Hls.out, List.length_singleton] at hv6e; subst hv6e; rw [Hl9.out] at hv6; have y1 := (r1.ext ((Ext.refl _).alloc _)).keptl (o1.ext ((Ext.refl _).alloc _)) (by decide) hg6; have yf := y1.frozen; have yc := y1.cell; have yl := y1.lt; obtain ⟨W7, hW7, F7, kx7⟩ := PUSH hv6 hg6; have u1 := F7.q1.cell; have u2 := F7.q2.cell; have u3 := F7.q3.cell; have u5 := F7.q2.frozen; have u6 := F7.q3.frozen; have u7 := kx7.cell; have u8 := F7.q2.lt; have u9 := F7.q3.lt; have u10 := kx7.lt; have n1 := F7.q4.cell; have n2 := F7.q4.frozen; have n3 := F7.q5.cell; have n4 := F7.q5.frozen; have n5 := F7.q6.cell; have n6 := F7.q6.frozen; have n7 := F7.q6.lt; obtain ⟨W8, hW8, s1, s2, s3, s4, _, _, s5⟩ := lev_store (u := .slice none 0 0) (a := .int .i64 0) (b := .int .i64 0) (c := .int .i64 4) F7.q4 F7.q5 F7.q6 F7.x (Nat.le_refl _))
          exact ⟨(F7.oth.trans s5).from _, rfl, by rw [List.length_append, List.length_singleton, Hp1.out], s1, s2, s3, s4⟩
        · have hp2 : pre.length < 1000 := by omega
          have d1 : decide ((1000 : Int) < (pre.length : Int) + 1) = false := decide_eq_false (by omega)
          by_cases hp0 : pre.length = 0
          · have d2 : ((pre.length : Int) + 1 == 1) = true := by rw [hp0]; rfl
            have Hp1 := Lib.hid hp0
            have Hp2 := Lib.hid hp2
            clear hp hp2 hp0
            gi_wp2_with (gi_at_builtin; refine wpListIn_push rfl (.tmp 36) (.tmp 42) _ (by rfl) W9.heap.size 39 i0 _ 16 Tryz.underlying28 hi0 hz0 hz1 hz2 (by rfl) (.slice A pre.length c) (by rfl) (o1.ext ((Ext.refl _).alloc _)) W.heap.size ⟨a, v⟩ (by rfl) (Blk.new W _ _) (by have := Hls.out; simp only [maxLen]; omega) (by have := Hls.out; omega) (by simp; omega) ?_; intro v6 w6 hv6 hg6 hat6; obtain ⟨A6, c6, hv6e, _⟩ := hv6.form; rw [List.length_append, Hls.out, List.length_singleton] at hv6e; subst hv6e; rw [Hl9.out] at hv6; have y1 := (r1.ext ((Ext.refl _).alloc _)).keptl (o1.ext ((Ext.refl _).alloc _)) (by decide) hg6; have yf := y1.frozen; have yc := y1.cell; have yl := y1.lt; obtain ⟨W7, hW7, F7, kx7⟩ := PUSH hv6 hg6; have u1 := F7.q1.cell; have u2 := F7.q2.cell; have u3 := F7.q3.cell; have u5 := F7.q2.frozen; have u6 := F7.q3.frozen; have u7 := kx7.cell; have u8 := F7.q2.lt; have u9 := F7.q3.lt; have u10 := kx7.lt; have n1 := F7.q4.cell; have n2 := F7.q4.frozen; have n3 := F7.q5.cell; have n4 := F7.q5.frozen; have n5 := F7.q6.cell; have n6 := F7.q6.frozen; have n7 := F7.q6.lt; obtain ⟨W8, hW8, F8, kx8⟩ := BEST F7 kx7; have v1 := kx8.cell; have v2 := F8.q3.cell; have v3 := F8.q3.frozen; have v4 := F8.q3.lt; have v5 := F8.q2.lt)
            exact Hbest F8 (by rw [unX_snoc, show unX pre = [] from List.eq_nil_of_length_eq_zero (by rw [unX_len]; exact Hp1.out), bestS_one, Hx.out]) ⟨by omega, by omega, by omega, by omega⟩ Hp2.out
          · have d2 : ((pre.length : Int) + 1 == 1) = false := by apply Bool.eq_false_iff.2; intro hh; have := eq_of_beq hh; omega
            by_cases hc : v - b < b2 - b1
            · have d3 : decide (v - b < b2 - b1) = true := decide_eq_true hc
              have Hp1 := Lib.hid hp0
              have Hp2 := Lib.hid hp2
              have Hc := Lib.hid hc
              clear hp hp2 hp0 hc
              gi_wp2_with (gi_at_builtin; refine wpListIn_push rfl (.tmp 36) (.tmp 42) _ (by rfl) W9.heap.size 39 i0 _ 16 Tryz.underlying28 hi0 hz0 hz1 hz2 (by rfl) (.slice A pre.length c) (by rfl) (o1.ext ((Ext.refl _).alloc _)) W.heap.size ⟨a, v⟩ (by rfl) (Blk.new W _ _) (by have := Hls.out; simp only [maxLen]; omega) (by have := Hls.out; omega) (by simp; omega) ?_; intro v6 w6 hv6 hg6 hat6; obtain ⟨A6, c6, hv6e, _⟩ := hv6.form; rw [List.length_append, Hls.out, List.length_singleton] at hv6e; subst hv6e; rw [Hl9.out] at hv6; have y1 := (r1.ext ((Ext.refl _).alloc _)).keptl (o1.ext ((Ext.refl _).alloc _)) (by decide) hg6; have yf := y1.frozen; have yc := y1.cell; have yl := y1.lt; obtain ⟨W7, hW7, F7, kx7⟩ := PUSH hv6 hg6; have u1 := F7.q1.cell; have u2 := F7.q2.cell; have u3 := F7.q3.cell; have u5 := F7.q2.frozen; have u6 := F7.q3.frozen; have u7 := kx7.cell; have u8 := F7.q2.lt; have u9 := F7.q3.lt; have u10 := kx7.lt; have n1 := F7.q4.cell; have n2 := F7.q4.frozen; have n3 := F7.q5.cell; have n4 := F7.q5.frozen; have n5 := F7.q6.cell; have n6 := F7.q6.frozen; have n7 := F7.q6.lt; obtain ⟨W8, hW8, F8, kx8⟩ := BEST F7 kx7; have v1 := kx8.cell; have v2 := F8.q3.cell; have v3 := F8.q3.frozen; have v4 := F8.q3.lt; have v5 := F8.q2.lt)
              exact Hbest F8 (by rw [unX_snoc, bestS_snoc (fun hh => Hp1.out (by rw [← unX_len, hh]; rfl)), ← hbe.out.1, Hx.out]; unfold bstp; rw [if_pos Hc.out]) ⟨by omega, by omega, by omega, by omega⟩ Hp2.out
            · have d3 : decide (v - b < b2 - b1) = false := decide_eq_false hc
              have Hp1 := Lib.hid hp0
              have Hp2 := Lib.hid hp2
              have Hc := Lib.hid hc
              clear hp hp2 hp0 hc
              gi_wp2_with (gi_at_builtin; refine wpListIn_push rfl (.tmp 36) (.tmp 42) _ (by rfl) W9.heap.size 39 i0 _ 16 Tryz.underlying28 hi0 hz0 hz1 hz2 (by rfl) (.slice A pre.length c) (by rfl) (o1.ext ((Ext.refl _).alloc _)) W.heap.size ⟨a, v⟩ (by rfl) (Blk.new W _ _) (by have := Hls.out; simp only [maxLen]; omega) (by have := Hls.out; omega) (by simp; omega) ?_; intro v6 w6 hv6 hg6 hat6; obtain ⟨A6, c6, hv6e, _⟩ := hv6.form; rw [List.length_append, Hls.out, List.length_singleton] at hv6e; subst hv6e; rw [Hl9.out] at hv6; have y1 := (r1.ext ((Ext.refl _).alloc _)).keptl (o1.ext ((Ext.refl _).alloc _)) (by decide) hg6; have yf := y1.frozen; have yc := y1.cell; have yl := y1.lt; obtain ⟨W7, hW7, F7, kx7⟩ := PUSH hv6 hg6; have u1 := F7.q1.cell; have u2 := F7.q2.cell; have u3 := F7.q3.cell; have u5 := F7.q2.frozen; have u6 := F7.q3.frozen; have u7 := kx7.cell; have u8 := F7.q2.lt; have u9 := F7.q3.lt; have u10 := kx7.lt; have n1 := F7.q4.cell; have n2 := F7.q4.frozen; have n3 := F7.q5.cell; have n4 := F7.q5.frozen; have n5 := F7.q6.cell; have n6 := F7.q6.frozen; have n7 := F7.q6.lt)
              exact Hbest F7 (by rw [unX_snoc, bestS_snoc (fun hh => Hp1.out (by rw [← unX_len, hh]; rfl)), ← hbe.out.1, Hx.out]; unfold bstp; rw [if_neg (Int.not_lt.2 Hc.out)]) ⟨by omega, by omega, by omega, by omega⟩ Hp2.out
      case done =>
        rintro D ys W hD hS ⟨A, c, b1, b2, e, o1, r1, r2, r3, hbe, ⟨z1, z2, z3, z4, z5, z6⟩, z7, r4, r5, r6, r7, r8⟩ hK
        have hc1 := r1.cell
        have hc2 := r2.cell
        have hc3 := r3.cell
        have hc4 := r4.cell
        have hc5 := r5.cell
        have hc6 := r6.cell
        have hf1 := r1.frozen
        have hf4 := r4.frozen
        have hf5 := r5.frozen
        have hf6 := r6.frozen
        have hl6 := r6.lt
        have hl3 := r3.lt
        by_cases hy : ys.length = 0
        · have d2 : decide (0 < ys.length) = false := decide_eq_false (by omega)
          have d3 : decide ((1000 : Int) < (ys.length : Int)) = false := decide_eq_false (by omega)
          have Hy := Lib.hid hy
          clear hy
          obtain ⟨W8, hW8, s1, s2, s3, s4, sk, _, s5⟩ := lev_store (w := w) (u := .slice A ys.length c) (a := .int .i64 b1) (b := .int .i64 b2) (c := .int .i64 0) r4 r5 r6 r7 (Nat.le_refl _)
          have o8 : Owns ELev W8 W9.heap.size 39 (.slice A ys.length c) (lvs (unX ys)) := by rw [← hW8]; exact (((o1.past (by omega) _ _).past (by omega) _ _).past (by omega) _ _).past (by omega) _ _
          have hx8 : Ext W8 W8.drew := (Ext.refl W8).drew
          go_wp2_with fail
          go_region
          go_wp2_with fail
          refine lev_leave hE9.size hD ((s5.trans (KeepsOthers.drew W8)).same D _ hK rfl) (s1.ext hx8) (s2.ext hx8) (s3.ext hx8) ((o8.ext hx8).mono hE9.size) (by rw [lvs_len, unX_len]) (s4.trans hx8) ?_ rfl rfl rfl
          obtain ⟨t, hc, hs⟩ := hS
          have hu : unX ys = [] := List.eq_nil_of_length_eq_zero (by rw [unX_len]; exact Hy.out)
          unfold LevP
          rw [if_pos Hp.out, if_neg H1.out]
          exact .inr ⟨rfl, unX ys, t, hc, hs, by rw [hu]; decide, by unfold lvl; rw [if_pos hu, hu]; rfl, hbe.out.1⟩
        · have d2 : decide (0 < ys.length) = true := decide_eq_true (by omega)
          have d4 : decide (e ≤ 1099511627776) = true := decide_eq_true (by omega)
          have hls : (lvs (unX ys)).length = ys.length := by rw [lvs_len, unX_len]
          have Hls := Lib.hid hls
          have Hy := Lib.hid hy
          have F0 : LevF w W9.heap.size W6.heap.size W A ys.length c (lvs (unX ys)) b1 b2 e W := ⟨o1, r1, r2, r3, r4, r5, r6, r7, r8, KpT.refl _ _ _ _, KeepsOthers.refl _⟩
          have PUSH : ∀ {A6 c6 w6}, Owns ELev w6 W9.heap.size 39 (.slice A6 (ys.length + 1) c6) (lvs (unX ys) ++ [⟨e, 0⟩]) → (W.alloc (.cells #[.int .i64 e, .int .i64 0] 39)).grownBy w6 (Value.slice A ys.length c).ownBlock →
              ∃ W7, w6.setCell ⟨W6.heap.size, 0, none⟩ (.slice A6 (ys.length + 1) c6) = W7 ∧ LevF w W9.heap.size W6.heap.size W A6 (ys.length + 1) c6 (lvs (unX ys) ++ [⟨e, 0⟩]) b1 b2 e W7 :=
            fun o hg => ⟨_, rfl, (F0.alloc _).push (by omega) (by omega) o hg⟩
          have Hs9 := Lib.hid hs9
          clear hls hy hs9 s1 s2 s3 s4 s5 t1 t2 t3 t4 F0 y1 y2 y3 hc4 hc5 hc6 hf4 hf5 hf6 hl6
          by_cases hp : ys.length = 1000
          · have d1 : decide ((1000 : Int) < (ys.length : Int) + 1) = true := decide_eq_true (by omega)
            have Hp1 := Lib.hid hp
            clear hp
            go_wp2_with (at_builtin; refine wpList_push rfl (.tmp 79) (.tmp 82) _ (by rfl) W9.heap.size 39 i0 _ 16 Tryz.underlying28 hi0 hz0 hz1 hz2 (by rfl) (.slice A ys.length c) (by rfl) (o1.ext ((Ext.refl _).alloc _)) W.heap.size ⟨e, 0⟩ (by rfl) (Blk.new W _ _) (by have := Hls.out; simp only [maxLen]; omega) (by have := Hls.out; omega) (by simp; omega) ?_; intro v6 w6 hv6 hg6 hat6; obtain ⟨A6, c6, hv6e, _⟩ := hv6.form; rw [List.length_append, Hls.out, List.length_singleton] at hv6e; subst hv6e; have y1 := (r1.ext ((Ext.refl _).alloc _)).keptl (o1.ext ((Ext.refl _).alloc _)) (by decide) hg6; have yf := y1.frozen; have yc := y1.cell; have yl := y1.lt; obtain ⟨W7, hW7, F7⟩ := PUSH hv6 hg6; have u1 := F7.q1.cell; have u2 := F7.q2.cell; have n1 := F7.q4.cell; have n2 := F7.q4.frozen; have n3 := F7.q5.cell; have n4 := F7.q5.frozen; have n5 := F7.q6.cell; have n6 := F7.q6.frozen; have n7 := F7.q6.lt; obtain ⟨W8, hW8, s1, s2, s3, s4, _, _, s5⟩ := lev_store (u := .slice none 0 0) (a := .int .i64 0) (b := .int .i64 0) (c := .int .i64 4) F7.q4 F7.q5 F7.q6 F7.x (Nat.le_refl _))
            refine lev_leave hE9.size hD ((F7.oth.trans s5).same D _ hK rfl) s1 s2 s3 (Owns.none_ _ _) rfl s4 ?_ rfl rfl rfl
            obtain ⟨t, hc, hs⟩ := hS
            unfold LevP
            rw [if_pos Hp.out, if_neg H1.out]
            exact .inl ⟨rfl, rfl, rfl, unX ys, t, hc, .inr ⟨by rw [unX_len]; exact Hp1.out, hs⟩⟩
          · have d1 : decide ((1000 : Int) < (ys.length : Int) + 1) = false := decide_eq_false (by omega)
            have Hp1 := Lib.hid (show ys.length < 1000 by omega)
            clear hp
            go_wp2_with (at_builtin; refine wpList_push rfl (.tmp 79) (.tmp 82) _ (by rfl) W9.heap.size 39 i0 _ 16 Tryz.underlying28 hi0 hz0 hz1 hz2 (by rfl) (.slice A ys.length c) (by rfl) (o1.ext ((Ext.refl _).alloc _)) W.heap.size ⟨e, 0⟩ (by rfl) (Blk.new W _ _) (by have := Hls.out; simp only [maxLen]; omega) (by have := Hls.out; omega) (by simp; omega) ?_; intro v6 w6 hv6 hg6 hat6; obtain ⟨A6, c6, hv6e, _⟩ := hv6.form; rw [List.length_append, Hls.out, List.length_singleton] at hv6e; subst hv6e; have y1 := (r1.ext ((Ext.refl _).alloc _)).keptl (o1.ext ((Ext.refl _).alloc _)) (by decide) hg6; have yf := y1.frozen; have yc := y1.cell; have yl := y1.lt; obtain ⟨W7, hW7, F7⟩ := PUSH hv6 hg6; have u1 := F7.q1.cell; have u2 := F7.q2.cell; have n1 := F7.q4.cell; have n2 := F7.q4.frozen; have n3 := F7.q5.cell; have n4 := F7.q5.frozen; have n5 := F7.q6.cell; have n6 := F7.q6.frozen; have n7 := F7.q6.lt; obtain ⟨W8, hW8, s1, s2, s3, s4, _, _, s5⟩ := lev_store (u := .slice A6 (ys.length + 1) c6) (a := .int .i64 b1) (b := .int .i64 b2) (c := .int .i64 0) F7.q4 F7.q5 F7.q6 F7.x (Nat.le_refl _))
            have o8 : Owns ELev W8 W9.heap.size 39 (.slice A6 (ys.length + 1) c6) (lvs (unX ys) ++ [⟨e, 0⟩]) := by rw [← hW8]; exact (((F7.o.past (by omega) _ _).past (by omega) _ _).past (by omega) _ _).past (by omega) _ _
            have hx8 : Ext W8 W8.drew := (Ext.refl W8).drew
            go_region
            go_wp2_with fail
            refine lev_leave hE9.size hD (((F7.oth.trans s5).trans (KeepsOthers.drew W8)).same D _ hK rfl) (s1.ext hx8) (s2.ext hx8) (s3.ext hx8) ((o8.ext hx8).mono hE9.size) (by rw [List.length_append, Hls.out]; rfl) (s4.trans hx8) ?_ rfl rfl rfl
            obtain ⟨t, hc, hs⟩ := hS
            unfold LevP
            rw [if_pos Hp.out, if_neg H1.out]
            exact .inr ⟨rfl, unX ys, t, hc, hs, by rw [unX_len]; exact Hp1.out, by unfold lvl; rw [if_neg (fun hh => Hy.out (by rw [← unX_len, hh]; rfl)), hbe.out.2, hc.endS], hbe.out.1⟩
      case stop =>
        rintro D c pre W hD hS ⟨rfl, z1, z2, z3, z4, z5⟩ hK
        gi_wp2
        refine lev_leave hE9.size hD hK z2 z3 z4 (Owns.none_ _ _) rfl z5 ?_ rfl rfl rfl
        obtain ⟨t, hc⟩ := hS
        unfold LevP
        rw [if_pos Hp.out, if_neg H1.out]
        exact .inl ⟨rfl, rfl, rfl, unX pre, t, hc, .inl (by rw [unX_len]; exact z1)⟩
  · have Hp := Lib.hid (show LevP p src dst n [] (0, 0) (p.rv n [src, dst]) by unfold LevP; rw [if_neg h0]; exact ⟨rfl, rfl, rfl⟩)
    have d1 : (p.rv n [src, dst] != 0) = true := by simpa using h0
    generalize p.rv n [src, dst] = rv at hrv Hp d1
    clear h0
    unfold Pln.val at hrv ⊢
    go_enter Tryz.func18, Tryz.ntmps18
    go_wp2_with fail
    clear hW1 hW2 hW3 hW4 hW5 hcp
    refine hrv.mono ?_
    clear hrv
    rintro e W6 ⟨rfl, hb6⟩
    obtain ⟨W7, hW7, q1, q2, q3, hE7, _⟩ := lev_store (u := .slice none 0 0) (a := .int .i64 0) (b := .int .i64 0) (c := .int .i64 rv) (k2.ext hb6) (k3.ext hb6) (k4.ext hb6) (E5.trans hb6) (Nat.le_refl _)
    have j2 := k2.ext hb6
    have j3 := k3.ext hb6
    have j4 := k4.ext hb6
    have f2 := j2.frozen
    have f3 := j3.frozen
    have f4 := j4.frozen
    have l4 := j4.lt
    have c2 := j2.cell
    have c3 := j3.cell
    have c4 := j4.cell
    go_wp2
    refine bodyPost_ret (lev_res rfl rfl rfl q1 q2 q3) rfl ?_
    exact ⟨none, 0, [], 0, 0, rv, rfl, Owns.none_ _ _, hE7, Hp.out⟩

end Go.Proofs.YtifopbkhflpbfaaGreat

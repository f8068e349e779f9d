/- TopMirror, the example: the search's graph. · TopMirror, the example: the search's small functions. -/
import Derived.Test.YtmaengcmhopmbaaGreatTaB
import Derived.Test.YtmaengcmhopmbaaGreatJrA
import Derived.BigQuiet
namespace Go.Proofs.YtmaengcmhopmbaaGreat
set_option linter.unusedVariables false
set_option linter.unusedSimpArgs false
open Go.RowKit Go.Shelf
attribute [local go_sem] Oper.semAt_some

theorem Owns.cellsZ {α : Type} {E : Elt α} {w : World} {base : Nat} {e : TypeId} {v : Value} {l : List α} (h : Owns E w base e v l) {r : Nat} (hr : v.ownBlock = some r) : ∃ cur fr, w.heap[r]? = some (.cells cur e fr) := by
  rcases h.2 with ⟨rfl, _⟩ | ⟨g, cap, cur, rfl, _, hh, _⟩
  · cases hr
  · injection hr with hr
    subst hr
    exact ⟨_, _, hh⟩
/-- What grows is a list of another kind. -/
theorem Owns.kepttZ {α β : Type} {E : Elt α} {E' : Elt β} {w w' : World} {base base' : Nat} {e e' : TypeId} {v v' : Value} {l : List α} {l' : List β} (h : Owns E w base e v l) (h' : Owns E' w base' e' v' l') (hne : e ≠ e') (hg : w.grownBy w' v'.ownBlock) : Owns E w' base e v l :=
  h.kept hg (fun g hv e2 => by
    obtain ⟨c1, f1, h1⟩ := h.cellsZ hv
    obtain ⟨c2, f2, h2⟩ := h'.cellsZ e2.symm
    rw [h1] at h2
    injection h2 with h2
    injection h2 with _ h2 _
    exact hne h2)
theorem Blk.kepttZ {β : Type} {E' : Elt β} {w w' : World} {base' : Nat} {e' : TypeId} {v' : Value} {l' : List β} {g : Nat} {t : TypeId} {cs : Array Value} (h : Blk w g t cs) (h' : Owns E' w base' e' v' l') (hne : t ≠ e') (hg : w.grownBy w' v'.ownBlock) : Blk w' g t cs :=
  h.kept hg (fun e2 => by
    obtain ⟨c2, f2, h2⟩ := h'.cellsZ e2.symm
    have h1 : w.heap[g]? = some (.cells cs t (0, 0)) := h
    rw [h1] at h2
    injection h2 with h2
    injection h2 with _ h2 _
    exact hne h2)

/-- A slice that is an element. -/
structure Sl where
  a : Option Addr
  n : Nat
  c : Nat
def ESl : Elt Sl := ⟨fun s => [.slice s.a s.n s.c], 1, fun _ => rfl, by omega, fun x u hu => by simp at hu; subst hu; rfl⟩
theorem Rd.sl {w : World} {A : Option Addr} {l : List Sl} (h : Rd ESl w A l) {k : Nat} (hk : k < l.length) : ∃ b o, A = some ⟨b, o, none⟩ ∧ b < w.heap.size ∧ w.cell? ⟨b, o + k, none⟩ = some (.slice l[k].a l[k].n l[k].c) := by
  obtain ⟨b, o, rfl, hb, hc⟩ := h.at hk
  refine ⟨b, o, rfl, hb, ?_⟩
  have := hc 0 (.slice l[k].a l[k].n l[k].c) rfl
  simpa [ESl] using this
theorem info_sl : (Tryz.prog.info? 175).map (fun i => (i.zero, i.size, i.bytes)) = some (some (.slice none 0 0), 1, 24) := by kernel_rfl

/-- Lists of one interval each. -/
def SpsAt (w : World) (base : Nat) (L : List Sl) (f : Nat → Spn) : Prop :=
  ∀ k (h : k < L.length), L[k].n = 1 ∧ Owns ESpn w base 180 (.slice L[k].a 1 L[k].c) [f k]
theorem SpsAt.nil (w : World) (base : Nat) (f : Nat → Spn) : SpsAt w base [] f := fun k h => absurd h (by simp)
theorem SpsAt.ext {w w' : World} {base : Nat} {L : List Sl} {f : Nat → Spn} (h : SpsAt w base L f) (hb : Ext w w') : SpsAt w' base L f := fun k hk => ⟨(h k hk).1, (h k hk).2.ext hb⟩
theorem SpsAt.kepttZ {β : Type} {E' : Elt β} {w w' : World} {base base' : Nat} {L : List Sl} {f : Nat → Spn} {e' : TypeId} {v' : Value} {l' : List β} (h : SpsAt w base L f) (h' : Owns E' w base' e' v' l') (hne : 180 ≠ e') (hg : w.grownBy w' v'.ownBlock) : SpsAt w' base L f :=
  fun k hk => ⟨(h k hk).1, (h k hk).2.kepttZ h' hne hg⟩
theorem SpsAt.push {w : World} {base : Nat} {L : List Sl} {f : Nat → Spn} {a : Option Addr} {c : Nat} (h : SpsAt w base L f) (hu : Owns ESpn w base 180 (.slice a 1 c) [f L.length]) : SpsAt w base (L ++ [⟨a, 1, c⟩]) f := by
  intro k hk
  rcases Nat.lt_or_ge k L.length with h1 | h1
  · rw [List.getElem_append_left h1]; exact h k h1
  · obtain rfl : k = L.length := by simp at hk; omega
    simp only [List.getElem_append_right (Nat.le_refl _), Nat.sub_self, List.getElem_cons_zero]
    exact ⟨trivial, hu⟩
theorem SpsAt.setCell {w : World} {base : Nat} {L : List Sl} {f : Nat → Spn} (h : SpsAt w base L f) {g : Nat} {t : TypeId} {cs : Array Value} (hg : Blk w g t cs) (hne : t ≠ 180) (o : Nat) (v : Value) : SpsAt (w.setCell ⟨g, o, none⟩ v) base L f := by
  intro k hk
  refine ⟨(h k hk).1, (h k hk).2.kept (grown_setCell (World.grownBy.refl w (some g)) o v) (fun b hb e => ?_)⟩
  injection e with e
  subst e
  obtain ⟨c2, f2, h2⟩ := (h k hk).2.cellsZ hb
  have h1 : w.heap[b]? = some (.cells cs t (0, 0)) := hg
  rw [h1] at h2
  injection h2 with h2
  injection h2 with _ h2 _
  exact hne h2
theorem Owns.setZ {α : Type} {E : Elt α} {w : World} {base : Nat} {e : TypeId} {v : Value} {l : List α} (h : Owns E w base e v l) {g : Nat} {t : TypeId} {cs : Array Value} (hg : Blk w g t cs) (hne : t ≠ e) (o : Nat) (u : Value) : Owns E (w.setCell ⟨g, o, none⟩ u) base e v l :=
  h.kept (grown_setCell (World.grownBy.refl w (some g)) o u) (fun b hb e2 => by
    injection e2 with e2
    subst e2
    obtain ⟨c2, f2, h2⟩ := h.cellsZ hb
    have h1 : w.heap[b]? = some (.cells cs t (0, 0)) := hg
    rw [h1] at h2
    injection h2 with h2
    injection h2 with _ h2 _
    exact hne h2)

/-- The graph's box. -/
def gcells (Aq : Option Addr) (nq cq : Nat) (Ac : Option Addr) (nc cc : Nat) (q : Req) (g r d : Value) : Array Value :=
  #[.slice Aq nq cq, .slice Ac nc cc, .slice none 0 0, .slice none 0 0, .int .i64 q.src, .int .i64 q.dst, .int .i64 q.size, .int .i64 q.ready, .int .i64 q.dead, .int .i64 q.prio, .bool q.cust, g, r, d]
/-- A graph lies at B. -/
structure GAt (Aq : Option Addr) (cq : Nat) (Ac : Option Addr) (cc : Nat) (p : Pln) (q : Req) (base : Nat) (w : World) (B : Nat) : Prop where
  mk ::
  out : ∃ (Ag Ar Ad : Option Addr) (cg cr cd : Nat) (LG LR : List Sl), Blk w B 174 (gcells Aq p.quo.length cq Ac p.cons.length cc q (.slice Ag LG.length cg) (.slice Ar LR.length cr) (.slice Ad p.cons.length cd)) ∧
    Rd ESl w Ag LG ∧ Rd ESl w Ar LR ∧ Rd EInt w Ad (p.cons.map (fun c => c.dur q.size)) ∧ LG.length = p.cons.length ∧ LR.length = p.quo.length ∧ SpsAt w base LG (fun k => ⟨(gc p.cons k).st, (gc p.cons k).en⟩) ∧ SpsAt w base LR (fun _ => ⟨0, 1099511627776⟩)
theorem GAt.ext {Aq : Option Addr} {cq : Nat} {Ac : Option Addr} {cc : Nat} {p : Pln} {q : Req} {base : Nat} {w w' : World} {B : Nat} (h : GAt Aq cq Ac cc p q base w B) (hb : Ext w w') : GAt Aq cq Ac cc p q base w' B := by
  obtain ⟨Ag, Ar, Ad, cg, cr, cd, LG, LR, h1, h2, h3, h4, h5, h6, h7, h8⟩ := h.out
  exact ⟨Ag, Ar, Ad, cg, cr, cd, LG, LR, h1.ext hb, h2.ext hb, h3.ext hb, h4.ext hb, h5, h6, h7.ext hb, h8.ext hb⟩

/-- Behind the round's statement: both lists have grown. -/
def BldP (Aq : Option Addr) (nq cq : Nat) (Ac : Option Addr) (nc cc : Nat) (q : Req) (B b0 b1 : Nat) (LG : List Sl) (DL : List Int) (x : Sl) (d : Int) (f : Nat → Spn) (y : Spn) (a w : World) : Prop :=
  ∃ (A6 A9 : Option Addr) (c6 c9 : Nat), Blk w B 174 (gcells Aq nq cq Ac nc cc q (.slice A6 (LG.length + 1) c6) (.slice none 0 0) (.slice A9 (DL.length + 1) c9)) ∧ Owns ESl w b1 175 (.slice A6 (LG.length + 1) c6) (LG ++ [x]) ∧ Owns EInt w b1 3 (.slice A9 (DL.length + 1) c9) (DL ++ [d]) ∧ SpsAt w b0 LG f ∧ Owns ESpn w b0 180 (.slice x.a 1 x.c) [y] ∧ Ext a w
theorem bld_mk {Aq : Option Addr} {nq cq : Nat} {Ac : Option Addr} {nc cc : Nat} {q : Req} {B b0 b1 : Nat} {LG : List Sl} {DL : List Int} {x : Sl} {d : Int} {f : Nat → Spn} {y : Spn} {a w : World} {A6 A9 : Option Addr} {c6 c9 n9 : Nat} {g0 d0 : Value}
    (kB : Blk w B 174 (gcells Aq nq cq Ac nc cc q g0 (.slice none 0 0) d0)) (hG : Owns ESl w b1 175 (.slice A6 (LG.length + 1) c6) (LG ++ [x])) (hD : Owns EInt w b1 3 (.slice A9 n9 c9) (DL ++ [d])) (hn : n9 = DL.length + 1) (hS : SpsAt w b0 LG f) (hU : Owns ESpn w b0 180 (.slice x.a 1 x.c) [y]) (hx : Ext a w) (hB : a.heap.size ≤ B) :
    BldP Aq nq cq Ac nc cc q B b0 b1 LG DL x d f y a ((w.setCell ⟨B, 11, none⟩ (.slice A6 (LG.length + 1) c6)).setCell ⟨B, 13, none⟩ (.slice A9 n9 c9)) := by
  subst hn
  have k1 := kB.set_ 11 (.slice A6 (LG.length + 1) c6)
  have k2 := k1.set_ 13 (.slice A9 (DL.length + 1) c9)
  exact ⟨A6, A9, c6, c9, k2, (hG.setZ kB (by decide) 11 _).setZ k1 (by decide) 13 _, (hD.setZ kB (by decide) 11 _).setZ k1 (by decide) 13 _, (hS.setCell kB (by decide) 11 _).setCell k1 (by decide) 13 _, (hU.setZ kB (by decide) 11 _).setZ k1 (by decide) 13 _, (hx.setCell hB _).setCell hB _⟩

end Go.Proofs.YtmaengcmhopmbaaGreat

namespace Go.Proofs.YtmaengcmhopmbaaGreat
set_option linter.unusedVariables false
set_option linter.unusedSimpArgs false
open Go.RowKit Go.Shelf
attribute [local go_sem] Oper.semAt_some

/-- A label. -/
structure Lb where
  node : Int
  fr : Int
  til : Int
  tm : Int
def Lb.cells (b : Lb) : List Value := [.int .i64 b.node, .int .i64 b.fr, .int .i64 b.til, .int .i64 b.tm]
def Lb.val (b : Lb) : Value := .agg #[.int .i64 b.node, .int .i64 b.fr, .int .i64 b.til, .int .i64 b.tm]
def ELb : Elt Lb := ⟨Lb.cells, 4, fun _ => rfl, by omega, fun x u hu => by simp [Lb.cells] at hu; rcases hu with h | h | h | h <;> subst h <;> rfl⟩
theorem info_lb : (Tryz.prog.info? 134).map (fun i => (i.zero, i.size, i.bytes)) = some (some (.agg #[.int .i64 0, .int .i64 0, .int .i64 0, .int .i64 0]), 4, 32) := by kernel_rfl
theorem Rd.lb {w : World} {A : Option Addr} {l : List Lb} (h : Rd ELb w A l) {k : Nat} (hk : k < l.length) : ∃ b o, A = some ⟨b, o, none⟩ ∧ b < w.heap.size ∧
    w.cell? ⟨b, o + k * 4, none⟩ = some (.int .i64 l[k].node) ∧ w.cell? ⟨b, o + k * 4 + 1, none⟩ = some (.int .i64 l[k].fr) ∧ w.cell? ⟨b, o + k * 4 + 2, none⟩ = some (.int .i64 l[k].til) ∧ w.cell? ⟨b, o + k * 4 + 3, none⟩ = some (.int .i64 l[k].tm) := by
  obtain ⟨b, o, rfl, hb, hc⟩ := h.at hk
  exact ⟨b, o, rfl, hb, by simpa [ELb] using hc 0 (.int .i64 l[k].node) rfl, by simpa [ELb] using hc 1 (.int .i64 l[k].fr) rfl, by simpa [ELb] using hc 2 (.int .i64 l[k].til) rfl, by simpa [ELb] using hc 3 (.int .i64 l[k].tm) rfl⟩

def lbSame (x y : Lb) : Bool := x.node == y.node && x.fr == y.fr
set_option maxRecDepth 100000 in
set_option maxHeartbeats 4000000 in
theorem same_any (x y : Lb) (w : World) : Calls Tryz.prog 69 #[x.val, y.val] w fun e w' => e = .returned (.bool (lbSame x y)) ∧ Ext w w' := by
  obtain ⟨W, hW, hB, hk, hk2, hlt, hlt2⟩ := box2 w #[.int .i64 x.node, .int .i64 x.fr, .int .i64 x.til, .int .i64 x.tm] #[.int .i64 y.node, .int .i64 y.fr, .int .i64 y.til, .int .i64 y.tm] 134 134
  have c1 := hk.cell
  have c2 := hk2.cell
  unfold Lb.val lbSame
  by_cases h1 : x.node = y.node
  · have d1 : (x.node == y.node) = true := by simpa using h1
    clear h1
    go_enter Tryz.func69, Tryz.ntmps69
    go_wp2_with fail
    go_ret
    exact ⟨by simp [d1], hB⟩
  · have d1 : (x.node == y.node) = false := by simpa using h1
    clear h1
    go_enter Tryz.func69, Tryz.ntmps69
    go_wp2_with fail
    go_ret
    exact ⟨by simp [d1], hB⟩

/-- What compare answers, where the times differ. -/
def lbCmp (x y : Lb) : Int := if x.tm < y.tm then -1 else if y.tm < x.tm then 1 else 0

set_option maxRecDepth 100000 in
set_option maxHeartbeats 4000000 in
theorem gleave_any (Aq : Option Addr) (cq : Nat) (Ac : Option Addr) (cc : Nat) (p : Pln) (q : Req) (base B : Nat) (h : Hp) (w : World) (hg : GAt Aq cq Ac cc p q base w B) (hc : q.cust = false) :
    Calls Tryz.prog 113 #[.pointer (some ⟨B, 0, none⟩), .agg #[.int .i64 h.con, .int .i64 h.beg, .int .i64 h.en, .int .i64 h.arr]] w fun e w' => e = .returned (.int .i64 h.en) ∧ Ext w w' := by
  obtain ⟨W, hW, hB, hk, hlt⟩ := box1 w #[.int .i64 h.con, .int .i64 h.beg, .int .i64 h.en, .int .i64 h.arr] 40
  obtain ⟨Ag, Ar, Ad, cg, cr, cd, LG, LR, k1, _⟩ := (hg.ext hB).out
  unfold gcells at k1
  rw [hc] at k1
  have c1 := hk.cell
  have c2 := k1.cell
  have l2 := k1.lt
  go_enter Tryz.func113, Tryz.ntmps113
  go_wp2_with fail
  go_ret
  exact ⟨rfl, hB⟩

/-- One free interval. -/
def RoomP (w : World) (e : Ending) (w' : World) : Prop := ∃ A c, e = .returned (.slice A 1 c) ∧ Rd ESpn w' A [⟨0, 1099511627776⟩] ∧ Ext w w'

set_option maxRecDepth 100000 in
set_option maxHeartbeats 4000000 in
theorem grooms_dest (Aq : Option Addr) (cq : Nat) (Ac : Option Addr) (cc : Nat) (p : Pln) (q : Req) (base B : Nat) (w : World) (hg : GAt Aq cq Ac cc p q base w B) :
    Calls Tryz.prog 111 #[.pointer (some ⟨B, 0, none⟩), .int .i64 q.dst] w (RoomP w) := by
  obtain ⟨Ag, Ar, Ad, cg, cr, cd, LG, LR, k1, _⟩ := hg.out
  unfold gcells at k1
  have c2 := k1.cell
  have l2 := k1.lt
  go_enter Tryz.func111, Tryz.ntmps111
  go_wp2_with fail
  go_ret
  refine ⟨_, _, rfl, rd_blk (l := [(⟨0, 1099511627776⟩ : Spn)]) (e := 180) (Blk.new _ _ _), (Ext.refl _).alloc _⟩
set_option maxRecDepth 100000 in
set_option maxHeartbeats 4000000 in
theorem grooms_node (Aq : Option Addr) (cq : Nat) (Ac : Option Addr) (cc : Nat) (p : Pln) (q : Req) (base B : Nat) (n : Int) (w : World) (hg : GAt Aq cq Ac cc p q base w B) (hn : 0 ≤ n ∧ n < p.quo.length) (hd : n ≠ q.dst) (hq : p.quo.length ≤ 16) :
    Calls Tryz.prog 111 #[.pointer (some ⟨B, 0, none⟩), .int .i64 n] w (RoomP w) := by
  obtain ⟨Ag, Ar, Ad, cg, cr, cd, LG, LR, k1, h2, h3, h4, h5, h6, h7, h8⟩ := hg.out
  have hkn : n.toNat < LR.length := by omega
  obtain ⟨b, o, rfl, hb, hc⟩ := h3.sl hkn
  obtain ⟨e1, hu⟩ := h8 n.toNat hkn
  rw [e1] at hc
  rw [← h6] at hq hn
  generalize LR[n.toNat] = x at *
  unfold gcells at k1
  have c2 := k1.cell
  have l2 := k1.lt
  have d1 : (n == q.dst) = false := by simpa using hd
  clear hd e1 h6
  go_enter Tryz.func111, Tryz.ntmps111
  go_wp2_with fail
  go_ret
  exact ⟨_, _, rfl, hu.rd, Ext.refl _⟩

set_option maxRecDepth 100000 in
set_option maxHeartbeats 8000000 in
theorem ghop_any (Aq : Option Addr) (cq : Nat) (Ac : Option Addr) (cc : Nat) (p : Pln) (q : Req) (base B : Nat) (i : Nat) (t : Int) (c : Con) (w : World) (hg : GAt Aq cq Ac cc p q base w B) (hrd : PlnRd w Aq cq Ac cc p) (hi : i < p.cons.length) (hc : p.cons[i] = c)
    (hm : max c.st t + c.dur q.size ≤ c.en) (hb : 0 ≤ c.st ∧ 0 ≤ t ∧ 0 ≤ c.dur q.size ∧ c.en ≤ 1099511627776 ∧ 0 ≤ c.rng ∧ c.rng ≤ 1099511627776) :
    Calls Tryz.prog 112 #[.pointer (some ⟨B, 0, none⟩), .int .i64 i, .int .i64 t] w fun e w' => e = .returned (.tuple #[.agg #[.int .i64 i, .int .i64 (max c.st t), .int .i64 (max c.st t + c.dur q.size), .int .i64 (max c.st t + c.dur q.size + c.rng)], .bool true]) ∧ Ext w w' := by
  obtain ⟨Ag, Ar, Ad, cg, cr, cd, LG, LR, k1, h2, h3, h4, h5, h6, h7, h8⟩ := hg.out
  obtain ⟨W1, hW1, hB1, hk1, hl1⟩ := box1 w #[.int .i64 0, .int .i64 0, .int .i64 0, .int .i64 0] 40
  have hcm := hrd.cm
  obtain ⟨bd, od, rfl, hbd, hd⟩ := (h4.ext hB1).int (k := i) (by simpa using hi)
  simp only [List.getElem_map, hc] at hd
  obtain ⟨bg, og, rfl, hbg, hgc⟩ := (h2.ext hB1).sl (k := i) (by omega)
  obtain ⟨e1, hu⟩ := h7 i (by omega)
  have Hgi := Lib.hid (show gc p.cons (i : Int) = c by rw [gc_get (i := (i : Int)) (by omega)]; simpa using hc)
  dsimp only at hu
  rw [Hgi.out] at hu
  rw [e1] at hgc
  generalize hx : LG[i] = x at *
  obtain ⟨bs, os, hxa, hbs, hs0, hs1⟩ := (hu.rd.ext hB1).spn (k := 0) (by simp)
  rw [hxa] at hgc
  simp only [List.getElem_cons_zero, Nat.zero_mul, Nat.add_zero] at hs0 hs1
  obtain ⟨bc, oc, rfl, hbc, z0, z1, z2, z3, z4, z5, z6⟩ := (hrd.c.ext hB1).con hi
  simp only [hc] at z0 z1 z2 z3 z4 z5 z6
  have hLi : (i : Int) < (LG.length : Int) := by omega
  have hLm : LG.length ≤ 1000000 := by omega
  have hpi : (i : Int) < (p.cons.length : Int) := by omega
  have Hh5 := Lib.hid h5
  clear h5 e1 hx hxa hu h2 h3 h4 h6 h7 h8
  unfold gcells at k1
  have k2 := k1.ext hB1
  have c2 := k2.cell
  have l2 := k2.lt
  obtain ⟨W2, hW2, hB2, hk2, hl2⟩ := box1 W1 #[.int .i64 c.st, .int .i64 c.en] 180
  obtain ⟨m, hm2⟩ : ∃ m, max c.st t = m := ⟨_, rfl⟩
  rw [hm2] at hm ⊢
  have hm0 : 0 ≤ m := by rw [← hm2]; omega
  have dm : decide (m + c.dur q.size ≤ c.en) = true := decide_eq_true hm
  have c3 := (k2.ext hB2).cell
  have l3 := (k2.ext hB2).lt
  have y5 := hB2.cell_some z5
  have hbc2 := Nat.lt_of_lt_of_le hbc hB2.size
  have k4 := hk1.ext hB2
  have c4 := k4.cell
  have l4 := k4.lt
  have f4 := k4.frozen
  have c5 := hk2.cell
  generalize c.dur q.size = d at *
  go_enter Tryz.func112, Tryz.ntmps112
  go_wp2_with fail
  go_loopg [28] 1 (fun n k wr => k = .int .i64 0 ∧ wr = W1)
  case atStart => exact ⟨rfl, rfl⟩
  case round =>
    obtain ⟨rfl, rfl⟩ := hrel
    go_wp2_with fail
    obtain ⟨w7, hw7, hz7, hE7⟩ : ∃ w7, W2.setCells w.heap.size 0 [.int .i64 i, .int .i64 m, .int .i64 (m + d), .int .i64 (m + d + c.rng)] = w7 ∧ Blk w7 w.heap.size 40 #[.int .i64 i, .int .i64 m, .int .i64 (m + d), .int .i64 (m + d + c.rng)] ∧ Ext w w7 :=
      ⟨_, rfl, k4.setCells_ [.int .i64 i, .int .i64 m, .int .i64 (m + d), .int .i64 (m + d + c.rng)] 0, ext_setCells (hB1.trans hB2) (Nat.le_refl _) 0 _⟩
    simp only [World.setCells, Nat.zero_add, Nat.reduceAdd] at hw7
    rw [hw7]
    have hc7 := hz7.cell
    refine bodyPost_ret (v := .tuple #[.agg #[.int .i64 i, .int .i64 m, .int .i64 (m + d), .int .i64 (m + d + c.rng)], .bool true]) (by rw [results_cell_tmp rfl]; simp [asAddr, Result.andThen, hc7, go_sem]) rfl ?_
    exact ⟨rfl, hE7⟩

end Go.Proofs.YtmaengcmhopmbaaGreat

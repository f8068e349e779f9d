
/- What plans, contacts and requests that come in read as. · What lists of branches and of numbers that come in read as. · What tables that come in read as. -/
import Derived.Test.YtbgdglcnminbaaaGreatOpen
import Derived.Test.YtbgdglcnminbaaaGreatPlnA
import Derived.Test.YtbgdglcnminbaaaGreatRows
import Derived.Test.YtbgdglcnminbaaaGreatMcA0
import Derived.Test.YtbgdglcnminbaaaGreatStH
namespace Go.Proofs.YtbgdglcnminbaaaGreat
set_option linter.unusedVariables false
open Go.ChangeShapes Go.WideShapes Go.ChangeAt Go.RowKit Go.Deep

theorem row_own : ownKnob Tryz.prog.godebug = none := by kernel_rfl
theorem row_laid : laidOutB Tryz.prog = true := by kernel_rfl

theorem wf_bd {z : Int} (h : (Lit.int .i64 z).wf = true) : -9223372036854775808 ≤ z ∧ z ≤ 9223372036854775807 := by
  simp [Lit.wf, IntKind.min, IntKind.max, IntKind.bits, IntKind.signed] at h; omega
theorem wf_bd16 {z : Int} (h : (Lit.int .u16 z).wf = true) : 0 ≤ z ∧ z ≤ 65535 := by
  simp [Lit.wf, IntKind.min, IntKind.max, IntKind.bits, IntKind.signed] at h; omega
theorem wf_bd8 {z : Int} (h : (Lit.int .u8 z).wf = true) : 0 ≤ z ∧ z ≤ 255 := by
  simp [Lit.wf, IntKind.min, IntKind.max, IntKind.bits, IntKind.signed] at h; omega

def I64 (z : Int) : Prop := -9223372036854775808 ≤ z ∧ z ≤ 9223372036854775807
set_option maxRecDepth 100000 in
theorem flat_int : flatK Tryz.prog 4 3 = some (List.replicate 1 .i64) := by kernel_rfl
theorem dec_int (cs : List Value) (h : CKs (List.replicate 1 .i64) cs) : ∃ x : Int, cs = EInt.cells x ∧ I64 x := by
  obtain ⟨zs, hl, rfl, hw⟩ := CKs.ints h
  match zs, hl with
  | [a], _ => exact ⟨a, rfl, wf_bd (hw _ (by simp))⟩

structure Con.Wf (c : Con) : Prop where
  src : I64 c.src
  dst : I64 c.dst
  st : I64 c.st
  en : I64 c.en
  rate : I64 c.rate
  rng : I64 c.rng
  loss : I64 c.loss
set_option maxRecDepth 100000 in
theorem flat_con : flatK Tryz.prog 4 67 = some (List.replicate 7 .i64) := by kernel_rfl
set_option maxRecDepth 100000 in
theorem dec_con (cs : List Value) (h : CKs (List.replicate 7 .i64) cs) : ∃ x : Con, cs = ECon.cells x ∧ x.Wf := by
  obtain ⟨zs, hl, rfl, hw⟩ := CKs.ints h
  match zs, hl with
  | [a, b, c, d, e, f, g], _ => exact ⟨⟨a, b, c, d, e, f, g⟩, rfl, ⟨wf_bd (hw _ (by simp)), wf_bd (hw _ (by simp)), wf_bd (hw _ (by simp)), wf_bd (hw _ (by simp)), wf_bd (hw _ (by simp)), wf_bd (hw _ (by simp)), wf_bd (hw _ (by simp))⟩⟩

section
variable {H : Type} {enc : TypeId × Value → H} {w : World} {base : Nat} {spare : Nat → Bool} {held : Bool} {r : Reach} {b0 : Nat} {v : Value} {d : DataW H} {p : List MemPlace}
set_option maxRecDepth 100000 in
theorem open_con (hv : Value.okWide Tryz.prog w r b0 67 v) (h : DataW.Trod enc Tryz.prog w base spare held 67 v d p) : ∃ c : Con, v = c.val ∧ c.Wf := by
  obtain ⟨cs, rfl, hk⟩ := open_flat Tryz.underlying67 flat_con hv h
  obtain ⟨x, rfl, hx⟩ := dec_con cs hk
  exact ⟨x, rfl, hx⟩
set_option maxRecDepth 100000 in
theorem open_plan (hv : Value.okWide Tryz.prog w r b0 25 v) (h : DataW.Trod enc Tryz.prog w base spare held 25 v d p) :
    ∃ Aq cq Ac cc, ∃ p : Pln, v = p.val Aq cq Ac cc ∧ Rd EInt w Aq p.quo ∧ Rd ECon w Ac p.cons ∧ p.quo.length ≤ cq ∧ p.cons.length ≤ cc ∧ cq ≤ maxLen ∧ cc ≤ maxLen ∧ (∀ x ∈ p.quo, I64 x) ∧ ∀ c ∈ p.cons, c.Wf := by
  obtain ⟨v0, v1, m, y0, y1, rfl, h0, h1⟩ := open_two Tryz.underlying25 (by kernel_rfl) (by kernel_rfl) hv h
  obtain ⟨Aq, cq, lq, rfl, g1, g2, g3, g4⟩ := open_list_cell EInt I64 Tryz.underlying22 flat_int (by kernel_rfl) dec_int h0
  obtain ⟨Ac, cc, lc, rfl, k1, k2, k3, k4⟩ := open_list_cell ECon Con.Wf Tryz.underlying23 flat_con (by kernel_rfl) dec_con h1
  exact ⟨Aq, cq, Ac, cc, ⟨lq, lc⟩, rfl, g1, k1, g2, k2, g3, k3, g4, k4⟩
structure Req.Wf (q : Req) : Prop where
  src : I64 q.src
  dst : I64 q.dst
  size : I64 q.size
  ready : I64 q.ready
  dead : I64 q.dead
  prio : I64 q.prio
set_option maxRecDepth 100000 in
theorem flat_req : flatK Tryz.prog 4 31 = some (List.replicate 6 .i64 ++ [.bool]) := by kernel_rfl
set_option maxRecDepth 100000 in
theorem open_req (hv : Value.okWide Tryz.prog w r b0 31 v) (h : DataW.Trod enc Tryz.prog w base spare held 31 v d p) : ∃ q : Req, v = q.val ∧ q.Wf := by
  obtain ⟨cs, rfl, hk⟩ := open_flat Tryz.underlying31 flat_req hv h
  obtain ⟨us, ws, rfl, h1, h2⟩ := CKs.split hk
  obtain ⟨zs, hl, rfl, hw⟩ := CKs.ints h1
  obtain ⟨b', rfl⟩ : ∃ b', ws = [.bool b'] := by
    cases ws with
    | nil => exact h2.elim
    | cons x xs =>
      cases xs with
      | nil =>
        obtain ⟨⟨b', hb⟩, _⟩ := h2
        exact ⟨b', by rw [hb]⟩
      | cons y ys => exact h2.2.elim
  match zs, hl with
  | [a, b, c, d, e, f], _ => exact ⟨⟨a, b, c, d, e, f, b'⟩, rfl, ⟨wf_bd (hw _ (by simp)), wf_bd (hw _ (by simp)), wf_bd (hw _ (by simp)), wf_bd (hw _ (by simp)), wf_bd (hw _ (by simp)), wf_bd (hw _ (by simp))⟩⟩
end

end Go.Proofs.YtbgdglcnminbaaaGreat

namespace Go.Proofs.YtbgdglcnminbaaaGreat
set_option linter.unusedVariables false
open Go.ChangeShapes Go.WideShapes Go.ChangeAt Go.RowKit Go.Deep

structure Br.Wf (b : Br) : Prop where
  con : I64 b.con
  beg : I64 b.beg
  en : I64 b.en
  arr : I64 b.arr
  par : I64 b.par
set_option maxRecDepth 100000 in
theorem flat_br : flatK Tryz.prog 4 57 = some (List.replicate 5 .i64) := by kernel_rfl
set_option maxRecDepth 100000 in
theorem dec_br (cs : List Value) (h : CKs (List.replicate 5 .i64) cs) : ∃ x : Br, cs = EBr.cells x ∧ x.Wf := by
  obtain ⟨zs, hl, rfl, hw⟩ := CKs.ints h
  match zs, hl with
  | [a, b, c, d, e], _ => exact ⟨⟨a, b, c, d, e⟩, rfl, ⟨wf_bd (hw _ (by simp)), wf_bd (hw _ (by simp)), wf_bd (hw _ (by simp)), wf_bd (hw _ (by simp)), wf_bd (hw _ (by simp))⟩⟩
section
variable {H : Type} {enc : TypeId × Value → H} {w : World} {base : Nat} {spare : Nat → Bool} {held : Bool} {r : Reach} {b0 : Nat} {v : Value} {d : DataW H} {p : List MemPlace}
set_option maxRecDepth 100000 in
theorem open_brs (hv : Value.okWide Tryz.prog w r b0 34 v) (h : DataW.Trod enc Tryz.prog w base spare held 34 v d p) : ∃ A c l, v = .slice A l.length c ∧ Rd EBr w A l ∧ l.length ≤ c ∧ c ≤ maxLen ∧ ∀ x ∈ l, x.Wf := by
  obtain ⟨A, c, l, h1, h2, h3, h4, h5⟩ := open_list EBr Br.Wf Tryz.underlying34 flat_br (by kernel_rfl) dec_br hv h
  exact ⟨A, c, l, h1, h2, h3, h4, h5⟩
set_option maxRecDepth 100000 in
theorem open_ints (hv : Value.okWide Tryz.prog w r b0 22 v) (h : DataW.Trod enc Tryz.prog w base spare held 22 v d p) : ∃ A c l, v = .slice A l.length c ∧ Rd EInt w A l ∧ l.length ≤ c ∧ c ≤ maxLen ∧ ∀ x ∈ l, I64 x := by
  obtain ⟨A, c, l, h1, h2, h3, h4, h5⟩ := open_list EInt I64 Tryz.underlying22 flat_int (by kernel_rfl) dec_int hv h
  exact ⟨A, c, l, h1, h2, h3, h4, h5⟩
end
end Go.Proofs.YtbgdglcnminbaaaGreat

namespace Go.Proofs.YtbgdglcnminbaaaGreat
set_option linter.unusedVariables false
open Go.ChangeShapes Go.WideShapes Go.ChangeAt Go.RowKit Go.Deep

structure Bk.Wf (b : Bk) : Prop where
  con : I64 b.con
  beg : I64 b.beg
  en : I64 b.en
  tic : I64 b.tic
set_option maxRecDepth 100000 in
theorem flat_bk : flatK Tryz.prog 4 112 = some (List.replicate 4 .i64) := by kernel_rfl
set_option maxRecDepth 100000 in
theorem dec_bk (cs : List Value) (h : CKs (List.replicate 4 .i64) cs) : ∃ x : Bk, cs = EBk.cells x ∧ x.Wf := by
  obtain ⟨zs, hl, rfl, hw⟩ := CKs.ints h
  match zs, hl with
  | [a, b, c, d], _ => exact ⟨⟨a, b, c, d⟩, rfl, ⟨wf_bd (hw _ (by simp)), wf_bd (hw _ (by simp)), wf_bd (hw _ (by simp)), wf_bd (hw _ (by simp))⟩⟩
structure Hd.Wf (b : Hd) : Prop where
  nod : I64 b.nod
  fr : I64 b.fr
  til : I64 b.til
  siz : I64 b.siz
  tic : I64 b.tic
set_option maxRecDepth 100000 in
theorem flat_hd : flatK Tryz.prog 4 116 = some (List.replicate 5 .i64) := by kernel_rfl
set_option maxRecDepth 100000 in
theorem dec_hd (cs : List Value) (h : CKs (List.replicate 5 .i64) cs) : ∃ x : Hd, cs = EHd.cells x ∧ x.Wf := by
  obtain ⟨zs, hl, rfl, hw⟩ := CKs.ints h
  match zs, hl with
  | [a, b, c, d, e], _ => exact ⟨⟨a, b, c, d, e⟩, rfl, ⟨wf_bd (hw _ (by simp)), wf_bd (hw _ (by simp)), wf_bd (hw _ (by simp)), wf_bd (hw _ (by simp)), wf_bd (hw _ (by simp))⟩⟩
section
variable {H : Type} {enc : TypeId × Value → H} {w : World} {base : Nat} {spare : Nat → Bool} {held : Bool} {r : Reach} {b0 : Nat} {v : Value} {d : DataW H} {p : List MemPlace}
/-- What tables that came in are. -/
structure TabIn (w : World) (Aq : Option Addr) (cq : Nat) (Ac : Option Addr) (cc : Nat) (p : Pln) (Al : Option Addr) (cl : Nat) (bk : List Bk) (Ah : Option Addr) (ch : Nat) (hd : List Hd) : Prop where
  q : Rd EInt w Aq p.quo
  c : Rd ECon w Ac p.cons
  qc : p.quo.length ≤ cq
  ck : p.cons.length ≤ cc
  qm : cq ≤ maxLen
  cm : cc ≤ maxLen
  b : Rd EBk w Al bk
  bc : bk.length ≤ cl
  bm : cl ≤ maxLen
  h : Rd EHd w Ah hd
  hc : hd.length ≤ ch
  hm : ch ≤ maxLen
set_option maxRecDepth 100000 in
theorem open_tabs (hv : Value.okWide Tryz.prog w r b0 29 v) (h : DataW.Trod enc Tryz.prog w base spare held 29 v d p) :
    ∃ Aq cq Ac cc, ∃ p : Pln, ∃ Al cl, ∃ bk : List Bk, ∃ Ah ch, ∃ hd : List Hd, v = .agg #[.slice Aq p.quo.length cq, .slice Ac p.cons.length cc, .slice Al bk.length cl, .slice Ah hd.length ch] ∧ TabIn w Aq cq Ac cc p Al cl bk Ah ch hd := by
  obtain ⟨cs, rfl, hsz⟩ := okWide_struct Tryz.underlying29 hv
  obtain ⟨l⟩ := cs
  have hC : Tryz.prog.cellsOf 29 = 4 := by kernel_rfl
  have k0 : Tryz.prog.cellsOf 25 = 2 := by kernel_rfl
  have k1 : Tryz.prog.cellsOf 26 = 1 := by kernel_rfl
  have k2 : Tryz.prog.cellsOf 27 = 1 := by kernel_rfl
  have k3 : Tryz.prog.cellsOf 22 = 1 := by kernel_rfl
  have k4 : Tryz.prog.cellsOf 23 = 1 := by kernel_rfl
  match l, hsz.trans hC with
  | [c0, c1, c2, c3], _ =>
    obtain ⟨fuel, hf⟩ := h
    obtain ⟨xs, n, _, _, _, hlen, hg⟩ := DataW.trod_struct Tryz.underlying29 hf
    match xs, hlen with
    | [y0, y1, y2], _ =>
      have g0 : DataW.trod enc Tryz.prog w base spare held n 25 [c0, c1] = some y0 := by simpa [Value.cells, k0] using hg 0 _ rfl
      have g1 : DataW.trod enc Tryz.prog w base spare held n 26 [c2] = some y1 := by simpa [Value.cells, k1] using hg 1 _ rfl
      have g2 : DataW.trod enc Tryz.prog w base spare held n 27 [c3] = some y2 := by simpa [Value.cells, k2] using hg 2 _ rfl
      obtain ⟨xs2, n2, _, _, _, hlen2, hg2⟩ := DataW.trod_struct Tryz.underlying25 g0
      match xs2, hlen2 with
      | [z0, z1], _ =>
        have f0 : DataW.trod enc Tryz.prog w base spare held n2 22 [c0] = some z0 := by simpa [k3] using hg2 0 _ rfl
        have f1 : DataW.trod enc Tryz.prog w base spare held n2 23 [c1] = some z1 := by simpa [k4] using hg2 1 _ rfl
        obtain ⟨Aq, cq, lq, rfl, a1, a2, a3, a4⟩ := open_list_cell EInt I64 Tryz.underlying22 flat_int (by kernel_rfl) dec_int f0
        obtain ⟨Ac, cc, lc, rfl, b1, b2, b3, b4⟩ := open_list_cell ECon Con.Wf Tryz.underlying23 flat_con (by kernel_rfl) dec_con f1
        obtain ⟨Al, cl, bk, rfl, d1, d2, d3, d4⟩ := open_list_cell EBk Bk.Wf Tryz.underlying26 flat_bk (by kernel_rfl) dec_bk g1
        obtain ⟨Ah, ch, hd, rfl, e1, e2, e3, e4⟩ := open_list_cell EHd Hd.Wf Tryz.underlying27 flat_hd (by kernel_rfl) dec_hd g2
        exact ⟨Aq, cq, Ac, cc, ⟨lq, lc⟩, Al, cl, bk, Ah, ch, hd, rfl, a1, b1, a2, b2, a3, b3, d1, d2, d3, e1, e2, e3⟩
end
end Go.Proofs.YtbgdglcnminbaaaGreat

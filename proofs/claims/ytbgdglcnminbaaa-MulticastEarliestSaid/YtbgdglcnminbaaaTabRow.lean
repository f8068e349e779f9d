
/- What tables that come in read as. -/
import Derived.Test.YtbgdglcnminbaaaBrRow
import Derived.Test.YtbgdglcnminbaaaStH
namespace Go.Proofs.Ytbgdglcnminbaaa
set_option linter.unusedVariables false
open Go.ChangeShapes Go.WideShapes Go.ChangeAt Go.RowKit Go.Deep

structure Bk.Wf (b : Bk) : Prop where
  con : I64 b.con
  beg : I64 b.beg
  en : I64 b.en
  tic : I64 b.tic
set_option maxRecDepth 100000 in
theorem flat_bk : flatK Try.prog 4 56 = some (List.replicate 4 .i64) := by kernel_rfl
set_option maxRecDepth 100000 in
theorem dec_bk (cs : List Value) (h : CKs (List.replicate 4 .i64) cs) : ∃ x : Bk, cs = EBk.cells x ∧ x.Wf := by
  obtain ⟨zs, hl, rfl, hw⟩ := CKs.ints h
  match zs, hl with
  | [a, b, c, d], _ => exact ⟨⟨a, b, c, d⟩, rfl, ⟨wf_bd (hw _ (by simp)), wf_bd (hw _ (by simp)), wf_bd (hw _ (by simp)), wf_bd (hw _ (by simp))⟩⟩
structure Hd.Wf (b : Hd) : Prop where
  nod : I64 b.nod
  fr : I64 b.fr
  til : I64 b.til
  siz : I64 b.siz
  tic : I64 b.tic
set_option maxRecDepth 100000 in
theorem flat_hd : flatK Try.prog 4 128 = some (List.replicate 5 .i64) := by kernel_rfl
set_option maxRecDepth 100000 in
theorem dec_hd (cs : List Value) (h : CKs (List.replicate 5 .i64) cs) : ∃ x : Hd, cs = EHd.cells x ∧ x.Wf := by
  obtain ⟨zs, hl, rfl, hw⟩ := CKs.ints h
  match zs, hl with
  | [a, b, c, d, e], _ => exact ⟨⟨a, b, c, d, e⟩, rfl, ⟨wf_bd (hw _ (by simp)), wf_bd (hw _ (by simp)), wf_bd (hw _ (by simp)), wf_bd (hw _ (by simp)), wf_bd (hw _ (by simp))⟩⟩
section
variable {H : Type} {enc : TypeId × Value → H} {w : World} {base : Nat} {spare : Nat → Bool} {held : Bool} {r : Reach} {b0 : Nat} {v : Value} {d : DataW H} {p : List MemPlace}
/-- What tables that came in are. -/
structure TabIn (w : World) (Aq : Option Addr) (cq : Nat) (Ac : Option Addr) (cc : Nat) (p : Pln) (Al : Option Addr) (cl : Nat) (bk : List Bk) (Ah : Option Addr) (ch : Nat) (hd : List Hd) : Prop where
  q : Rd EInt w Aq p.quo
  c : Rd ECon w Ac p.cons
  qc : p.quo.length ≤ cq
  ck : p.cons.length ≤ cc
  qm : cq ≤ maxLen
  cm : cc ≤ maxLen
  b : Rd EBk w Al bk
  bc : bk.length ≤ cl
  bm : cl ≤ maxLen
  h : Rd EHd w Ah hd
  hc : hd.length ≤ ch
  hm : ch ≤ maxLen
set_option maxRecDepth 100000 in
theorem open_tabs (hv : Value.okWide Try.prog w r b0 29 v) (h : DataW.Trod enc Try.prog w base spare held 29 v d p) :
    ∃ Aq cq Ac cc, ∃ p : Pln, ∃ Al cl, ∃ bk : List Bk, ∃ Ah ch, ∃ hd : List Hd, v = .agg #[.slice Aq p.quo.length cq, .slice Ac p.cons.length cc, .slice Al bk.length cl, .slice Ah hd.length ch] ∧ TabIn w Aq cq Ac cc p Al cl bk Ah ch hd := by
  obtain ⟨cs, rfl, hsz⟩ := okWide_struct Try.underlying29 hv
  obtain ⟨l⟩ := cs
  have hC : Try.prog.cellsOf 29 = 4 := by kernel_rfl
  have k0 : Try.prog.cellsOf 25 = 2 := by kernel_rfl
  have k1 : Try.prog.cellsOf 26 = 1 := by kernel_rfl
  have k2 : Try.prog.cellsOf 27 = 1 := by kernel_rfl
  have k3 : Try.prog.cellsOf 22 = 1 := by kernel_rfl
  have k4 : Try.prog.cellsOf 23 = 1 := by kernel_rfl
  match l, hsz.trans hC with
  | [c0, c1, c2, c3], _ =>
    obtain ⟨fuel, hf⟩ := h
    obtain ⟨xs, n, _, _, _, hlen, hg⟩ := DataW.trod_struct Try.underlying29 hf
    match xs, hlen with
    | [y0, y1, y2], _ =>
      have g0 : DataW.trod enc Try.prog w base spare held n 25 [c0, c1] = some y0 := by simpa [Value.cells, k0] using hg 0 _ rfl
      have g1 : DataW.trod enc Try.prog w base spare held n 26 [c2] = some y1 := by simpa [Value.cells, k1] using hg 1 _ rfl
      have g2 : DataW.trod enc Try.prog w base spare held n 27 [c3] = some y2 := by simpa [Value.cells, k2] using hg 2 _ rfl
      obtain ⟨xs2, n2, _, _, _, hlen2, hg2⟩ := DataW.trod_struct Try.underlying25 g0
      match xs2, hlen2 with
      | [z0, z1], _ =>
        have f0 : DataW.trod enc Try.prog w base spare held n2 22 [c0] = some z0 := by simpa [k3] using hg2 0 _ rfl
        have f1 : DataW.trod enc Try.prog w base spare held n2 23 [c1] = some z1 := by simpa [k4] using hg2 1 _ rfl
        obtain ⟨Aq, cq, lq, rfl, a1, a2, a3, a4⟩ := open_list_cell EInt I64 Try.underlying22 flat_int (by kernel_rfl) dec_int f0
        obtain ⟨Ac, cc, lc, rfl, b1, b2, b3, b4⟩ := open_list_cell ECon Con.Wf Try.underlying23 flat_con (by kernel_rfl) dec_con f1
        obtain ⟨Al, cl, bk, rfl, d1, d2, d3, d4⟩ := open_list_cell EBk Bk.Wf Try.underlying26 flat_bk (by kernel_rfl) dec_bk g1
        obtain ⟨Ah, ch, hd, rfl, e1, e2, e3, e4⟩ := open_list_cell EHd Hd.Wf Try.underlying27 flat_hd (by kernel_rfl) dec_hd g2
        exact ⟨Aq, cq, Ac, cc, ⟨lq, lc⟩, Al, cl, bk, Ah, ch, hd, rfl, a1, b1, a2, b2, a3, b3, d1, d2, d3, e1, e2, e3⟩
end
end Go.Proofs.Ytbgdglcnminbaaa


/- Layer 35 (multicast): words for the laws of Grow. -/
import Derived.Test.YtbgdglcnminbaaaGreatMcGqr
import Derived.Test.YtbgdglcnminbaaaGreatStK
import Derived.Test.YtbgdglcnminbaaaGreatStDE
import Derived.Test.YtbgdglcnminbaaaGreatRowsA
import Derived.BigQuiet
namespace Go.Proofs.YtbgdglcnminbaaaGreat
set_option linter.unusedVariables false
set_option linter.unusedSimpArgs false
open Go.RowKit Go.Shelf

/-- What Grow returns, with what is known of it. -/
inductive GrowV (p : Pln) (bk : List Bk) (hd : List Hd) (q : Req) (mem : List Int) (e : Ending) (w' : World) : Prop
  | good (t : List Br × List Int) (Au : Option Addr) (cu : Nat) (Av : Option Addr) (cv : Nat) (G : GC p bk q) (hf : fineR p q = true) (hm : memsB p.quo.length q.src mem = true) (hk : p.tabE bk hd = 0) (hr : p.GrowR bk q mem ([], startL q) (some t))
      (he : e = .returned (.tuple #[.slice Au t.1.length cu, .slice Av mem.length cv, .int .i64 0])) (hu : Rd EBr w' Au t.1) (hv : Rd EInt w' Av (mem.map (gi t.2))) (hl : t.1.length ≤ 16) (hc : t.1.length ≤ cu) (hc2 : mem.length ≤ cv)
  | none (G : GC p bk q) (hf : fineR p q = true) (hm : memsB p.quo.length q.src mem = true) (hk : p.tabE bk hd = 0) (hr : p.GrowR bk q mem ([], startL q) none) (he : e = .returned (.tuple #[.slice none 0 0, .slice none 0 0, .int .i64 18]))
  | bad (hb : ¬ p.growOk q mem (p.tabE bk hd)) (he : e = .returned (.tuple #[.slice none 0 0, .slice none 0 0, .int .i64 1]))
theorem gcOf {p : Pln} {q : Req} {bk : List Bk} (hb : p.bkChk bk = 0) (hf : fineR p q = true) : GC p bk q := by
  have h := (fineR_of hf).2
  simp only [Req.okB, decide_eq_true_eq] at h
  exact ⟨hb, by omega, by omega⟩
theorem grow_val (Aq : Option Addr) (cq : Nat) (Ac : Option Addr) (cc : Nat) (p : Pln) (Al : Option Addr) (cl : Nat) (bk : List Bk) (Ah : Option Addr) (ch : Nat) (hd : List Hd) (q : Req) (Am : Option Addr) (cm : Nat) (mem : List Int) (w : World) (h : PlnRd w Aq cq Ac cc p) (hbk : Rd EBk w Al bk) (hbm : bk.length ≤ 1000000) (hhd : Rd EHd w Ah hd) (hhm : hd.length ≤ 1000000) (hmm : Rd EInt w Am mem) (hml : mem.length ≤ 1000000) :
    Calls Tryz.prog 7 #[.agg #[.slice Aq p.quo.length cq, .slice Ac p.cons.length cc, .slice Al bk.length cl, .slice Ah hd.length ch], q.val, .slice Am mem.length cm] w fun e w' => Ext w w' ∧ GrowV p bk hd q mem e w' := by
  have hT := tabC_any Aq cq Ac cc p Al cl bk Ah ch hd w h hbk hbm hhd hhm
  refine (Grow_any Aq cq Ac cc p Al cl bk Ah hd.length ch q Am cm mem (p.tabE bk hd) w h hbk hmm hml hT).mono ?_
  rintro e w' ⟨hE, hh⟩
  refine ⟨hE, ?_⟩
  rcases hh with ⟨⟨hk, hf, hm⟩, r, hr, hx⟩ | ⟨hb, he⟩
  · have G := gcOf (hT.ok hk) hf
    cases r with
    | none => exact .none G hf hm hk hr hx
    | some t =>
      obtain ⟨u, v, he, hu, hv, _⟩ := hx
      have g := grown G hf hm hr
      obtain ⟨Au, cu, rfl, hRu⟩ := hu.form
      obtain ⟨Av, cv, rfl, hRv⟩ := hv.form
      have h1 := hu.cap
      have h2 := hv.cap
      rw [List.length_map] at he h2
      exact .good t Au cu Av cv G hf hm hk hr he hRu hRv g.gi_.ti.vt.len h1 h2
  · exact .bad hb he
theorem memsB_take {N : Nat} {src : Int} {l : List Int} (h : memsB N src l = true) (n : Nat) : memsB N src (l.take n) = true := by
  unfold memsB at h ⊢
  have h2 := of_decide_eq_true h
  refine decide_eq_true fun i hi => ?_
  have hi2 : i < l.length := by rw [List.length_take] at hi; omega
  have h3 := h2 i hi2
  rw [List.getElem_take]
  refine ⟨h3.1, h3.2.1, h3.2.2.1, fun h0 => ?_⟩
  rw [List.getElem_take]
  exact h3.2.2.2 h0
/-- What is known of tables that came in, where they are not too large. -/
theorem TabIn.ext {w w' : World} {Aq : Option Addr} {cq : Nat} {Ac : Option Addr} {cc : Nat} {p : Pln} {Al : Option Addr} {cl : Nat} {bk : List Bk} {Ah : Option Addr} {ch : Nat} {hd : List Hd} (h : TabIn w Aq cq Ac cc p Al cl bk Ah ch hd) (hb : Ext w w') : TabIn w' Aq cq Ac cc p Al cl bk Ah ch hd :=
  ⟨h.q.ext hb, h.c.ext hb, h.qc, h.ck, h.qm, h.cm, h.b.ext hb, h.bc, h.bm, h.h.ext hb, h.hc, h.hm⟩
theorem TabIn.pln {w : World} {Aq : Option Addr} {cq : Nat} {Ac : Option Addr} {cc : Nat} {p : Pln} {Al : Option Addr} {cl : Nat} {bk : List Bk} {Ah : Option Addr} {ch : Nat} {hd : List Hd} (h : TabIn w Aq cq Ac cc p Al cl bk Ah ch hd) : PlnIn w Aq cq Ac cc p := ⟨h.q, h.c, h.qc, h.ck, h.qm, h.cm⟩

end Go.Proofs.YtbgdglcnminbaaaGreat

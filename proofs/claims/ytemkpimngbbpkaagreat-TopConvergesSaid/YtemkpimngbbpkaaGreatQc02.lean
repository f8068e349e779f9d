/- From a walk to the given statement; what comes in, as plain data. · Plans, requests, earliest arrivals, latest times, profiles: plain data and their laws. · Update: histories of changes, plain functions and laws. · Rows of bytes of the call's own, with or without the mark of a conversion. · Security: signatures, plain functions. -/
import Derived.ProofKit
import Derived.OpenShut
import Derived.Deep.Fields
import Derived.Deep.Slices
import Derived.ChangeSame
import Derived.Carry
import Derived.Lib.FrozenHead
import Derived.Lib.ConvBytes
import Derived.Laws.BytesString
import Derived.Test.YtemkpimngbbpkaaGreatQc01
namespace Go.Proofs.YtemkpimngbbpkaaGreat
set_option linter.unusedVariables false
set_option linter.unusedSimpArgs false
open Go.ChangeShapes Go.WideShapes Go.ChangeAt Go.RowKit Go.Deep
section
variable {H : Type} {enc : TypeId × Value -> H} {P : Program}
theorem trodAll_stays (hl : laidOutB P = true) {W W' : World} {sp : Nat -> Bool} : ∀ {ts : List TypeId} {vs : List Value} {ds : List (DataW H)} {ps : List MemPlace},
 ts.all (fun t => P.readableRec t && decide (t < P.types.size)) = true -> DataW.TrodAll enc P W 0 (fun _ => true) true ts vs ds ps -> (∀ p ∈ ps, W.sameAt W' p) -> (∀ p ∈ ps, sp p.block = true) ->
 DataW.TrodAll enc P W' 0 sp true ts vs ds ps
 | [], [], [], _, _, h, _, _ => h
 | [], [], _ :: _, _, _, h, _, _ => h.elim
 | [], _ :: _, _, _, _, h, _, _ => h.elim
 | _ :: _, [], _, _, _, h, _, _ => h.elim
 | _ :: _, _ :: _, [], _, _, h, _, _ => h.elim
 | t :: ts, v :: vs, d :: ds, ps, hr, h, hs, hp => by
   obtain ⟨p, q, h1, h2, rfl⟩ := h
   simp only [List.all_cons, Bool.and_eq_true, decide_eq_true_eq] at hr
   exact ⟨p, q, WideElems.Trod_stays hl hr.1.1 hr.1.2 h1 (fun x hx => hs x (List.mem_append_left _ hx)) (fun x hx => hp x (List.mem_append_left _ hx)),
    trodAll_stays hl hr.2 h2 (fun x hx => hs x (List.mem_append_right _ hx)) (fun x hx => hp x (List.mem_append_right _ hx)), rfl⟩
theorem law_post {f : Func} {s : ChangeSpec} {W W' : World} {args : Array Value} {ds gs : List (DataW H)} {before : List MemPlace} {tb : TypeId}
 (hl : laidOutB P = true) (hr : f.params.toList.all (fun t => P.readableRec t && decide (t < P.types.size)) = true) (hsv : s.vars = [])
 (hfn : s.fn H (ds ++ gs) = { results := [.lit (.bool true)], args := ds }) (hrt : f.resultTypes = #[tb]) (htb : P.underlying tb = some .bool)
 (hW : DataW.Whole enc P f.params.toList s.vars false W args.toList ds gs before) (hb : Ext W W') : s.post enc P f false true false false W args (.bool true) W' := by
 have hlt := fun p (hp : p ∈ before) => hW.lt p hp
 have hW2 := hW
 obtain ⟨p, q, hA, hV, rfl, _, _⟩ := hW2
 have hq : q = [] := by
  rw [hsv] at hV
  exact (trodVars_none hV).2
 subst hq
 refine ⟨ds, gs, p ++ [], [], p, [], hW, ?_, ?_, ?_, World.keptBut_mono (fun x hx => ⟨hx, .inr (.inl (by simpa using hx))⟩) (hb.frame (· ∈ p ++ [])), fun h => by cases h⟩
 ·rw [hfn, hrt]
  exact trodAll_cons_mk (shut_bool htb _) trodAll_mk0
 ·rw [hfn]
  exact trodAll_stays hl hr hA (fun x hx => hb.same (hlt x (List.mem_append_left _ hx))) (fun x hx => by simpa using hlt x (List.mem_append_left _ hx))
 ·rw [hfn, hsv]
  rfl
end
end Go.Proofs.YtemkpimngbbpkaaGreat
/- What comes in: a struct of numbers and truth values (structs in structs too), and a slice of such, read as plain data. -/
namespace Go.Proofs.YtemkpimngbbpkaaGreat
set_option linter.unusedVariables false
set_option linter.unusedSimpArgs false
open Go.ChangeShapes Go.WideShapes Go.ChangeAt Go.RowKit Go.Deep
inductive CK where
 | i64
 | bool
 | num (k : IntKind)
 | str
def CK.ok : CK -> Value -> Prop
 | .i64, v => ∃ z : Int, v = .int .i64 z /\ (Lit.int .i64 z).wf = true
 | .num k, v => ∃ z : Int, v = .int k z /\ (Lit.int k z).wf = true
 | .bool, v => ∃ b : Bool, v = .bool b
 | .str, v => ∃ b : ByteArray, v = .string b
def CKs : List CK -> List Value -> Prop
 | [], [] => True
 | k :: ks, v :: vs => k.ok v /\ CKs ks vs
 | _, _ => False
theorem CKs.append : ∀ {ks ls : List CK} {vs us : List Value}, CKs ks vs -> CKs ls us -> CKs (ks ++ ls) (vs ++ us)
 | [], _, [], _, _, h => h
 | _ :: _, _, [], _, h, _ => h.elim
 | [], _, _ :: _, _, h, _ => h.elim
 | _ :: _, _, _ :: _, _, h, g => ⟨h.1, CKs.append h.2 g⟩
theorem CKs.ints : ∀ {n : Nat} {vs : List Value}, CKs (List.replicate n .i64) vs -> ∃ zs : List Int, zs.length = n /\ vs = zs.map (Value.int .i64) /\ ∀ z ∈ zs, (Lit.int .i64 z).wf = true
 | 0, [], _ => ⟨[], rfl, rfl, by simp⟩
 | 0, _ :: _, h => h.elim
 | _ + 1, [], h => h.elim
 | n + 1, v :: vs, h => by
   obtain ⟨⟨z, rfl, hz⟩, h2⟩ := h
   obtain ⟨zs, h3, rfl, h4⟩ := CKs.ints (n := n) h2
   exact ⟨z :: zs, by simp [h3], rfl, by simpa using ⟨hz, h4⟩⟩
theorem CKs.split : ∀ {ks ls : List CK} {vs : List Value}, CKs (ks ++ ls) vs -> ∃ us ws, vs = us ++ ws /\ CKs ks us /\ CKs ls ws
 | [], _, vs, h => ⟨[], vs, rfl, trivial, h⟩
 | _ :: _, _, [], h => h.elim
 | _ :: _, _, v :: vs, h => by
   obtain ⟨us, ws, rfl, h1, h2⟩ := CKs.split h.2
   exact ⟨v :: us, ws, rfl, ⟨h.1, h1⟩, h2⟩
def tile (P : Program) (g : TypeId -> Option (List CK)) : List Field -> Nat -> Option (List CK)
 | [], _ => some []
 | f :: fs, off =>
   if f.offset = off then
    match g f.type with
    | some ks => if P.cellsOf f.type = ks.length then (match tile P g fs (off + ks.length) with | some ls => some (ks ++ ls) | none => none) else none
    | none => none
   else none
def flatK (P : Program) : Nat -> TypeId -> Option (List CK)
 | 0, _ => none
 | n + 1, t =>
   match P.underlying t with
   | some (.int .i64) => some [.i64]
   | some (.int k) => some [.num k]
   | some .bool => some [.bool]
   | some .string => some [.str]
   | some (.struct fs) =>
     match tile P (flatK P n) fs.toList 0 with
     | some ks => if P.cellsOf t = ks.length then some ks else none
     | none => none
   | _ => none
section
variable {H : Type} {enc : TypeId × Value -> H} {P : Program} {w : World} {base : Nat} {spare : Nat -> Bool} {held : Bool}
theorem tile_ok (g : TypeId -> Option (List CK)) (m : Nat) (cs : List Value) (hg : ∀ t ks, g t = some ks -> ∀ vs x, DataW.trod enc P w base spare held m t vs = some x -> CKs ks vs) :
 ∀ (fs : List Field) (off : Nat) (ks : List CK), tile P g fs off = some ks -> (∀ f ∈ fs, ∃ x, DataW.trod enc P w base spare held m f.type ((cs.drop f.offset).take (P.cellsOf f.type)) = some x) -> CKs ks ((cs.drop off).take ks.length)
 | [], off, ks, h, _ => by
   simp only [tile, Option.some.injEq] at h
   subst h; exact trivial
 | f :: fs, off, ks, h, hr => by
   simp only [tile] at h
   split at h
   ·rename_i h0
    split at h
    ·rename_i ks1 h1
     split at h
     ·rename_i h2
      split at h
      ·rename_i ls h3
       injection h with h
       subst h
       obtain ⟨x, hx⟩ := hr f (by simp)
       have a1 := hg _ _ h1 _ _ hx
       rw [h0, h2] at a1
       have a2 := tile_ok g m cs hg fs _ ls h3 (fun f' hf' => hr f' (by simp [hf']))
       have e : (cs.drop off).take (ks1 ++ ls).length = (cs.drop off).take ks1.length ++ (cs.drop (off + ks1.length)).take ls.length := by
        rw [List.length_append, List.take_add, List.drop_drop]
       rw [e]
       exact CKs.append a1 a2
      ·cases h
     ·cases h
    ·cases h
   ·cases h
theorem flat_trod : ∀ (n : Nat) (t : TypeId) (ks : List CK), flatK P n t = some ks -> ∀ m vs x, DataW.trod enc P w base spare held m t vs = some x -> CKs ks vs
 | 0, _, _, h => by cases h
 | n + 1, t, ks, h => by
   intro m vs x hx
   unfold flatK at h
   split at h
   ·rename_i ht
    injection h with h
    subst h
    obtain ⟨z, rfl, _, hw⟩ := DataW.trod_int ht hx
    exact ⟨⟨z, rfl, hw⟩, trivial⟩
   ·rename_i ht
    injection h with h
    subst h
    obtain ⟨z, rfl, _, hw⟩ := DataW.trod_int ht hx
    exact ⟨⟨z, rfl, hw⟩, trivial⟩
   ·rename_i ht
    injection h with h
    subst h
    obtain ⟨z, rfl, _⟩ := DataW.trod_bool ht hx
    exact ⟨⟨z, rfl⟩, trivial⟩
   ·rename_i ht
    injection h with h
    subst h
    obtain ⟨z, rfl, _⟩ := DataW.trod_string ht hx
    exact ⟨⟨z, rfl⟩, trivial⟩
   ·rename_i fs ht
    split at h
    ·rename_i ks1 h1
     split at h
     ·rename_i h2
      injection h with h
      subst h
      obtain ⟨xs, m', _, _, hl, hxl, hf⟩ := DataW.trod_struct ht hx
      have := tile_ok (flatK P n) m' vs (fun t ks hk vs x hx => flat_trod n t ks hk m' vs x hx) fs.toList 0 ks1 h1 (fun f hf' => by
       obtain ⟨i, hi, he⟩ := List.getElem_of_mem hf'
       have hi' : i < fs.size := by simpa using hi
       have h3 := hf i f (by rw [Array.getElem?_eq_getElem hi']; rw [<- he]; rfl)
       exact ⟨xs[i], h3.trans (List.getElem?_eq_getElem (by omega))⟩)
      rw [List.drop_zero, <- h2, <- hl, List.take_length] at this
      exact this
     ·cases h
    ·cases h
   ·cases h
theorem list_of {α : Type} {q : Nat -> α -> Prop} : ∀ (n : Nat), (∀ i, i < n -> ∃ x, q i x) -> ∃ l : List α, l.length = n /\ ∀ (i : Nat) (h : i < l.length), q i l[i]
 | 0, _ => ⟨[], rfl, fun i h => by simp at h⟩
 | n + 1, h => by
   obtain ⟨l, hl, hq⟩ := list_of n (fun i hi => h i (by omega))
   obtain ⟨x, hx⟩ := h n (by omega)
   refine ⟨l ++ [x], by simp [hl], fun i hi => ?_⟩
   by_cases hin : i < l.length
   ·rw [List.getElem_append_left hin]; exact hq i hin
   ·have : i = n := by simp [hl] at hi; omega
    subst this
    subst hl
    simpa using hx
theorem open_list_at {α : Type} (E : Elt α) (wf : α -> Prop) {t e : TypeId} {ks : List CK} {n : Nat} {v : Value} {d : DataW H} {p : List MemPlace} (ht : P.underlying t = some (.slice e)) (hk : flatK P n e = some ks) (hC : P.cellsOf e = E.size)
 (dec : ∀ cs, CKs ks cs -> ∃ x : α, cs = E.cells x /\ wf x) (hone : v.cells.toList = [v]) (h : DataW.Trod enc P w base spare held t v d p) :
 ∃ (A : Option Addr) (c : Nat) (l : List α), v = .slice A l.length c /\ Rd E w A l /\ l.length <= c /\ c <= maxLen /\ ∀ x ∈ l, wf x := by
 obtain ⟨fuel, hf⟩ := h
 rcases open_slice ht hf with ⟨h1, _⟩ | ⟨a, len, cap, m, n', D, Pl, h1, hb, hl, hm, hmm, _, hi⟩
 ·rw [hone] at h1
  injection h1 with h1
  subst h1
  exact ⟨none, 0, [], rfl, Rd.nil, Nat.le_refl _, Nat.zero_le _, by simp⟩
 ·rw [hone] at h1
  injection h1 with h1
  subst h1
  have hlm : len <= m := by rw [hmm]; split <;> omega
  obtain ⟨l, hll, hq⟩ := list_of (q := fun i (x : α) => wf x /\ w.cells? base (a.add (i * P.cellsOf e)) (P.cellsOf e) = some (E.cells x)) len (fun i hil => by
   obtain ⟨cs', hc, ht'⟩ := hi i (by omega)
   obtain ⟨x, hx, hwf⟩ := dec cs' (flat_trod n e ks hk _ _ _ ht')
   exact ⟨x, hwf, by rw [hc, hx]⟩)
  subst hll
  refine ⟨some a, cap, l, rfl, ⟨E.all_len l, fun hn => ⟨a, rfl, ?_, ?_⟩⟩, hl, hm, ?_⟩
  ·have h0 := (hq 0 hn).2
   obtain ⟨_, hcl, hat⟩ := World.cells?_some h0
   have h2 := hat 0 (by rw [hC]; exact E.pos)
   have h3 : (E.cells l[0])[0]? = some ((E.cells l[0])[0]'(by rw [E.len]; exact E.pos)) := List.getElem?_eq_getElem _
   rw [h3] at h2
   have := cell_lt h2
   simpa [block_of_add] using this
  ·intro j u hu
   have hpos := E.pos
   have hj : j < (E.all l).length := (List.getElem?_eq_some_iff.1 hu).1
   rw [E.all_len] at hj
   have hk1 : j / E.size < l.length := Nat.div_lt_of_lt_mul (by rw [Nat.mul_comm]; exact hj)
   have hr : j % E.size < E.size := Nat.mod_lt _ hpos
   have e1 : j / E.size * E.size + j % E.size = j := by rw [Nat.mul_comm]; exact Nat.div_add_mod j E.size
   have h2 := E.all_at l (j / E.size) hk1 (j % E.size) hr
   rw [e1, hu] at h2
   obtain ⟨_, hcl, hat⟩ := World.cells?_some (hq _ hk1).2
   have h3 := hat (j % E.size) (by rw [hC]; exact hr)
   rw [<- h2, hC, Go.Deep.add_add, e1] at h3
   exact h3
  ·intro x hx
   obtain ⟨i, hi', he⟩ := List.getElem_of_mem hx
   rw [<- he]
   exact (hq i hi').1
theorem open_list_cell {α : Type} (E : Elt α) (wf : α -> Prop) {t e : TypeId} {ks : List CK} {n m : Nat} {v : Value} {x : DataW H × List MemPlace} (ht : P.underlying t = some (.slice e)) (hk : flatK P n e = some ks) (hC : P.cellsOf e = E.size)
 (dec : ∀ cs, CKs ks cs -> ∃ x : α, cs = E.cells x /\ wf x) (h : DataW.trod enc P w base spare held m t [v] = some x) :
 ∃ (A : Option Addr) (c : Nat) (l : List α), v = .slice A l.length c /\ Rd E w A l /\ l.length <= c /\ c <= maxLen /\ ∀ x ∈ l, wf x := by
 have hone : v.cells.toList = [v] := by
  rcases open_slice ht h with ⟨h1, _⟩ | ⟨a, len, cap, m, n', D, Pl, h1, _⟩
  ·injection h1 with h1; subst h1; rfl
  ·injection h1 with h1; subst h1; rfl
 exact open_list_at E wf ht hk hC dec hone ⟨m, by rw [hone]; exact h⟩
theorem open_two {r : Reach} {b0 : Nat} {t : TypeId} {f0 f1 : Field} {v : Value} {d : DataW H} {p : List MemPlace} (hs : P.underlying t = some (.struct #[f0, f1])) (hone : oneCellFields P #[f0, f1] = true) (hC : P.cellsOf t = 2)
 (hv : Value.okWide P w r b0 t v) (h : DataW.Trod enc P w base spare held t v d p) :
 ∃ v0 v1 m y0 y1, v = .agg #[v0, v1] /\ DataW.trod enc P w base spare held m f0.type [v0] = some y0 /\ DataW.trod enc P w base spare held m f1.type [v1] = some y1 := by
 obtain ⟨cs, rfl, hsz⟩ := okWide_struct hs hv
 obtain ⟨l⟩ := cs
 match l, hsz.trans hC with
 | [c0, c1], _ =>
   obtain ⟨fuel, hf⟩ := h
   obtain ⟨xs, n, _, hx, _, hlen, hg⟩ := DataW.trod_struct hs hf
   obtain ⟨o0, k0⟩ := hone_of hone 0 f0 rfl
   obtain ⟨o1, k1⟩ := hone_of hone 1 f1 rfl
   match xs, hlen with
   | [y0, y1], _ =>
     exact ⟨c0, c1, n, y0, y1, rfl, by simpa [Value.cells, o0, k0] using hg 0 f0 rfl, by simpa [Value.cells, o1, k1] using hg 1 f1 rfl⟩
end
end Go.Proofs.YtemkpimngbbpkaaGreat
namespace Go.Proofs.YtemkpimngbbpkaaGreat
set_option linter.unusedVariables false
set_option linter.unusedSimpArgs false
open Go.RowKit
def ECon : Elt Con := ⟨fun c => c.cells.toList, 7, fun _ => rfl, by omega, fun x u hu => by simp [Con.cells] at hu; rcases hu with h | h | h | h | h | h | h <;> subst h <;> rfl⟩
theorem Rd.con {w : World} {A : Option Addr} {l : List Con} (h : Rd ECon w A l) {k : Nat} (hk : k < l.length) : ∃ b o, A = some ⟨b, o, none⟩ /\ b < w.heap.size /\
 w.cell? ⟨b, o + k * 7, none⟩ = some (.int .i64 l[k].src) /\ w.cell? ⟨b, o + k * 7 + 1, none⟩ = some (.int .i64 l[k].dst) /\ w.cell? ⟨b, o + k * 7 + 2, none⟩ = some (.int .i64 l[k].st) /\ w.cell? ⟨b, o + k * 7 + 3, none⟩ = some (.int .i64 l[k].en) /\
 w.cell? ⟨b, o + k * 7 + 4, none⟩ = some (.int .i64 l[k].rate) /\ w.cell? ⟨b, o + k * 7 + 5, none⟩ = some (.int .i64 l[k].rng) /\ w.cell? ⟨b, o + k * 7 + 6, none⟩ = some (.int .i64 l[k].loss) := by
 obtain ⟨b, o, rfl, hb, hc⟩ := h.at hk
 exact ⟨b, o, rfl, hb, hc 0 _ rfl, hc 1 _ rfl, hc 2 _ rfl, hc 3 _ rfl, hc 4 _ rfl, hc 5 _ rfl, hc 6 _ rfl⟩
structure Pln where
 quo : List Int
 cons : List Con
def Pln.val (Aq : Option Addr) (cq : Nat) (Ac : Option Addr) (cc : Nat) (p : Pln) : Value := .agg #[.slice Aq p.quo.length cq, .slice Ac p.cons.length cc]
structure PlnRd (w : World) (Aq : Option Addr) (cq : Nat) (Ac : Option Addr) (cc : Nat) (p : Pln) : Prop where
 q : Rd EInt w Aq p.quo
 c : Rd ECon w Ac p.cons
 qm : p.quo.length <= 1000000
 cm : p.cons.length <= 1000000
 qc : p.quo.length <= cq
 cc : p.cons.length <= cc
theorem PlnRd.ext {w w' : World} {Aq : Option Addr} {cq : Nat} {Ac : Option Addr} {cc : Nat} {p : Pln} (h : PlnRd w Aq cq Ac cc p) (hb : Ext w w') : PlnRd w' Aq cq Ac cc p :=
 ⟨h.q.ext hb, h.c.ext hb, h.qm, h.cm, h.qc, h.cc⟩
def quoB (q : Int) : Bool := decide (q < 0) || decide (1073741824 < q)
def Pln.chkC (n : Int) : List Con -> List Con -> Int
 | _, [] => 0
 | pre, c :: l => if c.check = 0 then (if n <= c.src ∨ n <= c.dst then 2 else if pre.any (fun d => c.overlapB d) then 14 else chkC n (pre ++ [c]) l) else c.check
def Pln.lim (p : Pln) : Bool := decide (p.quo.length < 1) || (decide (16 < p.quo.length) || decide (64 < p.cons.length))
def Pln.chk (p : Pln) : Int := if p.lim then 4 else if p.quo.any quoB then 2 else Pln.chkC p.quo.length [] p.cons
theorem Pln.chkC_step {n : Int} {l : List Con} {k : Nat} {c : Con} (h : k < l.length) (hc : l[k] = c) :
 Pln.chkC n (l.take k) (l.drop k) = if c.check = 0 then (if n <= c.src ∨ n <= c.dst then 2 else if (l.take k).any (fun d => c.overlapB d) then 14 else Pln.chkC n (l.take (k + 1)) (l.drop (k + 1))) else c.check := by
 rw [List.drop_eq_getElem_cons h, hc, take_snoc h hc]
 rfl
theorem overlap_comm (a b : Con) : a.overlapB b = b.overlapB a := by
 rw [Bool.eq_iff_iff]
 simp only [Con.overlapB, Bool.and_eq_true, decide_eq_true_eq]
 constructor
 ·rintro ⟨⟨⟨⟨h1, h2⟩, h3⟩, h4⟩, h5⟩
  exact ⟨⟨⟨⟨h2, h1⟩, h3.symm⟩, h4.symm⟩, by omega⟩
 ·rintro ⟨⟨⟨⟨h1, h2⟩, h3⟩, h4⟩, h5⟩
  exact ⟨⟨⟨⟨h2, h1⟩, h3.symm⟩, h4.symm⟩, by omega⟩
theorem Pln.chkC_mem {n : Int} : ∀ {pre l : List Con}, Pln.chkC n pre l = 0 -> ∀ c ∈ l, c.Ok /\ c.src < n /\ c.dst < n
 | _, [], _, c, hc => by simp at hc
 | pre, x :: l, h, c, hc => by
   simp only [Pln.chkC] at h
   split at h
   ·rename_i h0
    split at h
    ·cases h
    ·rename_i h1
     split at h
     ·cases h
     ·rcases List.mem_cons.1 hc with rfl | hc
      ·exact ⟨(Con.check_iff c).1 h0, by omega, by omega⟩
      ·exact Pln.chkC_mem h c hc
   ·rename_i h0; exact absurd h h0
structure Pln.Ok (p : Pln) : Prop where
 n1 : 1 <= p.quo.length
 n16 : p.quo.length <= 16
 m64 : p.cons.length <= 64
 con : ∀ c ∈ p.cons, c.Ok /\ c.src < p.quo.length /\ c.dst < p.quo.length
theorem Pln.ok_of {p : Pln} (h : p.chk = 0) : p.Ok := by
 unfold Pln.chk at h
 split at h
 ·cases h
 ·rename_i h0
  simp only [Pln.lim, Bool.or_eq_true, decide_eq_true_eq] at h0
  split at h
  ·cases h
  ·exact ⟨by omega, by omega, by omega, Pln.chkC_mem h⟩
end Go.Proofs.YtemkpimngbbpkaaGreat
/- Requests and hops as plain data. -/
namespace Go.Proofs.YtemkpimngbbpkaaGreat
set_option linter.unusedVariables false
set_option linter.unusedSimpArgs false
open Go.RowKit
structure Req where
 src : Int
 dst : Int
 size : Int
 ready : Int
 dead : Int
 prio : Int
 cust : Bool
def Req.cells (q : Req) : Array Value := #[.int .i64 q.src, .int .i64 q.dst, .int .i64 q.size, .int .i64 q.ready, .int .i64 q.dead, .int .i64 q.prio, .bool q.cust]
def Req.val (q : Req) : Value := .agg #[.int .i64 q.src, .int .i64 q.dst, .int .i64 q.size, .int .i64 q.ready, .int .i64 q.dead, .int .i64 q.prio, .bool q.cust]
def Req.okB (q : Req) (n : Nat) : Bool :=
 decide (0 <= q.src /\ q.src < n /\ 0 <= q.dst /\ q.dst < n /\ q.src ≠ q.dst /\ 1 <= q.size /\ q.size <= 65536 /\ 0 <= q.ready /\ q.ready <= q.dead /\ q.dead <= 1099511627776 /\ 0 <= q.prio /\ q.prio <= 2)
structure Hp where
 con : Int
 beg : Int
 en : Int
 arr : Int
def Hp.cells (h : Hp) : List Value := [.int .i64 h.con, .int .i64 h.beg, .int .i64 h.en, .int .i64 h.arr]
def Hp.val (h : Hp) : Value := .agg #[.int .i64 h.con, .int .i64 h.beg, .int .i64 h.en, .int .i64 h.arr]
def EHp : Elt Hp := ⟨Hp.cells, 4, fun _ => rfl, by omega, fun x u hu => by simp [Hp.cells] at hu; rcases hu with h | h | h | h <;> subst h <;> rfl⟩
theorem Rd.hp {w : World} {A : Option Addr} {l : List Hp} (h : Rd EHp w A l) {k : Nat} (hk : k < l.length) : ∃ b o, A = some ⟨b, o, none⟩ /\ b < w.heap.size /\
 w.cell? ⟨b, o + k * 4, none⟩ = some (.int .i64 l[k].con) /\ w.cell? ⟨b, o + k * 4 + 1, none⟩ = some (.int .i64 l[k].beg) /\ w.cell? ⟨b, o + k * 4 + 2, none⟩ = some (.int .i64 l[k].en) /\ w.cell? ⟨b, o + k * 4 + 3, none⟩ = some (.int .i64 l[k].arr) := by
 obtain ⟨b, o, rfl, hb, hc⟩ := h.at hk
 exact ⟨b, o, rfl, hb, hc 0 _ rfl, hc 1 _ rfl, hc 2 _ rfl, hc 3 _ rfl⟩
def RetA {α : Type} (E : Elt α) (w : World) (out : List α) (k : Int) (e : Ending) (w' : World) : Prop :=
 ∃ A c, e = .returned (.tuple #[.slice A out.length c, .int .i64 k]) /\ Rd E w' A out /\ Ext w w' /\ out.length <= c
end Go.Proofs.YtemkpimngbbpkaaGreat
/- Layer 25 (latest): the latest times as plain data, and the plain laws. -/
namespace Go.Proofs.YtemkpimngbbpkaaGreat
set_option linter.unusedVariables false
set_option linter.unusedSimpArgs false
open Go.RowKit
def Cons (n : Nat) (cons : List Con) : Prop := ∀ c ∈ cons, c.Ok /\ c.src < n /\ c.dst < n
def lstart (n : Nat) (dest D : Int) : List Int := (List.replicate n (-1)).set dest.toNat D
end Go.Proofs.YtemkpimngbbpkaaGreat
/- Layer 24 (journey): the earliest arrivals as plain data, and the plain laws. -/
namespace Go.Proofs.YtemkpimngbbpkaaGreat
set_option linter.unusedVariables false
set_option linter.unusedSimpArgs false
open Go.RowKit
def earr (c : Con) (t n : Int) : Int := if c.fitsB (c.beg t) n then c.beg t + c.dur n + c.rng else -1
theorem beg_ge (c : Con) (t : Int) : t <= c.beg t /\ c.st <= c.beg t := by unfold Con.beg; split <;> omega
theorem beg_mono (c : Con) {s t : Int} (h : s <= t) : c.beg s <= c.beg t := by unfold Con.beg; split <;> split <;> omega
theorem earr_cases {c : Con} {t n : Int} (h : c.Ok) (hn : 1 <= n /\ n <= 65536) :
 (earr c t n = -1 /\ c.fitsB (c.beg t) n = false) ∨ (c.fitsB (c.beg t) n = true /\ c.beg t <= c.en - c.dur n /\ earr c t n = c.beg t + c.dur n + c.rng /\ t + 2 <= earr c t n /\ 2 <= earr c t n /\ earr c t n <= 1099511627776) := by
 have d := Con.dur_bd h hn.1 hn.2
 have b := beg_ge c t
 have := h.st0
 have := h.rng0
 have := h.en1
 unfold earr
 cases hf : c.fitsB (c.beg t) n
 ·simp
 ·right
  simp only [Con.fitsB, decide_eq_true_eq] at hf
  rw [if_pos rfl]
  refine ⟨rfl, hf.2, rfl, ?_, ?_, ?_⟩ <;> omega
theorem earr_mono {c : Con} {s t m n : Int} (h : c.Ok) (hst : s <= t) (hm : 1 <= m) (hmn : m <= n) (hn : n <= 65536) (he : earr c t n ≠ -1) : earr c s m ≠ -1 /\ 0 <= earr c s m /\ earr c s m <= earr c t n := by
 have d := Con.dur_mono (c := c) h.rate0 (by omega : 0 <= m) hmn
 have b := beg_mono c hst
 have b2 := beg_ge c s
 rcases earr_cases (t := t) h ⟨by omega, hn⟩ with h1 | ⟨h1, h2, h3, h4, h5, h6⟩
 ·exact absurd h1.1 he
 ·rcases earr_cases (t := s) h ⟨hm, by omega⟩ with g1 | ⟨g1, g2, g3, g4, g5, g6⟩
  ·have := g1.2
   simp only [Con.fitsB, decide_eq_false_iff_not] at this
   omega
  ·omega
inductive RK (cons : List Con) (n src t0 : Int) : Nat -> Int -> Int -> Prop where
 | start (k : Nat) : RK cons n src t0 k src t0
 | step {k : Nat} {i t : Int} {c : Con} : RK cons n src t0 k i t -> c ∈ cons -> c.src = i -> earr c t n ≠ -1 -> RK cons n src t0 (k + 1) c.dst (earr c t n)
structure JC (N : Nat) (cons : List Con) (n src t0 : Int) : Prop where
 con : Cons N cons
 n1 : 1 <= n
 n2 : n <= 65536
 s0 : 0 <= src
 s1 : src < N
 r0 : 0 <= t0
 r1 : t0 <= 1099511627776
theorem RK.rng {N : Nat} {cons : List Con} {n src t0 : Int} (J : JC N cons n src t0) {k : Nat} {i t : Int} (h : RK cons n src t0 k i t) : 0 <= i /\ i < N /\ t0 <= t /\ t <= 1099511627776 := by
 induction h with
 | start k => exact ⟨J.s0, J.s1, Int.le_refl _, J.r1⟩
 | step h hc hi he ih =>
   rename_i k i t c
   have hok := J.con c hc
   have h1 := hok.1.dst0
   have h2 := hok.2.2
   rcases earr_cases (t := t) hok.1 ⟨J.n1, J.n2⟩ with g | ⟨g1, g2, g3, g4, g5, g6⟩
   ·exact absurd g.1 he
   ·exact ⟨h1, h2, by omega, g6⟩
theorem RK.succ {cons : List Con} {n src t0 : Int} {k : Nat} {i t : Int} (h : RK cons n src t0 k i t) : RK cons n src t0 (k + 1) i t := by
 induction h with
 | start k => exact .start _
 | step h hc hi he ih => exact .step ih hc hi he
theorem RK.more {cons : List Con} {n src t0 : Int} {k : Nat} {i t : Int} (h : RK cons n src t0 k i t) : ∀ d : Nat, RK cons n src t0 (k + d) i t
 | 0 => h
 | d + 1 => (RK.more h d).succ
theorem RK.zero {cons : List Con} {n src t0 : Int} {i t : Int} (h : RK cons n src t0 0 i t) : i = src /\ t = t0 := by
 cases h; exact ⟨rfl, rfl⟩
structure Least (N : Nat) (R : Int -> Int -> Prop) (m : List Int) : Prop where
 len : m.length = N
 snd : ∀ i : Int, 0 <= i -> i < N -> gi m i = -1 ∨ R i (gi m i)
 best : ∀ i t, R i t -> 0 <= gi m i /\ gi m i <= t
theorem gi_ext {m m' : List Int} (hl : m.length = m'.length) (h : ∀ i : Int, 0 <= i -> i < m.length -> gi m i = gi m' i) : m = m' := by
 apply List.ext_getElem hl
 intro i h1 h2
 have := h i (by omega) (by omega)
 rwa [gi_get h1, gi_get h2] at this
theorem Least.unique {N : Nat} {R : Int -> Int -> Prop} {m m' : List Int} (h : Least N R m) (h' : Least N R m') : m = m' := by
 apply gi_ext (h.len.trans h'.len.symm)
 intro i h0 h1
 have hN : i < N := by have := h.len; omega
 rcases h.snd i h0 hN with e | e
 ·rcases h'.snd i h0 hN with e' | e'
  ·omega
  ·have := h.best _ _ e'; omega
 ·have h2 := h'.best _ _ e
  rcases h'.snd i h0 hN with e' | e'
  ·omega
  ·have := h.best _ _ e'; omega
theorem min_ex {P : Int -> Prop} (h0 : ∀ t, P t -> 0 <= t) : (∀ t, ¬ P t) ∨ ∃ t, P t /\ ∀ s, P s -> t <= s := by
 have key : ∀ (n : Nat) (t : Int), P t -> t.toNat <= n -> ∃ t, P t /\ ∀ s, P s -> t <= s := by
  intro n
  induction n with
  | zero =>
    intro t ht hn
    exact ⟨t, ht, fun s hs => by have := h0 s hs; have := h0 t ht; omega⟩
  | succ n ih =>
    intro t ht hn
    by_cases h : ∃ s, P s /\ s < t
    ·obtain ⟨s, hs, hst⟩ := h
     exact ih s hs (by have := h0 s hs; omega)
    ·exact ⟨t, ht, fun s hs => by
      apply Classical.byContradiction
      intro hh
      exact h ⟨s, hs, by omega⟩⟩
 by_cases h : ∃ t, P t
 ·obtain ⟨t, ht⟩ := h
  exact .inr (key _ t ht (Nat.le_refl _))
 ·exact .inl fun t ht => h ⟨t, ht⟩
theorem list_ex {q : Nat -> Int -> Prop} : ∀ (n : Nat), (∀ i, i < n -> ∃ x, q i x) -> ∃ l : List Int, l.length = n /\ ∀ (i : Nat) (h : i < l.length), q i l[i]
 | 0, _ => ⟨[], rfl, fun i h => by simp at h⟩
 | n + 1, h => by
   obtain ⟨l, hl, hq⟩ := list_ex n (fun i hi => h i (by omega))
   obtain ⟨x, hx⟩ := h n (by omega)
   refine ⟨l ++ [x], by simp [hl], fun i hi => ?_⟩
   by_cases hin : i < l.length
   ·rw [List.getElem_append_left hin]; exact hq i hin
   ·have : i = n := by simp [hl] at hi; omega
    subst this
    subst hl
    simpa using hx
theorem Least.exists {N : Nat} {R : Int -> Int -> Prop} (hR : ∀ i t, R i t -> 0 <= i /\ i < N /\ 0 <= t) : ∃ m, Least N R m := by
 obtain ⟨l, hl, hq⟩ := list_ex (q := fun i x => (x = -1 ∨ R i x) /\ ∀ t, R i t -> 0 <= x /\ x <= t) N (fun i hi => by
  rcases min_ex (P := R i) (fun t ht => (hR _ _ ht).2.2) with h | ⟨t, ht, h⟩
  ·exact ⟨-1, .inl rfl, fun t ht => absurd ht (h t)⟩
  ·exact ⟨t, .inr ht, fun s hs => ⟨(hR _ _ ht).2.2, h s hs⟩⟩)
 have key : ∀ i : Int, 0 <= i -> i < N -> (gi l i = -1 ∨ R i (gi l i)) /\ ∀ t, R i t -> 0 <= gi l i /\ gi l i <= t := by
  intro i h0 h1
  have hk : i.toNat < l.length := by omega
  have := hq i.toNat hk
  rw [Int.toNat_of_nonneg h0] at this
  rw [gi_of h0 hk]
  exact this
 exact ⟨l, hl, fun i h0 h1 => (key i h0 h1).1, fun i t h => (key i (hR _ _ h).1 (hR _ _ h).2.1).2 t h⟩
theorem lstart_gi {N : Nat} {src t0 : Int} (h0 : 0 <= src) (h1 : src < N) {i : Int} (hi : 0 <= i) (hN : i < N) : gi (lstart N src t0) i = if i = src then t0 else -1 := by
 have hk : src.toNat < (List.replicate N (-1 : Int)).length := by simp; omega
 unfold lstart
 rw [gi_set hk]
 by_cases h : i = src
 ·rw [if_pos (by rw [h]), if_pos h]
 ·rw [if_neg (by omega), if_neg h]
  have : i.toNat < N := by omega
  simp [gi, this]
theorem lstart_len (N : Nat) (src t0 : Int) : (lstart N src t0).length = N := by simp [lstart]
theorem lstart_least {N : Nat} {cons : List Con} {n src t0 : Int} (J : JC N cons n src t0) : Least N (RK cons n src t0 0) (lstart N src t0) := by
 refine ⟨lstart_len _ _ _, fun i h0 h1 => ?_, fun i t h => ?_⟩
 ·rw [lstart_gi J.s0 J.s1 h0 h1]
  split
  ·rename_i h; subst h; exact .inr (.start 0)
  ·exact .inl rfl
 ·obtain ⟨rfl, rfl⟩ := h.zero
  rw [lstart_gi J.s0 J.s1 J.s0 J.s1, if_pos rfl]
  exact ⟨J.r0, Int.le_refl _⟩
def relax (out : List Int) (j a : Int) : List Int := if a ≠ -1 /\ (gi out j < 0 ∨ a < gi out j) then out.set j.toNat a else out
theorem relax_len (out : List Int) (j a : Int) : (relax out j a).length = out.length := by unfold relax; split <;> simp
theorem relax_gi {out : List Int} {j a : Int} (hj : 0 <= j) (hl : j < out.length) {i : Int} (hi : 0 <= i) :
 (gi (relax out j a) i = gi out i /\ (i = j -> ¬ (a ≠ -1 /\ (gi out j < 0 ∨ a < gi out j)))) ∨ (i = j /\ gi (relax out j a) i = a /\ a ≠ -1 /\ (gi out j < 0 ∨ a < gi out j)) := by
 unfold relax
 split
 ·rename_i h
  rw [gi_set (by omega)]
  by_cases e : i = j
  ·rw [if_pos (by rw [e])]; exact .inr ⟨e, rfl, h⟩
  ·rw [if_neg (by omega)]; exact .inl ⟨rfl, fun e' => absurd e' e⟩
 ·rename_i h
  exact .inl ⟨rfl, fun _ => h⟩
def rstep (n : Int) (m : List Int) (out : List Int) (c : Con) : List Int := if 0 <= gi m c.src then relax out c.dst (earr c (gi m c.src) n) else out
def rnd (cons : List Con) (n : Int) (m : List Int) : List Int := cons.foldl (rstep n m) m
def rnds (cons : List Con) (n : Int) (m : List Int) : Nat -> List Int
 | 0 => m
 | k + 1 => rnd cons n (rnds cons n m k)
section
variable {N : Nat} {cons : List Con} {n src t0 : Int}
structure RI (N : Nat) (cons : List Con) (n src t0 : Int) (k : Nat) (m out : List Int) (D : Con -> Prop) : Prop where
 len : out.length = N
 snd : ∀ i : Int, 0 <= i -> i < N -> gi out i = -1 ∨ RK cons n src t0 (k + 1) i (gi out i)
 le : ∀ i : Int, 0 <= i -> i < N -> 0 <= gi m i -> 0 <= gi out i /\ gi out i <= gi m i
 rel : ∀ c ∈ cons, D c -> 0 <= gi m c.src -> earr c (gi m c.src) n ≠ -1 -> 0 <= gi out c.dst /\ gi out c.dst <= earr c (gi m c.src) n
theorem RI.init {k : Nat} {m : List Int} (h : Least N (RK cons n src t0 k) m) : RI N cons n src t0 k m m (fun _ => False) :=
 ⟨h.len, fun i h0 h1 => (h.snd i h0 h1).imp id RK.succ, fun i _ _ h => ⟨h, Int.le_refl _⟩, fun _ _ h => h.elim⟩
theorem RI.weak {k : Nat} {m out : List Int} {D D' : Con -> Prop} (h : RI N cons n src t0 k m out D) (hD : ∀ c ∈ cons, D' c -> 0 <= gi m c.src -> earr c (gi m c.src) n ≠ -1 -> D c) : RI N cons n src t0 k m out D' :=
 ⟨h.len, h.snd, h.le, fun c hc hd h0 he => h.rel c hc (hD c hc hd h0 he) h0 he⟩
theorem RI.relax (J : JC N cons n src t0) {k : Nat} {m out : List Int} {D : Con -> Prop} (hm : Least N (RK cons n src t0 k) m) (h : RI N cons n src t0 k m out D) {c : Con} (hc : c ∈ cons) (h0 : 0 <= gi m c.src) :
 RI N cons n src t0 k m (relax out c.dst (earr c (gi m c.src) n)) (fun x => D x ∨ x = c) := by
 have hok := J.con c hc
 have s0 := hok.1.src0
 have d0 := hok.1.dst0
 have d1 := hok.2.2
 have hl := h.len
 have hR : earr c (gi m c.src) n ≠ -1 -> RK cons n src t0 (k + 1) c.dst (earr c (gi m c.src) n) := fun he => by
  rcases hm.snd c.src s0 hok.2.1 with e | e
  ·omega
  ·exact .step e hc rfl he
 have hpos : earr c (gi m c.src) n ≠ -1 -> 0 <= earr c (gi m c.src) n := fun he => by
  rcases earr_cases (t := gi m c.src) hok.1 ⟨J.n1, J.n2⟩ with g | ⟨g1, g2, g3, g4, g5, g6⟩
  ·exact absurd g.1 he
  ·omega
 refine ⟨by rw [relax_len]; exact hl, fun i i0 i1 => ?_, fun i i0 i1 hi => ?_, fun x hx hd hx0 hxe => ?_⟩
 ·rcases relax_gi (a := earr c (gi m c.src) n) d0 (by omega : c.dst < out.length) i0 with ⟨e, _⟩ | ⟨rfl, e, he, _⟩
  ·rw [e]; exact h.snd i i0 i1
  ·rw [e]; exact .inr (hR he)
 ·have h1 := h.le i i0 i1 hi
  rcases relax_gi (a := earr c (gi m c.src) n) d0 (by omega : c.dst < out.length) i0 with ⟨e, _⟩ | ⟨rfl, e, he, h2⟩
  ·rw [e]; exact h1
  ·rw [e]; have := hpos he; omega
 ·have x0 := (J.con x hx).1.dst0
  rcases relax_gi (a := earr c (gi m c.src) n) d0 (by omega : c.dst < out.length) x0 with ⟨e, h2⟩ | ⟨hxd, e, he, h2⟩
  ·rcases hd with hd | rfl
   ·rw [e]; exact h.rel x hx hd hx0 hxe
   ·have h9 := h2 rfl
    rw [e]
    rcases h.snd x.dst d0 d1 with g | g
    ·exact absurd ⟨hxe, .inl (by omega)⟩ h9
    ·have g2 := RK.rng J g
     have := J.r0
     refine ⟨by omega, ?_⟩
     apply Classical.byContradiction
     intro hh
     exact h9 ⟨hxe, .inr (by omega)⟩
  ·rcases hd with hd | rfl
   ·have := h.rel x hx hd hx0 hxe
    rw [e]
    rw [hxd] at this
    have := hpos he
    omega
   ·rw [e]; exact ⟨hpos he, Int.le_refl _⟩
theorem RI.step (J : JC N cons n src t0) {k : Nat} {m out : List Int} {D : Con -> Prop} (hm : Least N (RK cons n src t0 k) m) (h : RI N cons n src t0 k m out D) {c : Con} (hc : c ∈ cons) :
 RI N cons n src t0 k m (rstep n m out c) (fun x => D x ∨ x = c) := by
 unfold rstep
 split
 ·rename_i h0; exact h.relax J hm hc h0
 ·rename_i h0
  refine h.weak fun x _ hd hx _ => ?_
  rcases hd with hd | rfl
  ·exact hd
  ·exact absurd hx h0
theorem RI.done (J : JC N cons n src t0) {k : Nat} {m out : List Int} {D : Con -> Prop} (hm : Least N (RK cons n src t0 k) m) (h : RI N cons n src t0 k m out D)
 (hD : ∀ c ∈ cons, 0 <= gi m c.src -> earr c (gi m c.src) n ≠ -1 -> D c) : Least N (RK cons n src t0 (k + 1)) out := by
 refine ⟨h.len, h.snd, fun i t hi => ?_⟩
 cases hi with
 | start =>
   have h1 := hm.best src t0 (.start k)
   have h2 := h.le src J.s0 J.s1 h1.1
   omega
 | step hr hc hi he =>
   rename_i i t c
   subst hi
   have h1 := hm.best _ _ hr
   have h2 := earr_mono (J.con c hc).1 h1.2 J.n1 (Int.le_refl n) J.n2 he
   have h3 := h.rel c hc (hD c hc h1.1 h2.1) h1.1 h2.1
   omega
theorem rfold_ri (J : JC N cons n src t0) {k : Nat} {m : List Int} (hm : Least N (RK cons n src t0 k) m) : ∀ (l : List Con) (out : List Int) (D : Con -> Prop), (∀ c ∈ l, c ∈ cons) -> RI N cons n src t0 k m out D -> RI N cons n src t0 k m (l.foldl (rstep n m) out) (fun x => D x ∨ x ∈ l)
 | [], out, D, _, h => h.weak fun x _ hd _ _ => by simpa using hd
 | c :: l, out, D, hl, h => by
   simp only [List.foldl_cons]
   refine (rfold_ri J hm l _ _ (fun x hx => hl x (by simp [hx])) (h.step J hm (hl c (by simp)))).weak fun x _ hd _ _ => ?_
   rcases hd with hd | hd
   ·exact .inl (.inl hd)
   ·rcases List.mem_cons.1 hd with rfl | hd
    ·exact .inl (.inr rfl)
    ·exact .inr hd
theorem rnd_least (J : JC N cons n src t0) {k : Nat} {m : List Int} (hm : Least N (RK cons n src t0 k) m) : Least N (RK cons n src t0 (k + 1)) (rnd cons n m) :=
 (rfold_ri J hm cons m _ (fun _ h => h) (RI.init hm)).done J hm fun c hc _ _ => .inr hc
theorem rnds_least (J : JC N cons n src t0) : ∀ k, Least N (RK cons n src t0 k) (rnds cons n (lstart N src t0) k)
 | 0 => lstart_least J
 | k + 1 => rnd_least J (rnds_least J k)
def RA (cons : List Con) (n src t0 : Int) (i t : Int) : Prop := ∃ k, RK cons n src t0 k i t
theorem RA.rng (J : JC N cons n src t0) {i t : Int} (h : RA cons n src t0 i t) : 0 <= i /\ i < N /\ t0 <= t /\ t <= 1099511627776 := by
 obtain ⟨k, h⟩ := h; exact h.rng J
theorem RA.step {i t : Int} {c : Con} (h : RA cons n src t0 i t) (hc : c ∈ cons) (hi : c.src = i) (he : earr c t n ≠ -1) : RA cons n src t0 c.dst (earr c t n) := by
 obtain ⟨k, h⟩ := h; exact ⟨k + 1, .step h hc hi he⟩
theorem Least.edge {m : List Int} (J : JC N cons n src t0) (h : Least N (RA cons n src t0) m) {c : Con} (hc : c ∈ cons) (h0 : 0 <= gi m c.src) (he : earr c (gi m c.src) n ≠ -1) : 0 <= gi m c.dst /\ gi m c.dst <= earr c (gi m c.src) n := by
 have hok := J.con c hc
 rcases h.snd c.src hok.1.src0 hok.2.1 with e | e
 ·omega
 ·exact h.best _ _ (e.step hc rfl he)
theorem Least.sup {m : List Int} (J : JC N cons n src t0) (h : Least N (RA cons n src t0) m) {i : Int} (h0 : 0 <= gi m i) (hi : 0 <= i) (hN : i < N) :
 (i = src /\ gi m i = t0) ∨ ∃ c ∈ cons, c.dst = i /\ 0 <= gi m c.src /\ earr c (gi m c.src) n = gi m i /\ gi m c.src < gi m i := by
 rcases h.snd i hi hN with e | e
 ·omega
 ·obtain ⟨k, e⟩ := e
  generalize hg : gi m i = g at *
  cases e with
  | start => exact .inl ⟨rfl, rfl⟩
  | step hr hcm hsr he =>
    rename_i j t c
    subst hsr
    right
    have h1 := h.best _ _ ⟨_, hr⟩
    have hok := (J.con c hcm).1
    have h2 := earr_mono hok h1.2 J.n1 (Int.le_refl n) J.n2 he
    have h3 := h.edge J hcm h1.1 h2.1
    refine ⟨c, hcm, rfl, h1.1, by omega, ?_⟩
    rcases earr_cases (t := gi m c.src) hok ⟨J.n1, J.n2⟩ with g | ⟨g1, g2, g3, g4, g5, g6⟩
    ·exact absurd g.1 h2.1
    ·omega
def rank (m : List Int) (v : Int) : Nat := m.countP fun x => decide (0 <= x /\ x < v)
theorem rank_lt : ∀ {m : List Int} {u v : Int}, u ∈ m -> 0 <= u -> u < v -> rank m u < rank m v
 | [], _, _, h, _, _ => by simp at h
 | x :: m, u, v, h, h0, h1 => by
   have le : ∀ l : List Int, rank l u <= rank l v := fun l => by
    unfold rank
    apply List.countP_mono_left
    intro x _ hx
    simp only [decide_eq_true_eq] at hx ⊢
    omega
   unfold rank at le ⊢
   rw [List.countP_cons, List.countP_cons]
   rcases List.mem_cons.1 h with rfl | h
   ·have := le m
    rw [if_neg (by simp), if_pos (by simp; omega)]
    omega
   ·have := rank_lt h h0 h1
    unfold rank at this
    have hx : (if decide (0 <= x /\ x < u) = true then 1 else 0) <= (if decide (0 <= x /\ x < v) = true then 1 else 0) := by
     by_cases h2 : 0 <= x /\ x < u
     ·rw [if_pos (by simpa using h2), if_pos (by simp; omega)]; omega
     ·rw [if_neg (by simpa using h2)]; omega
    omega
theorem rank_bd {m : List Int} {v : Int} (h : v ∈ m) : rank m v < m.length := by
 unfold rank
 have h1 : m.countP (fun x => decide (0 <= x /\ x < v)) <= m.length := List.countP_le_length
 apply Nat.lt_of_le_of_ne h1
 intro e
 have := List.countP_eq_length.1 e v h
 simp at this
theorem rnds_hit (J : JC N cons n src t0) {m : List Int} (hm : Least N (RA cons n src t0) m) : ∀ (k : Nat) (i : Int), 0 <= i -> i < N -> 0 <= gi m i -> rank m (gi m i) <= k -> gi (rnds cons n (lstart N src t0) k) i = gi m i := by
 intro k
 induction k with
 | zero =>
   intro i h0 h1 hg hr
   have hl := rnds_least J 0
   rcases hm.sup J hg h0 h1 with ⟨rfl, e⟩ | ⟨c, hc, e1, e2, e3, e4⟩
   ·have := hl.best _ _ (.start 0)
    rcases hl.snd i h0 h1 with g | g
    ·omega
    ·have := hm.best _ _ ⟨_, g⟩; omega
   ·have := rank_lt (m := m) (gi_mem (by have := (J.con c hc).1.src0; have := (J.con c hc).2.1; have := hm.len; omega)) e2 e4
    omega
 | succ k ih =>
   intro i h0 h1 hg hr
   have hl := rnds_least J (k + 1)
   have hle : 0 <= gi (rnds cons n (lstart N src t0) (k + 1)) i /\ gi (rnds cons n (lstart N src t0) (k + 1)) i <= gi m i := by
    rcases hm.sup J hg h0 h1 with ⟨rfl, e⟩ | ⟨c, hc, e1, e2, e3, e4⟩
    ·rw [e]; exact hl.best _ _ (.start _)
    ·have s0 := (J.con c hc).1.src0
     have s1 := (J.con c hc).2.1
     have := rank_lt (m := m) (gi_mem (i := c.src) (by have := hm.len; omega)) e2 e4
     have h2 := ih c.src s0 s1 e2 (by omega)
     rcases (rnds_least J k).snd c.src s0 s1 with g | g
     ·omega
     ·rw [h2] at g
      have := hl.best _ _ (.step g hc rfl (by omega))
      rw [e1, e3] at this
      exact this
   rcases hl.snd i h0 h1 with g | g
   ·omega
   ·have := hm.best _ _ ⟨_, g⟩; omega
theorem rnds_all (J : JC N cons n src t0) {k : Nat} (hk : N <= k + 1) : Least N (RA cons n src t0) (rnds cons n (lstart N src t0) k) := by
 obtain ⟨m, hm⟩ := Least.exists (N := N) (R := RA cons n src t0) (fun i t h => by have := RA.rng J h; have := J.r0; omega)
 have e : rnds cons n (lstart N src t0) k = m := by
  have hl := rnds_least J k
  apply gi_ext (hl.len.trans hm.len.symm)
  intro i h0 h1
  have hN : i < N := by have := hl.len; omega
  rcases hm.snd i h0 hN with g | g
  ·rcases hl.snd i h0 hN with g' | g'
   ·omega
   ·have := hm.best _ _ ⟨_, g'⟩; omega
  ·have h2 := hm.best _ _ g
   have := rank_bd (m := m) (gi_mem (i := i) (by have := hm.len; omega))
   exact rnds_hit J hm k i h0 hN h2.1 (by have := hm.len; omega)
 rw [e]; exact hm
end
def Pln.arrs (p : Pln) (src t0 n : Int) : List Int := rnds p.cons n (lstart p.quo.length src t0) p.quo.length
def Pln.argF (p : Pln) (src t0 n : Int) : Bool := decide (0 <= src /\ src < p.quo.length /\ 0 <= t0 /\ t0 <= 1099511627776 /\ 1 <= n /\ n <= 65536)
theorem Pln.jc {p : Pln} {src t0 n : Int} (h : p.Ok) (ha : p.argF src t0 n = true) : JC p.quo.length p.cons n src t0 := by
 simp only [Pln.argF, decide_eq_true_eq] at ha
 exact ⟨h.con, ha.2.2.2.2.1, ha.2.2.2.2.2, ha.1, ha.2.1, ha.2.2.1, ha.2.2.2.1⟩
theorem Pln.arrs_least {p : Pln} {src t0 n : Int} (h : p.Ok) (ha : p.argF src t0 n = true) : Least p.quo.length (RA p.cons n src t0) (p.arrs src t0 n) :=
 rnds_all (Pln.jc h ha) (by omega)
def Pln.forE (p : Pln) (src t0 n : Int) : Int := if p.chk = 0 then (if p.argF src t0 n then 0 else 2) else 1
def Pln.forT (p : Pln) (src t0 n : Int) : List Int := if p.forE src t0 n = 0 then p.arrs src t0 n else []
def gb (l : List Bool) (i : Int) : Bool := l.getD i.toNat false
theorem gb_set {l : List Bool} {i j : Int} {v : Bool} (hi : i.toNat < l.length) : gb (l.set i.toNat v) j = if j.toNat = i.toNat then v else gb l j := by
 unfold gb
 simp only [List.getD_eq_getElem?_getD]
 by_cases h : j.toNat = i.toNat
 ·rw [if_pos h, h, List.getElem?_set_self hi]; rfl
 ·rw [if_neg h, List.getElem?_set_ne (by omega)]
theorem gb_of {l : List Bool} {i : Int} (h : i.toNat < l.length) : gb l i = l[i.toNat] := by simp [gb, h]
structure DI (N : Nat) (cons : List Con) (n src t0 : Int) (m : List Int) (lf : List Bool) (cur x : Int) (D : Con -> Prop) : Prop where
 len : m.length = N
 lfl : lf.length = N
 snd : ∀ i : Int, 0 <= i -> i < N -> gi m i = -1 ∨ RA cons n src t0 i (gi m i)
 src : 0 <= gi m src /\ gi m src <= t0
 lo : ∀ i : Int, 0 <= i -> i < N -> gb lf i = true -> 0 <= gi m i /\ gi m i <= cur
 hi : ∀ i : Int, 0 <= i -> i < N -> gb lf i = false -> 0 <= gi m i -> cur <= gi m i
 cl : ∀ c ∈ cons, gb lf c.src = true -> (c.src = x -> D c) -> earr c (gi m c.src) n ≠ -1 -> 0 <= gi m c.dst /\ gi m c.dst <= earr c (gi m c.src) n
section
variable {N : Nat} {cons : List Con} {n src t0 : Int} {m : List Int} {lf : List Bool} {cur x : Int} {D : Con -> Prop}
theorem DI.init (J : JC N cons n src t0) : DI N cons n src t0 (lstart N src t0) (List.replicate N false) 0 (-1) (fun _ => True) := by
 have h := lstart_least J
 have hf : ∀ i : Int, gb (List.replicate N false) i = false := fun i => by
  unfold gb
  rw [List.getD_eq_getElem?_getD]
  cases h : (List.replicate N false)[i.toNat]? with
  | none => rfl
  | some v => have := List.mem_of_getElem? h; rw [List.eq_of_mem_replicate this]; rfl
 refine ⟨h.len, by simp, fun i h0 h1 => (h.snd i h0 h1).imp id fun e => ⟨_, e⟩, h.best _ _ (.start 0), fun i _ _ e => ?_, fun i _ _ _ e => e, fun c _ e => ?_⟩
 ·rw [hf] at e; cases e
 ·rw [hf] at e; cases e
theorem DI.take (h : DI N cons n src t0 m lf cur (-1) D) {b : Int} (b0 : 0 <= b) (b1 : b < N) (hb : 0 <= gi m b) (hl : gb lf b = false) (hmin : ∀ i : Int, 0 <= i -> i < N -> gb lf i = false -> 0 <= gi m i -> gi m b <= gi m i)
 (hc0 : ∀ c ∈ cons, 0 <= c.src) : DI N cons n src t0 m (lf.set b.toNat true) (gi m b) b (fun _ => False) := by
 have hlen := h.lfl
 have hk : b.toNat < lf.length := by omega
 have hcur := h.hi b b0 b1 hl hb
 refine ⟨h.len, by rw [List.length_set]; exact hlen, h.snd, h.src, fun i i0 i1 e => ?_, fun i i0 i1 e hi => ?_, fun c hc e hx he => ?_⟩
 ·rw [gb_set hk] at e
  split at e
  ·rename_i hh; have : i = b := by omega
   rw [this]; exact ⟨hb, Int.le_refl _⟩
  ·have := h.lo i i0 i1 e; omega
 ·rw [gb_set hk] at e
  split at e
  ·cases e
  ·exact hmin i i0 i1 e hi
 ·rw [gb_set hk] at e
  have := hc0 c hc
  split at e
  ·exact (hx (by omega)).elim
  ·exact h.cl c hc e (fun e' => by omega) he
theorem DI.relax (J : JC N cons n src t0) (h : DI N cons n src t0 m lf cur x D) (hx : gb lf x = true) (hcur : gi m x = cur) {c : Con} (hc : c ∈ cons) (hcx : c.src = x) :
 DI N cons n src t0 (relax m c.dst (earr c cur n)) lf cur x (fun y => D y ∨ y = c) /\ gi (relax m c.dst (earr c cur n)) x = cur := by
 have hok := J.con c hc
 have s0 := hok.1.src0
 have s1 := hok.2.1
 have d0 := hok.1.dst0
 have d1 := hok.2.2
 have hl := h.len
 have hx0 : 0 <= gi m x /\ gi m x <= cur := h.lo x (by omega) (by omega) hx
 have hR : earr c cur n ≠ -1 -> RA cons n src t0 c.dst (earr c cur n) := fun he => by
  rcases h.snd x (by omega) (by omega) with e | e
  ·omega
  ·rw [hcur] at e; exact e.step hc hcx he
 have hpos : earr c cur n ≠ -1 -> cur < earr c cur n := fun he => by
  rcases earr_cases (t := cur) hok.1 ⟨J.n1, J.n2⟩ with g | ⟨g1, g2, g3, g4, g5, g6⟩
  ·exact absurd g.1 he
  ·omega
 have hleft : ∀ i : Int, 0 <= i -> i < N -> gb lf i = true -> gi (Go.Proofs.YtemkpimngbbpkaaGreat.relax m c.dst (earr c cur n)) i = gi m i := fun i i0 i1 e => by
  rcases relax_gi (a := earr c cur n) d0 (by omega : c.dst < m.length) i0 with ⟨e', _⟩ | ⟨rfl, e', he, h2⟩
  ·exact e'
  ·have := h.lo _ i0 i1 e
   have := hpos he
   omega
 have hdn : ∀ i : Int, 0 <= i -> 0 <= gi m i -> 0 <= gi (Go.Proofs.YtemkpimngbbpkaaGreat.relax m c.dst (earr c cur n)) i /\ gi (Go.Proofs.YtemkpimngbbpkaaGreat.relax m c.dst (earr c cur n)) i <= gi m i := fun i i0 e => by
  rcases relax_gi (a := earr c cur n) d0 (by omega : c.dst < m.length) i0 with ⟨e', _⟩ | ⟨rfl, e', he, h2⟩
  ·rw [e']; exact ⟨e, Int.le_refl _⟩
  ·rw [e']; have := hpos he; omega
 refine ⟨⟨by rw [relax_len]; exact hl, h.lfl, fun i i0 i1 => ?_, ?_, fun i i0 i1 e => ?_, fun i i0 i1 e hi => ?_, fun y hy e hyx he => ?_⟩, ?_⟩
 ·rcases relax_gi (a := earr c cur n) d0 (by omega : c.dst < m.length) i0 with ⟨e', _⟩ | ⟨rfl, e', he, h2⟩
  ·rw [e']; exact h.snd i i0 i1
  ·rw [e']; exact .inr (hR he)
 ·have h1 := hdn src J.s0 h.src.1
  have := h.src.2
  omega
 ·rw [hleft i i0 i1 e]; exact h.lo i i0 i1 e
 ·rcases relax_gi (a := earr c cur n) d0 (by omega : c.dst < m.length) i0 with ⟨e', _⟩ | ⟨rfl, e', he, h2⟩
  ·rw [e'] at hi ⊢; exact h.hi i i0 i1 e hi
  ·rw [e']; have := hpos he; omega
 ·have hyok := J.con y hy
  rw [hleft y.src hyok.1.src0 hyok.2.1 e] at he ⊢
  by_cases hyc : y.src = x /\ y = c
  ·obtain ⟨h1, rfl⟩ := hyc
   rw [h1, hcur] at he ⊢
   rcases relax_gi (a := earr y cur n) d0 (by omega : y.dst < m.length) d0 with ⟨e', h2⟩ | ⟨_, e', he', h2⟩
   ·have h3 := h2 rfl
    rw [e']
    rcases h.snd y.dst d0 d1 with g | g
    ·exact absurd ⟨he, .inl (by omega)⟩ h3
    ·have g2 := RA.rng J g
     have := J.r0
     refine ⟨by omega, ?_⟩
     apply Classical.byContradiction
     intro hh
     exact h3 ⟨he, .inr (by omega)⟩
   ·rw [e']; have := hpos he; omega
  ·have h1 := h.cl y hy e (fun e' => by
    rcases hyx e' with g | g
    ·exact g
    ·exact absurd ⟨e', g⟩ hyc) he
   have h2 := hdn y.dst hyok.1.dst0 h1.1
   omega
 ·rw [hleft x (by omega) (by omega) hx]; exact hcur
theorem DI.close (h : DI N cons n src t0 m lf cur x D) (hD : ∀ c ∈ cons, c.src = x -> earr c (gi m x) n ≠ -1 -> D c) (D' : Con -> Prop) : DI N cons n src t0 m lf cur (-1) D' :=
 ⟨h.len, h.lfl, h.snd, h.src, h.lo, h.hi, fun c hc e _ he => h.cl c hc e (fun e' => hD c hc e' (by rw [<- e']; exact he)) he⟩
theorem DI.weak {D' : Con -> Prop} (h : DI N cons n src t0 m lf cur x D) (hD : ∀ c ∈ cons, c.src = x -> D' c -> D c) : DI N cons n src t0 m lf cur x D' :=
 ⟨h.len, h.lfl, h.snd, h.src, h.lo, h.hi, fun c hc e hd he => h.cl c hc e (fun e' => hD c hc e' (hd e')) he⟩
theorem DI.done (J : JC N cons n src t0) (h : DI N cons n src t0 m lf cur (-1) D) (hno : ∀ i : Int, 0 <= i -> i < N -> 0 <= gi m i -> gb lf i = true) : Least N (RA cons n src t0) m := by
 refine ⟨h.len, h.snd, ?_⟩
 rintro i t ⟨k, hk⟩
 induction hk with
 | start => exact h.src
 | step hr hc hi he ih =>
   rename_i k i t c
   subst hi
   have hok := J.con c hc
   have h1 := hno c.src hok.1.src0 hok.2.1 ih.1
   have h2 := earr_mono hok.1 ih.2 J.n1 (Int.le_refl n) J.n2 he
   have h3 := h.cl c hc h1 (fun e => by have := hok.1.src0; omega) h2.1
   omega
end
theorem Pln.arrs_eq {p : Pln} {src t0 n : Int} (h : p.Ok) (ha : p.argF src t0 n = true) {m : List Int} (hm : Least p.quo.length (RA p.cons n src t0) m) : m = p.arrs src t0 n :=
 hm.unique (Pln.arrs_least h ha)
end Go.Proofs.YtemkpimngbbpkaaGreat
/- Layer 24 (journey): journeys as plain data. -/
namespace Go.Proofs.YtemkpimngbbpkaaGreat
set_option linter.unusedVariables false
set_option linter.unusedSimpArgs false
open Go.RowKit
def hopAt (i : Nat) (c : Con) (t n : Int) : Hp := ⟨i, c.beg t, c.beg t + c.dur n, c.beg t + c.dur n + c.rng⟩
def hopR (i : Nat) (c : Con) (t n : Int) : Hp := if earr c t n = -1 then ⟨0, 0, 0, 0⟩ else hopAt i c t n
theorem hopAt_arr {i : Nat} {c : Con} {t n : Int} (he : earr c t n ≠ -1) : (hopAt i c t n).arr = earr c t n := by
 unfold earr at he ⊢
 split
 ·rfl
 ·rename_i h; rw [if_neg h] at he; exact absurd rfl he
def cand (f : List Int) (n node time : Int) (c : Con) : Bool := decide (c.dst = node /\ 0 <= gi f c.src /\ earr c (gi f c.src) n ≠ -1 /\ earr c (gi f c.src) n = time)
section
variable {N : Nat} {cons : List Con} {n src t0 : Int} {m : List Int}
end
section
variable {N : Nat} {cons : List Con} {n src t0 : Int}
end
def gc (cons : List Con) (i : Int) : Con := cons.getD i.toNat ⟨0, 0, 0, 0, 0, 0, 0⟩
theorem gc_get {cons : List Con} {i : Int} (h : i.toNat < cons.length) : gc cons i = cons[i.toNat] := by simp [gc, h]
end Go.Proofs.YtemkpimngbbpkaaGreat
/- Layers 24 and 25 beside each other: earliest arrivals and latest times are each other's mirror. -/
namespace Go.Proofs.YtemkpimngbbpkaaGreat
set_option linter.unusedVariables false
set_option linter.unusedSimpArgs false
open Go.RowKit
section
variable {p : Pln} {src dst n : Int}
end
section
variable {p : Pln} {src dst n : Int}
end
end Go.Proofs.YtemkpimngbbpkaaGreat
/- Layer 26 (reach): profiles as plain data. -/
namespace Go.Proofs.YtemkpimngbbpkaaGreat
set_option linter.unusedVariables false
set_option linter.unusedSimpArgs false
open Go.RowKit
section
variable {p : Pln} {src dst n : Int}
end
end Go.Proofs.YtemkpimngbbpkaaGreat
/- Layer 24 (journey): the plain law of JourneyMonotone. -/
namespace Go.Proofs.YtemkpimngbbpkaaGreat
set_option linter.unusedVariables false
set_option linter.unusedSimpArgs false
open Go.RowKit
end Go.Proofs.YtemkpimngbbpkaaGreat
namespace Go.Proofs.YtemkpimngbbpkaaGreat
set_option linter.unusedVariables false
set_option linter.unusedSimpArgs false
open Go.RowKit
structure Chg where
 org : Int
 cnt : Int
 stp : Int
 kind : Int
 con : Con
def Chg.cells (x : Chg) : List Value := [.int .i64 x.org, .int .i64 x.cnt, .int .i64 x.stp, .int .i64 x.kind, .int .i64 x.con.src, .int .i64 x.con.dst, .int .i64 x.con.st, .int .i64 x.con.en, .int .i64 x.con.rate, .int .i64 x.con.rng, .int .i64 x.con.loss]
def EChg : Elt Chg := ⟨Chg.cells, 11, fun _ => rfl, by omega, fun x u hu => by simp [Chg.cells] at hu; rcases hu with h | h | h | h | h | h | h | h | h | h | h <;> subst h <;> rfl⟩
def inN (n i : Int) : Bool := decide (0 <= i /\ i < n)
def Con.bare (c : Con) : Con := ⟨c.src, c.dst, c.st, 0, 0, 0, 0⟩
def Con.isBare (c : Con) : Bool := decide (c.en = 0) && (decide (c.rate = 0) && (decide (c.rng = 0) && decide (c.loss = 0)))
def Chg.cok (n : Int) (x : Chg) : Bool :=
 inN n x.con.src && (inN n x.con.dst && (if x.kind = 1 then decide (x.con.check = 0) else if x.kind = 2 then decide (x.con.src ≠ x.con.dst) && (decide (0 <= x.con.st /\ x.con.st <= 1099511627776) && x.con.isBare) else false))
def Chg.ok (n : Int) (x : Chg) : Bool := decide (0 <= x.org /\ x.org < n /\ 1 <= x.cnt /\ 1 <= x.stp /\ x.stp <= 1099511627776) && x.cok n
def folE (b : Option Chg) (x : Chg) : Int :=
 match b with
 | none => if x.cnt = 1 then 0 else 25
 | some y => if x.org < y.org ∨ (y.org = x.org /\ x.cnt <= y.cnt) then 9 else if y.org = x.org then (if x.cnt ≠ y.cnt + 1 then 25 else if x.stp <= y.stp then 9 else 0) else (if x.cnt ≠ 1 then 25 else 0)
def chkF (n : Int) : Option Chg -> List Chg -> Int
 | _, [] => 0
 | b, x :: r => if x.ok n = false then 2 else if folE b x ≠ 0 then folE b x else chkF n (some x) r
def hChk (n : Int) (l : List Chg) : Int := if n < 1 ∨ 16 < n then 2 else if 1000 < l.length then 4 else chkF n none l
def Chg.lt (x y : Chg) : Prop := x.org < y.org ∨ (x.org = y.org /\ x.cnt < y.cnt)
theorem Chg.lt_irrefl (x : Chg) : ¬ x.lt x := by unfold Chg.lt; omega
theorem Chg.lt_trans {x y z : Chg} (h : x.lt y) (k : y.lt z) : x.lt z := by unfold Chg.lt at *; omega
theorem strict_eq : ∀ {l m : List Chg}, l.Pairwise Chg.lt -> m.Pairwise Chg.lt -> (∀ x, x ∈ l ↔ x ∈ m) -> l = m
 | [], [], _, _, _ => rfl
 | [], y :: m, _, _, h => absurd ((h y).2 (by simp)) (by simp)
 | x :: l, [], _, _, h => absurd ((h x).1 (by simp)) (by simp)
 | x :: l, y :: m, hl, hm, h => by
   obtain ⟨hl1, hl2⟩ := List.pairwise_cons.1 hl
   obtain ⟨hm1, hm2⟩ := List.pairwise_cons.1 hm
   have e : x = y := by
    rcases List.mem_cons.1 ((h x).1 (by simp)) with h1 | h1
    ·exact h1
    ·rcases List.mem_cons.1 ((h y).2 (by simp)) with h2 | h2
     ·exact h2.symm
     ·exact absurd (Chg.lt_trans (hl1 y h2) (hm1 x h1)) (Chg.lt_irrefl x)
   subst e
   congr 1
   refine strict_eq hl2 hm2 (fun z => ⟨fun hz => ?_, fun hz => ?_⟩)
   ·rcases List.mem_cons.1 ((h z).1 (by simp [hz])) with h1 | h1
    ·subst h1; exact absurd (hl1 z hz) (Chg.lt_irrefl z)
    ·exact h1
   ·rcases List.mem_cons.1 ((h z).2 (by simp [hz])) with h1 | h1
    ·subst h1; exact absurd (hm1 z hz) (Chg.lt_irrefl z)
    ·exact h1
structure LogOk (L : Nat -> List Chg) : Prop where
 org : ∀ o (i : Nat) (h : i < (L o).length), (L o)[i].org = o
 cnt : ∀ o (i : Nat) (h : i < (L o).length), (L o)[i].cnt = i + 1
 ok : ∀ o, o < 3 -> ∀ x ∈ L o, x.ok 4 = true
 asc : ∀ o (i : Nat) (h : i + 1 < (L o).length), (L o)[i].stp < (L o)[i + 1].stp
def hist (L : Nat -> List Chg) (k : Nat -> Nat) : List Chg := (L 0).take (k 0) ++ ((L 1).take (k 1) ++ (L 2).take (k 2))
theorem hist_mem {L : Nat -> List Chg} {k : Nat -> Nat} {x : Chg} : x ∈ hist L k ↔ ∃ o, o < 3 /\ x ∈ (L o).take (k o) := by
 simp only [hist, List.mem_append]
 constructor
 ·rintro (h | h | h)
  ·exact ⟨0, by omega, h⟩
  ·exact ⟨1, by omega, h⟩
  ·exact ⟨2, by omega, h⟩
 ·rintro ⟨o, ho, h⟩
  match o, ho with
  | 0, _ => exact .inl h
  | 1, _ => exact .inr (.inl h)
  | 2, _ => exact .inr (.inr h)
theorem take_mem {α : Type} {l : List α} {k : Nat} {x : α} : x ∈ l.take k ↔ ∃ i, ∃ h : i < l.length, i < k /\ l[i] = x := by
 rw [List.mem_iff_getElem]
 constructor
 ·rintro ⟨i, hi, e⟩
  rw [List.length_take] at hi
  rw [List.getElem_take] at e
  exact ⟨i, by omega, by omega, e⟩
 ·rintro ⟨i, h, hk, e⟩
  exact ⟨i, by rw [List.length_take]; omega, by rw [List.getElem_take]; exact e⟩
theorem LogOk.key {L : Nat -> List Chg} (h : LogOk L) {o p : Nat} {x y : Chg} (hx : x ∈ L o) (hy : y ∈ L p) (e1 : x.org = y.org) (e2 : x.cnt = y.cnt) : x = y := by
 obtain ⟨i, hi, rfl⟩ := List.mem_iff_getElem.1 hx
 obtain ⟨j, hj, rfl⟩ := List.mem_iff_getElem.1 hy
 rw [h.org, h.org] at e1
 rw [h.cnt, h.cnt] at e2
 have e3 : o = p := by omega
 subst e3
 have e4 : i = j := by omega
 subst e4
 rfl
theorem pw_take {L : Nat -> List Chg} (h : LogOk L) (o k : Nat) : ((L o).take k).Pairwise Chg.lt := by
 refine List.Pairwise.sublist (List.take_sublist _ _) ?_
 rw [List.pairwise_iff_getElem]
 intro i j hi hj hij
 unfold Chg.lt
 rw [h.org, h.org, h.cnt, h.cnt]
 omega
theorem hist_pw {L : Nat -> List Chg} (h : LogOk L) (k : Nat -> Nat) : (hist L k).Pairwise Chg.lt := by
 have lo : ∀ o x, x ∈ (L o).take (k o) -> x.org = o := fun o x hx => by
  obtain ⟨i, hi, _, rfl⟩ := take_mem.1 hx
  exact h.org o i hi
 unfold hist
 rw [List.pairwise_append, List.pairwise_append]
 refine ⟨pw_take h _ _, ⟨pw_take h _ _, pw_take h _ _, ?_⟩, ?_⟩
 ·intro a ha b hb
  have := lo _ _ ha
  have := lo _ _ hb
  unfold Chg.lt; omega
 ·intro a ha b hb
  have := lo _ _ ha
  rcases List.mem_append.1 hb with hb | hb
  ·have := lo _ _ hb
   unfold Chg.lt; omega
  ·have := lo _ _ hb
   unfold Chg.lt; omega
theorem chkF_app {n : Int} : ∀ {l m : List Chg} {b : Option Chg}, chkF n b l = 0 -> chkF n (match l.getLast? with | some y => some y | none => b) m = 0 -> chkF n b (l ++ m) = 0
 | [], m, b, _, h => by simpa using h
 | x :: l, m, b, h1, h2 => by
   have h1' := h1
   unfold chkF at h1'
   split at h1'
   ·omega
   ·rename_i a1
    split at h1'
    ·rename_i a2; exact absurd h1' a2
    ·rename_i a2
     have ih := chkF_app (m := m) h1' (by
      cases hl : l.getLast? with
      | none =>
        have : l = [] := by simpa using hl
        subst this
        simpa using h2
      | some y =>
        rw [List.getLast?_cons, hl] at h2
        simpa using h2)
     rw [List.cons_append]
     unfold chkF
     rw [if_neg a1, if_neg a2]
     exact ih
theorem chkF_take {L : Nat -> List Chg} (h : LogOk L) {o : Nat} (ho : o < 3) : ∀ (k i : Nat) (b : Option Chg), (∀ y, b = some y -> (i = 0 /\ y.org < o) ∨ (∃ hi : i - 1 < (L o).length, 1 <= i /\ y = (L o)[i - 1])) -> (b = none -> i = 0) -> chkF 4 b (((L o).drop i).take k) = 0
 | 0, i, b, _, _ => by simp [chkF]
 | k + 1, i, b, hb, hn => by
   by_cases hi : i < (L o).length
   ·rw [List.drop_eq_getElem_cons hi, List.take_succ_cons]
    unfold chkF
    rw [if_neg (by rw [h.ok o ho _ (List.getElem_mem hi)]; simp)]
    have hf : folE b (L o)[i] = 0 := by
     cases hbb : b with
     | none =>
       have := hn hbb
       unfold folE
       dsimp only
       rw [if_pos (by rw [h.cnt]; omega)]
     | some y =>
       unfold folE
       dsimp only
       rcases hb y hbb with ⟨h1, h2⟩ | ⟨h1, h2, h3⟩
       ·rw [if_neg (by rw [h.org]; omega), if_neg (by rw [h.org]; omega), if_neg (by rw [h.cnt]; omega)]
       ·have a1 := h.asc o (i - 1) (by omega)
        have e : i - 1 + 1 = i := by omega
        simp only [e] at a1
        subst h3
        rw [if_neg (by rw [h.org, h.org, h.cnt, h.cnt]; omega), if_pos (by rw [h.org, h.org]), if_neg (by rw [h.cnt, h.cnt]; omega), if_neg (by omega)]
    rw [if_neg (by rw [hf]; simp)]
    exact chkF_take h ho k (i + 1) _ (fun y hy => by
     injection hy with hy
     exact .inr ⟨by omega, by omega, by subst hy; rfl⟩) (fun h => by cases h)
   ·rw [List.drop_eq_nil_of_le (by omega)]
    simp [chkF]
theorem last_org {L : Nat -> List Chg} (h : LogOk L) {o k : Nat} {y : Chg} (hy : ((L o).take k).getLast? = some y) : y.org = o := by
 have := List.mem_of_getLast? hy
 obtain ⟨i, hi, _, rfl⟩ := take_mem.1 this
 exact h.org o i hi
theorem hist_chk {L : Nat -> List Chg} (h : LogOk L) (k : Nat -> Nat) (hl : (hist L k).length <= 1000) : hChk 4 (hist L k) = 0 := by
 unfold hChk
 rw [if_neg (by omega), if_neg (by omega)]
 have t : ∀ o : Nat, o < 3 -> ∀ b : Option Chg, (∀ y, b = some y -> y.org < (o : Int)) -> chkF 4 b ((L o).take (k o)) = 0 := fun o ho b hb => by
  have := chkF_take h ho (k o) 0 b (fun y hy => .inl ⟨rfl, hb y hy⟩) (fun _ => rfl)
  simpa using this
 unfold hist
 refine chkF_app (t 0 (by omega) none (fun y hy => by cases hy)) ?_
 cases h0 : ((L 0).take (k 0)).getLast? with
 | none =>
   refine chkF_app (t 1 (by omega) none (fun y hy => by cases hy)) ?_
   cases h1 : ((L 1).take (k 1)).getLast? with
   | none => exact t 2 (by omega) none (fun y hy => by cases hy)
   | some y => exact t 2 (by omega) (some y) (fun z hz => by injection hz with hz; subst hz; have := last_org h h1; omega)
 | some y =>
   have e0 := last_org h h0
   refine chkF_app (t 1 (by omega) (some y) (fun z hz => by injection hz with hz; subst hz; omega)) ?_
   cases h1 : ((L 1).take (k 1)).getLast? with
   | none => exact t 2 (by omega) (some y) (fun z hz => by injection hz with hz; subst hz; omega)
   | some y' => exact t 2 (by omega) (some y') (fun z hz => by injection hz with hz; subst hz; have := last_org h h1; omega)
def conEq (a b : Con) : Bool := decide (a.src = b.src) && (decide (a.dst = b.dst) && (decide (a.st = b.st) && (decide (a.en = b.en) && (decide (a.rate = b.rate) && (decide (a.rng = b.rng) && decide (a.loss = b.loss))))))
theorem conEq_iff {a b : Con} : conEq a b = true ↔ a = b := by
 cases a; cases b
 simp [conEq]
def chgEq (x y : Chg) : Bool := decide (x.org = y.org) && (decide (x.cnt = y.cnt) && (decide (x.stp = y.stp) && (decide (x.kind = y.kind) && conEq x.con y.con)))
theorem chgEq_iff {x y : Chg} : chgEq x y = true ↔ x = y := by
 obtain ⟨a, b, c, d, e⟩ := x
 obtain ⟨a', b', c', d', e'⟩ := y
 simp [chgEq, conEq_iff]
def cmpF (y : Chg) : List Chg -> List Chg
 | [] => []
 | x :: r => if chgEq x y then cmpF x r else x :: cmpF x r
def cmpct : List Chg -> List Chg
 | [] => []
 | x :: r => x :: cmpF x r
def Chg.le (x y : Chg) : Prop := ¬ y.lt x
theorem cmpF_mem1 : ∀ {r : List Chg} {y z : Chg}, z ∈ cmpF y r -> z ∈ r
 | [], _, _, h => by simp [cmpF] at h
 | x :: r, y, z, h => by
   unfold cmpF at h
   split at h
   ·exact List.mem_cons_of_mem _ (cmpF_mem1 h)
   ·rcases List.mem_cons.1 h with rfl | h
    ·exact List.mem_cons_self
    ·exact List.mem_cons_of_mem _ (cmpF_mem1 h)
theorem cmpF_mem2 : ∀ {r : List Chg} {y z : Chg}, z ∈ r -> z = y ∨ z ∈ cmpF y r
 | [], _, _, h => by simp at h
 | x :: r, y, z, h => by
   unfold cmpF
   split
   ·rename_i e
    have e := chgEq_iff.1 e
    rcases List.mem_cons.1 h with rfl | h
    ·exact .inl e
    ·rcases cmpF_mem2 (y := x) h with h | h
     ·exact .inl (h.trans e)
     ·exact .inr h
   ·rcases List.mem_cons.1 h with rfl | h
    ·exact .inr List.mem_cons_self
    ·rcases cmpF_mem2 (y := x) h with h | h
     ·subst h; exact .inr List.mem_cons_self
     ·exact .inr (List.mem_cons_of_mem _ h)
theorem cmpF_pw : ∀ {r : List Chg} {y : Chg}, (y :: r).Pairwise Chg.le -> (∀ a b, a ∈ y :: r -> b ∈ y :: r -> a.org = b.org -> a.cnt = b.cnt -> a = b) -> (∀ z ∈ cmpF y r, y.lt z) /\ (cmpF y r).Pairwise Chg.lt
 | [], _, _, _ => by simp [cmpF]
 | x :: r, y, h, hk => by
   obtain ⟨h1, h2⟩ := List.pairwise_cons.1 h
   have hk2 : ∀ a b, a ∈ x :: r -> b ∈ x :: r -> a.org = b.org -> a.cnt = b.cnt -> a = b := fun a b ha hb => hk a b (List.mem_cons_of_mem _ ha) (List.mem_cons_of_mem _ hb)
   have ih := cmpF_pw h2 hk2
   unfold cmpF
   split
   ·rename_i e
    have e := chgEq_iff.1 e
    subst e
    exact ih
   ·rename_i e
    have hyx : y.lt x := by
     have a1 := h1 x (by simp)
     have a2 : ¬ (x.org = y.org /\ x.cnt = y.cnt) := fun a3 => e (chgEq_iff.2 (hk x y (by simp) (by simp) a3.1 a3.2))
     unfold Chg.le Chg.lt at *
     omega
    refine ⟨fun z hz => ?_, List.pairwise_cons.2 ih⟩
    rcases List.mem_cons.1 hz with rfl | hz
    ·exact hyx
    ·exact Chg.lt_trans hyx (ih.1 z hz)
theorem cmpct_pw {l : List Chg} (h : l.Pairwise Chg.le) (hk : ∀ a b, a ∈ l -> b ∈ l -> a.org = b.org -> a.cnt = b.cnt -> a = b) : (cmpct l).Pairwise Chg.lt := by
 cases l with
 | nil => simp [cmpct]
 | cons x r => exact List.pairwise_cons.2 (cmpF_pw h hk)
theorem cmpct_mem {l : List Chg} {z : Chg} : z ∈ cmpct l ↔ z ∈ l := by
 cases l with
 | nil => simp [cmpct]
 | cons x r =>
   unfold cmpct
   constructor
   ·intro h
    rcases List.mem_cons.1 h with rfl | h
    ·simp
    ·exact List.mem_cons_of_mem _ (cmpF_mem1 h)
   ·intro h
    rcases List.mem_cons.1 h with rfl | h
    ·simp
    ·rcases cmpF_mem2 (y := x) h with h | h
     ·subst h; simp
     ·exact List.mem_cons_of_mem _ h
theorem cmpct_eq {l u : List Chg} (h : l.Pairwise Chg.le) (hk : ∀ a b, a ∈ l -> b ∈ l -> a.org = b.org -> a.cnt = b.cnt -> a = b) (hu : u.Pairwise Chg.lt) (hm : ∀ x, x ∈ l ↔ x ∈ u) : cmpct l = u :=
 strict_eq (cmpct_pw h hk) hu (fun x => cmpct_mem.trans (hm x))
theorem chkF_at {n : Int} : ∀ {l : List Chg} {b : Option Chg}, chkF n b l = 0 -> ∀ (i : Nat) (h : i < l.length), l[i].ok n = true /\ folE (if i = 0 then b else l[i - 1]?) l[i] = 0
 | [], _, _, i, h => by simp at h
 | x :: r, b, h0, i, h => by
   unfold chkF at h0
   split at h0
   ·omega
   ·rename_i a1
    split at h0
    ·rename_i a2; exact absurd h0 a2
    ·rename_i a2
     have a2 : folE b x = 0 := by simpa using a2
     cases i with
     | zero => exact ⟨by simpa using a1, by simpa using a2⟩
     | succ i =>
       have ih := chkF_at h0 i (by simpa using h)
       refine ⟨ih.1, ?_⟩
       rw [if_neg (by omega)]
       have e2 := ih.2
       cases i with
       | zero => simpa using e2
       | succ i => simpa using e2
def kmax (k k' : Nat -> Nat) : Nat -> Nat := fun o => max (k o) (k' o)
theorem hist_max {L : Nat -> List Chg} {k k' : Nat -> Nat} {l : List Chg} (hl1 : ∀ x ∈ l, x ∈ hist L k') (hl2 : ∀ x ∈ hist L k', x ∈ hist L k ∨ x ∈ l) (x : Chg) : x ∈ hist L k ++ l ↔ x ∈ hist L (kmax k k') := by
 rw [List.mem_append]
 constructor
 ·rintro (h | h)
  ·obtain ⟨o, ho, h⟩ := hist_mem.1 h
   obtain ⟨i, hi, hk, e⟩ := take_mem.1 h
   exact hist_mem.2 ⟨o, ho, take_mem.2 ⟨i, hi, by unfold kmax; omega, e⟩⟩
  ·obtain ⟨o, ho, h⟩ := hist_mem.1 (hl1 x h)
   obtain ⟨i, hi, hk, e⟩ := take_mem.1 h
   exact hist_mem.2 ⟨o, ho, take_mem.2 ⟨i, hi, by unfold kmax; omega, e⟩⟩
 ·intro h
  obtain ⟨o, ho, h⟩ := hist_mem.1 h
  obtain ⟨i, hi, hk, e⟩ := take_mem.1 h
  unfold kmax at hk
  rcases Nat.lt_or_ge i (k o) with h1 | h1
  ·exact .inl (hist_mem.2 ⟨o, ho, take_mem.2 ⟨i, hi, h1, e⟩⟩)
  ·exact hl2 x (hist_mem.2 ⟨o, ho, take_mem.2 ⟨i, hi, by omega, e⟩⟩)
theorem hist_key {L : Nat -> List Chg} (h : LogOk L) {k : Nat -> Nat} : ∀ a b, a ∈ hist L k -> b ∈ hist L k -> a.org = b.org -> a.cnt = b.cnt -> a = b := by
 intro a b ha hb
 obtain ⟨o, _, ha⟩ := hist_mem.1 ha
 obtain ⟨p, _, hb⟩ := hist_mem.1 hb
 exact h.key (List.mem_of_mem_take ha) (List.mem_of_mem_take hb)
end Go.Proofs.YtemkpimngbbpkaaGreat
namespace Go.Proofs.YtemkpimngbbpkaaGreat
set_option linter.unusedVariables false
set_option linter.unusedSimpArgs false
open Go.RowKit Go.Lib
def byC (b : UInt8) : Value := .int .u8 (b.toNat : Int)
theorem eb_all (l : Bts) : EB.all l = l.map byC := by
 induction l with
 | nil => rfl
 | cons x l ih => simp only [Elt.all, List.flatMap_cons, List.map_cons] at ih ⊢; rw [ih]; rfl
theorem strCells_mk (l : Bts) : strCells ⟨l.toArray⟩ = l.map byC := by simp [strCells, byC]
theorem bsize_mk (l : Bts) : (⟨l.toArray⟩ : ByteArray).size = l.length := by simp [ByteArray.size]
def OwnsB (w : World) (base : Nat) (e : TypeId) (v : Value) (l : Bts) : Prop :=
 (v = .slice none 0 0 /\ l = []) ∨
 ∃ g cap cur fz, v = .slice (some ⟨g, 0, none⟩) l.length cap /\ base <= g /\ w.heap[g]? = some (.cells cur e fz) /\ (fz = (0, 0) ∨ fz = (cur.size, cur.size + 1)) /\ l.length <= cap /\ cap <= maxLen /\ cur.size = cap /\ cur.toList.take l.length = l.map byC
theorem OwnsB.of {w : World} {base : Nat} {e : TypeId} {v : Value} {l : Bts} (h : Owns EB w base e v l) : OwnsB w base e v l := by
 have h1 := h
 unfold Owns at h1
 rw [eb_all] at h1
 rcases h1.2 with ⟨rfl, h2⟩ | ⟨g, cap, cur, rfl, h2, h3, h4, h5, h6, h7⟩
 ·exact .inl ⟨rfl, List.eq_nil_of_length_eq_zero h2⟩
 ·have e1 : EB.size = 1 := rfl
  rw [e1, Nat.mul_one] at h6 h7
  exact .inr ⟨g, cap, cur, (0, 0), rfl, h2, h3, .inl rfl, h4, h5, h6, h7⟩
theorem OwnsB.ext {w w' : World} {base : Nat} {e : TypeId} {v : Value} {l : Bts} (h : OwnsB w base e v l) (hb : Ext w w') : OwnsB w' base e v l := by
 rcases h with h | ⟨g, cap, cur, fz, rfl, h2, h3, h4⟩
 ·exact .inl h
 ·exact .inr ⟨g, cap, cur, fz, rfl, h2, (hb.block g (Array.getElem?_eq_some_iff.1 h3).1).trans h3, h4⟩
theorem OwnsB.block {w : World} {base : Nat} {e : TypeId} {v : Value} {l : Bts} (h : OwnsB w base e v l) {g : Nat} (hg : v.ownBlock = some g) : base <= g /\ g < w.heap.size := by
 rcases h with ⟨rfl, _⟩ | ⟨g', cap, cur, fz, rfl, h2, h3, _⟩
 ·simp [Value.ownBlock] at hg
 ·simp [Value.ownBlock] at hg
  subst hg
  exact ⟨h2, (Array.getElem?_eq_some_iff.1 h3).1⟩
theorem OwnsB.form {w : World} {base : Nat} {e : TypeId} {v : Value} {l : Bts} (h : OwnsB w base e v l) : ∃ A c, v = .slice A l.length c /\ Rd EB w A l := by
 rcases h with ⟨rfl, rfl⟩ | ⟨g, cap, cur, fz, rfl, h2, h3, h4, h5, h6, h7, h8⟩
 ·exact ⟨none, 0, rfl, Rd.nil⟩
 ·refine ⟨_, _, rfl, ?_⟩
  unfold Rd
  rw [eb_all]
  refine ⟨by simp [EB], fun _ => ⟨_, rfl, (Array.getElem?_eq_some_iff.1 h3).1, fun j u hu => ?_⟩⟩
  rw [Addr.add_lit, Nat.zero_add, cell_of_row w g j cur e fz h3]
  rw [<- h8, List.getElem?_take] at hu
  split at hu
  ·simpa using hu
  ·cases hu
theorem run_storeCells_atB (P : Program) (g o : Nat) (t : TypeId) (fz : Nat × Nat) : ∀ (vs : List Value) (i : Nat) (cur : Array Value) (w : World), w.heap[g]? = some (.cells cur t fz) -> (fz = (0, 0) ∨ fz = (cur.size, cur.size + 1)) -> o + i + vs.length <= cur.size -> (∀ v ∈ vs, v.oneCell' = true) ->
 (storeCells ⟨g, o, none⟩ vs i).run P w = .ok () (w.setRow g (cur.toList.take (o + i) ++ vs ++ cur.toList.drop (o + i + vs.length)).toArray)
 | [], i, cur, w, hg, _, _, _ => by
   simp only [storeCells, List.append_nil, List.length_nil, Nat.add_zero, List.take_append_drop, Array.toArray_toList]
   rw [setRow_self w g cur t fz hg]
   rfl
 | v :: rest, i, cur, w, hg, hfz, hl, h1 => by
   have hi : o + i < cur.size := by simp at hl; omega
   have hadd : (⟨g, o, none⟩ : Addr).add i = ⟨g, o + i, none⟩ := by unfold Addr.add; split <;> simp_all
   have hcell : w.cell? ⟨g, o + i, none⟩ = some cur[o + i] := by simp [World.cell?, hg, hi]
   have hfro : w.frozen? ⟨g, o + i, none⟩ = false := by
    rcases hfz with rfl | rfl <;> simp [World.frozen?, hg] <;> omega
   have hst : (store ((⟨g, o, none⟩ : Addr).add i) v).run P w = .ok () (w.setRow g (cur.setIfInBounds (o + i) v)) := by
    rw [hadd, run_store P w _ v _ (h1 v (by simp)), hcell]
    simp [hfro, setCell_eq_setRow w g (o + i) cur t fz v hg]
   have ih := run_storeCells_atB P g o t fz rest (i + 1) (cur.setIfInBounds (o + i) v) (w.setRow g (cur.setIfInBounds (o + i) v)) (setRow_heap w g cur _ t _ hg) (by simpa using hfz) (by simp at hl ⊢; omega) (fun x hx => h1 x (by simp [hx]))
   simp only [storeCells, Sem.run_bind, hst, Result.andThen_ok, ih, setRow_setRow]
   congr 3
   have e := list_seg_step cur.toList (o + i) v rest (by simp at hl ⊢; omega)
   simpa [Array.toList_setIfInBounds, Nat.add_assoc] using e
section
variable {P : Program} (w : World)
theorem run_append_room_stringB (t u ty e : TypeId) (i : TypeInfo) (ht : P.underlying t = some (.slice e)) (hu : P.underlying u = some .string) (hi : P.info? e = some i) (hs1 : i.size = 1)
 (g sLen sCap : Nat) (cur : Array Value) (fz : Nat × Nat) (hg : w.heap[g]? = some (.cells cur e fz)) (hfz : fz = (0, 0) ∨ fz = (cur.size, cur.size + 1)) (s : ByteArray)
 (hroom : sLen + s.size <= sCap) (hfit : sLen + s.size <= cur.size) :
 (Builtin.append_ #[t, u] ty #[.slice (some ⟨g, 0, none⟩) sLen sCap, .string s]).run P w =
  .ok (.slice (some ⟨g, 0, none⟩) (sLen + s.size) sCap) (w.setRow g (cur.toList.take sLen ++ strCells s ++ cur.toList.drop (sLen + s.size)).toArray) := by
 have hf := run_firstCells_string (P := P) w 1 s
 have hst := run_storeCells_atB P g sLen e fz (strCells s) 0 cur w hg hfz (by simpa [strCells_length] using hfit) (strCells_oneCell s)
 simp only [Nat.add_zero, strCells_length] at hst
 simp [Builtin.append_, run_underlying ht, run_underlying hu, sizeOf, typeInfo, hi, hs1, Builtin.lenOf, hroom, hf, Addr.add_lit, hst]
theorem run_append_stringB (base : Nat) (t u ty e : TypeId) (i : TypeInfo) (ht : P.underlying t = some (.slice e)) (hu : P.underlying u = some .string) (hi : P.info? e = some i) (hz : i.zero = some (.int .u8 0))
 (hsize : i.size = 1) (hby : i.bytes = 1) (v : Value) (l : Bts) (hown : OwnsB w base e v l) (s : Bts)
 (hn : l.length + s.length <= 140737488355328) (hbase : base <= w.heap.size) :
 ∃ v' w', (Builtin.append_ #[t, u] ty #[v, strV s]).run P w = .ok v' w' /\ OwnsB w' base e v' (l ++ s) /\ w.grownBy w' v.ownBlock := by
 have h63 : l.length + s.length <= maxLen := by simp only [maxLen]; omega
 have hss : (⟨s.toArray⟩ : ByteArray).size = s.length := bsize_mk s
 have hsc := strCells_mk s
 unfold strV
 rcases hown with ⟨rfl, rfl⟩ | ⟨g, cap, cur, fz, rfl, hbg, hg, hfz, hnc, hcm, hcs, htake⟩
 ·obtain ⟨v', w', h1, h2, h3, h4⟩ := run_append_own_string (P := P) w base t u ty e i ht hu hi hz hsize hby (.slice none 0 0) 0 [] (World.ownsRow_nil w base e 1) ⟨s.toArray⟩ (by rw [hss]; simpa using h63) (by rw [hss]; simpa using hn) hbase
  refine ⟨v', w', h1, OwnsB.of ?_, h3⟩
  unfold Owns
  rw [eb_all, List.nil_append, <- hsc]
  rw [hss] at h2
  simpa [EB] using h2
 ·by_cases hroom : l.length + s.length <= cap
  ·have hr := run_append_room_stringB (P := P) w t u ty e i ht hu hi hsize g l.length cap cur fz hg hfz ⟨s.toArray⟩ (by rw [hss]; exact hroom) (by rw [hss]; omega)
   rw [hss, hsc] at hr
   have hlen : (List.take l.length cur.toList ++ List.map byC s ++ List.drop (l.length + s.length) cur.toList).length = cur.size := by
    simp only [List.length_append, List.length_take, List.length_drop, Array.length_toList, List.length_map]
    omega
   refine ⟨_, _, hr, .inr ⟨g, cap, _, fz, by rw [List.length_append], hbg, setRow_heap w g cur _ e _ hg, ?_, by rw [List.length_append]; exact hroom, hcm, by rw [List.size_toArray, hlen]; exact hcs, ?_⟩, ⟨rfl, rfl, rfl, by simp, fun k _ hk => setRow_other w g k _ (fun e => hk (by simp [Value.ownBlock, e]))⟩⟩
   ·rw [List.size_toArray, hlen]; exact hfz
   ·rw [htake, List.map_append]
    have : (List.map byC l ++ List.map byC s).length = (l ++ s).length := by simp
    rw [<- this]
    exact List.take_left
  ·have holds : ∀ j u, (l.map byC)[j]? = some u -> w.cell? ((⟨g, 0, none⟩ : Addr).add j) = some u := by
    intro j u hu
    rw [Addr.add_lit, Nat.zero_add, cell_of_row w g j cur e fz hg]
    rw [<- htake, List.getElem?_take] at hu
    split at hu
    ·simpa using hu
    ·cases hu
   have hr := run_append_grow_string (P := P) w t u ty e i (.int .u8 0) ht hu hi hz ⟨g, 0, none⟩ l.length cap (l.map byC) (by rw [hsize]; simp) holds ⟨s.toArray⟩ (by rw [hss]; omega) (by rw [hss]; simp only [maxLen] at h63; omega) (by rw [hby, hss]; exact growslice_fits (by omega) (by omega))
   have hge := grownCap_ge w (l.length + s.length) cap e
   have hcm2 : grownCap w (l.length + s.length) cap e <= maxLen := grownCap_le_maxLen w (l.length + s.length) cap e h63
   rw [hss, hsc] at hr
   refine ⟨_, _, hr, .inr ⟨w.heap.size, _, _, (0, 0), by rw [List.length_append], hbase, heap_alloc_new w.drew _, .inl rfl, by rw [List.length_append]; exact hge, hcm2, ?_, ?_⟩, ⟨rfl, rfl, rfl, by simp, fun k hk _ => heap_alloc_old w.drew _ hk⟩⟩
   ·have hz1 : (Value.int IntKind.u8 0).cells.size = 1 := rfl
    simp only [Array.size_append, List.size_toArray, size_zeroCells, hz1, List.length_map]
    omega
   ·simp only [Array.toList_append, List.append_assoc]
    rw [<- List.append_assoc, <- List.map_append]
    have : (List.map byC (l ++ s)).length = (l ++ s).length := by simp
    rw [<- this]
    exact List.take_left
end
theorem conv_bytes {P : Program} (w : World) (src dst e : TypeId) (s : Bts) {u : TypeDesc} (hs : P.underlying src = some u) (hd : P.underlying dst = some (.slice e)) (he : P.underlying e = some (.int .u8)) (hn : s.length <= 140737488355328) :
 ∃ cap w', (convert src dst (strV s)).run P w = .ok (.slice (some ⟨w.heap.size, 0, none⟩) s.length cap) w' /\ OwnsB w' w.heap.size e (.slice (some ⟨w.heap.size, 0, none⟩) s.length cap) s /\ Ext w w' /\ w'.heap.size = w.heap.size + 1 := by
 have h1 := Go.Lib.run_convert_string_bytes (P := P) w src dst e ⟨s.toArray⟩ hs hd he
 have hz : (⟨s.toArray⟩ : ByteArray).size = s.length := bsize_mk s
 rw [hz] at h1
 have h63 : s.length <= maxLen := by simp only [maxLen]; omega
 have hge := grownCap_ge w s.length 0 e
 have hcm := grownCap_le_maxLen w s.length 0 e h63
 refine ⟨_, _, h1, .inr ⟨w.heap.size, _, _, _, rfl, Nat.le_refl _, bytesWorld_at_new w e ⟨s.toArray⟩, .inr rfl, hge, hcm, ?_, ?_⟩, ⟨?_, ?_, ?_, ?_, fun k hk => bytesWorld_at_old w e _ k hk⟩, bytesWorld_size w e _⟩
 ·simp only [bytesCells, hz, Array.size_append, Array.size_map, Array.size_replicate, List.size_toArray]
  omega
 ·simp only [bytesCells, hz, Array.toList_append, Array.toList_map]
  have e2 : (List.map (fun b : UInt8 => Value.int .u8 (b.toNat : Int)) s) = List.map byC s := rfl
  rw [e2]
  have : (List.map byC s).length = s.length := by simp
  rw [<- this]
  exact List.take_left
 ·rfl
 ·rfl
 ·rfl
 ·rw [bytesWorld_size]; omega
theorem conv_str {P : Program} (w : World) (src dst e : TypeId) (A : Option Addr) (c : Nat) (l : Bts) (hs : P.underlying src = some (.slice e)) (he : P.underlying e = some (.int .u8)) (hd : P.underlying dst = some .string) (hR : Rd EB w A l) :
 (convert src dst (.slice A l.length c)).run P w = .ok (strV l) w := by
 by_cases h0 : l = []
 ·subst h0
  cases A with
  | none => rw [run_convert_bytes_string w src dst e none _ c hs he hd]; simp [Conv.bytesToString, strV]; rfl
  | some a => exact run_convert_bytes_back w src dst e a c [] hs he hd (fun j hj => by simp at hj)
 ·have hp : 0 < l.length := by cases l with
   | nil => exact absurd rfl h0
   | cons x l => simp
  obtain ⟨b, o, rfl, hb, hc⟩ := hR.at hp
  refine run_convert_bytes_back w src dst e _ c l hs he hd (fun j hj => ?_)
  obtain ⟨b', o', e1, _, hc'⟩ := hR.at hj
  injection e1 with e1
  injection e1 with e2 e3
  subst e2 e3
  have := hc' 0 _ rfl
  have e9 : EB.size = 1 := rfl
  rw [e9, Nat.mul_one, Nat.add_zero] at this
  rw [Addr.add_lit]
  exact this
end Go.Proofs.YtemkpimngbbpkaaGreat
namespace Go.Proofs.YtemkpimngbbpkaaGreat
set_option linter.unusedVariables false
set_option linter.unusedSimpArgs false
open Go.RowKit
abbrev Sg := UInt8 × Bts
def sgAt (d : Bts) (i : Nat) : Sg := (d.getD (9 * i) 0, (d.drop (9 * i + 1)).take 8)
def sigs (d : Bts) : List Sg := (List.range (d.length / 9)).map (sgAt d)
def sflat (l : List Sg) : Bts := l.flatMap fun x => x.1 :: x.2
theorem sigs_len (d : Bts) : (sigs d).length = d.length / 9 := by simp [sigs]
theorem sgAt_len {d : Bts} {i : Nat} (h : i < d.length / 9) : (sgAt d i).2.length = 8 := by
 unfold sgAt
 simp only [List.length_take, List.length_drop]
 omega
theorem sigs_8 {d : Bts} : ∀ x ∈ sigs d, x.2.length = 8 := by
 intro x hx
 simp only [sigs, List.mem_map, List.mem_range] at hx
 obtain ⟨i, hi, rfl⟩ := hx
 exact sgAt_len hi
theorem sflat_len {l : List Sg} (h : ∀ x ∈ l, x.2.length = 8) : (sflat l).length = 9 * l.length := by
 induction l with
 | nil => rfl
 | cons x l ih =>
   have h1 := h x (by simp)
   have h2 := ih (fun y hy => h y (by simp [hy]))
   simp only [sflat, List.flatMap_cons, List.length_append, List.length_cons] at h2 ⊢
   omega
theorem sgAt_flat0 (x : Sg) (r : Bts) (h : x.2.length = 8) : sgAt (x.1 :: x.2 ++ r) 0 = x := by
 obtain ⟨a, t⟩ := x
 unfold sgAt
 simp only [Nat.mul_zero, Nat.zero_add, List.cons_append, List.getD_cons_zero, List.drop_succ_cons, List.drop_zero]
 rw [show (8 : Nat) = t.length from h.symm, List.take_left]
theorem sgAt_flatS (x : Sg) (r : Bts) (h : x.2.length = 8) (i : Nat) : sgAt (x.1 :: x.2 ++ r) (i + 1) = sgAt r i := by
 obtain ⟨a, t⟩ := x
 have h' : t.length = 8 := h
 unfold sgAt
 have e1 : 9 * (i + 1) = (9 * i) + (a :: t).length := by rw [List.length_cons, h']; omega
 rw [e1, show (9 * i) + (a :: t).length + 1 = (9 * i + 1) + (a :: t).length by omega]
 have e2 : ∀ k, List.drop (k + (a :: t).length) (a :: t ++ r) = List.drop k r := fun k => by
  rw [Nat.add_comm, List.drop_append, Nat.add_sub_cancel_left, List.drop_eq_nil_of_le (by omega), List.nil_append]
 refine Prod.ext ?_ ?_
 ·simp only [List.getD_eq_getElem?_getD]
  congr 1
  rw [List.getElem?_append_right (by omega), Nat.add_sub_cancel]
 ·show List.take 8 (List.drop _ _) = _
  rw [e2]
theorem sigs_flat {l : List Sg} (h : ∀ x ∈ l, x.2.length = 8) : sigs (sflat l) = l := by
 induction l with
 | nil => rfl
 | cons x l ih =>
   have h1 := h x (by simp)
   have h2 : ∀ y ∈ l, y.2.length = 8 := fun y hy => h y (by simp [hy])
   have ih := ih h2
   have hl := sflat_len h2
   have e : sflat (x :: l) = x.1 :: x.2 ++ sflat l := by simp [sflat]
   have hlen : (sflat (x :: l)).length / 9 = (sflat l).length / 9 + 1 := by
    rw [e, List.length_append, List.length_cons, h1]; omega
   unfold sigs at ih ⊢
   rw [hlen, List.range_succ_eq_map, List.map_cons, List.map_map, e, sgAt_flat0 x _ h1]
   congr 1
   refine Eq.trans ?_ ih
   refine List.map_congr_left (fun i _ => ?_)
   exact sgAt_flatS x _ h1 i
def okS : Int -> List Sg -> Bool
 | _, [] => true
 | last, x :: r => decide (last < (x.1.toNat : Int) /\ x.1.toNat < 16) && okS (x.1.toNat : Int) r
def damB (d : Bts) : Bool := !okS (-1) (sigs d) || decide (d.length = 0) || decide (d.length % 9 ≠ 0)
def findS (l : List Sg) (n : Nat) : Option Bts := (l.find? (fun x => x.1.toNat == n)).map (·.2)
def insS (m : Sg) : List Sg -> List Sg
 | [] => [m]
 | x :: r => if m.1.toNat < x.1.toNat then m :: x :: r else x :: insS m r
theorem insS_len (m : Sg) (l : List Sg) : (insS m l).length = l.length + 1 := by
 induction l with
 | nil => rfl
 | cons x r ih => unfold insS; split <;> simp [ih]
theorem insS_8 {m : Sg} {l : List Sg} (hm : m.2.length = 8) (h : ∀ x ∈ l, x.2.length = 8) : ∀ x ∈ insS m l, x.2.length = 8 := by
 induction l with
 | nil => intro x hx; simp [insS] at hx; subst hx; exact hm
 | cons y r ih =>
   intro x hx
   unfold insS at hx
   split at hx
   ·rcases List.mem_cons.1 hx with rfl | hx
    ·exact hm
    ·exact h x hx
   ·rcases List.mem_cons.1 hx with rfl | hx
    ·exact h _ (by simp)
    ·exact ih (fun z hz => h z (by simp [hz])) x hx
theorem insS_ok {m : Sg} (hm : m.1.toNat < 16) : ∀ {l : List Sg} {last : Int}, okS last l = true -> last < (m.1.toNat : Int) -> findS l m.1.toNat = none -> okS last (insS m l) = true
 | [], last, _, h1, _ => by simp [insS, okS, h1, hm]
 | x :: r, last, h, h1, h2 => by
   simp only [okS, Bool.and_eq_true, decide_eq_true_eq] at h
   unfold insS
   split
   ·rename_i h3
    simp only [okS, Bool.and_eq_true, decide_eq_true_eq]
    exact ⟨⟨h1, hm⟩, ⟨by omega, h.1.2⟩, h.2⟩
   ·rename_i h3
    have hne : ¬ x.1.toNat = m.1.toNat := by
     intro e
     simp [findS, e] at h2
    have h2' : findS r m.1.toNat = none := by
     unfold findS at h2 ⊢
     rw [List.find?_cons_of_neg (by simpa using hne)] at h2
     exact h2
    simp only [okS, Bool.and_eq_true, decide_eq_true_eq]
    exact ⟨h.1, insS_ok hm h.2 (by omega) h2'⟩
theorem insS_find {m : Sg} : ∀ {l : List Sg}, findS l m.1.toNat = none -> findS (insS m l) m.1.toNat = some m.2
 | [], _ => by simp [insS, findS]
 | x :: r, h2 => by
   unfold insS
   split
   ·simp [findS]
   ·have hne : ¬ x.1.toNat = m.1.toNat := by
     intro e
     simp [findS, e] at h2
    have h2' : findS r m.1.toNat = none := by
     unfold findS at h2 ⊢
     rw [List.find?_cons_of_neg (by simpa using hne)] at h2
     exact h2
    unfold findS
    rw [List.find?_cons_of_neg (by simpa using hne)]
    exact insS_find h2'
def putS (m : Sg) (s : List Sg × Bool) (x : Sg) : List Sg × Bool := if !s.2 && decide (m.1.toNat < x.1.toNat) then (s.1 ++ [m, x], true) else (s.1 ++ [x], s.2)
def putR (m : Sg) (l : List Sg) : List Sg × Bool := l.foldl (putS m) ([], false)
theorem putR_snoc (m : Sg) (l : List Sg) (x : Sg) : putR m (l ++ [x]) = putS m (putR m l) x := by simp [putR]
theorem putF_true (m : Sg) : ∀ (l : List Sg) (o : List Sg), l.foldl (putS m) (o, true) = (o ++ l, true)
 | [], o => by simp
 | x :: r, o => by
   rw [List.foldl_cons, show putS m (o, true) x = (o ++ [x], true) from rfl, putF_true m r]
   simp
theorem putF_ins (m : Sg) : ∀ (l : List Sg) (o : List Sg), (let s := l.foldl (putS m) (o, false); if s.2 then s.1 else s.1 ++ [m]) = o ++ insS m l
 | [], o => by simp [insS]
 | x :: r, o => by
   rw [List.foldl_cons]
   by_cases h : m.1.toNat < x.1.toNat
   ·rw [show putS m (o, false) x = (o ++ [m, x], true) by simp [putS, h], putF_true]
    simp [insS, h]
   ·rw [show putS m (o, false) x = (o ++ [x], false) by simp [putS, h], putF_ins m r]
    simp [insS, h]
theorem putR_ins (m : Sg) (l : List Sg) : (if (putR m l).2 then (putR m l).1 else (putR m l).1 ++ [m]) = insS m l := by
 have h := putF_ins m l []
 rw [List.nil_append] at h
 exact h
end Go.Proofs.YtemkpimngbbpkaaGreat

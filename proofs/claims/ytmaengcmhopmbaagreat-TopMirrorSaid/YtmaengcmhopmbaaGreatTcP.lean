/- TopMirror: the plain law. -/
import Derived.Test.YtmaengcmhopmbaaGreatTcAB
import Derived.Test.YtmaengcmhopmbaaGreatLatW6
namespace Go.Proofs.YtmaengcmhopmbaaGreat
set_option linter.unusedVariables false
open Go.RowKit Go.Shelf

/-- The hops from a node on are a route. -/
def RP (cons : List Con) (n dst D : Int) : Int → Int → List Hp → Prop
  | a, now, [] => a = dst ∧ now ≤ D
  | a, now, h :: l => (0 ≤ h.con ∧ h.con < cons.length) ∧ ((gc cons h.con).src = a ∧ a ≠ dst) ∧ (now ≤ h.beg ∧ 0 ≤ h.beg ∧ h.beg ≤ 1099511627776) ∧ (gc cons h.con).fitsR h.beg n = true ∧
    (h.en = h.beg + (gc cons h.con).dur n ∧ h.arr = h.beg + (gc cons h.con).dur n + (gc cons h.con).rng) ∧ RP cons n dst D (gc cons h.con).dst h.arr l
theorem ndK_cons (cons : List Con) (a : Int) (h : Hp) (l : List Hp) (k : Nat) : ndK cons a (h :: l) (k + 1) = ndK cons (gc cons h.con).dst l k := by
  cases k with
  | zero => simp [ndK]
  | succ k => simp [ndK]
theorem tmK_cons (t : Int) (h : Hp) (l : List Hp) (k : Nat) : tmK t (h :: l) (k + 1) = tmK h.arr l k := by
  cases k with
  | zero => simp [tmK]
  | succ k => simp [tmK]
theorem RP.get {cons : List Con} {n dst D : Int} : ∀ {l : List Hp} {a now : Int}, RP cons n dst D a now l → ∀ k (h : k < l.length),
    (0 ≤ l[k].con ∧ l[k].con < cons.length) ∧ ((gc cons l[k].con).src = ndK cons a l k ∧ ndK cons a l k ≠ dst) ∧ (tmK now l k ≤ l[k].beg ∧ 0 ≤ l[k].beg ∧ l[k].beg ≤ 1099511627776) ∧ (gc cons l[k].con).fitsR l[k].beg n = true ∧
    (l[k].en = l[k].beg + (gc cons l[k].con).dur n ∧ l[k].arr = l[k].beg + (gc cons l[k].con).dur n + (gc cons l[k].con).rng)
  | [], _, _, _, k, h => by simp at h
  | x :: l, a, now, hr, 0, _ => ⟨hr.1, hr.2.1, hr.2.2.1, hr.2.2.2.1, hr.2.2.2.2.1⟩
  | x :: l, a, now, hr, k + 1, h => by
    have := RP.get hr.2.2.2.2.2 k (by simpa using h)
    rw [ndK_cons, tmK_cons]
    exact this
theorem RP.fin {cons : List Con} {n dst D : Int} : ∀ {l : List Hp} {a now : Int}, RP cons n dst D a now l → ndK cons a l l.length = dst ∧ tmK now l l.length ≤ D
  | [], _, _, h => h
  | x :: l, a, now, hr => by
    rw [List.length_cons, ndK_cons, tmK_cons]
    exact RP.fin hr.2.2.2.2.2
theorem RP.rt {p : Pln} {q : Req} {l : List Hp} (h : RP p.cons q.size q.dst q.dead q.src q.ready l) (hl : 1 ≤ l.length ∧ l.length ≤ 64) : RtD p q l where
  len := hl
  con := fun k hk => (h.get k hk).1
  src := fun k hk => (h.get k hk).2.1
  tm := fun k hk => (h.get k hk).2.2.1
  fit := fun k hk => (h.get k hk).2.2.2.1
  hop := fun k hk => (h.get k hk).2.2.2.2
  last := h.fin.1
  dead := h.fin.2

theorem fitsR_of {c : Con} {b n : Int} (h : c.Ok) (hn : 1 ≤ n ∧ n ≤ 65536) (hf : c.fitsB b n = true) : c.fitsR b n = true := by
  unfold Con.fitsR
  rw [Con.arg_ok.2 ⟨h, hn.1, hn.2⟩, hf]
  rfl
theorem fitsR_dec {c : Con} {b n : Int} (h : c.fitsR b n = true) : c.Ok ∧ (1 ≤ n ∧ n ≤ 65536) ∧ c.fitsB b n = true := by
  unfold Con.fitsR at h
  simp only [Bool.and_eq_true, decide_eq_true_eq] at h
  have := Con.arg_ok.1 h.1
  exact ⟨this.1, this.2, h.2⟩

/-- Whoever is there in time comes along, at least as early. -/
theorem RP.ra {cons : List Con} {n dst D s r : Int} : ∀ {l : List Hp} {a now t : Int} {k : Nat}, RP cons n dst D a now l → RK cons n s r k a t → t ≤ now → ∃ k' x, RK cons n s r k' dst x ∧ x ≤ tmK now l l.length
  | [], a, now, t, k, h, hr, ht => ⟨k, t, by rw [← h.1]; exact hr, ht⟩
  | x :: l, a, now, t, k, h, hr, ht => by
    obtain ⟨h1, h2, h3, h4, h5, h6⟩ := h
    obtain ⟨hok, hn, hf⟩ := fitsR_dec h4
    have hmem : gc cons x.con ∈ cons := by rw [gc_get (by omega)]; exact List.getElem_mem _
    have hb : (gc cons x.con).beg x.beg = x.beg := by
      have hf2 := hf
      simp only [Con.fitsB, decide_eq_true_eq] at hf2
      unfold Con.beg
      rw [if_neg (by omega)]
    have he : earr (gc cons x.con) x.beg n = x.arr := by
      unfold earr
      rw [hb, if_pos hf, h5.2]
    have hne : earr (gc cons x.con) x.beg n ≠ -1 := by
      rcases earr_cases (t := x.beg) hok hn with g | g
      · rw [hb] at g; rw [g.2] at hf; cases hf
      · omega
    have hm := earr_mono (s := t) (m := n) hok (by omega) hn.1 (Int.le_refl _) hn.2 hne
    rw [he] at hm
    rw [List.length_cons, tmK_cons]
    exact RP.ra h6 (RK.step hr hmem h2.1 hm.1) hm.2.2

theorem gi_memT {m : List Int} {i : Int} (h0 : 0 ≤ i) (h : i < m.length) : gi m i ∈ m := by
  unfold gi
  rw [List.getD_eq_getElem?_getD, List.getElem?_eq_getElem (by omega)]
  exact List.getElem_mem _

theorem JP.rp {N : Nat} {cons : List Con} {n src t0 dst D : Int} {m : List Int} (J : JC N cons n src t0) (hs : gi m src = t0) {a : Int} {l : List Hp} (h : JP cons m n src a l) : gi m a ≤ gi m dst → ∀ rest, RP cons n dst D a (gi m a) rest → RP cons n dst D src t0 (l.reverse ++ rest) := by
  induction h with
  | done => intro _ rest hr; rw [hs] at hr; exact hr
  | step h1 h2 h99 ih =>
    rename_i a i c l
    intro ha rest hr
    have h3 := lastC_spec h2
    have h4 := lastC_lt J h2
    have hok := J.con c h3.2.1
    rw [List.reverse_cons, List.append_assoc, List.singleton_append]
    refine ih (by omega) _ ?_
    have hg := gc_of h3.1
    have hi : i < cons.length := (List.getElem?_eq_some_iff.1 h3.1).1
    rcases earr_cases (t := gi m c.src) hok.1 ⟨J.n1, J.n2⟩ with g | ⟨g1, g2, g3, g4, g5, g6⟩
    · exact absurd g.1 h3.2.2.2.2.1
    have hb := beg_ge c (gi m c.src)
    have hd := Con.dur_bd hok.1 J.n1 J.n2
    have hrg := hok.1.rng0
    refine ⟨⟨by show (0 : Int) ≤ (i : Int); omega, by show (i : Int) < _; omega⟩, ⟨by show (gc cons (i : Int)).src = c.src; rw [hg], fun e => by rw [e] at h4; omega⟩, ⟨hb.1, by show 0 ≤ c.beg (gi m c.src); omega, by show c.beg (gi m c.src) ≤ _; omega⟩, ?_, ?_, ?_⟩
    · show (gc cons (i : Int)).fitsR (c.beg (gi m c.src)) n = true
      rw [hg]
      exact fitsR_of hok.1 ⟨J.n1, J.n2⟩ g1
    · show c.beg (gi m c.src) + c.dur n = c.beg (gi m c.src) + (gc cons (i : Int)).dur n ∧ c.beg (gi m c.src) + c.dur n + c.rng = c.beg (gi m c.src) + (gc cons (i : Int)).dur n + (gc cons (i : Int)).rng
      rw [hg]
      exact ⟨rfl, rfl⟩
    · show RP cons n dst D (gc cons (i : Int)).dst (c.beg (gi m c.src) + c.dur n + c.rng) rest
      rw [hg, h3.2.2.1, ← g3, h3.2.2.2.2.2]
      exact hr
theorem JP.len {N : Nat} {cons : List Con} {n src t0 : Int} {m : List Int} (J : JC N cons n src t0) (hm : m.length = N) {a : Int} {l : List Hp} (h : JP cons m n src a l) : 0 ≤ a → a < N → l.length ≤ rank m (gi m a) := by
  induction h with
  | done => intro _ _; exact Nat.zero_le _
  | step h1 h2 h99 ih =>
    rename_i a i c l
    intro _ _
    have h4 := lastC_lt J h2
    have := ih h4.1 h4.2.1
    have h5 := rank_lt (m := m) (u := gi m c.src) (v := gi m a) (gi_memT h4.1 (by omega)) h4.2.2.1 (by omega)
    simp only [List.length_cons]
    omega
theorem LPath.rp {N : Nat} {cons : List Con} {n dst D : Int} {m : List Int} (hc : Cons N cons) (hn : 1 ≤ n ∧ n ≤ 65536) (hD : gi m dst = D) (hhi : ∀ x ∈ m, x ≤ 1099511627776) {a : Int} {l : List Hp} (hm : m.length = N) (h : LPath cons m dst n a l) :
    0 ≤ a → a < N → 0 ≤ gi m a → ∀ now, now ≤ gi m a → RP cons n dst D a now l := by
  induction h with
  | done => intro _ _ _ now h; exact ⟨rfl, by omega⟩
  | step h1 h2 h99 ih =>
    rename_i a i c l
    intro ha0 haN hg now hnow
    obtain ⟨hin, hp, _, hi, hci⟩ := findC_some h2
    rw [Nat.sub_zero] at hci
    have hf := lans_fits hc hn hin hp hg
    have hok := hc c hin
    have hgc := gc_of hci
    have hmx := hhi _ (gi_memT ha0 (by omega))
    refine ⟨⟨by show (0 : Int) ≤ (i : Int); omega, by show (i : Int) < _; omega⟩, ⟨by show (gc cons (i : Int)).src = a; rw [hgc]; exact hf.1, h1⟩, ⟨hnow, hg, hmx⟩, ?_, ?_, ?_⟩
    · show (gc cons (i : Int)).fitsR (gi m a) n = true
      rw [hgc]
      exact fitsR_of hok.1 hn (by simp only [Con.fitsB, decide_eq_true_eq]; omega)
    · show gi m a + c.dur n = gi m a + (gc cons (i : Int)).dur n ∧ gi m a + c.dur n + c.rng = gi m a + (gc cons (i : Int)).dur n + (gc cons (i : Int)).rng
      rw [hgc]
      exact ⟨rfl, rfl⟩
    · show RP cons n dst D (gc cons (i : Int)).dst (gi m a + c.dur n + c.rng) l
      rw [hgc]
      exact ih hf.2.2.2.2.2.1 hf.2.2.2.2.2.2.1 (by omega) _ (by omega)
theorem LPath.len {N : Nat} {cons : List Con} {n dst : Int} {m : List Int} (hc : Cons N cons) (hn : 1 ≤ n ∧ n ≤ 65536) (hm : m.length = N) {a : Int} {l : List Hp} (h : LPath cons m dst n a l) : 0 ≤ a → a < N → 0 ≤ gi m a → l.length + rank m (gi m a) ≤ rank m (gi m dst) := by
  induction h with
  | done => intro _ _ _; simp
  | step h1 h2 h99 ih =>
    rename_i a i c l
    intro ha0 haN hg
    obtain ⟨hin, hp, _, hi, hci⟩ := findC_some h2
    have hf := lans_fits hc hn hin hp hg
    have := ih hf.2.2.2.2.2.1 hf.2.2.2.2.2.2.1 (by omega)
    have h5 := rank_lt (m := m) (u := gi m a) (v := gi m c.dst) (gi_memT ha0 (by omega)) hg (by omega)
    simp only [List.length_cons]
    omega

theorem LPath.pos {cons : List Con} {n dst : Int} {m : List Int} {a : Int} {l : List Hp} (h : LPath cons m dst n a l) (hne : a ≠ dst) : 1 ≤ l.length := by
  cases h with
  | done => exact absurd rfl hne
  | step h1 h2 h3 => simp
/-- What TopMirror says of a list of hops. -/
structure MirL (p : Pln) (q : Req) (l : List Hp) : Prop where
  rt : RtD p q l
  fst : ∀ (h : 0 < l.length), l[0].beg ≤ gi (p.fixT q) q.src
  lst : ∀ k (h : k + 1 = l.length), gi (p.arrQ q) q.dst ≤ (l[k]'(by omega)).arr
section
variable {p : Pln} {q : Req} (h0 : p.chk = 0) (hq : q.okB p.quo.length = true)
include h0 hq
theorem mir_args : p.argB q.dst q.dead q.size = true ∧ p.Ok ∧ JC p.quo.length p.cons q.size q.src q.ready ∧ Least p.quo.length (RA p.cons q.size q.src q.ready) (p.arrQ q) ∧ (0 ≤ q.src ∧ q.src < p.quo.length) ∧ (0 ≤ q.dst ∧ q.dst < p.quo.length) ∧ q.src ≠ q.dst ∧ (1 ≤ q.size ∧ q.size ≤ 65536) ∧ 0 ≤ q.ready ∧ q.ready ≤ q.dead ∧ q.dead ≤ 1099511627776 := by
  have hok := Pln.ok_of h0
  have hq2 := hq
  simp only [Req.okB, decide_eq_true_eq] at hq2
  refine ⟨by simp only [Pln.argB, decide_eq_true_eq]; omega, hok, Req.jc hok hq, Pln.arrQ_least hok hq, ?_⟩
  omega
theorem mir_can : inT q (p.arrQ q) = decide (q.ready ≤ gi (p.fixT q) q.src) := by
  obtain ⟨ha, hok, J, hl, hs, hd, hne, hn, h1, h2, h3⟩ := mir_args h0 hq
  have hinv := (Pln.times_inv hok ha).1
  rw [Bool.eq_iff_iff]
  simp only [inT, decide_eq_true_eq]
  constructor
  · rintro ⟨g1, g2⟩
    rcases hl.snd q.dst hd.1 hd.2 with e | ⟨k, hk⟩
    · omega
    · exact mir_le hok ha hk (by rw [hinv.dst]; exact g2)
  · intro g
    obtain ⟨a, ha1, ha2⟩ := mir_ge hok ha _ q.src q.ready hs.1 hs.2 h1 g (Nat.le_refl _)
    have := hl.best _ _ ha2
    omega
theorem mir_all {i : Int} (hi : 0 ≤ i ∧ i < p.quo.length) (hg : 0 ≤ gi (p.arrQ q) i) (hle : gi (p.arrQ q) i ≤ gi (p.fixT q) i) : inT q (p.arrQ q) = true := by
  rw [mir_can h0 hq, decide_eq_true_eq]
  obtain ⟨ha, hok, J, hl, hs, hd, hne, hn, h1, h2, h3⟩ := mir_args h0 hq
  rcases hl.snd i hi.1 hi.2 with e | ⟨k, hk⟩
  · omega
  · exact mir_le hok ha hk hle
theorem mir_rp {l : List Hp} (h : RP p.cons q.size q.dst q.dead q.src q.ready l) (hl : 1 ≤ l.length ∧ l.length ≤ 64) : MirL p q l := by
  obtain ⟨ha, hok, J, hle, hs, hd, hne, hn, h1, h2, h3⟩ := mir_args h0 hq
  refine ⟨h.rt hl, fun h9 => ?_, fun k hk => ?_⟩
  · cases l with
    | nil => simp at h9
    | cons x l =>
      show x.beg ≤ _
      have hx : RP p.cons q.size q.dst q.dead q.src x.beg (x :: l) := ⟨h.1, h.2.1, ⟨Int.le_refl _, h.2.2.1.2⟩, h.2.2.2⟩
      obtain ⟨k, y, hk, hy⟩ := hx.ra (RK.start 0) (Int.le_refl _)
      have hinv := (Pln.times_inv hok ha).1
      refine mir_le hok ha hk ?_
      rw [hinv.dst]
      have := hx.fin.2
      omega
  · obtain ⟨j, y, hj, hy⟩ := h.ra (RK.start 0) (Int.le_refl _)
    have := (hle.best _ _ ⟨j, hj⟩).2
    have e : tmK q.ready l l.length = (l[k]'(by omega)).arr := by
      have e2 : ∀ m, m = k + 1 → tmK q.ready l m = (l[k]'(by omega)).arr := by
        rintro _ rfl
        show (l.getD k ⟨0, 0, 0, 0⟩).arr = _
        rw [List.getD_eq_getElem?_getD, List.getElem?_eq_getElem (by omega)]
        rfl
      exact e2 _ hk.symm
    rw [e] at hy
    exact Int.le_trans this hy
theorem mir_find {l : List Hp} {e : Int} (h : JFind p q l e) : if inT q (p.arrQ q) then e = 0 ∧ MirL p q l else e = 18 ∧ l = [] := by
  obtain ⟨ha, hok, J, hl, hs, hd, hne, hn, h1, h2, h3⟩ := mir_args h0 hq
  unfold JFind at h
  rw [if_pos ⟨h0, hq⟩] at h
  split at h
  · rename_i hi
    rw [if_pos hi]
    obtain ⟨rfl, b, hb, rfl⟩ := h
    simp only [inT, decide_eq_true_eq] at hi
    refine ⟨rfl, mir_rp h0 hq ?_ ?_⟩
    · have := JP.rp (dst := q.dst) (D := q.dead) J (hl.srcT J) hb (Int.le_refl _) [] ⟨rfl, hi.2⟩
      simpa using this
    · have h5 := JP.len J hl.len hb hd.1 hd.2
      have h6 := rank_bd (gi_memT (m := p.arrQ q) hd.1 (by rw [hl.len]; exact hd.2))
      have := hok.n16
      rw [hl.len] at h6
      rw [List.length_reverse]
      obtain ⟨i, c, l', _, e2⟩ := hb.split (fun e => hne e.symm)
      rw [e2] at h5 ⊢
      simp only [List.length_cons] at h5 ⊢
      omega
  · rename_i hi
    rw [if_neg hi]
    exact h
theorem mir_lat {l : List Hp} (h : LPath p.cons (p.fixT q) q.dst q.size q.src l) (hg : q.ready ≤ gi (p.fixT q) q.src) : MirL p q l := by
  obtain ⟨ha, hok, J, hl, hs, hd, hne, hn, h1, h2, h3⟩ := mir_args h0 hq
  have hinv := (Pln.times_inv hok ha).1
  have hg0 : 0 ≤ gi (p.times q.dst q.dead q.size) q.src := by have h9 : q.ready ≤ gi (p.times q.dst q.dead q.size) q.src := hg; omega
  refine mir_rp h0 hq (LPath.rp J.con hn hinv.dst (fun x hx => Int.le_trans (hinv.hi x hx) h3) hinv.len h hs.1 hs.2 hg0 q.ready hg) ⟨h.pos hne, ?_⟩
  have h5 : l.length + rank (p.fixT q) (gi (p.fixT q) q.src) ≤ rank (p.fixT q) (gi (p.fixT q) q.dst) := LPath.len J.con hn hinv.len h hs.1 hs.2 hg0
  have h7 : (p.fixT q).length = p.quo.length := hinv.len
  have h6 := rank_bd (gi_memT (m := p.fixT q) hd.1 (by rw [h7]; exact hd.2))
  have := hok.n16
  rw [h7] at h6
  omega

end

end Go.Proofs.YtmaengcmhopmbaaGreat

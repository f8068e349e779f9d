/- Layer 35 (multicast): without bookings, plain. -/
import Derived.Test.YtbgdglcnminbaaaMcGr
import Derived.Test.YtbgdglcnminbaaaPlnA
namespace Go.Proofs.Ytbgdglcnminbaaa
set_option linter.unusedVariables false
open Go.RowKit

/-- A branch that fits at its begin arrives no earlier than a bundle that is at its node then. -/
theorem earr_fit {c : Con} {t b n : Int} (ht : t ≤ b) (h1 : c.st ≤ b) (h2 : b + c.dur n ≤ c.en) (h0 : 0 ≤ b + c.dur n + c.rng) (h3 : 0 ≤ c.dur n) (h4 : 0 ≤ c.rng) (h5 : 0 ≤ t) : earr c t n ≠ -1 ∧ earr c t n ≤ b + c.dur n + c.rng := by
  have hb : c.beg t ≤ b ∧ t ≤ c.beg t := by unfold Con.beg; split <;> omega
  unfold earr
  have hf : c.fitsB (c.beg t) n = true := decide_eq_true ⟨(beg_ge c t).2, by omega⟩
  rw [hf, if_pos rfl]
  omega
/-- What is reached over a tree is reached over journeys. -/
theorem tree_least {p : Pln} {q : Req} {l : List Br} {T0 : List Int} (V : VT p q l) (J : JC p.quo.length p.cons q.size q.src q.ready) (hL : Least p.quo.length (RA p.cons q.size q.src q.ready) T0) : ∀ k, k < l.length → 0 ≤ gi T0 (p.nd l k) ∧ gi T0 (p.nd l k) ≤ (gbr l k).arr := by
  intro k
  induction k using Nat.strongRecOn with
  | _ k ih =>
    intro hk
    have b := V.br k hk
    have hr := V.req
    have hsrc := hL.srcT J
    have hs : 0 ≤ gi T0 (gc p.cons (gbr l k).con).src ∧ gi T0 (gc p.cons (gbr l k).con).src ≤ (gbr l k).beg := by
      by_cases e : (gbr l k).par = -1
      · obtain ⟨e1, e2⟩ := b.root e
        rw [e1, hsrc]
        omega
      · have hp := b.par0
        obtain ⟨e1, e2⟩ := b.next (by omega)
        have hp1 := b.par1
        have h := ih (gbr l k).par.toNat (by omega) (by omega)
        rw [e1]
        omega
    have hcl : (gbr l k).con.toNat < p.cons.length := by have := b.con0; have := b.con1; omega
    have hmem : gc p.cons (gbr l k).con ∈ p.cons := by rw [gc_get hcl]; exact List.getElem_mem hcl
    have hok := b.ok
    have hd := Con.dur_bd hok (show 1 ≤ q.size by omega) (show q.size ≤ 65536 by omega)
    have hfit := of_decide_eq_true b.fits
    have h1 := hok.rng0
    have h2 := b.en
    have h3 := b.arr
    have h4 := b.arr0
    have he := earr_fit (c := gc p.cons (gbr l k).con) (n := q.size) hs.2 hfit.1 (by omega) (by omega) (by omega) (by omega) hs.1
    have hedge := hL.edge J hmem hs.1 he.1
    show 0 ≤ gi T0 (gc p.cons (gbr l k).con).dst ∧ gi T0 (gc p.cons (gbr l k).con).dst ≤ _
    omega
theorem mhop_free {p : Pln} {q : Req} {i : Nat} {t s : Int} (hok : (gc p.cons (i : Int)).Ok) (hn : 1 ≤ q.size ∧ q.size ≤ 65536) (hts : t ≤ s) (he : earr (gc p.cons (i : Int)) s q.size ≠ -1) (hd : earr (gc p.cons (i : Int)) s q.size ≤ q.dead) :
    ∃ h, p.mhop [] q i t = some h ∧ h.arr ≤ earr (gc p.cons (i : Int)) s q.size := by
  have hdur := Con.dur_bd hok hn.1 hn.2
  rcases earr_cases (t := s) hok hn with ⟨e, _⟩ | ⟨_, h1, h2, h3, h4, h5⟩
  · exact absurd e he
  · have hb : max (gc p.cons (i : Int)).st t ≤ (gc p.cons (i : Int)).beg s := by have := beg_ge (gc p.cons (i : Int)) s; omega
    refine ⟨hpAt (gc p.cons (i : Int)) i q.size (max (gc p.cons (i : Int)).st t), ?_, ?_⟩
    · unfold Pln.mhop
      rw [fit_is hdur.1]
      show (match (if max (gc p.cons (i : Int)).st t < (gc p.cons (i : Int)).en ∧ (gc p.cons (i : Int)).dur q.size ≤ (gc p.cons (i : Int)).en - max (gc p.cons (i : Int)).st t then some (max (gc p.cons (i : Int)).st t) else none : Option Int) with | none => none | some b => _) = _
      rw [if_pos (by omega)]
      exact if_pos (by omega)
    · simp only [hpAt]
      omega
/-- earliest finds what journeys reach in time. -/
theorem early_le {p : Pln} {q : Req} {T T0 : List Int} (G : GC p [] q) (J : JC p.quo.length p.cons q.size q.src q.ready) (hL : Least p.quo.length (RA p.cons q.size q.src q.ready) T0) (hE : p.EarlP [] q (startL q) T) (hs0 : 0 ≤ q.src) (hs1 : q.src < p.quo.length) (hr0 : 0 ≤ q.ready) :
    ∀ (k : Nat) (n : Int), 0 ≤ n → n < p.quo.length → 0 ≤ gi T0 n → gi T0 n ≤ q.dead → (gi T0 n).toNat < k → 0 ≤ gi T n ∧ gi T n ≤ gi T0 n
  | 0, n, _, _, _, _, hk => by omega
  | k + 1, n, h0, h1, h2, h3, hk => by
    have hn := G.n16
    have hsl := startL_len q
    by_cases e : n = q.src
    · have hst := startL_gi (q := q) hs0 (by omega) h0 (by omega)
      rw [if_pos e] at hst
      have htr := EarlP.tr G hsl hE h0 (by omega) (by rw [hst]; exact hr0)
      have hT0 := hL.srcT J
      rw [← e] at hT0
      omega
    · have hst := startL_gi (q := q) hs0 (by omega) h0 (show n < 16 by omega)
      rw [if_neg e] at hst
      rcases hL.sup J h2 h0 h1 with ⟨e2, _⟩ | ⟨c, hc, e1, e2, e3, e4⟩
      · exact absurd e2 e
      · obtain ⟨i, hi, rfl⟩ := List.mem_iff_getElem.1 hc
        have hgc : gc p.cons (i : Int) = p.cons[i] := gc_get (i := (i : Int)) (by omega)
        rw [← hgc] at e1 e2 e3 e4
        have hC := G.con hi
        have hsrc0 := hC.1.src0
        have ih := early_le G J hL hE hs0 hs1 hr0 k (gc p.cons (i : Int)).src hsrc0 hC.2.1 e2 (by omega) (by omega)
        obtain ⟨h', hm, ha⟩ := mhop_free (t := gi T (gc p.cons (i : Int)).src) (s := gi T0 (gc p.cons (i : Int)).src) hC.1 ⟨G.q1, G.q2⟩ ih.2 (by rw [e3]; omega) (by rw [e3]; exact h3)
        have hI : p.hopI [] q (startL q) T i = some h' := by
          unfold Pln.hopI
          rw [if_neg (by rw [e1]; omega)]
          exact hm
        have hmem : h' ∈ p.hopsL [] q (startL q) T := hopsK_of hI hi
        obtain ⟨b, _, hh, _⟩ := mhop_some hm
        have hcon : h'.con = i := by rw [hh]; rfl
        have hx := eFold_fix _ _ hE.2 h' hmem
        rw [hcon, e1] at hx
        omega
/-- Without bookings. -/
structure EarlyP (q : Req) (mem : List Int) (T0 : List Int) (t : List Br × List Int) : Prop where
  all : ∀ m ∈ mem, 0 ≤ gi T0 m ∧ gi T0 m ≤ gi t.2 m ∧ gi T0 m ≤ q.dead
  first : ∀ (h : 0 < mem.length), gi t.2 mem[0] = gi T0 mem[0]
theorem early {p : Pln} {q : Req} {mem : List Int} {t : List Br × List Int} {T0 : List Int} (G : GC p [] q) (hf : fineR p q = true) (hm : memsB p.quo.length q.src mem = true) (J : JC p.quo.length p.cons q.size q.src q.ready) (hL : Least p.quo.length (RA p.cons q.size q.src q.ready) T0) (h : p.GrowR [] q mem ([], startL q) (some t)) : EarlyP q mem T0 t := by
  have g := grown G hf hm h
  have V := g.gi_.ti.vt
  have hn := G.n16
  have hr := V.req
  have hall : ∀ m ∈ mem, 0 ≤ gi T0 m ∧ gi T0 m ≤ gi t.2 m ∧ gi T0 m ≤ q.dead := fun m hm2 => by
    obtain ⟨a, ha, e1, _⟩ := mem_br g.chk hm2
    have h1 := tree_least V J hL a ha
    have h2 := mAt_nd V _ (Nat.le_refl _) a ha
    have h3 := (V.br a ha).dead
    rw [e1] at h1 h2
    rw [g.times] at h2
    omega
  refine ⟨hall, fun h0 => ?_⟩
  cases mem with
  | nil => exact absurd h0 (Nat.lt_irrefl 0)
  | cons m ms =>
    show gi t.2 m = gi T0 m
    have hmm := memsB_in hm (List.mem_cons_self ..)
    have hma := hall m (List.mem_cons_self ..)
    have hst := startL_gi (q := q) hr.1 (by omega) hmm.1 (show m < 16 by omega)
    rw [if_neg hmm.2.2] at hst
    unfold Pln.GrowR at h
    rw [if_neg (by show ¬ 0 ≤ gi (startL q) m; omega)] at h
    obtain ⟨T, hE, h⟩ := h
    change p.EarlP [] q (startL q) T at hE
    by_cases h1 : gi T m < 0
    · rw [if_pos h1] at h; cases h
    · rw [if_neg h1] at h
      have hTl := EarlP.len (startL_len q) hE
      have w := way_p G (TI.start hf) hE (fun h hh => hop_free G _ _ h hh) 17 hmm.1 (show m < 16 by omega) (by omega) (by have := rank16 (n := m) hTl hmm.1 (by omega); omega)
      change WayP p [] q T m ([], startL q) ((p.wayF [] q (startL q) T 17 m).reverse.foldl p.addB ([], startL q)) at w
      have hle := early_le G J hL hE hr.1 hr.2.1 hr.2.2.2.2.2.1 _ m hmm.1 hmm.2.1 hma.1 hma.2.2 (Nat.lt_succ_self _)
      have hrng : ∀ x ∈ ms, 0 ≤ x ∧ x < 16 := fun x hx => by have := memsB_in hm (List.mem_cons_of_mem _ hx); omega
      have hI' : GI p [] q [m] ((p.wayF [] q (startL q) T 17 m).reverse.foldl p.addB ([], startL q)) := (GI.grow G (hop_free G) [m] [] _ _ (GI.start hf) (fun x hx => by rw [List.mem_singleton.1 hx]; omega) (by
        unfold Pln.GrowR
        rw [if_neg (by show ¬ 0 ≤ gi (startL q) m; omega)]
        refine ⟨T, hE, ?_⟩
        rw [if_neg h1]
        unfold Pln.GrowR
        rfl)).1
      have hk := (GI.grow G (hop_free G) ms [m] _ t hI' hrng h).2.2 m hmm.1 (by omega) (by rw [w.at_]; omega)
      rw [w.at_] at hk
      omega

end Go.Proofs.Ytbgdglcnminbaaa

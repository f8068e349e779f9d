/- Layer 44 (custody): slices.DeleteFunc. -/
import Derived.Test.YtlhdmhgbclfneaaCusL3
import Derived.Test.YtlhdmhgbclfneaaMem4
namespace Go.Proofs.Ytlhdmhgbclfneaa
set_option linter.unusedVariables false
open Go.RowKit

theorem Pred.mono {w0 w : World} {f : FuncId} {cs : Array Value} {p : Off → Bool} (h : Pred w0 f cs p) (hb : Ext w0 w) : Pred w f cs p :=
  ⟨h.enters, fun x w' hw => h.says x w' (hb.trans hw)⟩
theorem Owns.offs {w : World} {base : Nat} {e : TypeId} {g n c : Nat} {m : List Off} (h : Owns EOff w base e (.slice (some ⟨g, 0, none⟩) n c) m) {k : Nat} (hk : k < m.length) :
    g < w.heap.size ∧ (∀ i, w.frozen? ⟨g, i, none⟩ = false) ∧
    w.cell? ⟨g, k * 8, none⟩ = some (.int .i64 m[k].id.a) ∧ w.cell? ⟨g, k * 8 + 1, none⟩ = some (.int .i64 m[k].id.b) ∧ w.cell? ⟨g, k * 8 + 2, none⟩ = some (.int .i64 m[k].id.c) ∧ w.cell? ⟨g, k * 8 + 3, none⟩ = some (.int .i64 m[k].id.d) ∧
    w.cell? ⟨g, k * 8 + 4, none⟩ = some (.int .i64 m[k].id.e) ∧ w.cell? ⟨g, k * 8 + 5, none⟩ = some (.int .i64 m[k].con) ∧ w.cell? ⟨g, k * 8 + 6, none⟩ = some (.int .i64 m[k].due) ∧ w.cell? ⟨g, k * 8 + 7, none⟩ = some (.int .i64 m[k].tries) := by
  obtain ⟨cur, hb, _, _, hc⟩ := h.there_
  have h8 : ∀ j, j < 8 → w.cell? ⟨g, k * 8 + j, none⟩ = (Off.cells m[k])[j]? := fun j hj => (hb.cell _).trans (hc k hk j hj)
  exact ⟨hb.lt, hb.frozen, h8 0 (by omega), h8 1 (by omega), h8 2 (by omega), h8 3 (by omega), h8 4 (by omega), h8 5 (by omega), h8 6 (by omega), h8 7 (by omega)⟩

theorem take_set_ {m : List Off} {i : Nat} (h : i < m.length) (y : Off) : (m.set i y).take (i + 1) = m.take i ++ [y] := by
  rw [List.take_succ_eq_append_getElem (by simpa using h), List.getElem_set_self, List.take_set_of_le (Nat.le_refl _)]

theorem findI_nope {p : Off → Bool} {l : List Off} (h : l.any p = false) : findI p l = -1 := by unfold findI; rw [h]; rfl
theorem findI_hit {p : Off → Bool} {l : List Off} (h : l.any p = true) : ∃ k : Nat, findI p l = (k : Int) ∧ k < l.length ∧ (l.take (k + 1)).filter (fun o => !p o) = l.take k := by
  refine ⟨l.findIdx p, by unfold findI; rw [if_pos h], List.findIdx_lt_length.2 (by simpa using List.any_eq_true.1 h), ?_⟩
  have hk : l.findIdx p < l.length := List.findIdx_lt_length.2 (by simpa using List.any_eq_true.1 h)
  rw [List.take_succ_eq_append_getElem hk, List.filter_append]
  have h1 : (l.take (l.findIdx p)).filter (fun o => !p o) = l.take (l.findIdx p) := by
    rw [List.filter_eq_self]
    intro y hy
    obtain ⟨j, hj, rfl⟩ := List.mem_take_iff_getElem.1 hy
    have := List.not_of_lt_findIdx (p := p) (xs := l) (i := j) (by omega)
    simpa using this
  have h2 : p l[l.findIdx p] = true := List.findIdx_getElem
  rw [h1]; simp [h2]

theorem zero_off : ∀ w, (zeroValue 26).run Try.prog w = .ok (.agg #[.int .i64 0, .int .i64 0, .int .i64 0, .int .i64 0, .int .i64 0, .int .i64 0, .int .i64 0, .int .i64 0]) w := fun w => by kernel_rfl
theorem zeroCells_len (n : Nat) : (Builtin.zeroCells #[.int .i64 0, .int .i64 0, .int .i64 0, .int .i64 0, .int .i64 0, .int .i64 0, .int .i64 0, .int .i64 0] n).toList.length = n * 8 := by simp [Builtin.zeroCells]
theorem zeroCells_one (n : Nat) : ∀ v ∈ (Builtin.zeroCells #[.int .i64 0, .int .i64 0, .int .i64 0, .int .i64 0, .int .i64 0, .int .i64 0, .int .i64 0, .int .i64 0] n).toList, v.oneCell' = true := by
  intro v hv
  simp only [Builtin.zeroCells, Array.toList_map, List.mem_map] at hv
  obtain ⟨i, _, rfl⟩ := hv
  have h8 : i % 8 < 8 := Nat.mod_lt _ (by omega)
  show ((#[Value.int .i64 0, .int .i64 0, .int .i64 0, .int .i64 0, .int .i64 0, .int .i64 0, .int .i64 0, .int .i64 0] : Array Value)[i % 8]!).oneCell' = true
  generalize i % 8 = r at h8
  match r, h8 with
  | 0, _ | 1, _ | 2, _ | 3, _ | 4, _ | 5, _ | 6, _ | 7, _ => rfl
  | r + 8, h => omega
theorem run_clear_off {w : World} {g : Nat} {e : TypeId} {cur : Array Value} {n c : Nat} (hk : Blk w g e cur) (hn : n * 8 ≤ cur.size) (a : Nat) (han : a < n) (ty : TypeId) :
    (Builtin.clear_ #[22] ty #[.slice (some ⟨g, a * 8, none⟩) (n - a) (c - a)]).run Try.prog w = .ok (.tuple #[]) (w.setCells g (a * 8) (Builtin.zeroCells #[.int .i64 0, .int .i64 0, .int .i64 0, .int .i64 0, .int .i64 0, .int .i64 0, .int .i64 0, .int .i64 0] (n - a)).toList) := by
  have hl := zeroCells_len (n - a)
  have hst := run_storeCells_cells (P := Try.prog) g (a * 8) (Builtin.zeroCells #[.int .i64 0, .int .i64 0, .int .i64 0, .int .i64 0, .int .i64 0, .int .i64 0, .int .i64 0, .int .i64 0] (n - a)).toList 0 w
    (fun j hj => by
      rw [hk.cell]
      rw [hl] at hj
      rw [Array.getElem?_eq_getElem (by omega)]
      rfl)
    (fun j hj => hk.frozen _) (zeroCells_one _)
  rw [Nat.add_zero] at hst
  obtain ⟨d, hd⟩ : ∃ d, n - a = d + 1 := ⟨n - a - 1, by omega⟩
  rw [hd] at hst ⊢
  simp only [Builtin.clear_]
  simp [run_underlying Try.underlying22, zero_off, Value.cells, hst]
theorem rd_clear {w : World} {base : Nat} {e : TypeId} {g n c : Nat} {m : List Off} (h : Owns EOff w base e (.slice (some ⟨g, 0, none⟩) n c) m) {a : Nat} (ha : a ≤ m.length) (vs : List Value) :
    Rd EOff (w.setCells g (a * 8) vs) (some ⟨g, 0, none⟩) (m.take a) := by
  refine ⟨EOff.all_len _, fun _ => ⟨⟨g, 0, none⟩, rfl, ?_, fun j u hu => ?_⟩⟩
  · obtain ⟨cur, hk, _⟩ := h.there_
    exact Nat.lt_of_lt_of_le hk.lt (grown_setCells vs (World.grownBy.refl w (some g)) (a * 8)).size
  · have hj : j < (EOff.all (m.take a)).length := (List.getElem?_eq_some_iff.1 hu).1
    rw [EOff.all_len, List.length_take, Nat.min_eq_left ha] at hj
    change j < a * 8 at hj
    have hr := h.rd
    have hpos : 0 < m.length := by omega
    obtain ⟨ad, e1, _, hc⟩ := hr.2 hpos
    injection e1 with e1
    subst e1
    have h2 : (EOff.all m)[j]? = some u := by
      have : EOff.all m = EOff.all (m.take a) ++ EOff.all (m.drop a) := by rw [← EOff.all_append, List.take_append_drop]
      rw [this, List.getElem?_append_left (by rw [EOff.all_len, List.length_take, Nat.min_eq_left ha]; exact hj)]
      exact hu
    have h3 := hc j u h2
    rw [Addr.add_lit, Nat.zero_add] at h3 ⊢
    rw [World.cell?_setCells_out g vs (a * 8) w _ (fun _ _ => .inl hj)]
    exact h3
theorem run_upto {t e : TypeId} {i : TypeInfo} (ht : Try.prog.underlying t = some (.slice e)) (hi : Try.prog.info? e = some i) {n c k : Nat} (hk : k ≤ c) (w : World) {g : Nat} :
    (Instr.slice t (.slice (some ⟨g, 0, none⟩) n c) none (some (.int .i64 (k : Int))) none).run Try.prog w = .ok (.slice (some ⟨g, 0, none⟩) k c) w := by
  have he : Try.prog.elem t = e := by simp [Program.elem, ht]
  rw [run_slice_h w t (some ⟨g, 0, none⟩) n c (by rw [he]; exact ht) .i64 (k : Int) (by omega) (by omega), he, run_sizeOf w hi]
  simp [Result.andThen, sliced, Addr.add_lit]
theorem run_uptoAt {t e : TypeId} {i : TypeInfo} (ht : Try.prog.underlying t = some (.slice e)) (hi : Try.prog.info? e = some i) {n c k : Nat} (hk : k ≤ c) (w : World) {g : Nat} :
    (Instr.sliceAt t (.slice (some ⟨g, 0, none⟩) n c) none (some (.int .i64 (k : Int))) none).run Try.prog w = .ok (.slice (some ⟨g, 0, none⟩) k c) w := by
  have he : Try.prog.elem t = e := by simp [Program.elem, ht]
  rw [run_sliceAt_slice w t _ _ _ _ (by rw [he]; exact ht)]
  exact run_upto ht hi hk w

set_option maxRecDepth 100000 in
set_option maxHeartbeats 4000000 in
theorem deleteFunc_any (v : Value) (l : List Off) (f : FuncId) (cs : Array Value) (p : Off → Bool) (w0 w : World) (base : Nat) (hv : Owns EOff w base 26 v l) (hmax : l.length ≤ 1000000) (h0 : Ext w0 w) (hb0 : w0.heap.size ≤ base) (hp : Pred w0 f cs p) :
    Calls Try.prog 21 #[v, .func (.func f) #[] cs] w fun e w' => ∃ A c, e = .returned (.slice A (l.filter fun o => !p o).length c) ∧ Rd EOff w' A (l.filter fun o => !p o) ∧ Ext w0 w' := by
  have hen := hp.enters
  obtain ⟨i0, hi0, hz0, hz1, hz2⟩ := info_parts info_off
  obtain ⟨A, c, rfl, hR⟩ := hv.form
  cases hany : l.any p
  · have hf : l.filter (fun o => !p o) = l := by
      rw [List.filter_eq_self]
      intro y hy
      have := List.any_eq_false.1 hany y hy
      simpa using this
    have Hf := Lib.hid hf
    have hn := Lib.hid (findI_nope hany)
    clear hf hany
    go_enter Try.func21, Try.ntmps21
    go_wp2_with fail
    refine (indexFunc_any A c l f cs p w hR hmax (hp.mono h0)).mono ?_
    rintro e w1 ⟨rfl, hb1⟩
    rw [hn.out]
    go_wp2
    go_ret
    rw [Hf.out]
    exact ⟨A, c, rfl, hR.ext hb1, h0.trans hb1⟩
  · obtain ⟨k0, hk0, hk1, hk2⟩ := findI_hit hany
    have hn := Lib.hid hk0
    have Hk2 := Lib.hid hk2
    clear hany hk0 hk2
    have hv2 := hv
    rcases hv.2 with ⟨_, h2⟩ | ⟨g, cap, cur, h1, hg, _⟩
    · omega
    injection h1 with h2 h3 h4
    subst h2 h4
    have hd1 : ((k0 : Int) == -1) = false := by simp
    go_enter Try.func21, Try.ntmps21
    go_wp2_with fail
    refine (indexFunc_any _ c l f cs p w hR hmax (hp.mono h0)).mono ?_
    rintro e w1 ⟨rfl, hb1⟩
    rw [hn.out]
    go_wp2
    go_loopw [5, 6] (fun i j wr => ∃ (a b : Nat) (m : List Off), a < b ∧ b ≤ l.length ∧ i = .int .i64 a ∧ j = .int .i64 b ∧ Owns EOff wr base 26 (.slice (some ⟨g, 0, none⟩) l.length c) m ∧ Hid (m.take a = (l.take b).filter (fun o => !p o)) ∧ Hid (m.drop b = l.drop b) ∧ Ext w0 wr) (fun _ j _ => l.length - (intOf j).toNat)
    case atStart => exact ⟨k0, k0 + 1, l, by omega, by omega, rfl, by go_num, hv2.ext hb1, Lib.hid (by rw [Hk2.out]), Lib.hid rfl, h0.trans hb1⟩
    case round =>
      obtain ⟨a, b, m, hab, hbl, rfl, rfl, hm, ht, hd, hN⟩ := hrel
      have hml := hm.len
      have Hml := Lib.hid hml
      have hml1 : l.length ≤ m.length := by omega
      have hml2 : m.length ≤ l.length := by omega
      clear hml
      by_cases hlt : b < l.length
      · obtain ⟨hgl, hfz, c0, c1, c2, c3, c4, c5, c6, c7⟩ := hm.offs (k := b) (by omega)
        have hxe : m[b]'(by omega) = l[b] := by
          have h1 : (m.drop b)[0]? = (l.drop b)[0]? := by rw [hd.out]
          rw [List.getElem?_drop, List.getElem?_drop, Nat.add_zero, List.getElem?_eq_getElem (by omega), List.getElem?_eq_getElem hlt] at h1
          exact Option.some.inj h1
        generalize m[b]'(by omega) = x at *
        have Hx := Lib.hid hxe
        clear hxe
        go_wp2_with fail
        obtain ⟨W, hW, hB, hkb, hltW⟩ := box1 wr x.cells.toArray 26
        simp only [Off.cells] at hW hkb
        rw [hW]
        clear hW
        refine (hp.says x W (hN.trans hB)).mono ?_
        rintro e w2 ⟨rfl, hb2⟩
        have hm2 := (hm.ext hB).ext hb2
        have hN2 := (hN.trans hB).trans hb2
        have hk3 := hkb.ext hb2
        have hc := hk3.cell
        have hlt3 := hk3.lt
        clear c0 c1 c2 c3 c4 c5 c6 c7 hfz hgl
        cases hpx : p x
        · obtain ⟨hgl, hfz, c0, c1, c2, c3, c4, c5, c6, c7⟩ := hm2.offs (k := a) (by omega)
          go_wp2
          refine ⟨⟨a + 1, b + 1, m.set a x, by omega, by omega, by go_num, by go_num, hm2.set_ (by omega) x, Lib.hid ?_, Lib.hid ?_, ?_⟩, by simp [intOf]; omega⟩
          · rw [take_set_ (by omega), ht.out, take_snoc hlt Hx.out.symm, List.filter_append]
            simp [hpx]
          · rw [List.drop_set_of_lt (by omega), ← List.drop_drop, ← List.drop_drop, hd.out]
          · exact ext_setCells hN2 (by omega) (a * 8) (EOff.cells x)
        · go_wp2
          refine ⟨⟨a, b + 1, m, by omega, by omega, rfl, by go_num, hm2, Lib.hid ?_, Lib.hid ?_, hN2⟩, by simp [intOf]; omega⟩
          · rw [ht.out, take_snoc hlt Hx.out.symm, List.filter_append]
            simp [hpx]
          · rw [← List.drop_drop, ← List.drop_drop, hd.out]
      · have hbe : b = l.length := by omega
        have hcc := hm.there_
        obtain ⟨cur, hkc, hcs, hlc, _⟩ := hcc
        have hct1 : ∀ w, (Instr.slice 22 (.slice (some ⟨g, 0, none⟩) l.length c) (some (.int .i64 (a : Int))) none none).run Try.prog w = .ok (.slice (some ⟨g, a * 8, none⟩) (l.length - a) (c - a)) w := fun w => by
          rw [run_cut Try.underlying22 hi0 hz1 (by omega), cutA, if_neg (by omega)]
          simp [Addr.add_lit]
        have hct2 : ∀ w, (Instr.sliceAt 22 (.slice (some ⟨g, 0, none⟩) l.length c) (some (.int .i64 (a : Int))) none none).run Try.prog w = .ok (.slice (some ⟨g, a * 8, none⟩) (l.length - a) (c - a)) w := fun w => by
          rw [run_cutAt Try.underlying22 hi0 hz1 (by omega), cutA, if_neg (by omega)]
          simp [Addr.add_lit]
        have hct3 : ∀ w, (Instr.slice 22 (.slice (some ⟨g, 0, none⟩) l.length c) none (some (.int .i64 (a : Int))) none).run Try.prog w = .ok (.slice (some ⟨g, 0, none⟩) a c) w := fun w =>
          run_upto Try.underlying22 hi0 (by omega) w
        have hct4 : ∀ w, (Instr.sliceAt 22 (.slice (some ⟨g, 0, none⟩) l.length c) none (some (.int .i64 (a : Int))) none).run Try.prog w = .ok (.slice (some ⟨g, 0, none⟩) a c) w := fun w =>
          run_uptoAt Try.underlying22 hi0 (by omega) w
        have hcl := run_clear_off (n := l.length) (c := c) hkc (by rw [hcs]; show l.length * 8 ≤ c * 8; omega) a (by omega)
        have hfin := rd_clear hm (show a ≤ m.length by omega) (Builtin.zeroCells #[.int .i64 0, .int .i64 0, .int .i64 0, .int .i64 0, .int .i64 0, .int .i64 0, .int .i64 0, .int .i64 0] (l.length - a)).toList
        rw [ht.out, hbe, List.take_length] at hfin
        have hal : a = (l.filter fun o => !p o).length := by
          have h1 : (m.take a).length = a := by rw [List.length_take]; omega
          rw [← h1, ht.out, hbe, List.take_length]
        have Hal := Lib.hid hal
        have Hbe := Lib.hid hbe
        clear hal hbe hcs
        go_wp2
        go_ret
        exact ⟨some ⟨g, 0, none⟩, c, by rw [← Hal.out]; rfl, hfin, ext_setCells hN (by omega) _ _⟩

end Go.Proofs.Ytlhdmhgbclfneaa

/- Forwarding: the parser of visited nodes; all parsers. · Forwarding: extension.get. -/
import Derived.Laws.EntriesVeiled
import Derived.Test.YtemkpimngbbpkaaGreatQs16
import Derived.Test.YtemkpimngbbpkaaGreatQs42
import Derived.Test.YtemkpimngbbpkaaGreatQs43
import Derived.Test.YtemkpimngbbpkaaGreatQs44
namespace Go.Proofs.YtemkpimngbbpkaaGreat
set_option linter.unusedVariables false
set_option linter.unusedSimpArgs false
section
open Go.RowKit Go.Shelf
attribute [local go_sem] Oper.semAt_some
set_option maxHeartbeats 400000 in
theorem enode_any (n : Int) (w : World) : Calls Tryz.prog 96 #[.int .i64 n] w fun e w' => e = .returned (.bool (isNd n)) /\ w = w' := by
 unfold isNd
 by_cases h1 : 0 <= n
 ·by_cases h2 : n < 16
  ·rw [decide_eq_true ⟨h1, h2⟩]
   go_enter Tryz.func96, Tryz.ntmps96
   go_wp2
   go_ret
   exact ⟨rfl, rfl⟩
  ·rw [decide_eq_false (fun h => h2 h.2)]
   go_enter Tryz.func96, Tryz.ntmps96
   go_wp2
   go_ret
   exact ⟨rfl, rfl⟩
 ·rw [decide_eq_false (fun h => h1 h.1)]
  go_enter Tryz.func96, Tryz.ntmps96
  go_wp2
  go_ret
  exact ⟨rfl, rfl⟩
theorem ndsB_step {l : List Int} {k : Nat} (hk : k < l.length) (h : ndsB (l.take k) = true) (h1 : isNd l[k] = true) (h2 : seenB (l.take k) l[k] = false) : ndsB (l.take (k + 1)) = true := by
 unfold ndsB at h ⊢
 rw [Bool.and_eq_true, List.all_eq_true, decide_eq_true_eq] at h ⊢
 rw [<- List.take_append_getElem hk]
 refine ⟨fun x hx => ?_, ?_⟩
 ·rcases List.mem_append.1 hx with hx | hx
  ·exact h.1 x hx
  ·rw [List.mem_singleton.1 hx]; exact h1
 ·rw [List.nodup_append]
  refine ⟨h.2, by simp, fun a ha b hb => ?_⟩
  rw [List.mem_singleton.1 hb]
  intro e
  unfold seenB at h2
  rw [List.any_eq_false] at h2
  exact h2 a ha (by simpa using e)
theorem ndsB_out {l : List Int} {k : Nat} (hk : k < l.length) (h : isNd l[k] = false) : ndsB l = false := by
 cases hh : ndsB l with
 | false => rfl
 | true =>
   unfold ndsB at hh
   rw [Bool.and_eq_true, List.all_eq_true] at hh
   rw [hh.1 _ (List.getElem_mem hk)] at h
   cases h
theorem ndsB_dup {l : List Int} {k : Nat} (hk : k < l.length) (h : seenB (l.take k) l[k] = true) : ndsB l = false := by
 cases hh : ndsB l with
 | false => rfl
 | true =>
   unfold ndsB at hh
   rw [Bool.and_eq_true, decide_eq_true_eq] at hh
   have hn := hh.2
   rw [<- List.take_append_drop k l, List.nodup_append] at hn
   unfold seenB at h
   obtain ⟨x, hx, hxe⟩ := List.any_eq_true.1 h
   have hxe : x = l[k] := by simpa using hxe
   rw [List.drop_eq_getElem_cons hk] at hn
   exact absurd hxe (hn.2.2 x hx _ List.mem_cons_self)
set_option maxRecDepth 100000 in
set_option maxHeartbeats 8000000 in
theorem par3_any (s : Bts) (w : World) (hs : s.length <= 1000000) :
 Calls Tryz.prog 300 #[strV s] w fun e w' => ParR (par3 s) e w' /\ Ext w w' := by
 have f1 := fun w => ReadList_any s w hs
 have hp : par3 s = if (rdL s).1 = 0 /\ (rdL s).2.2 = s.length /\ ndsB (rdL s).2.1 = true then some (rdL s).2.1 else none := rfl
 have hll : (rdL s).2.1.length <= 65536 := by
  have key : ∀ n s, (rdLs n s).2.1.length <= n := by
   intro n
   induction n with
   | zero => intro s; simp [rdLs]
   | succ n ih =>
     intro s
     unfold rdLs
     split
     ·simp
     ·split
      ·simp
      ·have := ih (s.drop (rdI s).2.2)
       simpa using this
  unfold rdL
  split
  ·simp
  ·rename_i h0
   have := rdN_le (s := s) (by simpa using h0)
   split
   ·simp
   ·have h2 := key (rdN s).2.1.toNat (s.drop (rdN s).2.2)
    dsimp only
    omega
 obtain ⟨r, hr⟩ : ∃ r, rdL s = r := ⟨_, rfl⟩
 rw [hr] at f1 hp hll
 obtain ⟨er, l, sz⟩ := r
 dsimp only at f1 hp hll
 rw [hp]
 obtain ⟨ba, hba, hbv, hbs⟩ := str_name s
 rw [hbv] at f1 ⊢
 rw [<- hbs]
 clear hr hp hba hbv
 by_cases h0 : er = 0
 case neg =>
  have hb : (er != 0) = true := by rw [bne_iff_ne]; exact h0
  rw [if_neg (fun h => h0 h.1)]
  go_enter Tryz.func300, Tryz.ntmps300
  go_wp2_with fail
  refine (f1 _).mono ?_
  rintro e w1 ⟨A, c, rfl, hcap, hR, hb1⟩
  go_wp2
  go_ret2
  exact ⟨⟨_, rfl⟩, hb1⟩
 subst h0
 by_cases h1 : sz = ba.size
 case neg =>
  have hb : ((sz : Int) != (ba.size : Int)) = true := by rw [bne_iff_ne]; omega
  rw [if_neg (fun h => h1 h.2.1)]
  go_enter Tryz.func300, Tryz.ntmps300
  go_wp2_with fail
  refine (f1 _).mono ?_
  rintro e w1 ⟨A, c, rfl, hcap, hR, hb1⟩
  go_wp2
  go_ret2
  exact ⟨⟨_, rfl⟩, hb1⟩
 subst h1
 have HP := Lib.hid (fun (v : Bool) (h : ndsB l = v) => show (if (0 : Int) = 0 /\ ba.size = ba.size /\ ndsB l = true then some l else none) = if v then some l else none by rw [h]; cases v <;> simp)
 obtain ⟨P, hP⟩ : ∃ P, (if (0 : Int) = 0 /\ ba.size = ba.size /\ ndsB l = true then some l else none) = P := ⟨_, rfl⟩
 rw [hP] at HP ⊢
 clear hP
 go_enter Tryz.func300, Tryz.ntmps300
 go_wp2_with fail
 refine (f1 _).mono ?_
 clear f1
 rintro e w1 ⟨A, c, rfl, hcap, hR, hb1⟩
 go_wp2_with fail
 go_loopg [25] l.length (fun m vi wr => ∃ k : Nat, k + m = l.length /\ vi = .int .i64 k /\ ndsB (l.take k) = true /\ Ext w1 wr)
 case atStart => exact ⟨0, by omega, by go_num, rfl, Ext.refl _⟩
 case round =>
  obtain ⟨k, hkn, rfl, hnd, hE⟩ := hrel
  have Hkn := Lib.hid hkn
  have hRr := hR.ext hE
  clear hkn
  by_cases hlt : k < l.length
  ·obtain ⟨bb, oo, rfl, hbb, c0⟩ := hRr.int hlt
   have HS := Lib.hid (ndsB_step hlt hnd)
   have HO := Lib.hid (ndsB_out hlt)
   have HD := Lib.hid (ndsB_dup hlt)
   have hRk := hRr.take k
   have hcon := fun w h => containsInt_any (some ⟨bb, oo, none⟩) c (l.take k) l[k] w h (by rw [List.length_take]; omega)
   rw [show (l.take k).length = k by rw [List.length_take]; omega] at hcon
   generalize l[k] = x at *
   have hno := fun w => enode_any x w
   cases hx : isNd x with
   | false =>
     rw [hx] at hno
     have hv := HP.out false (HO.out hx)
     go_wp2_with fail
     refine (hno _).mono ?_
     rintro e w2 ⟨rfl, rfl⟩
     go_wp2
     go_ret2
     (try rw [hv])
     exact ⟨⟨_, rfl⟩, hb1.trans hE⟩
   | true =>
     rw [hx] at hno
     go_wp2_with fail
     refine (hno _).mono ?_
     rintro e w2 ⟨rfl, rfl⟩
     go_wp2_with fail
     refine (hcon _ hRk).mono ?_
     rintro e w3 ⟨rfl, hb3⟩
     cases hs : seenB (l.take k) x with
     | true =>
       have hv := HP.out false (HD.out hs)
       go_wp2
       go_ret2
       (try rw [hv])
       exact ⟨⟨_, rfl⟩, (hb1.trans hE).trans hb3⟩
     | false =>
       have hn2 := HS.out hx hs
       go_wp2
       go_roundg (gk - 1)
       case measure => have := Hkn.out; omega
       case rel => exact ⟨k + 1, by have := Hkn.out; omega, by go_num, hn2, hE.trans hb3⟩
  ·obtain rfl : k = l.length := by have := Hkn.out; omega
   rw [List.take_length] at hnd
   have hv := HP.out true hnd
   go_wp2
   go_ret2
   (try rw [hv])
   exact ⟨⟨A, c, rfl, hRr⟩, hb1.trans hE⟩
theorem results_cell1g {fn : Func} {p : Tmp} {ty : TypeId} (h : fn.results = #[.cell p ty]) (tmps : Array Value) (P : Program) (w : World) {a : Addr} {u : Value}
 (hp : tmps.getD p undef = .pointer (some a)) (hu : (loadVar ty a).run P w = .ok u w) : (results fn tmps).run P w = .ok u w := by
 have hp' : tmps[p]?.getD undef = .pointer (some a) := by simpa using hp
 simp [results, h, hp', asAddr, hu, Sem.run_bind, Result.andThen]
set_option maxHeartbeats 1000000 in
theorem parsers_any (w : World) : Calls Tryz.prog 249 #[] w fun e w' => e = .returned (.agg #[.nilFunc, .func (.func 297) #[] #[], .func (.func 299) #[] #[], .func (.func 300) #[] #[]]) /\ Ext w w' := by
 obtain ⟨V1, hV1, hV1e, hv1, hvl1⟩ := box1 w #[.nilFunc, .nilFunc, .nilFunc, .nilFunc] 363
 obtain ⟨W1, hW1, hk1, hB1⟩ : ∃ W1, V1.setCells w.heap.size 0 [.nilFunc, .func (.func 297) #[] #[], .func (.func 299) #[] #[], .func (.func 300) #[] #[]] = W1 /\ Blk W1 w.heap.size 363 #[.nilFunc, .func (.func 297) #[] #[], .func (.func 299) #[] #[], .func (.func 300) #[] #[]] /\ Ext w W1 :=
  ⟨_, rfl, hv1.setCells_ [.nilFunc, .func (.func 297) #[] #[], .func (.func 299) #[] #[], .func (.func 300) #[] #[]] 0, ext_setCells hV1e (Nat.le_refl _) 0 _⟩
 simp only [World.setCells, Nat.zero_add, Nat.reduceAdd] at hW1
 have q1 := hv1.cell
 have q2 := hv1.lt
 have q3 := hv1.frozen
 have c1 := hk1.cell
 go_enter Tryz.func249, Tryz.ntmps249
 go_wp2
 (try rw [hW1])
 refine bodyPost_ret (v := .agg #[.nilFunc, .func (.func 297) #[] #[], .func (.func 299) #[] #[], .func (.func 300) #[] #[]]) (by rw [results_cell1g rfl (a := ⟨w.heap.size, 0, none⟩) (u := .agg #[.nilFunc, .func (.func 297) #[] #[], .func (.func 299) #[] #[], .func (.func 300) #[] #[]]) _ _ _ rfl (by simp [c1, go_sem])]) rfl ?_
 exact ⟨rfl, hB1⟩
end
section
open Go.RowKit Go.Shelf
attribute [local go_sem] Oper.semAt_some
def GetR (r : Int × List Int) (e : Ending) (w' : World) : Prop := ∃ A c, e = .returned (.tuple #[.slice A r.2.length c, .int .i64 r.1]) /\ Rd EInt w' A r.2
theorem GetR.err {er : Int} {w : World} : GetR (er, []) (.returned (.tuple #[.slice none 0 0, .int .i64 er])) w := ⟨none, 0, rfl, Rd.nil⟩
set_option maxRecDepth 100000 in
set_option maxHeartbeats 8000000 in
theorem get1_any (b : Bu) (A : Option Addr) (cap : Nat) (w : World) (hR : Rd EBl w A b.blocks) (hv : buE b = 0) :
 Calls Tryz.prog 180 #[.agg (b.cells A cap), .int .i64 1] w fun e w' => GetR (getR b 1) e w' /\ Ext w w' := by
 obtain ⟨hl8, hok, _⟩ := blksE_ok.1 (buE_blocks hv)
 have f1 := fun w h => buChk_any b A cap w h
 rw [hv] at f1
 have f2 := fun w h => blFind_any A cap b.blocks 1 w h (by omega)
 have f3 := fun w => parsers_any w
 have hcs := getR_cases b 1
 obtain ⟨g, hg⟩ : ∃ g, getR b 1 = g := ⟨_, rfl⟩
 rw [hg] at hcs ⊢
 obtain ⟨pa, hpa, -⟩ := strV_str b.pay
 unfold Bu.cells at f1 ⊢
 rw [hpa] at f1 ⊢
 obtain ⟨W1, hW1, hB1, hk1, hl1⟩ := box1 w #[.int .i64 b.src, .int .i64 b.cr, .int .i64 b.seq, .int .i64 b.off, .int .i64 b.tot, .int .i64 b.dk, .int .i64 b.dn, .int .i64 b.life, .int .i64 b.prio, .int .i64 b.flags, .slice A b.blocks.length cap, .string pa] 29
 have hc := hk1.cell
 have HR := Lib.hid (hR.ext hB1)
 clear hpa hg hR
 have HCS := Lib.hid hcs
 clear hcs
 go_enter Tryz.func180, Tryz.ntmps180
 go_wp2_with fail
 clear hW1
 refine (f1 _ HR.out).mono ?_
 clear f1
 rintro e w2 ⟨rfl, hb2⟩
 have hk2 := hk1.ext hb2
 have hE2 := hB1.trans hb2
 clear hc
 have c1 := hk2.cell
 have c2 := hk2.lt
 go_wp2_with fail
 refine (f2 _ (HR.out.ext hb2)).mono ?_
 clear f2
 rintro e w3 ⟨rfl, hb3⟩
 have hE3 := hE2.trans hb3
 clear c1 c2
 obtain ⟨V5, hV5, hV5e, hv5, hvl5⟩ := box1 w3 #[.int .i64 0, .int .i64 0, .string ⟨#[]⟩] 116
 have v1 := hv5.cell
 have v2 := hv5.lt
 have v3 := hv5.frozen
 rcases HCS.out with ⟨hf, rfl⟩ | ⟨x, hf, hp, rfl⟩ | ⟨x, l, hf, hp, rfl⟩
 ·rw [hf]
  obtain ⟨W5, hW5, hk5, hB5⟩ : ∃ W5, V5.setCells w3.heap.size 0 [.int .i64 0, .int .i64 0, .string ⟨#[]⟩] = W5 /\ Blk W5 w3.heap.size 116 #[.int .i64 0, .int .i64 0, .string ⟨#[]⟩] /\ Ext w3 W5 :=
   ⟨_, rfl, hv5.setCells_ [.int .i64 0, .int .i64 0, .string ⟨#[]⟩] 0, ext_setCells hV5e (Nat.le_refl _) 0 _⟩
  simp only [World.setCells, Nat.zero_add, Nat.reduceAdd] at hW5
  dsimp only
  go_wp2
  (try rw [hW5])
  go_ret2
  exact ⟨GetR.err, hE3.trans hB5⟩
 ·rw [hf]
  have hxl : x.data.length <= 1000000 := by have := (blErr_ok (hok x (List.mem_of_find?_eq_some hf))).2.2; omega
  have f4 := fun w => par1_any x.data w hxl
  rw [show par1 x.data = none from hp] at f4
  dsimp only [ParR] at f4
  dsimp only
  obtain ⟨kd, hkd⟩ : ∃ kd, x.kind = kd := ⟨_, rfl⟩
  obtain ⟨fl, hfl⟩ : ∃ fl, x.flags = fl := ⟨_, rfl⟩
  obtain ⟨db, hdb, hdv, -⟩ := str_name x.data
  rw [hdv] at f4
  rw [hkd, hfl, hdv]
  clear hf hp hkd hfl hdb hdv
  obtain ⟨W5, hW5, hk5, hB5⟩ : ∃ W5, V5.setCells w3.heap.size 0 [.int .i64 kd, .int .i64 fl, .string db] = W5 /\ Blk W5 w3.heap.size 116 #[.int .i64 kd, .int .i64 fl, .string db] /\ Ext w3 W5 :=
   ⟨_, rfl, hv5.setCells_ [.int .i64 kd, .int .i64 fl, .string db] 0, ext_setCells hV5e (Nat.le_refl _) 0 _⟩
  simp only [World.setCells, Nat.zero_add, Nat.reduceAdd] at hW5
  have hE5 := hE3.trans hB5
  go_upto_region 6 with fail
  (try rw [hW5])
  clear hW5 hV5 v1 v2 v3 hv5 hvl5
  have c5 := hk5.cell
  have l5 := hk5.lt
  go_wp2_with fail
  refine (f3 _).mono ?_
  clear f3
  rintro e w6 ⟨rfl, hb6⟩
  obtain ⟨V7, hV7, hV7e, hv7, hvl7⟩ := box1 w6 #[.nilFunc, .nilFunc, .nilFunc, .nilFunc] 363
  obtain ⟨W7, hW7, hk7, hB7⟩ : ∃ W7, V7.setCells w6.heap.size 0 [.nilFunc, .func (.func 297) #[] #[], .func (.func 299) #[] #[], .func (.func 300) #[] #[]] = W7 /\ Blk W7 w6.heap.size 363 #[.nilFunc, .func (.func 297) #[] #[], .func (.func 299) #[] #[], .func (.func 300) #[] #[]] /\ Ext w6 W7 :=
   ⟨_, rfl, hv7.setCells_ [.nilFunc, .func (.func 297) #[] #[], .func (.func 299) #[] #[], .func (.func 300) #[] #[]] 0, ext_setCells hV7e (Nat.le_refl _) 0 _⟩
  simp only [World.setCells, Nat.zero_add, Nat.reduceAdd] at hW7
  have v1 := hv7.cell
  have v2 := hv7.lt
  have v3 := hv7.frozen
  clear c5 l5
  go_upto_region 7 with fail
  (try rw [hW7])
  clear hW7 hV7 v1 v2 v3 hv7 hvl7
  have hE7 := hE5.trans (hb6.trans hB7)
  have hkx := (hk5.ext hb6).ext hB7
  refine wp_region_P (fun _ => false) (fun w' => (∀ i, w'.cell? ⟨w6.heap.size, i, none⟩ = #[Value.nilFunc, .func (.func 297) #[] #[], .func (.func 299) #[] #[], .func (.func 300) #[] #[]][i]?) /\ (∀ i, w'.cell? ⟨w3.heap.size, i, none⟩ = #[Value.int .i64 kd, .int .i64 fl, .string db][i]?)) (by kernel_rfl) ⟨hk7.cell, hkx.cell⟩ (fun hSS => ?_)
  refine pT 0 (v := ?_) rfl (fun _ _ _ h => h) (by rfl) ?_ ?_
  rotate_left
  ·intro w'; go_simp; first | done | with_reducible rfl
  try simp only [Act.put, sp1]
  refine pT 1 (v := ?_) rfl (fun _ _ _ h => h) (by rfl) ?_ ?_
  rotate_left
  ·intro w'; go_simp; first | done | with_reducible rfl
  try simp only [Act.put, sp1]
  refine pT 2 (v := ?_) rfl (fun _ _ _ h => h) (by rfl) ?_ ?_
  rotate_left
  ·intro w'; go_simp; first | done | with_reducible rfl
  try simp only [Act.put, sp1]
  refine pK 3 (v := ?_) rfl (fun _ _ _ h => h) (by rfl) ?_ (by assumption) ?_
  rotate_left
  ·intro w' hw'
   (try have hC := hw'.2)
   (try have hC9 := hw'.1)
   go_simp
   first | done | with_reducible rfl
  try simp only [Act.put, sp1]
  refine pT 4 (v := ?_) rfl (fun _ _ _ h => h) (by rfl) ?_ ?_
  rotate_left
  ·intro w'; go_simp; first | done | with_reducible rfl
  try simp only [Act.put, sp1]
  refine pK 5 (v := ?_) rfl (fun _ _ _ h => h) (by rfl) ?_ (by assumption) ?_
  rotate_left
  ·intro w' hw'
   (try have hC := hw'.2)
   (try have hC9 := hw'.1)
   go_simp
   first | done | with_reducible rfl
  try simp only [Act.put, sp1]
  refine pO 6 rfl (fun K hK => ?_)
  go_simp
  refine Calls.mono (f4 _) ?_
  rintro e w8 ⟨⟨u8, rfl⟩, hb8⟩
  have hx8 := ((Ext.refl W7).drew).trans hb8
  refine hK.out _ _ (fun _ _ => ⟨(hk7.ext hx8).cell, (hkx.ext hx8).cell⟩) ?_
  clear hK K
  refine pT 7 (v := ?_) rfl (fun _ _ _ h => h) (by rfl) ?_ ?_
  rotate_left
  ·intro w'; go_simp; first | done | with_reducible rfl
  try simp only [Act.put, sp1]
  refine pT 8 (v := ?_) rfl (fun _ _ _ h => h) (by rfl) ?_ ?_
  rotate_left
  ·intro w'; go_simp; first | done | with_reducible rfl
  try simp only [Act.put, sp1]
  refine pT 9 (v := ?_) rfl (fun _ _ _ h => h) (by rfl) ?_ ?_
  rotate_left
  ·intro w'; go_simp; first | done | with_reducible rfl
  try simp only [Act.put, sp1]
  refine pT 10 (v := ?_) rfl (fun _ _ _ h => h) (by rfl) ?_ ?_
  rotate_left
  ·intro w'; go_simp; first | done | with_reducible rfl
  try simp only [Act.put, sp1]
  refine pT 11 (v := ?_) rfl (fun _ _ _ h => h) (by rfl) ?_ ?_
  rotate_left
  ·intro w'; go_simp; first | done | with_reducible rfl
  try simp only [Act.put, sp1]
  refine wpAnyP_done (by kernel_rfl) ?_ _
  go_wp2
  go_ret2
  exact ⟨GetR.err, hE7.trans hx8⟩
 ·rw [hf]
  have hxl : x.data.length <= 1000000 := by have := (blErr_ok (hok x (List.mem_of_find?_eq_some hf))).2.2; omega
  have f4 := fun w => par1_any x.data w hxl
  rw [show par1 x.data = some l from hp] at f4
  dsimp only [ParR] at f4
  dsimp only
  obtain ⟨kd, hkd⟩ : ∃ kd, x.kind = kd := ⟨_, rfl⟩
  obtain ⟨fl, hfl⟩ : ∃ fl, x.flags = fl := ⟨_, rfl⟩
  obtain ⟨db, hdb, hdv, -⟩ := str_name x.data
  rw [hdv] at f4
  rw [hkd, hfl, hdv]
  clear hf hp hkd hfl hdb hdv
  obtain ⟨W5, hW5, hk5, hB5⟩ : ∃ W5, V5.setCells w3.heap.size 0 [.int .i64 kd, .int .i64 fl, .string db] = W5 /\ Blk W5 w3.heap.size 116 #[.int .i64 kd, .int .i64 fl, .string db] /\ Ext w3 W5 :=
   ⟨_, rfl, hv5.setCells_ [.int .i64 kd, .int .i64 fl, .string db] 0, ext_setCells hV5e (Nat.le_refl _) 0 _⟩
  simp only [World.setCells, Nat.zero_add, Nat.reduceAdd] at hW5
  have hE5 := hE3.trans hB5
  go_upto_region 6 with fail
  (try rw [hW5])
  clear hW5 hV5 v1 v2 v3 hv5 hvl5
  have c5 := hk5.cell
  have l5 := hk5.lt
  go_wp2_with fail
  refine (f3 _).mono ?_
  clear f3
  rintro e w6 ⟨rfl, hb6⟩
  obtain ⟨V7, hV7, hV7e, hv7, hvl7⟩ := box1 w6 #[.nilFunc, .nilFunc, .nilFunc, .nilFunc] 363
  obtain ⟨W7, hW7, hk7, hB7⟩ : ∃ W7, V7.setCells w6.heap.size 0 [.nilFunc, .func (.func 297) #[] #[], .func (.func 299) #[] #[], .func (.func 300) #[] #[]] = W7 /\ Blk W7 w6.heap.size 363 #[.nilFunc, .func (.func 297) #[] #[], .func (.func 299) #[] #[], .func (.func 300) #[] #[]] /\ Ext w6 W7 :=
   ⟨_, rfl, hv7.setCells_ [.nilFunc, .func (.func 297) #[] #[], .func (.func 299) #[] #[], .func (.func 300) #[] #[]] 0, ext_setCells hV7e (Nat.le_refl _) 0 _⟩
  simp only [World.setCells, Nat.zero_add, Nat.reduceAdd] at hW7
  have v1 := hv7.cell
  have v2 := hv7.lt
  have v3 := hv7.frozen
  clear c5 l5
  go_upto_region 7 with fail
  (try rw [hW7])
  clear hW7 hV7 v1 v2 v3 hv7 hvl7
  have hE7 := hE5.trans (hb6.trans hB7)
  have hkx := (hk5.ext hb6).ext hB7
  refine wp_region_P (fun _ => false) (fun w' => (∀ i, w'.cell? ⟨w6.heap.size, i, none⟩ = #[Value.nilFunc, .func (.func 297) #[] #[], .func (.func 299) #[] #[], .func (.func 300) #[] #[]][i]?) /\ (∀ i, w'.cell? ⟨w3.heap.size, i, none⟩ = #[Value.int .i64 kd, .int .i64 fl, .string db][i]?)) (by kernel_rfl) ⟨hk7.cell, hkx.cell⟩ (fun hSS => ?_)
  refine pT 0 (v := ?_) rfl (fun _ _ _ h => h) (by rfl) ?_ ?_
  rotate_left
  ·intro w'; go_simp; first | done | with_reducible rfl
  try simp only [Act.put, sp1]
  refine pT 1 (v := ?_) rfl (fun _ _ _ h => h) (by rfl) ?_ ?_
  rotate_left
  ·intro w'; go_simp; first | done | with_reducible rfl
  try simp only [Act.put, sp1]
  refine pT 2 (v := ?_) rfl (fun _ _ _ h => h) (by rfl) ?_ ?_
  rotate_left
  ·intro w'; go_simp; first | done | with_reducible rfl
  try simp only [Act.put, sp1]
  refine pK 3 (v := ?_) rfl (fun _ _ _ h => h) (by rfl) ?_ (by assumption) ?_
  rotate_left
  ·intro w' hw'
   (try have hC := hw'.2)
   (try have hC9 := hw'.1)
   go_simp
   first | done | with_reducible rfl
  try simp only [Act.put, sp1]
  refine pT 4 (v := ?_) rfl (fun _ _ _ h => h) (by rfl) ?_ ?_
  rotate_left
  ·intro w'; go_simp; first | done | with_reducible rfl
  try simp only [Act.put, sp1]
  refine pK 5 (v := ?_) rfl (fun _ _ _ h => h) (by rfl) ?_ (by assumption) ?_
  rotate_left
  ·intro w' hw'
   (try have hC := hw'.2)
   (try have hC9 := hw'.1)
   go_simp
   first | done | with_reducible rfl
  try simp only [Act.put, sp1]
  refine pO 6 rfl (fun K hK => ?_)
  go_simp
  refine Calls.mono (f4 _) ?_
  rintro e w8 ⟨⟨A8, c8, rfl, hR8⟩, hb8⟩
  have hx8 := ((Ext.refl W7).drew).trans hb8
  refine hK.out _ _ (fun _ _ => ⟨(hk7.ext hx8).cell, (hkx.ext hx8).cell⟩) ?_
  clear hK K
  refine pT 7 (v := ?_) rfl (fun _ _ _ h => h) (by rfl) ?_ ?_
  rotate_left
  ·intro w'; go_simp; first | done | with_reducible rfl
  try simp only [Act.put, sp1]
  refine pT 8 (v := ?_) rfl (fun _ _ _ h => h) (by rfl) ?_ ?_
  rotate_left
  ·intro w'; go_simp; first | done | with_reducible rfl
  try simp only [Act.put, sp1]
  refine pT 9 (v := ?_) rfl (fun _ _ _ h => h) (by rfl) ?_ ?_
  rotate_left
  ·intro w'; go_simp; first | done | with_reducible rfl
  try simp only [Act.put, sp1]
  refine pT 10 (v := ?_) rfl (fun _ _ _ h => h) (by rfl) ?_ ?_
  rotate_left
  ·intro w'; go_simp; first | done | with_reducible rfl
  try simp only [Act.put, sp1]
  refine pT 11 (v := ?_) rfl (fun _ _ _ h => h) (by rfl) ?_ ?_
  rotate_left
  ·intro w'; go_simp; first | done | with_reducible rfl
  try simp only [Act.put, sp1]
  refine wpAnyP_done (by kernel_rfl) ?_ _
  go_wp2
  go_ret2
  exact ⟨⟨A8, c8, rfl, hR8⟩, hE7.trans hx8⟩
set_option maxRecDepth 100000 in
set_option maxHeartbeats 8000000 in
theorem get2_any (b : Bu) (A : Option Addr) (cap : Nat) (w : World) (hR : Rd EBl w A b.blocks) (hv : buE b = 0) :
 Calls Tryz.prog 180 #[.agg (b.cells A cap), .int .i64 2] w fun e w' => GetR (getR b 2) e w' /\ Ext w w' := by
 obtain ⟨hl8, hok, _⟩ := blksE_ok.1 (buE_blocks hv)
 have f1 := fun w h => buChk_any b A cap w h
 rw [hv] at f1
 have f2 := fun w h => blFind_any A cap b.blocks 2 w h (by omega)
 have f3 := fun w => parsers_any w
 have hcs := getR_cases b 2
 obtain ⟨g, hg⟩ : ∃ g, getR b 2 = g := ⟨_, rfl⟩
 rw [hg] at hcs ⊢
 obtain ⟨pa, hpa, -⟩ := strV_str b.pay
 unfold Bu.cells at f1 ⊢
 rw [hpa] at f1 ⊢
 obtain ⟨W1, hW1, hB1, hk1, hl1⟩ := box1 w #[.int .i64 b.src, .int .i64 b.cr, .int .i64 b.seq, .int .i64 b.off, .int .i64 b.tot, .int .i64 b.dk, .int .i64 b.dn, .int .i64 b.life, .int .i64 b.prio, .int .i64 b.flags, .slice A b.blocks.length cap, .string pa] 29
 have hc := hk1.cell
 have HR := Lib.hid (hR.ext hB1)
 clear hpa hg hR
 have HCS := Lib.hid hcs
 clear hcs
 go_enter Tryz.func180, Tryz.ntmps180
 go_wp2_with fail
 clear hW1
 refine (f1 _ HR.out).mono ?_
 clear f1
 rintro e w2 ⟨rfl, hb2⟩
 have hk2 := hk1.ext hb2
 have hE2 := hB1.trans hb2
 clear hc
 have c1 := hk2.cell
 have c2 := hk2.lt
 go_wp2_with fail
 refine (f2 _ (HR.out.ext hb2)).mono ?_
 clear f2
 rintro e w3 ⟨rfl, hb3⟩
 have hE3 := hE2.trans hb3
 clear c1 c2
 obtain ⟨V5, hV5, hV5e, hv5, hvl5⟩ := box1 w3 #[.int .i64 0, .int .i64 0, .string ⟨#[]⟩] 116
 have v1 := hv5.cell
 have v2 := hv5.lt
 have v3 := hv5.frozen
 rcases HCS.out with ⟨hf, rfl⟩ | ⟨x, hf, hp, rfl⟩ | ⟨x, l, hf, hp, rfl⟩
 ·rw [hf]
  obtain ⟨W5, hW5, hk5, hB5⟩ : ∃ W5, V5.setCells w3.heap.size 0 [.int .i64 0, .int .i64 0, .string ⟨#[]⟩] = W5 /\ Blk W5 w3.heap.size 116 #[.int .i64 0, .int .i64 0, .string ⟨#[]⟩] /\ Ext w3 W5 :=
   ⟨_, rfl, hv5.setCells_ [.int .i64 0, .int .i64 0, .string ⟨#[]⟩] 0, ext_setCells hV5e (Nat.le_refl _) 0 _⟩
  simp only [World.setCells, Nat.zero_add, Nat.reduceAdd] at hW5
  dsimp only
  go_wp2
  (try rw [hW5])
  go_ret2
  exact ⟨GetR.err, hE3.trans hB5⟩
 ·rw [hf]
  have hxl : x.data.length <= 1000000 := by have := (blErr_ok (hok x (List.mem_of_find?_eq_some hf))).2.2; omega
  have f4 := fun w => par2_any x.data w hxl
  rw [show par2 x.data = none from hp] at f4
  dsimp only [ParR] at f4
  dsimp only
  obtain ⟨kd, hkd⟩ : ∃ kd, x.kind = kd := ⟨_, rfl⟩
  obtain ⟨fl, hfl⟩ : ∃ fl, x.flags = fl := ⟨_, rfl⟩
  obtain ⟨db, hdb, hdv, -⟩ := str_name x.data
  rw [hdv] at f4
  rw [hkd, hfl, hdv]
  clear hf hp hkd hfl hdb hdv
  obtain ⟨W5, hW5, hk5, hB5⟩ : ∃ W5, V5.setCells w3.heap.size 0 [.int .i64 kd, .int .i64 fl, .string db] = W5 /\ Blk W5 w3.heap.size 116 #[.int .i64 kd, .int .i64 fl, .string db] /\ Ext w3 W5 :=
   ⟨_, rfl, hv5.setCells_ [.int .i64 kd, .int .i64 fl, .string db] 0, ext_setCells hV5e (Nat.le_refl _) 0 _⟩
  simp only [World.setCells, Nat.zero_add, Nat.reduceAdd] at hW5
  have hE5 := hE3.trans hB5
  go_upto_region 6 with fail
  (try rw [hW5])
  clear hW5 hV5 v1 v2 v3 hv5 hvl5
  have c5 := hk5.cell
  have l5 := hk5.lt
  go_wp2_with fail
  refine (f3 _).mono ?_
  clear f3
  rintro e w6 ⟨rfl, hb6⟩
  obtain ⟨V7, hV7, hV7e, hv7, hvl7⟩ := box1 w6 #[.nilFunc, .nilFunc, .nilFunc, .nilFunc] 363
  obtain ⟨W7, hW7, hk7, hB7⟩ : ∃ W7, V7.setCells w6.heap.size 0 [.nilFunc, .func (.func 297) #[] #[], .func (.func 299) #[] #[], .func (.func 300) #[] #[]] = W7 /\ Blk W7 w6.heap.size 363 #[.nilFunc, .func (.func 297) #[] #[], .func (.func 299) #[] #[], .func (.func 300) #[] #[]] /\ Ext w6 W7 :=
   ⟨_, rfl, hv7.setCells_ [.nilFunc, .func (.func 297) #[] #[], .func (.func 299) #[] #[], .func (.func 300) #[] #[]] 0, ext_setCells hV7e (Nat.le_refl _) 0 _⟩
  simp only [World.setCells, Nat.zero_add, Nat.reduceAdd] at hW7
  have v1 := hv7.cell
  have v2 := hv7.lt
  have v3 := hv7.frozen
  clear c5 l5
  go_upto_region 7 with fail
  (try rw [hW7])
  clear hW7 hV7 v1 v2 v3 hv7 hvl7
  have hE7 := hE5.trans (hb6.trans hB7)
  have hkx := (hk5.ext hb6).ext hB7
  refine wp_region_P (fun _ => false) (fun w' => (∀ i, w'.cell? ⟨w6.heap.size, i, none⟩ = #[Value.nilFunc, .func (.func 297) #[] #[], .func (.func 299) #[] #[], .func (.func 300) #[] #[]][i]?) /\ (∀ i, w'.cell? ⟨w3.heap.size, i, none⟩ = #[Value.int .i64 kd, .int .i64 fl, .string db][i]?)) (by kernel_rfl) ⟨hk7.cell, hkx.cell⟩ (fun hSS => ?_)
  refine pT 0 (v := ?_) rfl (fun _ _ _ h => h) (by rfl) ?_ ?_
  rotate_left
  ·intro w'; go_simp; first | done | with_reducible rfl
  try simp only [Act.put, sp1]
  refine pT 1 (v := ?_) rfl (fun _ _ _ h => h) (by rfl) ?_ ?_
  rotate_left
  ·intro w'; go_simp; first | done | with_reducible rfl
  try simp only [Act.put, sp1]
  refine pT 2 (v := ?_) rfl (fun _ _ _ h => h) (by rfl) ?_ ?_
  rotate_left
  ·intro w'; go_simp; first | done | with_reducible rfl
  try simp only [Act.put, sp1]
  refine pK 3 (v := ?_) rfl (fun _ _ _ h => h) (by rfl) ?_ (by assumption) ?_
  rotate_left
  ·intro w' hw'
   (try have hC := hw'.2)
   (try have hC9 := hw'.1)
   go_simp
   first | done | with_reducible rfl
  try simp only [Act.put, sp1]
  refine pT 4 (v := ?_) rfl (fun _ _ _ h => h) (by rfl) ?_ ?_
  rotate_left
  ·intro w'; go_simp; first | done | with_reducible rfl
  try simp only [Act.put, sp1]
  refine pK 5 (v := ?_) rfl (fun _ _ _ h => h) (by rfl) ?_ (by assumption) ?_
  rotate_left
  ·intro w' hw'
   (try have hC := hw'.2)
   (try have hC9 := hw'.1)
   go_simp
   first | done | with_reducible rfl
  try simp only [Act.put, sp1]
  refine pO 6 rfl (fun K hK => ?_)
  go_simp
  refine Calls.mono (f4 _) ?_
  rintro e w8 ⟨⟨u8, rfl⟩, hb8⟩
  have hx8 := ((Ext.refl W7).drew).trans hb8
  refine hK.out _ _ (fun _ _ => ⟨(hk7.ext hx8).cell, (hkx.ext hx8).cell⟩) ?_
  clear hK K
  refine pT 7 (v := ?_) rfl (fun _ _ _ h => h) (by rfl) ?_ ?_
  rotate_left
  ·intro w'; go_simp; first | done | with_reducible rfl
  try simp only [Act.put, sp1]
  refine pT 8 (v := ?_) rfl (fun _ _ _ h => h) (by rfl) ?_ ?_
  rotate_left
  ·intro w'; go_simp; first | done | with_reducible rfl
  try simp only [Act.put, sp1]
  refine pT 9 (v := ?_) rfl (fun _ _ _ h => h) (by rfl) ?_ ?_
  rotate_left
  ·intro w'; go_simp; first | done | with_reducible rfl
  try simp only [Act.put, sp1]
  refine pT 10 (v := ?_) rfl (fun _ _ _ h => h) (by rfl) ?_ ?_
  rotate_left
  ·intro w'; go_simp; first | done | with_reducible rfl
  try simp only [Act.put, sp1]
  refine pT 11 (v := ?_) rfl (fun _ _ _ h => h) (by rfl) ?_ ?_
  rotate_left
  ·intro w'; go_simp; first | done | with_reducible rfl
  try simp only [Act.put, sp1]
  refine wpAnyP_done (by kernel_rfl) ?_ _
  go_wp2
  go_ret2
  exact ⟨GetR.err, hE7.trans hx8⟩
 ·rw [hf]
  have hxl : x.data.length <= 1000000 := by have := (blErr_ok (hok x (List.mem_of_find?_eq_some hf))).2.2; omega
  have f4 := fun w => par2_any x.data w hxl
  rw [show par2 x.data = some l from hp] at f4
  dsimp only [ParR] at f4
  dsimp only
  obtain ⟨kd, hkd⟩ : ∃ kd, x.kind = kd := ⟨_, rfl⟩
  obtain ⟨fl, hfl⟩ : ∃ fl, x.flags = fl := ⟨_, rfl⟩
  obtain ⟨db, hdb, hdv, -⟩ := str_name x.data
  rw [hdv] at f4
  rw [hkd, hfl, hdv]
  clear hf hp hkd hfl hdb hdv
  obtain ⟨W5, hW5, hk5, hB5⟩ : ∃ W5, V5.setCells w3.heap.size 0 [.int .i64 kd, .int .i64 fl, .string db] = W5 /\ Blk W5 w3.heap.size 116 #[.int .i64 kd, .int .i64 fl, .string db] /\ Ext w3 W5 :=
   ⟨_, rfl, hv5.setCells_ [.int .i64 kd, .int .i64 fl, .string db] 0, ext_setCells hV5e (Nat.le_refl _) 0 _⟩
  simp only [World.setCells, Nat.zero_add, Nat.reduceAdd] at hW5
  have hE5 := hE3.trans hB5
  go_upto_region 6 with fail
  (try rw [hW5])
  clear hW5 hV5 v1 v2 v3 hv5 hvl5
  have c5 := hk5.cell
  have l5 := hk5.lt
  go_wp2_with fail
  refine (f3 _).mono ?_
  clear f3
  rintro e w6 ⟨rfl, hb6⟩
  obtain ⟨V7, hV7, hV7e, hv7, hvl7⟩ := box1 w6 #[.nilFunc, .nilFunc, .nilFunc, .nilFunc] 363
  obtain ⟨W7, hW7, hk7, hB7⟩ : ∃ W7, V7.setCells w6.heap.size 0 [.nilFunc, .func (.func 297) #[] #[], .func (.func 299) #[] #[], .func (.func 300) #[] #[]] = W7 /\ Blk W7 w6.heap.size 363 #[.nilFunc, .func (.func 297) #[] #[], .func (.func 299) #[] #[], .func (.func 300) #[] #[]] /\ Ext w6 W7 :=
   ⟨_, rfl, hv7.setCells_ [.nilFunc, .func (.func 297) #[] #[], .func (.func 299) #[] #[], .func (.func 300) #[] #[]] 0, ext_setCells hV7e (Nat.le_refl _) 0 _⟩
  simp only [World.setCells, Nat.zero_add, Nat.reduceAdd] at hW7
  have v1 := hv7.cell
  have v2 := hv7.lt
  have v3 := hv7.frozen
  clear c5 l5
  go_upto_region 7 with fail
  (try rw [hW7])
  clear hW7 hV7 v1 v2 v3 hv7 hvl7
  have hE7 := hE5.trans (hb6.trans hB7)
  have hkx := (hk5.ext hb6).ext hB7
  refine wp_region_P (fun _ => false) (fun w' => (∀ i, w'.cell? ⟨w6.heap.size, i, none⟩ = #[Value.nilFunc, .func (.func 297) #[] #[], .func (.func 299) #[] #[], .func (.func 300) #[] #[]][i]?) /\ (∀ i, w'.cell? ⟨w3.heap.size, i, none⟩ = #[Value.int .i64 kd, .int .i64 fl, .string db][i]?)) (by kernel_rfl) ⟨hk7.cell, hkx.cell⟩ (fun hSS => ?_)
  refine pT 0 (v := ?_) rfl (fun _ _ _ h => h) (by rfl) ?_ ?_
  rotate_left
  ·intro w'; go_simp; first | done | with_reducible rfl
  try simp only [Act.put, sp1]
  refine pT 1 (v := ?_) rfl (fun _ _ _ h => h) (by rfl) ?_ ?_
  rotate_left
  ·intro w'; go_simp; first | done | with_reducible rfl
  try simp only [Act.put, sp1]
  refine pT 2 (v := ?_) rfl (fun _ _ _ h => h) (by rfl) ?_ ?_
  rotate_left
  ·intro w'; go_simp; first | done | with_reducible rfl
  try simp only [Act.put, sp1]
  refine pK 3 (v := ?_) rfl (fun _ _ _ h => h) (by rfl) ?_ (by assumption) ?_
  rotate_left
  ·intro w' hw'
   (try have hC := hw'.2)
   (try have hC9 := hw'.1)
   go_simp
   first | done | with_reducible rfl
  try simp only [Act.put, sp1]
  refine pT 4 (v := ?_) rfl (fun _ _ _ h => h) (by rfl) ?_ ?_
  rotate_left
  ·intro w'; go_simp; first | done | with_reducible rfl
  try simp only [Act.put, sp1]
  refine pK 5 (v := ?_) rfl (fun _ _ _ h => h) (by rfl) ?_ (by assumption) ?_
  rotate_left
  ·intro w' hw'
   (try have hC := hw'.2)
   (try have hC9 := hw'.1)
   go_simp
   first | done | with_reducible rfl
  try simp only [Act.put, sp1]
  refine pO 6 rfl (fun K hK => ?_)
  go_simp
  refine Calls.mono (f4 _) ?_
  rintro e w8 ⟨⟨A8, c8, rfl, hR8⟩, hb8⟩
  have hx8 := ((Ext.refl W7).drew).trans hb8
  refine hK.out _ _ (fun _ _ => ⟨(hk7.ext hx8).cell, (hkx.ext hx8).cell⟩) ?_
  clear hK K
  refine pT 7 (v := ?_) rfl (fun _ _ _ h => h) (by rfl) ?_ ?_
  rotate_left
  ·intro w'; go_simp; first | done | with_reducible rfl
  try simp only [Act.put, sp1]
  refine pT 8 (v := ?_) rfl (fun _ _ _ h => h) (by rfl) ?_ ?_
  rotate_left
  ·intro w'; go_simp; first | done | with_reducible rfl
  try simp only [Act.put, sp1]
  refine pT 9 (v := ?_) rfl (fun _ _ _ h => h) (by rfl) ?_ ?_
  rotate_left
  ·intro w'; go_simp; first | done | with_reducible rfl
  try simp only [Act.put, sp1]
  refine pT 10 (v := ?_) rfl (fun _ _ _ h => h) (by rfl) ?_ ?_
  rotate_left
  ·intro w'; go_simp; first | done | with_reducible rfl
  try simp only [Act.put, sp1]
  refine pT 11 (v := ?_) rfl (fun _ _ _ h => h) (by rfl) ?_ ?_
  rotate_left
  ·intro w'; go_simp; first | done | with_reducible rfl
  try simp only [Act.put, sp1]
  refine wpAnyP_done (by kernel_rfl) ?_ _
  go_wp2
  go_ret2
  exact ⟨⟨A8, c8, rfl, hR8⟩, hE7.trans hx8⟩
set_option maxRecDepth 100000 in
set_option maxHeartbeats 8000000 in
theorem get3_any (b : Bu) (A : Option Addr) (cap : Nat) (w : World) (hR : Rd EBl w A b.blocks) (hv : buE b = 0) :
 Calls Tryz.prog 180 #[.agg (b.cells A cap), .int .i64 3] w fun e w' => GetR (getR b 3) e w' /\ Ext w w' := by
 obtain ⟨hl8, hok, _⟩ := blksE_ok.1 (buE_blocks hv)
 have f1 := fun w h => buChk_any b A cap w h
 rw [hv] at f1
 have f2 := fun w h => blFind_any A cap b.blocks 3 w h (by omega)
 have f3 := fun w => parsers_any w
 have hcs := getR_cases b 3
 obtain ⟨g, hg⟩ : ∃ g, getR b 3 = g := ⟨_, rfl⟩
 rw [hg] at hcs ⊢
 obtain ⟨pa, hpa, -⟩ := strV_str b.pay
 unfold Bu.cells at f1 ⊢
 rw [hpa] at f1 ⊢
 obtain ⟨W1, hW1, hB1, hk1, hl1⟩ := box1 w #[.int .i64 b.src, .int .i64 b.cr, .int .i64 b.seq, .int .i64 b.off, .int .i64 b.tot, .int .i64 b.dk, .int .i64 b.dn, .int .i64 b.life, .int .i64 b.prio, .int .i64 b.flags, .slice A b.blocks.length cap, .string pa] 29
 have hc := hk1.cell
 have HR := Lib.hid (hR.ext hB1)
 clear hpa hg hR
 have HCS := Lib.hid hcs
 clear hcs
 go_enter Tryz.func180, Tryz.ntmps180
 go_wp2_with fail
 clear hW1
 refine (f1 _ HR.out).mono ?_
 clear f1
 rintro e w2 ⟨rfl, hb2⟩
 have hk2 := hk1.ext hb2
 have hE2 := hB1.trans hb2
 clear hc
 have c1 := hk2.cell
 have c2 := hk2.lt
 go_wp2_with fail
 refine (f2 _ (HR.out.ext hb2)).mono ?_
 clear f2
 rintro e w3 ⟨rfl, hb3⟩
 have hE3 := hE2.trans hb3
 clear c1 c2
 obtain ⟨V5, hV5, hV5e, hv5, hvl5⟩ := box1 w3 #[.int .i64 0, .int .i64 0, .string ⟨#[]⟩] 116
 have v1 := hv5.cell
 have v2 := hv5.lt
 have v3 := hv5.frozen
 rcases HCS.out with ⟨hf, rfl⟩ | ⟨x, hf, hp, rfl⟩ | ⟨x, l, hf, hp, rfl⟩
 ·rw [hf]
  obtain ⟨W5, hW5, hk5, hB5⟩ : ∃ W5, V5.setCells w3.heap.size 0 [.int .i64 0, .int .i64 0, .string ⟨#[]⟩] = W5 /\ Blk W5 w3.heap.size 116 #[.int .i64 0, .int .i64 0, .string ⟨#[]⟩] /\ Ext w3 W5 :=
   ⟨_, rfl, hv5.setCells_ [.int .i64 0, .int .i64 0, .string ⟨#[]⟩] 0, ext_setCells hV5e (Nat.le_refl _) 0 _⟩
  simp only [World.setCells, Nat.zero_add, Nat.reduceAdd] at hW5
  dsimp only
  go_wp2
  (try rw [hW5])
  go_ret2
  exact ⟨GetR.err, hE3.trans hB5⟩
 ·rw [hf]
  have hxl : x.data.length <= 1000000 := by have := (blErr_ok (hok x (List.mem_of_find?_eq_some hf))).2.2; omega
  have f4 := fun w => par3_any x.data w hxl
  rw [show par3 x.data = none from hp] at f4
  dsimp only [ParR] at f4
  dsimp only
  obtain ⟨kd, hkd⟩ : ∃ kd, x.kind = kd := ⟨_, rfl⟩
  obtain ⟨fl, hfl⟩ : ∃ fl, x.flags = fl := ⟨_, rfl⟩
  obtain ⟨db, hdb, hdv, -⟩ := str_name x.data
  rw [hdv] at f4
  rw [hkd, hfl, hdv]
  clear hf hp hkd hfl hdb hdv
  obtain ⟨W5, hW5, hk5, hB5⟩ : ∃ W5, V5.setCells w3.heap.size 0 [.int .i64 kd, .int .i64 fl, .string db] = W5 /\ Blk W5 w3.heap.size 116 #[.int .i64 kd, .int .i64 fl, .string db] /\ Ext w3 W5 :=
   ⟨_, rfl, hv5.setCells_ [.int .i64 kd, .int .i64 fl, .string db] 0, ext_setCells hV5e (Nat.le_refl _) 0 _⟩
  simp only [World.setCells, Nat.zero_add, Nat.reduceAdd] at hW5
  have hE5 := hE3.trans hB5
  go_upto_region 6 with fail
  (try rw [hW5])
  clear hW5 hV5 v1 v2 v3 hv5 hvl5
  have c5 := hk5.cell
  have l5 := hk5.lt
  go_wp2_with fail
  refine (f3 _).mono ?_
  clear f3
  rintro e w6 ⟨rfl, hb6⟩
  obtain ⟨V7, hV7, hV7e, hv7, hvl7⟩ := box1 w6 #[.nilFunc, .nilFunc, .nilFunc, .nilFunc] 363
  obtain ⟨W7, hW7, hk7, hB7⟩ : ∃ W7, V7.setCells w6.heap.size 0 [.nilFunc, .func (.func 297) #[] #[], .func (.func 299) #[] #[], .func (.func 300) #[] #[]] = W7 /\ Blk W7 w6.heap.size 363 #[.nilFunc, .func (.func 297) #[] #[], .func (.func 299) #[] #[], .func (.func 300) #[] #[]] /\ Ext w6 W7 :=
   ⟨_, rfl, hv7.setCells_ [.nilFunc, .func (.func 297) #[] #[], .func (.func 299) #[] #[], .func (.func 300) #[] #[]] 0, ext_setCells hV7e (Nat.le_refl _) 0 _⟩
  simp only [World.setCells, Nat.zero_add, Nat.reduceAdd] at hW7
  have v1 := hv7.cell
  have v2 := hv7.lt
  have v3 := hv7.frozen
  clear c5 l5
  go_upto_region 7 with fail
  (try rw [hW7])
  clear hW7 hV7 v1 v2 v3 hv7 hvl7
  have hE7 := hE5.trans (hb6.trans hB7)
  have hkx := (hk5.ext hb6).ext hB7
  refine wp_region_P (fun _ => false) (fun w' => (∀ i, w'.cell? ⟨w6.heap.size, i, none⟩ = #[Value.nilFunc, .func (.func 297) #[] #[], .func (.func 299) #[] #[], .func (.func 300) #[] #[]][i]?) /\ (∀ i, w'.cell? ⟨w3.heap.size, i, none⟩ = #[Value.int .i64 kd, .int .i64 fl, .string db][i]?)) (by kernel_rfl) ⟨hk7.cell, hkx.cell⟩ (fun hSS => ?_)
  refine pT 0 (v := ?_) rfl (fun _ _ _ h => h) (by rfl) ?_ ?_
  rotate_left
  ·intro w'; go_simp; first | done | with_reducible rfl
  try simp only [Act.put, sp1]
  refine pT 1 (v := ?_) rfl (fun _ _ _ h => h) (by rfl) ?_ ?_
  rotate_left
  ·intro w'; go_simp; first | done | with_reducible rfl
  try simp only [Act.put, sp1]
  refine pT 2 (v := ?_) rfl (fun _ _ _ h => h) (by rfl) ?_ ?_
  rotate_left
  ·intro w'; go_simp; first | done | with_reducible rfl
  try simp only [Act.put, sp1]
  refine pK 3 (v := ?_) rfl (fun _ _ _ h => h) (by rfl) ?_ (by assumption) ?_
  rotate_left
  ·intro w' hw'
   (try have hC := hw'.2)
   (try have hC9 := hw'.1)
   go_simp
   first | done | with_reducible rfl
  try simp only [Act.put, sp1]
  refine pT 4 (v := ?_) rfl (fun _ _ _ h => h) (by rfl) ?_ ?_
  rotate_left
  ·intro w'; go_simp; first | done | with_reducible rfl
  try simp only [Act.put, sp1]
  refine pK 5 (v := ?_) rfl (fun _ _ _ h => h) (by rfl) ?_ (by assumption) ?_
  rotate_left
  ·intro w' hw'
   (try have hC := hw'.2)
   (try have hC9 := hw'.1)
   go_simp
   first | done | with_reducible rfl
  try simp only [Act.put, sp1]
  refine pO 6 rfl (fun K hK => ?_)
  go_simp
  refine Calls.mono (f4 _) ?_
  rintro e w8 ⟨⟨u8, rfl⟩, hb8⟩
  have hx8 := ((Ext.refl W7).drew).trans hb8
  refine hK.out _ _ (fun _ _ => ⟨(hk7.ext hx8).cell, (hkx.ext hx8).cell⟩) ?_
  clear hK K
  refine pT 7 (v := ?_) rfl (fun _ _ _ h => h) (by rfl) ?_ ?_
  rotate_left
  ·intro w'; go_simp; first | done | with_reducible rfl
  try simp only [Act.put, sp1]
  refine pT 8 (v := ?_) rfl (fun _ _ _ h => h) (by rfl) ?_ ?_
  rotate_left
  ·intro w'; go_simp; first | done | with_reducible rfl
  try simp only [Act.put, sp1]
  refine pT 9 (v := ?_) rfl (fun _ _ _ h => h) (by rfl) ?_ ?_
  rotate_left
  ·intro w'; go_simp; first | done | with_reducible rfl
  try simp only [Act.put, sp1]
  refine pT 10 (v := ?_) rfl (fun _ _ _ h => h) (by rfl) ?_ ?_
  rotate_left
  ·intro w'; go_simp; first | done | with_reducible rfl
  try simp only [Act.put, sp1]
  refine pT 11 (v := ?_) rfl (fun _ _ _ h => h) (by rfl) ?_ ?_
  rotate_left
  ·intro w'; go_simp; first | done | with_reducible rfl
  try simp only [Act.put, sp1]
  refine wpAnyP_done (by kernel_rfl) ?_ _
  go_wp2
  go_ret2
  exact ⟨GetR.err, hE7.trans hx8⟩
 ·rw [hf]
  have hxl : x.data.length <= 1000000 := by have := (blErr_ok (hok x (List.mem_of_find?_eq_some hf))).2.2; omega
  have f4 := fun w => par3_any x.data w hxl
  rw [show par3 x.data = some l from hp] at f4
  dsimp only [ParR] at f4
  dsimp only
  obtain ⟨kd, hkd⟩ : ∃ kd, x.kind = kd := ⟨_, rfl⟩
  obtain ⟨fl, hfl⟩ : ∃ fl, x.flags = fl := ⟨_, rfl⟩
  obtain ⟨db, hdb, hdv, -⟩ := str_name x.data
  rw [hdv] at f4
  rw [hkd, hfl, hdv]
  clear hf hp hkd hfl hdb hdv
  obtain ⟨W5, hW5, hk5, hB5⟩ : ∃ W5, V5.setCells w3.heap.size 0 [.int .i64 kd, .int .i64 fl, .string db] = W5 /\ Blk W5 w3.heap.size 116 #[.int .i64 kd, .int .i64 fl, .string db] /\ Ext w3 W5 :=
   ⟨_, rfl, hv5.setCells_ [.int .i64 kd, .int .i64 fl, .string db] 0, ext_setCells hV5e (Nat.le_refl _) 0 _⟩
  simp only [World.setCells, Nat.zero_add, Nat.reduceAdd] at hW5
  have hE5 := hE3.trans hB5
  go_upto_region 6 with fail
  (try rw [hW5])
  clear hW5 hV5 v1 v2 v3 hv5 hvl5
  have c5 := hk5.cell
  have l5 := hk5.lt
  go_wp2_with fail
  refine (f3 _).mono ?_
  clear f3
  rintro e w6 ⟨rfl, hb6⟩
  obtain ⟨V7, hV7, hV7e, hv7, hvl7⟩ := box1 w6 #[.nilFunc, .nilFunc, .nilFunc, .nilFunc] 363
  obtain ⟨W7, hW7, hk7, hB7⟩ : ∃ W7, V7.setCells w6.heap.size 0 [.nilFunc, .func (.func 297) #[] #[], .func (.func 299) #[] #[], .func (.func 300) #[] #[]] = W7 /\ Blk W7 w6.heap.size 363 #[.nilFunc, .func (.func 297) #[] #[], .func (.func 299) #[] #[], .func (.func 300) #[] #[]] /\ Ext w6 W7 :=
   ⟨_, rfl, hv7.setCells_ [.nilFunc, .func (.func 297) #[] #[], .func (.func 299) #[] #[], .func (.func 300) #[] #[]] 0, ext_setCells hV7e (Nat.le_refl _) 0 _⟩
  simp only [World.setCells, Nat.zero_add, Nat.reduceAdd] at hW7
  have v1 := hv7.cell
  have v2 := hv7.lt
  have v3 := hv7.frozen
  clear c5 l5
  go_upto_region 7 with fail
  (try rw [hW7])
  clear hW7 hV7 v1 v2 v3 hv7 hvl7
  have hE7 := hE5.trans (hb6.trans hB7)
  have hkx := (hk5.ext hb6).ext hB7
  refine wp_region_P (fun _ => false) (fun w' => (∀ i, w'.cell? ⟨w6.heap.size, i, none⟩ = #[Value.nilFunc, .func (.func 297) #[] #[], .func (.func 299) #[] #[], .func (.func 300) #[] #[]][i]?) /\ (∀ i, w'.cell? ⟨w3.heap.size, i, none⟩ = #[Value.int .i64 kd, .int .i64 fl, .string db][i]?)) (by kernel_rfl) ⟨hk7.cell, hkx.cell⟩ (fun hSS => ?_)
  refine pT 0 (v := ?_) rfl (fun _ _ _ h => h) (by rfl) ?_ ?_
  rotate_left
  ·intro w'; go_simp; first | done | with_reducible rfl
  try simp only [Act.put, sp1]
  refine pT 1 (v := ?_) rfl (fun _ _ _ h => h) (by rfl) ?_ ?_
  rotate_left
  ·intro w'; go_simp; first | done | with_reducible rfl
  try simp only [Act.put, sp1]
  refine pT 2 (v := ?_) rfl (fun _ _ _ h => h) (by rfl) ?_ ?_
  rotate_left
  ·intro w'; go_simp; first | done | with_reducible rfl
  try simp only [Act.put, sp1]
  refine pK 3 (v := ?_) rfl (fun _ _ _ h => h) (by rfl) ?_ (by assumption) ?_
  rotate_left
  ·intro w' hw'
   (try have hC := hw'.2)
   (try have hC9 := hw'.1)
   go_simp
   first | done | with_reducible rfl
  try simp only [Act.put, sp1]
  refine pT 4 (v := ?_) rfl (fun _ _ _ h => h) (by rfl) ?_ ?_
  rotate_left
  ·intro w'; go_simp; first | done | with_reducible rfl
  try simp only [Act.put, sp1]
  refine pK 5 (v := ?_) rfl (fun _ _ _ h => h) (by rfl) ?_ (by assumption) ?_
  rotate_left
  ·intro w' hw'
   (try have hC := hw'.2)
   (try have hC9 := hw'.1)
   go_simp
   first | done | with_reducible rfl
  try simp only [Act.put, sp1]
  refine pO 6 rfl (fun K hK => ?_)
  go_simp
  refine Calls.mono (f4 _) ?_
  rintro e w8 ⟨⟨A8, c8, rfl, hR8⟩, hb8⟩
  have hx8 := ((Ext.refl W7).drew).trans hb8
  refine hK.out _ _ (fun _ _ => ⟨(hk7.ext hx8).cell, (hkx.ext hx8).cell⟩) ?_
  clear hK K
  refine pT 7 (v := ?_) rfl (fun _ _ _ h => h) (by rfl) ?_ ?_
  rotate_left
  ·intro w'; go_simp; first | done | with_reducible rfl
  try simp only [Act.put, sp1]
  refine pT 8 (v := ?_) rfl (fun _ _ _ h => h) (by rfl) ?_ ?_
  rotate_left
  ·intro w'; go_simp; first | done | with_reducible rfl
  try simp only [Act.put, sp1]
  refine pT 9 (v := ?_) rfl (fun _ _ _ h => h) (by rfl) ?_ ?_
  rotate_left
  ·intro w'; go_simp; first | done | with_reducible rfl
  try simp only [Act.put, sp1]
  refine pT 10 (v := ?_) rfl (fun _ _ _ h => h) (by rfl) ?_ ?_
  rotate_left
  ·intro w'; go_simp; first | done | with_reducible rfl
  try simp only [Act.put, sp1]
  refine pT 11 (v := ?_) rfl (fun _ _ _ h => h) (by rfl) ?_ ?_
  rotate_left
  ·intro w'; go_simp; first | done | with_reducible rfl
  try simp only [Act.put, sp1]
  refine wpAnyP_done (by kernel_rfl) ?_ _
  go_wp2
  go_ret2
  exact ⟨⟨A8, c8, rfl, hR8⟩, hE7.trans hx8⟩
end
end Go.Proofs.YtemkpimngbbpkaaGreat

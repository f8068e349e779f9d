/- slices.Repeat of one number. -/
import Derived.Test.YtemkpimngbbpkaaGreatRows
import Derived.Laws.CopyOwn
import Derived.Deep.RegionLaw
import Derived.Laws.IdiomCopy
import Derived.StillTailTactics
import Derived.Test.YtemkpimngbbpkaaGreatQt01
namespace Go.Proofs.YtemkpimngbbpkaaGreat
set_option linter.unusedVariables false
set_option linter.unusedSimpArgs false
open Go.RowKit
set_option maxHeartbeats 1000000 in
theorem mul1_any (N : Nat) (h1 : 1 <= N) (h2 : N <= 16) (w : World) :
 Calls Tryz.prog 236 #[.int .u64 1, .int .u64 N] w fun e w' => e = .returned (.tuple #[.int .u64 0, .int .u64 N]) /\ w = w' := by
 obtain rfl | rfl | rfl | rfl | rfl | rfl | rfl | rfl | rfl | rfl | rfl | rfl | rfl | rfl | rfl | rfl : N = 1 ∨ N = 2 ∨ N = 3 ∨ N = 4 ∨ N = 5 ∨ N = 6 ∨ N = 7 ∨ N = 8 ∨ N = 9 ∨ N = 10 ∨ N = 11 ∨ N = 12 ∨ N = 13 ∨ N = 14 ∨ N = 15 ∨ N = 16 := by omega
 all_goals
  go_enter Tryz.func236, Tryz.ntmps236
  go_wp2
  go_ret2
  exact ⟨rfl, rfl⟩
theorem info_intR : (Tryz.prog.info? 3).map (fun i => (i.zero, i.size, i.bytes)) = some (some (.int .i64 0), 1, 8) := by kernel_rfl
def repL (N n : Nat) (v : Int) : List Value := List.replicate n (.int .i64 v) ++ List.replicate (N - n) (.int .i64 0)
theorem repL_len {N n : Nat} (v : Int) (h : n <= N) : (repL N n v).length = N := by simp [repL]; omega
theorem allInt_rep (v : Int) : ∀ n, List.replicate n (Value.int .i64 v) = EInt.all (List.replicate n v)
 | 0 => rfl
 | n + 1 => by rw [List.replicate_succ, List.replicate_succ, allInt_rep v n]; rfl
theorem repL_splice {N n k : Nat} {v : Int} (h : n + k <= N) : splice (repL N n v) n (List.replicate k (.int .i64 v)) = repL N (n + k) v := by
 unfold splice repL
 rw [List.length_replicate, List.take_append_of_le_length (by simp), List.take_of_length_le (by simp), List.drop_append, List.drop_eq_nil_of_le (by simp), List.length_replicate, List.nil_append, List.drop_replicate, <- List.append_assoc, List.replicate_append_replicate]
 congr 2
 omega
set_option maxRecDepth 100000 in
set_option maxHeartbeats 4000000 in
theorem repeat_any (b o c : Nat) (v : Int) (N : Nat) (w : World) (hx : Rd EInt w (some ⟨b, o, none⟩) [v]) (h1 : 1 <= N) (h2 : N <= 16) :
 Calls Tryz.prog 157 #[.slice (some ⟨b, o, none⟩) 1 c, .int .i64 N] w fun e w' => ∃ u, e = .returned u /\ Owns EInt w' w.heap.size 3 u (List.replicate N v) /\ Ext w w' := by
 obtain ⟨i0, hi0, hz0, hz1, hz2⟩ := info_parts info_intR
 obtain ⟨W, hW, hB, hk, hlt⟩ := box1 w (Array.replicate N (.int .i64 0)) 3
 have hmk := fun w => run_make1 (n := N) Tryz.underlying30 hi0 hz0 hz1 (by omega) rfl (by omega) w
 have hcx := (hx.gi (i := 0) (by simp)).1
 have hm := mul1_any N h1 h2 w
 have hsz : (Tryz.prog.info? 3).map (·.size) = some 1 := by rw [hi0]; simp [hz1]
 have hk0 : W.heap[w.heap.size]? = some (.cells (repL N 0 v).toArray 3 (0, 0)) := by
  have h9 : (repL N 0 v).toArray = Array.replicate N (.int .i64 0) := by simp [repL]
  rw [h9]; exact hk
 have Hk0 := Lib.hid hk0
 have Hsz := Lib.hid hsz
 have hcx2 := hB.cell_some hcx
 have hcp1 : ([Value.int .i64 v] : List Value).length = Nat.min 1 N := by show 1 = min 1 N; omega
 have hcp2 : ∀ j u, ([Value.int .i64 v] : List Value)[j]? = some u -> W.cell? ((⟨b, o, none⟩ : Addr).add j) = some u := fun j u hj => by
  cases j with
  | zero =>
    simp at hj; subst hj
    rw [Addr.add_lit]
    simpa [gi] using hcx2
  | succ j => simp at hj
 have hcp3 : 0 + ([Value.int .i64 v] : List Value).length <= (repL N 0 v).length := by rw [repL_len v (by omega)]; simp; omega
 have hcp4 : ∀ x ∈ ([Value.int .i64 v] : List Value), x.oneCell' = true := by simp [Value.oneCell']
 have Hcp1 := Lib.hid hcp1
 have Hcp2 := Lib.hid hcp2
 have Hcp4 := Lib.hid hcp4
 have Hcp3 := Lib.hid hcp3
 clear hcx hk0 hsz hk hcp1 hcp2 hcp3 hcp4
 go_enter Tryz.func157, Tryz.ntmps157
 go_wp2_with (first
  | (go_at_call 236; refine hm.mono ?_; rintro e w' ⟨rfl, rfl⟩)
  | ((with_reducible show wpList _ _ _ _ _ _); refine wpList_copy_splice rfl (.tmp 31) (.tmp 32) 30 30 (by rfl) 3 Tryz.underlying30 Hsz.out (some ⟨w.heap.size, 0, none⟩) (some ⟨b, o, none⟩) N N 1 c (by rfl) (by rfl) w.heap.size 0 (repL N 0 v) 3 Hk0.out [.int .i64 v] Hcp1.out (fun _ => ⟨rfl, ⟨b, o, none⟩, rfl, Hcp2.out⟩) Hcp3.out Hcp4.out w.heap.size w hB (Nat.le_refl _) ?_; intro w4 hg4 hb4))
 have hg4' : Hid (w4.heap[w.heap.size]? = some (.cells (repL N 1 v).toArray 3 (0, 0))) := by
  have h := hg4.out
  have e := repL_splice (N := N) (n := 0) (k := 1) (v := v) (by omega)
  rw [show List.replicate 1 (Value.int .i64 v) = [.int .i64 v] from rfl, Nat.zero_add] at e
  rw [e] at h
  exact Lib.hid h
 clear hg4 hmk hW hm hcx2
 go_loopg [8] (N - 1) (fun q i wr => ∃ n : Nat, i = .int .i64 n /\ 1 <= n /\ n <= N /\ n + q = N /\ Hid (wr.heap[w.heap.size]? = some (.cells (repL N n v).toArray 3 (0, 0))) /\ Below w.heap.size w wr)
 case atStart => exact ⟨1, rfl, Nat.le_refl _, h1, by omega, hg4', hb4⟩
 case round =>
  obtain ⟨n, rfl, n1, n2, hnq, hg, hbw⟩ := hrel
  have Hnq := Lib.hid hnq
  clear hnq
  by_cases hlt : n < N
  ·obtain ⟨k, hk1, hk2, hk3⟩ : ∃ k : Nat, 1 <= k /\ n + k <= N /\ Hid (k = Nat.min n (N - n)) := ⟨min n (N - n), by omega, by omega, Lib.hid rfl⟩
   have hg0 := hg.out
   have hcell : ∀ j : Nat, wr.cell? ⟨w.heap.size, j, none⟩ = (repL N n v)[j]? := fun j => by
    have := Blk.cell (show Blk wr w.heap.size 3 (repL N n v).toArray from hg0) j
    simpa using this
   have hs1 := fun w' => run_cut (A := some ⟨w.heap.size, 0, none⟩) (c := N) Tryz.underlying30 hi0 hz1 n2 w'
   have hs2 := fun w' => run_cutAt (A := some ⟨w.heap.size, 0, none⟩) (c := N) Tryz.underlying30 hi0 hz1 n2 w'
   have e1 : cutA (some ⟨w.heap.size, 0, none⟩) N n 1 = some ⟨w.heap.size, n, none⟩ := by
    unfold cutA
    rw [if_neg (by omega)]
    simp [Addr.add_lit]
   simp only [e1] at hs1 hs2
   have ht1 := fun w' => run_take (A := some ⟨w.heap.size, 0, none⟩) (n := N) Tryz.underlying30 hi0 n2 w'
   have ht2 := fun w' => run_takeAt (A := some ⟨w.heap.size, 0, none⟩) (n := N) Tryz.underlying30 hi0 n2 w'
   have q1 : (List.replicate k (Value.int .i64 v)).length = Nat.min n (N - n) := by rw [List.length_replicate]; exact hk3.out
   have q2 : ∀ j u, (List.replicate k (Value.int .i64 v))[j]? = some u -> wr.drew.cell? ((⟨w.heap.size, 0, none⟩ : Addr).add j) = some u := fun j u hj => by
    have hjk : j < k := by
     have := (List.getElem?_eq_some_iff.1 hj).1
     simpa using this
    rw [Addr.add_lit, World.cell?_drew, Nat.zero_add, hcell]
    have e2 : u = .int .i64 v := by
     have := List.mem_of_getElem? hj
     exact List.eq_of_mem_replicate this
    have hmin := hk3.out
    have hjn : j < n := by
     have : Nat.min n (N - n) <= n := Nat.min_le_left _ _
     omega
    unfold repL
    rw [List.getElem?_append_left (by simpa using hjn), e2]
    simp [hjn]
   have q3 : n + (List.replicate k (Value.int .i64 v)).length <= (repL N n v).length := by rw [repL_len v n2, List.length_replicate]; exact hk2
   have q4 : ∀ x ∈ List.replicate k (Value.int .i64 v), x.oneCell' = true := fun x hx => by rw [List.eq_of_mem_replicate hx]; rfl
   have hkk : (List.replicate k (Value.int .i64 v)).length = k := List.length_replicate
   have Q1 := Lib.hid q1
   have Q2 := Lib.hid q2
   have Q3 := Lib.hid q3
   have Q4 := Lib.hid q4
   have Hkk := Lib.hid hkk
   have Hg : Hid (wr.drew.heap[w.heap.size]? = some (.cells (repL N n v).toArray 3 (0, 0))) := Lib.hid hg.out
   have hwr : IntKind.i64.wrap ((n : Int) + (k : Int)) = (n : Int) + (k : Int) := IntWalk.i64_in _ (by omega)
   have hdr : Below w.heap.size w wr.drew := hbw.drew
   clear hcell q1 q2 q3 q4 hkk e1 hg0
   go_wp2_with fail
   go_region_held3 (fun w' => Below w.heap.size w w') (first | exact hdr | assumption)
    (first | (refine step_copy_splice rfl (.tmp 41) (.tmp 44) 30 30 (by rfl) 3 Tryz.underlying30 Hsz.out (some ⟨w.heap.size, n, none⟩) (some ⟨w.heap.size, 0, none⟩) (N - n) (N - n) n N (by rfl) (by rfl) w.heap.size n (repL N n v) 3 Hg.out (List.replicate k (.int .i64 v)) Q1.out (fun _ => ⟨rfl, ⟨w.heap.size, 0, none⟩, rfl, Q2.out⟩) Q3.out Q4.out w.heap.size w hdr (Nat.le_refl _) ?_; rw [Hkk.out]; intro w5 hg5 hb5))
   all_goals
    go_wp2_with fail
    have hg5' : Hid (w5.heap[w.heap.size]? = some (.cells (repL N (n + k) v).toArray 3 (0, 0))) := by
     have h := hg5.out
     rw [repL_splice hk2] at h
     exact Lib.hid h
    go_roundg (gk - k)
    case measure => have := Hnq.out; omega
    case rel => exact ⟨n + k, by go_num, by omega, hk2, by have := Hnq.out; omega, hg5', hb5⟩
  ·have he : n = N := by omega
   subst he
   have hext : Ext w wr := hbw
   have hbl : Blk wr w.heap.size 3 (EInt.all (List.replicate n v)).toArray := by
    have h := hg.out
    have e : repL n n v = EInt.all (List.replicate n v) := by
     unfold repL
     rw [Nat.sub_self, List.replicate_zero, List.append_nil, allInt_rep]
    rw [e] at h
    exact h
   have hown : Owns EInt wr w.heap.size 3 (.slice (some ⟨w.heap.size, 0, none⟩) n n) (List.replicate n v) := by
    refine ⟨EInt.all_len _, .inr ⟨w.heap.size, n, _, by simp, Nat.le_refl _, hbl, by simp, by unfold maxLen; omega, by rw [List.size_toArray, EInt.all_len, List.length_replicate], by rw [List.take_of_length_le (by rw [EInt.all_len]; exact Nat.le_refl _)]⟩⟩
   go_wp2
   go_ret
   exact ⟨_, rfl, hown, hext⟩
end Go.Proofs.YtemkpimngbbpkaaGreat

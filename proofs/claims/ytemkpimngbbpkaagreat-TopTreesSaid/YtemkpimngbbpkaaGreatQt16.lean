/- Security: words and their bytes. -/
import Derived.Test.YtemkpimngbbpkaaGreatQt15
namespace Go.Proofs.YtemkpimngbbpkaaGreat
set_option linter.unusedVariables false
set_option linter.unusedSimpArgs false
open Go.RowKit
attribute [local go_sem] Oper.semAt_some
theorem Rd.by {w : World} {A : Option Addr} {l : Bts} (h : Rd EB w A l) {k : Nat} (hk : k < l.length) : ∃ b o, A = some ⟨b, o, none⟩ /\ b < w.heap.size /\ w.cell? ⟨b, o + k, none⟩ = some (.int .u8 (l[k].toNat : Int)) := by
 obtain ⟨b, o, rfl, hb, hc⟩ := h.at hk
 refine ⟨b, o, rfl, hb, ?_⟩
 have h0 := hc 0 _ rfl
 have e9 : EB.size = 1 := rfl
 rw [e9, Nat.mul_one, Nat.add_zero] at h0
 exact h0
theorem u8_shl64 (b : UInt8) (k : Nat) (hk : k < 8) : IntKind.u64.wrap ((b.toNat : Int) * 2 ^ (8 * k)) = ((b.toUInt64 <<< UInt64.ofNat (8 * k)).toNat : Int) := by
 have h := u64_shl b.toUInt64 (8 * k) (by omega)
 rw [IntKind.wrap_u64, <- h, Int.shiftLeft_eq]
 rfl
set_option maxRecDepth 100000 in
set_option maxHeartbeats 4000000 in
theorem word_any (A : Option Addr) (c : Nat) (l : Bts) (w : World) (hR : Rd EB w A l) (hl : 8 <= l.length) :
 Calls Tryz.prog 269 #[.slice A l.length c] w fun e w' => e = .returned (.int .u64 (wrd l).toNat) /\ w = w' := by
 go_enter Tryz.func269, Tryz.ntmps269
 go_wp2_with fail
 go_loopg [3, 5] 8 (fun n m v wr => ∃ k : Nat, k + n = 8 /\ v = .int .i64 k /\ m = .int .u64 (wrdK l k).toNat /\ wr = w)
 case atStart => exact ⟨0, rfl, by go_num, rfl, rfl⟩
 case round =>
  obtain ⟨k, hkn, rfl, rfl, rfl⟩ := hrel
  have Hkn := Lib.hid hkn
  have hk8 : k <= 8 := by omega
  clear hkn
  by_cases hlt : k < 8
  ·have hkl : k < l.length := by omega
   obtain ⟨b, o, rfl, hb, hc⟩ := hR.by hkl
   have hgd : l.getD k 0 = l[k] := by simp [List.getD, hkl]
   have hsu : wrdK l (k + 1) = wrdK l k ||| ((l.getD k 0).toUInt64 <<< (UInt64.ofNat (8 * k))) := rfl
   rw [hgd] at hsu
   generalize l[k] = x at *
   obtain ⟨sh, hsh⟩ : ∃ s, x.toUInt64 <<< UInt64.ofNat (8 * k) = s := ⟨_, rfl⟩
   have q1 := u8_shl64 x k hlt
   rw [hsh] at q1 hsu
   obtain ⟨m, hm⟩ : ∃ m, wrdK l k = m := ⟨_, rfl⟩
   rw [hm] at hsu ⊢
   obtain ⟨m', hm'⟩ : ∃ m', m ||| sh = m' := ⟨_, rfl⟩
   have q2 := u64_or m sh
   rw [hm'] at q2 hsu
   have Hsu := Lib.hid hsu
   clear hsh hm hm'
   have Hgd := Lib.hid hgd
   have hx0 : (0 : Int) <= (x.toNat : Int) := by omega
   have hx1 : (x.toNat : Int) < 256 := by have := x.toNat_lt; omega
   clear hsu hgd
   go_wp2_with fail
   go_roundg (gk - 1)
   case measure => have := Hkn.out; omega
   case rel => exact ⟨k + 1, by have := Hkn.out; omega, by go_num, by rw [Hsu.out], rfl⟩
  ·obtain rfl : k = 8 := by omega
   go_wp2
   go_ret
   exact ⟨rfl, rfl⟩
def wbyK (m : UInt64) (k : Nat) : Bts := (List.range k).map fun i => (m >>> (UInt64.ofNat (8 * i))).toUInt8
theorem wbyK_succ (m : UInt64) (k : Nat) : wbyK m (k + 1) = wbyK m k ++ [(m >>> (UInt64.ofNat (8 * k))).toUInt8] := by simp [wbyK, List.range_succ]
theorem wbyK_len (m : UInt64) (k : Nat) : (wbyK m k).length = k := by simp [wbyK]
theorem u64_shrB (m : UInt64) (k : Nat) (hk : k < 8) : IntKind.u8.wrap ((m.toNat : Int) / 2 ^ (8 * k)) = (((m >>> UInt64.ofNat (8 * k)).toUInt8).toNat : Int) := by
 rw [u64_shr m (8 * k) (by omega), IntKind.wrap_u8']
 rfl
theorem info_byte : (Tryz.prog.info? 5).map (fun i => (i.zero, i.size, i.bytes)) = some (some (.int .u8 0), 1, 1) := by kernel_rfl
set_option maxRecDepth 100000 in
set_option maxHeartbeats 8000000 in
theorem appendWord_any (u : Value) (l : Bts) (m : UInt64) (base : Nat) (w : World) (hu : Owns EB w base 5 u l) (hl : l.length <= 1000000) (hb : base <= w.heap.size) :
 Calls Tryz.prog 208 #[u, .int .u64 m.toNat] w fun e w' => ∃ u', e = .returned u' /\ Owns EB w' base 5 u' (l ++ wby m) /\ w.grownBy w' u.ownBlock := by
 obtain ⟨i0, hi0, hz0, hz1, hz2⟩ := info_parts info_byte
 obtain ⟨A, c, rfl, hR⟩ := hu.form
 have hg0 := World.grownBy.refl w (Value.slice A l.length c).ownBlock
 obtain ⟨row, hrow⟩ : ∃ row, (Value.slice A l.length c).ownBlock = row := ⟨_, rfl⟩
 rw [hrow] at hg0 ⊢
 have Hrow := Lib.hid hrow
 clear hrow
 go_enter Tryz.func208, Tryz.ntmps208
 go_wp2_with fail
 go_loopg [0, 6] 8 (fun n u' v wr => ∃ k : Nat, k + n = 8 /\ v = .int .i64 k /\ Owns EB wr base 5 u' (l ++ wbyK m k) /\ w.grownBy wr row /\ ∀ g, u'.ownBlock = some g -> row = some g ∨ w.heap.size <= g)
 case atStart => exact ⟨0, rfl, by go_num, by simpa [wbyK] using hu, hg0, fun g hg => .inl (by rw [<- Hrow.out]; exact hg)⟩
 case round =>
  obtain ⟨k, hkn, rfl, ho, hg, hro⟩ := hrel
  have Hkn := Lib.hid hkn
  have hk8 : k <= 8 := by omega
  clear hkn
  by_cases hlt : k < 8
  ·obtain ⟨y, hy⟩ : ∃ y, (m >>> UInt64.ofNat (8 * k)).toUInt8 = y := ⟨_, rfl⟩
   have q1 := u64_shrB m k hlt
   rw [hy] at q1
   have hsu := wbyK_succ m k
   rw [hy] at hsu
   obtain ⟨bs, hbs⟩ : ∃ bs, wbyK m k = bs := ⟨_, rfl⟩
   have hbl := wbyK_len m k
   rw [hbs] at hsu ho hbl
   have Hsu := Lib.hid hsu
   have Hro := Lib.hid hro
   clear hsu hbs hy hro
   obtain ⟨A1, c1, rfl, hR1⟩ := ho.form
   have hgs := hg.size
   have hln : (l ++ bs).length = l.length + k := by rw [List.length_append, hbl]
   have Hln := Lib.hid hln
   clear hln
   go_wp2_with (at_builtin; refine wpList_push rfl (.tmp 9) (.tmp 15) _ (by rfl) base 5 i0 _ 1 Tryz.underlying22 hi0 hz0 hz1 hz2 (by rfl) (.slice A1 (l ++ bs).length c1) (by rfl) (ho.ext ((Ext.refl _).alloc _)) wr.heap.size y (by rfl) (Blk.new wr _ _) (by rw [Hln.out]; simp only [maxLen]; omega) (by rw [Hln.out]; omega) (by simp; omega) ?_; intro v6 w6 hv6 hg6 hat6)
   go_roundg (gk - 1)
   case measure => have := Hkn.out; omega
   case rel =>
    refine ⟨k + 1, by have := Hkn.out; omega, by go_num, by rw [Hsu.out, <- List.append_assoc]; exact hv6, ?_, ?_⟩
    ·have h1 : w.grownBy (wr.alloc (.cells (EB.cells y).toArray 5)) row := grown_ext hg ((Ext.refl _).alloc _)
     refine ⟨hg6.os.trans h1.os, hg6.tape.trans h1.tape, hg6.output.trans h1.output, Nat.le_trans h1.size hg6.size, fun i hi hne => ?_⟩
     refine (hg6.block i (Nat.lt_of_lt_of_le hi h1.size) (fun e => ?_)).trans (h1.block i hi hne)
     rcases Hro.out i e.symm with h | h
     ·exact hne h.symm
     ·omega
    ·intro g hgg
     rcases hat6 with h | h
     ·exact Hro.out g (by rw [<- h]; exact hgg)
     ·rw [h] at hgg
      injection hgg with hgg
      right
      simp at hgg
      omega
  ·obtain rfl : k = 8 := by omega
   obtain ⟨A1, c1, rfl, hR1⟩ := ho.form
   go_wp2
   go_ret
   exact ⟨_, rfl, ho, hg⟩
end Go.Proofs.YtemkpimngbbpkaaGreat

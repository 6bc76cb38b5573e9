/- Contracts: the draws: a cursor over bytes, mixed with numbers; what a draw returns lies in its range. -/
import Derived.Test.YtbkgjgpoohlieaaHexD
namespace Go.Proofs.Ytbkgjgpoohlieaa
open Go.RowKit

theorem i64_and255 (z : Int) : bits .and .i64 z 255 = z % 256 := by
 have h := BitVec.toNat_and (BitVec.ofInt 64 z) 255#64
 show IntKind.i64.wrap ((BitVec.ofInt 64 z &&& BitVec.ofInt 64 255).toNat : Int) = _
 have e1 : (BitVec.ofInt 64 255) = 255#64 := by decide
 rw [e1, h]
 have e2 : (255#64 : BitVec 64).toNat = 2 ^ 8 - 1 := rfl
 rw [e2, Nat.and_two_pow_sub_one_eq_mod, BitVec.toNat_ofInt, IntKind.wrap_i64]
 omega
theorem i64_and30 (z : Int) : bits .and .i64 z 1073741823 = z % 1073741824 := by
 have h := BitVec.toNat_and (BitVec.ofInt 64 z) 1073741823#64
 show IntKind.i64.wrap ((BitVec.ofInt 64 z &&& BitVec.ofInt 64 1073741823).toNat : Int) = _
 have e1 : (BitVec.ofInt 64 1073741823) = 1073741823#64 := by decide
 rw [e1, h]
 have e2 : (1073741823#64 : BitVec 64).toNat = 2 ^ 30 - 1 := rfl
 rw [e2, Nat.and_two_pow_sub_one_eq_mod, BitVec.toNat_ofInt, IntKind.wrap_i64]
 omega

/-- a cursor at block g over bytes below B -/
def Cur (B g : Nat) (w : World) : Prop :=
 ∃ (A : Option Addr) (n c : Nat) (l : List UInt8) (i : Nat) (h : Int), Blk w g 84 #[.slice A n c, .int .i64 i, .int .i64 h] ∧ B ≤ g ∧ Reads w B 1 A n (bys l) ∧ i ≤ n ∧ n ≤ 1048576
/-- a draw -/
def DrawI (B g : Nat) (P : Int → Prop) (w : World) (e : Ending) (w' : World) : Prop :=
 ∃ x : Int, e = .returned (.int .i64 x) ∧ P x ∧ Cur B g w' ∧ w.grownBy w' (some g)

theorem Reads.byte_at {w : World} {B n : Nat} {A : Option Addr} {l : List UInt8} (h : Reads w B 1 A n (bys l)) {k : Nat} (hk : k < n) :
  ∃ (ad : Addr) (x : Nat), A = some ad ∧ ad.block < B ∧ x < 256 ∧ w.cell? (ad.add k) = some (.int .u8 x) := by
 obtain ⟨ad, u, rfl, hb, hu, hc⟩ := h.at_ hk
 rw [bys, List.getElem?_map] at hu
 cases hx : l[k]? with
 | none => rw [hx] at hu; cases hu
 | some x => rw [hx] at hu; injection hu with hu; subst hu; exact ⟨ad, x.toNat, rfl, hb, x.toNat_lt, hc⟩

theorem grown_set {w : World} {g o : Nat} (u : Value) : w.grownBy (w.setCell ⟨g, o, none⟩ u) (some g) := only_setCell (World.grownBy.refl w _) (.inl rfl) u
theorem cur_bytes {w w' : World} {B g n : Nat} {A : Option Addr} {xs : List Value} (hr : Reads w B 1 A n xs) (hBg : B ≤ g) (hg : w.grownBy w' (some g)) (hB : B ≤ w.heap.size) : Reads w' B 1 A n xs :=
 hr.grown hg hB (fun _ h => by injection h with h; omega)

attribute [local go_sem] i64_and255
set_option maxRecDepth 100000 in
set_option maxHeartbeats 4000000 in
theorem s_Byte {B g : Nat} {w : World} (hcur : Cur B g w) : Calls Try.prog 71 #[.pointer (some ⟨g, 0, none⟩)] w (DrawI B g (fun x => 0 ≤ x ∧ x < 256) w) := by
 obtain ⟨A, n, c, l, i, h, hB, hBg, hr, hin, hn⟩ := hcur
 have lg := hB.lt
 have hB1 : Blk (w.setCell ⟨g, 2, none⟩ (.int .i64 (wrap64 (wrap64 (h * 6364136223846793005) + 1442695040888963407)))) g 84 #[.slice A n c, .int .i64 i, .int .i64 (wrap64 (wrap64 (h * 6364136223846793005) + 1442695040888963407))] := by simpa using hB.set_ 2 (.int .i64 (wrap64 (wrap64 (h * 6364136223846793005) + 1442695040888963407)))
 have hg1 := grown_set (w := w) (g := g) (o := 2) (.int .i64 (wrap64 (wrap64 (h * 6364136223846793005) + 1442695040888963407)))
 have c0 := hB.cell 0
 have c1 := hB.cell 1
 have c2 := hB.cell 2
 have f1 := hB.frozen 1
 have f2 := hB.frozen 2
 simp only [List.getElem?_toArray, List.getElem?_cons_zero, List.getElem?_cons_succ] at c0 c1 c2
 clear hB
 have HB1 := Lib.hid hB1
 have Hg1 := Lib.hid hg1
 clear hB1 hg1
 go_enter Try.func71, Try.ntmps71
 go_wp2_with fail
 clear c0 c1 c2 f1 f2
 generalize wrap64 (wrap64 (h * 6364136223846793005) + 1442695040888963407) = h1 at HB1 Hg1 ⊢
 generalize w.setCell ⟨g, 2, none⟩ (.int .i64 h1) = w1 at HB1 Hg1 ⊢
 have c0 := HB1.out.cell 0
 have c1 := HB1.out.cell 1
 have c2 := HB1.out.cell 2
 have f1 := HB1.out.frozen 1
 simp only [List.getElem?_toArray, List.getElem?_cons_zero, List.getElem?_cons_succ] at c0 c1 c2
 have Hr := Lib.hid (cur_bytes hr hBg Hg1.out (by omega))
 clear hr
 refine wp_region_lex (by kernel_rfl) (by kernel_rfl) (Cls (fun x => x = w1.drew)) (Cls.mk' rfl) ?_
 have lexNE : Nonempty (Wd (fun x => x = w1.drew)) := ⟨⟨_, rfl⟩⟩
 have lexW : ∀ W : Wd (fun x => x = w1.drew), W.val = w1.drew := fun W => W.ok
 (repeat (first | (refine lex_r fun K hK => ?_; go_big_quiet_op; refine hK _ ?_; clear hK K) | (refine lex_k fun K hK => ?_; go_simp; refine hK _ ?_; clear hK K)))
 (refine lex_nil ?_)
 clear lexNE lexW
 have hz : 0 ≤ bits BinOp.xor IntKind.i64 (h1 / 8589934592) (h1 / 35184372088832) % 256 ∧ bits BinOp.xor IntKind.i64 (h1 / 8589934592) (h1 / 35184372088832) % 256 < 256 := by omega
 go_wp2_with fail
 generalize bits BinOp.xor IntKind.i64 (h1 / 8589934592) (h1 / 35184372088832) % 256 = x0 at hz ⊢
 have hx0 := hz.1
 have hx1 := hz.2
 clear hz
 by_cases hlt : i < n
 ·obtain ⟨ad, x, rfl, hab, hx, hc⟩ := Hr.out.byte_at hlt
  have g1 : (0 : Int) ≤ (i : Int) := by omega
  have g2 : (i : Int) < (n : Int) := by omega
  refine wp_region_lex (by kernel_rfl) (by kernel_rfl) (Cls (fun x => x = w1.drewN (1 + 1))) (Cls.mk' rfl) ?_
  have lexNE : Nonempty (Wd (fun x => x = w1.drewN (1 + 1))) := ⟨⟨_, rfl⟩⟩
  have lexW : ∀ W : Wd (fun x => x = w1.drewN (1 + 1)), W.val = w1.drewN (1 + 1) := fun W => W.ok
  (repeat (first | (refine lex_r fun K hK => ?_; go_big_quiet_op; refine hK _ ?_; clear hK K) | (refine lex_k fun K hK => ?_; go_simp; refine hK _ ?_; clear hK K)))
  (refine lex_nil ?_)
  clear lexNE lexW
  go_wp2_with fail
  refine wp_region_lex (by kernel_rfl) (by kernel_rfl) (Cls (fun x => x = w1.drewN (1 + 1 + 1))) (Cls.mk' rfl) ?_
  have lexNE : Nonempty (Wd (fun x => x = w1.drewN (1 + 1 + 1))) := ⟨⟨_, rfl⟩⟩
  have lexW : ∀ W : Wd (fun x => x = w1.drewN (1 + 1 + 1)), W.val = w1.drewN (1 + 1 + 1) := fun W => W.ok
  (repeat (first | (refine lex_r fun K hK => ?_; go_big_quiet_op; refine hK _ ?_; clear hK K) | (refine lex_k fun K hK => ?_; go_simp; refine hK _ ?_; clear hK K)))
  (refine lex_nil ?_)
  clear lexNE lexW
  go_wp2_with fail
  go_ret
  refine ⟨_, rfl, ⟨by omega, by omega⟩, ⟨some ad, n, c, l, i + 1, h1, ?_, hBg, Hr.out.setCell (p := ⟨g, 1, none⟩) hBg _, by omega, hn⟩, only_drew (only_drew (only_drew (Hg1.out.trans (grown_set _))))⟩
  show Blk (w1.setCell ⟨g, 1, none⟩ (.int .i64 ((i : Int) + 1))) g 84 _
  simpa using HB1.out.set_ 1 (.int .i64 ((i : Int) + 1))
 ·have g2 : (n : Int) ≤ (i : Int) := by omega
  refine wp_region_lex (by kernel_rfl) (by kernel_rfl) (Cls (fun x => x = w1.drewN (1 + 1))) (Cls.mk' rfl) ?_
  have lexNE : Nonempty (Wd (fun x => x = w1.drewN (1 + 1))) := ⟨⟨_, rfl⟩⟩
  have lexW : ∀ W : Wd (fun x => x = w1.drewN (1 + 1)), W.val = w1.drewN (1 + 1) := fun W => W.ok
  (repeat (first | (refine lex_r fun K hK => ?_; go_big_quiet_op; refine hK _ ?_; clear hK K) | (refine lex_k fun K hK => ?_; go_simp; refine hK _ ?_; clear hK K)))
  (refine lex_nil ?_)
  clear lexNE lexW
  go_wp2_with fail
  go_ret
  exact ⟨_, rfl, ⟨hx0, hx1⟩, ⟨A, n, c, l, i, h1, HB1.out, hBg, Hr.out, hin, hn⟩, only_drew (only_drew Hg1.out)⟩

def rng (n x : Int) : Prop := (0 < n → 0 ≤ x ∧ x < n) ∧ (n ≤ 0 → x = 0)

set_option maxRecDepth 100000 in
set_option maxHeartbeats 4000000 in
theorem s_Below {B g : Nat} {w : World} (n : Int) (hcur : Cur B g w) : Calls Try.prog 48 #[.pointer (some ⟨g, 0, none⟩), .int .i64 n] w (DrawI B g (rng n) w) := by
 by_cases h0 : n ≤ 0
 ·go_enter Try.func48, Try.ntmps48
  go_wp2_with fail
  go_ret
  exact ⟨0, rfl, ⟨fun h => by omega, fun _ => rfl⟩, hcur, World.grownBy.refl _ _⟩
 ·have h0' : 0 < n := by omega
  by_cases h1 : n ≤ 256
  ·go_enter Try.func48, Try.ntmps48
   go_wp2_with fail
   refine (s_Byte hcur).mono ?_
   rintro e w1 ⟨x, rfl, ⟨hx0, hx1⟩, hc1, hg1⟩
   go_wp2_with fail
   go_ret
   refine ⟨x % n, rfl, ⟨fun _ => ⟨Int.emod_nonneg _ (by omega), Int.emod_lt_of_pos _ h0'⟩, fun h => by omega⟩, hc1, hg1⟩
  ·go_enter Try.func48, Try.ntmps48
   go_wp2_with fail
   refine (s_Byte hcur).mono ?_
   rintro e w1 ⟨x1, rfl, ⟨hx0, hx1⟩, hc1, hg1⟩
   go_wp2_with fail
   refine (s_Byte hc1).mono ?_
   rintro e w2 ⟨x2, rfl, ⟨hy0, hy1⟩, hc2, hg2⟩
   go_wp2_with fail
   refine (s_Byte hc2).mono ?_
   rintro e w3 ⟨x3, rfl, ⟨hz0, hz1⟩, hc3, hg3⟩
   go_wp2_with fail
   refine (s_Byte hc3).mono ?_
   rintro e w4 ⟨x4, rfl, ⟨hu0, hu1⟩, hc4, hg4⟩
   go_wp2_with fail
   go_ret
   refine ⟨(x1 * 16777216 + x2 * 65536 + x3 * 256 + x4) % n, ?_, ⟨fun _ => ⟨Int.emod_nonneg _ (by omega), Int.emod_lt_of_pos _ h0'⟩, fun h => by omega⟩, hc4, ((hg1.trans hg2).trans hg3).trans hg4⟩
   rfl

/-- a new cursor -/
def NewCur (w : World) (e : Ending) (w' : World) : Prop := ∃ g, e = .returned (.pointer (some ⟨g, 0, none⟩)) ∧ Cur w.heap.size g w' ∧ Below w.heap.size w w'
attribute [local go_sem] i64_and30
set_option maxRecDepth 100000 in
set_option maxHeartbeats 4000000 in
theorem s_New {w : World} {A : Option Addr} {n c : Nat} {l : List UInt8} (hr : Reads w w.heap.size 1 A n (bys l)) (hn : n ≤ 1048576) : Calls Try.prog 47 #[.slice A n c] w (NewCur w) := by
 go_enter Try.func47, Try.ntmps47
 go_wp2_with fail
 go_loopw [3, 4] (fun hv i wr => ∃ (h : Int) (k : Nat), hv = .int .i64 h ∧ 0 ≤ h ∧ h ≤ 1073741824 ∧ i = .int .i64 k ∧ k ≤ n ∧ Below w.heap.size w wr) (fun _ i _ => n - (intOf i).toNat)
 case atStart => exact ⟨33117 + n, 0, rfl, by omega, by omega, rfl, Nat.zero_le _, Below.refl _ _⟩
 case round =>
  obtain ⟨h, k, rfl, hh0, hh1, rfl, hk, hb⟩ := hrel
  have hsz := hb.size
  have Hb := Lib.hid hb
  have Hr := Lib.hid (hr.below hb)
  clear hb
  by_cases hlt : k < n ∧ k < 4000
  ·obtain ⟨h1, h2⟩ := hlt
   obtain ⟨ad, x, rfl, hab, hx, hc⟩ := Hr.out.byte_at h1
   have g1 : (0 : Int) ≤ (k : Int) := by omega
   have g2 : (k : Int) < (n : Int) := by omega
   go_wp2_with fail
   go_roundw
   case rel => exact ⟨(h * 131 + x + 7) % 1073741824, k + 1, rfl, by omega, by omega, by go_num, by omega, Hb.out⟩
   case measure => simp [intOf]; omega
  ·have fin : ∀ (wr : World), w.heap.size ≤ wr.heap.size → Below w.heap.size w wr → Reads wr w.heap.size 1 A n (bys l) → Cur w.heap.size wr.heap.size (wr.alloc (.cells #[.slice A n c, .int .i64 0, .int .i64 h] 84)) :=
    fun wr hs hb hr => ⟨A, n, c, l, 0, h, by simpa using Blk.new wr 84 _, hs, hr.alloc hs _, Nat.zero_le _, hn⟩
   have Fin := Lib.hid (fin wr hsz Hb.out Hr.out)
   clear fin
   by_cases h1 : k < n
   ·have h2 : 4000 ≤ k := by omega
    have g2 : (k : Int) < (n : Int) := by omega
    go_wp2_with fail
    go_ret
    exact ⟨wr.heap.size, rfl, Fin.out, Hb.out.alloc hsz _⟩
   ·obtain rfl : k = n := by omega
    go_wp2_with fail
    go_ret
    exact ⟨wr.heap.size, rfl, Fin.out, Hb.out.alloc hsz _⟩

/-- a drawn bool -/
def DrawBool (B g : Nat) (w : World) (e : Ending) (w' : World) : Prop := ∃ b : Bool, e = .returned (.bool b) ∧ Cur B g w' ∧ w.grownBy w' (some g)
theorem s_Once {B g : Nat} {w : World} (n : Int) (hcur : Cur B g w) : Calls Try.prog 49 #[.pointer (some ⟨g, 0, none⟩), .int .i64 n] w (DrawBool B g w) := by
 go_enter Try.func49, Try.ntmps49
 go_wp2_with fail
 refine (s_Below n hcur).mono ?_
 rintro e w1 ⟨x, rfl, _, hc1, hg1⟩
 go_wp2_with fail
 go_ret
 exact ⟨_, rfl, hc1, hg1⟩

end Go.Proofs.Ytbkgjgpoohlieaa

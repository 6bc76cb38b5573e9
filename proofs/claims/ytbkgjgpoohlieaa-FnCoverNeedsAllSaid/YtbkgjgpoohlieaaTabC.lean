/- Contracts: a table's variable, complement, cofactors: the reference's functions, and the program's by tableOf. -/
import Derived.Test.YtbkgjgpoohlieaaTabN
import Derived.Test.YtbkgjgpoohlieaaLex
namespace Go.Proofs.Ytbkgjgpoohlieaa
open Go.RowKit
attribute [local go_sem] i64_and1

theorem tab_add (f : Nat → Bool) {i : Nat} {x : Int} (hi : i ≤ 15) (hx : x = if f i then 1 else 0) : wrap64 (((Tb.tab f i : Nat) : Int) + wrap64 (x * 2 ^ i)) = ((Tb.tab f (i + 1) : Nat) : Int) := by
 have h1 := Tb.tab_lt f i
 have h2 : (2 ^ i : Nat) ≤ 2 ^ 15 := Nat.pow_le_pow_right (by omega) hi
 have h3 : (2 : Int) ^ i = ((2 ^ i : Nat) : Int) := by rw [Int.natCast_pow]; rfl
 rw [h3, Tb.tab]
 generalize 2 ^ i = z at h1 h2 ⊢
 generalize Tb.tab f i = y at h1 ⊢
 cases hf : f i
 ·rw [hf] at hx
  simp at hx
  subst hx
  rw [Int.zero_mul, IntWalk.wrap64_in (0 : Int) (by omega), IntWalk.wrap64_in _ (by omega)]
  simp
 ·rw [hf] at hx
  simp at hx
  subst hx
  rw [Int.one_mul]
  have e := IntWalk.wrap64_in (z : Int) (by omega)
  rw [e, IntWalk.wrap64_in _ (by omega)]
  simp
theorem bit_int (b k : Nat) : ((b : Int) / 2 ^ k) % 2 = if b.testBit k then 1 else 0 := by
 have h := Tb.bit_num b k
 have e : ((b : Int) / 2 ^ k) % 2 = ((b / 2 ^ k % 2 : Nat) : Int) := by
  rw [Int.natCast_emod, Int.natCast_ediv, Int.natCast_pow]; rfl
 rw [e, h]
 cases b.testBit k <;> rfl

def tVar (n k : Int) : Int × Int × Bool := if inR n 0 4 && (decide (0 ≤ k) && decide (k < n)) then (n, ((Tb.tab (fun i => i.testBit k.toNat) (2 ^ n.toNat) : Nat) : Int), true) else (0, 0, false)

/-- what a round leaves: the table's block at g -/
def TabRelAt (g : Nat) (n : Int) (f : Nat → Bool) (w w0 : World) (i : Value) (wr : World) : Prop :=
 ∃ k : Nat, (k : Int) ≤ 2 ^ n.toNat ∧ i = .int .i64 k ∧ Below g w0 wr ∧ Below w.heap.size w wr ∧
  Blk wr g 31 #[.int .i64 n, .int .i64 (Tb.tab f k)]

set_option maxRecDepth 100000 in
set_option maxHeartbeats 4000000 in
theorem s_TableVar (n k : Int) (w : World) : Calls Try.prog 73 #[.int .i64 n, .int .i64 k] w fun e w' =>
   e = .returned (.tuple #[.agg #[.int .i64 (tVar n k).1, .int .i64 (tVar n k).2.1], .bool (tVar n k).2.2]) ∧ Below w.heap.size w w' := by
 by_cases hn : inR n 0 4 = true
 ·by_cases hk0 : 0 ≤ k
  ·by_cases hkn : k < n
   ·have He := Lib.hid (show tVar n k = (n, ((Tb.tab (fun i => i.testBit k.toNat) (2 ^ n.toNat) : Nat) : Int), true) by simp [tVar, hn, hk0, hkn])
    have hn0 := (inR_iff.1 hn).1
    have hn1 := (inR_iff.1 hn).2
    have hp := (pow_bd hn).2
    have hp1 := (pow_bd hn).1
    obtain ⟨hw1, hw2⟩ := w64_pow hn
    have hd0 : decide (k < 0) = false := by simp; omega
    have hd1 : decide (n ≤ k) = false := by simp; omega
    obtain ⟨k', rfl⟩ := Int.eq_ofNat_of_zero_le hk0
    have Hn := Lib.hid hn
    clear hn hw2
    go_enter Try.func73, Try.ntmps73
    go_wp2_with (first | (go_at_call 77; refine (s_l01In _ _ _ _).mono ?_; rintro e w' ⟨rfl, rfl⟩; rw [Hn.out]))
    go_loopw [7] (TabRelAt (w.heap.size + 1) n (fun i => i.testBit k') w (w.alloc (.cells #[.int .i64 0, .int .i64 0] 31))) (fun i _ => 16 - (intOf i).toNat)
    case atStart =>
     exact ⟨0, by simp only [Int.natCast_zero]; exact Int.le_trans (by decide) hp1, rfl, bel_, bel_, by simpa [Tb.tab] using Blk.new (w.alloc _) _ _⟩
    case round =>
     obtain ⟨i, hi, rfl, hb0, hb, hB⟩ := hrel
     have c1 := hB.cell 1
     have f1 := hB.frozen 1
     have c0 := hB.cell 0
     have r0 : wr.cell? ⟨w.heap.size, 0, none⟩ = some (.int .i64 0) := (hb0.cell (p := ⟨w.heap.size, 0, none⟩) (by simp)).trans (by simp [go_sem])
     have r1 : wr.cell? ⟨w.heap.size, 1, none⟩ = some (.int .i64 0) := (hb0.cell (p := ⟨w.heap.size, 1, none⟩) (by simp)).trans (by simp [go_sem])
     have s0 : wr.frozen? ⟨w.heap.size, 0, none⟩ = false := (hb0.frozen (p := ⟨w.heap.size, 0, none⟩) (by simp)).trans (by simp [go_sem])
     have s1 : wr.frozen? ⟨w.heap.size, 1, none⟩ = false := (hb0.frozen (p := ⟨w.heap.size, 1, none⟩) (by simp)).trans (by simp [go_sem])
     have l1 := hB.lt
     have Hb := Lib.hid hb
     have Hb0 := Lib.hid hb0
     have HB := Lib.hid hB
     clear hB hb hb0
     by_cases hlt : (i : Int) < 2 ^ n.toNat
     ·have hi15 : i ≤ 15 := by omega
      go_wp2_with fail
      refine wp_region_lex (by kernel_rfl) (by kernel_rfl) (Cls (fun x => x = wr.drew)) (Cls.mk' rfl) ?_
      have lexNE : Nonempty (Wd (fun x => x = wr.drew)) := ⟨⟨_, rfl⟩⟩
      have lexW : ∀ W : Wd (fun x => x = wr.drew), W.val = wr.drew := fun W => W.ok
      (repeat (first | (refine lex_r fun K hK => ?_; go_big_quiet_op; refine hK _ ?_; clear hK K) | (refine lex_k fun K hK => ?_; go_simp; refine hK _ ?_; clear hK K)))
      (refine lex_l fun K hK => ?_; go_big_op)
      (refine hK _ _ ?_; clear hK K)
      clear lexNE lexW
      go_wp2_with fail
      go_roundw
      case rel =>
       refine ⟨i + 1, by omega, by go_num, (Hb0.out.setCell (by simp) _).drew, (Hb.out.setCell (by simp) _).drew, ?_⟩
       rw [← tab_add _ hi15 (bit_int i k')]
       simpa using (HB.out.set_ 1 _).drew
      case measure => simp [intOf]; omega
     ·have hke : i = 2 ^ n.toNat := by
       have := pow_nat n
       omega
      have Hke := Lib.hid hke
      clear hke
      go_wp2_with fail
      exact bodyPost_ret (v := .tuple #[.agg #[.int .i64 n, .int .i64 (Tb.tab (fun i => i.testBit k') i)], .bool true]) (by simp [results, Try.results73, go_sem, r0, r1]) rfl
       ⟨by rw [He.out, ← Hke.out]; rfl, (Hb.out.setCell (by simp) _).setCell (by simp) _⟩
   ·have He := Lib.hid (show tVar n k = (0, 0, false) by simp [tVar, hkn])
    have hd0 : decide (k < 0) = false := by simp; omega
    have hd1 : decide (n ≤ k) = true := by simp; omega
    have Hn := Lib.hid hn
    clear hn
    go_enter Try.func73, Try.ntmps73
    go_wp2_with (first | (go_at_call 77; refine (s_l01In _ _ _ _).mono ?_; rintro e w' ⟨rfl, rfl⟩; rw [Hn.out]))
    exact bodyPost_ret (v := .tuple #[.agg #[.int .i64 0, .int .i64 0], .bool false]) (by simp [results, Try.results73, go_sem]) rfl ⟨by rw [He.out], bel_⟩
  ·have He := Lib.hid (show tVar n k = (0, 0, false) by simp [tVar, hk0])
   have hd0 : decide (k < 0) = true := by simp; omega
   have Hn := Lib.hid hn
   clear hn
   go_enter Try.func73, Try.ntmps73
   go_wp2_with (first | (go_at_call 77; refine (s_l01In _ _ _ _).mono ?_; rintro e w' ⟨rfl, rfl⟩; rw [Hn.out]))
   exact bodyPost_ret (v := .tuple #[.agg #[.int .i64 0, .int .i64 0], .bool false]) (by simp [results, Try.results73, go_sem]) rfl ⟨by rw [He.out], bel_⟩
 ·have hn : inR n 0 4 = false := by simpa using hn
  have He := Lib.hid (show tVar n k = (0, 0, false) by simp [tVar, hn])
  have Hn := Lib.hid hn
  clear hn
  go_enter Try.func73, Try.ntmps73
  go_wp2_with (first | (go_at_call 77; refine (s_l01In _ _ _ _).mono ?_; rintro e w' ⟨rfl, rfl⟩; rw [Hn.out]))
  exact bodyPost_ret (v := .tuple #[.agg #[.int .i64 0, .int .i64 0], .bool false]) (by simp [results, Try.results73, go_sem]) rfl ⟨by rw [He.out], bel_⟩
end Go.Proofs.Ytbkgjgpoohlieaa

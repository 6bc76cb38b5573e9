/- Contracts: is a cube an implicant: the program's and the reference's functions. -/
import Derived.Test.YtbkgjgpoohlieaaCovX
import Derived.Test.YtbkgjgpoohlieaaTabN
import Derived.Outline
namespace Go.Proofs.Ytbkgjgpoohlieaa
open Go.RowKit
attribute [local go_sem] i64_and1

theorem impl_succ {k b : Nat} {x : Tb.Cb} : Tb.impl (k + 1) b x = (Tb.impl k b x && (!Tb.hit x k || b.testBit k)) := by
 simp [Tb.impl, List.range_succ]
theorem impl_more {m k b : Nat} {x : Tb.Cb} (h : Tb.impl m b x = true) (hk : k ≤ m) : Tb.impl k b x = true :=
 Tb.impl_iff.2 fun i hi he => Tb.impl_iff.1 h i (by omega) he
theorem impl_no {m k b : Nat} {x : Tb.Cb} (hk : k < m) (h1 : Tb.hit x k = true) (h2 : b.testBit k = false) : Tb.impl m b x = false := by
 cases h : Tb.impl m b x
 ·rfl
 ·have := Tb.impl_iff.1 h k hk (Tb.hit_iff.1 h1)
  rw [h2] at this; cases this
theorem hit_dec (c v i : Nat) : Tb.hit (c, v) i = decide (i &&& c = v) := by
 simp only [Tb.hit]
 rw [Bool.eq_iff_iff]
 simp

set_option maxRecDepth 100000 in
set_option maxHeartbeats 4000000 in
theorem s_l03Implicant (m : Int) (b c v : Nat) (hk : tOk m b = true) (hc : c ≤ 65535) (hv : v ≤ 65535) (w : World) :
  Calls Try.prog 68 #[.agg #[.int .i64 m, .int .i64 b], .agg #[.int .i64 c, .int .i64 v]] w fun e w' => e = .returned (.bool (Tb.impl (2 ^ m.toNat) b (c, v))) ∧ Below w.heap.size w w' := by
 obtain ⟨b', hb', hbb, hb16, hm⟩ := tOk_nat hk
 obtain rfl : b = b' := by omega
 have hm0 := (inR_iff.1 hm).1
 have hm1 := (inR_iff.1 hm).2
 have hp := pow_bd hm
 obtain ⟨M, hM⟩ : ∃ M : Nat, M = 2 ^ m.toNat := ⟨_, rfl⟩
 have hpn := pow_nat m
 rw [← hM] at hpn
 have hM16 : M ≤ 16 := by omega
 have HW1 := Lib.hid (show wrap64 ((2 : Int) ^ m.toNat) = (M : Int) by rw [(w64_pow hm).1, hpn])
 rw [← hM]
 clear hb' hbb hp hpn hM hm hk
 go_enter Try.func68, Try.ntmps68
 go_wp2_with fail
 go_loop [5] (fun i => ∃ k : Nat, k ≤ M ∧ i = .int .i64 k ∧ Tb.impl k b (c, v) = true) (fun i => 16 - (intOf i).toNat)
 case atStart => exact ⟨0, Nat.zero_le _, rfl, rfl⟩
 case round =>
  obtain ⟨i, hi, rfl, him⟩ := hrel
  have Him := Lib.hid him
  clear him
  by_cases hlt : i < M
  ·have hi15 : i ≤ 15 := by omega
   have hbit := i64_and_nat i c (by omega) (by omega)
   have Hh := Lib.hid (hit_dec c v i)
   have mi : min i 64 = i := by omega
   have hbi := bit_int b i
   generalize i &&& c = z at hbit Hh
   by_cases hz : z = v
   ·subst hz
    cases ht : b.testBit i
    ·rw [ht] at hbi
     simp only [Bool.false_eq_true, if_false] at hbi
     have HN := Lib.hid (impl_no hlt (show Tb.hit (c, z) i = true by rw [Hh.out]; simp) ht)
     have hw1 := HW1.out
     clear ht
     go_wp2_with fail
     go_ret
     exact ⟨ret_bool HN.out.symm, bel_⟩
    ·rw [ht] at hbi
     simp only [if_true] at hbi
     have HN := Lib.hid (show Tb.impl (i + 1) b (c, z) = true by rw [impl_succ, Him.out, ht]; simp)
     have hw1 := HW1.out
     clear ht
     go_wp2_with fail
     clear hbi hw1 hbit
     go_round
     case rel => exact ⟨i + 1, by omega, by go_num, HN.out⟩
     case measure => simp [intOf]; omega
   ·have hne : ((z : Int) == (v : Int)) = false := by rw [castEq]; exact decide_eq_false hz
    have HN := Lib.hid (show Tb.impl (i + 1) b (c, v) = true by rw [impl_succ, Him.out, Hh.out]; simp [hz])
    have hw1 := HW1.out
    clear hz hbi
    go_wp2_with fail
    go_round
    case rel => exact ⟨i + 1, by omega, by go_num, HN.out⟩
    case measure => simp [intOf]; omega
  ·obtain rfl : i = M := by omega
   have hw1 := HW1.out
   go_wp2_with fail
   go_ret
   exact ⟨ret_bool Him.out.symm, bel_⟩

set_option maxRecDepth 100000 in
set_option maxHeartbeats 4000000 in
theorem i_isImplicant (m : Int) (b c v : Nat) (hk : tOk m b = true) (hc : c ≤ 65535) (hv : v ≤ 65535) (w : World) :
  Calls Try.prog 69 #[.agg #[.int .i64 m, .int .i64 b], .agg #[.int .i64 c, .int .i64 v]] w fun e w' => e = .returned (.bool (Tb.impl (2 ^ m.toNat) b (c, v))) ∧ Below w.heap.size w w' := by
 obtain ⟨b', hb', hbb, hb16, hm⟩ := tOk_nat hk
 obtain rfl : b = b' := by omega
 have hm0 := (inR_iff.1 hm).1
 have hm1 := (inR_iff.1 hm).2
 have hp := pow_bd hm
 have Hev := Lib.hid (fun i (hi : i < 2 ^ m.toNat) => tEv_bit hk hi)
 obtain ⟨M, hM⟩ : ∃ M : Nat, M = 2 ^ m.toNat := ⟨_, rfl⟩
 have hpn := pow_nat m
 rw [← hM] at hpn Hev
 have hM16 : M ≤ 16 := by omega
 have HW1 := Lib.hid (show wrap64 ((2 : Int) ^ m.toNat) = (M : Int) by rw [(w64_pow hm).1, hpn])
 rw [← hM]
 clear hb' hbb hp hpn hM hm hk
 go_enter Try.func69, Try.ntmps69
 go_wp2_with fail
 go_loopw [5] (fun i wr => ∃ k : Nat, k ≤ M ∧ i = .int .i64 k ∧ Tb.impl k b (c, v) = true ∧ Blk wr w.heap.size 31 #[.int .i64 m, .int .i64 b] ∧ Blk wr (w.heap.size + 1) 61 #[.int .i64 c, .int .i64 v] ∧ Below w.heap.size w wr) (fun i _ => 16 - (intOf i).toNat)
 case atStart => exact ⟨0, Nat.zero_le _, rfl, rfl, by simpa using (Blk.new w _ _).alloc _, by simpa using Blk.new (w.alloc _) _ _, bel_⟩
 case round =>
  obtain ⟨i, hi, rfl, him, hT, hC, hb⟩ := hrel
  have Him := Lib.hid him
  have HT := Lib.hid hT
  have HC := Lib.hid hC
  have Hb := Lib.hid hb
  have t0 := hT.cell 0
  have t1 := hT.cell 1
  have c0 := hC.cell 0
  have c1 := hC.cell 1
  simp only [List.getElem?_toArray, List.getElem?_cons_zero, List.getElem?_cons_succ] at t0 t1 c0 c1
  clear him hT hC hb
  by_cases hlt : i < M
  ·have hi15 : i ≤ 15 := by omega
   have hbit := i64_and_nat i c (by omega) (by omega)
   have Hh := Lib.hid (hit_dec c v i)
   have He := Lib.hid (Hev.out i hlt)
   generalize i &&& c = z at hbit Hh
   by_cases hz : z = v
   ·subst hz
    have hw1 := HW1.out
    go_wp2_with fail
    refine (i_TableEval _ _ _ _).mono ?_
    rintro e w1 ⟨rfl, hb1⟩
    rw [He.out]
    have Hb1 := Lib.hid (Hb.out.trans (hb1.mono Hb.out.size))
    have HT1 := Lib.hid (HT.out.below hb1 HT.out.lt)
    have HC1 := Lib.hid (HC.out.below hb1 HC.out.lt)
    clear hb1 t0 t1 c0 c1 hw1
    cases ht : b.testBit i
    ·have HN := Lib.hid (impl_no hlt (show Tb.hit (c, z) i = true by rw [Hh.out]; simp) ht)
     clear ht
     go_wp2_with fail
     go_ret
     exact ⟨ret_bool HN.out.symm, Hb1.out⟩
    ·have HN := Lib.hid (show Tb.impl (i + 1) b (c, z) = true by rw [impl_succ, Him.out, ht]; simp)
     clear ht
     go_wp2_with fail
     go_roundw
     case rel => exact ⟨i + 1, by omega, by go_num, HN.out, HT1.out, HC1.out, Hb1.out⟩
     case measure => simp [intOf]; omega
   ·have hne : ((z : Int) == (v : Int)) = false := by rw [castEq]; exact decide_eq_false hz
    have HN := Lib.hid (show Tb.impl (i + 1) b (c, v) = true by rw [impl_succ, Him.out, Hh.out]; simp [hz])
    have hw1 := HW1.out
    clear hz
    go_wp2_with fail
    go_roundw
    case rel => exact ⟨i + 1, by omega, by go_num, HN.out, HT.out, HC.out, Hb.out⟩
    case measure => simp [intOf]; omega
  ·obtain rfl : i = M := by omega
   have hw1 := HW1.out
   go_wp2_with fail
   go_ret
   exact ⟨ret_bool Him.out.symm, Hb.out⟩
end Go.Proofs.Ytbkgjgpoohlieaa

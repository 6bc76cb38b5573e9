/- Contract: tableOf makes the table of a function of the index. -/
import Derived.Test.YtbkgjgpoohlieaaTab2
namespace Go.Proofs.Ytbkgjgpoohlieaa
open Go.RowKit

theorem pow_nat (n : Int) : (2 : Int) ^ n.toNat = ((2 ^ n.toNat : Nat) : Int) := by
 rw [Int.natCast_pow]; rfl
theorem two_nat (k : Nat) : ((2 ^ k : Nat) : Int) = 2 ^ k := by rw [Int.natCast_pow]; rfl
theorem w64_two {k : Nat} (h : k ≤ 15) : wrap64 ((2 : Int) ^ k) = ((2 ^ k : Nat) : Int) := by
 have h1 : (2 ^ k : Nat) ≤ 2 ^ 15 := Nat.pow_le_pow_right (by omega) h
 have h2 : (2 : Int) ^ k = ((2 ^ k : Nat) : Int) := by rw [Int.natCast_pow]; rfl
 rw [h2]
 generalize 2 ^ k = z at h1 ⊢
 exact IntWalk.wrap64_in _ (by omega)

/-- what a round of tableOf leaves -/
def TabRel (n : Int) (g : Nat → Bool) (w : World) (i : Value) (wr : World) : Prop :=
 ∃ k : Nat, (k : Int) ≤ 2 ^ n.toNat ∧ i = .int .i64 k ∧ Below w.heap.size w wr ∧ Blk wr w.heap.size 31 #[.int .i64 0, .int .i64 0] ∧
  Blk wr (w.heap.size + 1) 31 #[.int .i64 n, .int .i64 (Tb.tab g k)]

set_option maxHeartbeats 4000000 in
set_option maxRecDepth 100000 in
theorem i_tableOf (n : Int) (hn : inR n 0 4 = true) (K : FuncId) (cap : Array Value) (g : Nat → Bool) (w : World) (hK : ∀ (args : Array Value) (w : World), (callFunc K args).run Try.prog w = .ok (.enter K args) w)
  (hf : ∀ (i : Nat) (W : World), (i : Int) < 2 ^ n.toNat → Below w.heap.size w W → Calls Try.prog K (#[.int .i64 i] ++ cap) W fun e W' => e = .returned (.bool (g i)) ∧ Below W.heap.size W W') :
  Calls Try.prog 54 #[.int .i64 n, .func (.func K) #[] cap] w fun e w' =>
   e = .returned (.agg #[.int .i64 n, .int .i64 (Tb.tab g (2 ^ n.toNat))]) ∧ Below w.heap.size w w' := by
 have hn0 := (inR_iff.1 hn).1
 have hn1 := (inR_iff.1 hn).2
 have hp := (pow_bd hn).2
 have hp1 := (pow_bd hn).1
 obtain ⟨hw1, hw2⟩ := w64_pow hn
 have HF := Lib.hid hf
 clear hf hn hw2
 go_enter Try.func54, Try.ntmps54
 go_wp2_with fail
 go_loopw [6] (TabRel n g w) (fun i _ => 16 - (intOf i).toNat)
 case atStart =>
  exact ⟨0, by simp only [Int.natCast_zero]; exact Int.le_trans (by decide) hp1, rfl, bel_, by simpa using (Blk.new w _ _).alloc _, by simpa [Tb.tab] using Blk.new (w.alloc _) _ _⟩
 case round =>
  obtain ⟨k, hk, rfl, hb, hB0, hB1⟩ := hrel
  have c0 := hB1.cell 0
  have c1 := hB1.cell 1
  have f1 := hB1.frozen 1
  have d0 := hB0.frozen 0
  have d1 := hB0.frozen 1
  have e0 := hB0.cell 0
  have e1 := hB0.cell 1
  have l0 := hB0.lt
  have l1 := hB1.lt
  have Hb := Lib.hid hb
  have HB0 := Lib.hid hB0
  have HB1 := Lib.hid hB1
  clear hB0 hB1 hb
  by_cases hlt : (k : Int) < 2 ^ n.toNat
  ·have hk15 : k ≤ 15 := by omega
   have hs := w64_two hk15
   by_cases hg : g k = true
   ·have Ht := Lib.hid (show Tb.tab g k ||| 2 ^ k = Tb.tab g (k + 1) by rw [Tb.tab_or, Tb.tab, if_pos hg])
    have hbit := i64_or_nat (Tb.tab g k) (2 ^ k) (by have := Tb.tab_lt g k; have := Tb.pow_mono hk15; omega) (by have := Tb.pow_mono hk15; omega)
    rw [Ht.out, two_nat k] at hbit
    go_wp2_with fail
    refine (HF.out k _ hlt Hb.out).mono ?_
    rintro e w1 ⟨rfl, hb1⟩
    rw [hg]
    have z1 := hb1.size
    try simp at z1
    (try have y1_0 : w.heap.size < w1.heap.size := (by omega))
    have q1_0 := fun o => (bcell hb1).1 (w.heap.size) o (by (try simp) <;> (try omega))
    have p1_0 := fun o => (bcell hb1).2 (w.heap.size) o (by (try simp) <;> (try omega))
    (try have y1_1 : w.heap.size + 1 < w1.heap.size := (by omega))
    have q1_1 := fun o => (bcell hb1).1 (w.heap.size + 1) o (by (try simp) <;> (try omega))
    have p1_1 := fun o => (bcell hb1).2 (w.heap.size + 1) o (by (try simp) <;> (try omega))
    go_wp2_with fail
    go_roundw
    case rel =>
     refine ⟨k + 1, by omega, by go_num, ?_, ?_, ?_⟩
     ·exact (Hb.out.trans (hb1.mono Hb.out.size)).setCell (by simp) _
     ·exact (HB0.out.below hb1 l0).far (by simp) _
     ·simpa using (HB1.out.below hb1 l1).set_ 1 _
    case measure => simp [intOf]; omega
   ·have hg : g k = false := by simpa using hg
    have Ht := Lib.hid (show Tb.tab g k = Tb.tab g (k + 1) by rw [Tb.tab, if_neg (by simp [hg]), Nat.add_zero])
    go_wp2_with fail
    refine (HF.out k _ hlt Hb.out).mono ?_
    rintro e w1 ⟨rfl, hb1⟩
    rw [hg]
    have z1 := hb1.size
    try simp at z1
    (try have y1_0 : w.heap.size < w1.heap.size := (by omega))
    have q1_0 := fun o => (bcell hb1).1 (w.heap.size) o (by (try simp) <;> (try omega))
    have p1_0 := fun o => (bcell hb1).2 (w.heap.size) o (by (try simp) <;> (try omega))
    (try have y1_1 : w.heap.size + 1 < w1.heap.size := (by omega))
    have q1_1 := fun o => (bcell hb1).1 (w.heap.size + 1) o (by (try simp) <;> (try omega))
    have p1_1 := fun o => (bcell hb1).2 (w.heap.size + 1) o (by (try simp) <;> (try omega))
    go_wp2_with fail
    go_roundw
    case rel =>
     exact ⟨k + 1, by omega, by go_num, Hb.out.trans (hb1.mono Hb.out.size), HB0.out.below hb1 l0, by rw [← Ht.out]; exact HB1.out.below hb1 l1⟩
    case measure => simp [intOf]; omega
  ·have hke : k = 2 ^ n.toNat := by
    have := pow_nat n
    omega
   have Hke := Lib.hid hke
   clear hke
   go_wp2_with fail
   exact bodyPost_ret (v := .agg #[.int .i64 n, .int .i64 (Tb.tab g k)]) (by simp [results, Try.results54, go_sem, e0, e1]) rfl
    ⟨by rw [← Hke.out], (Hb.out.setCell (by simp) _).setCell (by simp) _⟩
end Go.Proofs.Ytbkgjgpoohlieaa

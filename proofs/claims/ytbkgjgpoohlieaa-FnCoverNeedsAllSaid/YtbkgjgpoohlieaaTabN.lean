/- Contracts: a table's variable, complement and cofactors: the program's functions by tableOf. -/
import Derived.Test.YtbkgjgpoohlieaaTabOf
namespace Go.Proofs.Ytbkgjgpoohlieaa
open Go.RowKit
attribute [local go_sem] i64_and1

theorem cf_Var (args : Array Value) (w : World) : (callFunc 55 args).run Try.prog w = .ok (.enter 55 args) w := by kernel_rfl
theorem cf_Not (args : Array Value) (w : World) : (callFunc 57 args).run Try.prog w = .ok (.enter 57 args) w := by kernel_rfl
theorem cf_Cof (args : Array Value) (w : World) : (callFunc 56 args).run Try.prog w = .ok (.enter 56 args) w := by kernel_rfl

theorem i_Var1 (i k : Nat) (g : Nat) (w : World) (_hi : i ≤ 15) (hk : k ≤ 4) (hc : w.cell? ⟨g, 0, none⟩ = some (.int .i64 k)) :
  Calls Try.prog 55 #[.int .i64 i, .pointer (some ⟨g, 0, none⟩)] w fun e w' => e = .returned (.bool (i.testBit k)) ∧ Below w.heap.size w w' := by
 have hm : min k 64 = k := by omega
 go_enter Try.func55, Try.ntmps55
 go_wp2
 go_ret
 exact ⟨ret_bool (bitTest i k), bel_⟩

theorem i_Not1 (n b : Int) (i : Nat) (g : Nat) (w : World) (_hg : g < w.heap.size) (hc : w.cell? ⟨g, 0, none⟩ = some (.int .i64 n)) (hd : w.cell? ⟨g, 1, none⟩ = some (.int .i64 b)) :
  Calls Try.prog 57 #[.int .i64 i, .pointer (some ⟨g, 0, none⟩)] w fun e w' => e = .returned (.bool (!tEv n b i)) ∧ Below w.heap.size w w' := by
 go_enter Try.func57, Try.ntmps57
 go_wp2_with fail
 refine (i_TableEval _ _ _ _).mono ?_
 rintro e w1 ⟨rfl, hb1⟩
 go_wp2_with fail
 go_ret
 exact ⟨rfl, bel_⟩

def tNot (n b : Int) : Int × Int := if tOk n b then (n, full n - b) else (0, 0)

/-- what tableOf makes of the complement -/
theorem tEv_bit {n : Int} {b : Nat} (h : tOk n b = true) {i : Nat} (hi : i < 2 ^ n.toNat) : tEv n b i = b.testBit i := by
 have h1 : inR i 0 (top n) = true := inR_iff.2 (by
  have := pow_nat n
  simp only [top]
  omega)
 simp [tEv, h, h1]
theorem full_nat {n : Int} (h : inR n 0 4 = true) : full n = ((2 ^ 2 ^ n.toNat - 1 : Nat) : Int) := by
 rcases five h with rfl | rfl | rfl | rfl | rfl <;> rfl
theorem tNot_tab {n : Int} {b : Nat} (h : tOk n b = true) : tNot n b = (n, ((Tb.tab (fun i => !tEv n b i) (2 ^ n.toNat) : Nat) : Int)) := by
 obtain ⟨b', hb, hlt, _, hn⟩ := tOk_nat h
 obtain rfl : b = b' := by omega
 rw [tNot, if_pos h]
 congr 1
 rw [Tb.tab_congr (g := fun i => !b.testBit i) (fun i hi => by rw [tEv_bit h hi]), Tb.tab_not hlt, full_nat hn]
 omega

set_option maxHeartbeats 4000000 in
theorem i_TableNot (n b : Int) (w : World) : Calls Try.prog 24 #[.agg #[.int .i64 n, .int .i64 b]] w fun e w' =>
   e = .returned (.agg #[.int .i64 (tNot n b).1, .int .i64 (tNot n b).2]) ∧ Below w.heap.size w w' := by
 by_cases hk : tOk n b = true
 ·obtain ⟨b', rfl, hb1, hb2, hn⟩ := tOk_nat hk
  have He := Lib.hid (tNot_tab hk)
  go_enter Try.func24, Try.ntmps24
  go_wp2_with fail
  refine (i_TableOk _ _ _).mono ?_
  rintro e w1 ⟨rfl, hb1⟩
  have z1 := hb1.size
  try simp at z1
  (try have y1_0 : w.heap.size < w1.heap.size := (by omega))
  have q1_0 := fun o => (bcell hb1).1 (w.heap.size) o (by (try simp) <;> (try omega))
  have p1_0 := fun o => (bcell hb1).2 (w.heap.size) o (by (try simp) <;> (try omega))
  (try have y1_1 : w.heap.size + 1 < w1.heap.size := (by omega))
  have q1_1 := fun o => (bcell hb1).1 (w.heap.size + 1) o (by (try simp) <;> (try omega))
  have p1_1 := fun o => (bcell hb1).2 (w.heap.size + 1) o (by (try simp) <;> (try omega))
  go_wp2_with fail
  refine (i_tableOf n hn 57 _ (fun i => !tEv n b' i) _ cf_Not (fun i W hi hW => ?_)).mono ?_
  ·have s0 := hW.size
   have k0 := hW.cell (p := ⟨w.heap.size, 0, none⟩) (by (try simp) <;> (try omega))
   have k1 := hW.cell (p := ⟨w.heap.size, 1, none⟩) (by (try simp) <;> (try omega))
   refine (i_Not1 n b' i w.heap.size W (by (try simp at s0) <;> (try omega)) ?_ ?_)
   ·rw [k0]; simp [go_sem, q1_0]
   ·rw [k1]; simp [go_sem, q1_0]
  ·rintro e w2 ⟨rfl, hb2⟩
   have z2 := hb2.size
   try simp at z2
   (try have y2_0 : w.heap.size < w2.heap.size := (by omega))
   have q2_0 := fun o => (bcell hb2).1 (w.heap.size) o (by (try simp) <;> (try omega))
   have p2_0 := fun o => (bcell hb2).2 (w.heap.size) o (by (try simp) <;> (try omega))
   (try have y2_1 : w.heap.size + 1 < w2.heap.size := (by omega))
   have q2_1 := fun o => (bcell hb2).1 (w.heap.size + 1) o (by (try simp) <;> (try omega))
   have p2_1 := fun o => (bcell hb2).2 (w.heap.size + 1) o (by (try simp) <;> (try omega))
   go_wp2_with fail
   exact bodyPost_ret (v := .agg #[.int .i64 n, .int .i64 (Tb.tab (fun i => !tEv n b' i) (2 ^ n.toNat))]) (by simp [results, Try.results24, go_sem, q2_1, q1_1]) rfl ⟨by rw [He.out], bel_⟩
 ·have hk : tOk n b = false := by simpa using hk
  have He := Lib.hid (show tNot n b = (0, 0) by simp [tNot, hk])
  go_enter Try.func24, Try.ntmps24
  go_wp2_with fail
  refine (i_TableOk _ _ _).mono ?_
  rintro e w1 ⟨rfl, hb1⟩
  have z1 := hb1.size
  try simp at z1
  (try have y1_0 : w.heap.size < w1.heap.size := (by omega))
  have q1_0 := fun o => (bcell hb1).1 (w.heap.size) o (by (try simp) <;> (try omega))
  have p1_0 := fun o => (bcell hb1).2 (w.heap.size) o (by (try simp) <;> (try omega))
  (try have y1_1 : w.heap.size + 1 < w1.heap.size := (by omega))
  have q1_1 := fun o => (bcell hb1).1 (w.heap.size + 1) o (by (try simp) <;> (try omega))
  have p1_1 := fun o => (bcell hb1).2 (w.heap.size + 1) o (by (try simp) <;> (try omega))
  go_wp2_with fail
  exact bodyPost_ret (v := .agg #[.int .i64 0, .int .i64 0]) (by simp [results, Try.results24, go_sem, q1_1]) rfl ⟨by rw [He.out], bel_⟩
end Go.Proofs.Ytbkgjgpoohlieaa

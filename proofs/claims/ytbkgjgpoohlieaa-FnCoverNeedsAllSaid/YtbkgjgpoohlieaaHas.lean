/- Contracts: a cube's indexes, a table's value at an index: the program's and the reference's functions. -/
import Derived.Test.YtbkgjgpoohlieaaCubW
namespace Go.Proofs.Ytbkgjgpoohlieaa
open Go.RowKit
attribute [local go_sem] i64_and1

def cHas (n c v i : Int) : Bool := cOk n c v && inR i 0 (top n) && decide (i.toNat &&& c.toNat = v.toNat)

theorem inR_not {n lo hi : Int} (h : inR n lo hi = false) : ¬ (lo ≤ n ∧ n ≤ hi) := fun hc => by
 rw [inR_iff.2 hc] at h; cases h
theorem cOk_nat {n c v : Int} (h : cOk n c v = true) : ∃ c' v' : Nat, c = c' ∧ v = v' ∧ inR n 0 4 = true ∧ c' ≤ 65535 ∧ v' ≤ 65535 := by
 simp only [cOk, Bool.and_eq_true] at h
 have ht := top_le h.1.1.1
 obtain ⟨c', rfl, hc1, _⟩ := nat_of h.1.1.2 (by omega)
 obtain ⟨v', rfl, hv1, _⟩ := nat_of h.1.2 (by omega)
 exact ⟨c', v', rfl, rfl, h.1.1.1, hc1, hv1⟩

set_option maxHeartbeats 4000000 in
theorem i_CubeHas (n c v i : Int) (w : World) :
  Calls Try.prog 45 #[.int .i64 n, .agg #[.int .i64 c, .int .i64 v], .int .i64 i] w fun e w' => e = .returned (.bool (cHas n c v i)) ∧ Below w.heap.size w w' := by
 by_cases hk : cOk n c v = true
 ·obtain ⟨c', v', rfl, rfl, hn, hc1, hv1⟩ := cOk_nat hk
  have hn0 := (inR_iff.1 hn).1
  have hn1 := (inR_iff.1 hn).2
  have ht := top_le hn
  have he : cHas n c' v' i = (inR i 0 (top n) && decide (i.toNat &&& c' = v')) := by simp [cHas, hk]
  have He := Lib.hid he
  obtain ⟨hw1, hw2⟩ := w64_pow hn
  by_cases hi : inR i 0 (top n) = true
  ·obtain ⟨i', rfl, hi1, _⟩ := nat_of hi (by omega)
   have hbit := i64_and_nat i' c' (by omega) (by omega)
   clear ht he hn
   go_enter Try.func45, Try.ntmps45
   go_wp2_with fail
   refine (i_CubeOk _ _ _ _).mono ?_
   rintro e w1 ⟨rfl, hb1⟩
   have z1 := hb1.size
   try simp at z1
   (try have y1_0 : w.heap.size < w1.heap.size := (by omega))
   have q1_0 := fun o => (bcell hb1).1 (w.heap.size) o (by (try simp) <;> (try omega))
   have p1_0 := fun o => (bcell hb1).2 (w.heap.size) o (by (try simp) <;> (try omega))
   go_wp2_with (first | (go_at_call 53; refine (i_inRange _ _ _ _).mono ?_; rintro e w' ⟨rfl, rfl⟩))
   go_ret
   exact ⟨ret_bool (by rw [He.out, hi]; exact castEq _ _), bel_⟩
  ·have hi : inR i 0 (top n) = false := by simpa using hi
   clear ht he hn
   go_enter Try.func45, Try.ntmps45
   go_wp2_with fail
   refine (i_CubeOk _ _ _ _).mono ?_
   rintro e w1 ⟨rfl, hb1⟩
   have z1 := hb1.size
   try simp at z1
   (try have y1_0 : w.heap.size < w1.heap.size := (by omega))
   have q1_0 := fun o => (bcell hb1).1 (w.heap.size) o (by (try simp) <;> (try omega))
   have p1_0 := fun o => (bcell hb1).2 (w.heap.size) o (by (try simp) <;> (try omega))
   go_wp2_with (first | (go_at_call 53; refine (i_inRange _ _ _ _).mono ?_; rintro e w' ⟨rfl, rfl⟩))
   go_ret
   exact ⟨ret_bool (by rw [He.out, hi]; rfl), bel_⟩
 ·have hk : cOk n c v = false := by simpa using hk
  have He := Lib.hid (show cHas n c v i = false by simp [cHas, hk])
  go_enter Try.func45, Try.ntmps45
  go_wp2_with fail
  refine (i_CubeOk _ _ _ _).mono ?_
  rintro e w1 ⟨rfl, hb1⟩
  have z1 := hb1.size
  try simp at z1
  (try have y1_0 : w.heap.size < w1.heap.size := (by omega))
  have q1_0 := fun o => (bcell hb1).1 (w.heap.size) o (by (try simp) <;> (try omega))
  have p1_0 := fun o => (bcell hb1).2 (w.heap.size) o (by (try simp) <;> (try omega))
  go_wp2_with (first | (go_at_call 53; refine (i_inRange _ _ _ _).mono ?_; rintro e w' ⟨rfl, rfl⟩))
  go_ret
  exact ⟨ret_bool (by rw [He.out]), bel_⟩

/-- the value of a table at an index -/
def tEv (n b i : Int) : Bool := tOk n b && inR i 0 (top n) && b.toNat.testBit i.toNat

/-- a valid table, as numbers -/
theorem tOk_nat {n b : Int} (h : tOk n b = true) : ∃ b' : Nat, b = b' ∧ b' < 2 ^ 2 ^ n.toNat ∧ b' < 65536 ∧ inR n 0 4 = true := by
 simp only [tOk, Bool.and_eq_true] at h
 obtain ⟨hn, hb⟩ := h
 have hb' := inR_iff.1 hb
 refine ⟨b.toNat, by omega, ?_, ?_, hn⟩
 all_goals
  rcases five hn with rfl | rfl | rfl | rfl | rfl
  all_goals
   simp [full] at hb' ⊢
   omega
theorem bitTest (b i : Nat) : (((b : Int) / 2 ^ i) % 2 == 1) = b.testBit i := by
 have h := Tb.bit_num b i
 have e : ((b : Int) / 2 ^ i) % 2 = ((b / 2 ^ i % 2 : Nat) : Int) := by
  rw [Int.natCast_emod, Int.natCast_ediv, Int.natCast_pow]; rfl
 rw [e, h]
 cases b.testBit i <;> rfl

set_option maxHeartbeats 4000000 in
theorem i_TableEval (n b i : Int) (w : World) :
  Calls Try.prog 25 #[.agg #[.int .i64 n, .int .i64 b], .int .i64 i] w fun e w' => e = .returned (.bool (tEv n b i)) ∧ Below w.heap.size w w' := by
 by_cases hk : tOk n b = true
 ·obtain ⟨b', rfl, hb1, hb2, hn⟩ := tOk_nat hk
  have hn0 := (inR_iff.1 hn).1
  have hn1 := (inR_iff.1 hn).2
  have ht := top_le hn
  have he : tEv n b' i = (inR i 0 (top n) && b'.testBit i.toNat) := by simp [tEv, hk]
  have He := Lib.hid he
  obtain ⟨hw1, hw2⟩ := w64_pow hn
  by_cases hi : inR i 0 (top n) = true
  ·obtain ⟨i', rfl, hi1, hi2⟩ := nat_of hi (by omega)
   have hi3 : i' ≤ 15 := by omega
   skip
   clear ht he hn hb1 hi1
   go_enter Try.func25, Try.ntmps25
   go_wp2_with fail
   refine (i_TableOk _ _ _).mono ?_
   rintro e w1 ⟨rfl, hb1⟩
   have z1 := hb1.size
   try simp at z1
   (try have y1_0 : w.heap.size < w1.heap.size := (by omega))
   have q1_0 := fun o => (bcell hb1).1 (w.heap.size) o (by (try simp) <;> (try omega))
   have p1_0 := fun o => (bcell hb1).2 (w.heap.size) o (by (try simp) <;> (try omega))
   go_wp2_with (first | (go_at_call 53; refine (i_inRange _ _ _ _).mono ?_; rintro e w' ⟨rfl, rfl⟩))
   go_ret
   exact ⟨ret_bool (by rw [He.out, hi]; exact bitTest _ _), bel_⟩
  ·have hi : inR i 0 (top n) = false := by simpa using hi
   clear ht he hn hb1
   go_enter Try.func25, Try.ntmps25
   go_wp2_with fail
   refine (i_TableOk _ _ _).mono ?_
   rintro e w1 ⟨rfl, hb1⟩
   have z1 := hb1.size
   try simp at z1
   (try have y1_0 : w.heap.size < w1.heap.size := (by omega))
   have q1_0 := fun o => (bcell hb1).1 (w.heap.size) o (by (try simp) <;> (try omega))
   have p1_0 := fun o => (bcell hb1).2 (w.heap.size) o (by (try simp) <;> (try omega))
   go_wp2_with (first | (go_at_call 53; refine (i_inRange _ _ _ _).mono ?_; rintro e w' ⟨rfl, rfl⟩))
   go_ret
   exact ⟨ret_bool (by rw [He.out, hi]; rfl), bel_⟩
 ·have hk : tOk n b = false := by simpa using hk
  have He := Lib.hid (show tEv n b i = false by simp [tEv, hk])
  go_enter Try.func25, Try.ntmps25
  go_wp2_with fail
  refine (i_TableOk _ _ _).mono ?_
  rintro e w1 ⟨rfl, hb1⟩
  have z1 := hb1.size
  try simp at z1
  (try have y1_0 : w.heap.size < w1.heap.size := (by omega))
  have q1_0 := fun o => (bcell hb1).1 (w.heap.size) o (by (try simp) <;> (try omega))
  have p1_0 := fun o => (bcell hb1).2 (w.heap.size) o (by (try simp) <;> (try omega))
  go_wp2_with (first | (go_at_call 53; refine (i_inRange _ _ _ _).mono ?_; rintro e w' ⟨rfl, rfl⟩))
  go_ret
  exact ⟨ret_bool (by rw [He.out]), bel_⟩

set_option maxHeartbeats 4000000 in
theorem s_TableEval (n b i : Int) (w : World) :
  Calls Try.prog 46 #[.agg #[.int .i64 n, .int .i64 b], .int .i64 i] w fun e w' => e = .returned (.bool (tEv n b i)) ∧ Below w.heap.size w w' := by
 by_cases hk : tOk n b = true
 ·obtain ⟨b', rfl, hb1, hb2, hn⟩ := tOk_nat hk
  have hn0 := (inR_iff.1 hn).1
  have hn1 := (inR_iff.1 hn).2
  have ht := top_le hn
  have he : tEv n b' i = (inR i 0 (top n) && b'.testBit i.toNat) := by simp [tEv, hk]
  have He := Lib.hid he
  obtain ⟨hw1, hw2⟩ := w64_pow hn
  by_cases hi : inR i 0 (top n) = true
  ·obtain ⟨i', rfl, hi1, hi2⟩ := nat_of hi (by omega)
   have hi3 : i' ≤ 15 := by omega
   have hlt : decide ((i' : Int) < 2 ^ n.toNat) = true := by simp only [top] at hi2; simp only [decide_eq_true_eq]; omega
   clear ht he hn hb1 hi1
   go_enter Try.func46, Try.ntmps46
   go_wp2_with fail
   refine (s_TableOk _ _ _).mono ?_
   rintro e w1 ⟨rfl, hb1⟩
   have z1 := hb1.size
   try simp at z1
   (try have y1_0 : w.heap.size < w1.heap.size := (by omega))
   have q1_0 := fun o => (bcell hb1).1 (w.heap.size) o (by (try simp) <;> (try omega))
   have p1_0 := fun o => (bcell hb1).2 (w.heap.size) o (by (try simp) <;> (try omega))
   go_wp2_with (first | (go_at_call 77; refine (s_l01In _ _ _ _).mono ?_; rintro e w' ⟨rfl, rfl⟩))
   go_ret
   exact ⟨ret_bool (by rw [He.out, hi]; exact bitTest _ _), bel_⟩
  ·have hi : inR i 0 (top n) = false := by simpa using hi
   clear ht he hn hb1
   go_enter Try.func46, Try.ntmps46
   go_wp2_with fail
   refine (s_TableOk _ _ _).mono ?_
   rintro e w1 ⟨rfl, hb1⟩
   have z1 := hb1.size
   try simp at z1
   (try have y1_0 : w.heap.size < w1.heap.size := (by omega))
   have q1_0 := fun o => (bcell hb1).1 (w.heap.size) o (by (try simp) <;> (try omega))
   have p1_0 := fun o => (bcell hb1).2 (w.heap.size) o (by (try simp) <;> (try omega))
   go_wp2_with fail
   all_goals go_ret
   all_goals first | exact ⟨ret_bool (by rw [He.out, hi]; rfl), bel_⟩ | (exfalso; have hq := inR_not hi; simp only [top] at hq; omega)
 ·have hk : tOk n b = false := by simpa using hk
  have He := Lib.hid (show tEv n b i = false by simp [tEv, hk])
  go_enter Try.func46, Try.ntmps46
  go_wp2_with fail
  refine (s_TableOk _ _ _).mono ?_
  rintro e w1 ⟨rfl, hb1⟩
  have z1 := hb1.size
  try simp at z1
  (try have y1_0 : w.heap.size < w1.heap.size := (by omega))
  have q1_0 := fun o => (bcell hb1).1 (w.heap.size) o (by (try simp) <;> (try omega))
  have p1_0 := fun o => (bcell hb1).2 (w.heap.size) o (by (try simp) <;> (try omega))
  go_wp2_with (first | (go_at_call 77; refine (s_l01In _ _ _ _).mono ?_; rintro e w' ⟨rfl, rfl⟩))
  go_ret
  exact ⟨ret_bool (by rw [He.out]), bel_⟩

end Go.Proofs.Ytbkgjgpoohlieaa

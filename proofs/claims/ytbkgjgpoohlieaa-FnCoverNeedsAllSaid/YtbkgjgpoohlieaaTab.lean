/- Plain bits: a table's bits as a number; no program in sight. -/
namespace Go.Proofs.Ytbkgjgpoohlieaa.Tb

def tab (f : Nat → Bool) : Nat → Nat
 | 0 => 0
 | k + 1 => tab f k + if f k then 2 ^ k else 0

theorem tab_lt (f : Nat → Bool) (k : Nat) : tab f k < 2 ^ k := by
 induction k with
 | zero => simp [tab]
 | succ k ih => rw [tab, Nat.pow_succ]; split <;> omega

theorem pow_mono {a b : Nat} (h : a ≤ b) : 2 ^ a ≤ 2 ^ b := Nat.pow_le_pow_right (by omega) h

theorem bit_big {x k i : Nat} (h : x < 2 ^ k) (hi : k ≤ i) : x.testBit i = false :=
 Nat.testBit_lt_two_pow (Nat.lt_of_lt_of_le h (pow_mono hi))

theorem tab_bit (f : Nat → Bool) (k i : Nat) : (tab f k).testBit i = (decide (i < k) && f i) := by
 induction k with
 | zero => simp [tab]
 | succ k ih =>
  have hlt := tab_lt f k
  rw [tab]
  by_cases hf : f k = true
  ·rw [if_pos hf, Nat.add_comm]
   rcases Nat.lt_trichotomy i k with h | h | h
   ·rw [Nat.testBit_two_pow_add_gt h, ih]
    simp [h, Nat.lt_succ_of_lt h]
   ·subst h
    rw [Nat.testBit_two_pow_add_eq, ih]
    simp [hf]
   ·rw [bit_big (k := k + 1) (by rw [Nat.pow_succ]; omega) (by omega)]
    simp; omega
  ·rw [if_neg hf, Nat.add_zero, ih]
   rcases Nat.lt_trichotomy i k with h | h | h
   ·simp [h, Nat.lt_succ_of_lt h]
   ·subst h; simpa using hf
   ·have h1 : ¬ i < k := by omega
    have h2 : ¬ i < k + 1 := by omega
    simp [h1, h2]

theorem tab_congr {f g : Nat → Bool} {k : Nat} (h : ∀ i, i < k → f i = g i) : tab f k = tab g k := by
 apply Nat.eq_of_testBit_eq
 intro i
 rw [tab_bit, tab_bit]
 by_cases hi : i < k
 ·simp [hi, h i hi]
 ·simp [hi]

theorem tab_or (f : Nat → Bool) (k : Nat) : tab f k ||| 2 ^ k = tab f k + 2 ^ k := by
 apply Nat.eq_of_testBit_eq
 intro i
 have hlt := tab_lt f k
 rw [Nat.testBit_or, Nat.testBit_two_pow, Nat.add_comm (tab f k)]
 rcases Nat.lt_trichotomy i k with h | h | h
 ·rw [Nat.testBit_two_pow_add_gt h]
  have : ¬ k = i := by omega
  simp [this]
 ·subst h
  rw [Nat.testBit_two_pow_add_eq, bit_big hlt (Nat.le_refl _)]
  simp
 ·rw [bit_big hlt (Nat.le_of_lt h), bit_big (k := k + 1) (by rw [Nat.pow_succ]; omega) (by omega)]
  have : ¬ k = i := by omega
  simp [this]

theorem eq_tab {b k : Nat} (h : b < 2 ^ k) : tab b.testBit k = b := by
 apply Nat.eq_of_testBit_eq
 intro i
 rw [tab_bit]
 by_cases hi : i < k
 ·simp [hi]
 ·rw [bit_big h (by omega)]; simp

theorem tab_not {b k : Nat} (h : b < 2 ^ k) : tab (fun i => !b.testBit i) k = 2 ^ k - 1 - b := by
 apply Nat.eq_of_testBit_eq
 intro i
 rw [tab_bit, show 2 ^ k - 1 - b = 2 ^ k - (b + 1) from by omega, Nat.testBit_two_pow_sub_succ h]

/-- the i-th bit, as the code asks for it -/
theorem bit_num (b i : Nat) : b / 2 ^ i % 2 = if b.testBit i then 1 else 0 := by
 rw [Nat.testBit_eq_decide_div_mod_eq]
 have := Nat.mod_two_eq_zero_or_one (b / 2 ^ i)
 rcases this with h | h <;> simp [h]

theorem or_disj {a b : Nat} (h : a &&& b = 0) : a ||| b = a + b := by
 have hlt : a + b < 2 ^ (a + b) := Nat.lt_two_pow_self
 have ha : a % 2 ^ (a + b) = a := Nat.mod_eq_of_lt (by omega)
 have hb : b % 2 ^ (a + b) = b := Nat.mod_eq_of_lt (by omega)
 have h1 := BitVec.add_eq_or_of_and_eq_zero (BitVec.ofNat (a + b) a) (BitVec.ofNat (a + b) b) (by
  apply BitVec.eq_of_toNat_eq
  rw [BitVec.toNat_and, BitVec.toNat_ofNat, BitVec.toNat_ofNat, ha, hb, h]
  simp)
 have h2 := congrArg BitVec.toNat h1
 rw [BitVec.toNat_add, BitVec.toNat_or, BitVec.toNat_ofNat, BitVec.toNat_ofNat, ha, hb, Nat.mod_eq_of_lt hlt] at h2
 exact h2.symm

/-- a without the bits of b -/
def andn (a b : Nat) : Nat := a ^^^ (a &&& b)
theorem andn_bit (a b i : Nat) : (andn a b).testBit i = (a.testBit i && !b.testBit i) := by
 unfold andn
 rw [Nat.testBit_xor, Nat.testBit_and]
 cases a.testBit i <;> cases b.testBit i <;> rfl
theorem andn_zero {a b : Nat} : andn a b = 0 ↔ ∀ i, a.testBit i = true → b.testBit i = true := by
 constructor
 ·intro h i ha
  have := andn_bit a b i
  rw [h] at this
  simp [ha] at this
  exact this
 ·intro h
  apply Nat.eq_of_testBit_eq
  intro i
  rw [andn_bit, Nat.zero_testBit]
  cases ha : a.testBit i
  ·rfl
  ·simp [h i ha]
theorem andn_le (a b : Nat) : andn a b ≤ a := by
 have : andn a b &&& a = andn a b := by
  apply Nat.eq_of_testBit_eq
  intro i
  rw [Nat.testBit_and, andn_bit]
  cases a.testBit i <;> simp
 rw [← this]; exact Nat.and_le_right
theorem and_le_of_sub {a b : Nat} (h : andn a b = 0) : a ≤ b := by
 have : a &&& b = a := by
  apply Nat.eq_of_testBit_eq
  intro i
  rw [Nat.testBit_and]
  have := andn_zero.1 h i
  cases ha : a.testBit i
  ·rfl
  ·simp [this ha]
 rw [← this]; exact Nat.and_le_right

/-- index i with bit k set to v -/
def setb (k : Nat) (v : Bool) (i : Nat) : Nat := if v then andn i (2 ^ k) + 2 ^ k else andn i (2 ^ k)
theorem andn_pow_bit (i k j : Nat) : (andn i (2 ^ k)).testBit j = (i.testBit j && !decide (k = j)) := by
 rw [andn_bit, Nat.testBit_two_pow]
theorem andn_pow_or (i k : Nat) : andn i (2 ^ k) ||| 2 ^ k = andn i (2 ^ k) + 2 ^ k := by
 have h : andn i (2 ^ k) &&& 2 ^ k = 0 := by
  apply Nat.eq_of_testBit_eq
  intro j
  rw [Nat.testBit_and, andn_pow_bit, Nat.testBit_two_pow, Nat.zero_testBit]
  by_cases hk : k = j <;> simp [hk]
 exact or_disj h
theorem setb_bit (k : Nat) (v : Bool) (i j : Nat) : (setb k v i).testBit j = if k = j then v else i.testBit j := by
 unfold setb
 cases v
 ·rw [if_neg (by simp), andn_pow_bit]
  by_cases hk : k = j <;> simp [hk]
 ·rw [if_pos rfl, ← andn_pow_or, Nat.testBit_or, andn_pow_bit, Nat.testBit_two_pow]
  by_cases hk : k = j <;> simp [hk]
theorem setb_lt {k n i : Nat} {v : Bool} (hk : k < n) (hi : i < 2 ^ n) : setb k v i < 2 ^ n := by
 apply Nat.lt_pow_two_of_testBit
 intro j hj
 rw [setb_bit, if_neg (by omega), bit_big hi hj]

/-- a cofactor's bits -/
def cof (n b k : Nat) (v : Bool) : Nat := tab (fun i => b.testBit (setb k v i)) (2 ^ n)
end Go.Proofs.Ytbkgjgpoohlieaa.Tb

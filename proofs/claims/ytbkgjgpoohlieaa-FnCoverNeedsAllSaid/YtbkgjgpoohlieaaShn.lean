/- Plain tables: Shannon's expansion; the operations yield valid tables. -/
import Derived.Test.YtbkgjgpoohlieaaTabG
namespace Go.Proofs.Ytbkgjgpoohlieaa
open Go.RowKit

theorem tOk_mk {n : Int} {b : Nat} (hn : inR n 0 4 = true) (hb : b < 2 ^ 2 ^ n.toNat) : tOk n b = true := by
 simp only [tOk, hn, Bool.true_and]
 rw [full_nat hn]
 apply inR_iff.2
 omega
theorem tOk_split {n b : Int} (h : tOk n b = true) : inR n 0 4 = true ∧ ∃ b' : Nat, b = b' ∧ b' < 2 ^ 2 ^ n.toNat := by
 obtain ⟨b', e, h1, _, h2⟩ := tOk_nat h
 exact ⟨h2, b', e, h1⟩
theorem tOk_zero {n : Int} (hn : inR n 0 4 = true) : tOk n 0 = true := tOk_mk (b := 0) hn (Nat.two_pow_pos _)
theorem tVar_eq {n k : Int} (hn : inR n 0 4 = true) (h0 : 0 ≤ k) (h1 : k < n) : tVar n k = (n, ((Tb.tab (fun i => i.testBit k.toNat) (2 ^ n.toNat) : Nat) : Int), true) := by simp [tVar, hn, h0, h1]
theorem tVar_ok {n k : Int} (hn : inR n 0 4 = true) (h0 : 0 ≤ k) (h1 : k < n) : ∃ x, tVar n k = (n, x, true) ∧ tOk n x = true :=
 ⟨_, tVar_eq hn h0 h1, tOk_mk hn (Tb.tab_lt _ _)⟩
theorem tAnd_eq {n : Int} {b d : Nat} (hb : tOk n b = true) (hd : tOk n d = true) : tAnd n b n d = (n, ((b &&& d : Nat) : Int)) := by simp [tAnd, hb, hd]
theorem tXor_eq {n : Int} {b d : Nat} (hb : tOk n b = true) (hd : tOk n d = true) : tXor n b n d = (n, ((b ^^^ d : Nat) : Int)) := by simp [tXor, hb, hd]
theorem tAnd_ok {n b d : Int} (hb : tOk n b = true) (hd : tOk n d = true) : ∃ x, tAnd n b n d = (n, x) ∧ tOk n x = true := by
 obtain ⟨hn, b', rfl, h1⟩ := tOk_split hb
 obtain ⟨_, d', rfl, h2⟩ := tOk_split hd
 exact ⟨_, tAnd_eq hb hd, tOk_mk hn (Nat.and_lt_two_pow _ h2)⟩
theorem tXor_ok {n b d : Int} (hb : tOk n b = true) (hd : tOk n d = true) : ∃ x, tXor n b n d = (n, x) ∧ tOk n x = true := by
 obtain ⟨hn, b', rfl, h1⟩ := tOk_split hb
 obtain ⟨_, d', rfl, h2⟩ := tOk_split hd
 exact ⟨_, tXor_eq hb hd, tOk_mk hn (Nat.xor_lt_two_pow h1 h2)⟩
theorem tNot_eq {n : Int} {b : Nat} (h : tOk n b = true) : tNot n b = (n, ((Tb.tab (fun i => !b.testBit i) (2 ^ n.toNat) : Nat) : Int)) := by
 rw [tNot_tab h]
 congr 2
 exact Tb.tab_congr fun i hi => by rw [tEv_bit h hi]
theorem tNot_ok {n b : Int} (hb : tOk n b = true) : ∃ x, tNot n b = (n, x) ∧ tOk n x = true := by
 obtain ⟨hn, b', rfl, h1⟩ := tOk_split hb
 exact ⟨_, tNot_eq hb, tOk_mk hn (Tb.tab_lt _ _)⟩
theorem tNot_not {n b : Int} (hb : tOk n b = true) : tNot (tNot n b).1 (tNot n b).2 = (n, b) := by
 obtain ⟨hn, b', rfl, h1⟩ := tOk_split hb
 have h2 : tOk n ((Tb.tab (fun i => !b'.testBit i) (2 ^ n.toNat) : Nat) : Int) = true := tOk_mk hn (Tb.tab_lt _ _)
 rw [tNot_eq hb]
 simp only
 rw [tNot_eq h2]
 congr 2
 rw [← Tb.eq_tab h1]
 apply Tb.tab_congr
 intro i hi
 simp [Tb.tab_bit, hi, Tb.eq_tab h1]

theorem Tb.setb_self {k j : Nat} {v : Bool} (h : j.testBit k = v) : Tb.setb k v j = j := by
 apply Nat.eq_of_testBit_eq
 intro i
 rw [Tb.setb_bit]
 split
 ·rename_i e; rw [← e, h]
 ·rfl
theorem Tb.setb_setb {k j : Nat} {v u : Bool} : Tb.setb k v (Tb.setb k u j) = Tb.setb k v j := by
 apply Nat.eq_of_testBit_eq
 intro i
 rw [Tb.setb_bit, Tb.setb_bit, Tb.setb_bit]
 split <;> rfl
theorem Tb.cof_bit {n b k j : Nat} {v : Bool} (hj : j < 2 ^ n) : (Tb.cof n b k v).testBit j = b.testBit (Tb.setb k v j) := by
 rw [Tb.cof, Tb.tab_bit]; simp [hj]
theorem Tb.cof_cof {n b k : Nat} {v u : Bool} (hk : k < n) : Tb.cof n (Tb.cof n b k v) k u = Tb.cof n b k v := by
 rw [Tb.cof]
 conv => rhs; rw [Tb.cof]
 apply Tb.tab_congr
 intro i hi
 rw [Tb.cof_bit (Tb.setb_lt hk hi), Tb.setb_setb]

theorem tCof_eq {n k : Int} {b : Nat} {v : Bool} (h : tOk n b = true) (h0 : 0 ≤ k) (h1 : k < n) : tCof n b k v = (n, ((Tb.cof n.toNat b k.toNat v : Nat) : Int)) := by
 have : inR k 0 (n - 1) = true := inR_iff.2 (by omega)
 simp [tCof, h, this]
theorem cof_ok {n k : Int} {b : Nat} {v : Bool} (h : tOk n b = true) : tOk n ((Tb.cof n.toNat b k.toNat v : Nat) : Int) = true :=
 tOk_mk (tOk_split h).1 (Tb.tab_lt _ _)
theorem tCof_ok {n b k : Int} {v : Bool} (h : tOk n b = true) (h0 : 0 ≤ k) (h1 : k < n) : ∃ x, tCof n b k v = (n, x) ∧ tOk n x = true := by
 obtain ⟨hn, b', rfl, _⟩ := tOk_split h
 exact ⟨_, tCof_eq h h0 h1, cof_ok h⟩
/-- a cofactor does not depend on its input -/
theorem tDep_cof {n b k x : Int} {v : Bool} (h : tOk n b = true) (h0 : 0 ≤ k) (h1 : k < n) (hx : tCof n b k v = (n, x)) : tDep n x k = false := by
 obtain ⟨hn, b', rfl, _⟩ := tOk_split h
 rw [tCof_eq h h0 h1] at hx
 injection hx with _ hx
 subst hx
 have h2 := cof_ok (k := k) (v := v) h
 have h3 : inR k 0 (n - 1) = true := inR_iff.2 (by omega)
 rw [tDep_of h2 h3, tCof_eq h2 h0 h1, tCof_eq h2 h0 h1]
 have hk : k.toNat < n.toNat := by omega
 simp [Tb.cof_cof hk]
/-- Shannon's expansion -/
theorem shannon {n b k v a c p q r : Int} (h : tOk n b = true) (h0 : 0 ≤ k) (h1 : k < n) (hv : tVar n k = (n, v, true)) (ha : tCof n b k false = (n, a)) (hc : tCof n b k true = (n, c))
  (hp : tAnd n v n c = (n, p)) (hq : tNot n v = (n, q)) (hr : tAnd n q n a = (n, r)) : tXor n p n r = (n, b) := by
 obtain ⟨hn, b', rfl, hb⟩ := tOk_split h
 rw [tVar_eq hn h0 h1] at hv
 rw [tCof_eq h h0 h1] at ha hc
 injection hv with _ hv; injection hv with hv _
 injection ha with _ ha; injection hc with _ hc
 subst hv ha hc
 have ov : tOk n ((Tb.tab (fun i => i.testBit k.toNat) (2 ^ n.toNat) : Nat) : Int) = true := tOk_mk hn (Tb.tab_lt _ _)
 have oc := fun v => cof_ok (k := k) (v := v) h
 rw [tNot_eq ov] at hq
 injection hq with _ hq
 subst hq
 have oq : tOk n ((Tb.tab (fun i => !(Tb.tab (fun i => i.testBit k.toNat) (2 ^ n.toNat)).testBit i) (2 ^ n.toNat) : Nat) : Int) = true := tOk_mk hn (Tb.tab_lt _ _)
 rw [tAnd_eq ov (oc true)] at hp
 rw [tAnd_eq oq (oc false)] at hr
 injection hp with _ hp; injection hr with _ hr
 subst hp hr
 have o1 : tOk n ((Tb.tab (fun i => i.testBit k.toNat) (2 ^ n.toNat) &&& Tb.cof n.toNat b' k.toNat true : Nat) : Int) = true := tOk_mk hn (Nat.and_lt_two_pow _ (Tb.tab_lt _ _))
 have o2 : tOk n ((Tb.tab (fun i => !(Tb.tab (fun i => i.testBit k.toNat) (2 ^ n.toNat)).testBit i) (2 ^ n.toNat) &&& Tb.cof n.toNat b' k.toNat false : Nat) : Int) = true := tOk_mk hn (Nat.and_lt_two_pow _ (Tb.tab_lt _ _))
 rw [tXor_eq o1 o2]
 congr 2
 apply Nat.eq_of_testBit_eq
 intro j
 rw [Nat.testBit_xor, Nat.testBit_and, Nat.testBit_and, Tb.tab_bit, Tb.tab_bit]
 by_cases hj : j < 2 ^ n.toNat
 ·rw [Tb.cof_bit hj, Tb.cof_bit hj, Tb.tab_bit]
  cases hjk : j.testBit k.toNat
  ·rw [Tb.setb_self hjk]; simp [hj]
  ·rw [Tb.setb_self hjk]; simp [hj]
 ·simp only [hj, decide_false, Bool.false_and, Bool.xor_self]
  exact (Tb.bit_big hb (by omega)).symm
theorem tEv_nat {n : Int} {b i : Nat} (h : tOk n b = true) (hi : i < 2 ^ n.toNat) : tEv n b i = b.testBit i := tEv_bit h hi
/-- at each index a table has the value of one of its cofactors -/
theorem ev_cof {n b k a c i : Int} (h : tOk n b = true) (h0 : 0 ≤ k) (h1 : k < n) (hi0 : 0 ≤ i) (hi : i < 2 ^ n.toNat) (ha : tCof n b k false = (n, a)) (hc : tCof n b k true = (n, c)) : tEv n b i = tEv n a i ∨ tEv n b i = tEv n c i := by
 obtain ⟨hn, b', rfl, hb⟩ := tOk_split h
 obtain ⟨i', rfl⟩ := Int.eq_ofNat_of_zero_le hi0
 rw [pow_nat] at hi
 have hi' : i' < 2 ^ n.toNat := by omega
 rw [tCof_eq h h0 h1] at ha hc
 injection ha with _ ha; injection hc with _ hc
 subst ha hc
 rw [tEv_bit h hi', tEv_bit (cof_ok h) hi', tEv_bit (cof_ok h) hi', Tb.cof_bit hi', Tb.cof_bit hi']
 cases hjk : i'.testBit k.toNat
 ·left; rw [Tb.setb_self hjk]
 ·right; rw [Tb.setb_self hjk]
theorem ev_num {n b i : Int} (h : tOk n b = true) (hi0 : 0 ≤ i) (hi : i < 2 ^ n.toNat) : tEv n b i = (b / 2 ^ i.toNat % 2 == 1) := by
 obtain ⟨hn, b', rfl, hb⟩ := tOk_split h
 obtain ⟨i', rfl⟩ := Int.eq_ofNat_of_zero_le hi0
 rw [pow_nat] at hi
 rw [tEv_bit h (by omega)]
 exact (bitTest b' i').symm
end Go.Proofs.Ytbkgjgpoohlieaa

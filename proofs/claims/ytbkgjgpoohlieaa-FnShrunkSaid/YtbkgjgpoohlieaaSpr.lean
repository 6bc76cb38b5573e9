/- Plain: the bits of an index spread to the places of a list; no program in sight. -/
import Derived.Test.YtbkgjgpoohlieaaTab
namespace Go.Proofs.Ytbkgjgpoohlieaa.Tb

def spr (l : List Nat) (i : Nat) : Nat → Nat
  | 0 => 0
  | m + 1 => spr l i m + if i.testBit m then 2 ^ l.getD m 0 else 0

theorem getD_el {l : List Nat} {k : Nat} (h : k < l.length) : l.getD k 0 = l[k] := by
  rw [List.getD, List.getElem?_eq_getElem h]; rfl
theorem asc_lt {l : List Nat} (h : l.Pairwise (· < ·)) {a b : Nat} (hab : a < b) (hb : b < l.length) : l.getD a 0 < l.getD b 0 := by
  have := List.pairwise_iff_getElem.1 h a b (by omega) hb hab
  rw [getD_el (by omega), getD_el hb]
  exact this

theorem spr_lt {l : List Nat} (h : l.Pairwise (· < ·)) (i : Nat) : ∀ (m : Nat), m < l.length → spr l i m < 2 ^ l.getD m 0
  | 0, _ => by simp [spr]; exact Nat.two_pow_pos _
  | m + 1, hm => by
    have ih := spr_lt h i m (by omega)
    have hlt := asc_lt h (show m < m + 1 by omega) hm
    have hp : 2 ^ (l.getD m 0 + 1) ≤ 2 ^ l.getD (m + 1) 0 := pow_mono hlt
    rw [Nat.pow_succ] at hp
    rw [spr]
    split <;> omega
theorem spr_or {l : List Nat} (h : l.Pairwise (· < ·)) (i m : Nat) (hm : m < l.length) : spr l i m ||| (if i.testBit m then 2 ^ l.getD m 0 else 0) = spr l i (m + 1) := by
  have hlt := spr_lt h i m hm
  rw [spr]
  split
  · refine or_disj ?_
    apply Nat.eq_of_testBit_eq
    intro j
    rw [Nat.testBit_and, Nat.testBit_two_pow, Nat.zero_testBit]
    by_cases hj : l.getD m 0 = j
    · subst hj
      rw [bit_big hlt (Nat.le_refl _)]; simp
    · rw [decide_eq_false hj, Bool.and_false]
  · simp
theorem spr_bound {l : List Nat} (h : l.Pairwise (· < ·)) {n : Nat} (hn : ∀ k ∈ l, k < n) (i : Nat) : ∀ (m : Nat), m ≤ l.length → spr l i m < 2 ^ n
  | 0, _ => by simp [spr]; exact Nat.two_pow_pos _
  | m + 1, hm => by
    have ih := spr_lt h i m (by omega)
    have hk : l.getD m 0 < n := hn _ (by rw [getD_el (by omega)]; exact List.getElem_mem _)
    have hp : 2 ^ (l.getD m 0 + 1) ≤ 2 ^ n := pow_mono hk
    rw [Nat.pow_succ] at hp
    rw [spr]
    split <;> omega
end Go.Proofs.Ytbkgjgpoohlieaa.Tb

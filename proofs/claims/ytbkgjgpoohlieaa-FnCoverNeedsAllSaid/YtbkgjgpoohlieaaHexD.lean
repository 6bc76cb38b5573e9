/- Contracts: hexadecimal texts read back: both functions. -/
import Derived.Test.YtbkgjgpoohlieaaHex
namespace Go.Proofs.Ytbkgjgpoohlieaa
open Go.RowKit

/-- a figure's value, -1 if it is none -/
def hv (x : Nat) : Int := if 48 ≤ x ∧ x ≤ 57 then (x : Int) - 48 else if 97 ≤ x ∧ x ≤ 102 then (x : Int) - 87 else -1
theorem hv_bd (x : Nat) : -1 ≤ hv x ∧ hv x ≤ 15 := by
 unfold hv; split
 ·omega
 ·split <;> omega

/-- the j-th pair -/
def pr (l : List UInt8) (j : Nat) : Int × Int := (hv (l.getD (2 * j) 0).toNat, hv (l.getD (2 * j + 1) 0).toNat)
def decOk (l : List UInt8) (k : Nat) : Bool := (List.range k).all fun j => decide (0 ≤ (pr l j).1) && decide (0 ≤ (pr l j).2)
def dec (l : List UInt8) (k : Nat) : List UInt8 := (List.range k).map fun j => UInt8.ofNat (16 * (pr l j).1 + (pr l j).2).toNat
theorem decOk_succ (l : List UInt8) (k : Nat) : decOk l (k + 1) = (decOk l k && (decide (0 ≤ (pr l k).1) && decide (0 ≤ (pr l k).2))) := by
 simp [decOk, List.range_succ, List.all_append]
theorem dec_succ (l : List UInt8) (k : Nat) : dec l (k + 1) = dec l k ++ [UInt8.ofNat (16 * (pr l k).1 + (pr l k).2).toNat] := by
 simp [dec, List.range_succ]
theorem dec_len (l : List UInt8) (k : Nat) : (dec l k).length = k := by simp [dec]
theorem decOk_false {l : List UInt8} {k n : Nat} (hkn : k < n) (h : ¬ (0 ≤ (pr l k).1 ∧ 0 ≤ (pr l k).2)) : decOk l n = false := by
 cases hd : decOk l n
 ·rfl
 ·have := List.all_eq_true.1 hd k (List.mem_range.2 hkn)
  simp only [Bool.and_eq_true, decide_eq_true_eq] at this
  exact absurd this h
def decB (s : ByteArray) : Bool := decide (s.size % 2 = 0) && decide (s.size ≤ 40000) && decOk s.data.toList (s.size / 2)
def DecPost (s : ByteArray) (w : World) (e : Ending) (w' : World) : Prop :=
 e = .returned (if decB s then .tuple #[.string ⟨(dec s.data.toList (s.size / 2)).toArray⟩, .bool true] else .tuple #[.string ⟨#[]⟩, .bool false]) ∧ Below w.heap.size w w'

theorem byte_at (s : ByteArray) (k : Nat) (h : k < s.size) : (s.data.toList.getD k 0) = s[k] := by
 have : k < s.data.toList.length := by simpa using h
 simp [List.getD, List.getElem?_eq_getElem this]; rfl

theorem idx_at (s : ByteArray) (j : Nat) (h : j < s.size) (i : Int) (hi : i = (j : Int)) (W : World) : (Instr.index 9 (.string s) (.int .i64 i)).run Try.prog W = .ok (.int .u8 (s[j].toNat : Int)) W := by
 subst hi
 have h1 : (0 : Int) ≤ (j : Int) := by omega
 have h2 : (j : Int) < (s.size : Int) := by omega
 simp [go_sem, h1, h2]
theorem byte_of {p q : Int} (hp : 0 ≤ p) (hp1 : p ≤ 15) (hq : 0 ≤ q) (hq1 : q ≤ 15) : ((UInt8.ofNat (16 * p + q).toNat).toNat : Int) = 16 * p + q := by
 rw [UInt8.toNat_ofNat']; omega

end Go.Proofs.Ytbkgjgpoohlieaa

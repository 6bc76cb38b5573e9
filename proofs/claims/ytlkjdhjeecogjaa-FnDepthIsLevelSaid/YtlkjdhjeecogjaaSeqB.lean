/- Contracts: sequential elements in the laws: the size, equality of equals. -/
import Derived.Test.YtlkjdhjeecogjaaSeqA
namespace Go.Proofs.Ytlkjdhjeecogjaa
open Go.RowKit

/-- the answer of a size that is reckoned down -/
def leftOf (left n : Nat) : Int := if n ≤ left then ((left - n : Nat) : Int) else -1
theorem leftOf_yes {left n : Nat} (h : n ≤ left) : leftOf left n = ((left - n : Nat) : Int) := by rw [leftOf, if_pos h]
theorem leftOf_no {left n : Nat} (h : ¬ n ≤ left) : leftOf left n = -1 := by rw [leftOf, if_neg h]

/-- elements and their parts, counted -/
def cntSeq (ls : List Seq3) : Nat := ls.length + (ls.map fun x => x.2.2.length).sum
theorem sumSeq_succ {ls : List Seq3} {k : Nat} {x : Seq3} (h : ls[k]? = some x) : ((ls.take (k + 1)).map fun x => x.2.2.length).sum = ((ls.take k).map fun x => x.2.2.length).sum + x.2.2.length := by
 rw [List.take_add_one, h]; simp
theorem sumSeq_le (ls : List Seq3) : ∀ k, ((ls.take k).map fun x => x.2.2.length).sum ≤ (ls.map fun x => x.2.2.length).sum := by
 intro k
 induction ls generalizing k with
 | nil => simp
 | cons x ls ih =>
  cases k with
  | zero => simp
  | succ k => simp only [List.take_succ_cons, List.map_cons, List.sum_cons]; have := ih k; omega
theorem cntSeq_el {ls : List Seq3} {x : Seq3} (h : x ∈ ls) : x.2.2.length ≤ cntSeq ls := by
 unfold cntSeq
 induction ls with
 | nil => simp at h
 | cons y ls ih =>
  simp only [List.map_cons, List.sum_cons, List.length_cons]
  rcases List.mem_cons.1 h with rfl | h
  ·omega
  ·have := ih h; omega

end Go.Proofs.Ytlkjdhjeecogjaa

/- Plain: an operator read out of a word. -/
import Derived.Test.YtkidchinoilgdaaDoorOpt
import Derived.Test.YtkidchinoilgdaaDoorParse
namespace Go.Proofs.YtkidchinoilgdaaDoor
open Go.RowKit

def pv (l : List UInt8) : Nat := (Tx.pu l).getD 0
/-- what the program reads out of a word -/
def rdI (l : List UInt8) : Int × Int × Int :=
 if l = [87] then (1, 0, 0)
 else if l = [126] then (4, 0, 0) else if l = [38] then (5, 0, 0) else if l = [124] then (6, 0, 0) else if l = [94] then (7, 0, 0) else if l = [43] then (8, 0, 0) else if l = [45] then (9, 0, 0) else if l = [61] then (10, 0, 0) else if l = [60] then (11, 0, 0) else if l = [63] then (12, 0, 0)
 else if l.head? = some 115 then
  (if l.tail.all (fun c => c != 46) then (2, (pv l.tail : Int), 0) else (3, (pv (l.tail.takeWhile fun c => c != 46) : Int), (pv (l.tail.dropWhile fun c => c != 46).tail : Int)))
 else (0, (pv l : Int), 0)
/-- p holds of every valid operator -/
def allOps (p : Nat → Nat → Nat → Bool) : Bool := (List.range 13).all fun k => (List.range 30).all fun a => (List.range 4).all fun b => !(opB (k : Int) (a : Int) (b : Int) 30) || p k a b
theorem allOps_at {p : Nat → Nat → Nat → Bool} (h : allOps p = true) {k a b : Nat} (hk : k < 13) (ha : a < 30) (hb : b < 4) (ho : opB (k : Int) (a : Int) (b : Int) 30 = true) : p k a b = true := by
 have h1 := List.all_eq_true.1 (List.all_eq_true.1 (List.all_eq_true.1 h k (List.mem_range.2 hk)) a (List.mem_range.2 ha)) b (List.mem_range.2 hb)
 rw [ho] at h1
 simpa using h1
theorem rdI_chk : allOps (fun k a b => decide (rdI (opTx k a b) = ((k : Int), (a : Int), (b : Int)))) = true := by decide +kernel
theorem rdI_all (k : Nat) (hk : k < 13) (a : Nat) (ha : a < 30) (b : Nat) (hb : b < 4) (h : opB (k : Int) (a : Int) (b : Int) 30 = true) : rdI (opTx k a b) = ((k : Int), (a : Int), (b : Int)) := of_decide_eq_true (allOps_at rdI_chk hk ha hb h)
theorem rdI_op {k a b : Int} (h : opB k a b 30 = true) : rdI (opTx k a b) = (k, a, b) := by
 obtain ⟨h0, h1, h2, h3, h4, h5⟩ := opB_bd h
 obtain ⟨k, rfl⟩ := Int.eq_ofNat_of_zero_le h0
 obtain ⟨a, rfl⟩ := Int.eq_ofNat_of_zero_le h2
 obtain ⟨b, rfl⟩ := Int.eq_ofNat_of_zero_le h4
 exact rdI_all k (by omega) a (by omega) b (by omega) h
/-- what both return -/
def opPR (l : List UInt8) : (Int × Int × Int) × Bool := if (opB (rdI l).1 (rdI l).2.1 (rdI l).2.2 30 && decide (opTx (rdI l).1 (rdI l).2.1 (rdI l).2.2 = l)) then (rdI l, true) else ((0, 0, 0), false)
theorem opPR_yes {l : List UInt8} {k a b : Int} (h : opB k a b 30 = true) (ht : opTx k a b = l) : opPR l = ((k, a, b), true) := by
 subst ht
 unfold opPR
 rw [rdI_op h]
 simp [h]
theorem opPR_no {l : List UInt8} (h : ∀ k a b : Int, opB k a b 30 = true → opTx k a b ≠ l) : opPR l = ((0, 0, 0), false) := by
 unfold opPR
 rw [if_neg]
 simp only [Bool.and_eq_true, decide_eq_true_eq]
 rintro ⟨h1, h2⟩
 exact h _ _ _ h1 h2
/-- a reading that hits each word of an operator may be checked in its place -/
theorem opPR_of {l : List UInt8} {k a b : Int} (h : ∀ k' a' b' : Int, opB k' a' b' 30 = true → opTx k' a' b' = l → (k', a', b') = (k, a, b)) : opPR l = if (opB k a b 30 && decide (opTx k a b = l)) then ((k, a, b), true) else ((0, 0, 0), false) := by
 by_cases hc : opB k a b 30 = true ∧ opTx k a b = l
 ·rw [opPR_yes hc.1 hc.2, if_pos (by simp [hc.1, hc.2])]
 ·rw [opPR_no (fun k' a' b' h1 h2 => by
   have h3 := h k' a' b' h1 h2
   simp only [Prod.mk.injEq] at h3
   obtain ⟨rfl, rfl, rfl⟩ := h3
   exact hc ⟨h1, h2⟩), if_neg]
  simpa using hc
def OpPQ (l : List UInt8) (w : World) (e : Ending) (w' : World) : Prop := e = .returned (.tuple #[.agg #[.int .i64 (opPR l).1.1, .int .i64 (opPR l).1.2.1, .int .i64 (opPR l).1.2.2], .bool (opPR l).2]) ∧ Below w.heap.size w w'
/-- what the reference reads; none where it sees at once that there is no operator -/
def tlS (l : List UInt8) : Int := if l.length < 2 then -1 else match Tx.pu l.tail with | some n => (n : Int) | none => -1
def rdS (l : List UInt8) : Option (Int × Int × Int) :=
 if l.head? = some 115 then
  (if 3 < l.length ∧ l.getD (l.length - 2) 0 = 46 then some (3, tlS (l.take (l.length - 2)), ((l.getD (l.length - 1) 0).toNat : Int) - 48) else some (2, tlS l, 0))
 else match Tx.pu l with | some n => some (0, (n : Int), 0) | none => none
theorem rdS_chk : allOps (fun k a b => !(decide (k = 0 ∨ k = 2 ∨ k = 3)) || decide (rdS (opTx k a b) = some ((k : Int), (a : Int), (b : Int)))) = true := by decide +kernel
theorem rdS_all (k : Nat) (hk : k < 13) (a : Nat) (ha : a < 30) (b : Nat) (hb : b < 4) (h : opB (k : Int) (a : Int) (b : Int) 30 = true) (hc : k = 0 ∨ k = 2 ∨ k = 3) : rdS (opTx k a b) = some ((k : Int), (a : Int), (b : Int)) := by
 have h1 := allOps_at rdS_chk hk ha hb h
 rw [decide_eq_true hc] at h1
 simpa using h1
/-- the words that are no numbers and no signals -/
theorem plainW_chk : allOps (fun k a b => decide (k = 1 ∧ opTx k a b = [87] ∨ (4 ≤ k ∧ opTx k a b = [sgnB (k - 4)] ∧ a = 0 ∧ b = 0) ∨ k = 0 ∨ k = 2 ∨ k = 3)) = true := by decide +kernel
theorem plainW_all (k : Nat) (hk : k < 13) (a : Nat) (ha : a < 30) (b : Nat) (hb : b < 4) (h : opB (k : Int) (a : Int) (b : Int) 30 = true) : k = 1 ∧ opTx k a b = [87] ∨ (4 ≤ k ∧ opTx k a b = [sgnB (k - 4)] ∧ a = 0 ∧ b = 0) ∨ k = 0 ∨ k = 2 ∨ k = 3 := of_decide_eq_true (allOps_at plainW_chk hk ha hb h)
theorem rdS_op {l : List UInt8} (hW : l ≠ [87]) (hs : ∀ j, j < 9 → l ≠ [sgnB j]) {k a b : Int} (h : opB k a b 30 = true) (ht : opTx k a b = l) : rdS l = some (k, a, b) := by
 obtain ⟨h0, h1, h2, h3, h4, h5⟩ := opB_bd h
 obtain ⟨k, rfl⟩ := Int.eq_ofNat_of_zero_le h0
 obtain ⟨a, rfl⟩ := Int.eq_ofNat_of_zero_le h2
 obtain ⟨b, rfl⟩ := Int.eq_ofNat_of_zero_le h4
 rcases plainW_all k (by omega) a (by omega) b (by omega) h with ⟨_, h6⟩ | ⟨h6, h7, _⟩ | h6
 ·exact absurd (ht.symm.trans h6) hW
 ·exact absurd (ht.symm.trans h7) (hs (k - 4) (by omega))
 ·rw [← ht]; exact rdS_all k (by omega) a (by omega) b (by omega) h h6
theorem sgn_op {i : Nat} (h : i < 9) : opB (4 + (i : Int)) 0 0 30 = true ∧ opTx (4 + (i : Int)) 0 0 = [sgnB i] := by
 match i, h with
 | 0, _ | 1, _ | 2, _ | 3, _ | 4, _ | 5, _ | 6, _ | 7, _ | 8, _ => exact ⟨by decide, by decide⟩
theorem rdI_sgn {l : List UInt8} (hW : l ≠ [87]) (hs : ∀ j, j < 9 → l ≠ [sgnB j]) : rdI l = if l.head? = some 115 then
  (if l.tail.all (fun c => c != 46) then (2, (pv l.tail : Int), 0) else (3, (pv (l.tail.takeWhile fun c => c != 46) : Int), (pv (l.tail.dropWhile fun c => c != 46).tail : Int))) else (0, (pv l : Int), 0) := by
 unfold rdI
 have h0 : ¬ l = [126] := hs 0 (by omega)
 have h1 : ¬ l = [38] := hs 1 (by omega)
 have h2 : ¬ l = [124] := hs 2 (by omega)
 have h3 : ¬ l = [94] := hs 3 (by omega)
 have h4 : ¬ l = [43] := hs 4 (by omega)
 have h5 : ¬ l = [45] := hs 5 (by omega)
 have h6 : ¬ l = [61] := hs 6 (by omega)
 have h7 : ¬ l = [60] := hs 7 (by omega)
 have h8 : ¬ l = [63] := hs 8 (by omega)
 rw [if_neg hW, if_neg h0, if_neg h1, if_neg h2, if_neg h3, if_neg h4, if_neg h5, if_neg h6, if_neg h7, if_neg h8]
theorem rdI_of_sgn {i : Nat} (h : i < 9) : rdI [sgnB i] = (4 + (i : Int), 0, 0) := by
 match i, h with
 | 0, _ | 1, _ | 2, _ | 3, _ | 4, _ | 5, _ | 6, _ | 7, _ | 8, _ => decide
end Go.Proofs.YtkidchinoilgdaaDoor

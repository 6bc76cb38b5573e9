/- Plain: the values of all signals in a cycle, the state behind it. -/
import Derived.Test.YtlkjdhjeecogjaaWskS
import Derived.Test.YtlkjdhjeecogjaaEvI
namespace Go.Proofs.Ytlkjdhjeecogjaa
open Go.RowKit

/-! ### an input, truncated -/
def cutN (x : Int) (M : Nat) : Nat := (x % ((M : Int) + 1)).toNat
theorem cutN_le (x : Int) (M : Nat) : cutN x M ≤ M := by
 have h1 := Int.emod_lt_of_pos x (show (0 : Int) < (M : Int) + 1 by omega)
 have h2 := Int.emod_nonneg x (show (M : Int) + 1 ≠ 0 by omega)
 unfold cutN
 omega
theorem and_low (z : Int) (n : Nat) (hn : n ≤ 4) : bits .and .i64 z (((2 ^ n - 1 : Nat) : Int)) = z % (2 ^ n : Nat) := by
 have h := BitVec.toNat_and (BitVec.ofInt 64 z) (BitVec.ofNat 64 (2 ^ n - 1))
 show IntKind.i64.wrap ((BitVec.ofInt 64 z &&& BitVec.ofInt 64 ((2 ^ n - 1 : Nat) : Int)).toNat : Int) = _
 have e1 : BitVec.ofInt 64 ((2 ^ n - 1 : Nat) : Int) = BitVec.ofNat 64 (2 ^ n - 1) := BitVec.ofInt_natCast ..
 have hn' : n = 0 ∨ n = 1 ∨ n = 2 ∨ n = 3 ∨ n = 4 := by omega
 have e2 : (BitVec.ofNat 64 (2 ^ n - 1)).toNat = 2 ^ n - 1 := by rcases hn' with rfl | rfl | rfl | rfl | rfl <;> rfl
 rw [e1, h, e2, Nat.and_two_pow_sub_one_eq_mod, BitVec.toNat_ofInt, IntKind.wrap_i64]
 rcases hn' with rfl | rfl | rfl | rfl | rfl <;> simp <;> omega
theorem and_cut {x : Int} {M : Nat} (hM : isMask M) : bits .and .i64 x (M : Int) = ((cutN x M : Nat) : Int) := by
 have h2 := Int.emod_nonneg x (show (M : Int) + 1 ≠ 0 by omega)
 unfold cutN
 rw [Int.toNat_of_nonneg h2]
 rcases hM with h | h | h | h
 ·subst h; exact and_low x 1 (by omega)
 ·subst h; exact and_low x 2 (by omega)
 ·subst h; exact and_low x 3 (by omega)
 ·subst h; exact and_low x 4 (by omega)

/-! ### the value of an expression, as a function -/
open Classical in
noncomputable def evF (os : List TOp) (vals : List Nat) (M : Nat) : Nat := if h : ∃ v, Ev os vals M 0 v os.length then Classical.choose h else 0
theorem evF_eq {os : List TOp} {vals : List Nat} {M v : Nat} (h : Ev os vals M 0 v os.length) : evF os vals M = v := by
 have hx : ∃ v, Ev os vals M 0 v os.length := ⟨v, h⟩
 unfold evF
 rw [dif_pos hx]
 exact ((Classical.choose_spec hx).det h).1
theorem evF_ev {os : List TOp} {vals : List Nat} {M : Nat} {n : Int} (h : opsB os n = true) (hp : hasP os = false) : Ev os vals M 0 (evF os vals M) os.length := by
 obtain ⟨v, hv⟩ := ev_all (vals := vals) (M := M) h hp
 rw [evF_eq hv]
 exact hv

/-! ### the inputs -/
def cntIn (m : TModule) (k : Nat) : Nat := (m.1.take k).countP fun x => decide (x.1 = 0)
def inpA (m : TModule) (vs : List Nat) (ins : List Int) (i : Nat) : Nat := if kindAt m.1 (i : Int) = 0 then cutN (ins.getD (cntIn m i) 0) (mskN (widAt m.1 (i : Int))) else vs.getD i 0
/-- the values with the inputs of the first k signals -/
def inpK (m : TModule) (vs : List Nat) (ins : List Int) (k : Nat) : List Nat := (List.range m.1.length).map fun i => if i < k then inpA m vs ins i else vs.getD i 0
def inpL (m : TModule) (vs : List Nat) (ins : List Int) : List Nat := (List.range m.1.length).map (inpA m vs ins)
theorem inpK_len (m : TModule) (vs : List Nat) (ins : List Int) (k : Nat) : (inpK m vs ins k).length = m.1.length := by simp [inpK]
theorem inpK_get {m : TModule} {vs : List Nat} {ins : List Int} {k i : Nat} (h : i < m.1.length) : (inpK m vs ins k)[i]? = some (if i < k then inpA m vs ins i else vs.getD i 0) := by simp [inpK, h]
theorem inpK_zero {m : TModule} {vs : List Nat} (ins : List Int) (h : vs.length = m.1.length) : inpK m vs ins 0 = vs := by
 apply List.ext_getElem?
 intro i
 by_cases hi : i < m.1.length
 ·rw [inpK_get hi, if_neg (Nat.not_lt_zero _), List.getD_eq_getElem?_getD, List.getElem?_eq_getElem (by omega)]
  rfl
 ·rw [List.getElem?_eq_none (by rw [inpK_len]; omega), List.getElem?_eq_none (by omega)]
theorem inpK_end (m : TModule) (vs : List Nat) (ins : List Int) : inpK m vs ins m.1.length = inpL m vs ins := by
 unfold inpK inpL
 apply List.map_congr_left
 intro i hi
 rw [if_pos (List.mem_range.1 hi)]
theorem inpK_set {m : TModule} {vs : List Nat} {ins : List Int} {k : Nat} (hk : k < m.1.length) : (inpK m vs ins k).set k (inpA m vs ins k) = inpK m vs ins (k + 1) := by
 apply List.ext_getElem?
 intro j
 by_cases hj : j < m.1.length
 ·rw [inpK_get hj, List.getElem?_set, inpK_len, inpK_get hj]
  by_cases hkj : k = j
  ·subst hkj
   rw [if_pos rfl, if_pos hk, if_pos (Nat.lt_succ_self _)]
  ·rw [if_neg hkj]
   by_cases h1 : j < k
   ·rw [if_pos h1, if_pos (by omega)]
   ·rw [if_neg h1, if_neg (by omega)]
 ·rw [List.getElem?_eq_none (by rw [List.length_set, inpK_len]; omega), List.getElem?_eq_none (by rw [inpK_len]; omega)]
theorem inpK_same {m : TModule} {vs : List Nat} {ins : List Int} {k : Nat} (hk : k < m.1.length) (h0 : ¬ kindAt m.1 (k : Int) = 0) : inpK m vs ins k = inpK m vs ins (k + 1) := by
 rw [← inpK_set hk]
 apply List.ext_getElem?
 intro j
 rw [List.getElem?_set, inpK_len]
 by_cases hkj : k = j
 ·subst hkj
  rw [if_pos rfl, if_pos hk, inpK_get hk, if_neg (Nat.lt_irrefl _)]
  unfold inpA
  rw [if_neg h0]
 ·rw [if_neg hkj]
theorem cntIn_succ {m : TModule} {k : Nat} {x : TSignal} (h : m.1[k]? = some x) : cntIn m (k + 1) = cntIn m k + if x.1 = 0 then 1 else 0 := by
 unfold cntIn
 rw [countP_succ h]
 simp
theorem cntIn_le (m : TModule) (k : Nat) : cntIn m k ≤ cntIn m m.1.length := by
 unfold cntIn
 rw [List.take_length]
 exact (List.take_sublist k m.1).countP_le
theorem cntIn_all (m : TModule) (h : m.1.length ≤ 30) : cntIn m m.1.length = (widthsM m 0).length := by
 unfold cntIn widthsM widL
 rw [if_pos h, List.take_length, List.length_map, List.countP_eq_length_filter]
theorem cntIn_lt {m : TModule} {k : Nat} {x : TSignal} (h : m.1[k]? = some x) (h0 : x.1 = 0) (hl : m.1.length ≤ 30) : cntIn m k < (widthsM m 0).length := by
 have h1 := cntIn_succ h
 rw [if_pos h0] at h1
 have h2 := cntIn_le m (k + 1)
 rw [cntIn_all m hl] at h2
 omega

/-! ### the assignments -/
noncomputable def asgV (m : TModule) (vs : List Nat) (i : Nat) : List Nat := vs.set (asgA m i).1.toNat (evF (asgA m i).2 vs (mskN (widAt m.1 (asgA m i).1)))
noncomputable def runV (m : TModule) (vs : List Nat) (l : List Nat) : List Nat := l.foldl (asgV m) vs
theorem runV_snoc (m : TModule) (vs l : List Nat) (i : Nat) : runV m vs (l ++ [i]) = asgV m (runV m vs l) i := by simp [runV]
theorem runV_take {m : TModule} {vs l : List Nat} {k i : Nat} (h : l[k]? = some i) : runV m vs (l.take (k + 1)) = asgV m (runV m vs (l.take k)) i := by
 rw [List.take_add_one, h]
 exact runV_snoc m vs _ i
theorem asgV_len (m : TModule) (vs : List Nat) (i : Nat) : (asgV m vs i).length = vs.length := by simp [asgV]
theorem runV_len (m : TModule) (vs l : List Nat) : (runV m vs l).length = vs.length := by
 induction l generalizing vs with
 | nil => rfl
 | cons i l ih => exact (ih (asgV m vs i)).trans (asgV_len m vs i)
/-- the numbers of a state's values -/
def natL (l : List Int) : List Nat := l.map Int.toNat
noncomputable def sigN (m : TModule) (st : TWordState) (ins : List Int) : List Nat := runV m (inpL m (natL st.1) ins) (ordN m)
def sigOk (m : TModule) (st : TWordState) (ins : List Int) : Bool := wsB m st && decide (ins.length = (widthsM m 0).length)
/-- the values of all signals -/
noncomputable def sigL (m : TModule) (st : TWordState) (ins : List Int) : List Int := if sigOk m st ins then nI (sigN m st ins) else []
end Go.Proofs.Ytlkjdhjeecogjaa

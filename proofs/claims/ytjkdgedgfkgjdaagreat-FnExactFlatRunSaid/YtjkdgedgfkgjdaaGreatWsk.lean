/- Contracts: does a state belong to a flat module: the program's function. -/
import Derived.Test.YtjkdgedgfkgjdaaGreatSto
import Derived.Test.YtjkdgedgfkgjdaaGreatEvA
import Derived.Test.YtjkdgedgfkgjdaaGreatWordStateD
import Derived.Test.YtjkdgedgfkgjdaaGreatEvI
import Derived.Outline
namespace Go.Proofs.YtjkdgedgfkgjdaaGreat
open Go.RowKit

def memD (m : TModule) (q : Nat) : Int := (m.2.2.2.getD q (0, 0, 0, 0)).2.1
/-- a value, a word of a state is in its range -/
def wvB (m : TModule) (st : TWordState) (i : Nat) : Bool := if stoB m i then inR (st.1.getD i 0) 0 (mskN (widAt m.1 (i : Int)) : Int) else decide (st.1.getD i 0 = 0)
def wwB (m : TModule) (st : TWordState) (i : Nat) : Bool := inR (st.2.getD i 0) 0 (mskN (widAt m.1 (memD m (i / 4))) : Int)
/-- a state of a flat module -/
def wsB (m : TModule) (st : TWordState) : Bool :=
 flatB m && (decide (st.1.length = m.1.length) && (decide (st.2.length = 4 * m.2.2.2.length) && ((List.range m.1.length).all (wvB m st) && (List.range st.2.length).all (wwB m st))))
theorem flat_ok {m : TModule} (h : flatB m = true) : okE m = true ∧ ordB m = true := by
 unfold flatB at h
 simp only [Bool.and_eq_true] at h
 exact ⟨ordB_ok h.1, h.1⟩
theorem flat_wid {m : TModule} (h : flatB m = true) {i : Nat} {x : TSignal} (hi : m.1[i]? = some x) : 1 ≤ x.2.1 ∧ x.2.1 ≤ 4 := by
 have h1 := (okE_sig (flat_ok h).1 hi).2.1
 unfold flatB at h
 simp only [Bool.and_eq_true] at h
 have h2 := List.all_eq_true.1 h.2.1 _ (List.mem_of_getElem? hi)
 unfold wid1 at h2
 simp at h2
 omega
theorem flat_sum {m : TModule} (h : flatB m = true) : m.2.1.all noP1 = true ∧ m.2.2.2.all (memW m.1) = true := by
 unfold flatB at h
 simp only [Bool.and_eq_true] at h
 exact ⟨h.2.2.1, h.2.2.2.1⟩
theorem wst_open {w : World} {S : Nat → Prop} {v : Value} {st : TWordState} (h : RWordState w S v st) : ∃ A0 c0 A1 c1, v = .agg #[.slice A0 st.1.length c0, .slice A1 st.2.length c1] ∧ Rep w S (.slice A0 st.1.length c0) (fIntS st.1) ∧ Rep w S (.slice A1 st.2.length c1) (fIntS st.2) ∧ st.1.length ≤ maxLen ∧ st.2.length ≤ maxLen := by
 obtain ⟨v0, v1, rfl, h0, h1⟩ := h
 obtain ⟨A0, c0, rfl, r0, m0⟩ := sl_form h0 (List.length_map _)
 obtain ⟨A1, c1, rfl, r1, m1⟩ := sl_form h1 (List.length_map _)
 exact ⟨A0, c0, A1, c1, rfl, r0, r1, m0, m1⟩
theorem mskN_ge (k : Int) : (0 : Int) ≤ (mskN k : Int) := Int.natCast_nonneg _

end Go.Proofs.YtjkdgedgfkgjdaaGreat

/- Plain: no proper prefix of an expression and no extension of it is an expression. -/
import Derived.Test.YtolndlmhbnpmeaaDoorEv
namespace Go.Proofs.YtolndlmhbnpmeaaDoor
open Go.RowKit

theorem ops_prefix {os : List TOp} {n : Int} (h : opsB os n = true) {k : Nat} (hk : k < os.length) : opsB (os.take k) n = false := by
 obtain ⟨_, h1, _⟩ := opsB_iff.1 h
 obtain ⟨o, ho⟩ : ∃ o, os[k]? = some o := ⟨_, List.getElem?_eq_getElem hk⟩
 cases hc : opsB (os.take k) n with
 | false => rfl
 | true => exact absurd (opsB_iff.1 hc).2.2 (h1 k o ho).1
theorem ops_more {os : List TOp} {n : Int} (h : opsB os n = true) (o : TOp) : opsB (os ++ [o]) n = false := by
 obtain ⟨_, _, h2⟩ := opsB_iff.1 h
 cases hc : opsB (os ++ [o]) n with
 | false => rfl
 | true =>
  have h3 := (opsB_iff.1 hc).2.1 os.length o (by simp)
  rw [List.take_left] at h3
  exact absurd h2 h3.1
theorem ops_not (n : Int) : opsB [(4, 0, 0), (0, 0, 0)] n = true := by
 rw [opsB_iff]
 refine ⟨by decide, fun j o ho => ?_, by decide⟩
 match j, ho with
 | 0, ho => simp at ho; subst ho; exact ⟨by decide, by simp [opT, opB, opAr]⟩
 | 1, ho => simp at ho; subst ho; exact ⟨by decide, by simp [opT, opB, inR]⟩
 | j + 2, ho => simp at ho
end Go.Proofs.YtolndlmhbnpmeaaDoor

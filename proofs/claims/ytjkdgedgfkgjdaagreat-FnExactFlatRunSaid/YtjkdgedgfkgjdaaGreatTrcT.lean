/- Contracts: the trace of a flat module: the reference's function. -/
import Derived.Test.YtjkdgedgfkgjdaaGreatTrcS
import Derived.Test.YtjkdgedgfkgjdaaGreatOrdP
import Derived.Outline
namespace Go.Proofs.YtjkdgedgfkgjdaaGreat
open Go.RowKit

theorem sig_yes {m : TModule} {st : TWordState} {ins : List Int} (h : wsB m st = true) (hl : ins.length = (widthsM m 0).length) : sigOk m st ins = true := by
 unfold sigOk
 rw [h, decide_eq_true hl]
 rfl
theorem stp_yes {m : TModule} {st : TWordState} {ins : List Int} (h : sigOk m st ins = true) : stpS m st ins = nextN m st.2 (sigN m st ins) := by
 unfold stpS
 rw [h]
 rfl
theorem sep_made2 {w : World} {S : Nat → Prop} {b : Nat} (h : w.ownsRow b 49 1 (.slice (some ⟨b, 0, none⟩) 0 0) 0 []) (hS : S b) : Sep w S (.slice (some ⟨b, 0, none⟩) 0 0) (.sl []) :=
 (RowsOf.nil w (fun _ => False) 1 []).sep (S' := S) rfl (Nat.zero_le _) (fun _ h => by simp at h) h (fun g hg => ⟨by have hg : b = g := (by injection hg); exact hg ▸ hS, fun h => h⟩) (fun _ h => h.elim)
end Go.Proofs.YtjkdgedgfkgjdaaGreat

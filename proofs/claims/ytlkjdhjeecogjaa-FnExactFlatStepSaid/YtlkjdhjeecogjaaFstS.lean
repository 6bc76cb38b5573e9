/- Contracts: the first state of a flat module: the program's and the reference's functions. -/
import Derived.Test.YtlkjdhjeecogjaaFst
import Derived.Outline
namespace Go.Proofs.Ytlkjdhjeecogjaa
open Go.RowKit

theorem startS_sz (m : TModule) : sWordState (startS m) ≤ 1048576 := by
 unfold startS sWordState
 split
 ·rename_i h
  have h1 := okE_na (flat_ok h).1
  rw [szI, szI]
  simp only [startN, nI_len, startV, List.length_map, List.length_replicate]
  omega
 ·decide
theorem q_zero (w : World) (S : Nat → Prop) : QWordState w S (.agg #[.slice none 0 0, .slice none 0 0]) ([], []) :=
 ⟨_, _, fun _ _ => False, rfl, fun _ _ h => h.elim, fun _ _ _ h => h.elim, sep_nil _ _, sep_nil _ _⟩
end Go.Proofs.Ytlkjdhjeecogjaa

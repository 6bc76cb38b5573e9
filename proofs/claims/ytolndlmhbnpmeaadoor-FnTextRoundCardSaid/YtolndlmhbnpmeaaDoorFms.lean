/- Contract: a module's lines: the reference's function. -/
import Derived.Test.YtolndlmhbnpmeaaDoorFmi
import Derived.Test.YtolndlmhbnpmeaaDoorModD
import Derived.Deep.CutRange
import Derived.Outline
namespace Go.Proofs.YtolndlmhbnpmeaaDoor
open Go.RowKit

theorem own_strs0 (w : World) : (w.alloc (.cells #[] 9)).ownsRow w.heap.size 9 1 (.slice (some ⟨w.heap.size, 0, none⟩) 0 0) 0 (strs []) :=
 World.ownsRow_made (base := w.heap.size) (size := 1) (e := 9) w #[] 0 (Nat.le_refl _) (by unfold maxLen; omega) rfl
end Go.Proofs.YtolndlmhbnpmeaaDoor

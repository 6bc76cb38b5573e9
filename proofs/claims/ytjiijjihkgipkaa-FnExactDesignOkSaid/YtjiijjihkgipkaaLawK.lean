/- Words for the walks of laws: blocks from a number on, boxes in a class of worlds. -/
import Derived.Test.YtjiijjihkgipkaaSep
import Derived.Test.YtjiijjihkgipkaaLex
import Derived.Outline
namespace Go.Proofs.Ytjiijjihkgipkaa
open Go.RowKit

/-- the blocks from lo on, below hi -/
def Iv (lo hi b : Nat) : Prop := lo ≤ b ∧ b < hi
section
variable {B : Nat} {W0 : World} {g : Nat} {t : TypeId} {a b c d : Value}
theorem bwS1 (h : Blk W0 g t #[a]) (hg : g < B) : ∀ W : Wd (fun w => Below B W0 w), W.val.cell? ⟨g, 0, none⟩ = some a := fun W => (W.ok.cell (p := ⟨g, 0, none⟩) hg).trans (h.cell 0)
theorem bwS2 (h : Blk W0 g t #[a, b]) (hg : g < B) : (∀ W : Wd (fun w => Below B W0 w), W.val.cell? ⟨g, 0, none⟩ = some a) ∧ (∀ W : Wd (fun w => Below B W0 w), W.val.cell? ⟨g, 1, none⟩ = some b) :=
  ⟨fun W => (W.ok.cell (p := ⟨g, 0, none⟩) hg).trans (h.cell 0), fun W => (W.ok.cell (p := ⟨g, 1, none⟩) hg).trans (h.cell 1)⟩
theorem bwS4 (h : Blk W0 g t #[a, b, c, d]) (hg : g < B) :
    (∀ W : Wd (fun w => Below B W0 w), W.val.cell? ⟨g, 0, none⟩ = some a) ∧ (∀ W : Wd (fun w => Below B W0 w), W.val.cell? ⟨g, 1, none⟩ = some b) ∧ (∀ W : Wd (fun w => Below B W0 w), W.val.cell? ⟨g, 2, none⟩ = some c) ∧ (∀ W : Wd (fun w => Below B W0 w), W.val.cell? ⟨g, 3, none⟩ = some d) :=
  ⟨fun W => (W.ok.cell (p := ⟨g, 0, none⟩) hg).trans (h.cell 0), fun W => (W.ok.cell (p := ⟨g, 1, none⟩) hg).trans (h.cell 1), fun W => (W.ok.cell (p := ⟨g, 2, none⟩) hg).trans (h.cell 2), fun W => (W.ok.cell (p := ⟨g, 3, none⟩) hg).trans (h.cell 3)⟩
end
end Go.Proofs.Ytjiijjihkgipkaa

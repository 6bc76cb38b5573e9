/- Contracts: nets in the laws: the size, the copy, equality of equals. -/
import Derived.Test.YtlkjdhjeecogjaaSeqB
import Derived.Test.YtlkjdhjeecogjaaAndS
namespace Go.Proofs.Ytlkjdhjeecogjaa
open Go.RowKit

theorem Try.infoNet : True := trivial
/-- the parts of a net read as lists -/
def NetR (w : World) (S : Nat → Prop) (As : Option Addr) (ns cs : Nat) (ss : List Seq3) (Aa : Option Addr) (na ca : Nat) (ands : List (Int × Int)) (Ao : Option Addr) (no co : Nat) (outs : List Int) : Prop :=
 Rep w S (.slice As ns cs) (fSeqS ss) ∧ Rep w S (.slice Aa na ca) (frecs eAnd ands) ∧ Rep w S (.slice Ao no co) (fints outs)
section
variable {w w' : World} {S S' : Nat → Prop} {As Aa Ao : Option Addr} {ns cs na ca no co : Nat} {ss : List Seq3} {ands : List (Int × Int)} {outs : List Int}
theorem NetR.keep (h : NetR w S As ns cs ss Aa na ca ands Ao no co outs) (hk : ∀ p : Addr, S p.block → w'.cell? p = w.cell? p) (hS : ∀ b, S b → S' b) : NetR w' S' As ns cs ss Aa na ca ands Ao no co outs :=
 ⟨(h.1.keep hk).mono hS, (h.2.1.keep hk).mono hS, (h.2.2.keep hk).mono hS⟩
theorem NetR.under {B : Nat} (h : NetR w S As ns cs ss Aa na ca ands Ao no co outs) (hS : ∀ b, S b → b < B) (hb : Below B w w') : NetR w' S As ns cs ss Aa na ca ands Ao no co outs := h.keep (fun _p hp => hb.cell (hS _ hp)) (fun _ h => h)
theorem NetR.lens (h : NetR w S As ns cs ss Aa na ca ands Ao no co outs) : ss.length = ns ∧ ands.length = na ∧ outs.length = no ∧ ns ≤ maxLen ∧ na ≤ maxLen ∧ no ≤ maxLen := by
 obtain ⟨h1, h2, h3⟩ := h
 have l1 := h1.len
 have l2 := h2.len
 have l3 := h3.len
 obtain ⟨_, _, _, m1⟩ := h1.sl_val
 obtain ⟨_, _, _, m2⟩ := h2.sl_val
 obtain ⟨_, _, _, m3⟩ := h3.sl_val
 rw [List.length_map] at l1 l2 l3 m1 m2 m3
 omega
end
/-- no list of the net is longer than a law allows -/
def NetB (ss : List Seq3) (ands : List (Int × Int)) (outs : List Int) : Prop := cntSeq ss + ands.length + outs.length ≤ 1048576

end Go.Proofs.Ytlkjdhjeecogjaa

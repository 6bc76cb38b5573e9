/- Contracts: Design in the laws: the size, the copy, equality of equals, marks. -/
import Derived.Test.YtolndlmhbnpmeaaDoorModuleD
import Derived.Outline
namespace Go.Proofs.YtolndlmhbnpmeaaDoor
open Go.RowKit

abbrev TDesign := List TModule
def rDesign (x : TDesign) : List Fd := [fModuleS x]
theorem rDesign_len (x : TDesign) : (rDesign x).length = 1 := rfl
def fDesignS (l : List TDesign) : Fd := .sl (l.map rDesign)
theorem rDesign_lens (l : List TDesign) : ∀ r ∈ l.map rDesign, r.length = 1 := by
 intro r hr
 obtain ⟨x, _, rfl⟩ := List.mem_map.1 hr
 rfl
def sDesign (x : TDesign) : Nat := szL sModule x
def nDesign (x : TDesign) : Nat := nuL nModule x
def kDesign (k : Nat) (x : TDesign) : TDesign := (mkL kModule nModule k x)
theorem nDesign_le (x : TDesign) : nDesign x ≤ 4 * sDesign x := by simp only [nDesign, sDesign]; have h0 := nuL_Module_le x; omega
/-- v is such a struct -/
def RDesign (w : World) (S : Nat → Prop) (v : Value) (x : TDesign) : Prop := ∃ (v0 : Value), v = .agg #[v0] ∧ Rep w S v0 (fModuleS x)
/-- .. in memory of its own -/
def QDesign (w : World) (S : Nat → Prop) (v : Value) (x : TDesign) : Prop := ∃ (v0 : Value) (P : Nat → Nat → Prop), v = .agg #[v0] ∧ (∀ j b, P j b → S b) ∧ (∀ i j b, P i b → P j b → i = j) ∧ Sep w (P 0) v0 (fModuleS x)
theorem QDesign.r {w : World} {S : Nat → Prop} {v : Value} {x : TDesign} (h : QDesign w S v x) : RDesign w S v x := by
 obtain ⟨v0, P, rfl, hP, _, h0⟩ := h
 exact ⟨v0, rfl, h0.rep.mono (hP 0)⟩
theorem RDesign.keep {w w' : World} {S : Nat → Prop} {v : Value} {x : TDesign} (h : RDesign w S v x) (hk : ∀ p : Addr, S p.block → w'.cell? p = w.cell? p) : RDesign w' S v x := by
 obtain ⟨v0, e, h0⟩ := h
 exact ⟨v0, e, h0.keep hk⟩
theorem RDesign.under {w w' : World} {S : Nat → Prop} {B : Nat} {v : Value} {x : TDesign} (h : RDesign w S v x) (hS : ∀ b, S b → b < B) (hb : Below B w w') : RDesign w' S v x := h.keep fun _p hp => hb.cell (hS _ hp)
theorem RDesign.mono {w : World} {S S' : Nat → Prop} {v : Value} {x : TDesign} (h : RDesign w S v x) (hS : ∀ b, S b → S' b) : RDesign w S' v x := by
 obtain ⟨v0, e, h0⟩ := h
 exact ⟨v0, e, h0.mono hS⟩
theorem QDesign.keep {w w' : World} {S : Nat → Prop} {v : Value} {x : TDesign} (h : QDesign w S v x) (hk : ∀ b, S b → w'.heap[b]? = w.heap[b]?) : QDesign w' S v x := by
 obtain ⟨v0, P, e, hP, hd, h0⟩ := h
 exact ⟨v0, P, e, hP, hd, h0.keep (fun b hb => hk b (hP _ b hb))⟩
theorem QDesign.mono {w : World} {S S' : Nat → Prop} {v : Value} {x : TDesign} (h : QDesign w S v x) (hS : ∀ b, S b → S' b) : QDesign w S' v x := by
 obtain ⟨v0, P, e, hP, hd, h0⟩ := h
 exact ⟨v0, P, e, fun j b hb => hS b (hP j b hb), hd, h0⟩
theorem RDesign.form {w : World} {S : Nat → Prop} {v : Value} {x : TDesign} (h : RDesign w S v x) : ∃ (A0 : Option Addr) (n0 c0 : Nat), v = .agg #[.slice A0 n0 c0] := by
 obtain ⟨v0, rfl, h0⟩ := h
 obtain ⟨A0, n0, c0, rfl⟩ := slv_of h0
 exact ⟨_, _, _, rfl⟩

end Go.Proofs.YtolndlmhbnpmeaaDoor

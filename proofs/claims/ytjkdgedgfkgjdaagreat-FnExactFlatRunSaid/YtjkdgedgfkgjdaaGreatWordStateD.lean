/- Contracts: WordState in the laws: the size, the copy, equality of equals, marks. -/
import Derived.Test.YtjkdgedgfkgjdaaGreatGc
import Derived.Outline
namespace Go.Proofs.YtjkdgedgfkgjdaaGreat
open Go.RowKit

abbrev TWordState := List Int × List Int
def rWordState (x : TWordState) : List Fd := [fIntS x.1, fIntS x.2]
theorem rWordState_len (x : TWordState) : (rWordState x).length = 2 := rfl
def fWordStateS (l : List TWordState) : Fd := .sl (l.map rWordState)
theorem rWordState_lens (l : List TWordState) : ∀ r ∈ l.map rWordState, r.length = 2 := by
 intro r hr
 obtain ⟨x, _, rfl⟩ := List.mem_map.1 hr
 rfl
def sWordState (x : TWordState) : Nat := szL sInt x.1 + szL sInt x.2
def nWordState (x : TWordState) : Nat := nuL nInt x.1 + nuL nInt x.2
def kWordState (k : Nat) (x : TWordState) : TWordState := (mkL kInt nInt k x.1, mkL kInt nInt (k + nuL nInt x.1) x.2)
theorem nWordState_le (x : TWordState) : nWordState x ≤ 4 * sWordState x := by simp only [nWordState, sWordState]; have h0 := nuL_Int_le x.1; have h1 := nuL_Int_le x.2; omega
/-- v is such a struct -/
def RWordState (w : World) (S : Nat → Prop) (v : Value) (x : TWordState) : Prop := ∃ (v0 : Value) (v1 : Value), v = .agg #[v0, v1] ∧ Rep w S v0 (fIntS x.1) ∧ Rep w S v1 (fIntS x.2)
/-- .. in memory of its own -/
def QWordState (w : World) (S : Nat → Prop) (v : Value) (x : TWordState) : Prop := ∃ (v0 : Value) (v1 : Value) (P : Nat → Nat → Prop), v = .agg #[v0, v1] ∧ (∀ j b, P j b → S b) ∧ (∀ i j b, P i b → P j b → i = j) ∧ Sep w (P 0) v0 (fIntS x.1) ∧ Sep w (P 1) v1 (fIntS x.2)
theorem QWordState.r {w : World} {S : Nat → Prop} {v : Value} {x : TWordState} (h : QWordState w S v x) : RWordState w S v x := by
 obtain ⟨v0, v1, P, rfl, hP, _, h0, h1⟩ := h
 exact ⟨v0, v1, rfl, h0.rep.mono (hP 0), h1.rep.mono (hP 1)⟩
theorem RWordState.keep {w w' : World} {S : Nat → Prop} {v : Value} {x : TWordState} (h : RWordState w S v x) (hk : ∀ p : Addr, S p.block → w'.cell? p = w.cell? p) : RWordState w' S v x := by
 obtain ⟨v0, v1, e, h0, h1⟩ := h
 exact ⟨v0, v1, e, h0.keep hk, h1.keep hk⟩
theorem RWordState.under {w w' : World} {S : Nat → Prop} {B : Nat} {v : Value} {x : TWordState} (h : RWordState w S v x) (hS : ∀ b, S b → b < B) (hb : Below B w w') : RWordState w' S v x := h.keep fun p hp => hb.cell (hS _ hp)
theorem RWordState.mono {w : World} {S S' : Nat → Prop} {v : Value} {x : TWordState} (h : RWordState w S v x) (hS : ∀ b, S b → S' b) : RWordState w S' v x := by
 obtain ⟨v0, v1, e, h0, h1⟩ := h
 exact ⟨v0, v1, e, h0.mono hS, h1.mono hS⟩
theorem QWordState.keep {w w' : World} {S : Nat → Prop} {v : Value} {x : TWordState} (h : QWordState w S v x) (hk : ∀ b, S b → w'.heap[b]? = w.heap[b]?) : QWordState w' S v x := by
 obtain ⟨v0, v1, P, e, hP, hd, h0, h1⟩ := h
 exact ⟨v0, v1, P, e, hP, hd, h0.keep (fun b hb => hk b (hP _ b hb)), h1.keep (fun b hb => hk b (hP _ b hb))⟩
theorem QWordState.mono {w : World} {S S' : Nat → Prop} {v : Value} {x : TWordState} (h : QWordState w S v x) (hS : ∀ b, S b → S' b) : QWordState w S' v x := by
 obtain ⟨v0, v1, P, e, hP, hd, h0, h1⟩ := h
 exact ⟨v0, v1, P, e, fun j b hb => hS b (hP j b hb), hd, h0, h1⟩
theorem RWordState.form {w : World} {S : Nat → Prop} {v : Value} {x : TWordState} (h : RWordState w S v x) : ∃ (A0 : Option Addr) (n0 c0 : Nat) (A1 : Option Addr) (n1 c1 : Nat), v = .agg #[.slice A0 n0 c0, .slice A1 n1 c1] := by
 obtain ⟨v0, v1, rfl, h0, h1⟩ := h
 obtain ⟨A0, n0, c0, rfl⟩ := slv_of h0
 obtain ⟨A1, n1, c1, rfl⟩ := slv_of h1
 exact ⟨_, _, _, _, _, _, rfl⟩

end Go.Proofs.YtjkdgedgfkgjdaaGreat

/- What a call changes: blocks of some types from a number on, and named ones. -/
import Derived.Test.YtolndlmhbnpmeaaDoorTyp
import Derived.Outline
namespace Go.Proofs.YtolndlmhbnpmeaaDoor
open Go.RowKit

def ChP (lo : Nat) (ts : List TypeId) (P : Nat → Prop) (w w' : World) : Prop := ∃ C, Only C w w' ∧ ∀ b, C b → b < w.heap.size → P b ∨ (lo ≤ b ∧ ∃ t, t ∈ ts ∧ OfT w t b)
section
variable {lo : Nat} {ts : List TypeId} {P Q : Nat → Prop} {w w' w'' : World}
theorem ChP.refl (lo : Nat) (ts : List TypeId) (P : Nat → Prop) (w : World) : ChP lo ts P w w := ⟨fun _ => False, Only.refl _ _, fun _ h => h.elim⟩
theorem ChP.size (h : ChP lo ts P w w') : w.heap.size ≤ w'.heap.size := by
 obtain ⟨C, h, _⟩ := h
 exact h.size
theorem ChP.trans' (h : ChP lo ts P w w') (k : ChP lo ts Q w' w'') (hQ : ∀ b, Q b → b < w.heap.size → P b) : ChP lo ts P w w'' := by
 obtain ⟨C, h1, h2⟩ := h
 obtain ⟨D, k1, k2⟩ := k
 refine ⟨fun b => C b ∨ D b, (h1.more (fun b hb => .inl hb)).trans (k1.more (fun b hb => .inr hb)), fun b hb hl => ?_⟩
 by_cases hC : C b
 ·exact h2 b hC hl
 ·rcases hb with hb | hb
  ·exact absurd hb hC
  ·rcases k2 b hb (by have := h1.size; omega) with h3 | ⟨h3, t, ht, h4⟩
   ·exact .inl (hQ b h3 hl)
   ·exact .inr ⟨h3, t, ht, h4.keep (h1.block b hl hC).symm⟩
theorem ChP.trans (h : ChP lo ts P w w') (k : ChP lo ts P w' w'') : ChP lo ts P w w'' := h.trans' k (fun _ hb _ => hb)
theorem ChP.mono (h : ChP lo ts P w w') (hP : ∀ b, P b → Q b) : ChP lo ts Q w w' := by
 obtain ⟨C, h1, h2⟩ := h
 exact ⟨C, h1, fun b hb hl => (h2 b hb hl).imp (hP b) id⟩
theorem ChP.of_below (lo : Nat) (ts : List TypeId) (P : Nat → Prop) (h : Below w.heap.size w w') : ChP lo ts P w w' := ⟨fun _ => False, Only.of_below h _, fun _ h => h.elim⟩
theorem ChP.alloc (h : ChP lo ts P w w') (o : Obj) : ChP lo ts P w (w'.alloc o) := h.trans (ChP.of_below _ _ _ ((Below.refl _ _).alloc (Nat.le_refl _) o))
theorem ChP.drew (h : ChP lo ts P w w') : ChP lo ts P w w'.drew := h.trans (ChP.of_below _ _ _ (Below.refl _ _).drew)
theorem ChP.bel (h : ChP lo ts P w w') (hb : Below w'.heap.size w' w'') : ChP lo ts P w w'' := h.trans (ChP.of_below _ _ _ hb)
theorem ChP.row {base size n : Nat} {e : TypeId} {v : Value} {xs : List Value} (h : ChP lo ts P w w') (ho : w'.ownsRow base e size v n xs) (hl : lo ≤ base) (ht : e ∈ ts) (hg : w'.grownBy w'' v.ownBlock) : ChP lo ts P w w'' :=
 h.trans ⟨fun b => v.ownBlock = some b, only_row hg, fun b hb _ => .inr ⟨Nat.le_trans hl (ho.lt b hb).1, e, ht, own_of ho hb⟩⟩
theorem ChP.setP {p : Addr} (h : ChP lo ts P w w') (hp : P p.block) (u : Value) : ChP lo ts P w (w'.setCell p u) :=
 h.trans ⟨fun b => b = p.block, (Only.refl (fun b => b = p.block) _).setCell (.inl rfl) u, fun _b hb _ => .inl (hb ▸ hp)⟩
theorem ChP.setN {p : Addr} (h : ChP lo ts P w w') (hp : w.heap.size ≤ p.block) (u : Value) : ChP lo ts P w (w'.setCell p u) :=
 h.trans' (Q := fun b => b = p.block) ⟨fun b => b = p.block, (Only.refl (fun b => b = p.block) _).setCell (.inl rfl) u, fun b hb _ => .inl hb⟩ (fun b hb hl => by omega)
theorem ChP.setT {p : Addr} {t : TypeId} (h : ChP lo ts P w w') (hp : OfT w' t p.block) (ht : t ∈ ts) (hl : lo ≤ p.block) (u : Value) : ChP lo ts P w (w'.setCell p u) :=
 h.trans ⟨fun b => b = p.block, (Only.refl (fun b => b = p.block) _).setCell (.inl rfl) u, fun _b hb _ => .inr ⟨hb ▸ hl, t, ht, hb ▸ hp⟩⟩
theorem ChP.keep {t : TypeId} {b : Nat} (h : ChP lo ts P w w') (hb : OfT w t b) (ht : t ∉ ts) (hP : ¬ P b) : w'.heap[b]? = w.heap[b]? := by
 obtain ⟨C, h1, h2⟩ := h
 refine h1.block b hb.lt (fun hC => ?_)
 rcases h2 b hC hb.lt with h3 | ⟨_, t', ht', h4⟩
 ·exact hP h3
 ·exact ht (hb.inj h4 ▸ ht')
theorem ChP.blk {t : TypeId} {b : Nat} {cs : Array Value} (h : ChP lo ts P w w') (hb : Blk w b t cs) (ht : t ∉ ts) (hP : ¬ P b) : Blk w' b t cs := (h.keep hb.of ht hP).trans hb
theorem ChP.own {base size n : Nat} {e : TypeId} {v : Value} {xs : List Value} (h : ChP lo ts P w w') (ho : w.ownsRow base e size v n xs) (ht : e ∉ ts) (hP : ∀ g, v.ownBlock = some g → ¬ P g) : w'.ownsRow base e size v n xs :=
 own_keep ho (fun g hg => h.keep (own_of ho hg) ht (hP g hg))
theorem ChP.below (h : ChP lo ts P w w') (hl : lo ≤ w.heap.size) (hP : ∀ b, P b → lo ≤ b) : Below lo w w' := by
 obtain ⟨C, h1, h2⟩ := h
 refine ⟨h1.os, h1.tape, h1.output, h1.size, fun b hb => h1.block b (by omega) (fun hC => ?_)⟩
 rcases h2 b hC (by omega) with h3 | ⟨h3, _⟩
 ·have := hP b h3
  omega
 ·omega
theorem ChP.lo_mono {lo' : Nat} (h : ChP lo ts P w w') (hl : lo' ≤ lo) : ChP lo' ts P w w' := by
 obtain ⟨C, h1, h2⟩ := h
 exact ⟨C, h1, fun b hb hlt => (h2 b hb hlt).imp id (fun h => ⟨by omega, h.2⟩)⟩
end
theorem own_at {w : World} {lo g n c : Nat} {l : List Int} {e : TypeId} (h : w.ownsRow lo e 1 (.slice (some ⟨g, 0, none⟩) n c) n (ints l)) {k : Nat} {x : Int} (hx : l[k]? = some x) : w.cell? ⟨g, k, none⟩ = some (.int .i64 x) := by
 have hk : k < n := by have h1 := h.1; rw [ints_len] at h1; have := (List.getElem?_eq_some_iff.1 hx).1; omega
 rw [h.cellAt k (by omega), ints_get, hx]
 rfl
theorem own_put {w : World} {lo g n c : Nat} {l : List Int} {e : TypeId} (h : w.ownsRow lo e 1 (.slice (some ⟨g, 0, none⟩) n c) n (ints l)) (k : Nat) (x : Int) : (w.setCell ⟨g, k, none⟩ (.int .i64 x)).ownsRow lo e 1 (.slice (some ⟨g, 0, none⟩) n c) n (ints (l.set k x)) := by
 have h1 := (h.stored k (.int .i64 x)).1
 rw [show ints (l.set k x) = (ints l).set k (.int .i64 x) by simp [ints, List.map_set]]
 exact h1
end Go.Proofs.YtolndlmhbnpmeaaDoor

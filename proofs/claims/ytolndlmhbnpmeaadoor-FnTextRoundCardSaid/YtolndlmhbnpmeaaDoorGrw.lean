/- Rows that are appended one by one, each part of a row in blocks of its own. -/
import Derived.Test.YtolndlmhbnpmeaaDoorGa
namespace Go.Proofs.YtolndlmhbnpmeaaDoor
open Go.RowKit

/-- the rows of xs read so, in blocks that S holds of, all parts apart -/
def RowsOf (w : World) (S : Nat → Prop) (rows : List (List Fd)) (size : Nat) (xs : List Value) : Prop :=
 ∃ (P : Nat → Nat → Nat → Prop), (∀ i j b, P i j b → S b) ∧ (∀ i j i' j' b, P i j b → P i' j' b → i = i' ∧ j = j') ∧
  ∀ (i j : Nat) (r : List Fd) (f : Fd), rows[i]? = some r → r[j]? = some f → ∃ v, xs[i * size + j]? = some v ∧ Sep w (P i j) v f
section
variable {w w' : World} {S S' : Nat → Prop} {size : Nat} {rows : List (List Fd)} {xs : List Value}
theorem RowsOf.nil (w : World) (S : Nat → Prop) (size : Nat) (xs : List Value) : RowsOf w S [] size xs :=
 ⟨fun _ _ _ => False, fun _ _ _ h => h.elim, fun _ _ _ _ _ h => h.elim, fun _ _ _ _ h => by simp at h⟩
theorem RowsOf.keep (h : RowsOf w S rows size xs) (hk : ∀ b, S b → w'.heap[b]? = w.heap[b]?) (hS : ∀ b, S b → S' b) : RowsOf w' S' rows size xs := by
 obtain ⟨P, h1, h2, h3⟩ := h
 refine ⟨P, fun i j b hb => hS b (h1 i j b hb), h2, fun i j r f hr hf => ?_⟩
 obtain ⟨v, hv, hs⟩ := h3 i j r f hr hf
 exact ⟨v, hv, hs.keep (fun b hb => hk b (h1 i j b hb))⟩
theorem RowsOf.snoc {row : List Fd} {vs : List Value} {Q : Nat → Nat → Prop} (h : RowsOf w S rows size xs) (hs : ∀ r ∈ rows, r.length = size) (hx : xs.length = rows.length * size) (hS : ∀ b, S b → S' b)
  (hQ : ∀ j b, Q j b → S' b ∧ ¬ S b) (hq : ∀ j j' b, Q j b → Q j' b → j = j')
  (h2 : ∀ (j : Nat) (f : Fd), row[j]? = some f → ∃ v, vs[j]? = some v ∧ Sep w (Q j) v f) : RowsOf w S' (rows ++ [row]) size (xs ++ vs) := by
 obtain ⟨P, p1, p2, p3⟩ := h
 refine ⟨fun i j b => if i = rows.length then Q j b else P i j b, fun i j b hb => ?_, fun i j i' j' b hb hb' => ?_, fun i j r f hr hf => ?_⟩
 ·dsimp only at hb
  split at hb
  ·exact (hQ j b hb).1
  ·exact hS b (p1 i j b hb)
 ·dsimp only at hb hb'
  split at hb <;> split at hb'
  ·exact ⟨by omega, hq _ _ _ hb hb'⟩
  ·exact absurd (p1 _ _ _ hb') (hQ _ _ hb).2
  ·exact absurd (p1 _ _ _ hb) (hQ _ _ hb').2
  ·exact p2 _ _ _ _ _ hb hb'
 ·by_cases hik : i = rows.length
  ·subst hik
   rw [List.getElem?_append_right (Nat.le_refl _), Nat.sub_self] at hr
   injection hr with hr
   subst hr
   simp only [if_true]
   obtain ⟨v, hv, hse⟩ := h2 j f hf
   refine ⟨v, ?_, hse⟩
   rw [List.getElem?_append_right (by omega), hx]
   have : rows.length * size + j - rows.length * size = j := by omega
   rw [this]
   exact hv
  ·have hil : i < rows.length := by
    have := (List.getElem?_eq_some_iff.1 hr).1
    simp at this
    omega
   rw [List.getElem?_append_left hil] at hr
   simp only [if_neg hik]
   obtain ⟨v, hv, hs0⟩ := p3 i j r f hr hf
   refine ⟨v, ?_, hs0⟩
   have hj : j < size := by
    rw [← hs r (List.mem_of_getElem? hr)]
    exact (List.getElem?_eq_some_iff.1 hf).1
   rw [List.getElem?_append_left]
   ·exact hv
   ·rw [hx]
    calc i * size + j < i * size + size := by omega
     _ = (i + 1) * size := by rw [Nat.add_mul, Nat.one_mul]
     _ ≤ rows.length * size := Nat.mul_le_mul_right _ hil
/-- .. the slice of them -/
theorem RowsOf.sep {A : Option Addr} {n c base : Nat} {e : TypeId} (h : RowsOf w S rows size xs) (hn : rows.length = n) (hm : n ≤ maxLen) (hs : ∀ r ∈ rows, r.length = size) (ho : w.ownsRow base e size (.slice A n c) n xs)
  (hS : ∀ g, (Value.slice A n c).ownBlock = some g → S' g ∧ ¬ S g) (hL : ∀ b, S b → S' b) : Sep w S' (.slice A n c) (.sl rows) := by
 obtain ⟨P, p1, p2, p3⟩ := h
 refine .sl S' A n c size e rows xs (fun i j => (xs[i * size + j]?).getD undef) P hn hm hs (own_mono ho (Nat.zero_le _)) (fun g hg => (hS g hg).1) (fun i j b hb => ⟨hL b (p1 i j b hb), fun hg => (hS b hg).2 (p1 i j b hb)⟩) p2 (fun i j hi hj => ?_) (fun i j r f hr hf => ?_)
 ·have hlt : i * size + j < xs.length := by
   rw [ho.1]
   calc i * size + j < i * size + size := by omega
    _ = (i + 1) * size := by rw [Nat.add_mul, Nat.one_mul]
    _ ≤ n * size := Nat.mul_le_mul_right _ (by omega)
  rw [List.getElem?_eq_getElem hlt]
  rfl
 ·obtain ⟨v, hv, hs0⟩ := p3 i j r f hr hf
  rw [hv]
  exact hs0
end

/-- a slice that grows by rows: the slice's own block, and the rows' blocks, all from lo on -/
structure Grow (w : World) (lo : Nat) (e : TypeId) (size : Nat) (v : Value) (rows : List (List Fd)) (xs : List Value) : Prop where
 own : w.ownsRow lo e size v rows.length xs
 parts : RowsOf w (fun b => (lo ≤ b ∧ b < w.heap.size) ∧ v.ownBlock ≠ some b) rows size xs
 lens : ∀ r ∈ rows, r.length = size
section
variable {w w' : World} {lo size : Nat} {e : TypeId} {v v' : Value} {rows : List (List Fd)} {xs : List Value}
theorem Grow.nil (w : World) (lo size : Nat) (e : TypeId) : Grow w lo e size (.slice none 0 0) [] [] :=
 ⟨World.ownsRow_nil _ _ _ _, RowsOf.nil _ _ _ _, fun _ h => by simp at h⟩
theorem Grow.empty (h : w.ownsRow lo e size v 0 []) : Grow w lo e size v [] [] := ⟨h, RowsOf.nil _ _ _ _, fun _ h => by simp at h⟩
theorem Grow.below {B : Nat} (h : Grow w lo e size v rows xs) (hb : Below B w w') (hB : w.heap.size ≤ B) : Grow w' lo e size v rows xs :=
 ⟨own_below h.own hb hB, h.parts.keep (fun b hb2 => hb.block b (by omega)) (fun b hb2 => ⟨⟨hb2.1.1, by have := hb.size; omega⟩, hb2.2⟩), h.lens⟩
theorem Grow.keep (h : Grow w lo e size v rows xs) (hk : ∀ b, lo ≤ b → b < w.heap.size → w'.heap[b]? = w.heap[b]?) (hs : w.heap.size ≤ w'.heap.size) : Grow w' lo e size v rows xs :=
 ⟨own_keep h.own (fun g hg => hk g (h.own.lt g hg).1 (h.own.lt g hg).2), h.parts.keep (fun b hb2 => hk b hb2.1.1 hb2.1.2) (fun b hb2 => ⟨⟨hb2.1.1, by omega⟩, hb2.2⟩), h.lens⟩
theorem Grow.drew (h : Grow w lo e size v rows xs) : Grow w.drew lo e size v rows xs := h.below (Below.refl _ _).drew (Nat.le_refl _)
theorem Grow.alloc (h : Grow w lo e size v rows xs) (o : Obj) : Grow (w.alloc o) lo e size v rows xs := h.below ((Below.refl w.heap.size w).alloc (Nat.le_refl _) o) (Nat.le_refl _)
/-- a row is appended: h, the slice ahead of the work on the new row; wa, the world in which the append begins -/
theorem Grow.push {wa : World} {row : List Fd} {vs : List Value} {Q : Nat → Nat → Prop} {B : Nat} (h : Grow w lo e size v rows xs) (hb : Below B w wa) (hB : w.heap.size ≤ B) (hlo : lo ≤ w.heap.size)
  (ho : w'.ownsRow lo e size v' (rows.length + 1) (xs ++ vs)) (hg : wa.grownBy w' v.ownBlock) (hk : v'.ownBlock = v.ownBlock ∨ v'.ownBlock = some wa.heap.size)
  (hrow : row.length = size) (hQ : ∀ j b, Q j b → w.heap.size ≤ b ∧ b < wa.heap.size) (hq : ∀ j j' b, Q j b → Q j' b → j = j')
  (h2 : ∀ (j : Nat) (f : Fd), row[j]? = some f → ∃ u, vs[j]? = some u ∧ Sep wa (Q j) u f) : Grow w' lo e size v' (rows ++ [row]) (xs ++ vs) := by
 have hwa := hb.size
 have hne : ∀ b, b < wa.heap.size → v.ownBlock ≠ some b → w'.heap[b]? = wa.heap[b]? := fun b h1 h2 => hg.block b h1 (fun e => h2 e.symm)
 have hvlt : ∀ g, v.ownBlock = some g → g < w.heap.size := fun g hg' => (h.own.lt g hg').2
 have hw' : wa.heap.size ≤ w'.heap.size := hg.size
 have hback : ∀ b, b < wa.heap.size → v.ownBlock ≠ some b → v'.ownBlock ≠ some b := by
  intro b h1 h2 h3
  rcases hk with hk | hk
  ·exact h2 (hk ▸ h3)
  ·rw [hk] at h3
   injection h3 with h3
   omega
 refine ⟨by rw [List.length_append]; exact ho, ?_, fun r hr => ?_⟩
 ·refine RowsOf.snoc (S := fun b => ((lo ≤ b ∧ b < w.heap.size) ∧ v.ownBlock ≠ some b)) (Q := Q) ?_ h.lens ?_ (fun b hb2 => ⟨⟨hb2.1.1, by omega⟩, hback b (by omega) hb2.2⟩) (fun j b hj => ?_) hq (fun j f hf => ?_)
  ·exact h.parts.keep (fun b hb2 => (hne b (by omega) hb2.2).trans (hb.block b (by omega))) (fun b hb2 => hb2)
  ·exact h.own.1
  ·have h1 := hQ j b hj
   refine ⟨⟨⟨by omega, by omega⟩, hback b h1.2 (fun h3 => by have := hvlt b h3; omega)⟩, fun hc => by omega⟩
  ·obtain ⟨u, hu, hs⟩ := h2 j f hf
   exact ⟨u, hu, hs.keep (fun b hj => hne b (hQ j b hj).2 (fun h3 => by have := hvlt b h3; have := (hQ j b hj).1; omega))⟩
 ·rcases List.mem_append.1 hr with hr | hr
  ·exact h.lens r hr
  ·rw [List.mem_singleton.1 hr]
   exact hrow
theorem Grow.sep {A : Option Addr} {n c : Nat} (h : Grow w lo e size (.slice A n c) rows xs) (hn : rows.length = n) (hm : n ≤ maxLen) : Sep w (fun b => lo ≤ b ∧ b < w.heap.size) (.slice A n c) (.sl rows) :=
 h.parts.sep hn hm h.lens (hn ▸ h.own) (fun g hg => ⟨h.own.lt g hg, fun hc => hc.2 hg⟩) (fun _ hb => hb.1)
end
/-- .. all blocks in I (which holds of every block to come) -/
structure GrowI (w : World) (I : Nat → Prop) (e : TypeId) (size : Nat) (v : Value) (rows : List (List Fd)) (xs : List Value) : Prop where
 own : w.ownsRow 0 e size v rows.length xs
 ownI : ∀ g, v.ownBlock = some g → I g
 parts : RowsOf w (fun b => (I b ∧ b < w.heap.size) ∧ v.ownBlock ≠ some b) rows size xs
 lens : ∀ r ∈ rows, r.length = size
section
variable {w w' : World} {I : Nat → Prop} {size : Nat} {e : TypeId} {v v' : Value} {rows : List (List Fd)} {xs : List Value}
theorem GrowI.empty {b : Nat} (h : w.ownsRow b e size v 0 []) (hI : ∀ g, v.ownBlock = some g → I g) : GrowI w I e size v [] [] := ⟨own_mono h (Nat.zero_le _), hI, RowsOf.nil _ _ _ _, fun _ h => by simp at h⟩
theorem GrowI.keep (h : GrowI w I e size v rows xs) (hk : ∀ b, I b → b < w.heap.size → w'.heap[b]? = w.heap[b]?) (hs : w.heap.size ≤ w'.heap.size) : GrowI w' I e size v rows xs :=
 ⟨own_keep h.own (fun g hg => hk g (h.ownI g hg) (h.own.lt g hg).2), h.ownI, h.parts.keep (fun b hb2 => hk b hb2.1.1 hb2.1.2) (fun b hb2 => ⟨⟨hb2.1.1, by omega⟩, hb2.2⟩), h.lens⟩
theorem GrowI.below {B : Nat} (h : GrowI w I e size v rows xs) (hb : Below B w w') (hB : w.heap.size ≤ B) : GrowI w' I e size v rows xs := h.keep (fun b _ h2 => hb.block b (by omega)) hb.size
/-- a row is appended: h, the slice ahead of the work on the new row; wa, the world in which the append begins -/
theorem GrowI.push {wa : World} {row : List Fd} {vs : List Value} {Q : Nat → Nat → Prop} {B b0 : Nat} (h : GrowI w I e size v rows xs) (hb : Below B w wa) (hB : w.heap.size ≤ B) (hI : ∀ b, w.heap.size ≤ b → I b)
  (ho : w'.ownsRow b0 e size v' (rows.length + 1) (xs ++ vs)) (hg : wa.grownBy w' v.ownBlock) (hk : v'.ownBlock = v.ownBlock ∨ v'.ownBlock = some wa.heap.size)
  (hrow : row.length = size) (hQ : ∀ j b, Q j b → w.heap.size ≤ b ∧ b < wa.heap.size) (hq : ∀ j j' b, Q j b → Q j' b → j = j')
  (h2 : ∀ (j : Nat) (f : Fd), row[j]? = some f → ∃ u, vs[j]? = some u ∧ Sep wa (Q j) u f) : GrowI w' I e size v' (rows ++ [row]) (xs ++ vs) := by
 have hwa := hb.size
 have hne : ∀ b, b < wa.heap.size → v.ownBlock ≠ some b → w'.heap[b]? = wa.heap[b]? := fun b h1 h2 => hg.block b h1 (fun e => h2 e.symm)
 have hvlt : ∀ g, v.ownBlock = some g → g < w.heap.size := fun g hg' => (h.own.lt g hg').2
 have hw' : wa.heap.size ≤ w'.heap.size := hg.size
 have hback : ∀ b, b < wa.heap.size → v.ownBlock ≠ some b → v'.ownBlock ≠ some b := by
  intro b h1 h2 h3
  rcases hk with hk | hk
  ·exact h2 (hk ▸ h3)
  ·rw [hk] at h3
   injection h3 with h3
   omega
 refine ⟨by rw [List.length_append]; exact own_mono ho (Nat.zero_le _), fun g hg' => ?_, ?_, fun r hr => ?_⟩
 ·rcases hk with hk | hk
  ·exact h.ownI g (hk ▸ hg')
  ·rw [hk] at hg'
   injection hg' with hg'
   exact hI g (by omega)
 ·refine RowsOf.snoc (S := fun b => ((I b ∧ b < w.heap.size) ∧ v.ownBlock ≠ some b)) (Q := Q) ?_ h.lens ?_ (fun b hb2 => ⟨⟨hb2.1.1, by omega⟩, hback b (by omega) hb2.2⟩) (fun j b hj => ?_) hq (fun j f hf => ?_)
  ·exact h.parts.keep (fun b hb2 => (hne b (by omega) hb2.2).trans (hb.block b (by omega))) (fun b hb2 => hb2)
  ·exact h.own.1
  ·have h1 := hQ j b hj
   refine ⟨⟨⟨hI b h1.1, by omega⟩, hback b h1.2 (fun h3 => by have := hvlt b h3; omega)⟩, fun hc => by omega⟩
  ·obtain ⟨u, hu, hs⟩ := h2 j f hf
   exact ⟨u, hu, hs.keep (fun b hj => hne b (hQ j b hj).2 (fun h3 => by have := hvlt b h3; have := (hQ j b hj).1; omega))⟩
 ·rcases List.mem_append.1 hr with hr | hr
  ·exact h.lens r hr
  ·rw [List.mem_singleton.1 hr]
   exact hrow
theorem GrowI.sep {A : Option Addr} {n c : Nat} (h : GrowI w I e size (.slice A n c) rows xs) (hn : rows.length = n) (hm : n ≤ maxLen) : Sep w (fun b => I b ∧ b < w.heap.size) (.slice A n c) (.sl rows) :=
 h.parts.sep hn hm h.lens (hn ▸ h.own) (fun g hg => ⟨⟨h.ownI g hg, (h.own.lt g hg).2⟩, fun hc => hc.2 hg⟩) (fun _ hb => hb.1)
end
end Go.Proofs.YtolndlmhbnpmeaaDoor

/- Words for the flattening: both functions. -/
import Derived.Test.YtlgbdpcobbbglaaFlp
import Derived.Test.YtlgbdpcobbbglaaChg
import Derived.Outline
namespace Go.Proofs.Ytlgbdpcobbbglaa
open Go.RowKit

def noP (_ : Nat) : Prop := False
theorem blkS5 {w : World} {g : Nat} {t : TypeId} {a b c d e : Value} (h : Blk w g t #[a, b, c, d, e]) : w.cell? ⟨g, 0, none⟩ = some a ∧ w.cell? ⟨g, 1, none⟩ = some b ∧ w.cell? ⟨g, 2, none⟩ = some c ∧ w.cell? ⟨g, 3, none⟩ = some d ∧ w.cell? ⟨g, 4, none⟩ = some e := ⟨h.cell 0, h.cell 1, h.cell 2, h.cell 3, h.cell 4⟩
theorem own_far {w : World} {base size n : Nat} {e : TypeId} {v : Value} {xs : List Value} {p : Addr} (h : w.ownsRow base e size v n xs) (hp : ∀ g, v.ownBlock = some g → g ≠ p.block) (u : Value) : (w.setCell p u).ownsRow base e size v n xs :=
 own_keep h (fun g hg => Below.heap_setCell w p u g (hp g hg))
/-- the operator as it stands in the flat module -/
theorem opF_1 {param : Int} {ids : List Int} {a b : Int} : opF param ids (1, a, b) = (0, param, 0) := by unfold opF; rw [if_pos rfl]
theorem opF_sig {param : Int} {ids : List Int} {q a b : Int} (h1 : q ≠ 1) (h : q = 2 ∨ q = 3) : opF param ids (q, a, b) = (q, ids.getD a.toNat 0, b) := by unfold opF; rw [if_neg h1, if_pos h]
theorem opF_else {param : Int} {ids : List Int} {q a b : Int} (h1 : q ≠ 1) (h2 : q ≠ 2) (h3 : q ≠ 3) : opF param ids (q, a, b) = (q, a, b) := by unfold opF; rw [if_neg h1, if_neg (by rintro (h | h) <;> contradiction)]
theorem ids_at {ids : List Int} {n : Nat} (hl : ids.length = n) {a : Int} (h0 : 0 ≤ a) (h1 : a < n) : ∃ (an : Nat) (v : Int), a = (an : Int) ∧ an < n ∧ ids[an]? = some v ∧ ids.getD a.toNat 0 = v := by
 obtain ⟨an, rfl⟩ := Int.eq_ofNat_of_zero_le h0
 have hx : ids[an]? = some (ids[an]'(by omega)) := List.getElem?_eq_getElem (by omega)
 exact ⟨an, _, rfl, by omega, hx, by simp [List.getD, hx]⟩
theorem map_snocF {α β : Type} {g : α → β} {l : List α} {k : Nat} {x : α} (h : l[k]? = some x) : (l.take (k + 1)).map g = (l.take k).map g ++ [g x] := by
 rw [List.take_add_one, h, List.map_append]
 rfl
theorem rep_at {l : List Int} {j n : Nat} (hl : l.length = j) (hj : j < n) : (l ++ List.replicate (n - j) 0)[j]? = some 0 := by
 rw [List.getElem?_append_right (by omega), hl, Nat.sub_self]
 obtain ⟨q, hq⟩ : ∃ q, n - j = q + 1 := ⟨n - j - 1, by omega⟩
 rw [hq]
 rfl
theorem rep_set {l : List Int} {j n : Nat} (hl : l.length = j) (hj : j < n) (v : Int) : (l ++ List.replicate (n - j) 0).set j v = (l ++ [v]) ++ List.replicate (n - (j + 1)) 0 := by
 obtain ⟨q, hq⟩ : ∃ q, n - j = q + 1 := ⟨n - j - 1, by omega⟩
 have h2 : n - (j + 1) = q := by omega
 rw [hq, h2, ← hl]
 exact set_app l q v
/-- a block of another type is written -/
theorem fl_other {w : World} {g lo : Nat} {t : TypeId} {v0 v1 v3 : Value} {sg : List TSignal} {ag : List TAssign} {mm : List TMem} (h : FlS w lo v0 v1 v3 sg ag mm) (hb : OfT w t g) (ht : t ∉ [73, 76, 78, 80]) (i : Nat) (u : Value) : FlS (w.setCell ⟨g, i, none⟩ u) lo v0 v1 v3 sg ag mm :=
 h.only ((Only.refl (fun b => b = g) w).setCell (p := ⟨g, i, none⟩) (.inl rfl) u) (fun b t' hb' _ ht' => by subst hb'; rw [← hb.inj ht']; exact ht)
theorem ChP.rowN {lo : Nat} {ts : List TypeId} {P : Nat → Prop} {w w' w'' : World} {base size n : Nat} {e : TypeId} {v : Value} {xs : List Value} (h : ChP lo ts P w w') (ho : w'.ownsRow base e size v n xs) (hb : w.heap.size ≤ base) (hg : w'.grownBy w'' v.ownBlock) : ChP lo ts P w w'' :=
 h.trans' (Q := fun b => v.ownBlock = some b) ⟨fun b => v.ownBlock = some b, only_row hg, fun b hb _ => .inl hb⟩ (fun b hb' hl => by have := (ho.lt b hb').1; omega)
end Go.Proofs.Ytlgbdpcobbbglaa

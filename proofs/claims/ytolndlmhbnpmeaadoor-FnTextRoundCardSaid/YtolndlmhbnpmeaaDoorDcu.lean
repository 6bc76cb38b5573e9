/- Words for draws: cursors, rows of their own, worlds that grow. -/
import Derived.Test.YtolndlmhbnpmeaaDoorGm
import Derived.Test.YtolndlmhbnpmeaaDoorGa
namespace Go.Proofs.YtolndlmhbnpmeaaDoor
open Go.RowKit

theorem below_curL' {w0 w w' : World} {B B0 g : Nat} (hb : Below B0 w0 w) (hc : Cur B g w) (hB : B0 ≤ g) (hg : w.grownBy w' (some g)) : Below B0 w0 w' :=
 hb.trans (below_of_grown hg (by have := hc.lt; omega) (fun k hk => by injection hk with hk; omega))
theorem cur_drew {B g : Nat} {w : World} (h : Cur B g w) : Cur B g w.drew := h
theorem own_cell {w : World} {lo n c k : Nat} {ad : Addr} {l : List Int} {e : TypeId} {x : Int} (h : w.ownsRow lo e 1 (.slice (some ad) n c) n (ints l)) (hx : l[k]? = some x) : w.cell? (ad.add k) = some (.int .i64 x) := by
 have hk : k < n := by have h1 := h.1; rw [ints_len] at h1; have := (List.getElem?_eq_some_iff.1 hx).1; omega
 obtain ⟨ad', u, hA2, _, hu, hc⟩ := (Reads.of_own h).at_ hk
 injection hA2 with hA2
 subst hA2
 rw [ints_get, hx] at hu
 injection hu with hu
 subst hu
 exact hc
theorem own_grown {w w' : World} {lo g n size : Nat} {e : TypeId} {v : Value} {xs : List Value} (h : w.ownsRow lo e size v n xs) (hlo : g < lo) (hg : w.grownBy w' (some g)) : w'.ownsRow lo e size v n xs := by
 refine h.kept (row := some g) hg ?_
 cases hv : v.ownBlock with
 | none => exact .inl rfl
 | some b => exact .inr (fun e => by injection e with e; have := h.lt b hv; omega)
theorem own_atD {w : World} {lo n c : Nat} {A : Option Addr} {l : List Int} {e : TypeId} (h : w.ownsRow lo e 1 (.slice A n c) n (ints l)) {k : Nat} (hk : k < n) : ∃ (ad : Addr) (x : Int), A = some ad ∧ ad.block < w.heap.size ∧ lo ≤ ad.block ∧ l[k]? = some x ∧ w.cell? (ad.add k) = some (.int .i64 x) := by
 obtain ⟨A', c', hv, _, _, h3⟩ := own_form h
 injection hv with hA hN hC
 obtain ⟨g, hg, h1, h2⟩ := h3 (by omega)
 obtain ⟨ad, u, hA2, _, hu, hc⟩ := (Reads.of_own h).at_ hk
 rw [hA, hg] at hA2
 injection hA2 with hA2
 subst hA2
 rw [ints_get] at hu
 cases hx : l[k]? with
 | none => rw [hx] at hu; cases hu
 | some x => rw [hx] at hu; injection hu with hu; subst hu; exact ⟨⟨g, 0, none⟩, x, by rw [hA, hg], h2, h1, rfl, hc⟩
theorem grown_alloc' {w w1 : World} {row : Option Nat} (h : w.grownBy w1 row) (o : Obj) : w.grownBy (w1.alloc o) row := h.trans (World.grownBy_alloc _ _ _)
theorem grown_more {w w1 w2 : World} {g : Nat} {row : Option Nat} (h : w.grownBy w1 (some g)) (hg : w1.grownBy w2 row) (hr : ∀ b, row = some b → w.heap.size ≤ b) : w.grownBy w2 (some g) :=
 ⟨hg.os.trans h.os, hg.tape.trans h.tape, hg.output.trans h.output, Nat.le_trans h.size hg.size, fun b hb hne => (hg.block b (Nat.lt_of_lt_of_le hb h.size) (fun e => by have := hr b e.symm; omega)).trans (h.block b hb hne)⟩
/-- a row of the old world stays when a block of its own, newer than the old world, grows -/
theorem own_row {w0 w w' : World} {lo n size : Nat} {e : TypeId} {v : Value} {xs : List Value} {row : Option Nat} (h : w.ownsRow lo e size v n xs) (h0 : w0.ownsRow lo e size v n xs) (hg : w.grownBy w' row) (hr : ∀ b, row = some b → w0.heap.size ≤ b) : w'.ownsRow lo e size v n xs := by
 refine h.kept (row := row) hg ?_
 cases hv : v.ownBlock with
 | none => exact .inl rfl
 | some b => exact .inr (fun e => by have h1 := hr b e.symm; have := (h0.lt b hv).2; omega)
def placeL (n : Int) : List Int := [-1, n, n + 1, 9223372036854775807, -9223372036854775808]
theorem placeL_cell {w : World} {n : Int} {j : Nat} {x : Int} (hj : (placeL n)[j]? = some x) : (w.alloc (.cells #[.int .i64 (-1), .int .i64 n, .int .i64 (n + 1), .int .i64 9223372036854775807, .int .i64 (-9223372036854775808)] 3)).cell? ((⟨w.heap.size, 0, none⟩ : Addr).add j) = some (.int .i64 x) := by
 rw [show (⟨w.heap.size, 0, none⟩ : Addr).add j = ⟨w.heap.size, j, none⟩ by unfold Addr.add; split <;> simp_all]
 rw [(Blk.new w 3 _).cell j]
 unfold placeL at hj
 match j, hj with
 | 0, h | 1, h | 2, h | 3, h | 4, h => simp at h ⊢; exact h
 | j + 5, h => simp at h
end Go.Proofs.YtolndlmhbnpmeaaDoor

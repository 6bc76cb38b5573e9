/- Contracts: drawn texts. -/
import Derived.Test.YtkidchinoilgdaaDoorDrawN
import Derived.Laws.MakeOwn
namespace Go.Proofs.YtkidchinoilgdaaDoor
open Go.RowKit

theorem Cur.grown {B g : Nat} {w w' : World} {row : Option Nat} (h : Cur B g w) (hg : w.grownBy w' row) (hr : ∀ k, row = some k → B ≤ k ∧ k ≠ g) : Cur B g w' := by
 have hl := h.lt
 obtain ⟨A, n, c, l, i, hh, hB, hBg, hr0, hin, hn⟩ := h
 exact ⟨A, n, c, l, i, hh, hB.grown hg (fun e => (hr g e.symm).2 rfl), hBg, hr0.grown hg (by omega) (fun k hk => (hr k hk).1), hin, hn⟩
/-- a drawn text of at most m bytes -/
def DrawStr (B g m : Nat) (w : World) (e : Ending) (w' : World) : Prop := ∃ s : ByteArray, e = .returned (.string s) ∧ s.size ≤ m ∧ Cur B g w' ∧ w.grownBy w' (some g)

theorem bys_snoc (l : List UInt8) (x : Int) (h0 : 0 ≤ x) (h1 : x < 256) : bys l ++ [.int .u8 x] = bys (l ++ [UInt8.ofNat x.toNat]) := by
 simp only [bys, List.map_append, List.map_cons, List.map_nil]
 congr 3
 rw [UInt8.toNat_ofNat']
 omega
theorem grown_push_at {w w1 w2 : World} {g base n size : Nat} {e : TypeId} {o : Obj} {v : Value} {xs : List Value} (h : w.grownBy w1 (some g)) (hown : w1.ownsRow base e size v n xs) (hB : w.heap.size ≤ base) (hg : (w1.alloc o).grownBy w2 v.ownBlock) : w.grownBy w2 (some g) := by
 have h2 := grown_push hg
 refine grown_below h (below_of_grown h2 (B := w.heap.size) h.size ?_) (Nat.le_refl _)
 intro k hk
 have := hown.lt k hk
 omega

theorem made_bys (n : Nat) : (madeCells #[.int .u8 0] n).toList = bys (List.replicate n 0) := by
 simp only [madeCells, bys, Array.toList_map, Array.toList_range, List.map_replicate]
 rw [List.eq_replicate_iff]
 refine ⟨by simp, fun b hb => ?_⟩
 obtain ⟨i, _, rfl⟩ := List.mem_map.1 hb
 show (#[Value.int .u8 0])[i % 1]! = _
 rw [Nat.mod_one]
 rfl
theorem own_bytes {w : World} {n : Nat} (hn : n ≤ maxLen) : (w.alloc (.cells (madeCells #[.int .u8 0] n) 5)).ownsRow w.heap.size 5 1 (.slice (some ⟨w.heap.size, 0, none⟩) n n) n (bys (List.replicate n 0)) :=
 ⟨by simp [bys], .inr ⟨w.heap.size, n, madeCells #[.int .u8 0] n, rfl, Nat.le_refl _, heap_alloc_new w _, Nat.le_refl _, hn, by simp [size_madeCells], by rw [made_bys]; simp [bys]⟩⟩
theorem bys_set (l : List UInt8) (k x : Nat) (hx : x < 256) : (bys l).set k (.int .u8 x) = bys (l.set k (UInt8.ofNat x)) := by
 simp only [bys, List.map_set]
 congr 2
 rw [UInt8.toNat_ofNat', Nat.mod_eq_of_lt hx]

end Go.Proofs.YtkidchinoilgdaaDoor

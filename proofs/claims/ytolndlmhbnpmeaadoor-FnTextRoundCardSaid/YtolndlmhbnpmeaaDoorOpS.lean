/- Contracts: lists of Op in the laws: the size, the copy, equality, marks. -/
import Derived.Test.YtolndlmhbnpmeaaDoorGa
import Derived.Outline
namespace Go.Proofs.YtolndlmhbnpmeaaDoor
open Go.RowKit

def eOp (x : Int × Int × Int) : List Int := [x.1, x.2.1, x.2.2]
theorem eOp_len (x : Int × Int × Int) : (eOp x).length = 3 := rfl
theorem Reads.atOp {w : World} {B n : Nat} {A : Option Addr} {l : List (Int × Int × Int)} (h : Reads w B 3 A n (recs eOp l)) {k : Nat} (hk : k < n) :
  ∃ (ad : Addr) (c0 c1 c2 : Int), A = some ad ∧ ad.block < B ∧ l[k]? = some (c0, c1, c2) ∧ w.cell? (ad.add (k * 3)) = some (.int .i64 c0) ∧ w.cell? (nxt (ad.add (k * 3)) 1) = some (.int .i64 c1) ∧ w.cell? (nxt (ad.add (k * 3)) 2) = some (.int .i64 c2) := by
 obtain ⟨ad, x, rfl, hb, hx, hc⟩ := Reads.rec_at eOp_len (by decide) h hk
 exact ⟨ad, x.1, x.2.1, x.2.2, rfl, hb, hx, hc 0 x.1 rfl, by rw [nxt_add _ _ (by decide)]; exact hc 1 (x.2.1) rfl, by rw [nxt_add _ _ (by decide)]; exact hc 2 (x.2.2) rfl⟩
theorem eOp_clen {w : World} {B n : Nat} {A : Option Addr} {l : List (Int × Int × Int)} (h : Reads w B 3 A n (recs eOp l)) : l.length = n := Reads.rlen eOp_len (by decide) h
theorem eOp_set : ∀ (l : List (Int × Int × Int)) (k : Nat) (b0 b1 b2 : Int), (((recs eOp l).set (k * 3) (.int .i64 b0)).set (k * 3 + 1) (.int .i64 b1)).set (k * 3 + 2) (.int .i64 b2) = recs eOp (l.set k (b0, b1, b2))
 | [], k, b0, b1, b2 => by simp [recs]
 | (a0, a1, a2) :: l, 0, b0, b1, b2 => by simp [recs, eOp]
 | (a0, a1, a2) :: l, k + 1, b0, b1, b2 => by
  have ih := eOp_set l k b0 b1 b2
  have e0 : recs eOp ((a0, a1, a2) :: l) = .int .i64 a0 :: .int .i64 a1 :: .int .i64 a2 :: recs eOp l := rfl
  rw [e0, show (k + 1) * 3 + 2 = (k * 3 + 2) + 1 + 1 + 1 by omega, show (k + 1) * 3 + 1 = (k * 3 + 1) + 1 + 1 + 1 by omega, show (k + 1) * 3 = (k * 3) + 1 + 1 + 1 by omega]
  simp only [List.set_cons_succ, ih]
  rfl
theorem Tryd.infoOp : (Tryd.prog.info? 71).map (fun i => (i.zero, i.size, i.bytes)) = some (some (.agg #[.int .i64 0, .int .i64 0, .int .i64 0]), 3, 24) := by kernel_rfl
/-- a list in memory of the call's own -/
def OwnOp (l : List (Int × Int × Int)) (w : World) (e : Ending) (w' : World) : Prop :=
 ∃ A c, e = .returned (.slice A l.length c) ∧ w'.ownsRow w.heap.size 71 3 (.slice A l.length c) l.length (recs eOp l) ∧ Below w.heap.size w w'

theorem madeOp (n : Nat) : (madeCells #[.int .i64 0, .int .i64 0, .int .i64 0] (n * 3)).toList = recs eOp (List.replicate n (0, 0, 0)) := by
 apply List.ext_getElem?
 intro j
 by_cases hj : j < n * 3
 ·have hj2 : j = j / 3 * 3 + j % 3 := by omega
  have hg := recs_get eOp_len (j % 3) (by omega) (List.replicate n ((0, 0, 0) : Int × Int × Int)) (j / 3)
  rw [← hj2] at hg
  rw [hg, List.getElem?_replicate, if_pos (by omega)]
  have hm : j % 3 = 0 ∨ j % 3 = 1 ∨ j % 3 = 2 := by omega
  rcases hm with h | h | h <;> simp [madeCells, hj, h, eOp]
 ·rw [List.getElem?_eq_none (by simp [madeCells]; omega), List.getElem?_eq_none (by rw [recs_len eOp_len]; simp; omega)]
theorem ownOp {w : World} {n : Nat} (hn : n ≤ maxLen) : (w.alloc (.cells (madeCells #[.int .i64 0, .int .i64 0, .int .i64 0] (n * 3)) 71)).ownsRow w.heap.size 71 3 (.slice (some ⟨w.heap.size, 0, none⟩) n n) n (recs eOp (List.replicate n (0, 0, 0))) :=
 ⟨by rw [recs_len eOp_len]; simp, .inr ⟨w.heap.size, n, madeCells #[.int .i64 0, .int .i64 0, .int .i64 0] (n * 3), rfl, Nat.le_refl _, heap_alloc_new w _, Nat.le_refl _, hn, by simp [size_madeCells], by rw [madeOp, List.take_of_length_le]; rw [recs_len eOp_len]; simp⟩⟩
theorem set_takeOp {α : Type} {l m : List α} {k : Nat} {x : α} (h : l.take k = m.take k) (hl : k < l.length) (hm : m[k]? = some x) : (l.set k x).take (k + 1) = m.take (k + 1) := by
 rw [List.take_add_one, List.take_add_one, List.take_set_of_le (Nat.le_refl _), h, hm, List.getElem?_set_self hl]

end Go.Proofs.YtolndlmhbnpmeaaDoor

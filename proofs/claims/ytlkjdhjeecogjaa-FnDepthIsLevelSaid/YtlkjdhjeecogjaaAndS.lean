/- Contracts: lists of And in the laws: the size, the copy, equality, marks. -/
import Derived.Test.YtlkjdhjeecogjaaGa
import Derived.Outline
namespace Go.Proofs.Ytlkjdhjeecogjaa
open Go.RowKit

def eAnd (x : Int × Int) : List Int := [x.1, x.2]
theorem eAnd_len (x : Int × Int) : (eAnd x).length = 2 := rfl
theorem Reads.atAnd {w : World} {B n : Nat} {A : Option Addr} {l : List (Int × Int)} (h : Reads w B 2 A n (recs eAnd l)) {k : Nat} (hk : k < n) :
  ∃ (ad : Addr) (c0 c1 : Int), A = some ad ∧ ad.block < B ∧ l[k]? = some (c0, c1) ∧ w.cell? (ad.add (k * 2)) = some (.int .i64 c0) ∧ w.cell? (nxt (ad.add (k * 2)) 1) = some (.int .i64 c1) := by
 obtain ⟨ad, x, rfl, hb, hx, hc⟩ := Reads.rec_at eAnd_len (by decide) h hk
 exact ⟨ad, x.1, x.2, rfl, hb, hx, hc 0 x.1 rfl, by rw [nxt_add _ _ (by decide)]; exact hc 1 (x.2) rfl⟩
theorem eAnd_clen {w : World} {B n : Nat} {A : Option Addr} {l : List (Int × Int)} (h : Reads w B 2 A n (recs eAnd l)) : l.length = n := Reads.rlen eAnd_len (by decide) h
theorem eAnd_set : ∀ (l : List (Int × Int)) (k : Nat) (b0 b1 : Int), ((recs eAnd l).set (k * 2) (.int .i64 b0)).set (k * 2 + 1) (.int .i64 b1) = recs eAnd (l.set k (b0, b1))
 | [], k, b0, b1 => by simp [recs]
 | (a0, a1) :: l, 0, b0, b1 => by simp [recs, eAnd]
 | (a0, a1) :: l, k + 1, b0, b1 => by
  have ih := eAnd_set l k b0 b1
  have e0 : recs eAnd ((a0, a1) :: l) = .int .i64 a0 :: .int .i64 a1 :: recs eAnd l := rfl
  rw [e0, show (k + 1) * 2 + 1 = (k * 2 + 1) + 1 + 1 by omega, show (k + 1) * 2 = (k * 2) + 1 + 1 by omega]
  simp only [List.set_cons_succ, ih]
  rfl
theorem Try.infoAnd : (Try.prog.info? 87).map (fun i => (i.zero, i.size, i.bytes)) = some (some (.agg #[.int .i64 0, .int .i64 0]), 2, 16) := by kernel_rfl
/-- a list in memory of the call's own -/
def OwnAnd (l : List (Int × Int)) (w : World) (e : Ending) (w' : World) : Prop :=
 ∃ A c, e = .returned (.slice A l.length c) ∧ w'.ownsRow w.heap.size 87 2 (.slice A l.length c) l.length (recs eAnd l) ∧ Below w.heap.size w w'

theorem madeAnd (n : Nat) : (madeCells #[.int .i64 0, .int .i64 0] (n * 2)).toList = recs eAnd (List.replicate n (0, 0)) := by
 apply List.ext_getElem?
 intro j
 by_cases hj : j < n * 2
 ·have hj2 : j = j / 2 * 2 + j % 2 := by omega
  have hg := recs_get eAnd_len (j % 2) (by omega) (List.replicate n ((0, 0) : Int × Int)) (j / 2)
  rw [← hj2] at hg
  rw [hg, List.getElem?_replicate, if_pos (by omega)]
  have hm : j % 2 = 0 ∨ j % 2 = 1 := by omega
  rcases hm with h | h <;> simp [madeCells, hj, h, eAnd]
 ·rw [List.getElem?_eq_none (by simp [madeCells]; omega), List.getElem?_eq_none (by rw [recs_len eAnd_len]; simp; omega)]
theorem ownAnd {w : World} {n : Nat} (hn : n ≤ maxLen) : (w.alloc (.cells (madeCells #[.int .i64 0, .int .i64 0] (n * 2)) 87)).ownsRow w.heap.size 87 2 (.slice (some ⟨w.heap.size, 0, none⟩) n n) n (recs eAnd (List.replicate n (0, 0))) :=
 ⟨by rw [recs_len eAnd_len]; simp, .inr ⟨w.heap.size, n, madeCells #[.int .i64 0, .int .i64 0] (n * 2), rfl, Nat.le_refl _, heap_alloc_new w _, Nat.le_refl _, hn, by simp [size_madeCells], by rw [madeAnd, List.take_of_length_le]; rw [recs_len eAnd_len]; simp⟩⟩
theorem set_takeAnd {α : Type} {l m : List α} {k : Nat} {x : α} (h : l.take k = m.take k) (hl : k < l.length) (hm : m[k]? = some x) : (l.set k x).take (k + 1) = m.take (k + 1) := by
 rw [List.take_add_one, List.take_add_one, List.take_set_of_le (Nat.le_refl _), h, hm, List.getElem?_set_self hl]

end Go.Proofs.Ytlkjdhjeecogjaa

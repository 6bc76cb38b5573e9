/- Contracts: a sequential element in the laws: the size, the copy, equality of equals. -/
import Derived.Test.YtlkjdhjeecogjaaGa
import Derived.Outline
namespace Go.Proofs.Ytlkjdhjeecogjaa
open Go.RowKit

abbrev Seq3 := Int × Int × List Int
def rSeq (x : Seq3) : List Fd := [.int x.1, .int x.2.1, fints x.2.2]
def fSeqS (l : List Seq3) : Fd := .sl (l.map rSeq)
theorem rSeq_len (l : List Seq3) : ∀ r ∈ l.map rSeq, r.length = 3 := by
 intro r hr
 obtain ⟨x, _, rfl⟩ := List.mem_map.1 hr
 rfl

theorem fSeqS_row {w : World} {S : Nat → Prop} {A : Option Addr} {n c k : Nat} {ls : List Seq3} (h : Rep w S (.slice A n c) (fSeqS ls)) (hk : k < n) :
  ∃ (ad : Addr) (a b : Int) (l : List Int) (A' : Option Addr) (c' : Nat), A = some ad ∧ S ad.block ∧ ls[k]? = some (a, b, l) ∧ l.length ≤ maxLen ∧ Rep w S (.slice A' l.length c') (fints l) ∧
   w.cell? (ad.add (k * 3)) = some (.int .i64 a) ∧ w.cell? (nxt (ad.add (k * 3)) 1) = some (.int .i64 b) ∧ w.cell? (nxt (ad.add (k * 3)) 2) = some (.slice A' l.length c') := by
 obtain ⟨ad, r, rfl, hb, hr, hmem, hc⟩ := h.row hk
 have hl := h.len
 rw [List.length_map] at hl
 have hx : ls[k]? = some ls[k] := List.getElem?_eq_getElem (by omega)
 rw [List.getElem?_map, hx] at hr
 injection hr with hr
 generalize ls[k] = x at hx hr
 obtain ⟨a, b, l⟩ := x
 subst hr
 obtain ⟨v0, h0, r0⟩ := hc 0 (.int a) rfl
 obtain ⟨v1, h1, r1⟩ := hc 1 (.int b) rfl
 obtain ⟨v2, h2, r2⟩ := hc 2 (fints l) rfl
 rw [r0.int_val] at h0
 rw [r1.int_val] at h1
 obtain ⟨A', c', rfl, hm⟩ := r2.sl_val
 rw [List.length_map] at h2 r2 hm
 exact ⟨ad, a, b, l, A', c', rfl, hb, hx, hm, r2, h0, by rw [nxt_add _ _ (by decide)]; exact h1, by rw [nxt_add _ _ (by decide)]; exact h2⟩

theorem Try.infoSeq : (Try.prog.info? 139).map (fun i => (i.zero, i.size, i.bytes)) = some (some (.agg #[.int .i64 0, .int .i64 0, .slice none 0 0]), 3, 40) := by kernel_rfl
theorem ownSeq {w : World} {n : Nat} (hn : n ≤ maxLen) : (w.alloc (.cells (madeCells #[.int .i64 0, .int .i64 0, .slice none 0 0] (n * 3)) 139)).ownsRow w.heap.size 139 3 (.slice (some ⟨w.heap.size, 0, none⟩) n n) n (madeCells #[.int .i64 0, .int .i64 0, .slice none 0 0] (n * 3)).toList :=
 ⟨by simp [size_madeCells], .inr ⟨w.heap.size, n, madeCells #[.int .i64 0, .int .i64 0, .slice none 0 0] (n * 3), rfl, Nat.le_refl _, heap_alloc_new w _, Nat.le_refl _, hn, by simp [size_madeCells], by rw [List.take_of_length_le]; simp [size_madeCells]⟩⟩
theorem set3_old {xs : List Value} {k p : Nat} {a b c : Value} (h : p < k * 3) : (((xs.set (k * 3) a).set (k * 3 + 1) b).set (k * 3 + 2) c)[p]? = xs[p]? := by
 rw [List.getElem?_set_ne (by omega), List.getElem?_set_ne (by omega), List.getElem?_set_ne (by omega)]
theorem set3_new {xs : List Value} {k : Nat} {a b c : Value} (h : k * 3 + 2 < xs.length) :
  (((xs.set (k * 3) a).set (k * 3 + 1) b).set (k * 3 + 2) c)[k * 3 + 0]? = some a ∧ (((xs.set (k * 3) a).set (k * 3 + 1) b).set (k * 3 + 2) c)[k * 3 + 1]? = some b ∧ (((xs.set (k * 3) a).set (k * 3 + 1) b).set (k * 3 + 2) c)[k * 3 + 2]? = some c := by
 refine ⟨?_, ?_, ?_⟩
 ·rw [List.getElem?_set_ne (by omega), List.getElem?_set_ne (by omega)]
  exact List.getElem?_set_self (by omega)
 ·rw [List.getElem?_set_ne (by omega), List.getElem?_set_self (by simp; omega)]
 ·rw [List.getElem?_set_self (by simp; omega)]

end Go.Proofs.Ytlkjdhjeecogjaa

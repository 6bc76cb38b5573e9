/- Words and contracts that later texts use. -/
import Derived.Test.YtolndlmhbnpmeaaDoorGc
import Derived.Outline
/- Contracts: Signal in the laws: the size, the copy, equality of equals, marks. -/
namespace Go.Proofs.YtolndlmhbnpmeaaDoor
open Go.RowKit

abbrev TSignal := Int × Int × Int
def rSignal (x : TSignal) : List Fd := [.int x.1, .int x.2.1, .int x.2.2]
theorem rSignal_len (x : TSignal) : (rSignal x).length = 3 := rfl
def fSignalS (l : List TSignal) : Fd := .sl (l.map rSignal)
theorem rSignal_lens (l : List TSignal) : ∀ r ∈ l.map rSignal, r.length = 3 := by
 intro r hr
 obtain ⟨x, _, rfl⟩ := List.mem_map.1 hr
 rfl
def sSignal (_ : TSignal) : Nat := 0
def nSignal (_ : TSignal) : Nat := 1 + 1 + 1
def kSignal (k : Nat) (_ : TSignal) : TSignal := (((k : Nat) : Int), (((k + 1) : Nat) : Int), ((((k + 1) + 1) : Nat) : Int))
theorem nSignal_le (x : TSignal) : nSignal x ≤ 4 + 4 * sSignal x := by simp only [nSignal, sSignal]; omega
theorem nuL_Signal_le (l : List TSignal) : nuL nSignal l ≤ 4 * szL sSignal l := nuL_le4 (fun x => by have := nSignal_le x; omega) l
/-- v is such a struct -/
def RSignal (_w : World) (_S : Nat → Prop) (v : Value) (x : TSignal) : Prop := v = .agg #[.int .i64 (x.1), .int .i64 (x.2.1), .int .i64 (x.2.2)]
/-- .. in memory of its own -/
def QSignal (_w : World) (S : Nat → Prop) (v : Value) (x : TSignal) : Prop := ∃  (P : Nat → Nat → Prop), v = .agg #[.int .i64 (x.1), .int .i64 (x.2.1), .int .i64 (x.2.2)] ∧ (∀ j b, P j b → S b) ∧ (∀ i j b, P i b → P j b → i = j)
theorem QSignal.r {w : World} {S : Nat → Prop} {v : Value} {x : TSignal} (h : QSignal w S v x) : RSignal w S v x := by
 obtain ⟨P, rfl, hP, _⟩ := h
 exact rfl
theorem fSignalS_row {w : World} {S : Nat → Prop} {A : Option Addr} {n c k : Nat} {l : List TSignal} (h : Rep w S (.slice A n c) (fSignalS l)) (hk : k < n) :
  ∃ (ad : Addr) (x0 : Int) (x1 : Int) (x2 : Int), A = some ad ∧ S ad.block ∧ l[k]? = some (x0, x1, x2) ∧ w.cell? (ad.add (k * 3)) = some (.int .i64 x0) ∧ w.cell? (nxt (ad.add (k * 3)) 1) = some (.int .i64 x1) ∧ w.cell? (nxt (ad.add (k * 3)) 2) = some (.int .i64 x2) := by
 obtain ⟨ad, r, rfl, hb, hr, _, hc⟩ := h.row hk
 have hl := h.len
 rw [List.length_map] at hl
 have hx : l[k]? = some l[k] := List.getElem?_eq_getElem (by omega)
 rw [List.getElem?_map, hx] at hr
 injection hr with hr
 generalize l[k] = x at hx hr
 obtain ⟨x0, x1, x2⟩ := x
 subst hr
 obtain ⟨v0, c0, h0⟩ := hc 0 (.int x0) rfl
 rw [h0.int_val] at c0
 obtain ⟨v1, c1, h1⟩ := hc 1 (.int x1) rfl
 rw [h1.int_val] at c1
 obtain ⟨v2, c2, h2⟩ := hc 2 (.int x2) rfl
 rw [h2.int_val] at c2
 exact ⟨ad, x0, x1, x2, rfl, hb, hx, c0, by rw [nxt_add _ _ (by decide)]; exact c1, by rw [nxt_add _ _ (by decide)]; exact c2⟩

theorem Tryd.infSignal : (Tryd.prog.info? 66).map (fun i => (i.zero, i.size, i.bytes)) = some (some (.agg #[.int .i64 0, .int .i64 0, .int .i64 0]), 3, 24) := by kernel_rfl
theorem ownSignalD {w : World} {n : Nat} (hn : n ≤ maxLen) : (w.alloc (.cells (madeCells #[.int .i64 0, .int .i64 0, .int .i64 0] (n * 3)) 66)).ownsRow w.heap.size 66 3 (.slice (some ⟨w.heap.size, 0, none⟩) n n) n (madeCells #[.int .i64 0, .int .i64 0, .int .i64 0] (n * 3)).toList :=
 ⟨by simp [size_madeCells], .inr ⟨w.heap.size, n, madeCells #[.int .i64 0, .int .i64 0, .int .i64 0] (n * 3), rfl, Nat.le_refl _, heap_alloc_new w _, Nat.le_refl _, hn, by simp [size_madeCells], by rw [List.take_of_length_le]; simp [size_madeCells]⟩⟩
theorem setSignal_old {xs : List Value} {k p : Nat} {a0 a1 a2 : Value} (h : p < k * 3) : (((xs.set (k * 3) a0).set (k * 3 + 1) a1).set (k * 3 + 2) a2)[p]? = xs[p]? := by
 rw [List.getElem?_set_ne (by omega), List.getElem?_set_ne (by omega), List.getElem?_set_ne (by omega)]
theorem setSignal_new {xs : List Value} {k : Nat} {a0 a1 a2 : Value} (h : k * 3 + 2 < xs.length) :
  (((xs.set (k * 3) a0).set (k * 3 + 1) a1).set (k * 3 + 2) a2)[k * 3 + 0]? = some a0 ∧ (((xs.set (k * 3) a0).set (k * 3 + 1) a1).set (k * 3 + 2) a2)[k * 3 + 1]? = some a1 ∧ (((xs.set (k * 3) a0).set (k * 3 + 1) a1).set (k * 3 + 2) a2)[k * 3 + 2]? = some a2 := by
 refine ⟨?_, ?_, ?_⟩
 ·rw [List.getElem?_set_ne (by omega), List.getElem?_set_ne (by omega)]
  exact List.getElem?_set_self (by omega)
 ·rw [List.getElem?_set_ne (by omega), List.getElem?_set_self (by simp; omega)]
 ·rw [List.getElem?_set_self (by simp; omega)]

end Go.Proofs.YtolndlmhbnpmeaaDoor

/- Contracts: Mem in the laws: the size, the copy, equality of equals, marks. -/
namespace Go.Proofs.YtolndlmhbnpmeaaDoor
open Go.RowKit

abbrev TMem := Int × Int × Int × Int
def rMem (x : TMem) : List Fd := [.int x.1, .int x.2.1, .int x.2.2.1, .int x.2.2.2]
theorem rMem_len (x : TMem) : (rMem x).length = 4 := rfl
def fMemS (l : List TMem) : Fd := .sl (l.map rMem)
theorem rMem_lens (l : List TMem) : ∀ r ∈ l.map rMem, r.length = 4 := by
 intro r hr
 obtain ⟨x, _, rfl⟩ := List.mem_map.1 hr
 rfl
def sMem (_ : TMem) : Nat := 0
def nMem (_ : TMem) : Nat := 1 + 1 + 1 + 1
def kMem (k : Nat) (_ : TMem) : TMem := (((k : Nat) : Int), (((k + 1) : Nat) : Int), ((((k + 1) + 1) : Nat) : Int), (((((k + 1) + 1) + 1) : Nat) : Int))
theorem nMem_le (x : TMem) : nMem x ≤ 4 + 4 * sMem x := by simp only [nMem, sMem]; omega
theorem nuL_Mem_le (l : List TMem) : nuL nMem l ≤ 4 * szL sMem l := nuL_le4 (fun x => by have := nMem_le x; omega) l
/-- v is such a struct -/
def RMem (_w : World) (_S : Nat → Prop) (v : Value) (x : TMem) : Prop := v = .agg #[.int .i64 (x.1), .int .i64 (x.2.1), .int .i64 (x.2.2.1), .int .i64 (x.2.2.2)]
/-- .. in memory of its own -/
def QMem (_w : World) (S : Nat → Prop) (v : Value) (x : TMem) : Prop := ∃  (P : Nat → Nat → Prop), v = .agg #[.int .i64 (x.1), .int .i64 (x.2.1), .int .i64 (x.2.2.1), .int .i64 (x.2.2.2)] ∧ (∀ j b, P j b → S b) ∧ (∀ i j b, P i b → P j b → i = j)
theorem QMem.r {w : World} {S : Nat → Prop} {v : Value} {x : TMem} (h : QMem w S v x) : RMem w S v x := by
 obtain ⟨P, rfl, hP, _⟩ := h
 exact rfl
theorem fMemS_row {w : World} {S : Nat → Prop} {A : Option Addr} {n c k : Nat} {l : List TMem} (h : Rep w S (.slice A n c) (fMemS l)) (hk : k < n) :
  ∃ (ad : Addr) (x0 : Int) (x1 : Int) (x2 : Int) (x3 : Int), A = some ad ∧ S ad.block ∧ l[k]? = some (x0, x1, x2, x3) ∧ w.cell? (ad.add (k * 4)) = some (.int .i64 x0) ∧ w.cell? (nxt (ad.add (k * 4)) 1) = some (.int .i64 x1) ∧ w.cell? (nxt (ad.add (k * 4)) 2) = some (.int .i64 x2) ∧ w.cell? (nxt (ad.add (k * 4)) 3) = some (.int .i64 x3) := by
 obtain ⟨ad, r, rfl, hb, hr, _, hc⟩ := h.row hk
 have hl := h.len
 rw [List.length_map] at hl
 have hx : l[k]? = some l[k] := List.getElem?_eq_getElem (by omega)
 rw [List.getElem?_map, hx] at hr
 injection hr with hr
 generalize l[k] = x at hx hr
 obtain ⟨x0, x1, x2, x3⟩ := x
 subst hr
 obtain ⟨v0, c0, h0⟩ := hc 0 (.int x0) rfl
 rw [h0.int_val] at c0
 obtain ⟨v1, c1, h1⟩ := hc 1 (.int x1) rfl
 rw [h1.int_val] at c1
 obtain ⟨v2, c2, h2⟩ := hc 2 (.int x2) rfl
 rw [h2.int_val] at c2
 obtain ⟨v3, c3, h3⟩ := hc 3 (.int x3) rfl
 rw [h3.int_val] at c3
 exact ⟨ad, x0, x1, x2, x3, rfl, hb, hx, c0, by rw [nxt_add _ _ (by decide)]; exact c1, by rw [nxt_add _ _ (by decide)]; exact c2, by rw [nxt_add _ _ (by decide)]; exact c3⟩

theorem Tryd.infMem : (Tryd.prog.info? 77).map (fun i => (i.zero, i.size, i.bytes)) = some (some (.agg #[.int .i64 0, .int .i64 0, .int .i64 0, .int .i64 0]), 4, 32) := by kernel_rfl
theorem ownMemD {w : World} {n : Nat} (hn : n ≤ maxLen) : (w.alloc (.cells (madeCells #[.int .i64 0, .int .i64 0, .int .i64 0, .int .i64 0] (n * 4)) 77)).ownsRow w.heap.size 77 4 (.slice (some ⟨w.heap.size, 0, none⟩) n n) n (madeCells #[.int .i64 0, .int .i64 0, .int .i64 0, .int .i64 0] (n * 4)).toList :=
 ⟨by simp [size_madeCells], .inr ⟨w.heap.size, n, madeCells #[.int .i64 0, .int .i64 0, .int .i64 0, .int .i64 0] (n * 4), rfl, Nat.le_refl _, heap_alloc_new w _, Nat.le_refl _, hn, by simp [size_madeCells], by rw [List.take_of_length_le]; simp [size_madeCells]⟩⟩
theorem setMem_old {xs : List Value} {k p : Nat} {a0 a1 a2 a3 : Value} (h : p < k * 4) : ((((xs.set (k * 4) a0).set (k * 4 + 1) a1).set (k * 4 + 2) a2).set (k * 4 + 3) a3)[p]? = xs[p]? := by
 rw [List.getElem?_set_ne (by omega), List.getElem?_set_ne (by omega), List.getElem?_set_ne (by omega), List.getElem?_set_ne (by omega)]
theorem setMem_new {xs : List Value} {k : Nat} {a0 a1 a2 a3 : Value} (h : k * 4 + 3 < xs.length) :
  ((((xs.set (k * 4) a0).set (k * 4 + 1) a1).set (k * 4 + 2) a2).set (k * 4 + 3) a3)[k * 4 + 0]? = some a0 ∧ ((((xs.set (k * 4) a0).set (k * 4 + 1) a1).set (k * 4 + 2) a2).set (k * 4 + 3) a3)[k * 4 + 1]? = some a1 ∧ ((((xs.set (k * 4) a0).set (k * 4 + 1) a1).set (k * 4 + 2) a2).set (k * 4 + 3) a3)[k * 4 + 2]? = some a2 ∧ ((((xs.set (k * 4) a0).set (k * 4 + 1) a1).set (k * 4 + 2) a2).set (k * 4 + 3) a3)[k * 4 + 3]? = some a3 := by
 refine ⟨?_, ?_, ?_, ?_⟩
 ·rw [List.getElem?_set_ne (by omega), List.getElem?_set_ne (by omega), List.getElem?_set_ne (by omega)]
  exact List.getElem?_set_self (by omega)
 ·rw [List.getElem?_set_ne (by omega), List.getElem?_set_ne (by omega), List.getElem?_set_self (by simp; omega)]
 ·rw [List.getElem?_set_ne (by omega), List.getElem?_set_self (by simp; omega)]
 ·rw [List.getElem?_set_self (by simp; omega)]

end Go.Proofs.YtolndlmhbnpmeaaDoor

/- Words and contracts that later texts use. -/
import Derived.Test.YtolndlmhbnpmeaaDoorGa
import Derived.Outline
/- Contracts: Int in the laws: the size, the copy, equality of equals, marks. -/
namespace Go.Proofs.YtolndlmhbnpmeaaDoor
open Go.RowKit

abbrev TInt := Int
def rInt (x : TInt) : List Fd := [.int x]
theorem rInt_len (x : TInt) : (rInt x).length = 1 := rfl
def fIntS (l : List TInt) : Fd := .sl (l.map rInt)
theorem rInt_lens (l : List TInt) : ∀ r ∈ l.map rInt, r.length = 1 := by
 intro r hr
 obtain ⟨x, _, rfl⟩ := List.mem_map.1 hr
 rfl
def sInt (_ : TInt) : Nat := 0
def nInt (_ : TInt) : Nat := 1
def kInt (k : Nat) (_ : TInt) : TInt := (((k : Nat) : Int))
theorem nInt_le (x : TInt) : nInt x ≤ 4 + 4 * sInt x := by simp only [nInt, sInt]; omega
theorem nuL_Int_le (l : List TInt) : nuL nInt l ≤ 4 * szL sInt l := nuL_le4 (fun x => by have := nInt_le x; omega) l
theorem fIntS_row {w : World} {S : Nat → Prop} {A : Option Addr} {n c k : Nat} {l : List TInt} (h : Rep w S (.slice A n c) (fIntS l)) (hk : k < n) :
  ∃ (ad : Addr) (x0 : Int), A = some ad ∧ S ad.block ∧ l[k]? = some x0 ∧ w.cell? (ad.add k) = some (.int .i64 x0) := by
 obtain ⟨ad, r, rfl, hb, hr, _, hc⟩ := h.row hk
 have hl := h.len
 rw [List.length_map] at hl
 have hx : l[k]? = some l[k] := List.getElem?_eq_getElem (by omega)
 rw [List.getElem?_map, hx] at hr
 injection hr with hr
 generalize l[k] = x at hx hr
 obtain ⟨x0, rfl⟩ : ∃ x0, x0 = x := ⟨x, rfl⟩
 subst hr
 obtain ⟨v0, c0, h0⟩ := hc 0 (.int x0) rfl
 rw [h0.int_val] at c0
 have c1 : w.cell? (ad.add k) = some (.int .i64 x0) := by simpa [rInt] using c0
 exact ⟨ad, x0, rfl, hb, hx, c1⟩

end Go.Proofs.YtolndlmhbnpmeaaDoor

/- Contracts: Op in the laws: the size, the copy, equality of equals, marks. -/
namespace Go.Proofs.YtolndlmhbnpmeaaDoor
open Go.RowKit

abbrev TOp := Int × Int × Int
def rOp (x : TOp) : List Fd := [.int x.1, .int x.2.1, .int x.2.2]
theorem rOp_len (x : TOp) : (rOp x).length = 3 := rfl
def fOpS (l : List TOp) : Fd := .sl (l.map rOp)
theorem rOp_lens (l : List TOp) : ∀ r ∈ l.map rOp, r.length = 3 := by
 intro r hr
 obtain ⟨x, _, rfl⟩ := List.mem_map.1 hr
 rfl
def sOp (_ : TOp) : Nat := 0
def nOp (_ : TOp) : Nat := 1 + 1 + 1
def kOp (k : Nat) (_ : TOp) : TOp := (((k : Nat) : Int), (((k + 1) : Nat) : Int), ((((k + 1) + 1) : Nat) : Int))
theorem nOp_le (x : TOp) : nOp x ≤ 4 + 4 * sOp x := by simp only [nOp, sOp]; omega
theorem nuL_Op_le (l : List TOp) : nuL nOp l ≤ 4 * szL sOp l := nuL_le4 (fun x => by have := nOp_le x; omega) l
/-- v is such a struct -/
def ROp (_w : World) (_S : Nat → Prop) (v : Value) (x : TOp) : Prop := v = .agg #[.int .i64 (x.1), .int .i64 (x.2.1), .int .i64 (x.2.2)]
/-- .. in memory of its own -/
def QOp (_w : World) (S : Nat → Prop) (v : Value) (x : TOp) : Prop := ∃  (P : Nat → Nat → Prop), v = .agg #[.int .i64 (x.1), .int .i64 (x.2.1), .int .i64 (x.2.2)] ∧ (∀ j b, P j b → S b) ∧ (∀ i j b, P i b → P j b → i = j)
theorem QOp.r {w : World} {S : Nat → Prop} {v : Value} {x : TOp} (h : QOp w S v x) : ROp w S v x := by
 obtain ⟨P, rfl, hP, _⟩ := h
 exact rfl
theorem fOpS_row {w : World} {S : Nat → Prop} {A : Option Addr} {n c k : Nat} {l : List TOp} (h : Rep w S (.slice A n c) (fOpS l)) (hk : k < n) :
  ∃ (ad : Addr) (x0 : Int) (x1 : Int) (x2 : Int), A = some ad ∧ S ad.block ∧ l[k]? = some (x0, x1, x2) ∧ w.cell? (ad.add (k * 3)) = some (.int .i64 x0) ∧ w.cell? (nxt (ad.add (k * 3)) 1) = some (.int .i64 x1) ∧ w.cell? (nxt (ad.add (k * 3)) 2) = some (.int .i64 x2) := by
 obtain ⟨ad, r, rfl, hb, hr, _, hc⟩ := h.row hk
 have hl := h.len
 rw [List.length_map] at hl
 have hx : l[k]? = some l[k] := List.getElem?_eq_getElem (by omega)
 rw [List.getElem?_map, hx] at hr
 injection hr with hr
 generalize l[k] = x at hx hr
 obtain ⟨x0, x1, x2⟩ := x
 subst hr
 obtain ⟨v0, c0, h0⟩ := hc 0 (.int x0) rfl
 rw [h0.int_val] at c0
 obtain ⟨v1, c1, h1⟩ := hc 1 (.int x1) rfl
 rw [h1.int_val] at c1
 obtain ⟨v2, c2, h2⟩ := hc 2 (.int x2) rfl
 rw [h2.int_val] at c2
 exact ⟨ad, x0, x1, x2, rfl, hb, hx, c0, by rw [nxt_add _ _ (by decide)]; exact c1, by rw [nxt_add _ _ (by decide)]; exact c2⟩

theorem Tryd.infOp : (Tryd.prog.info? 71).map (fun i => (i.zero, i.size, i.bytes)) = some (some (.agg #[.int .i64 0, .int .i64 0, .int .i64 0]), 3, 24) := by kernel_rfl
theorem ownOpD {w : World} {n : Nat} (hn : n ≤ maxLen) : (w.alloc (.cells (madeCells #[.int .i64 0, .int .i64 0, .int .i64 0] (n * 3)) 71)).ownsRow w.heap.size 71 3 (.slice (some ⟨w.heap.size, 0, none⟩) n n) n (madeCells #[.int .i64 0, .int .i64 0, .int .i64 0] (n * 3)).toList :=
 ⟨by simp [size_madeCells], .inr ⟨w.heap.size, n, madeCells #[.int .i64 0, .int .i64 0, .int .i64 0] (n * 3), rfl, Nat.le_refl _, heap_alloc_new w _, Nat.le_refl _, hn, by simp [size_madeCells], by rw [List.take_of_length_le]; simp [size_madeCells]⟩⟩
theorem setOp_old {xs : List Value} {k p : Nat} {a0 a1 a2 : Value} (h : p < k * 3) : (((xs.set (k * 3) a0).set (k * 3 + 1) a1).set (k * 3 + 2) a2)[p]? = xs[p]? := by
 rw [List.getElem?_set_ne (by omega), List.getElem?_set_ne (by omega), List.getElem?_set_ne (by omega)]
theorem setOp_new {xs : List Value} {k : Nat} {a0 a1 a2 : Value} (h : k * 3 + 2 < xs.length) :
  (((xs.set (k * 3) a0).set (k * 3 + 1) a1).set (k * 3 + 2) a2)[k * 3 + 0]? = some a0 ∧ (((xs.set (k * 3) a0).set (k * 3 + 1) a1).set (k * 3 + 2) a2)[k * 3 + 1]? = some a1 ∧ (((xs.set (k * 3) a0).set (k * 3 + 1) a1).set (k * 3 + 2) a2)[k * 3 + 2]? = some a2 := by
 refine ⟨?_, ?_, ?_⟩
 ·rw [List.getElem?_set_ne (by omega), List.getElem?_set_ne (by omega)]
  exact List.getElem?_set_self (by omega)
 ·rw [List.getElem?_set_ne (by omega), List.getElem?_set_self (by simp; omega)]
 ·rw [List.getElem?_set_self (by simp; omega)]

end Go.Proofs.YtolndlmhbnpmeaaDoor

/- Contracts: Assign in the laws: the size, the copy, equality of equals, marks. -/
namespace Go.Proofs.YtolndlmhbnpmeaaDoor
open Go.RowKit

abbrev TAssign := Int × List TOp
def rAssign (x : TAssign) : List Fd := [.int x.1, fOpS x.2]
theorem rAssign_len (x : TAssign) : (rAssign x).length = 2 := rfl
def fAssignS (l : List TAssign) : Fd := .sl (l.map rAssign)
theorem rAssign_lens (l : List TAssign) : ∀ r ∈ l.map rAssign, r.length = 2 := by
 intro r hr
 obtain ⟨x, _, rfl⟩ := List.mem_map.1 hr
 rfl
def sAssign (x : TAssign) : Nat := szL sOp x.2
def nAssign (x : TAssign) : Nat := 1 + nuL nOp x.2
def kAssign (k : Nat) (x : TAssign) : TAssign := (((k : Nat) : Int), mkL kOp nOp (k + 1) x.2)
theorem nAssign_le (x : TAssign) : nAssign x ≤ 4 + 4 * sAssign x := by simp only [nAssign, sAssign]; have h1 := nuL_Op_le x.2; omega
theorem nuL_Assign_le (l : List TAssign) : nuL nAssign l ≤ 4 * szL sAssign l := nuL_le4 (fun x => by have := nAssign_le x; omega) l
/-- v is such a struct -/
def RAssign (w : World) (S : Nat → Prop) (v : Value) (x : TAssign) : Prop := ∃ (v1 : Value), v = .agg #[.int .i64 (x.1), v1] ∧ Rep w S v1 (fOpS x.2)
/-- .. in memory of its own -/
def QAssign (w : World) (S : Nat → Prop) (v : Value) (x : TAssign) : Prop := ∃ (v1 : Value) (P : Nat → Nat → Prop), v = .agg #[.int .i64 (x.1), v1] ∧ (∀ j b, P j b → S b) ∧ (∀ i j b, P i b → P j b → i = j) ∧ Sep w (P 1) v1 (fOpS x.2)
theorem QAssign.r {w : World} {S : Nat → Prop} {v : Value} {x : TAssign} (h : QAssign w S v x) : RAssign w S v x := by
 obtain ⟨v1, P, rfl, hP, _, h1⟩ := h
 exact ⟨v1, rfl, h1.rep.mono (hP 1)⟩
theorem RAssign.keep {w w' : World} {S : Nat → Prop} {v : Value} {x : TAssign} (h : RAssign w S v x) (hk : ∀ p : Addr, S p.block → w'.cell? p = w.cell? p) : RAssign w' S v x := by
 obtain ⟨v1, e, h1⟩ := h
 exact ⟨v1, e, h1.keep hk⟩
theorem RAssign.under {w w' : World} {S : Nat → Prop} {B : Nat} {v : Value} {x : TAssign} (h : RAssign w S v x) (hS : ∀ b, S b → b < B) (hb : Below B w w') : RAssign w' S v x := h.keep fun _p hp => hb.cell (hS _ hp)
theorem RAssign.mono {w : World} {S S' : Nat → Prop} {v : Value} {x : TAssign} (h : RAssign w S v x) (hS : ∀ b, S b → S' b) : RAssign w S' v x := by
 obtain ⟨v1, e, h1⟩ := h
 exact ⟨v1, e, h1.mono hS⟩
theorem QAssign.keep {w w' : World} {S : Nat → Prop} {v : Value} {x : TAssign} (h : QAssign w S v x) (hk : ∀ b, S b → w'.heap[b]? = w.heap[b]?) : QAssign w' S v x := by
 obtain ⟨v1, P, e, hP, hd, h1⟩ := h
 exact ⟨v1, P, e, hP, hd, h1.keep (fun b hb => hk b (hP _ b hb))⟩
theorem QAssign.mono {w : World} {S S' : Nat → Prop} {v : Value} {x : TAssign} (h : QAssign w S v x) (hS : ∀ b, S b → S' b) : QAssign w S' v x := by
 obtain ⟨v1, P, e, hP, hd, h1⟩ := h
 exact ⟨v1, P, e, fun j b hb => hS b (hP j b hb), hd, h1⟩
theorem fAssignS_row {w : World} {S : Nat → Prop} {A : Option Addr} {n c k : Nat} {l : List TAssign} (h : Rep w S (.slice A n c) (fAssignS l)) (hk : k < n) :
  ∃ (ad : Addr) (x0 : Int) (x1 : List TOp) (v1 : Value), A = some ad ∧ S ad.block ∧ l[k]? = some (x0, x1) ∧ Rep w S v1 (fOpS x1) ∧ w.cell? (ad.add (k * 2)) = some (.int .i64 x0) ∧ w.cell? (nxt (ad.add (k * 2)) 1) = some (v1) := by
 obtain ⟨ad, r, rfl, hb, hr, _, hc⟩ := h.row hk
 have hl := h.len
 rw [List.length_map] at hl
 have hx : l[k]? = some l[k] := List.getElem?_eq_getElem (by omega)
 rw [List.getElem?_map, hx] at hr
 injection hr with hr
 generalize l[k] = x at hx hr
 obtain ⟨x0, x1⟩ := x
 subst hr
 obtain ⟨v0, c0, h0⟩ := hc 0 (.int x0) rfl
 rw [h0.int_val] at c0
 obtain ⟨v1, c1, h1⟩ := hc 1 (fOpS x1) rfl
 exact ⟨ad, x0, x1, v1, rfl, hb, hx, h1, c0, by rw [nxt_add _ _ (by decide)]; exact c1⟩

theorem Tryd.infAssign : (Tryd.prog.info? 69).map (fun i => (i.zero, i.size, i.bytes)) = some (some (.agg #[.int .i64 0, .slice none 0 0]), 2, 32) := by kernel_rfl
theorem ownAssignD {w : World} {n : Nat} (hn : n ≤ maxLen) : (w.alloc (.cells (madeCells #[.int .i64 0, .slice none 0 0] (n * 2)) 69)).ownsRow w.heap.size 69 2 (.slice (some ⟨w.heap.size, 0, none⟩) n n) n (madeCells #[.int .i64 0, .slice none 0 0] (n * 2)).toList :=
 ⟨by simp [size_madeCells], .inr ⟨w.heap.size, n, madeCells #[.int .i64 0, .slice none 0 0] (n * 2), rfl, Nat.le_refl _, heap_alloc_new w _, Nat.le_refl _, hn, by simp [size_madeCells], by rw [List.take_of_length_le]; simp [size_madeCells]⟩⟩
theorem setAssign_old {xs : List Value} {k p : Nat} {a0 a1 : Value} (h : p < k * 2) : ((xs.set (k * 2) a0).set (k * 2 + 1) a1)[p]? = xs[p]? := by
 rw [List.getElem?_set_ne (by omega), List.getElem?_set_ne (by omega)]
theorem setAssign_new {xs : List Value} {k : Nat} {a0 a1 : Value} (h : k * 2 + 1 < xs.length) :
  ((xs.set (k * 2) a0).set (k * 2 + 1) a1)[k * 2 + 0]? = some a0 ∧ ((xs.set (k * 2) a0).set (k * 2 + 1) a1)[k * 2 + 1]? = some a1 := by
 refine ⟨?_, ?_⟩
 ·rw [List.getElem?_set_ne (by omega)]
  exact List.getElem?_set_self (by omega)
 ·rw [List.getElem?_set_self (by simp; omega)]

end Go.Proofs.YtolndlmhbnpmeaaDoor

/- Contracts: Inst in the laws: the size, the copy, equality of equals, marks. -/
namespace Go.Proofs.YtolndlmhbnpmeaaDoor
open Go.RowKit

abbrev TInst := Int × Int × List Int
def rInst (x : TInst) : List Fd := [.int x.1, .int x.2.1, fIntS x.2.2]
theorem rInst_len (x : TInst) : (rInst x).length = 3 := rfl
def fInstS (l : List TInst) : Fd := .sl (l.map rInst)
theorem rInst_lens (l : List TInst) : ∀ r ∈ l.map rInst, r.length = 3 := by
 intro r hr
 obtain ⟨x, _, rfl⟩ := List.mem_map.1 hr
 rfl
def sInst (x : TInst) : Nat := szL sInt x.2.2
def nInst (x : TInst) : Nat := 1 + 1 + nuL nInt x.2.2
def kInst (k : Nat) (x : TInst) : TInst := (((k : Nat) : Int), (((k + 1) : Nat) : Int), mkL kInt nInt ((k + 1) + 1) x.2.2)
theorem nInst_le (x : TInst) : nInst x ≤ 4 + 4 * sInst x := by simp only [nInst, sInst]; have h2 := nuL_Int_le x.2.2; omega
theorem nuL_Inst_le (l : List TInst) : nuL nInst l ≤ 4 * szL sInst l := nuL_le4 (fun x => by have := nInst_le x; omega) l
/-- v is such a struct -/
def RInst (w : World) (S : Nat → Prop) (v : Value) (x : TInst) : Prop := ∃ (v2 : Value), v = .agg #[.int .i64 (x.1), .int .i64 (x.2.1), v2] ∧ Rep w S v2 (fIntS x.2.2)
/-- .. in memory of its own -/
def QInst (w : World) (S : Nat → Prop) (v : Value) (x : TInst) : Prop := ∃ (v2 : Value) (P : Nat → Nat → Prop), v = .agg #[.int .i64 (x.1), .int .i64 (x.2.1), v2] ∧ (∀ j b, P j b → S b) ∧ (∀ i j b, P i b → P j b → i = j) ∧ Sep w (P 2) v2 (fIntS x.2.2)
theorem QInst.r {w : World} {S : Nat → Prop} {v : Value} {x : TInst} (h : QInst w S v x) : RInst w S v x := by
 obtain ⟨v2, P, rfl, hP, _, h2⟩ := h
 exact ⟨v2, rfl, h2.rep.mono (hP 2)⟩
theorem RInst.keep {w w' : World} {S : Nat → Prop} {v : Value} {x : TInst} (h : RInst w S v x) (hk : ∀ p : Addr, S p.block → w'.cell? p = w.cell? p) : RInst w' S v x := by
 obtain ⟨v2, e, h2⟩ := h
 exact ⟨v2, e, h2.keep hk⟩
theorem RInst.under {w w' : World} {S : Nat → Prop} {B : Nat} {v : Value} {x : TInst} (h : RInst w S v x) (hS : ∀ b, S b → b < B) (hb : Below B w w') : RInst w' S v x := h.keep fun _p hp => hb.cell (hS _ hp)
theorem RInst.mono {w : World} {S S' : Nat → Prop} {v : Value} {x : TInst} (h : RInst w S v x) (hS : ∀ b, S b → S' b) : RInst w S' v x := by
 obtain ⟨v2, e, h2⟩ := h
 exact ⟨v2, e, h2.mono hS⟩
theorem QInst.keep {w w' : World} {S : Nat → Prop} {v : Value} {x : TInst} (h : QInst w S v x) (hk : ∀ b, S b → w'.heap[b]? = w.heap[b]?) : QInst w' S v x := by
 obtain ⟨v2, P, e, hP, hd, h2⟩ := h
 exact ⟨v2, P, e, hP, hd, h2.keep (fun b hb => hk b (hP _ b hb))⟩
theorem QInst.mono {w : World} {S S' : Nat → Prop} {v : Value} {x : TInst} (h : QInst w S v x) (hS : ∀ b, S b → S' b) : QInst w S' v x := by
 obtain ⟨v2, P, e, hP, hd, h2⟩ := h
 exact ⟨v2, P, e, fun j b hb => hS b (hP j b hb), hd, h2⟩
theorem fInstS_row {w : World} {S : Nat → Prop} {A : Option Addr} {n c k : Nat} {l : List TInst} (h : Rep w S (.slice A n c) (fInstS l)) (hk : k < n) :
  ∃ (ad : Addr) (x0 : Int) (x1 : Int) (x2 : List Int) (v2 : Value), A = some ad ∧ S ad.block ∧ l[k]? = some (x0, x1, x2) ∧ Rep w S v2 (fIntS x2) ∧ w.cell? (ad.add (k * 3)) = some (.int .i64 x0) ∧ w.cell? (nxt (ad.add (k * 3)) 1) = some (.int .i64 x1) ∧ w.cell? (nxt (ad.add (k * 3)) 2) = some (v2) := by
 obtain ⟨ad, r, rfl, hb, hr, _, hc⟩ := h.row hk
 have hl := h.len
 rw [List.length_map] at hl
 have hx : l[k]? = some l[k] := List.getElem?_eq_getElem (by omega)
 rw [List.getElem?_map, hx] at hr
 injection hr with hr
 generalize l[k] = x at hx hr
 obtain ⟨x0, x1, x2⟩ := x
 subst hr
 obtain ⟨v0, c0, h0⟩ := hc 0 (.int x0) rfl
 rw [h0.int_val] at c0
 obtain ⟨v1, c1, h1⟩ := hc 1 (.int x1) rfl
 rw [h1.int_val] at c1
 obtain ⟨v2, c2, h2⟩ := hc 2 (fIntS x2) rfl
 exact ⟨ad, x0, x1, x2, v2, rfl, hb, hx, h2, c0, by rw [nxt_add _ _ (by decide)]; exact c1, by rw [nxt_add _ _ (by decide)]; exact c2⟩

theorem Tryd.infInst : (Tryd.prog.info? 75).map (fun i => (i.zero, i.size, i.bytes)) = some (some (.agg #[.int .i64 0, .int .i64 0, .slice none 0 0]), 3, 40) := by kernel_rfl
theorem ownInstD {w : World} {n : Nat} (hn : n ≤ maxLen) : (w.alloc (.cells (madeCells #[.int .i64 0, .int .i64 0, .slice none 0 0] (n * 3)) 75)).ownsRow w.heap.size 75 3 (.slice (some ⟨w.heap.size, 0, none⟩) n n) n (madeCells #[.int .i64 0, .int .i64 0, .slice none 0 0] (n * 3)).toList :=
 ⟨by simp [size_madeCells], .inr ⟨w.heap.size, n, madeCells #[.int .i64 0, .int .i64 0, .slice none 0 0] (n * 3), rfl, Nat.le_refl _, heap_alloc_new w _, Nat.le_refl _, hn, by simp [size_madeCells], by rw [List.take_of_length_le]; simp [size_madeCells]⟩⟩
theorem setInst_old {xs : List Value} {k p : Nat} {a0 a1 a2 : Value} (h : p < k * 3) : (((xs.set (k * 3) a0).set (k * 3 + 1) a1).set (k * 3 + 2) a2)[p]? = xs[p]? := by
 rw [List.getElem?_set_ne (by omega), List.getElem?_set_ne (by omega), List.getElem?_set_ne (by omega)]
theorem setInst_new {xs : List Value} {k : Nat} {a0 a1 a2 : Value} (h : k * 3 + 2 < xs.length) :
  (((xs.set (k * 3) a0).set (k * 3 + 1) a1).set (k * 3 + 2) a2)[k * 3 + 0]? = some a0 ∧ (((xs.set (k * 3) a0).set (k * 3 + 1) a1).set (k * 3 + 2) a2)[k * 3 + 1]? = some a1 ∧ (((xs.set (k * 3) a0).set (k * 3 + 1) a1).set (k * 3 + 2) a2)[k * 3 + 2]? = some a2 := by
 refine ⟨?_, ?_, ?_⟩
 ·rw [List.getElem?_set_ne (by omega), List.getElem?_set_ne (by omega)]
  exact List.getElem?_set_self (by omega)
 ·rw [List.getElem?_set_ne (by omega), List.getElem?_set_self (by simp; omega)]
 ·rw [List.getElem?_set_self (by simp; omega)]

end Go.Proofs.YtolndlmhbnpmeaaDoor

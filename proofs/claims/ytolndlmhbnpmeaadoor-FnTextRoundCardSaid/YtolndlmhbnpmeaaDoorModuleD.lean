/- Contracts: Module in the laws: the size, the copy, equality of equals, marks. -/
import Derived.Test.YtolndlmhbnpmeaaDoorGc
import Derived.Test.YtolndlmhbnpmeaaDoorGd
import Derived.Outline
namespace Go.Proofs.YtolndlmhbnpmeaaDoor
open Go.RowKit

abbrev TModule := List TSignal × List TAssign × List TInst × List TMem
def rModule (x : TModule) : List Fd := [fSignalS x.1, fAssignS x.2.1, fInstS x.2.2.1, fMemS x.2.2.2]
theorem rModule_len (x : TModule) : (rModule x).length = 4 := rfl
def fModuleS (l : List TModule) : Fd := .sl (l.map rModule)
theorem rModule_lens (l : List TModule) : ∀ r ∈ l.map rModule, r.length = 4 := by
 intro r hr
 obtain ⟨x, _, rfl⟩ := List.mem_map.1 hr
 rfl
def sModule (x : TModule) : Nat := szL sSignal x.1 + szL sAssign x.2.1 + szL sInst x.2.2.1 + szL sMem x.2.2.2
def nModule (x : TModule) : Nat := nuL nSignal x.1 + nuL nAssign x.2.1 + nuL nInst x.2.2.1 + nuL nMem x.2.2.2
def kModule (k : Nat) (x : TModule) : TModule := (mkL kSignal nSignal k x.1, mkL kAssign nAssign (k + nuL nSignal x.1) x.2.1, mkL kInst nInst ((k + nuL nSignal x.1) + nuL nAssign x.2.1) x.2.2.1, mkL kMem nMem (((k + nuL nSignal x.1) + nuL nAssign x.2.1) + nuL nInst x.2.2.1) x.2.2.2)
theorem nModule_le (x : TModule) : nModule x ≤ 4 * sModule x := by simp only [nModule, sModule]; have h0 := nuL_Signal_le x.1; have h1 := nuL_Assign_le x.2.1; have h2 := nuL_Inst_le x.2.2.1; have h3 := nuL_Mem_le x.2.2.2; omega
theorem nuL_Module_le (l : List TModule) : nuL nModule l ≤ 4 * szL sModule l := nuL_le4 (fun x => by have := nModule_le x; omega) l
/-- v is such a struct -/
def RModule (w : World) (S : Nat → Prop) (v : Value) (x : TModule) : Prop := ∃ (v0 : Value) (v1 : Value) (v2 : Value) (v3 : Value), v = .agg #[v0, v1, v2, v3] ∧ Rep w S v0 (fSignalS x.1) ∧ Rep w S v1 (fAssignS x.2.1) ∧ Rep w S v2 (fInstS x.2.2.1) ∧ Rep w S v3 (fMemS x.2.2.2)
/-- .. in memory of its own -/
def QModule (w : World) (S : Nat → Prop) (v : Value) (x : TModule) : Prop := ∃ (v0 : Value) (v1 : Value) (v2 : Value) (v3 : Value) (P : Nat → Nat → Prop), v = .agg #[v0, v1, v2, v3] ∧ (∀ j b, P j b → S b) ∧ (∀ i j b, P i b → P j b → i = j) ∧ Sep w (P 0) v0 (fSignalS x.1) ∧ Sep w (P 1) v1 (fAssignS x.2.1) ∧ Sep w (P 2) v2 (fInstS x.2.2.1) ∧ Sep w (P 3) v3 (fMemS x.2.2.2)
theorem QModule.r {w : World} {S : Nat → Prop} {v : Value} {x : TModule} (h : QModule w S v x) : RModule w S v x := by
 obtain ⟨v0, v1, v2, v3, P, rfl, hP, _, h0, h1, h2, h3⟩ := h
 exact ⟨v0, v1, v2, v3, rfl, h0.rep.mono (hP 0), h1.rep.mono (hP 1), h2.rep.mono (hP 2), h3.rep.mono (hP 3)⟩
theorem RModule.keep {w w' : World} {S : Nat → Prop} {v : Value} {x : TModule} (h : RModule w S v x) (hk : ∀ p : Addr, S p.block → w'.cell? p = w.cell? p) : RModule w' S v x := by
 obtain ⟨v0, v1, v2, v3, e, h0, h1, h2, h3⟩ := h
 exact ⟨v0, v1, v2, v3, e, h0.keep hk, h1.keep hk, h2.keep hk, h3.keep hk⟩
theorem RModule.under {w w' : World} {S : Nat → Prop} {B : Nat} {v : Value} {x : TModule} (h : RModule w S v x) (hS : ∀ b, S b → b < B) (hb : Below B w w') : RModule w' S v x := h.keep fun _p hp => hb.cell (hS _ hp)
theorem RModule.mono {w : World} {S S' : Nat → Prop} {v : Value} {x : TModule} (h : RModule w S v x) (hS : ∀ b, S b → S' b) : RModule w S' v x := by
 obtain ⟨v0, v1, v2, v3, e, h0, h1, h2, h3⟩ := h
 exact ⟨v0, v1, v2, v3, e, h0.mono hS, h1.mono hS, h2.mono hS, h3.mono hS⟩
theorem QModule.keep {w w' : World} {S : Nat → Prop} {v : Value} {x : TModule} (h : QModule w S v x) (hk : ∀ b, S b → w'.heap[b]? = w.heap[b]?) : QModule w' S v x := by
 obtain ⟨v0, v1, v2, v3, P, e, hP, hd, h0, h1, h2, h3⟩ := h
 exact ⟨v0, v1, v2, v3, P, e, hP, hd, h0.keep (fun b hb => hk b (hP _ b hb)), h1.keep (fun b hb => hk b (hP _ b hb)), h2.keep (fun b hb => hk b (hP _ b hb)), h3.keep (fun b hb => hk b (hP _ b hb))⟩
theorem QModule.mono {w : World} {S S' : Nat → Prop} {v : Value} {x : TModule} (h : QModule w S v x) (hS : ∀ b, S b → S' b) : QModule w S' v x := by
 obtain ⟨v0, v1, v2, v3, P, e, hP, hd, h0, h1, h2, h3⟩ := h
 exact ⟨v0, v1, v2, v3, P, e, fun j b hb => hS b (hP j b hb), hd, h0, h1, h2, h3⟩
theorem RModule.form {w : World} {S : Nat → Prop} {v : Value} {x : TModule} (h : RModule w S v x) : ∃ (A0 : Option Addr) (n0 c0 : Nat) (A1 : Option Addr) (n1 c1 : Nat) (A2 : Option Addr) (n2 c2 : Nat) (A3 : Option Addr) (n3 c3 : Nat), v = .agg #[.slice A0 n0 c0, .slice A1 n1 c1, .slice A2 n2 c2, .slice A3 n3 c3] := by
 obtain ⟨v0, v1, v2, v3, rfl, h0, h1, h2, h3⟩ := h
 obtain ⟨A0, n0, c0, rfl⟩ := slv_of h0
 obtain ⟨A1, n1, c1, rfl⟩ := slv_of h1
 obtain ⟨A2, n2, c2, rfl⟩ := slv_of h2
 obtain ⟨A3, n3, c3, rfl⟩ := slv_of h3
 exact ⟨_, _, _, _, _, _, _, _, _, _, _, _, rfl⟩
theorem fModuleS_row {w : World} {S : Nat → Prop} {A : Option Addr} {n c k : Nat} {l : List TModule} (h : Rep w S (.slice A n c) (fModuleS l)) (hk : k < n) :
  ∃ (ad : Addr) (x0 : List TSignal) (x1 : List TAssign) (x2 : List TInst) (x3 : List TMem) (v0 : Value) (v1 : Value) (v2 : Value) (v3 : Value), A = some ad ∧ S ad.block ∧ l[k]? = some (x0, x1, x2, x3) ∧ Rep w S v0 (fSignalS x0) ∧ Rep w S v1 (fAssignS x1) ∧ Rep w S v2 (fInstS x2) ∧ Rep w S v3 (fMemS x3) ∧ w.cell? (ad.add (k * 4)) = some (v0) ∧ w.cell? (nxt (ad.add (k * 4)) 1) = some (v1) ∧ w.cell? (nxt (ad.add (k * 4)) 2) = some (v2) ∧ w.cell? (nxt (ad.add (k * 4)) 3) = some (v3) := by
 obtain ⟨ad, r, rfl, hb, hr, _, hc⟩ := h.row hk
 have hl := h.len
 rw [List.length_map] at hl
 have hx : l[k]? = some l[k] := List.getElem?_eq_getElem (by omega)
 rw [List.getElem?_map, hx] at hr
 injection hr with hr
 generalize l[k] = x at hx hr
 obtain ⟨x0, x1, x2, x3⟩ := x
 subst hr
 obtain ⟨v0, c0, h0⟩ := hc 0 (fSignalS x0) rfl
 obtain ⟨v1, c1, h1⟩ := hc 1 (fAssignS x1) rfl
 obtain ⟨v2, c2, h2⟩ := hc 2 (fInstS x2) rfl
 obtain ⟨v3, c3, h3⟩ := hc 3 (fMemS x3) rfl
 exact ⟨ad, x0, x1, x2, x3, v0, v1, v2, v3, rfl, hb, hx, h0, h1, h2, h3, c0, by rw [nxt_add _ _ (by decide)]; exact c1, by rw [nxt_add _ _ (by decide)]; exact c2, by rw [nxt_add _ _ (by decide)]; exact c3⟩

theorem Tryd.infModule : (Tryd.prog.info? 50).map (fun i => (i.zero, i.size, i.bytes)) = some (some (.agg #[.slice none 0 0, .slice none 0 0, .slice none 0 0, .slice none 0 0]), 4, 96) := by kernel_rfl
theorem ownModuleD {w : World} {n : Nat} (hn : n ≤ maxLen) : (w.alloc (.cells (madeCells #[.slice none 0 0, .slice none 0 0, .slice none 0 0, .slice none 0 0] (n * 4)) 50)).ownsRow w.heap.size 50 4 (.slice (some ⟨w.heap.size, 0, none⟩) n n) n (madeCells #[.slice none 0 0, .slice none 0 0, .slice none 0 0, .slice none 0 0] (n * 4)).toList :=
 ⟨by simp [size_madeCells], .inr ⟨w.heap.size, n, madeCells #[.slice none 0 0, .slice none 0 0, .slice none 0 0, .slice none 0 0] (n * 4), rfl, Nat.le_refl _, heap_alloc_new w _, Nat.le_refl _, hn, by simp [size_madeCells], by rw [List.take_of_length_le]; simp [size_madeCells]⟩⟩
theorem setModule_old {xs : List Value} {k p : Nat} {a0 a1 a2 a3 : Value} (h : p < k * 4) : ((((xs.set (k * 4) a0).set (k * 4 + 1) a1).set (k * 4 + 2) a2).set (k * 4 + 3) a3)[p]? = xs[p]? := by
 rw [List.getElem?_set_ne (by omega), List.getElem?_set_ne (by omega), List.getElem?_set_ne (by omega), List.getElem?_set_ne (by omega)]
theorem setModule_new {xs : List Value} {k : Nat} {a0 a1 a2 a3 : Value} (h : k * 4 + 3 < xs.length) :
  ((((xs.set (k * 4) a0).set (k * 4 + 1) a1).set (k * 4 + 2) a2).set (k * 4 + 3) a3)[k * 4 + 0]? = some a0 ∧ ((((xs.set (k * 4) a0).set (k * 4 + 1) a1).set (k * 4 + 2) a2).set (k * 4 + 3) a3)[k * 4 + 1]? = some a1 ∧ ((((xs.set (k * 4) a0).set (k * 4 + 1) a1).set (k * 4 + 2) a2).set (k * 4 + 3) a3)[k * 4 + 2]? = some a2 ∧ ((((xs.set (k * 4) a0).set (k * 4 + 1) a1).set (k * 4 + 2) a2).set (k * 4 + 3) a3)[k * 4 + 3]? = some a3 := by
 refine ⟨?_, ?_, ?_, ?_⟩
 ·rw [List.getElem?_set_ne (by omega), List.getElem?_set_ne (by omega), List.getElem?_set_ne (by omega)]
  exact List.getElem?_set_self (by omega)
 ·rw [List.getElem?_set_ne (by omega), List.getElem?_set_ne (by omega), List.getElem?_set_self (by simp; omega)]
 ·rw [List.getElem?_set_ne (by omega), List.getElem?_set_self (by simp; omega)]
 ·rw [List.getElem?_set_self (by simp; omega)]

end Go.Proofs.YtolndlmhbnpmeaaDoor

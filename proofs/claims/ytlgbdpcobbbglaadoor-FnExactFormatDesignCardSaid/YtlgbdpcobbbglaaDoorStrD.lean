/- Contracts: lists of texts as data: rows, equality of equals, marks. -/
import Derived.Test.YtlgbdpcobbbglaaDoorGa
import Derived.Test.YtlgbdpcobbbglaaDoorStrs
import Derived.Outline
namespace Go.Proofs.YtlgbdpcobbbglaaDoor
open Go.RowKit

abbrev TString := ByteArray
def rString (x : TString) : List Fd := [.str x]
theorem rString_len (x : TString) : (rString x).length = 1 := rfl
def fStringS (l : List TString) : Fd := .sl (l.map rString)
theorem rString_lens (l : List TString) : ∀ r ∈ l.map rString, r.length = 1 := by
 intro r hr
 obtain ⟨x, _, rfl⟩ := List.mem_map.1 hr
 rfl
def sString (_ : TString) : Nat := 0
def nString (_ : TString) : Nat := 1
def kString (k : Nat) (_ : TString) : TString := mtx ((k : Nat) : Int)
theorem nString_le (x : TString) : nString x ≤ 4 + 4 * sString x := by simp only [nString, sString]; omega
theorem nuL_String_le (l : List TString) : nuL nString l ≤ 4 * szL sString l := nuL_le4 (fun x => by have := nString_le x; omega) l
theorem nuL_string (l : List TString) : nuL nString l = l.length := by
 unfold nuL
 induction l with
 | nil => rfl
 | cons x l ih => rw [List.map_cons, List.sum_cons, ih, List.length_cons, nString]; omega
theorem szL_string (l : List TString) : szL sString l = l.length := by
 unfold szL
 rw [nuL_zero sString (fun _ => rfl)]
 omega
theorem mkL_string (k : Nat) (l : List TString) : mkL kString nString k l = smarks (k : Int) l.length := by
 apply List.ext_getElem?
 intro i
 by_cases hi : i < l.length
 ·rw [mkL_get kString nString k (List.getElem?_eq_getElem hi), smarks_get hi, nuL_string, List.length_take, Nat.min_eq_left (by omega)]
  simp only [kString, Int.natCast_add]
 ·rw [List.getElem?_eq_none (by rw [mkL_len]; omega), List.getElem?_eq_none (by rw [smarks_len]; omega)]
theorem fStringS_row {w : World} {S : Nat → Prop} {A : Option Addr} {n c k : Nat} {l : List TString} (h : Rep w S (.slice A n c) (fStringS l)) (hk : k < n) :
  ∃ (ad : Addr) (x : ByteArray), A = some ad ∧ S ad.block ∧ l[k]? = some x ∧ w.cell? (ad.add k) = some (.string x) := by
 obtain ⟨ad, r, rfl, hb, hr, _, hc⟩ := h.row hk
 have hl := h.len
 rw [List.length_map] at hl
 have hx : l[k]? = some l[k] := List.getElem?_eq_getElem (by omega)
 rw [List.getElem?_map, hx] at hr
 injection hr with hr
 generalize l[k] = x at hx hr
 subst hr
 obtain ⟨v0, c0, h0⟩ := hc 0 (.str x) rfl
 rw [h0.str_val] at c0
 exact ⟨ad, x, rfl, hb, hx, by simpa [rString] using c0⟩
theorem strs_reads {w : World} {S : Nat → Prop} {B : Nat} {A : Option Addr} {n c : Nat} {l : List TString} (h : Rep w S (.slice A n c) (fStringS l)) (hS : ∀ b, S b → b < B) : Reads w B 1 A n (strs l) := by
 have hl := h.len
 rw [List.length_map] at hl
 refine ⟨by rw [strs_len, hl, Nat.mul_one], fun h0 => ?_⟩
 obtain ⟨ad, _, rfl, hb, _⟩ := fStringS_row h h0
 refine ⟨ad, rfl, hS _ hb, fun j u hu => ?_⟩
 rw [strs_get] at hu
 by_cases hj : j < n
 ·obtain ⟨ad', x, e, _, hx, hc⟩ := fStringS_row h hj
  injection e with e
  subst e
  rw [hx] at hu
  injection hu with hu
  rw [← hu]
  exact hc
 ·rw [List.getElem?_eq_none (by omega)] at hu
  cases hu
/-- a list of texts of the call's own -/
theorem sep_strs {w : World} {S : Nat → Prop} {base n c : Nat} {e : TypeId} {A : Option Addr} {l : List TString} (hm : n ≤ maxLen) (h : w.ownsRow base e 1 (.slice A n c) n (strs l)) (hS : ∀ g, (Value.slice A n c).ownBlock = some g → S g) : Sep w S (.slice A n c) (fStringS l) := by
 have hl : l.length = n := by have := h.1; rw [strs_len] at this; omega
 refine .sl S A n c 1 e _ (strs l) (fun i _ => ((strs l)[i]?).getD undef) (fun _ _ _ => False) (by rw [List.length_map]; exact hl) hm (rString_lens l) (own_mono h (Nat.zero_le _)) hS (fun _ _ _ h => h.elim) (fun _ _ _ _ _ h => h.elim) (fun i j hi hj => ?_) (fun i j r f hr hf => ?_)
 ·obtain rfl : j = 0 := by omega
  rw [Nat.mul_one, Nat.add_zero, List.getElem?_eq_getElem (by rw [strs_len]; omega)]
  rfl
 ·rw [List.getElem?_map] at hr
  cases hx : l[i]? with
  | none => rw [hx] at hr; cases hr
  | some x =>
   rw [hx] at hr
   injection hr with hr
   subst hr
   cases j with
   | zero =>
    simp [rString] at hf
    subst hf
    rw [strs_get, hx]
    exact .str _ x
   | succ j => simp [rString] at hf
theorem Sep.strs_own {w : World} {S : Nat → Prop} {n c : Nat} {A : Option Addr} {l : List TString} (h : Sep w S (.slice A n c) (fStringS l)) (h0 : 0 < n) : ∃ e, w.ownsRow 0 e 1 (.slice A n c) n (strs l) ∧ ∀ g, (Value.slice A n c).ownBlock = some g → S g := by
 cases h with
 | sl S A n c size e rows xs V P hn hm hs ho hS hP hd hx hr =>
  rw [List.length_map] at hn
  have h1 : size = 1 := by rw [← hs _ (List.mem_of_getElem? (show (l.map rString)[0]? = some (rString (l[0]'(by omega))) by rw [List.getElem?_map, List.getElem?_eq_getElem (by omega)]; rfl))]; rfl
  subst h1
  have hxs : xs = strs l := by
   apply List.ext_getElem?
   intro i
   by_cases hi : i < n
   ·have h2 := hx i 0 hi (by decide)
    rw [Nat.mul_one, Nat.add_zero] at h2
    have h3 := hr i 0 (rString (l[i]'(by omega))) (.str (l[i]'(by omega))) (by rw [List.getElem?_map, List.getElem?_eq_getElem (by omega)]; rfl) rfl
    rw [h2, h3.rep.str_val, strs_get, List.getElem?_eq_getElem (by omega)]
    rfl
   ·rw [List.getElem?_eq_none (by rw [ho.1]; omega), List.getElem?_eq_none (by rw [strs_len]; omega)]
  subst hxs
  exact ⟨e, ho, hS⟩

theorem d_eqStringS {w : World} {S S' : Nat → Prop} {v v' : Value} {l : List TString} (hz : szL sString l ≤ 1048576) (h : Rep w S v (fStringS l)) (h' : Rep w S' v' (fStringS l)) (hS : ∀ b, S b → b < w.heap.size) (hS' : ∀ b, S' b → b < w.heap.size) :
  Calls Tryd.prog 11 #[v, v'] w fun e w' => e = .returned (.bool true) ∧ Below w.heap.size w w' := by
 obtain ⟨A, c, rfl, hm⟩ := h.sl_val
 obtain ⟨A', c', rfl, _⟩ := h'.sl_val
 rw [List.length_map] at hm h h' ⊢
 have hn : l.length ≤ 1099511627776 := by rw [szL_string] at hz; omega
 refine (l_eqStringS hn hn (strs_reads h hS) (strs_reads h' hS') (Nat.le_refl _) (Nat.le_refl _)).mono ?_
 rintro e w1 ⟨rfl, hb1⟩
 exact ⟨ret_bool (decide_eq_true rfl), hb1⟩
theorem d_markStringS {w : World} {S : Nat → Prop} {v : Value} {l : List TString} (k0 : Nat) (hk0 : k0 + nuL nString l ≤ 1099511627776) (h1 : 0 < k0) (h : Sep w S v (fStringS l)) (hS : ∀ b, S b → b < w.heap.size) :
  Calls Tryd.prog 14 #[v, .int .i64 k0] w fun e w' => e = .returned (.int .i64 ((k0 + nuL nString l : Nat) : Int)) ∧ Sep w' S v (fStringS (mkL kString nString k0 l)) ∧ Only S w w' := by
 obtain ⟨A, c, rfl, hm⟩ := h.sl_val
 rw [List.length_map] at hm h ⊢
 rw [nuL_string] at hk0 ⊢
 rw [mkL_string]
 by_cases h0 : 0 < l.length
 ·obtain ⟨e0, ho, hs⟩ := h.strs_own h0
  refine (l_markStringS (k0 : Int) (by omega) (by omega) (by omega) ho).mono ?_
  rintro e w' ⟨rfl, ho', hg⟩
  exact ⟨by rw [Int.natCast_add], sep_strs hm ho' hs, ⟨hg.os, hg.tape, hg.output, hg.size, fun b hb hn => hg.block b hb (fun e => hn (hs b e.symm))⟩⟩
 ·have hl : l = [] := List.eq_nil_of_length_eq_zero (by omega)
  subst hl
  have H := Lib.hid h
  clear h
  go_enter Tryd.func14, Tryd.ntmps14
  go_wp2_with fail
  go_loopw [1, 5] (fun kv i wr => i = .int .i64 0 ∧ kv = .int .i64 k0 ∧ wr = w) (fun _ _ _ => 0)
  case atStart => exact ⟨rfl, rfl, rfl⟩
  case round =>
   obtain ⟨rfl, rfl, rfl⟩ := hrel
   go_wp2_with fail
   go_ret
   exact ⟨rfl, H.out, Only.refl _ _⟩
theorem d_heldStringS {w : World} {S : Nat → Prop} {v : Value} {l : List TString} (k0 : Nat) (hk0 : k0 + nuL nString l ≤ 1099511627776) (h1 : 0 < k0) (h : Rep w S v (fStringS (mkL kString nString k0 l))) (hS : ∀ b, S b → b < w.heap.size) :
  Calls Tryd.prog 15 #[v, .int .i64 k0] w fun e w' => e = .returned (.int .i64 ((k0 + nuL nString l : Nat) : Int)) ∧ Below w.heap.size w w' := by
 obtain ⟨A, c, rfl, hm⟩ := h.sl_val
 rw [mkL_string, List.length_map, smarks_len] at h
 rw [List.length_map, mkL_len] at hm ⊢
 rw [nuL_string] at hk0 ⊢
 refine (l_heldStringS (k0 : Int) (by omega) (by omega) (by omega) (strs_reads h hS) (Nat.le_refl _)).mono ?_
 rintro e w1 ⟨rfl, hb1⟩
 exact ⟨by rw [Int.natCast_add], hb1⟩
end Go.Proofs.YtlgbdpcobbbglaaDoor

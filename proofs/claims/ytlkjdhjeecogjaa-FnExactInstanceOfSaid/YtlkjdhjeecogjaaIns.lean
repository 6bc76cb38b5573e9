/- Contracts: a module made the top module: the program's and the reference's functions. -/
import Derived.Test.YtlkjdhjeecogjaaCpyS
import Derived.Test.YtlkjdhjeecogjaaModE
import Derived.Outline
namespace Go.Proofs.Ytlkjdhjeecogjaa
open Go.RowKit

def insO (d : TDesign) (k : Int) : Bool := designB d && inR k 0 ((d.length : Int) - 1)
def insD (d : TDesign) (k : Int) : TDesign := if insO d k then d.take (k.toNat + 1) else []
theorem insD_no {d : TDesign} {k : Int} (h : insO d k = false) : insD d k = [] := by unfold insD; rw [h]; rfl
theorem insD_yes {d : TDesign} {k : Int} (h : insO d k = true) : insD d k = d.take (k.toNat + 1) := by unfold insD; rw [h]; rfl
theorem insO_iff {d : TDesign} {k : Int} (h : insO d k = true) : designB d = true ∧ 0 ≤ k ∧ k < d.length := by
 unfold insO at h
 simp only [Bool.and_eq_true] at h
 have h2 := inR_iff.1 h.2
 exact ⟨h.1, h2.1, by omega⟩
theorem mod_sz {d : TDesign} (hz : sDesign d ≤ 1048576) {k : Nat} {m : TModule} (h : d[k]? = some m) : sModule m ≤ 1048576 := by
 have h1 := nuL_el sModule (List.mem_of_getElem? h)
 have h2 : sDesign d = szL sModule d := rfl
 rw [h2] at hz
 unfold szL at hz
 omega
theorem insD_sz {d : TDesign} (hz : sDesign d ≤ 1048576) (k : Int) : sDesign (insD d k) ≤ 1048576 := by
 have h2 : ∀ d, sDesign d = szL sModule d := fun _ => rfl
 rw [h2] at hz ⊢
 unfold insD
 split
 ·have h3 := nuL_take sModule d (k.toNat + 1)
  unfold szL at hz ⊢
  have h4 : (d.take (k.toNat + 1)).length ≤ d.length := by rw [List.length_take]; omega
  omega
 ·decide
theorem ins_ports {d : TDesign} (h : designB d = true) {k : Nat} {m : TModule} (hk : d[k]? = some m) : ∀ x ∈ m.2.2.1, x.2.2.length ≤ 1000000 := by
 unfold designB at h
 simp only [Bool.and_eq_true] at h
 have hkl := (List.getElem?_eq_some_iff.1 hk).1
 have h1 := List.all_eq_true.1 h.2 k (List.mem_range.2 hkl)
 unfold moduleB l04C at h1
 simp only [Bool.and_eq_true] at h1
 have h2 := h1.1.2.2
 unfold instsB at h2
 rw [md_get hk] at h2
 intro x hx
 have h3 := List.all_eq_true.1 h2 x hx
 unfold insB at h3
 simp only [Bool.and_eq_true, decide_eq_true_eq] at h3
 have h4 := portsL_len (md d x.1).1
 have h5 : portsM (md d x.1) = portsL (md d x.1).1 := rfl
 rw [h5] at h3
 omega
theorem dsn_le4 {d : TDesign} (h : designB d = true) : d.length ≤ 4 := by
 unfold designB at h
 simp only [Bool.and_eq_true] at h
 have := inR_iff.1 h.1
 omega
theorem row_module {x : TModule} {v0 v1 v2 v3 : Value} {w : World} {Q : Nat → Nat → Prop} (h0 : Sep w (Q 0) v0 (fSignalS x.1)) (h1 : Sep w (Q 1) v1 (fAssignS x.2.1)) (h2 : Sep w (Q 2) v2 (fInstS x.2.2.1)) (h3 : Sep w (Q 3) v3 (fMemS x.2.2.2)) : ∀ (j : Nat) (f : Fd), (rModule x)[j]? = some f → ∃ u, [v0, v1, v2, v3][j]? = some u ∧ Sep w (Q j) u f := by
 intro j f hf
 match j, hf with
 | 0, hf => simp [rModule] at hf; subst hf; exact ⟨_, rfl, h0⟩
 | 1, hf => simp [rModule] at hf; subst hf; exact ⟨_, rfl, h1⟩
 | 2, hf => simp [rModule] at hf; subst hf; exact ⟨_, rfl, h2⟩
 | 3, hf => simp [rModule] at hf; subst hf; exact ⟨_, rfl, h3⟩
 | j + 4, hf => simp [rModule] at hf
theorem dsnq_open {w : World} {S : Nat → Prop} {v : Value} {d : TDesign} (h : QDesign w S v d) : ∃ A c, v = .agg #[.slice A d.length c] ∧ Rep w S (.slice A d.length c) (fModuleS d) ∧ d.length ≤ maxLen ∧ d.length ≤ c := by
 obtain ⟨v0, P, rfl, hP, _, h0⟩ := h
 have hr := h0.rep
 cases h0 with
 | sl S A n c size e rows xs V P' hn hm hs ho hS hP' hd hx hr' =>
  rw [List.length_map] at hn
  subst hn
  obtain ⟨_, c', hv, h1, _, _⟩ := own_form ho
  injection hv with hA hN hC
  subst hC
  exact ⟨A, c, rfl, hr.mono (fun b hb => hP 0 b hb), hm, h1⟩
theorem ret_tup2 {v : Value} {a b : Bool} (h : b = a) : Ending.returned (.tuple #[v, .bool a]) = .returned (.tuple #[v, .bool b]) := by rw [h]
end Go.Proofs.Ytlkjdhjeecogjaa

/- Contracts: a flat module: sums, the parameter in an expression: the program's and the reference's functions. -/
import Derived.Test.YtlgbdpcobbbglaaEvoA
import Derived.Test.YtlgbdpcobbbglaaEv
import Derived.Outline
namespace Go.Proofs.Ytlgbdpcobbbglaa
open Go.RowKit

def widAt (sg : List TSignal) (p : Int) : Int := (sg.getD p.toNat (-1, 0, 0)).2.1
def memW (sg : List TSignal) (x : TMem) : Bool := decide (widAt sg x.1 = 2) && (decide (widAt sg x.2.2.1 = 1) && decide (widAt sg x.2.1 = widAt sg x.2.2.2))
def stBits (m : TModule) (l : List TMem) : Int := (widthsM m 3).sum + (l.map fun x => widAt m.1 x.2.2.2).sum
def wid1 (x : TSignal) : Bool := !decide (x.2.1 = 0)
def noP1 (a : TAssign) : Bool := !hasP a.2
/-- a flat module -/
def flatB (m : TModule) : Bool := ordB m && (m.1.all wid1 && (m.2.1.all noP1 && (m.2.2.2.all (memW m.1) && (decide ((widthsM m 0).sum ≤ 8) && (decide ((widthsM m 1).sum ≤ 8) && decide (stBits m m.2.2.2 ≤ 12))))))

theorem sum_succ {l : List Int} {k : Nat} {x : Int} (h : l[k]? = some x) : (l.take (k + 1)).sum = (l.take k).sum + x := by
 rw [List.take_add_one, h, List.sum_append]
 simp
theorem sum_bd {l : List Int} {M : Int} (h : ∀ x ∈ l, 0 ≤ x ∧ x ≤ M) : 0 ≤ l.sum ∧ l.sum ≤ M * l.length := by
 induction l with
 | nil => simp
 | cons x l ih =>
  have h1 := h x (List.mem_cons_self ..)
  have h2 := ih (fun y hy => h y (List.mem_cons_of_mem _ hy))
  simp only [List.sum_cons, List.length_cons]
  refine ⟨by omega, ?_⟩
  have : M * ((l.length + 1 : Nat) : Int) = M * l.length + M := by push_cast; rw [Int.mul_add, Int.mul_one]
  omega
theorem take_bd {l : List Int} {k : Nat} (h : ∀ x ∈ l, 0 ≤ x ∧ x ≤ 1000) (hl : l.length ≤ 1000) : 0 ≤ (l.take k).sum ∧ (l.take k).sum ≤ 1000000 := by
 have h1 := sum_bd (l := l.take k) (M := 1000) (fun x hx => h x (List.mem_of_mem_take hx))
 have h2 : (l.take k).length ≤ 1000 := by rw [List.length_take]; omega
 omega

set_option maxRecDepth 100000 in
set_option maxHeartbeats 2000000 in
theorem i_sumInts {w : World} {S : Nat → Prop} {A : Option Addr} {n c : Nat} {l : List Int} (h : Rep w S (.slice A n c) (fIntS l)) (hS : ∀ b, S b → b < w.heap.size) (hl : l.length ≤ 1000) (hbd : ∀ x ∈ l, 0 ≤ x ∧ x ≤ 1000) :
  Calls Try.prog 47 #[.slice A n c] w fun e w' => e = .returned (.int .i64 l.sum) ∧ Below w.heap.size w w' := by
 have hn := h.len
 rw [List.length_map] at hn
 go_enter Try.func47, Try.ntmps47
 go_wp2_with fail
 go_loopw [3, 5, 8] (fun sv _ iv wr => ∃ k : Nat, k ≤ n ∧ iv = .int .i64 k ∧ sv = .int .i64 (l.take k).sum ∧ Below w.heap.size w wr) (fun _ _ iv _ => n - (intOf iv).toNat)
 case atStart => exact ⟨0, Nat.zero_le _, rfl, rfl, Below.refl _ _⟩
 case round =>
  obtain ⟨k, hk, rfl, rfl, hb⟩ := hrel
  have Hb := Lib.hid hb
  have hsz := hb.size
  obtain ⟨hs1, hs2⟩ := take_bd (k := k) hbd hl
  clear hb
  by_cases hlt : k < n
  ·obtain ⟨ad, x, rfl, hab, hx, e0⟩ := ((Rep.to_reads (enc := fun x => [x]) (size := 1) (fun _ => rfl) (by decide) h hS).below Hb.out |> fun r => Reads.int_at (l := l) (by rw [ints_recs]; exact r)) hlt
   have g1 : (0 : Int) ≤ (k : Int) := by omega
   have g2 : (k : Int) < (n : Int) := by omega
   have hx1 := hbd x (List.mem_of_getElem? hx)
   have Hs := Lib.hid (sum_succ hx)
   obtain ⟨s, hs⟩ : ∃ s, s = (l.take k).sum := ⟨_, rfl⟩
   rw [← hs] at hs1 hs2 ⊢
   have HS := Lib.hid hs
   have hw : wrap64 (s + x) = s + x := IntWalk.wrap64_in _ (by omega)
   clear hs hx
   go_wp2_with fail
   go_roundw
   case rel => exact ⟨k + 1, by omega, by go_num, by rw [Hs.out, ← HS.out], Hb.out⟩
   case measure => simp [intOf]; omega
  ·have hge : (n : Int) ≤ (k : Int) := by omega
   have hkn : l.take k = l := List.take_of_length_le (by omega)
   rw [hkn] at hs1 hs2 ⊢
   clear hkn
   go_wp2_with fail
   go_ret
   exact ⟨rfl, Hb.out⟩
set_option maxRecDepth 100000 in
set_option maxHeartbeats 2000000 in
theorem s_l06Sum {w : World} {S : Nat → Prop} {A : Option Addr} {n c : Nat} {l : List Int} (h : Rep w S (.slice A n c) (fIntS l)) (hS : ∀ b, S b → b < w.heap.size) (hl : l.length ≤ 1000) (hbd : ∀ x ∈ l, 0 ≤ x ∧ x ≤ 1000) :
  Calls Try.prog 40 #[.slice A n c] w fun e w' => e = .returned (.int .i64 l.sum) ∧ Below w.heap.size w w' := by
 have hn := h.len
 rw [List.length_map] at hn
 go_enter Try.func40, Try.ntmps40
 go_wp2_with fail
 go_loopw [3, 4] (fun sv iv wr => ∃ k : Nat, k ≤ n ∧ iv = .int .i64 k ∧ sv = .int .i64 (l.take k).sum ∧ Below w.heap.size w wr) (fun _ iv _ => n - (intOf iv).toNat)
 case atStart => exact ⟨0, Nat.zero_le _, rfl, rfl, Below.refl _ _⟩
 case round =>
  obtain ⟨k, hk, rfl, rfl, hb⟩ := hrel
  have Hb := Lib.hid hb
  have hsz := hb.size
  obtain ⟨hs1, hs2⟩ := take_bd (k := k) hbd hl
  clear hb
  by_cases hlt : k < n
  ·obtain ⟨ad, x, rfl, hab, hx, e0⟩ := ((Rep.to_reads (enc := fun x => [x]) (size := 1) (fun _ => rfl) (by decide) h hS).below Hb.out |> fun r => Reads.int_at (l := l) (by rw [ints_recs]; exact r)) hlt
   have g1 : (0 : Int) ≤ (k : Int) := by omega
   have g2 : (k : Int) < (n : Int) := by omega
   have hx1 := hbd x (List.mem_of_getElem? hx)
   have Hs := Lib.hid (sum_succ hx)
   obtain ⟨s, hs⟩ : ∃ s, s = (l.take k).sum := ⟨_, rfl⟩
   rw [← hs] at hs1 hs2 ⊢
   have HS := Lib.hid hs
   have hw : wrap64 (s + x) = s + x := IntWalk.wrap64_in _ (by omega)
   clear hs hx
   go_wp2_with fail
   go_roundw
   case rel => exact ⟨k + 1, by omega, by go_num, by rw [Hs.out, ← HS.out], Hb.out⟩
   case measure => simp [intOf]; omega
  ·have hge : (n : Int) ≤ (k : Int) := by omega
   have hkn : l.take k = l := List.take_of_length_le (by omega)
   rw [hkn] at hs1 hs2 ⊢
   clear hkn
   go_wp2_with fail
   go_ret
   exact ⟨rfl, Hb.out⟩
set_option maxRecDepth 100000 in
set_option maxHeartbeats 2000000 in
theorem i_hasParam {w : World} {S : Nat → Prop} {A : Option Addr} {n c : Nat} {os : List TOp} (h : Rep w S (.slice A n c) (fOpS os)) (hm : n ≤ maxLen) (hS : ∀ b, S b → b < w.heap.size) :
  Calls Try.prog 46 #[.slice A n c] w fun e w' => e = .returned (.bool (hasP os)) ∧ Below w.heap.size w w' := by
 unfold maxLen at hm
 have H := Lib.hid h
 have hl := h.len
 rw [List.length_map] at hl
 have Hl := Lib.hid hl
 clear h hl
 go_enter Try.func46, Try.ntmps46
 go_wp2_with fail
 go_loopw [4, 7] (fun _ iv wr => ∃ k : Nat, k ≤ n ∧ iv = .int .i64 k ∧ Hid ((os.take k).any hp1 = false) ∧ Below w.heap.size w wr) (fun _ iv _ => n - (intOf iv).toNat)
 case atStart => exact ⟨0, Nat.zero_le _, rfl, Lib.hid rfl, bel_⟩
 case round =>
  obtain ⟨k, hk, rfl, Hok, hb⟩ := hrel
  have Hb := Lib.hid hb
  have hsz := hb.size
  clear hb
  by_cases hlt : k < n
  ·obtain ⟨ad, x0, x1, x2, rfl, hab, hx, e0, e1, e2⟩ := fOpS_row (H.out.under hS Hb.out) hlt
   have g1 : (0 : Int) ≤ (k : Int) := by omega
   have g2 : (k : Int) < (n : Int) := by omega
   have Hx := Lib.hid hx
   have Hb2 := Lib.hid (Hb.out.alloc hsz (.cells #[.int .i64 x0, .int .i64 x1, .int .i64 x2] 78))
   clear hx
   by_cases h1 : x0 = 1
   ·subst h1
    go_wp2_with fail
    go_ret
    exact ⟨ret_bool (by unfold hasP; exact (any_hit (p := hp1) Hx.out (by simp [hp1])).symm), Hb2.out⟩
   ·have q1 : (x0 == 1) = false := by simpa using h1
    have H1 := Lib.hid h1
    clear h1
    go_wp2_with fail
    go_roundw
    case rel => exact ⟨k + 1, by omega, by go_num, Lib.hid (by rw [any_take Hx.out, Hok.out, show hp1 (x0, x1, x2) = false by simp [hp1, H1.out]]; rfl), Hb2.out⟩
    case measure => simp [intOf]; omega
  ·have hge : (n : Int) ≤ (k : Int) := by omega
   have He := Lib.hid (show hasP os = false by
    have h1 := Hok.out
    rw [List.take_of_length_le (by rw [Hl.out]; omega)] at h1
    exact h1)
   go_wp2_with fail
   go_ret
   exact ⟨ret_bool He.out.symm, Hb.out⟩
end Go.Proofs.Ytlgbdpcobbbglaa

/- Contracts: does an expression read a signal: the program's and the reference's functions. -/
import Derived.Test.YtlgbdpcobbbglaaEvo
import Derived.Outline
namespace Go.Proofs.Ytlgbdpcobbbglaa
open Go.RowKit

theorem any_take {α : Type} {p : α → Bool} {l : List α} {k : Nat} {x : α} (h : l[k]? = some x) : (l.take (k + 1)).any p = ((l.take k).any p || p x) := by
 rw [List.take_add_one, h, List.any_append]
 simp
theorem any_hit {α : Type} {p : α → Bool} {l : List α} {k : Nat} {x : α} (h : l[k]? = some x) (hx : p x = true) : l.any p = true := by
 rw [List.any_eq_true]
 exact ⟨x, List.mem_of_getElem? h, hx⟩
def rd1 (s : Int) (o : TOp) : Bool := decide ((o.1 = 2 ∨ o.1 = 3) ∧ o.2.1 = s)
def wt1 (f : Nat → Bool) (o : TOp) : Bool := decide (o.1 = 2 ∨ o.1 = 3) && f o.2.1.toNat
def bools (l : List Bool) : List Value := l.map Value.bool
theorem bools_len (l : List Bool) : (bools l).length = l.length := by simp [bools]
theorem bools_get (l : List Bool) (k : Nat) : (bools l)[k]? = l[k]?.map Value.bool := by simp [bools]

set_option maxRecDepth 100000 in
set_option maxHeartbeats 2000000 in
theorem i_readsSignal {w : World} {S : Nat → Prop} {A : Option Addr} {n c : Nat} {os : List TOp} (s : Int) (h : Rep w S (.slice A n c) (fOpS os)) (hm : n ≤ maxLen) (hS : ∀ b, S b → b < w.heap.size) :
  Calls Try.prog 80 #[.slice A n c, .int .i64 s] w fun e w' => e = .returned (.bool (rdB os s)) ∧ Below w.heap.size w w' := by
 unfold maxLen at hm
 have H := Lib.hid h
 have hl := h.len
 rw [List.length_map] at hl
 have Hl := Lib.hid hl
 clear h hl
 go_enter Try.func80, Try.ntmps80
 go_wp2_with fail
 go_loopw [6, 9] (fun _ iv wr => ∃ k : Nat, k ≤ n ∧ iv = .int .i64 k ∧ Hid ((os.take k).any (rd1 s) = false) ∧ Below w.heap.size w wr) (fun _ iv _ => n - (intOf iv).toNat)
 case atStart => exact ⟨0, Nat.zero_le _, rfl, Lib.hid rfl, bel_⟩
 case round =>
  obtain ⟨k, hk, rfl, Hok, hb⟩ := hrel
  have Hb := Lib.hid hb
  have hsz := hb.size
  clear hb
  by_cases hlt : k < n
  ·obtain ⟨ad, x0, x1, x2, rfl, hab, hx, e0, e1, e2⟩ := fOpS_row (H.out.under hS Hb.out) hlt
   have g1 : (0 : Int) ≤ (k : Int) := by omega
   have g2 : (k : Int) < (n : Int) := by omega
   have Hx := Lib.hid hx
   have Hb2 := Lib.hid (Hb.out.alloc hsz (.cells #[.int .i64 x0, .int .i64 x1, .int .i64 x2] 78))
   clear hx
   by_cases h2 : x0 = 2
   ·subst h2
    by_cases h4 : x1 = s
    ·subst h4
     go_wp2_with fail
     go_ret
     exact ⟨ret_bool (by unfold rdB; exact (any_hit (p := rd1 x1) Hx.out (by simp [rd1])).symm), Hb2.out⟩
    ·have q4 : (x1 == s) = false := by simpa using h4
     have H4 := Lib.hid h4
     clear h4
     go_wp2_with fail
     go_roundw
     case rel => exact ⟨k + 1, by omega, by go_num, Lib.hid (by rw [any_take Hx.out, Hok.out, show rd1 s (2, x1, x2) = false by simp [rd1, H4.out]]; rfl), Hb2.out⟩
     case measure => simp [intOf]; omega
   ·have q2 : (x0 == 2) = false := by simpa using h2
    have H2 := Lib.hid h2
    clear h2
    by_cases h3 : x0 = 3
    ·subst h3
     by_cases h4 : x1 = s
     ·subst h4
      go_wp2_with fail
      go_ret
      exact ⟨ret_bool (by unfold rdB; exact (any_hit (p := rd1 x1) Hx.out (by simp [rd1])).symm), Hb2.out⟩
     ·have q4 : (x1 == s) = false := by simpa using h4
      have H4 := Lib.hid h4
      clear h4
      go_wp2_with fail
      go_roundw
      case rel => exact ⟨k + 1, by omega, by go_num, Lib.hid (by rw [any_take Hx.out, Hok.out, show rd1 s (3, x1, x2) = false by simp [rd1, H4.out]]; rfl), Hb2.out⟩
      case measure => simp [intOf]; omega
    ·have q3 : (x0 == 3) = false := by simpa using h3
     have H3 := Lib.hid h3
     clear h3
     go_wp2_with fail
     go_roundw
     case rel => exact ⟨k + 1, by omega, by go_num, Lib.hid (by rw [any_take Hx.out, Hok.out, show rd1 s (x0, x1, x2) = false by simp [rd1, H2.out, H3.out]]; rfl), Hb2.out⟩
     case measure => simp [intOf]; omega
  ·have hge : (n : Int) ≤ (k : Int) := by omega
   have He := Lib.hid (show rdB os s = false by
    have h1 := Hok.out
    rw [List.take_of_length_le (by rw [Hl.out]; omega)] at h1
    exact h1)
   go_wp2_with fail
   go_ret
   exact ⟨ret_bool He.out.symm, Hb.out⟩
set_option maxRecDepth 100000 in
set_option maxHeartbeats 2000000 in
theorem s_l06Waits {w : World} {S : Nat → Prop} {A A2 : Option Addr} {n c ns c2 : Nat} {os : List TOp} {L : List Bool} (h : Rep w S (.slice A n c) (fOpS os)) (hm : n ≤ maxLen) (hS : ∀ b, S b → b < w.heap.size) (hL : Reads w w.heap.size 1 A2 ns (bools L))
  (hsg : ∀ o ∈ os, (o.1 = 2 ∨ o.1 = 3) → 0 ≤ o.2.1 ∧ o.2.1 < (ns : Int)) :
  Calls Try.prog 67 #[.slice A n c, .slice A2 ns c2] w fun e w' => e = .returned (.bool (waitsB' (fun s => L.getD s false) os)) ∧ Below w.heap.size w w' := by
 unfold maxLen at hm
 have H := Lib.hid h
 have hl := h.len
 rw [List.length_map] at hl
 have Hl := Lib.hid hl
 clear h hl
 go_enter Try.func67, Try.ntmps67
 go_wp2_with fail
 go_loopw [5] (fun iv wr => ∃ k : Nat, k ≤ n ∧ iv = .int .i64 k ∧ Hid ((os.take k).any (wt1 (fun s => L.getD s false)) = false) ∧ Below w.heap.size w wr) (fun iv _ => n - (intOf iv).toNat)
 case atStart => exact ⟨0, Nat.zero_le _, rfl, Lib.hid rfl, bel_⟩
 case round =>
  obtain ⟨k, hk, rfl, Hok, hb⟩ := hrel
  have Hb := Lib.hid hb
  have hsz := hb.size
  clear hb
  by_cases hlt : k < n
  ·obtain ⟨ad, x0, x1, x2, rfl, hab, hx, e0, e1, e2⟩ := fOpS_row (H.out.under hS Hb.out) hlt
   have g1 : (0 : Int) ≤ (k : Int) := by omega
   have g2 : (k : Int) < (n : Int) := by omega
   by_cases h2 : x0 = 2
   ·subst h2
    obtain ⟨x1n, rfl⟩ := Int.eq_ofNat_of_zero_le (hsg _ (List.mem_of_getElem? hx) (.inl rfl)).1
    have hxn : x1n < ns := by have := (hsg _ (List.mem_of_getElem? hx) (.inl rfl)).2; simp only at this; omega
    obtain ⟨ad2, bv, rfl, hb2, hu, hc⟩ := (hL.below Hb.out).at_ (k := x1n) hxn
    rw [bools_get] at hu
    cases hbq : L[x1n]? with
    | none => rw [hbq] at hu; cases hu
    | some b =>
     rw [hbq] at hu
     simp only [Option.map_some, Option.some.injEq] at hu
     subst hu
     have Hq := Lib.hid (show L.getD x1n false = b by simp [hbq])
     have Hx := Lib.hid hx
     have g3 : (0 : Int) ≤ (x1n : Int) := by omega
     have g4 : (x1n : Int) < (ns : Int) := by omega
     clear hx hbq
     cases b with
     | true =>
      go_wp2_with fail
      go_ret
      exact ⟨ret_bool (by exact (any_hit (p := wt1 (fun s => L.getD s false)) Hx.out (by simp only [wt1]; rw [Int.toNat_natCast, Hq.out]; decide)).symm), Hb.out⟩
     | false =>
      go_wp2_with fail
      go_roundw
      case rel => exact ⟨k + 1, by omega, by go_num, Lib.hid (by rw [any_take Hx.out, Hok.out, show wt1 (fun s => L.getD s false) _ = false by simp only [wt1]; rw [Int.toNat_natCast, Hq.out, Bool.and_false]]; rfl), Hb.out⟩
      case measure => simp [intOf]; omega
   ·have q2 : (x0 == 2) = false := by simpa using h2
    have H2 := Lib.hid h2
    clear h2
    by_cases h3 : x0 = 3
    ·subst h3
     obtain ⟨x1n, rfl⟩ := Int.eq_ofNat_of_zero_le (hsg _ (List.mem_of_getElem? hx) (.inr rfl)).1
     have hxn : x1n < ns := by have := (hsg _ (List.mem_of_getElem? hx) (.inr rfl)).2; simp only at this; omega
     obtain ⟨ad2, bv, rfl, hb2, hu, hc⟩ := (hL.below Hb.out).at_ (k := x1n) hxn
     rw [bools_get] at hu
     cases hbq : L[x1n]? with
     | none => rw [hbq] at hu; cases hu
     | some b =>
      rw [hbq] at hu
      simp only [Option.map_some, Option.some.injEq] at hu
      subst hu
      have Hq := Lib.hid (show L.getD x1n false = b by simp [hbq])
      have Hx := Lib.hid hx
      have g3 : (0 : Int) ≤ (x1n : Int) := by omega
      have g4 : (x1n : Int) < (ns : Int) := by omega
      clear hx hbq
      cases b with
      | true =>
       go_wp2_with fail
       go_ret
       exact ⟨ret_bool (by exact (any_hit (p := wt1 (fun s => L.getD s false)) Hx.out (by simp only [wt1]; rw [Int.toNat_natCast, Hq.out]; decide)).symm), Hb.out⟩
      | false =>
       go_wp2_with fail
       go_roundw
       case rel => exact ⟨k + 1, by omega, by go_num, Lib.hid (by rw [any_take Hx.out, Hok.out, show wt1 (fun s => L.getD s false) _ = false by simp only [wt1]; rw [Int.toNat_natCast, Hq.out, Bool.and_false]]; rfl), Hb.out⟩
       case measure => simp [intOf]; omega
    ·have q3 : (x0 == 3) = false := by simpa using h3
     have H3 := Lib.hid h3
     have Hx := Lib.hid hx
     clear h3 hx
     go_wp2_with fail
     go_roundw
     case rel => exact ⟨k + 1, by omega, by go_num, Lib.hid (by rw [any_take Hx.out, Hok.out, show wt1 (fun s => L.getD s false) (x0, x1, x2) = false by simp [wt1, H2.out, H3.out]]; rfl), Hb.out⟩
     case measure => simp [intOf]; omega
  ·have hge : (n : Int) ≤ (k : Int) := by omega
   have He := Lib.hid (show waitsB' (fun s => L.getD s false) os = false by
    have h1 := Hok.out
    rw [List.take_of_length_le (by rw [Hl.out]; omega)] at h1
    exact h1)
   go_wp2_with fail
   go_ret
   exact ⟨ret_bool He.out.symm, Hb.out⟩
end Go.Proofs.Ytlgbdpcobbbglaa

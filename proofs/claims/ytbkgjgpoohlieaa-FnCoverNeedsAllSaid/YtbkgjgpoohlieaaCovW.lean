/- Contracts: validity of a list of cubes, its table, its literals: the program's and the reference's functions. -/
import Derived.Test.YtbkgjgpoohlieaaRec
import Derived.Test.YtbkgjgpoohlieaaHas
import Derived.Test.YtbkgjgpoohlieaaTabC
import Derived.Test.YtbkgjgpoohlieaaCov
import Derived.Outline
namespace Go.Proofs.Ytbkgjgpoohlieaa
open Go.RowKit
attribute [local go_sem] i64_and1

def cOkP (n : Int) (c : Int × Int) : Bool := cOk n c.1 c.2
def cvOk (n : Int) (l : List (Int × Int)) : Bool := inR n 0 4 && (decide (l.length ≤ 81) && l.all (cOkP n))
def natC (c : Int × Int) : Tb.Cb := (c.1.toNat, c.2.toNat)
def cTab (n : Int) (l : List (Int × Int)) : Int × Int := if cvOk n l then (n, ((Tb.ctab (2 ^ n.toNat) (l.map natC) : Nat) : Int)) else (0, 0)

theorem take_all {α : Type} {p : α → Bool} {l : List α} {k : Nat} {x : α} (h : (l.take k).all p = true) (hx : l[k]? = some x) (hp : p x = true) : (l.take (k + 1)).all p = true := by
 rw [List.take_add_one, List.all_append, h, hx]; simp [hp]
theorem not_all {α : Type} {p : α → Bool} {l : List α} {k : Nat} {x : α} (hx : l[k]? = some x) (hp : p x = false) : l.all p = false := by
 rw [List.all_eq_false]
 exact ⟨x, List.mem_of_getElem? hx, by simp [hp]⟩

set_option maxRecDepth 100000 in
set_option maxHeartbeats 4000000 in
theorem i_coverOk {w : World} {B : Nat} {A : Option Addr} {n c : Nat} {l : List (Int × Int)} (m : Int) (h : Reads w B 2 A n (cbs l)) (hB : B ≤ w.heap.size) (hn : n ≤ 1099511627776) :
  Calls Try.prog 62 #[.int .i64 m, .slice A n c] w fun e w' => e = .returned (.bool (cvOk m l)) ∧ Below w.heap.size w w' := by
 have hl := h.clen
 have Hl := Lib.hid hl
 by_cases hm : inR m 0 4 = true
 ·have Hm := Lib.hid hm
  by_cases h81 : n ≤ 81
  ·clear hm hl
   go_enter Try.func62, Try.ntmps62
   go_wp2_with (first | (go_at_call 53; refine (i_inRange _ _ _ _).mono ?_; rintro e w' ⟨rfl, rfl⟩; rw [Hm.out]))
   go_loopw [17] (fun i wr => ∃ k : Nat, k ≤ n ∧ i = .int .i64 k ∧ (l.take k).all (cOkP m) = true ∧ Below w.heap.size w wr) (fun i _ => n - (intOf i).toNat)
   case atStart => exact ⟨0, Nat.zero_le _, rfl, rfl, Below.refl _ _⟩
   case round =>
    obtain ⟨k, hk, rfl, hall, hb⟩ := hrel
    have Hall := Lib.hid hall
    have Hb := Lib.hid hb
    have hsz := hb.size
    clear hall hb
    by_cases hlt : k < n
    ·obtain ⟨ad, x, y, rfl, hab, hx, hc0, hc1⟩ := h.cube_at hlt
     have Hx := Lib.hid hx
     have e0 := (Hb.out.cell (p := ad.add (k * 2)) (by rw [block_of_add]; omega)).trans hc0
     have e1 := (Hb.out.cell (p := nxt (ad.add (k * 2)) 1) (by rw [nxt_block]; omega)).trans hc1
     clear hc0 hc1 hx
     have g1 : (0 : Int) ≤ (k : Int) := by omega
     have g2 : (k : Int) < (n : Int) := by omega
     go_wp2_with fail
     refine (i_CubeOk _ _ _ _).mono ?_
     rintro e w2 ⟨rfl, hb2⟩
     have Hb2 := Lib.hid ((Hb.out.alloc hsz (.cells #[.int .i64 x, .int .i64 y] 61)).trans (hb2.mono (by simp; omega)))
     clear hb2
     by_cases hck : cOk m x y = true
     ·rw [hck]
      have Hck := Lib.hid hck
      clear hck
      go_wp2_with fail
      go_roundw
      case rel => exact ⟨k + 1, by omega, by go_num, take_all Hall.out Hx.out Hck.out, Hb2.out⟩
      case measure => simp [intOf]; omega
     ·have hck : cOk m x y = false := by simpa using hck
      rw [hck]
      have Hck := Lib.hid (not_all (p := cOkP m) Hx.out hck)
      clear hck
      go_wp2_with fail
      go_ret
      exact ⟨ret_bool (by simp [cvOk, Hck.out]), Hb2.out⟩
    ·obtain rfl : k = n := by omega
     go_wp2_with fail
     go_ret
     refine ⟨ret_bool ?_, Hb.out⟩
     have h1 := Hall.out
     rw [List.take_of_length_le (by rw [Hl.out]; exact Nat.le_refl _)] at h1
     simp [cvOk, Hm.out, h1, Hl.out, h81]
  ·have h81' : (81 : Int) < (n : Int) := by omega
   clear hm hl
   go_enter Try.func62, Try.ntmps62
   go_wp2_with (first | (go_at_call 53; refine (i_inRange _ _ _ _).mono ?_; rintro e w' ⟨rfl, rfl⟩; rw [Hm.out]))
   go_ret
   exact ⟨ret_bool (by simp [cvOk, Hl.out, h81]), Below.refl _ _⟩
 ·have hm : inR m 0 4 = false := by simpa using hm
  have Hm := Lib.hid hm
  clear hm hl
  go_enter Try.func62, Try.ntmps62
  go_wp2_with (first | (go_at_call 53; refine (i_inRange _ _ _ _).mono ?_; rintro e w' ⟨rfl, rfl⟩; rw [Hm.out]))
  go_ret
  exact ⟨ret_bool (by simp [cvOk, Hm.out]), Below.refl _ _⟩

set_option maxRecDepth 100000 in
set_option maxHeartbeats 4000000 in
theorem s_l03Ok {w : World} {B : Nat} {A : Option Addr} {n c : Nat} {l : List (Int × Int)} (m : Int) (h : Reads w B 2 A n (cbs l)) (hB : B ≤ w.heap.size) (hn : n ≤ 1099511627776) :
  Calls Try.prog 60 #[.int .i64 m, .slice A n c] w fun e w' => e = .returned (.bool (cvOk m l)) ∧ Below w.heap.size w w' := by
 have hl := h.clen
 have Hl := Lib.hid hl
 by_cases hm : inR m 0 4 = true
 ·have Hm := Lib.hid hm
  by_cases h81 : n ≤ 81
  ·clear hm hl
   go_enter Try.func60, Try.ntmps60
   go_wp2_with (first | (go_at_call 77; refine (s_l01In _ _ _ _).mono ?_; rintro e w' ⟨rfl, rfl⟩; rw [Hm.out]))
   go_loopw [5] (fun i wr => ∃ k : Nat, k ≤ n ∧ i = .int .i64 k ∧ (l.take k).all (cOkP m) = true ∧ Below w.heap.size w wr) (fun i _ => n - (intOf i).toNat)
   case atStart => exact ⟨0, Nat.zero_le _, rfl, rfl, Below.refl _ _⟩
   case round =>
    obtain ⟨k, hk, rfl, hall, hb⟩ := hrel
    have Hall := Lib.hid hall
    have Hb := Lib.hid hb
    have hsz := hb.size
    clear hall hb
    by_cases hlt : k < n
    ·obtain ⟨ad, x, y, rfl, hab, hx, hc0, hc1⟩ := h.cube_at hlt
     have Hx := Lib.hid hx
     have e0 := (Hb.out.cell (p := ad.add (k * 2)) (by rw [block_of_add]; omega)).trans hc0
     have e1 := (Hb.out.cell (p := nxt (ad.add (k * 2)) 1) (by rw [nxt_block]; omega)).trans hc1
     clear hc0 hc1 hx
     have g1 : (0 : Int) ≤ (k : Int) := by omega
     have g2 : (k : Int) < (n : Int) := by omega
     go_wp2_with fail
     refine (s_CubeOk _ _ _ _).mono ?_
     rintro e w2 ⟨rfl, hb2⟩
     have Hb2 := Lib.hid (Hb.out.trans (hb2.mono hsz))
     clear hb2
     by_cases hck : cOk m x y = true
     ·rw [hck]
      have Hck := Lib.hid hck
      clear hck
      go_wp2_with fail
      go_roundw
      case rel => exact ⟨k + 1, by omega, by go_num, take_all Hall.out Hx.out Hck.out, Hb2.out⟩
      case measure => simp [intOf]; omega
     ·have hck : cOk m x y = false := by simpa using hck
      rw [hck]
      have Hck := Lib.hid (not_all (p := cOkP m) Hx.out hck)
      clear hck
      go_wp2_with fail
      go_ret
      exact ⟨ret_bool (by simp [cvOk, Hck.out]), Hb2.out⟩
    ·obtain rfl : k = n := by omega
     go_wp2_with fail
     go_ret
     refine ⟨ret_bool ?_, Hb.out⟩
     have h1 := Hall.out
     rw [List.take_of_length_le (by rw [Hl.out]; exact Nat.le_refl _)] at h1
     simp [cvOk, Hm.out, h1, Hl.out, h81]
  ·have h81' : (81 : Int) < (n : Int) := by omega
   clear hm hl
   go_enter Try.func60, Try.ntmps60
   go_wp2_with (first | (go_at_call 77; refine (s_l01In _ _ _ _).mono ?_; rintro e w' ⟨rfl, rfl⟩; rw [Hm.out]))
   go_ret
   exact ⟨ret_bool (by simp [cvOk, Hl.out, h81]), Below.refl _ _⟩
 ·have hm : inR m 0 4 = false := by simpa using hm
  have Hm := Lib.hid hm
  clear hm hl
  go_enter Try.func60, Try.ntmps60
  go_wp2_with (first | (go_at_call 77; refine (s_l01In _ _ _ _).mono ?_; rintro e w' ⟨rfl, rfl⟩; rw [Hm.out]))
  go_ret
  exact ⟨ret_bool (by simp [cvOk, Hm.out]), Below.refl _ _⟩
end Go.Proofs.Ytbkgjgpoohlieaa

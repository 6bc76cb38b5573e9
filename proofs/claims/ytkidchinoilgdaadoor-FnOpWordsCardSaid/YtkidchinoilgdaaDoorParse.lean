/- Contracts: a number read from its decimal text: both functions. -/
import Derived.Test.YtkidchinoilgdaaDoorFmtS
namespace Go.Proofs.YtkidchinoilgdaaDoor
open Go.RowKit

/-- what both return -/
def puV (l : List UInt8) : Value := match Tx.pu l with
 | some n => .tuple #[.int .i64 n, .bool true]
 | none => .tuple #[.int .i64 0, .bool false]
theorem puV_some {l : List UInt8} {n : Nat} (h : Tx.pu l = some n) : puV l = .tuple #[.int .i64 n, .bool true] := by rw [puV, h]
theorem puV_none {l : List UInt8} (h : Tx.pu l = none) : puV l = .tuple #[.int .i64 0, .bool false] := by rw [puV, h]
theorem all_take {s : ByteArray} {k : Nat} (h : k < s.size) : (s.data.toList.take (k + 1)).all Tx.isD = ((s.data.toList.take k).all Tx.isD && Tx.isD s[k]) := by
 rw [take_snoc s k h, List.all_append]; simp
theorem val_take {s : ByteArray} {k : Nat} (h : k < s.size) : Tx.val (s.data.toList.take (k + 1)) = 10 * Tx.val (s.data.toList.take k) + (s[k].toNat - 48) := by
 rw [take_snoc s k h, Tx.val_snoc]
theorem not_all {s : ByteArray} {k : Nat} (h : k < s.size) (hd : Tx.isD s[k] = false) : s.data.toList.all Tx.isD = false := by
 cases ha : s.data.toList.all Tx.isD
 ·rfl
 ·have hm : s[k] ∈ s.data.toList := by
   have : k < s.data.toList.length := by simpa using h
   have e : s[k] = s.data.toList[k] := rfl
   rw [e]; exact List.getElem_mem _
  rw [List.all_eq_true.1 ha _ hm] at hd
  cases hd
theorem pu_digits {l : List UInt8} (h : l.all Tx.isD = false) : Tx.pu l = none := by
 unfold Tx.pu; rw [if_neg (by simp [h])]
theorem val_bd {s : ByteArray} {k : Nat} (hk : k ≤ 10) (h : (s.data.toList.take k).all Tx.isD = true) : Tx.val (s.data.toList.take k) < 10 ^ 10 := by
 have h1 := Tx.val_lt h
 have h2 : (s.data.toList.take k).length ≤ 10 := Nat.le_trans (List.length_take_le _ _) hk
 exact Nat.lt_of_lt_of_le h1 (Nat.pow_le_pow_right (by omega) h2)

set_option maxRecDepth 100000 in
set_option maxHeartbeats 4000000 in
theorem s_ParseUint (s : ByteArray) (hs : s.size ≤ maxLen) (w : World) : Calls Tryd.prog 39 #[.string s] w fun e w' => e = .returned (puV s.data.toList) ∧ Below w.heap.size w w' := by
 unfold maxLen at hs
 by_cases hl : s.size ≤ 10
 ·go_enter Tryd.func39, Tryd.ntmps39
  go_wp2_with fail
  go_loop [4, 5] (fun nv i => ∃ k : Nat, k ≤ s.size ∧ i = .int .i64 k ∧ nv = .int .i64 (Tx.val (s.data.toList.take k)) ∧ (s.data.toList.take k).all Tx.isD = true) (fun _ i => s.size - (intOf i).toNat)
  case atStart => exact ⟨0, Nat.zero_le _, rfl, rfl, rfl⟩
  case round =>
   obtain ⟨k, hk, rfl, rfl, hall⟩ := hrel
   have hv := val_bd (by omega) hall
   have Hall := Lib.hid hall
   clear hall
   by_cases hlt : k < s.size
   ·have g1 : (0 : Int) ≤ (k : Int) := by omega
    have g2 : (k : Int) < (s.size : Int) := by omega
    have hx : s[k].toNat < 256 := s[k].toNat_lt
    have Hval := Lib.hid (val_take hlt)
    have Hal := Lib.hid (all_take hlt)
    by_cases hd : 48 ≤ s[k].toNat ∧ s[k].toNat ≤ 57
    ·have hd1 := hd.1
     have hd2 := hd.2
     have Hd := Lib.hid (show Tx.isD s[k] = true by simp [Tx.isD, hd1, hd2])
     clear hd
     go_wp2_with fail
     go_round
     case rel =>
      refine ⟨k + 1, by omega, by go_num, ?_, by rw [Hal.out, Hall.out, Hd.out]; rfl⟩
      rw [Hval.out]
      go_num
     case measure => simp [intOf]; omega
    ·have Hd := Lib.hid (pu_digits (not_all hlt (show Tx.isD s[k] = false by simp only [Tx.isD]; simpa using hd)))
     have hd' : ((s[k].toNat : Int) < 48) ∨ (57 < (s[k].toNat : Int)) := by omega
     clear hd
     rcases hd' with hd | hd
     all_goals
      go_wp2_with fail
      go_ret2
      exact ⟨by rw [puV_none Hd.out]; rfl, Below.refl _ _⟩
   ·obtain rfl : k = s.size := by omega
    rw [List.take_of_length_le (by simp)] at Hall hv ⊢
    by_cases hm : Tx.val s.data.toList ≤ 1000000000
    ·have hi : i64B (Tx.val s.data.toList : Int) := ⟨by omega, by omega⟩
     have hfm : Tx.fmtI (Tx.val s.data.toList : Int) = Tx.fmtN (Tx.val s.data.toList) := by
      rw [Tx.fmtI, if_neg (by omega)]; rfl
     have hiff := Tx.fmt_val_iff Hall.out (by simp; omega)
     by_cases hlead : Tx.noLead s.data.toList = true
     ·have He := Lib.hid (show Tx.pu s.data.toList = some (Tx.val s.data.toList) by
       unfold Tx.pu; rw [if_pos ⟨hlead, by simpa using hl, Hall.out, hm⟩])
      have hf : Tx.fmtI (Tx.val s.data.toList : Int) = s.data.toList := by rw [hfm]; exact hiff.2 hlead
      have Hf := Lib.hid hf
      have Hi := Lib.hid hi
      clear hf hfm hiff hlead hi
      go_wp2_with fail
      refine (s_FormatInt _ Hi.out _).mono ?_
      rintro e w1 ⟨rfl, hb1⟩
      rw [Hf.out]
      go_wp2_with fail
      go_ret2
      exact ⟨by rw [puV_some He.out]; rfl, hb1⟩
     ·have He := Lib.hid (show Tx.pu s.data.toList = none by
       unfold Tx.pu; rw [if_neg (fun h => hlead h.1)])
      have hf : ¬ Tx.fmtI (Tx.val s.data.toList : Int) = s.data.toList := by rw [hfm]; exact fun h => hlead (hiff.1 h)
      have Hf := Lib.hid hf
      have Hi := Lib.hid hi
      clear hf hfm hiff hlead hi
      go_wp2_with fail
      refine (s_FormatInt _ Hi.out _).mono ?_
      rintro e w1 ⟨rfl, hb1⟩
      have hbe : (Tx.fmtI (Tx.val s.data.toList : Int) == s.toList) = false := by
       rw [beq_eq_false_iff_ne, ByteArray.toList_eq]; exact Hf.out
      go_wp2_with fail
      go_ret2
      exact ⟨by rw [puV_none He.out]; rfl, hb1⟩
    ·have He := Lib.hid (show Tx.pu s.data.toList = none by
      unfold Tx.pu; rw [if_neg (fun h => hm h.2.2.2)])
     have hm' : 1000000000 < Tx.val s.data.toList := by omega
     clear hm
     go_wp2_with fail
     go_ret2
     exact ⟨by rw [puV_none He.out]; rfl, Below.refl _ _⟩
 ·have He := Lib.hid (show Tx.pu s.data.toList = none by
   unfold Tx.pu; rw [if_neg (fun h => hl (by simpa using h.2.1))])
  go_enter Tryd.func39, Tryd.ntmps39
  go_wp2_with fail
  go_ret2
  exact ⟨by rw [puV_none He.out]; rfl, Below.refl _ _⟩

theorem lead_no {s : ByteArray} (h1 : 1 < s.size) (h : s[0].toNat = 48) : Tx.noLead s.data.toList = false := by
 obtain ⟨⟨l⟩⟩ := s
 match l, h1, h with
 | c :: d :: t, _, h =>
  have h' : c.toNat = 48 := h
  simp [Tx.noLead, h']
theorem lead_yes {s : ByteArray} (h0 : 0 < s.size) (h : 1 < s.size → ¬ s[0].toNat = 48) : Tx.noLead s.data.toList = true := by
 obtain ⟨⟨l⟩⟩ := s
 match l, h0, h with
 | [c], _, _ => rfl
 | c :: d :: t, _, h =>
  have h' : ¬ c.toNat = 48 := h (by show 1 < (c :: d :: t).length; simp)
  simp [Tx.noLead, h']
theorem pu_lead {l : List UInt8} (h : Tx.noLead l = false) : Tx.pu l = none := by
 unfold Tx.pu; rw [if_neg (by simp [h])]
theorem empty_of {s : ByteArray} (h : s.size = 0) : s.data.toList = [] := List.eq_nil_of_length_eq_zero (by simpa using h)

set_option maxRecDepth 100000 in
set_option maxHeartbeats 4000000 in
theorem i_ParseUint (s : ByteArray) (hs : s.size ≤ maxLen) (w : World) : Calls Tryd.prog 73 #[.string s] w fun e w' => e = .returned (puV s.data.toList) ∧ Below w.heap.size w w' := by
 unfold maxLen at hs
 by_cases h0 : s.size = 0
 ·have hnil := empty_of h0
  have he : s.toList = [] := by rw [ByteArray.toList_eq]; exact hnil
  have He := Lib.hid (show puV s.data.toList = .tuple #[.int .i64 0, .bool false] by rw [hnil]; rfl)
  clear hnil
  go_enter Tryd.func73, Tryd.ntmps73
  go_wp2_with fail
  go_ret2
  exact ⟨by rw [He.out]; rfl, Below.refl _ _⟩
 ·have hne : s.toList ≠ [] := by
   rw [ByteArray.toList_eq]
   intro h
   have hl := congrArg List.length h
   have hl2 : s.data.toList.length = s.size := by simp
   rw [hl2] at hl
   exact h0 hl
  have he : (s.toList == []) = false := by simpa using hne
  have he2 : s.toList.isEmpty = false := by simpa using hne
  by_cases hl : s.size ≤ 10
  ·have hp : 0 < s.size := by omega
   have g0 : (0 : Int) < (s.size : Int) := by omega
   by_cases hld : 1 < s.size ∧ s[0].toNat = 48
   ·have He := Lib.hid (pu_lead (lead_no hld.1 hld.2))
    have hz : ((s[0].toNat : Int) == 48) = true := by simp; omega
    have h1 : 1 < s.size := hld.1
    have g1 : (1 : Int) < (s.size : Int) := by omega
    clear hld
    go_enter Tryd.func73, Tryd.ntmps73
    go_wp2_with fail
    go_ret2
    exact ⟨by rw [puV_none He.out]; rfl, Below.refl _ _⟩
   ·have Hlead := Lib.hid (lead_yes hp (fun h1 h2 => hld ⟨h1, h2⟩))
    have hz : 1 < s.size → ((s[0].toNat : Int) == 48) = false := fun h1 => by
     rw [beq_eq_false_iff_ne]
     intro h2
     exact hld ⟨h1, by omega⟩
    have HZ := Lib.hid hz
    clear hz hld
    by_cases h1 : 1 < s.size
    ·have hz := HZ.out h1
     have g1 : (1 : Int) < (s.size : Int) := by omega
     go_enter Tryd.func73, Tryd.ntmps73
     go_wp2_with fail
     go_loop [4, 5] (fun nv i => ∃ k : Nat, k ≤ s.size ∧ i = .int .i64 k ∧ nv = .int .i64 (Tx.val (s.data.toList.take k)) ∧ (s.data.toList.take k).all Tx.isD = true) (fun _ i => s.size - (intOf i).toNat)
     case atStart => exact ⟨0, Nat.zero_le _, rfl, rfl, rfl⟩
     case round =>
      obtain ⟨k, hk, rfl, rfl, hall⟩ := hrel
      have hv := val_bd (by omega) hall
      have Hall := Lib.hid hall
      clear hall
      by_cases hlt : k < s.size
      ·have g1 : (0 : Int) ≤ (k : Int) := by omega
       have g2 : (k : Int) < (s.size : Int) := by omega
       have hx : s[k].toNat < 256 := s[k].toNat_lt
       have Hval := Lib.hid (val_take hlt)
       have Hal := Lib.hid (all_take hlt)
       by_cases hd : 48 ≤ s[k].toNat ∧ s[k].toNat ≤ 57
       ·have hd1 := hd.1
        have hd2 := hd.2
        have Hd := Lib.hid (show Tx.isD s[k] = true by simp [Tx.isD, hd1, hd2])
        clear hd
        go_wp2_with fail
        go_round
        case rel =>
         refine ⟨k + 1, by omega, by go_num, ?_, by rw [Hal.out, Hall.out, Hd.out]; rfl⟩
         rw [Hval.out]
         go_num
        case measure => simp [intOf]; omega
       ·have Hd := Lib.hid (pu_digits (not_all hlt (show Tx.isD s[k] = false by simp only [Tx.isD]; simpa using hd)))
        have hd' : ((s[k].toNat : Int) < 48) ∨ (57 < (s[k].toNat : Int)) := by omega
        clear hd
        rcases hd' with hd | hd
        all_goals
         go_wp2_with fail
         go_ret2
         exact ⟨by rw [puV_none Hd.out]; rfl, Below.refl _ _⟩
      ·obtain rfl : k = s.size := by omega
       rw [List.take_of_length_le (by simp)] at Hall hv ⊢
       by_cases hm : Tx.val s.data.toList ≤ 1000000000
       ·have He := Lib.hid (show Tx.pu s.data.toList = some (Tx.val s.data.toList) by
         unfold Tx.pu; rw [if_pos ⟨Hlead.out, by simpa using hl, Hall.out, hm⟩])
        go_wp2_with fail
        go_ret2
        exact ⟨by rw [puV_some He.out]; rfl, Below.refl _ _⟩
       ·have He := Lib.hid (show Tx.pu s.data.toList = none by
         unfold Tx.pu; rw [if_neg (fun h => hm h.2.2.2)])
        have hm' : 1000000000 < Tx.val s.data.toList := by omega
        clear hm
        go_wp2_with fail
        go_ret2
        exact ⟨by rw [puV_none He.out]; rfl, Below.refl _ _⟩
    ·have g1 : (s.size : Int) ≤ 1 := by omega
     go_enter Tryd.func73, Tryd.ntmps73
     go_wp2_with fail
     go_loop [4, 5] (fun nv i => ∃ k : Nat, k ≤ s.size ∧ i = .int .i64 k ∧ nv = .int .i64 (Tx.val (s.data.toList.take k)) ∧ (s.data.toList.take k).all Tx.isD = true) (fun _ i => s.size - (intOf i).toNat)
     case atStart => exact ⟨0, Nat.zero_le _, rfl, rfl, rfl⟩
     case round =>
      obtain ⟨k, hk, rfl, rfl, hall⟩ := hrel
      have hv := val_bd (by omega) hall
      have Hall := Lib.hid hall
      clear hall
      by_cases hlt : k < s.size
      ·have g1 : (0 : Int) ≤ (k : Int) := by omega
       have g2 : (k : Int) < (s.size : Int) := by omega
       have hx : s[k].toNat < 256 := s[k].toNat_lt
       have Hval := Lib.hid (val_take hlt)
       have Hal := Lib.hid (all_take hlt)
       by_cases hd : 48 ≤ s[k].toNat ∧ s[k].toNat ≤ 57
       ·have hd1 := hd.1
        have hd2 := hd.2
        have Hd := Lib.hid (show Tx.isD s[k] = true by simp [Tx.isD, hd1, hd2])
        clear hd
        go_wp2_with fail
        go_round
        case rel =>
         refine ⟨k + 1, by omega, by go_num, ?_, by rw [Hal.out, Hall.out, Hd.out]; rfl⟩
         rw [Hval.out]
         go_num
        case measure => simp [intOf]; omega
       ·have Hd := Lib.hid (pu_digits (not_all hlt (show Tx.isD s[k] = false by simp only [Tx.isD]; simpa using hd)))
        have hd' : ((s[k].toNat : Int) < 48) ∨ (57 < (s[k].toNat : Int)) := by omega
        clear hd
        rcases hd' with hd | hd
        all_goals
         go_wp2_with fail
         go_ret2
         exact ⟨by rw [puV_none Hd.out]; rfl, Below.refl _ _⟩
      ·obtain rfl : k = s.size := by omega
       rw [List.take_of_length_le (by simp)] at Hall hv ⊢
       by_cases hm : Tx.val s.data.toList ≤ 1000000000
       ·have He := Lib.hid (show Tx.pu s.data.toList = some (Tx.val s.data.toList) by
         unfold Tx.pu; rw [if_pos ⟨Hlead.out, by simpa using hl, Hall.out, hm⟩])
        go_wp2_with fail
        go_ret2
        exact ⟨by rw [puV_some He.out]; rfl, Below.refl _ _⟩
       ·have He := Lib.hid (show Tx.pu s.data.toList = none by
         unfold Tx.pu; rw [if_neg (fun h => hm h.2.2.2)])
        have hm' : 1000000000 < Tx.val s.data.toList := by omega
        clear hm
        go_wp2_with fail
        go_ret2
        exact ⟨by rw [puV_none He.out]; rfl, Below.refl _ _⟩
  ·have He := Lib.hid (show Tx.pu s.data.toList = none by
    unfold Tx.pu; rw [if_neg (fun h => hl (by simpa using h.2.1))])
   go_enter Tryd.func73, Tryd.ntmps73
   go_wp2_with fail
   go_ret2
   exact ⟨by rw [puV_none He.out]; rfl, Below.refl _ _⟩
end Go.Proofs.YtkidchinoilgdaaDoor

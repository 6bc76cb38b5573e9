/- Contracts: the fields of a line: both functions. -/
import Derived.Test.YtkidchinoilgdaaDoorStrs
namespace Go.Proofs.YtkidchinoilgdaaDoor
open Go.RowKit

/-- is the k-th byte inside a field? -/
def insB (s : ByteArray) (k : Nat) : Bool := s.data.toList.getD k 32 != 32
/-- the fields that end ahead of position k, and where the next one would begin -/
def sp (s : ByteArray) : Nat → List ByteArray × Nat
 | 0 => ([], 0)
 | k + 1 => if insB s k then sp s k else (if (sp s k).2 < k then (sp s k).1 ++ [s.extract (sp s k).2 k] else (sp s k).1, k + 1)
theorem sp_bd (s : ByteArray) : ∀ k, (sp s k).1.length ≤ k ∧ (sp s k).2 ≤ k
 | 0 => ⟨by simp [sp], by simp [sp]⟩
 | k + 1 => by
  have ih := sp_bd s k
  rw [sp]
  split
  ·omega
  ·refine ⟨?_, Nat.le_refl _⟩
   show (if (sp s k).2 < k then (sp s k).1 ++ [s.extract (sp s k).2 k] else (sp s k).1).length ≤ k + 1
   split
   ·simp; omega
   ·omega
theorem sp_in {s : ByteArray} {k : Nat} (h : insB s k = true) : sp s (k + 1) = sp s k := by rw [sp, if_pos h]
theorem sp_push {s : ByteArray} {k : Nat} (h : insB s k = false) (hb : (sp s k).2 < k) : sp s (k + 1) = ((sp s k).1 ++ [s.extract (sp s k).2 k], k + 1) := by
 rw [sp, if_neg (by simp [h]), if_pos hb]
theorem sp_skip {s : ByteArray} {k : Nat} (h : insB s k = false) (hb : ¬ (sp s k).2 < k) : sp s (k + 1) = ((sp s k).1, k + 1) := by
 rw [sp, if_neg (by simp [h]), if_neg hb]
theorem ins_at {s : ByteArray} {k : Nat} (h : k < s.size) : insB s k = decide (s[k].toNat ≠ 32) := by
 have hk : k < s.data.toList.length := by simpa using h
 have e : s.data.toList.getD k 32 = s[k] := by simp [List.getD, List.getElem?_eq_getElem hk]; rfl
 rw [insB, e, Bool.eq_iff_iff]
 simp only [bne_iff_ne, ne_eq, decide_eq_true_eq]
 constructor
 ·intro h1 h2; exact h1 (UInt8.toNat_inj.1 h2)
 ·intro h1 h2; exact h1 (by rw [h2]; rfl)
theorem ins_end {s : ByteArray} : insB s s.size = false := by
 have : s.data.toList.getD s.size 32 = 32 := by simp [List.getD]
 rw [insB, this]; rfl

def okC (c : UInt8) : Bool := decide (32 ≤ c.toNat ∧ c.toNat ≤ 126)
theorem ok_take {s : ByteArray} {k : Nat} (h : k < s.size) : (s.data.toList.take (k + 1)).all okC = ((s.data.toList.take k).all okC && okC s[k]) := by
 rw [take_snoc s k h, List.all_append]; simp
theorem not_ok {s : ByteArray} {k : Nat} (h : k < s.size) (hd : okC s[k] = false) : s.data.toList.all okC = false := by
 cases ha : s.data.toList.all okC
 ·rfl
 ·have hm : s[k] ∈ s.data.toList := by
   have : k < s.data.toList.length := by simpa using h
   have e : s[k] = s.data.toList[k] := rfl
   rw [e]; exact List.getElem_mem _
  rw [List.all_eq_true.1 ha _ hm] at hd
  cases hd
/-- the fields, if there are any -/
def spR (s : ByteArray) : List ByteArray × Bool := if s.size ≤ 600 ∧ s.data.toList.all okC = true ∧ (sp s (s.size + 1)).1.length ≤ 40 then ((sp s (s.size + 1)).1, true) else ([], false)
theorem spR_no {s : ByteArray} (h : ¬ (s.size ≤ 600 ∧ s.data.toList.all okC = true ∧ (sp s (s.size + 1)).1.length ≤ 40)) : spR s = ([], false) := by rw [spR, if_neg h]
theorem spR_yes {s : ByteArray} (h : s.size ≤ 600 ∧ s.data.toList.all okC = true ∧ (sp s (s.size + 1)).1.length ≤ 40) : spR s = ((sp s (s.size + 1)).1, true) := by rw [spR, if_pos h]
theorem spR_len (s : ByteArray) : (spR s).1.length ≤ 40 := by
 unfold spR; split
 ·rename_i h; exact h.2.2
 ·simp

/-- a list of texts in memory of the call's own, and a bool -/
def OwnStrs (r : List ByteArray × Bool) (w : World) (e : Ending) (w' : World) : Prop :=
 ∃ A c, e = .returned (.tuple #[.slice A r.1.length c, .bool r.2]) ∧ w'.ownsRow w.heap.size 9 1 (.slice A r.1.length c) r.1.length (strs r.1) ∧ Below w.heap.size w w'
theorem own_empty (w : World) : (w.alloc (.cells #[] 9)).ownsRow w.heap.size 9 1 (.slice (some ⟨w.heap.size, 0, none⟩) 0 0) 0 (strs []) :=
 World.ownsRow_made (base := w.heap.size) (size := 1) (e := 9) w #[] 0 (Nat.le_refl _) (by unfold maxLen; omega) rfl

set_option maxRecDepth 100000 in
set_option maxHeartbeats 8000000 in
theorem s_SplitFields (s : ByteArray) (hs : s.size ≤ maxLen) (w : World) : Calls Tryd.prog 59 #[.string s] w (OwnStrs (spR s) w) := by
 unfold maxLen at hs
 obtain ⟨i0, hi, hz0, hz1, hz2⟩ := info_parts Tryd.infoStr
 by_cases hl : s.size ≤ 600
 ·go_enter Tryd.func59, Tryd.ntmps59
  go_wp2_with fail
  go_loopw [4, 5, 6] (fun v b i wr => ∃ k : Nat, k ≤ s.size + 1 ∧ i = .int .i64 k ∧ b = .int .i64 ((sp s k).2 : Int) ∧ (s.data.toList.take k).all okC = true ∧ wr.ownsRow w.heap.size 9 1 v (sp s k).1.length (strs (sp s k).1) ∧ Below w.heap.size w wr) (fun _ _ i _ => s.size + 1 - (intOf i).toNat)
  case atStart => exact ⟨0, Nat.zero_le _, rfl, rfl, rfl, own_empty w, bel_⟩
  case round =>
   obtain ⟨k, hk, rfl, rfl, hok, hown, hb⟩ := hrel
   have hbd := sp_bd s k
   have hbd1 := hbd.1
   have hbd2 := hbd.2
   obtain ⟨A, c, rfl, hc1, hc2, hA⟩ := own_form hown
   have hsz := hb.size
   have Hb := Lib.hid hb
   have Hown := Lib.hid hown
   have Hok := Lib.hid hok
   clear hb hown hA hok hbd
   by_cases hke : k ≤ s.size
   ·by_cases hlt : k < s.size
    ·have g1 : (0 : Int) ≤ (k : Int) := by omega
     have g2 : (k : Int) < (s.size : Int) := by omega
     have hx : s[k].toNat < 256 := s[k].toNat_lt
     have Hal := Lib.hid (ok_take hlt)
     by_cases hv : 32 ≤ s[k].toNat ∧ s[k].toNat ≤ 126
     ·have hv1 := hv.1
      have hv2 := hv.2
      have Hc := Lib.hid (show okC s[k] = true by simp [okC, hv1, hv2])
      clear hv
      by_cases h32 : s[k].toNat ≠ 32
      ·
       have HS := Lib.hid (sp_in (show insB s k = true by rw [ins_at hlt]; simpa using h32))
       have h32' : ((s[k].toNat : Int) != 32) = true := by simp; omega
       have Hok2 := Lib.hid (show (s.data.toList.take (k + 1)).all okC = true by rw [Hal.out, Hok.out, Hc.out]; rfl)
       go_wp2_with fail
       go_roundw
       case rel => exact ⟨k + 1, by omega, by go_num, by rw [HS.out], Hok2.out, by rw [HS.out]; exact Hown.out, Hb.out⟩
       case measure => simp [intOf] <;> omega
      ·have Hins := Lib.hid (show insB s k = false by rw [ins_at hlt]; simpa using h32)
       have h32' : ((s[k].toNat : Int) != 32) = false := by simp; omega
       have Hok2 := Lib.hid (show (s.data.toList.take (k + 1)).all okC = true by rw [Hal.out, Hok.out, Hc.out]; rfl)
       by_cases hbk : (sp s k).2 < k
       ·have HS := Lib.hid (sp_push Hins.out hbk)
        have g3 : (0 : Int) ≤ ((sp s k).2 : Int) := by omega
        have g4 : ((sp s k).2 : Int) ≤ (k : Int) := by omega
        have g5 : ((sp s k).2 : Int) < (k : Int) := by omega
        go_wp2_with (at_builtin; refine wpList_append_any _ rfl _ _ 40 rfl (w.heap.size) 9 i0 (.string ByteArray.empty) 1 16 Tryd.underlying40 hi hz0 hz1 hz2 rfl (by decide) _ _ _ rfl (Hown.out.alloc _) _ _ 1 1 _ rfl (reads_new _ _ 1 1 rfl) (by intro u hu; simp at hu; first | (subst hu; rfl) | (rcases hu with rfl | rfl <;> rfl) | (rcases hu with rfl | rfl | rfl <;> rfl)) (by unfold maxLen; omega) (by omega) (by (try simp) <;> (try omega)) ?_; intro v2 w2 hown2 hgrow2 hblk2)
        have hbb := below_push Hb.out Hown.out (Nat.le_refl _) hsz hgrow2
        have Hown2 := Lib.hid hown2
        clear hown2 hgrow2 hblk2
        go_wp2_with fail
        go_roundw
        case rel =>
         refine ⟨k + 1, by omega, by go_num, by rw [HS.out]; try go_num, Hok2.out, ?_, hbb⟩
         rw [HS.out, List.length_append, strs, List.map_append]
         exact Hown2.out
        case measure => simp [intOf] <;> omega
       ·have HS := Lib.hid (sp_skip Hins.out hbk)
        have g5 : (k : Int) ≤ ((sp s k).2 : Int) := by omega
        go_wp2_with fail
        go_roundw
        case rel => exact ⟨k + 1, by omega, by go_num, by rw [HS.out]; try go_num, Hok2.out, by rw [HS.out]; exact Hown.out, Hb.out⟩
        case measure => simp [intOf] <;> omega
     ·have He := Lib.hid (spR_no (s := s) (fun h => by
       have := not_ok hlt (show okC s[k] = false by simp only [okC]; simpa using hv)
       rw [this] at h
       exact absurd h.2.1 (by simp)))
      have hv' : ((s[k].toNat : Int) < 32) ∨ (126 < (s[k].toNat : Int)) := by omega
      clear hv
      rcases hv' with hv | hv
      all_goals
       go_wp2_with fail
       go_ret2
       unfold OwnStrs
       rw [He.out]
       exact ⟨some ⟨wr.heap.size, 0, none⟩, 0, rfl, own_mono (own_empty wr) hsz, Hb.out.alloc hsz _⟩
    ·obtain rfl : k = s.size := by omega
     have Hok2 := Lib.hid (show (s.data.toList.take (s.size + 1)).all okC = true by
      have h1 := Hok.out
      rw [List.take_of_length_le (by simp)] at h1
      rw [List.take_of_length_le (by simp)]
      exact h1)
     have Hins := Lib.hid (ins_end (s := s))
     by_cases hbk : (sp s s.size).2 < s.size
     ·have HS := Lib.hid (sp_push Hins.out hbk)
      have g3 : (0 : Int) ≤ ((sp s s.size).2 : Int) := by omega
      have g4 : ((sp s s.size).2 : Int) ≤ (s.size : Int) := by omega
      have g5 : ((sp s s.size).2 : Int) < (s.size : Int) := by omega
      go_wp2_with (at_builtin; refine wpList_append_any _ rfl _ _ 40 rfl (w.heap.size) 9 i0 (.string ByteArray.empty) 1 16 Tryd.underlying40 hi hz0 hz1 hz2 rfl (by decide) _ _ _ rfl (Hown.out.alloc _) _ _ 1 1 _ rfl (reads_new _ _ 1 1 rfl) (by intro u hu; simp at hu; first | (subst hu; rfl) | (rcases hu with rfl | rfl <;> rfl) | (rcases hu with rfl | rfl | rfl <;> rfl)) (by unfold maxLen; omega) (by omega) (by (try simp) <;> (try omega)) ?_; intro v2 w2 hown2 hgrow2 hblk2)
      have hbb := below_push Hb.out Hown.out (Nat.le_refl _) hsz hgrow2
      have Hown2 := Lib.hid hown2
      clear hown2 hgrow2 hblk2
      go_wp2_with fail
      go_roundw
      case rel =>
       refine ⟨s.size + 1, by omega, by go_num, by rw [HS.out]; try go_num, Hok2.out, ?_, hbb⟩
       rw [HS.out, List.length_append, strs, List.map_append]
       exact Hown2.out
      case measure => simp [intOf] <;> omega
     ·have HS := Lib.hid (sp_skip Hins.out hbk)
      have g5 : (s.size : Int) ≤ ((sp s s.size).2 : Int) := by omega
      go_wp2_with fail
      go_roundw
      case rel => exact ⟨s.size + 1, by omega, by go_num, by rw [HS.out]; try go_num, Hok2.out, by rw [HS.out]; exact Hown.out, Hb.out⟩
      case measure => simp [intOf] <;> omega
   ·obtain rfl : k = s.size + 1 := by omega
    have Hok2 := Lib.hid (show s.data.toList.all okC = true by
     have h1 := Hok.out
     rwa [List.take_of_length_le (by simp)] at h1)
    by_cases h40 : (sp s (s.size + 1)).1.length ≤ 40
    ·have He := Lib.hid (spR_yes ⟨hl, Hok2.out, h40⟩)
     go_wp2_with fail
     go_ret2
     unfold OwnStrs
     rw [He.out]
     exact ⟨A, c, rfl, Hown.out, Hb.out⟩
    ·have He := Lib.hid (spR_no (s := s) (fun h => h40 h.2.2))
     have g5 : (40 : Int) < ((sp s (s.size + 1)).1.length : Int) := by omega
     go_wp2_with fail
     go_ret2
     unfold OwnStrs
     rw [He.out]
     exact ⟨some ⟨wr.heap.size, 0, none⟩, 0, rfl, own_mono (own_empty wr) hsz, Hb.out.alloc hsz _⟩
 ·have He := Lib.hid (spR_no (s := s) (fun h => hl h.1))
  go_enter Tryd.func59, Tryd.ntmps59
  go_wp2_with fail
  go_ret2
  unfold OwnStrs
  rw [He.out]
  exact ⟨_, _, rfl, own_empty w, bel_⟩

/-- where a field has begun, as the program keeps it -/
def fromI (s : ByteArray) (k : Nat) : Int := if (sp s k).2 < k then ((sp s k).2 : Int) else -1
theorem from_in {s : ByteArray} {k : Nat} (h : (sp s k).2 < k) : fromI s k = ((sp s k).2 : Int) := by rw [fromI, if_pos h]
theorem from_out {s : ByteArray} {k : Nat} (h : ¬ (sp s k).2 < k) : fromI s k = -1 := by rw [fromI, if_neg h]

set_option maxRecDepth 100000 in
set_option maxHeartbeats 8000000 in
theorem i_SplitFields (s : ByteArray) (hs : s.size ≤ maxLen) (w : World) : Calls Tryd.prog 100 #[.string s] w (OwnStrs (spR s) w) := by
 unfold maxLen at hs
 obtain ⟨i0, hi, hz0, hz1, hz2⟩ := info_parts Tryd.infoStr
 by_cases hl : s.size ≤ 600
 ·go_enter Tryd.func100, Tryd.ntmps100
  go_wp2_with fail
  go_loopw [4, 5, 6, 7] (fun v b i _ wr => ∃ k : Nat, k ≤ s.size + 1 ∧ i = .int .i64 k ∧ b = .int .i64 (fromI s k) ∧ (s.data.toList.take k).all okC = true ∧ wr.ownsRow w.heap.size 9 1 v (sp s k).1.length (strs (sp s k).1) ∧ Below w.heap.size w wr) (fun _ _ i _ _ => s.size + 1 - (intOf i).toNat)
  case atStart => exact ⟨0, Nat.zero_le _, rfl, rfl, rfl, World.ownsRow_nil _ _ _ _, Below.refl _ _⟩
  case round =>
   obtain ⟨k, hk, rfl, rfl, hok, hown, hb⟩ := hrel
   have hbd := sp_bd s k
   have hbd1 := hbd.1
   have hbd2 := hbd.2
   obtain ⟨A, c, rfl, hc1, hc2, hA⟩ := own_form hown
   have hsz := hb.size
   have Hb := Lib.hid hb
   have Hown := Lib.hid hown
   have Hok := Lib.hid hok
   clear hb hown hA hok hbd
   by_cases hke : k ≤ s.size
   ·by_cases hlt : k < s.size
    ·have g1 : (0 : Int) ≤ (k : Int) := by omega
     have g2 : (k : Int) < (s.size : Int) := by omega
     have hx : s[k].toNat < 256 := s[k].toNat_lt
     have Hal := Lib.hid (ok_take hlt)
     by_cases hv : 32 ≤ s[k].toNat ∧ s[k].toNat ≤ 126
     ·have hv1 := hv.1
      have hv2 := hv.2
      have Hc := Lib.hid (show okC s[k] = true by simp [okC, hv1, hv2])
      clear hv
      by_cases h32 : s[k].toNat ≠ 32
      ·
       have HS := Lib.hid (sp_in (show insB s k = true by rw [ins_at hlt]; simpa using h32))
       have h32' : ((s[k].toNat : Int) != 32) = true := by simp; omega
       have Hok2 := Lib.hid (show (s.data.toList.take (k + 1)).all okC = true by rw [Hal.out, Hok.out, Hc.out]; rfl)
       by_cases hbk : (sp s k).2 < k
       ·rw [from_in hbk]
        have g5 : (0 : Int) ≤ ((sp s k).2 : Int) := by omega
        go_wp2_with fail
        go_roundw
        case rel => exact ⟨k + 1, by omega, by go_num, by rw [from_in (by rw [HS.out]; omega), HS.out], Hok2.out, by rw [HS.out]; exact Hown.out, Hb.out⟩
        case measure => simp [intOf] <;> omega
       ·rw [from_out hbk]
        go_wp2_with fail
        go_roundw
        case rel => exact ⟨k + 1, by omega, by go_num, by rw [from_in (by rw [HS.out]; omega), HS.out, show (sp s k).2 = k by omega], Hok2.out, by rw [HS.out]; exact Hown.out, Hb.out⟩
        case measure => simp [intOf] <;> omega
      ·have Hins := Lib.hid (show insB s k = false by rw [ins_at hlt]; simpa using h32)
       have h32' : ((s[k].toNat : Int) != 32) = false := by simp; omega
       have Hok2 := Lib.hid (show (s.data.toList.take (k + 1)).all okC = true by rw [Hal.out, Hok.out, Hc.out]; rfl)
       by_cases hbk : (sp s k).2 < k
       ·have HS := Lib.hid (sp_push Hins.out hbk)
        rw [from_in hbk]
        have g3 : (0 : Int) ≤ ((sp s k).2 : Int) := by omega
        have g4 : ((sp s k).2 : Int) ≤ (k : Int) := by omega
        have g5 : ((sp s k).2 : Int) < (k : Int) := by omega
        go_wp2_with (at_builtin; refine wpList_append_any _ rfl _ _ 40 rfl (w.heap.size) 9 i0 (.string ByteArray.empty) 1 16 Tryd.underlying40 hi hz0 hz1 hz2 rfl (by decide) _ _ _ rfl (Hown.out.alloc _) _ _ 1 1 _ rfl (reads_new _ _ 1 1 rfl) (by intro u hu; simp at hu; first | (subst hu; rfl) | (rcases hu with rfl | rfl <;> rfl) | (rcases hu with rfl | rfl | rfl <;> rfl)) (by unfold maxLen; omega) (by omega) (by (try simp) <;> (try omega)) ?_; intro v2 w2 hown2 hgrow2 hblk2)
        have hbb := below_push Hb.out Hown.out (Nat.le_refl _) hsz hgrow2
        have Hown2 := Lib.hid hown2
        clear hown2 hgrow2 hblk2
        go_wp2_with fail
        go_roundw
        case rel =>
         refine ⟨k + 1, by omega, by go_num, by rw [from_out (by rw [HS.out]; simp)], Hok2.out, ?_, hbb⟩
         rw [HS.out, List.length_append, strs, List.map_append]
         exact Hown2.out
        case measure => simp [intOf] <;> omega
       ·have HS := Lib.hid (sp_skip Hins.out hbk)
        rw [from_out hbk]
        have g5 : (k : Int) ≤ ((sp s k).2 : Int) := by omega
        go_wp2_with fail
        go_roundw
        case rel => exact ⟨k + 1, by omega, by go_num, by rw [from_out (by rw [HS.out]; simp)], Hok2.out, by rw [HS.out]; exact Hown.out, Hb.out⟩
        case measure => simp [intOf] <;> omega
     ·have He := Lib.hid (spR_no (s := s) (fun h => by
       have := not_ok hlt (show okC s[k] = false by simp only [okC]; simpa using hv)
       rw [this] at h
       exact absurd h.2.1 (by simp)))
      have hv' : ((s[k].toNat : Int) < 32) ∨ (126 < (s[k].toNat : Int)) := by omega
      clear hv
      rcases hv' with hv | hv
      all_goals
       go_wp2_with fail
       go_ret2
       unfold OwnStrs
       rw [He.out]
       exact ⟨none, 0, rfl, World.ownsRow_nil _ _ _ _, Hb.out⟩
    ·obtain rfl : k = s.size := by omega
     have Hok2 := Lib.hid (show (s.data.toList.take (s.size + 1)).all okC = true by
      have h1 := Hok.out
      rw [List.take_of_length_le (by simp)] at h1
      rw [List.take_of_length_le (by simp)]
      exact h1)
     have Hins := Lib.hid (ins_end (s := s))
     by_cases hbk : (sp s s.size).2 < s.size
     ·have HS := Lib.hid (sp_push Hins.out hbk)
      rw [from_in hbk]
      have g3 : (0 : Int) ≤ ((sp s s.size).2 : Int) := by omega
      have g4 : ((sp s s.size).2 : Int) ≤ (s.size : Int) := by omega
      have g5 : ((sp s s.size).2 : Int) < (s.size : Int) := by omega
      go_wp2_with (at_builtin; refine wpList_append_any _ rfl _ _ 40 rfl (w.heap.size) 9 i0 (.string ByteArray.empty) 1 16 Tryd.underlying40 hi hz0 hz1 hz2 rfl (by decide) _ _ _ rfl (Hown.out.alloc _) _ _ 1 1 _ rfl (reads_new _ _ 1 1 rfl) (by intro u hu; simp at hu; first | (subst hu; rfl) | (rcases hu with rfl | rfl <;> rfl) | (rcases hu with rfl | rfl | rfl <;> rfl)) (by unfold maxLen; omega) (by omega) (by (try simp) <;> (try omega)) ?_; intro v2 w2 hown2 hgrow2 hblk2)
      have hbb := below_push Hb.out Hown.out (Nat.le_refl _) hsz hgrow2
      have Hown2 := Lib.hid hown2
      clear hown2 hgrow2 hblk2
      go_wp2_with fail
      go_roundw
      case rel =>
       refine ⟨s.size + 1, by omega, by go_num, by rw [from_out (by rw [HS.out]; simp)], Hok2.out, ?_, hbb⟩
       rw [HS.out, List.length_append, strs, List.map_append]
       exact Hown2.out
      case measure => simp [intOf] <;> omega
     ·have HS := Lib.hid (sp_skip Hins.out hbk)
      rw [from_out hbk]
      have g5 : (s.size : Int) ≤ ((sp s s.size).2 : Int) := by omega
      go_wp2_with fail
      go_roundw
      case rel => exact ⟨s.size + 1, by omega, by go_num, by rw [from_out (by rw [HS.out]; simp)], Hok2.out, by rw [HS.out]; exact Hown.out, Hb.out⟩
      case measure => simp [intOf] <;> omega
   ·obtain rfl : k = s.size + 1 := by omega
    have Hok2 := Lib.hid (show s.data.toList.all okC = true by
     have h1 := Hok.out
     rwa [List.take_of_length_le (by simp)] at h1)
    by_cases h40 : (sp s (s.size + 1)).1.length ≤ 40
    ·have He := Lib.hid (spR_yes ⟨hl, Hok2.out, h40⟩)
     go_wp2_with fail
     go_ret2
     unfold OwnStrs
     rw [He.out]
     exact ⟨A, c, rfl, Hown.out, Hb.out⟩
    ·have He := Lib.hid (spR_no (s := s) (fun h => h40 h.2.2))
     have g5 : (40 : Int) < ((sp s (s.size + 1)).1.length : Int) := by omega
     go_wp2_with fail
     go_ret2
     unfold OwnStrs
     rw [He.out]
     exact ⟨none, 0, rfl, World.ownsRow_nil _ _ _ _, Hb.out⟩
 ·have He := Lib.hid (spR_no (s := s) (fun h => hl h.1))
  go_enter Tryd.func100, Tryd.ntmps100
  go_wp2_with fail
  go_ret2
  unfold OwnStrs
  rw [He.out]
  exact ⟨none, 0, rfl, World.ownsRow_nil _ _ _ _, Below.refl _ _⟩
end Go.Proofs.YtkidchinoilgdaaDoor

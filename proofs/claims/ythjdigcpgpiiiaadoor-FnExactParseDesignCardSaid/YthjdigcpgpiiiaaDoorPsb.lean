/- Contracts: fields joined by single spaces (the program's joinWords; lists of fields). -/
import Derived.Test.YthjdigcpgpiiiaaDoorPsa
import Derived.Deep.CutRange
import Derived.Outline
namespace Go.Proofs.YthjdigcpgpiiiaaDoor
open Go.RowKit

theorem joinW_snoc {l : List Wd8} (h : l ≠ []) (x : Wd8) : joinW (l ++ [x]) = joinW l ++ ([32] ++ x) := by
 match l, h with
 | a :: l, _ =>
  show a ++ (l ++ [x]).flatMap _ = (a ++ l.flatMap _) ++ _
  rw [List.flatMap_append, List.append_assoc]
  simp
theorem joinW_len : ∀ {l : List Wd8} {N : Nat}, (∀ x ∈ l, x.length ≤ N) → (joinW l).length ≤ (N + 1) * l.length
 | [], _, _ => by simp [joinW]
 | a :: l, N, h => by
  have h1 := h a (by simp)
  have h2 := flat_len (f := fun g : Wd8 => (32 : UInt8) :: g) (N := N + 1) (l := l) (fun x hx => by have := h x (by simp [hx]); simp; omega)
  have e : joinW (a :: l) = a ++ l.flatMap fun g : Wd8 => (32 : UInt8) :: g := rfl
  rw [e, List.length_append, List.length_cons, Nat.mul_add, Nat.mul_comm (N + 1) l.length]
  generalize l.length * (N + 1) = P at h2 ⊢
  omega
set_option maxRecDepth 100000 in
set_option maxHeartbeats 4000000 in
theorem i_joinWords {w : World} {B : Nat} {A : Option Addr} {n c : Nat} {l : List ByteArray} (h : Reads w B 1 A n (strs l)) (hn : n ≤ 40) (hz : ∀ x ∈ l, x.size ≤ 600) :
  Calls Tryd.prog 19 #[.slice A n c, .string ⟨#[32]⟩] w fun e w' => e = .returned (.string ⟨(joinW (l.map byt)).toArray⟩) ∧ w = w' := by
 have hl := h.slen
 have Hl := Lib.hid hl
 have Hz := Lib.hid hz
 have H := Lib.hid h
 clear hl hz h
 go_enter Tryd.func19, Tryd.ntmps19
 go_wp2_with fail
 go_loopw [5, 6, 7, 10] (fun tv _ _ iv wr => ∃ (z : Int) (t : List UInt8), 0 ≤ z ∧ z ≤ n ∧ iv = .int .i64 z ∧ tv = .string ⟨t.toArray⟩ ∧ Hid (t = joinW ((l.take z.toNat).map byt)) ∧ wr = w) (fun _ _ _ iv _ => n - (intOf iv).toNat)
 case atStart => exact ⟨0, [], Int.le_refl _, by omega, rfl, rfl, Lib.hid rfl, rfl⟩
 case round =>
  obtain ⟨z, t, hz0, hzn, rfl, rfl, ht, rfl⟩ := hrel
  obtain ⟨k, hk⟩ : ∃ k, k = z.toNat := ⟨_, rfl⟩
  have Hk := Lib.hid hk
  have hkz : z = (k : Int) := by omega
  have Hkz := Lib.hid hkz
  have htl : t.length ≤ 24040 := by
   rw [ht.out]
   have h1 := joinW_len (l := (l.take z.toNat).map byt) (N := 600) (fun x hx => by
    obtain ⟨y, hy, rfl⟩ := List.mem_map.1 hx
    exact Hz.out y (List.mem_of_mem_take hy))
   rw [List.length_map, List.length_take] at h1
   omega
  by_cases hlt : z < n
  ·obtain ⟨ad, x, rfl, hab, hx, hc⟩ := H.out.str_at (k := z.toNat) (by omega)
   have hxz := Hz.out x (List.mem_of_getElem? hx)
   obtain ⟨y, hy⟩ : ∃ y, x = (⟨y.toArray⟩ : ByteArray) := ⟨x.data.toList, rfl⟩
   have hyb : byt x = y := by rw [hy]
   have hyl : y.length ≤ 600 := by rw [← hyb]; exact hxz
   rw [hy] at hc
   have hm : (l.take (z.toNat + 1)).map byt = (l.take z.toNat).map byt ++ [y] := by rw [List.take_add_one, hx, List.map_append, ← hyb]; rfl
   have Hm := Lib.hid hm
   have Hz1 := Lib.hid (show (z + 1).toNat = z.toNat + 1 by omega)
   clear hx hy hyb hm hxz hk hkz
   by_cases hk0 : 0 < z
   ·have hne : (l.take z.toNat).map byt ≠ [] := by
     intro h0
     have h1 := congrArg List.length h0
     rw [List.length_map, List.length_take, List.length_nil] at h1
     have := Hl.out
     omega
    have Hs := Lib.hid (joinW_snoc hne y)
    have hsum1 : (t.length : Int) + 1 ≤ 8388608 := by omega
    have hsum2 : (t.length : Int) + 1 + (y.length : Int) ≤ 8388608 := by omega
    clear hne
    go_wp2_with fail
    go_roundw
    case rel => exact ⟨z + 1, t ++ ([32] ++ y), by omega, by omega, by go_num, by rw [← cat_three], Lib.hid (by rw [Hz1.out, Hm.out, Hs.out, ht.out]), trivial⟩
    case measure => simp [intOf]; omega
   ·have Hz0 := Lib.hid (show z.toNat = 0 by omega)
    have ht0 : t = [] := by rw [ht.out, Hz0.out]; rfl
    subst ht0
    have hsum1 : (0 : Int) + (y.length : Int) ≤ 8388608 := by omega
    have hsum2 : (y.length : Int) ≤ 8388608 := by omega
    go_wp2_with fail
    go_roundw
    case rel => exact ⟨z + 1, [] ++ y, by omega, by omega, by go_num, by rw [← cat_two], Lib.hid (by rw [Hz1.out, Hm.out, Hz0.out]; simp [joinW]), trivial⟩
    case measure => simp [intOf]; omega
  ·have HT := Lib.hid (show t = joinW (l.map byt) by rw [ht.out, List.take_of_length_le (by have := Hl.out; omega)])
   clear ht hk hkz
   go_wp2_with fail
   go_ret
   exact ⟨by rw [← HT.out]; rfl, rfl⟩
end Go.Proofs.YthjdigcpgpiiiaaDoor

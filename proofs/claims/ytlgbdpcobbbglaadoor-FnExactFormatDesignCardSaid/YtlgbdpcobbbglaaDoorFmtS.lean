/- Contract: the reference's FormatInt. -/
import Derived.Test.YtlgbdpcobbbglaaDoorFmt
namespace Go.Proofs.YtlgbdpcobbbglaaDoor
open Go.RowKit

theorem str_cons (c : UInt8) (l : List UInt8) : ((⟨[c].toArray⟩ : ByteArray) ++ (⟨l.toArray⟩ : ByteArray)) = ⟨(c :: l).toArray⟩ := by
 apply ByteArray.ext
 simp [ByteArray.data_append]
theorem fig_dig {y : Nat} (h : y < 10) : fig y = UInt8.ofNat (48 + y) := by
 unfold fig; rw [if_pos h]
theorem digS_neg {x : Int} (h : x.tmod 10 < 0) : fig (-x.tmod 10).toNat = UInt8.ofNat (48 + x.natAbs % 10) := by
 have h1 := tmod_abs x
 rw [fig_dig (by omega)]
 congr 2; omega
theorem digS_pos {x : Int} (h : 0 ≤ x.tmod 10) : fig (x.tmod 10).toNat = UInt8.ofNat (48 + x.natAbs % 10) := by
 have h1 := tmod_abs x
 rw [fig_dig (by omega)]
 congr 2; omega

set_option maxRecDepth 100000 in
set_option maxHeartbeats 8000000 in
theorem s_FormatInt (n : Int) (hn : i64B n) (w : World) : Calls Tryd.prog 27 #[.int .i64 n] w fun e w' => e = .returned (.string ⟨(Tx.fmtI n).toArray⟩) ∧ Below w.heap.size w w' := by
 by_cases h0 : n = 0
 ·subst h0
  go_enter Tryd.func27, Tryd.ntmps27
  go_wp2
  go_ret
  exact ⟨rfl, Below.refl _ _⟩
 by_cases hneg : n < 0
 all_goals
  have Hn := Lib.hid hn
  have hn0 : (n == 0) = false := by simpa using h0
  have hn1 := hn.1
  have hn2 := hn.2
  clear hn
  go_enter Tryd.func27, Tryd.ntmps27
  go_wp2_with fail
  go_loopw [0, 4, 5] (fun xv v _ wr => ∃ (x : Int) (l : List UInt8), xv = .int .i64 x ∧ Hid (i64B x) ∧ Hid (Tx.dg 20 x.natAbs l = Tx.dg 20 n.natAbs []) ∧ v = .string ⟨l.toArray⟩ ∧ Below w.heap.size w wr) (fun xv _ _ _ => (intOf xv).natAbs)
  case atStart => exact ⟨n, [], rfl, Hn, rfl, rfl, Below.refl _ _⟩
  case round =>
   obtain ⟨x, l, rfl, Hx, Hd, rfl, hb⟩ := hrel
   have hlen := dg_suffix Hd.out
   have hx1 := Hx.out.1
   have hx2 := Hx.out.2
   have hsz := hb.size
   have Hb := Lib.hid hb
   clear hb
   by_cases hx0 : x = 0
   ·subst hx0
    have hsum1 : (1 : Int) + (l.length : Int) ≤ 8388608 := by omega
    go_wp2_with fail
    go_ret
    refine ⟨?_, Hb.out⟩
    first
     | (rw [fmt_neg (by omega) Hd.out, ← str_cons]; rfl)
     | (rw [fmt_pos h0 (by omega) Hd.out]; rfl)
   ·have hne : (x != 0) = true := by simpa using hx0
    have t1 := (tmod_bd x).1
    have t2 := (tmod_bd x).2
    by_cases hd : x.tmod 10 < 0
    ·have HD := Lib.hid (digS_neg hd)
     go_wp2_with fail
     refine (s_figure _ (by omega) (by omega) _).mono ?_
     rintro e w' ⟨rfl, rfl⟩
     have hcv := run_str (l := [fig (-x.tmod 10).toNat]) (World.ownsRow_lit (base := w.heap.size) (e := 5) (size := 1) wr #[.int .u8 ((fig (-x.tmod 10).toNat).toNat : Int)] 1 hsz (by unfold maxLen; omega) rfl)
     go_wp2_with fail
     go_roundw
     case rel =>
      refine ⟨x.tdiv 10, UInt8.ofNat (48 + x.natAbs % 10) :: l, rfl, tdiv_bd Hx.out, ?_, ?_, Hb.out.alloc hsz _⟩
      ·show Tx.dg 20 (x.tdiv 10).natAbs (UInt8.ofNat (48 + x.natAbs % 10) :: l) = _
       rw [tdiv_abs, ← dg_step (by omega) (natAbs_lt Hx.out)]
       exact Hd.out
      ·rw [← str_cons, ← HD.out]; rfl
     case measure => simp only [intOf]; rw [tdiv_abs]; omega
    ·have HD := Lib.hid (digS_pos (x := x) (by omega))
     go_wp2_with fail
     refine (s_figure _ (by omega) (by omega) _).mono ?_
     rintro e w' ⟨rfl, rfl⟩
     have hcv := run_str (l := [fig (x.tmod 10).toNat]) (World.ownsRow_lit (base := w.heap.size) (e := 5) (size := 1) wr #[.int .u8 ((fig (x.tmod 10).toNat).toNat : Int)] 1 hsz (by unfold maxLen; omega) rfl)
     go_wp2_with fail
     go_roundw
     case rel =>
      refine ⟨x.tdiv 10, UInt8.ofNat (48 + x.natAbs % 10) :: l, rfl, tdiv_bd Hx.out, ?_, ?_, Hb.out.alloc hsz _⟩
      ·show Tx.dg 20 (x.tdiv 10).natAbs (UInt8.ofNat (48 + x.natAbs % 10) :: l) = _
       rw [tdiv_abs, ← dg_step (by omega) (natAbs_lt Hx.out)]
       exact Hd.out
      ·rw [← str_cons, ← HD.out]; rfl
     case measure => simp only [intOf]; rw [tdiv_abs]; omega
end Go.Proofs.YtlgbdpcobbbglaaDoor

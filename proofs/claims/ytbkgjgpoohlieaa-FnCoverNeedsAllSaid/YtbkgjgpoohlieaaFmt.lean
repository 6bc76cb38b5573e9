/- Contracts: a number in decimal: both functions. -/
import Derived.Test.YtbkgjgpoohlieaaHexD
import Derived.Test.YtbkgjgpoohlieaaText
namespace Go.Proofs.Ytbkgjgpoohlieaa
open Go.RowKit

theorem bys_one (l : List UInt8) : ∀ u ∈ bys l, u.oneCell' = true := by
 intro u hu
 simp only [bys, List.mem_map] at hu
 obtain ⟨x, _, rfl⟩ := hu
 rfl
/-- a step of the digits -/
theorem dg_step {a : Nat} {l : List UInt8} (ha : a ≠ 0) (hb : a < 10 ^ 20) : Tx.dg 20 a l = Tx.dg 20 (a / 10) (UInt8.ofNat (48 + a % 10) :: l) := by
 rw [Tx.dg_pos _ ha]
 refine Tx.dg_fuel (f := 19) (g := 20) ?_ ?_ _
 ·exact Tx.div_lt hb
 ·exact Nat.lt_of_le_of_lt (Nat.div_le_self _ _) hb
theorem dg_suffix {a n : Nat} {l : List UInt8} (h : Tx.dg 20 a l = Tx.dg 20 n []) : l.length ≤ 20 := by
 have h1 := Tx.dg_len (f := 20) (a := n) []
 rw [← h, Tx.dg_app] at h1
 simp at h1
 omega
def i64B (x : Int) : Prop := -9223372036854775808 ≤ x ∧ x ≤ 9223372036854775807
theorem natAbs_lt {x : Int} (h : i64B x) : x.natAbs < 10 ^ 20 := by
 have := h.1; have := h.2
 have : (9223372036854775808 : Nat) < 10 ^ 20 := Tx.ten20
 omega
theorem tdiv_bd {x : Int} (h : i64B x) : i64B (x.tdiv 10) := by
 have h1 := Int.natAbs_tdiv_le_natAbs x 10
 have h3 : (x.tdiv 10).natAbs = x.natAbs / 10 := by rw [Int.natAbs_tdiv]; rfl
 have := h.1; have := h.2
 unfold i64B
 omega
theorem tmod_bd (x : Int) : -9 ≤ x.tmod 10 ∧ x.tmod 10 ≤ 9 := by
 have h : (x.tmod 10).natAbs = x.natAbs % 10 := by rw [Int.natAbs_tmod]; rfl
 omega
theorem tmod_abs (x : Int) : (x.tmod 10).natAbs = x.natAbs % 10 := by rw [Int.natAbs_tmod]; rfl
theorem tdiv_abs (x : Int) : (x.tdiv 10).natAbs = x.natAbs / 10 := by rw [Int.natAbs_tdiv]; rfl
theorem below_pre {w0 w1 w2 : World} {B : Nat} {o : Obj} (hb : Below B w0 w1) (hs : B ≤ w1.heap.size) (hg : (w1.alloc o).grownBy w2 (some w1.heap.size)) : Below B w0 w2 :=
 (hb.alloc hs o).trans (below_of_grown hg (by simp; omega) fun g hgv => by injection hgv with hgv; omega)

theorem digit_neg {x : Int} (h : x.tmod 10 < 0) : ((UInt8.ofNat (48 + x.natAbs % 10)).toNat : Int) = 48 + -x.tmod 10 := by
 have h1 := tmod_abs x
 rw [Tx.of48]; omega
theorem digit_pos {x : Int} (h : ¬ x.tmod 10 < 0) : ((UInt8.ofNat (48 + x.natAbs % 10)).toNat : Int) = 48 + x.tmod 10 := by
 have h1 := tmod_abs x
 rw [Tx.of48]; omega
theorem fmt_pos {n : Int} {l : List UInt8} (h0 : n ≠ 0) (h : ¬ n < 0) (hl : Tx.dg 20 0 l = Tx.dg 20 n.natAbs []) : Tx.fmtI n = l := by
 rw [Tx.dg_zero] at hl
 rw [Tx.fmtI, if_neg h, Tx.fmtN, if_neg (by omega), hl]
theorem fmt_neg {n : Int} {l : List UInt8} (h : n < 0) (hl : Tx.dg 20 0 l = Tx.dg 20 n.natAbs []) : Tx.fmtI n = 45 :: l := by
 rw [Tx.dg_zero] at hl
 rw [Tx.fmtI, if_pos h, hl]

set_option maxRecDepth 100000 in
set_option maxHeartbeats 8000000 in
theorem i_FormatInt (n : Int) (hn : i64B n) (w : World) : Calls Try.prog 16 #[.int .i64 n] w fun e w' => e = .returned (.string ⟨(Tx.fmtI n).toArray⟩) ∧ Below w.heap.size w w' := by
 obtain ⟨i0, hi, hz0, hz1, hz2⟩ := info_parts Try.infoU8
 by_cases h0 : n = 0
 ·subst h0
  go_enter Try.func16, Try.ntmps16
  go_wp2
  go_ret
  exact ⟨rfl, Below.refl _ _⟩
 by_cases hneg : n < 0
 ·have Hn := Lib.hid hn
  have hn0 : (n == 0) = false := by simpa using h0
  have hn1 := hn.1
  have hn2 := hn.2
  clear hn
  go_enter Try.func16, Try.ntmps16
  go_wp2_with fail
  go_loopw [0, 3, 5] (fun xv v _ wr => ∃ (x : Int) (l : List UInt8), xv = .int .i64 x ∧ Hid (i64B x) ∧ Hid (Tx.dg 20 x.natAbs l = Tx.dg 20 n.natAbs []) ∧ wr.ownsRow w.heap.size 5 1 v l.length (bys l) ∧ Below w.heap.size w wr) (fun xv _ _ _ => (intOf xv).natAbs)
  case atStart => exact ⟨n, [], rfl, Hn, rfl, World.ownsRow_nil _ _ _ _, Below.refl _ _⟩
  case round =>
   obtain ⟨x, l, rfl, Hx, Hd, hown, hb⟩ := hrel
   have hlen := dg_suffix Hd.out
   have hx1 := Hx.out.1
   have hx2 := Hx.out.2
   obtain ⟨A, c, rfl, hc1, hc2, hA⟩ := own_form hown
   have hsz := hb.size
   have Hb := Lib.hid hb
   have Hown := Lib.hid hown
   clear hb hown hA
   by_cases hx0 : x = 0
   ·subst hx0
    go_wp2_with (at_builtin; refine wpList_append_any _ rfl _ _ 22 rfl w.heap.size 5 i0 (.int .u8 0) 1 1 Try.underlying22 hi hz0 hz1 hz2 rfl (by decide) _ 1 _ rfl (World.ownsRow_lit wr _ 1 hsz (by unfold maxLen; omega) rfl) _ _ _ _ _ rfl ((Reads.of_own Hown.out).alloc (Nat.le_refl _) _) (bys_one _) (by unfold maxLen; omega) (by omega) (by simp; omega) ?_; intro v2 w2 hown2 hgrow2 hblk2; obtain ⟨A2, c2, rfl, _, _, _⟩ := own_form hown2; have hcv := run_str (l := 45 :: l) hown2)
    have hbb := below_pre Hb.out hsz hgrow2
    go_ret
    exact ⟨by rw [fmt_neg hneg Hd.out]; rfl, hbb⟩
   ·have hne : (x != 0) = true := by simpa using hx0
    have t1 := (tmod_bd x).1
    have t2 := (tmod_bd x).2
    by_cases hd : x.tmod 10 < 0
    ·have HD := Lib.hid (digit_neg hd)
     go_wp2_with (at_builtin; refine wpList_append_any _ rfl _ _ 22 rfl w.heap.size 5 i0 (.int .u8 0) 1 1 Try.underlying22 hi hz0 hz1 hz2 rfl (by decide) _ 1 _ rfl (World.ownsRow_lit wr _ 1 hsz (by unfold maxLen; omega) rfl) _ _ _ _ _ rfl ((Reads.of_own Hown.out).alloc (Nat.le_refl _) _) (bys_one _) (by unfold maxLen; omega) (by omega) (by simp; omega) ?_; intro v2 w2 hown2 hgrow2 hblk2)
     have hbb := below_pre Hb.out hsz hgrow2
     have Hown2 := Lib.hid hown2
     clear hown2 hgrow2 hblk2
     go_wp2_with fail
     go_roundw
     case rel =>
      refine ⟨x.tdiv 10, UInt8.ofNat (48 + x.natAbs % 10) :: l, rfl, tdiv_bd Hx.out, ?_, ?_, hbb⟩
      ·show Tx.dg 20 (x.tdiv 10).natAbs (UInt8.ofNat (48 + x.natAbs % 10) :: l) = _
       rw [tdiv_abs, ← dg_step (by omega) (natAbs_lt Hx.out)]
       exact Hd.out
      ·rw [bys, List.map_cons, HD.out, List.length_cons, Nat.add_comm]
       exact Hown2.out
     case measure => simp only [intOf]; rw [tdiv_abs]; omega
    ·have HD := Lib.hid (digit_pos hd)
     go_wp2_with (at_builtin; refine wpList_append_any _ rfl _ _ 22 rfl w.heap.size 5 i0 (.int .u8 0) 1 1 Try.underlying22 hi hz0 hz1 hz2 rfl (by decide) _ 1 _ rfl (World.ownsRow_lit wr _ 1 hsz (by unfold maxLen; omega) rfl) _ _ _ _ _ rfl ((Reads.of_own Hown.out).alloc (Nat.le_refl _) _) (bys_one _) (by unfold maxLen; omega) (by omega) (by simp; omega) ?_; intro v2 w2 hown2 hgrow2 hblk2)
     have hbb := below_pre Hb.out hsz hgrow2
     have Hown2 := Lib.hid hown2
     clear hown2 hgrow2 hblk2
     go_wp2_with fail
     go_roundw
     case rel =>
      refine ⟨x.tdiv 10, UInt8.ofNat (48 + x.natAbs % 10) :: l, rfl, tdiv_bd Hx.out, ?_, ?_, hbb⟩
      ·show Tx.dg 20 (x.tdiv 10).natAbs (UInt8.ofNat (48 + x.natAbs % 10) :: l) = _
       rw [tdiv_abs, ← dg_step (by omega) (natAbs_lt Hx.out)]
       exact Hd.out
      ·rw [bys, List.map_cons, HD.out, List.length_cons, Nat.add_comm]
       exact Hown2.out
     case measure => simp only [intOf]; rw [tdiv_abs]; omega
 ·have Hn := Lib.hid hn
  have hn0 : (n == 0) = false := by simpa using h0
  have hn1 := hn.1
  have hn2 := hn.2
  clear hn
  go_enter Try.func16, Try.ntmps16
  go_wp2_with fail
  go_loopw [0, 3, 5] (fun xv v _ wr => ∃ (x : Int) (l : List UInt8), xv = .int .i64 x ∧ Hid (i64B x) ∧ Hid (Tx.dg 20 x.natAbs l = Tx.dg 20 n.natAbs []) ∧ wr.ownsRow w.heap.size 5 1 v l.length (bys l) ∧ Below w.heap.size w wr) (fun xv _ _ _ => (intOf xv).natAbs)
  case atStart => exact ⟨n, [], rfl, Hn, rfl, World.ownsRow_nil _ _ _ _, Below.refl _ _⟩
  case round =>
   obtain ⟨x, l, rfl, Hx, Hd, hown, hb⟩ := hrel
   have hlen := dg_suffix Hd.out
   have hx1 := Hx.out.1
   have hx2 := Hx.out.2
   obtain ⟨A, c, rfl, hc1, hc2, hA⟩ := own_form hown
   have hsz := hb.size
   have Hb := Lib.hid hb
   have Hown := Lib.hid hown
   clear hb hown hA
   by_cases hx0 : x = 0
   ·subst hx0
    have hcv := run_str Hown.out
    go_wp2_with fail
    go_ret
    exact ⟨by rw [fmt_pos h0 (by omega) Hd.out]; rfl, Hb.out⟩
   ·have hne : (x != 0) = true := by simpa using hx0
    have t1 := (tmod_bd x).1
    have t2 := (tmod_bd x).2
    by_cases hd : x.tmod 10 < 0
    ·have HD := Lib.hid (digit_neg hd)
     go_wp2_with (at_builtin; refine wpList_append_any _ rfl _ _ 22 rfl w.heap.size 5 i0 (.int .u8 0) 1 1 Try.underlying22 hi hz0 hz1 hz2 rfl (by decide) _ 1 _ rfl (World.ownsRow_lit wr _ 1 hsz (by unfold maxLen; omega) rfl) _ _ _ _ _ rfl ((Reads.of_own Hown.out).alloc (Nat.le_refl _) _) (bys_one _) (by unfold maxLen; omega) (by omega) (by simp; omega) ?_; intro v2 w2 hown2 hgrow2 hblk2)
     have hbb := below_pre Hb.out hsz hgrow2
     have Hown2 := Lib.hid hown2
     clear hown2 hgrow2 hblk2
     go_wp2_with fail
     go_roundw
     case rel =>
      refine ⟨x.tdiv 10, UInt8.ofNat (48 + x.natAbs % 10) :: l, rfl, tdiv_bd Hx.out, ?_, ?_, hbb⟩
      ·show Tx.dg 20 (x.tdiv 10).natAbs (UInt8.ofNat (48 + x.natAbs % 10) :: l) = _
       rw [tdiv_abs, ← dg_step (by omega) (natAbs_lt Hx.out)]
       exact Hd.out
      ·rw [bys, List.map_cons, HD.out, List.length_cons, Nat.add_comm]
       exact Hown2.out
     case measure => simp only [intOf]; rw [tdiv_abs]; omega
    ·have HD := Lib.hid (digit_pos hd)
     go_wp2_with (at_builtin; refine wpList_append_any _ rfl _ _ 22 rfl w.heap.size 5 i0 (.int .u8 0) 1 1 Try.underlying22 hi hz0 hz1 hz2 rfl (by decide) _ 1 _ rfl (World.ownsRow_lit wr _ 1 hsz (by unfold maxLen; omega) rfl) _ _ _ _ _ rfl ((Reads.of_own Hown.out).alloc (Nat.le_refl _) _) (bys_one _) (by unfold maxLen; omega) (by omega) (by simp; omega) ?_; intro v2 w2 hown2 hgrow2 hblk2)
     have hbb := below_pre Hb.out hsz hgrow2
     have Hown2 := Lib.hid hown2
     clear hown2 hgrow2 hblk2
     go_wp2_with fail
     go_roundw
     case rel =>
      refine ⟨x.tdiv 10, UInt8.ofNat (48 + x.natAbs % 10) :: l, rfl, tdiv_bd Hx.out, ?_, ?_, hbb⟩
      ·show Tx.dg 20 (x.tdiv 10).natAbs (UInt8.ofNat (48 + x.natAbs % 10) :: l) = _
       rw [tdiv_abs, ← dg_step (by omega) (natAbs_lt Hx.out)]
       exact Hd.out
      ·rw [bys, List.map_cons, HD.out, List.length_cons, Nat.add_comm]
       exact Hown2.out
     case measure => simp only [intOf]; rw [tdiv_abs]; omega
end Go.Proofs.Ytbkgjgpoohlieaa

/- Contracts: a number in decimal: both functions. -/
import Derived.Test.YtlkjdhjeecogjaaHexD
import Derived.Test.YtlkjdhjeecogjaaText
namespace Go.Proofs.Ytlkjdhjeecogjaa
open Go.RowKit

theorem bys_one (l : List UInt8) : ∀ u ∈ bys l, u.oneCell' = true := by
 intro u hu
 simp only [bys, List.mem_map] at hu
 obtain ⟨x, _, rfl⟩ := hu
 rfl
/-- a step of the digits -/
theorem dg_step {a : Nat} {l : List UInt8} (ha : a ≠ 0) (hb : a < 10 ^ 20) : Tx.dg 20 a l = Tx.dg 20 (a / 10) (UInt8.ofNat (48 + a % 10) :: l) := by
 rw [Tx.dg_pos _ ha]
 refine Tx.dg_fuel (f := 19) (g := 20) ?_ ?_ _
 ·exact Tx.div_lt hb
 ·exact Nat.lt_of_le_of_lt (Nat.div_le_self _ _) hb
theorem dg_suffix {a n : Nat} {l : List UInt8} (h : Tx.dg 20 a l = Tx.dg 20 n []) : l.length ≤ 20 := by
 have h1 := Tx.dg_len (f := 20) (a := n) []
 rw [← h, Tx.dg_app] at h1
 simp at h1
 omega
def i64B (x : Int) : Prop := -9223372036854775808 ≤ x ∧ x ≤ 9223372036854775807
theorem natAbs_lt {x : Int} (h : i64B x) : x.natAbs < 10 ^ 20 := by
 have := h.1; have := h.2
 have : (9223372036854775808 : Nat) < 10 ^ 20 := Tx.ten20
 omega
theorem tdiv_bd {x : Int} (h : i64B x) : i64B (x.tdiv 10) := by
 have h1 := Int.natAbs_tdiv_le_natAbs x 10
 have h3 : (x.tdiv 10).natAbs = x.natAbs / 10 := by rw [Int.natAbs_tdiv]; rfl
 have := h.1; have := h.2
 unfold i64B
 omega
theorem tmod_bd (x : Int) : -9 ≤ x.tmod 10 ∧ x.tmod 10 ≤ 9 := by
 have h : (x.tmod 10).natAbs = x.natAbs % 10 := by rw [Int.natAbs_tmod]; rfl
 omega
theorem tmod_abs (x : Int) : (x.tmod 10).natAbs = x.natAbs % 10 := by rw [Int.natAbs_tmod]; rfl
theorem tdiv_abs (x : Int) : (x.tdiv 10).natAbs = x.natAbs / 10 := by rw [Int.natAbs_tdiv]; rfl
theorem below_pre {w0 w1 w2 : World} {B : Nat} {o : Obj} (hb : Below B w0 w1) (hs : B ≤ w1.heap.size) (hg : (w1.alloc o).grownBy w2 (some w1.heap.size)) : Below B w0 w2 :=
 (hb.alloc hs o).trans (below_of_grown hg (by simp; omega) fun g hgv => by injection hgv with hgv; omega)

theorem digit_neg {x : Int} (h : x.tmod 10 < 0) : ((UInt8.ofNat (48 + x.natAbs % 10)).toNat : Int) = 48 + -x.tmod 10 := by
 have h1 := tmod_abs x
 rw [Tx.of48]; omega
theorem digit_pos {x : Int} (h : ¬ x.tmod 10 < 0) : ((UInt8.ofNat (48 + x.natAbs % 10)).toNat : Int) = 48 + x.tmod 10 := by
 have h1 := tmod_abs x
 rw [Tx.of48]; omega
theorem fmt_pos {n : Int} {l : List UInt8} (h0 : n ≠ 0) (h : ¬ n < 0) (hl : Tx.dg 20 0 l = Tx.dg 20 n.natAbs []) : Tx.fmtI n = l := by
 rw [Tx.dg_zero] at hl
 rw [Tx.fmtI, if_neg h, Tx.fmtN, if_neg (by omega), hl]
theorem fmt_neg {n : Int} {l : List UInt8} (h : n < 0) (hl : Tx.dg 20 0 l = Tx.dg 20 n.natAbs []) : Tx.fmtI n = 45 :: l := by
 rw [Tx.dg_zero] at hl
 rw [Tx.fmtI, if_pos h, hl]

end Go.Proofs.Ytlkjdhjeecogjaa

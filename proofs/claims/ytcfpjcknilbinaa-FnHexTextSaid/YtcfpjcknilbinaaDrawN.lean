/- Contracts: drawn numbers. -/
import Derived.Test.YtcfpjcknilbinaaDraw
import Derived.Test.YtcfpjcknilbinaaFmt
namespace Go.Proofs.Ytcfpjcknilbinaa
open Go.RowKit

theorem Cur.lt {B g : Nat} {w : World} (h : Cur B g w) : g < w.heap.size := by obtain ⟨_, _, _, _, _, _, hB, _⟩ := h; exact hB.lt
theorem Cur.le {B g : Nat} {w : World} (h : Cur B g w) : B ≤ g := by obtain ⟨_, _, _, _, _, _, _, h, _⟩ := h; exact h
theorem Cur.alloc {B g : Nat} {w : World} (h : Cur B g w) (o : Obj) : Cur B g (w.alloc o) := by
  have hl := h.lt
  obtain ⟨A, n, c, l, i, hh, hB, hBg, hr, hin, hn⟩ := h
  exact ⟨A, n, c, l, i, hh, hB.alloc o, hBg, hr.alloc (by omega) o, hin, hn⟩

def numL : List Int := [-1, 0, 127, 128, 16383, 16384, 1000000000, 1000000001, 9223372036854775807, -9223372036854775808]
theorem numL_bd : ∀ x ∈ numL, i64B x := by
  intro x hx
  simp only [numL, List.mem_cons, List.not_mem_nil, or_false] at hx
  unfold i64B
  omega

theorem numL_cell {w : World} {j : Nat} {x : Int} (hj : numL[j]? = some x) : (w.alloc (.cells #[.int .i64 (-1), .int .i64 0, .int .i64 127, .int .i64 128, .int .i64 16383, .int .i64 16384, .int .i64 1000000000, .int .i64 1000000001, .int .i64 9223372036854775807, .int .i64 (-9223372036854775808)] 3)).cell? ((⟨w.heap.size, 0, none⟩ : Addr).add j) = some (.int .i64 x) := by
  obtain ⟨ad, h1, _, h3⟩ := (reads_new (w := w) 3 #[.int .i64 (-1), .int .i64 0, .int .i64 127, .int .i64 128, .int .i64 16383, .int .i64 16384, .int .i64 1000000000, .int .i64 1000000001, .int .i64 9223372036854775807, .int .i64 (-9223372036854775808)] 10 1 rfl).2 (by omega)
  injection h1 with h1
  subst h1
  refine h3 j _ ?_
  have e : (#[.int .i64 (-1), .int .i64 0, .int .i64 127, .int .i64 128, .int .i64 16383, .int .i64 16384, .int .i64 1000000000, .int .i64 1000000001, .int .i64 9223372036854775807, .int .i64 (-9223372036854775808)] : Array Value).toList = ints numL := rfl
  rw [e, ints_get, hj]
  rfl

set_option maxRecDepth 100000 in
set_option maxHeartbeats 2000000 in
theorem s_Number {B g : Nat} {w : World} (hcur : Cur B g w) : Calls Try.prog 111 #[.pointer (some ⟨g, 0, none⟩)] w (DrawI B g i64B w) := by
  go_enter Try.func111, Try.ntmps111
  go_wp2_with fail
  refine (s_Below 4 hcur).mono ?_
  rintro e w1 ⟨x, rfl, hx, hc1, hg1⟩
  obtain ⟨hx0, hx1⟩ := hx.1 (by omega)
  have Hg1 := Lib.hid hg1
  have Hc1 := Lib.hid hc1
  have hgl := hc1.lt
  clear hg1 hc1 hx
  by_cases h0 : x = 0
  · subst h0
    go_wp2_with fail
    refine (s_PickInt (n := 10) (l := numL) (Hc1.out.alloc _) (by omega) (by omega) rfl (by simp; omega) (by simp) (fun j x hj => ?_)).mono ?_
    · exact numL_cell hj
    · rintro e w2 ⟨y, rfl, hy, hc2, hg2⟩
      have hyb := numL_bd y hy
      have Hc2 := Lib.hid hc2
      have Hg2 := Lib.hid hg2
      have Hy := Lib.hid hyb
      clear hc2 hg2 hy hyb
      go_wp2_with fail
      go_ret
      exact ⟨y, rfl, Hy.out, Hc2.out, (Hg1.out.trans (World.grownBy_alloc _ _ _)).trans Hg2.out⟩
  · have hd0 : (x == 0) = false := by simpa using h0
    by_cases h1 : x = 1
    · subst h1
      go_wp2_with fail
      refine (s_Below 1000000000 Hc1.out).mono ?_
      rintro e w2 ⟨y, rfl, hy, hc2, hg2⟩
      obtain ⟨hy0, hy1⟩ := hy.1 (by omega)
      go_wp2_with fail
      go_ret
      exact ⟨y, rfl, ⟨by omega, by omega⟩, hc2, Hg1.out.trans hg2⟩
    · have hd1 : (x == 1) = false := by simpa using h1
      go_wp2_with fail
      refine (s_Below 400 Hc1.out).mono ?_
      rintro e w2 ⟨y, rfl, hy, hc2, hg2⟩
      obtain ⟨hy0, hy1⟩ := hy.1 (by omega)
      go_wp2_with fail
      go_ret
      exact ⟨y, rfl, ⟨by omega, by omega⟩, hc2, Hg1.out.trans hg2⟩

def Three (w : World) (e : Ending) (w' : World) : Prop := ∃ n a b : Int, e = .returned (.tuple #[.int .i64 n, .int .i64 a, .int .i64 b]) ∧ Below w.heap.size w w'
theorem below_cur {w0 w w' : World} {B g : Nat} (hb : Below B w0 w) (hc : Cur B g w) (hg : w.grownBy w' (some g)) : Below B w0 w' :=
  hb.trans (below_of_grown hg (by have := hc.lt; have := hc.le; omega) (fun k hk => by injection hk with hk; have := hc.le; omega))

set_option maxRecDepth 100000 in
set_option maxHeartbeats 2000000 in
theorem s_DrawClamp {w : World} {A : Option Addr} {n c : Nat} {l : List UInt8} (hr : Reads w w.heap.size 1 A n (bys l)) (hn : n ≤ 1048576) : Calls Try.prog 64 #[.slice A n c] w (Three w) := by
  go_enter Try.func64, Try.ntmps64
  go_wp2_with fail
  refine (s_New hr hn).mono ?_
  rintro e w1 ⟨g, rfl, hc1, hb1⟩
  go_wp2_with fail
  refine (s_Once 4 hc1).mono ?_
  rintro e w2 ⟨b, rfl, hc2, hg2⟩
  have hb2 := below_cur hb1 hc1 hg2
  cases b
  · go_wp2_with fail
    refine (s_Below 40 hc2).mono ?_
    rintro e w3 ⟨x, rfl, hx, hc3, hg3⟩
    obtain ⟨hx0, hx1⟩ := hx.1 (by omega)
    have hb3 := below_cur hb2 hc2 hg3
    go_wp2_with fail
    refine (s_Below 80 hc3).mono ?_
    rintro e w4 ⟨y, rfl, hy, hc4, hg4⟩
    obtain ⟨hy0, hy1⟩ := hy.1 (by omega)
    have hb4 := below_cur hb3 hc3 hg4
    go_wp2_with fail
    refine (s_Below 30 hc4).mono ?_
    rintro e w5 ⟨z, rfl, hz, hc5, hg5⟩
    obtain ⟨hz0, hz1⟩ := hz.1 (by omega)
    have hb5 := below_cur hb4 hc4 hg5
    go_wp2_with fail
    go_ret3
    exact ⟨_, _, _, rfl, hb5⟩
  · go_wp2_with fail
    refine (s_Number hc2).mono ?_
    rintro e w3 ⟨x, rfl, hx, hc3, hg3⟩
    have hb3 := below_cur hb2 hc2 hg3
    go_wp2_with fail
    refine (s_Number hc3).mono ?_
    rintro e w4 ⟨y, rfl, hy, hc4, hg4⟩
    have hb4 := below_cur hb3 hc3 hg4
    go_wp2_with fail
    refine (s_Number hc4).mono ?_
    rintro e w5 ⟨z, rfl, hz, hc5, hg5⟩
    have hb5 := below_cur hb4 hc4 hg5
    go_wp2_with fail
    go_ret3
    exact ⟨_, _, _, rfl, hb5⟩
end Go.Proofs.Ytcfpjcknilbinaa

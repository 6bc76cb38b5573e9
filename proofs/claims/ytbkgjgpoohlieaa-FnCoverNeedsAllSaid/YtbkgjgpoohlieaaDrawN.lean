/- Contracts: drawn numbers. -/
import Derived.Test.YtbkgjgpoohlieaaDraw
import Derived.Test.YtbkgjgpoohlieaaFmt
namespace Go.Proofs.Ytbkgjgpoohlieaa
open Go.RowKit

theorem Cur.lt {B g : Nat} {w : World} (h : Cur B g w) : g < w.heap.size := by obtain ⟨_, _, _, _, _, _, hB, _⟩ := h; exact hB.lt
theorem Cur.le {B g : Nat} {w : World} (h : Cur B g w) : B ≤ g := by obtain ⟨_, _, _, _, _, _, _, h, _⟩ := h; exact h
theorem Cur.alloc {B g : Nat} {w : World} (h : Cur B g w) (o : Obj) : Cur B g (w.alloc o) := by
 have hl := h.lt
 obtain ⟨A, n, c, l, i, hh, hB, hBg, hr, hin, hn⟩ := h
 exact ⟨A, n, c, l, i, hh, hB.alloc o, hBg, hr.alloc (by omega) o, hin, hn⟩

def numL : List Int := [-1, 0, 127, 128, 16383, 16384, 1000000000, 1000000001, 9223372036854775807, -9223372036854775808]
theorem numL_bd : ∀ x ∈ numL, i64B x := by
 intro x hx
 simp only [numL, List.mem_cons, List.not_mem_nil, or_false] at hx
 unfold i64B
 omega

theorem numL_cell {w : World} {j : Nat} {x : Int} (hj : numL[j]? = some x) : (w.alloc (.cells #[.int .i64 (-1), .int .i64 0, .int .i64 127, .int .i64 128, .int .i64 16383, .int .i64 16384, .int .i64 1000000000, .int .i64 1000000001, .int .i64 9223372036854775807, .int .i64 (-9223372036854775808)] 3)).cell? ((⟨w.heap.size, 0, none⟩ : Addr).add j) = some (.int .i64 x) := by
 obtain ⟨ad, h1, _, h3⟩ := (reads_new (w := w) 3 #[.int .i64 (-1), .int .i64 0, .int .i64 127, .int .i64 128, .int .i64 16383, .int .i64 16384, .int .i64 1000000000, .int .i64 1000000001, .int .i64 9223372036854775807, .int .i64 (-9223372036854775808)] 10 1 rfl).2 (by omega)
 injection h1 with h1
 subst h1
 refine h3 j _ ?_
 have e : (#[.int .i64 (-1), .int .i64 0, .int .i64 127, .int .i64 128, .int .i64 16383, .int .i64 16384, .int .i64 1000000000, .int .i64 1000000001, .int .i64 9223372036854775807, .int .i64 (-9223372036854775808)] : Array Value).toList = ints numL := rfl
 rw [e, ints_get, hj]
 rfl

def Three (w : World) (e : Ending) (w' : World) : Prop := ∃ n a b : Int, e = .returned (.tuple #[.int .i64 n, .int .i64 a, .int .i64 b]) ∧ Below w.heap.size w w'
theorem below_cur {w0 w w' : World} {B g : Nat} (hb : Below B w0 w) (hc : Cur B g w) (hg : w.grownBy w' (some g)) : Below B w0 w' :=
 hb.trans (below_of_grown hg (by have := hc.lt; have := hc.le; omega) (fun k hk => by injection hk with hk; have := hc.le; omega))

end Go.Proofs.Ytbkgjgpoohlieaa

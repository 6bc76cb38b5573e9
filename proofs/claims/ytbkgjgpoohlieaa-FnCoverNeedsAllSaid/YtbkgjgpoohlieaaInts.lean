/- Contracts: lists of numbers in the laws: equality, marks, whether the marks are held. -/
import Derived.Test.YtbkgjgpoohlieaaNum
import Derived.Test.YtbkgjgpoohlieaaLex
namespace Go.Proofs.Ytbkgjgpoohlieaa
open Go.RowKit

def ints (l : List Int) : List Value := l.map (Value.int .i64)
theorem ints_len (l : List Int) : (ints l).length = l.length := by simp [ints]
theorem ints_get (l : List Int) (k : Nat) : (ints l)[k]? = l[k]?.map (Value.int .i64) := by simp [ints]
theorem ints_one (l : List Int) : ∀ u ∈ ints l, u.oneCell' = true := by
 intro u hu
 simp only [ints, List.mem_map] at hu
 obtain ⟨x, _, rfl⟩ := hu
 rfl

/-- what is owned, with a lower bound -/
theorem own_mono {w : World} {base base' : Nat} {e : TypeId} {size n : Nat} {v : Value} {xs : List Value} (h : w.ownsRow base e size v n xs) (hb : base' ≤ base) : w.ownsRow base' e size v n xs := by
 refine ⟨h.1, ?_⟩
 rcases h.2 with h' | ⟨g, cap, cur, h1, h2, h3⟩
 ·exact .inl h'
 ·exact .inr ⟨g, cap, cur, h1, Nat.le_trans hb h2, h3⟩
theorem own_form {w : World} {base : Nat} {e : TypeId} {size n : Nat} {v : Value} {xs : List Value} (h : w.ownsRow base e size v n xs) :
  ∃ A c, v = .slice A n c ∧ n ≤ c ∧ c ≤ maxLen ∧ (0 < n → ∃ g, A = some ⟨g, 0, none⟩ ∧ base ≤ g ∧ g < w.heap.size) := by
 rcases h.2 with ⟨rfl, rfl⟩ | ⟨g, cap, cur, rfl, h2, h3, h4, h5, _⟩
 ·exact ⟨none, 0, rfl, Nat.le_refl _, by unfold maxLen; omega, fun h => absurd h (by omega)⟩
 ·refine ⟨_, cap, rfl, h4, h5, fun _ => ⟨g, rfl, h2, ?_⟩⟩
  exact (Array.getElem?_eq_some_iff.1 h3).1
theorem own_below {w w' : World} {base B : Nat} {e : TypeId} {size n : Nat} {v : Value} {xs : List Value} (h : w.ownsRow base e size v n xs) (hb : Below B w w') (hB : w.heap.size ≤ B) : w'.ownsRow base e size v n xs := by
 refine h.kept (row := none) ⟨hb.os, hb.tape, hb.output, hb.size, fun k hk _ => hb.block k (by omega)⟩ ?_
 cases hv : v.ownBlock
 ·exact .inl rfl
 ·exact .inr (by simp)
theorem own_drew {w : World} {base : Nat} {e : TypeId} {size n : Nat} {v : Value} {xs : List Value} (h : w.ownsRow base e size v n xs) : w.drew.ownsRow base e size v n xs := h
/-- what a fresh literal reads as -/
theorem reads_new {w : World} (t : TypeId) (cs : Array Value) (n size : Nat) (h : cs.size = n * size) : Reads (w.alloc (.cells cs t)) (w.heap.size + 1) size (some ⟨w.heap.size, 0, none⟩) n cs.toList := by
 refine ⟨by simpa using h, fun _ => ⟨_, rfl, by simp, fun j u hu => ?_⟩⟩
 have hadd : (⟨w.heap.size, 0, none⟩ : Addr).add j = ⟨w.heap.size, j, none⟩ := by unfold Addr.add; split <;> simp_all
 rw [hadd, (Blk.new w t cs).cell j, ← hu]
 simp

theorem below_of_grown {w w' : World} {row : Option Nat} {B : Nat} (h : w.grownBy w' row) (hB : B ≤ w.heap.size) (hr : ∀ g, row = some g → B ≤ g) : Below B w w' :=
 ⟨h.os, h.tape, h.output, h.size, fun k hk => h.block k (by omega) (fun e => by have := hr k e.symm; omega)⟩
theorem grown_below {w w1 w' : World} {row : Option Nat} (h : w.grownBy w1 row) {B : Nat} (hb : Below B w1 w') (hB : w.heap.size ≤ B) : w.grownBy w' row :=
 ⟨hb.os.trans h.os, hb.tape.trans h.tape, hb.output.trans h.output, Nat.le_trans h.size hb.size, fun k hk hne => (hb.block k (by omega)).trans (h.block k hk hne)⟩

/-- behind an append of a literal -/
theorem below_push {w0 w1 w2 : World} {B base n size : Nat} {e : TypeId} {o : Obj} {v : Value} {xs : List Value} (hb : Below B w0 w1) (hown : w1.ownsRow base e size v n xs) (hB : B ≤ base) (hs : B ≤ w1.heap.size)
  (hg : (w1.alloc o).grownBy w2 v.ownBlock) : Below B w0 w2 := by
 refine (hb.alloc hs o).trans (below_of_grown hg (by simp; omega) fun g hgv => ?_)
 have := hown.lt g hgv
 omega
theorem grown_push {w1 w2 : World} {o : Obj} {row : Option Nat} (hg : (w1.alloc o).grownBy w2 row) : w1.grownBy w2 row :=
 (World.grownBy_alloc w1 o row).trans hg

/-- the cell of a list's element -/
theorem Reads.int_at {w : World} {B n : Nat} {A : Option Addr} {l : List Int} (h : Reads w B 1 A n (ints l)) {k : Nat} (hk : k < n) :
  ∃ ad x, A = some ad ∧ ad.block < B ∧ l[k]? = some x ∧ w.cell? (ad.add k) = some (.int .i64 x) := by
 obtain ⟨ad, u, rfl, hb, hu, hc⟩ := h.at_ hk
 rw [ints_get] at hu
 cases hx : l[k]? with
 | none => rw [hx] at hu; cases hu
 | some x => rw [hx] at hu; injection hu with hu; subst hu; exact ⟨ad, x, rfl, hb, rfl, hc⟩
theorem Reads.len {w : World} {B n : Nat} {A : Option Addr} {l : List Int} (h : Reads w B 1 A n (ints l)) : l.length = n := by
 have := h.1; rw [ints_len] at this; omega

/-- the marks from k on -/
def marks (k : Int) (n : Nat) : List Int := (List.range n).map fun i => k + ((i : Nat) : Int)
theorem marks_len (k : Int) (n : Nat) : (marks k n).length = n := by simp [marks]
theorem marks_get {k : Int} {n i : Nat} (h : i < n) : (marks k n)[i]? = some (k + (i : Int)) := by
 simp [marks, List.getElem?_range h]
/-- the first i marked, the others as they were -/
def part (k : Int) (i : Nat) (l : List Int) : List Int := marks k i ++ l.drop i
theorem part_zero (k : Int) (l : List Int) : part k 0 l = l := by simp [part, marks]
theorem part_all {k : Int} {l : List Int} {n : Nat} (h : l.length = n) : part k n l = marks k n := by simp [part, ← h]
theorem part_succ {k : Int} {i : Nat} {l : List Int} (h : i < l.length) : (part k i l).set i (k + (i : Int)) = part k (i + 1) l := by
 unfold part
 rw [List.set_append_right _ _ (by rw [marks_len]; exact Nat.le_refl _), marks_len, Nat.sub_self, List.drop_eq_getElem_cons h, List.set_cons_zero]
 unfold marks
 rw [List.range_succ, List.map_append, List.append_assoc]
 rfl

end Go.Proofs.Ytbkgjgpoohlieaa

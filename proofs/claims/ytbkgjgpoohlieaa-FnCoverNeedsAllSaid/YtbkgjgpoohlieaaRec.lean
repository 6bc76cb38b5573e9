/- Words for memory: slices of structs of numbers. -/
import Derived.Test.YtbkgjgpoohlieaaInts
import Derived.Deep.Slices
import Derived.Deep.Fields
import Derived.ChangeSame
namespace Go.Proofs.Ytbkgjgpoohlieaa
open Go.RowKit

/-- the address of a later field, as the walk writes it -/
abbrev nxt (a : Addr) (j : Nat) : Addr := ⟨a.block, a.off + j, none⟩
theorem nxt_add (a : Addr) {i : Nat} (j : Nat) (h : 0 < j) : nxt (a.add i) j = a.add (i + j) := by
 rw [← add_of_add]
 show _ = (if j = 0 then a.add i else _)
 rw [if_neg (by omega)]
theorem nxt_block (a : Addr) (i j : Nat) : (nxt (a.add i) j).block = a.block := block_of_add a i
/-- structs of numbers, laid one behind the other -/
def recs {α : Type} (enc : α → List Int) (l : List α) : List Value := l.flatMap fun x => (enc x).map (Value.int .i64)

section
variable {α : Type} {enc : α → List Int} {size : Nat}
theorem recs_nil : recs enc [] = [] := rfl
theorem recs_cons (x : α) (l : List α) : recs enc (x :: l) = (enc x).map (Value.int .i64) ++ recs enc l := by simp [recs]
theorem recs_app (a b : List α) : recs enc (a ++ b) = recs enc a ++ recs enc b := by simp [recs]
theorem recs_len (hE : ∀ x, (enc x).length = size) : ∀ l : List α, (recs enc l).length = l.length * size
 | [] => by simp [recs]
 | x :: l => by rw [recs_cons, List.length_append, recs_len hE l, List.length_map, hE, List.length_cons, Nat.add_mul]; omega
theorem recs_get (hE : ∀ x, (enc x).length = size) (j : Nat) (hj : j < size) : ∀ (l : List α) (k : Nat), (recs enc l)[k * size + j]? = l[k]?.bind fun x => (enc x)[j]?.map (Value.int .i64)
 | [], k => by simp [recs]
 | x :: l, 0 => by
  rw [recs_cons, Nat.zero_mul, Nat.zero_add, List.getElem?_append_left (by rw [List.length_map, hE]; exact hj)]
  simp
 | x :: l, k + 1 => by
  rw [recs_cons, List.getElem?_append_right (by rw [List.length_map, hE, Nat.add_mul]; omega), List.length_map, hE, show (k + 1) * size + j - size = k * size + j by rw [Nat.add_mul]; omega, recs_get hE j hj l k]
  simp
theorem recs_one (l : List α) : ∀ u ∈ recs enc l, u.oneCell' = true := by
 intro u hu
 simp only [recs, List.mem_flatMap, List.mem_map] at hu
 obtain ⟨x, _, y, _, rfl⟩ := hu
 rfl
theorem Reads.rlen (hE : ∀ x, (enc x).length = size) (hs : 0 < size) {w : World} {B n : Nat} {A : Option Addr} {l : List α} (h : Reads w B size A n (recs enc l)) : l.length = n := by
 have := h.1
 rw [recs_len hE] at this
 exact Nat.eq_of_mul_eq_mul_right hs this
theorem Reads.rec_at (hE : ∀ x, (enc x).length = size) (hs : 0 < size) {w : World} {B n : Nat} {A : Option Addr} {l : List α} (h : Reads w B size A n (recs enc l)) {k : Nat} (hk : k < n) :
  ∃ ad x, A = some ad ∧ ad.block < B ∧ l[k]? = some x ∧ ∀ j y, (enc x)[j]? = some y → w.cell? (ad.add (k * size + j)) = some (.int .i64 y) := by
 have hl := h.rlen hE hs
 obtain ⟨ad, rfl, hb, hc⟩ := h.2 (by omega)
 have hx : l[k]? = some l[k] := List.getElem?_eq_getElem (by omega)
 refine ⟨ad, l[k], rfl, hb, hx, fun j y hy => hc _ _ ?_⟩
 have hj : j < size := by
  rw [← hE l[k]]
  exact (List.getElem?_eq_some_iff.1 hy).1
 rw [recs_get hE j hj, hx]
 simp [hy]
end

/-! ### cubes -/
def cbE (c : Int × Int) : List Int := [c.1, c.2]
theorem cbE_len (c : Int × Int) : (cbE c).length = 2 := rfl
def cbs (l : List (Int × Int)) : List Value := recs cbE l
theorem cbs_len (l : List (Int × Int)) : (cbs l).length = l.length * 2 := recs_len cbE_len l
theorem cbs_one (l : List (Int × Int)) : ∀ u ∈ cbs l, u.oneCell' = true := recs_one l
theorem Reads.clen {w : World} {B n : Nat} {A : Option Addr} {l : List (Int × Int)} (h : Reads w B 2 A n (cbs l)) : l.length = n := Reads.rlen cbE_len (by decide) h
theorem Reads.cube_at {w : World} {B n : Nat} {A : Option Addr} {l : List (Int × Int)} (h : Reads w B 2 A n (cbs l)) {k : Nat} (hk : k < n) :
  ∃ ad c v, A = some ad ∧ ad.block < B ∧ l[k]? = some (c, v) ∧ w.cell? (ad.add (k * 2)) = some (.int .i64 c) ∧ w.cell? (nxt (ad.add (k * 2)) 1) = some (.int .i64 v) := by
 obtain ⟨ad, x, rfl, hb, hx, hc⟩ := Reads.rec_at cbE_len (by decide) h hk
 exact ⟨ad, x.1, x.2, rfl, hb, hx, hc 0 x.1 rfl, by rw [nxt_add _ _ (by decide)]; exact hc 1 x.2 rfl⟩
end Go.Proofs.Ytbkgjgpoohlieaa

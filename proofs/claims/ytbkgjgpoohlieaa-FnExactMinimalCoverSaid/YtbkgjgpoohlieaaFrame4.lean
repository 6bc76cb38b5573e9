/- How a law's arguments read: a slice of structs of numbers. -/
import Derived.Test.YtbkgjgpoohlieaaFrame2
import Derived.Test.YtbkgjgpoohlieaaRec
namespace Go.Proofs.Ytbkgjgpoohlieaa
open Go.ChangeShapes Go.WideShapes Go.ChangeAt Go.RowKit Go.Deep
section
variable {H : Type} {enc : TypeId × Value → H} {P : Program} {w : World} {base : Nat} {spare : Nat → Bool} {held : Bool}
theorem open_slice_fields {t e : TypeId} {fs : Array Field} {fuel : Nat} {cs : List Value} {x : DataW H × List MemPlace} (ht : P.underlying t = some (.slice e)) (he : P.underlying e = some (.struct fs))
  (hone : oneCellFields P fs = true) (hC : P.cellsOf e = fs.size) (h : DataW.trod enc P w base spare held fuel t cs = some x) :
  (cs = [.slice none 0 0] ∧ x = (.nil, [])) ∨
  ∃ (a : Addr) (len cap m : Nat) (D : Nat → DataW H) (Pl : Nat → List MemPlace), cs = [.slice (some a) len cap] ∧ base ≤ a.block ∧ len ≤ cap ∧ cap ≤ maxLen ∧ m = (if spare a.block then cap else len) ∧
   x = (.slice ((List.range len).map D) ((List.range (m - len)).map fun j => D (len + j)), MemPlace.row a (m * fs.size) ++ (List.range m).flatMap Pl) ∧
   ∀ i, i < m → ∃ (ys : List (DataW H × List MemPlace)) (n : Nat), D i = .agg (ys.map (·.1)) ∧ Pl i = ys.flatMap (·.2) ∧ ys.length = fs.size ∧
    ∀ (j : Nat) (f : Field), fs[j]? = some f → ∃ (v : Value) (y : DataW H × List MemPlace), w.cell? (a.add (i * fs.size + j)) = some v ∧ ys[j]? = some y ∧ DataW.trod enc P w base spare held n f.type [v] = some y := by
 rcases open_slice ht h with h0 | ⟨a, len, cap, m, n, D, Pl, hcs, hb, hl, hm, hmm, hx, hi⟩
 ·exact .inl h0
 ·refine .inr ⟨a, len, cap, m, D, Pl, hcs, hb, hl, hm, hmm, by rw [hC] at hx; exact hx, fun i him => ?_⟩
  obtain ⟨cs', hc, ht'⟩ := hi i him
  rw [hC] at hc
  obtain ⟨ys, n', hn', hy, hlen, hyl, hf⟩ := DataW.trod_struct he ht'
  obtain ⟨_, hcl, hat⟩ := World.cells?_some hc
  simp only [Prod.mk.injEq] at hy
  refine ⟨ys, n', hy.1, hy.2, hyl, fun j f hj => ?_⟩
  obtain ⟨ho, hk⟩ := hone_of hone j f hj
  have hjl : j < fs.size := (Array.getElem?_eq_some_iff.1 hj).1
  have hcell := hat j hjl
  have hv : cs'[j]? = some (cs'[j]'(by omega)) := List.getElem?_eq_getElem (by omega)
  have h1 := hf j f hj
  rw [ho, hk] at h1
  have hone' : (cs'.drop j).take 1 = [cs'[j]'(by omega)] := by
   rw [List.drop_eq_getElem_cons (by omega)]
   rfl
  rw [hone'] at h1
  have hys : ys[j]? = some (ys[j]'(by omega)) := List.getElem?_eq_getElem (by omega)
  refine ⟨_, _, ?_, hys, h1.trans hys⟩
  rw [← Go.Deep.add_add, hcell, hv]
end

theorem exists_list {α : Type} {p : Nat → α → Prop} : ∀ n, (∀ i, i < n → ∃ x, p i x) → ∃ l : List α, l.length = n ∧ ∀ i x, l[i]? = some x → p i x
 | 0, _ => ⟨[], rfl, fun i x h => by simp at h⟩
 | n + 1, h => by
  obtain ⟨l, hl, hp⟩ := exists_list n fun i hi => h i (by omega)
  obtain ⟨x, hx⟩ := h n (by omega)
  refine ⟨l ++ [x], by simp [hl], fun i y hy => ?_⟩
  rcases Nat.lt_or_ge i n with hi | hi
  ·rw [List.getElem?_append_left (by omega)] at hy
   exact hp i y hy
  ·have hin : i < (l ++ [x]).length := (List.getElem?_eq_some_iff.1 hy).1
   simp [hl] at hin
   obtain rfl : i = n := by omega
   rw [List.getElem?_append_right (by omega), hl, Nat.sub_self] at hy
   simp at hy
   rw [← hy]
   exact hx

section
variable {H : Type} {enc : TypeId × Value → H} {P : Program} {W : World} {held : Bool} {base b0 : Nat}
/-- a slice of structs of two numbers -/
theorem op_cubes {t e : TypeId} {f0 f1 : Field} {v : Value} {d : DataW H} {p : List MemPlace} (ht : P.underlying t = some (.slice e)) (he : P.underlying e = some (.struct #[f0, f1])) (hone : oneCellFields P #[f0, f1] = true) (hC : P.cellsOf e = 2)
  (h0 : P.underlying f0.type = some (.int .i64)) (h1 : P.underlying f1.type = some (.int .i64)) (hv : Value.okWide P W .any b0 t v)
  (h : DataW.Trod enc P W base (fun _ => true) held t v d p) (hlt : ∀ x ∈ p, x.block < W.heap.size) : ∃ (A : Option Addr) (n c : Nat) (l : List (Int × Int)), v = .slice A n c ∧ n ≤ maxLen ∧ Reads W W.heap.size 2 A n (cbs l) := by
 obtain ⟨a1, len, cap, rfl⟩ := okWide_slice ht hv
 obtain ⟨fuel, hf⟩ := h
 rcases open_slice_fields ht he hone hC hf with ⟨hcs, hx⟩ | ⟨a, len', cap', m, D, Pl, hcs, _, hl, hm, hmm, hx, hfl⟩
 ·simp [Value.cells] at hcs
  obtain ⟨rfl, rfl, rfl⟩ := hcs
  exact ⟨none, 0, 0, [], rfl, by unfold maxLen; omega, Reads.none_⟩
 ·simp [Value.cells] at hcs
  obtain ⟨rfl, rfl, rfl⟩ := hcs
  simp only [Prod.mk.injEq] at hx
  obtain ⟨_, rfl⟩ := hx
  simp only [if_true] at hmm
  subst hmm
  obtain ⟨l, hll, hp⟩ := exists_list (p := fun i (x : Int × Int) => W.cell? (a.add (i * 2)) = some (.int .i64 x.1) ∧ W.cell? (a.add (i * 2 + 1)) = some (.int .i64 x.2)) len (fun i hi => by
   obtain ⟨ys, n, _, _, _, hj⟩ := hfl i (by omega)
   obtain ⟨v0, y0, hc0, _, ht0⟩ := hj 0 f0 rfl
   obtain ⟨v1, y1, hc1, _, ht1⟩ := hj 1 f1 rfl
   obtain ⟨z0, e0, _, _⟩ := DataW.trod_int h0 ht0
   obtain ⟨z1, e1, _, _⟩ := DataW.trod_int h1 ht1
   simp at e0 e1
   subst e0 e1
   exact ⟨(z0, z1), hc0, hc1⟩)
  refine ⟨some a, len, m, l, rfl, by omega, ?_, fun hn => ⟨a, rfl, ?_, fun j u hu => ?_⟩⟩
  ·rw [cbs_len, hll]
  ·have hm0 : 0 < m * 2 := by omega
   exact hlt (.cell a.block (a.off + 0)) (List.mem_append.2 (.inl (MemPlace.mem_row.2 ⟨0, hm0, rfl⟩)))
  ·have hjl : j < (cbs l).length := (List.getElem?_eq_some_iff.1 hu).1
   rw [cbs_len] at hjl
   have hj2 : j = j / 2 * 2 + j % 2 := by omega
   have hg := recs_get cbE_len (j % 2) (by omega) l (j / 2)
   rw [← hj2] at hg
   have hx : l[j / 2]? = some (l[j / 2]'(by omega)) := List.getElem?_eq_getElem (by omega)
   have hpp := hp _ _ hx
   rw [show cbs l = recs cbE l from rfl, hg, hx] at hu
   rcases Nat.mod_two_eq_zero_or_one j with hm2 | hm2
   ·rw [hm2] at hu
    simp [cbE] at hu
    rw [hj2, hm2, Nat.add_zero, hpp.1, ← hu]
   ·rw [hm2] at hu
    simp [cbE] at hu
    rw [hj2, hm2, hpp.2, ← hu]
end
end Go.Proofs.Ytbkgjgpoohlieaa

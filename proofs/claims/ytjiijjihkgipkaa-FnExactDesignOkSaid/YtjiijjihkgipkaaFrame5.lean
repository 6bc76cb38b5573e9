/- How a law's arguments read: slices of structs of three numbers; what a slice argument reads as. -/
import Derived.Test.YtjiijjihkgipkaaFdO
import Derived.Test.YtjiijjihkgipkaaOpS
namespace Go.Proofs.Ytjiijjihkgipkaa
open Go.ChangeShapes Go.WideShapes Go.ChangeAt Go.RowKit Go.Deep

theorem rows_ints {m : Nat} {rows : List (List Fd)} (h : ∀ r ∈ rows, r.length = m ∧ ∀ (j : Nat) (g : Fd), r[j]? = some g → ∃ x, g = Fd.int x) : ∃ l : List (List Int), rows = l.map (fun x => x.map Fd.int) ∧ ∀ x ∈ l, x.length = m := by
  induction rows with
  | nil => exact ⟨[], rfl, by simp⟩
  | cons r rows ih =>
    obtain ⟨l, rfl, hl⟩ := ih fun r hr => h r (by simp [hr])
    obtain ⟨h1, h2⟩ := h r (by simp)
    have hx : ∃ x : List Int, r = x.map Fd.int := by
      clear h1 h
      induction r with
      | nil => exact ⟨[], rfl⟩
      | cons g r ih2 =>
        obtain ⟨x, rfl⟩ := h2 0 g rfl
        obtain ⟨xs, rfl⟩ := ih2 fun j g hg => h2 (j + 1) g (by simpa using hg)
        exact ⟨x :: xs, rfl⟩
    obtain ⟨x, rfl⟩ := hx
    refine ⟨x :: l, rfl, fun y hy => ?_⟩
    rcases List.mem_cons.1 hy with rfl | hy
    · simpa using h1
    · exact hl y hy
theorem rows_Op {rows : List (List Fd)} (h : ∀ r ∈ rows, r.length = 3 ∧ ∀ (j : Nat) (g : Fd), r[j]? = some g → ∃ x, g = Fd.int x) : ∃ l : List (Int × Int × Int), Fd.sl rows = frecs eOp l := by
  obtain ⟨l, rfl, hl⟩ := rows_ints h
  clear h
  have : ∃ l' : List (Int × Int × Int), l = l'.map eOp := by
    induction l with
    | nil => exact ⟨[], rfl⟩
    | cons x l ih =>
      obtain ⟨l', rfl⟩ := ih fun y hy => hl y (by simp [hy])
      have hx := hl x (by simp)
      match x, hx with
      | [a, b, c], _ => exact ⟨(a, b, c) :: l', rfl⟩
  obtain ⟨l', rfl⟩ := this
  exact ⟨l', by simp [frecs, frow, List.map_map, Function.comp_def]⟩

section
variable {H : Type} {enc : TypeId × Value → H} {P : Program} {W : World} {held : Bool} {base b0 : Nat}
theorem op_slice {t e : TypeId} {v : Value} {d : DataW H} {p : List MemPlace} {D : Fd → Prop} (hO : OpenF enc P W t D) (ht : P.underlying t = some (.slice e)) (hv : Value.okWide P W .any b0 t v)
    (h : DataW.Trod enc P W base (fun _ => true) held t v d p) (hlt : ∀ x ∈ p, x.block < W.heap.size) : ∃ f, RepB W W.heap.size v f ∧ D f := by
  obtain ⟨a1, len, cap, rfl⟩ := okWide_slice ht hv
  obtain ⟨fuel, hf⟩ := h
  exact hO base held fuel _ _ hf hlt
/-- a slice of structs of three numbers -/
theorem op_ops {t e : TypeId} {f0 f1 f2 : Field} {v : Value} {d : DataW H} {p : List MemPlace} (ht : P.underlying t = some (.slice e)) (he : P.underlying e = some (.struct #[f0, f1, f2])) (hone : oneCellFields P #[f0, f1, f2] = true) (hC : P.cellsOf e = 3)
    (h0 : P.underlying f0.type = some (.int .i64)) (h1 : P.underlying f1.type = some (.int .i64)) (h2 : P.underlying f2.type = some (.int .i64)) (hv : Value.okWide P W .any b0 t v)
    (h : DataW.Trod enc P W base (fun _ => true) held t v d p) (hlt : ∀ x ∈ p, x.block < W.heap.size) : ∃ (A : Option Addr) (n c : Nat) (l : List (Int × Int × Int)), v = .slice A n c ∧ n ≤ maxLen ∧ Reads W W.heap.size 3 A n (recs eOp l) := by
  obtain ⟨f, hrep, rows, rfl, hrows⟩ := op_slice (openF_slS (enc := enc) (W := W) ht he hone hC (by simp) (fun _ f => ∃ x, f = Fd.int x) (fun j f hf => by
    match j, hf with
    | 0, hf => simp at hf; subst hf; exact openF_int h0
    | 1, hf => simp at hf; subst hf; exact openF_int h1
    | 2, hf => simp at hf; subst hf; exact openF_int h2)) ht hv h hlt
  obtain ⟨l, hl⟩ := rows_Op hrows
  obtain ⟨A, c, rfl, hm⟩ := hrep.sl_val
  rw [hl] at hrep
  exact ⟨A, rows.length, c, l, rfl, hm, hrep.to_reads eOp_len (by decide) (fun _ h => h)⟩
end
end Go.Proofs.Ytjiijjihkgipkaa

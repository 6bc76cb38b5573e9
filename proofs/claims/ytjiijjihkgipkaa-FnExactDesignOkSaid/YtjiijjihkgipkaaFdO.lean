/- How a law's arguments read: slices of rows of data, to any depth. -/
import Derived.Test.YtjiijjihkgipkaaFrame4
import Derived.Test.YtjiijjihkgipkaaFd
namespace Go.Proofs.Ytjiijjihkgipkaa
open Go.ChangeShapes Go.WideShapes Go.ChangeAt Go.RowKit Go.Deep

section
variable {H : Type} (enc : TypeId × Value → H) (P : Program) (W : World)
/-- what a cell of type t holds reads as a datum of the kind D -/
def OpenF (t : TypeId) (D : Fd → Prop) : Prop :=
  ∀ (base : Nat) (held : Bool) (fuel : Nat) (v : Value) (x : DataW H × List MemPlace), DataW.trod enc P W base (fun _ => true) held fuel t [v] = some x → (∀ y ∈ x.2, y.block < W.heap.size) → ∃ f, RepB W W.heap.size v f ∧ D f
end

section
variable {H : Type} {enc : TypeId × Value → H} {P : Program} {W : World}
theorem openF_int {t : TypeId} (ht : P.underlying t = some (.int .i64)) : OpenF enc P W t (fun f => ∃ x, f = .int x) := by
  intro base held fuel v x h _
  obtain ⟨a, e0, _, _⟩ := DataW.trod_int ht h
  simp at e0
  subst e0
  exact ⟨.int a, .int a, a, rfl⟩

def rowsOf (L : List (List (Value × Fd))) : List (List Fd) := L.map fun r => r.map Prod.snd
theorem rep_of_rows {a : Addr} {len c size : Nat} {L : List (List (Value × Fd))} (hl : L.length = len) (hm : len ≤ maxLen) (hb : 0 < len → a.block < W.heap.size)
    (hL : ∀ i r, L[i]? = some r → r.length = size ∧ ∀ j p, r[j]? = some p → W.cell? (a.add (i * size + j)) = some p.1 ∧ RepB W W.heap.size p.1 p.2) : RepB W W.heap.size (.slice (some a) len c) (.sl (rowsOf L)) := by
  refine .sl (some a) len c size _ (fun i j => (((L[i]?).getD [])[j]?.map Prod.fst).getD undef) (by rw [rowsOf, List.length_map]; exact hl) hm (fun r hr => ?_) (fun h0 => ⟨a, rfl, hb h0, fun i j hi hj => ?_⟩) (fun i j r f hr hf => ?_)
  · obtain ⟨r', hr', rfl⟩ := List.mem_map.1 hr
    obtain ⟨i, hi⟩ := List.getElem?_of_mem hr'
    rw [List.length_map]
    exact (hL i r' hi).1
  · have hi' : L[i]? = some (L[i]'(by omega)) := List.getElem?_eq_getElem (by omega)
    obtain ⟨hs, hc⟩ := hL i _ hi'
    have hj' : (L[i]'(by omega))[j]? = some ((L[i]'(by omega))[j]'(by omega)) := List.getElem?_eq_getElem (by omega)
    rw [(hc j _ hj').1]
    simp only [hi', Option.getD_some, hj', Option.map_some]
  · rw [rowsOf, List.getElem?_map] at hr
    cases hx : L[i]? with
    | none => rw [hx] at hr; cases hr
    | some r' =>
      rw [hx] at hr
      injection hr with hr
      subst hr
      rw [List.getElem?_map] at hf
      cases hy : r'[j]? with
      | none => rw [hy] at hf; cases hf
      | some p =>
        rw [hy] at hf
        injection hf with hf
        subst hf
        simp only [Option.getD_some, hy, Option.map_some]
        exact ((hL i r' hx).2 j p hy).2

theorem openF_slS {t e : TypeId} {fs : Array Field} (ht : P.underlying t = some (.slice e)) (he : P.underlying e = some (.struct fs)) (hone : oneCellFields P fs = true) (hC : P.cellsOf e = fs.size) (h0 : 0 < fs.size) (D : Nat → Fd → Prop)
    (hF : ∀ j f, fs[j]? = some f → OpenF enc P W f.type (D j)) : OpenF enc P W t (fun f => ∃ rows, f = .sl rows ∧ ∀ r ∈ rows, r.length = fs.size ∧ ∀ j g, r[j]? = some g → D j g) := by
  intro base held fuel v x h hlt
  rcases open_slice_fields ht he hone hC h with ⟨hcs, hx⟩ | ⟨a, len, cap, m, D', Pl, hcs, _, hl, hm, hmm, hx, hfl⟩
  · simp at hcs
    subst hcs
    exact ⟨.sl [], .sl none 0 0 0 [] (fun _ _ => undef) rfl (by unfold maxLen; omega) (by simp) (by simp) (by simp), [], rfl, by simp⟩
  · simp at hcs
    subst hcs
    subst hx
    simp only [if_true] at hmm
    subst hmm
    obtain ⟨L, hLl, hL⟩ := exists_list (p := fun i (r : List (Value × Fd)) => r.length = fs.size ∧ ∀ j p, r[j]? = some p → W.cell? (a.add (i * fs.size + j)) = some p.1 ∧ RepB W W.heap.size p.1 p.2 ∧ D j p.2) len (fun i hi => by
      obtain ⟨ys, n, _, hPl, hys, hj⟩ := hfl i (by omega)
      obtain ⟨r, hrl, hr⟩ := exists_list (p := fun j (p : Value × Fd) => W.cell? (a.add (i * fs.size + j)) = some p.1 ∧ RepB W W.heap.size p.1 p.2 ∧ D j p.2) fs.size (fun j hjs => by
        obtain ⟨v, y, hc, hy, htr⟩ := hj j (fs[j]) (by simp [hjs])
        obtain ⟨f, hrep, hD⟩ := hF j (fs[j]) (by simp [hjs]) base held n v y htr (fun z hz => hlt z (by
          refine List.mem_append.2 (.inr (List.mem_flatMap.2 ⟨i, List.mem_range.2 (by omega), ?_⟩))
          rw [hPl]
          exact List.mem_flatMap.2 ⟨y, List.mem_of_getElem? hy, hz⟩))
        exact ⟨(v, f), hc, hrep, hD⟩)
      exact ⟨r, hrl, hr⟩)
    refine ⟨.sl (rowsOf L), rep_of_rows (size := fs.size) hLl (by omega) (fun hn => ?_) (fun i r hr => ⟨(hL i r hr).1, fun j p hp => ⟨((hL i r hr).2 j p hp).1, ((hL i r hr).2 j p hp).2.1⟩⟩), rowsOf L, rfl, fun r hr => ?_⟩
    · have hm0 : 0 < m * fs.size := Nat.mul_pos (by omega) h0
      exact hlt (.cell a.block (a.off + 0)) (List.mem_append.2 (.inl (MemPlace.mem_row.2 ⟨0, hm0, rfl⟩)))
    · obtain ⟨r', hr', rfl⟩ := List.mem_map.1 hr
      obtain ⟨i, hi⟩ := List.getElem?_of_mem hr'
      obtain ⟨h1, h2⟩ := hL i r' hi
      refine ⟨by rw [List.length_map]; exact h1, fun j g hg => ?_⟩
      rw [List.getElem?_map] at hg
      cases hy : r'[j]? with
      | none => rw [hy] at hg; cases hg
      | some p => rw [hy] at hg; injection hg with hg; subst hg; exact (h2 j p hy).2.2

theorem openF_sl1 {t e : TypeId} (ht : P.underlying t = some (.slice e)) (hC : P.cellsOf e = 1) (D : Fd → Prop) (hF : OpenF enc P W e D) :
    OpenF enc P W t (fun f => ∃ rows, f = .sl rows ∧ ∀ r ∈ rows, ∃ g, r = [g] ∧ D g) := by
  intro base held fuel v x h hlt
  rcases open_slice ht h with ⟨hcs, hx⟩ | ⟨a, len, cap, m, n, D', Pl, hcs, _, hl, hm, hmm, hx, hfl⟩
  · simp at hcs
    subst hcs
    exact ⟨.sl [], .sl none 0 0 0 [] (fun _ _ => undef) rfl (by unfold maxLen; omega) (by simp) (by simp) (by simp), [], rfl, by simp⟩
  · simp at hcs
    subst hcs
    subst hx
    simp only [if_true] at hmm
    subst hmm
    rw [hC] at hlt hfl
    obtain ⟨L, hLl, hL⟩ := exists_list (p := fun i (r : List (Value × Fd)) => ∃ p, r = [p] ∧ W.cell? (a.add (i * 1 + 0)) = some p.1 ∧ RepB W W.heap.size p.1 p.2 ∧ D p.2) len (fun i hi => by
      obtain ⟨cs', hc, htr⟩ := hfl i (by omega)
      obtain ⟨_, hcl, hat⟩ := World.cells?_some hc
      match cs', hcl with
      | [v], _ =>
        have hcell := hat 0 (by omega)
        rw [Go.Deep.add_add] at hcell
        obtain ⟨f, hrep, hD⟩ := hF base held n v _ htr (fun z hz => hlt z (List.mem_append.2 (.inr (List.mem_flatMap.2 ⟨i, List.mem_range.2 (by omega), hz⟩))))
        exact ⟨[(v, f)], (v, f), rfl, hcell, hrep, hD⟩)
    refine ⟨.sl (rowsOf L), rep_of_rows (size := 1) hLl (by omega) (fun hn => ?_) (fun i r hr => ?_), rowsOf L, rfl, fun r hr => ?_⟩
    · exact hlt (.cell a.block (a.off + 0)) (List.mem_append.2 (.inl (MemPlace.mem_row.2 ⟨0, by omega, rfl⟩)))
    · obtain ⟨p, rfl, h1, h2, _⟩ := hL i r hr
      refine ⟨rfl, fun j q hq => ?_⟩
      cases j with
      | zero => simp at hq; subst hq; exact ⟨h1, h2⟩
      | succ j => simp at hq
    · obtain ⟨r', hr', rfl⟩ := List.mem_map.1 hr
      obtain ⟨i, hi⟩ := List.getElem?_of_mem hr'
      obtain ⟨p, rfl, _, _, hD⟩ := hL i r' hi
      exact ⟨p.2, rfl, hD⟩
end
end Go.Proofs.Ytjiijjihkgipkaa

/- Plain: when a net is valid. -/
import Derived.Test.YtlkjdhjeecogjaaNetK
namespace Go.Proofs.Ytlkjdhjeecogjaa

def andG (f : Int) (i : Nat) (x : Int × Int) : Bool := inR x.1 0 (2 * (f + i) - 1) && inR x.2 0 (2 * (f + i) - 1)
def netB (inp : Int) (ss : List Seq3) (ands : List (Int × Int)) (outs : List Int) : Bool :=
 decide (¬ ndc inp ss.length ands.length outs.length = 0) &&
 (ss.all (fun s => seqB s.1 s.2.1 s.2.2.length) &&
 ((rootsL outs ss).all (fun x => inR x 0 (2 * ndc inp ss.length ands.length outs.length - 1)) &&
 ands.zipIdx.all (fun x => andG (1 + inp + ss.length) x.2 x.1)))

theorem all_of_idx {α : Type} {p : α → Bool} {l : List α} (h : ∀ i x, i < l.length → l[i]? = some x → p x = true) : l.all p = true := by
 rw [List.all_eq_true]
 intro x hx
 obtain ⟨i, hi⟩ := List.getElem?_of_mem hx
 exact h i x (List.getElem?_eq_some_iff.1 hi).1 hi
theorem all_no_idx {α : Type} {p : α → Bool} {l : List α} {k : Nat} {x : α} (h : l[k]? = some x) (hx : p x = false) : l.all p = false := by
 rw [Bool.eq_false_iff]
 intro hc
 rw [List.all_eq_true] at hc
 have := hc x (List.mem_of_getElem? h)
 rw [hx] at this
 cases this

theorem netB_no0 {inp : Int} {ss : List Seq3} {ands : List (Int × Int)} {outs : List Int} (h : ndc inp ss.length ands.length outs.length = 0) : netB inp ss ands outs = false := by
 unfold netB
 simp only [h, not_true_eq_false, decide_false, Bool.false_and]
theorem netB_noS {inp : Int} {ss : List Seq3} {ands : List (Int × Int)} {outs : List Int} {k : Nat} {s : Seq3} (h : ss[k]? = some s) (hs : seqB s.1 s.2.1 s.2.2.length = false) : netB inp ss ands outs = false := by
 unfold netB
 rw [all_no_idx (p := fun s : Seq3 => seqB s.1 s.2.1 s.2.2.length) h hs, Bool.false_and, Bool.and_false]
theorem netB_noR {inp : Int} {ss : List Seq3} {ands : List (Int × Int)} {outs : List Int} {k : Nat} {x : Int} (h : (rootsL outs ss)[k]? = some x) (hx : inR x 0 (2 * ndc inp ss.length ands.length outs.length - 1) = false) : netB inp ss ands outs = false := by
 unfold netB
 rw [all_no_idx (p := fun x => inR x 0 (2 * ndc inp ss.length ands.length outs.length - 1)) h hx, Bool.false_and, Bool.and_false, Bool.and_false]
theorem netB_noA {inp : Int} {ss : List Seq3} {ands : List (Int × Int)} {outs : List Int} {k : Nat} {x : Int × Int} (h : ands[k]? = some x) (hx : andG (1 + inp + ss.length) k x = false) : netB inp ss ands outs = false := by
 unfold netB
 have hz : ands.zipIdx[k]? = some (x, k) := by rw [List.getElem?_zipIdx, h]; simp
 rw [all_no_idx (p := fun x : (Int × Int) × Nat => andG (1 + inp + ss.length) x.2 x.1) hz hx, Bool.and_false, Bool.and_false, Bool.and_false]
theorem netB_yes {inp : Int} {ss : List Seq3} {ands : List (Int × Int)} {outs : List Int} (h0 : ¬ ndc inp ss.length ands.length outs.length = 0)
  (h1 : ∀ i s, i < ss.length → ss[i]? = some s → seqB s.1 s.2.1 s.2.2.length = true)
  (h2 : ∀ i x, i < (rootsL outs ss).length → (rootsL outs ss)[i]? = some x → inR x 0 (2 * ndc inp ss.length ands.length outs.length - 1) = true)
  (h3 : ∀ i x, i < ands.length → ands[i]? = some x → andG (1 + inp + ss.length) i x = true) : netB inp ss ands outs = true := by
 unfold netB
 rw [all_of_idx h1, all_of_idx h2, decide_eq_true h0, all_of_idx (l := ands.zipIdx)]
 ·rfl
 ·intro i x hi hx
  rw [List.getElem?_zipIdx] at hx
  cases hA : ands[i]? with
  | none => rw [hA] at hx; simp at hx
  | some y =>
   rw [hA] at hx
   simp only [Option.map_some, Option.some.injEq] at hx
   subst hx
   have := h3 i y (List.getElem?_eq_some_iff.1 hA).1 hA
   simpa using this
end Go.Proofs.Ytlkjdhjeecogjaa

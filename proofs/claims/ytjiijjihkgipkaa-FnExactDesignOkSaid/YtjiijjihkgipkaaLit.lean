/- Words for memory: data that a literal writes. -/
import Derived.Test.YtjiijjihkgipkaaSep
namespace Go.Proofs.Ytjiijjihkgipkaa
open Go.RowKit

section
variable {w : World} {S : Nat → Prop} {g n size : Nat} {t : TypeId} {cs : Array Value}
theorem own_blk (hb : Blk w g t cs) (hm : n ≤ maxLen) (hcs : cs.size = n * size) : w.ownsRow 0 t size (.slice (some ⟨g, 0, none⟩) n n) n cs.toList :=
  ⟨by simpa using hcs, .inr ⟨g, n, cs, rfl, Nat.zero_le _, hb, Nat.le_refl _, hm, hcs, List.take_of_length_le (by rw [Array.length_toList, hcs]; exact Nat.le_refl _)⟩⟩
theorem sep_blk {rows : List (List Fd)} {lo hi : Nat} (hb : Blk w g t cs) (hn : rows.length = n) (hm : n ≤ maxLen) (hcs : cs.size = n * size) (hs : ∀ r ∈ rows, r.length = size) (h : RowsSep w lo hi rows size n cs.toList)
    (hS : S g) (hg : ¬ (lo ≤ g ∧ g < hi)) (hL : ∀ b, lo ≤ b → b < hi → S b) : Sep w S (.slice (some ⟨g, 0, none⟩) n n) (.sl rows) :=
  h.sep hn hm hs (own_blk hb hm hcs) (fun g' hg' => by injection hg' with hg'; subst hg'; exact ⟨hS, hg⟩) hL
/-- .. of structs of numbers -/
theorem sep_flat {α : Type} {enc : α → List Int} (hE : ∀ x, (enc x).length = size) (l : List α) (hb : Blk w g t cs) (hn : l.length = n) (hm : n ≤ maxLen) (hcs : cs.toList = recs enc l) (hS : S g) : Sep w S (.slice (some ⟨g, 0, none⟩) n n) (.sl (l.map (frow enc))) := by
  have hsz : cs.size = n * size := by rw [← Array.length_toList, hcs, recs_len hE, hn]
  refine sep_blk (lo := 0) (hi := 0) (size := size) hb (by rw [List.length_map]; exact hn) hm hsz (fun r hr => ?_) ⟨fun _ _ _ => False, fun _ _ _ h => h.elim, fun _ _ _ _ _ h => h.elim, fun i j r f hi hr hf => ?_⟩ hS (by omega) (fun b h1 h2 => absurd h2 (Nat.not_lt_zero _))
  · obtain ⟨x, _, rfl⟩ := List.mem_map.1 hr
    rw [frow, List.length_map, hE]
  · rw [List.getElem?_map] at hr
    cases hx : l[i]? with
    | none => rw [hx] at hr; cases hr
    | some x =>
      rw [hx] at hr
      injection hr with hr
      subst hr
      rw [frow, List.getElem?_map] at hf
      cases hy : (enc x)[j]? with
      | none => rw [hy] at hf; cases hf
      | some y =>
        rw [hy] at hf
        injection hf with hf
        subst hf
        have hj : j < size := by rw [← hE x]; exact (List.getElem?_eq_some_iff.1 hy).1
        exact ⟨_, by rw [hcs, recs_get hE j hj, hx]; simp only [Option.bind_some, hy, Option.map_some], .int _ y⟩
theorem sep_none (w : World) (S : Nat → Prop) : Sep w S (.slice none 0 0) (.sl []) :=
  .sl S none 0 0 0 0 [] [] (fun _ _ => undef) (fun _ _ _ => False) rfl (Nat.zero_le _) (by simp) (World.ownsRow_nil w 0 0 0) (fun g hg => by simp [Value.ownBlock] at hg) (fun _ _ _ h => h.elim) (fun _ _ _ _ _ h => h.elim) (fun _ _ h => absurd h (Nat.not_lt_zero _)) (fun _ _ _ _ h => by simp at h)
end
end Go.Proofs.Ytjiijjihkgipkaa

/- Plain: the sizes of a run's results. -/
import Derived.Test.YtjkdgedgfkgjdaaTrcA
namespace Go.Proofs.Ytjkdgedgfkgjdaa
open Go.RowKit

theorem nuL_bd {α : Type} {nu : α → Nat} {M : Nat} : ∀ {l : List α}, (∀ x ∈ l, nu x ≤ M) → nuL nu l ≤ M * l.length
 | [], _ => by simp [nuL]
 | x :: l, h => by
  have h1 := h x (List.mem_cons_self ..)
  have h2 := nuL_bd (l := l) (fun y hy => h y (List.mem_cons_of_mem _ hy))
  have e1 : nuL nu (x :: l) = nu x + nuL nu l := by simp [nuL]
  rw [e1, List.length_cons, Nat.mul_add, Nat.mul_one]
  omega
theorem trcL_sz (m : TModule) (ins : List (List Int)) : szL sIntS (trcL m ins) ≤ 1048576 := by
 unfold trcL
 split
 ·rename_i h
  obtain ⟨hf, h16, _⟩ := runB_iff h
  have hn := (okE_na (flat_ok hf).1).1
  have h1 := nuL_bd (nu := sIntS) (M := 30) (l := trcK m ins ins.length) (fun x hx => by
   unfold trcK at hx
   obtain ⟨i, _, rfl⟩ := List.mem_map.1 hx
   unfold sIntS
   rw [szI, nI_len]
   unfold cycV
   rw [sigN_len]
   exact hn)
  unfold szL
  rw [trcK_len] at h1 ⊢
  omega
 ·decide
theorem runL_sz (m : TModule) (ins : List (List Int)) : szL sIntS (runL m ins) ≤ 1048576 := by
 unfold runL
 split
 ·rename_i h
  obtain ⟨hf, h16, _⟩ := runB_iff h
  have hn := (okE_na (flat_ok hf).1).1
  have h1 := nuL_bd (nu := sIntS) (M := 30) (l := runK m ins ins.length) (fun x hx => by
   unfold runK at hx
   obtain ⟨i, _, rfl⟩ := List.mem_map.1 hx
   unfold sIntS
   rw [szI]
   have := outK_len m (cycV m ins i) m.1.length
   unfold outV
   omega)
  unfold szL
  rw [runK_len] at h1 ⊢
  omega
 ·decide
end Go.Proofs.Ytjkdgedgfkgjdaa

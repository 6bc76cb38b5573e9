/- Plain: the size of what has been read. -/
import Derived.Test.YthjdigcpgpiiiaaDoorPsd
import Derived.Outline
namespace Go.Proofs.YthjdigcpgpiiiaaDoor
open Go.RowKit

theorem szL_snoc {α : Type} (nu : α → Nat) (l : List α) (x : α) : szL nu (l ++ [x]) = szL nu l + 1 + nu x := by
 unfold szL nuL
 rw [List.length_append, List.map_append, List.sum_append]
 simp
 omega
theorem rdLnI_sz {m : TModule} {f : List Wd8} (hf : f.length ≤ 40) : sModule (rdLnI m f) ≤ sModule m + 41 := by
 have e : ∀ m : TModule, sModule m = szL sSignal m.1 + szL sAssign m.2.1 + szL sInst m.2.2.1 + szL sMem m.2.2.2 := fun _ => rfl
 have hA : ∀ a : TAssign, sAssign a = szL sOp a.2 := fun _ => rfl
 have hI : ∀ a : TInst, sInst a = szL sInt a.2.2 := fun _ => rfl
 have h0 : ∀ x : TSignal, sSignal x = 0 := fun _ => rfl
 have h3 : ∀ x : TMem, sMem x = 0 := fun _ => rfl
 have hO : ∀ l : List TOp, szL sOp l = l.length := fun l => by rw [szL_eq, nuL_zero sOp (fun _ => rfl)]; omega
 have hN : ∀ l : List Int, szL sInt l = l.length := fun l => by rw [szL_eq, nuL_zero sInt (fun _ => rfl)]; omega
 unfold rdLnI
 simp only [e]
 repeat' split
 all_goals (try simp only [szL_snoc, hA, hI, h0, h3, hO, hN, List.length_map, List.length_drop])
 all_goals omega
theorem rdDI_sz {d : TDesign} {f : List Wd8} (hf : f.length ≤ 40) : sDesign (rdDI d f) ≤ sDesign d + 41 := by
 have e : ∀ d : TDesign, sDesign d = szL sModule d := fun _ => rfl
 unfold rdDI
 rw [e, e]
 split
 ·rw [szL_snoc]
  have : sModule noMod = 0 := rfl
  omega
 ·cases h : d.getLast? with
  | none => exact Nat.le_add_right _ _
  | some m =>
   have hd : d = d.dropLast ++ [m] := by
    obtain ⟨l, rfl⟩ := List.getLast?_eq_some_iff.1 h
    simp
   have h1 := rdLnI_sz (m := m) hf
   show szL sModule (d.dropLast ++ [rdLnI m f]) ≤ _
   rw [szL_snoc]
   have h2 : szL sModule d = szL sModule d.dropLast + 1 + sModule m := by
    conv => lhs; rw [hd]
    rw [szL_snoc]
   omega
theorem rdAllI_sz {fl : List (List Wd8)} (hf : ∀ f ∈ fl, f.length ≤ 40) : ∀ d, sDesign (fl.foldl rdDI d) ≤ sDesign d + 41 * fl.length := by
 induction fl with
 | nil => intro d; simp
 | cons f fl ih =>
  intro d
  have h1 := rdDI_sz (d := d) (hf f (by simp))
  have h2 := ih (fun g hg => hf g (by simp [hg])) (rdDI d f)
  rw [List.foldl_cons, List.length_cons]
  omega
end Go.Proofs.YthjdigcpgpiiiaaDoor

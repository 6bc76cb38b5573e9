/- Plain: a design flattened as a whole; its size. -/
import Derived.Test.YtlgbdpcobbbglaaFlp
import Derived.Test.YtlgbdpcobbbglaaFok
import Derived.Outline
namespace Go.Proofs.Ytlgbdpcobbbglaa
open Go.RowKit

def flatF (f : FlSt) : TModule := (f.1, f.2.1, [], f.2.2)
def flnF (d : TDesign) (param : Int) : Option TModule :=
 if (designB d && inR param 1 4) = true then
  (match addF d d.length (d.length - 1) param [] false ([], [], []) with
  | none => none
  | some f => if flatB (flatF f) = true then some (flatF f) else none)
 else none
def flnM (d : TDesign) (param : Int) : TModule := (flnF d param).getD ([], [], [], [])
def flnO (d : TDesign) (param : Int) : Bool := (flnF d param).isSome
theorem flnF_no1 {d : TDesign} {param : Int} (h : (designB d && inR param 1 4) = false) : flnF d param = none := by unfold flnF; rw [h]; rfl
theorem flnF_no2 {d : TDesign} {param : Int} (h : addF d d.length (d.length - 1) param [] false ([], [], []) = none) : flnF d param = none := by
 unfold flnF
 split
 ·rw [h]
 ·rfl
theorem flnF_no3 {d : TDesign} {param : Int} {f : FlSt} (h : addF d d.length (d.length - 1) param [] false ([], [], []) = some f) (hf : flatB (flatF f) = false) : flnF d param = none := by
 unfold flnF
 split
 ·rw [h]
  show (if flatB (flatF f) = true then _ else none) = none
  rw [if_neg (by rw [hf]; simp)]
 ·rfl
theorem flnF_yes {d : TDesign} {param : Int} {f : FlSt} (h0 : (designB d && inR param 1 4) = true) (h : addF d d.length (d.length - 1) param [] false ([], [], []) = some f) (hf : flatB (flatF f) = true) : flnF d param = some (flatF f) := by
 unfold flnF
 rw [if_pos h0, h]
 exact if_pos hf
theorem foldlM_indm {α β : Type} {f : β → α → Option β} {P : β → Prop} : ∀ (l : List α), (∀ b x b', x ∈ l → P b → f b x = some b' → P b') → ∀ (s : β), P s → ∀ t, l.foldlM f s = some t → P t
 | [], _, s, hs, t, h => by
  simp at h
  rw [← h]
  exact hs
 | x :: l, hf, s, hs, t, h => by
  rw [List.foldlM_cons] at h
  cases h1 : f s x with
  | none => rw [h1] at h; cases h
  | some s' => rw [h1] at h; exact foldlM_indm l (fun b x b' hx => hf b x b' (by simp [hx])) s' (hf s x s' (by simp) hs h1) t h
theorem addF_sz {d : TDesign} (hd : designB d = true) : ∀ (n k : Nat) (param : Int) (ports : List Int) (copied : Bool) (f g : FlSt), k < d.length → FlSz f → addF d n k param ports copied f = some g → FlSz g
 | 0, _, _, _, _, _, _, _, _, h => by cases h
 | n + 1, k, param, ports, copied, f, g, hk, hf, h => by
  have hx : d[k]? = some (d[k]'hk) := List.getElem?_eq_getElem hk
  have MO := md_ok (dsn_modF hd hk) hx
  have hmd := md_get hx
  rw [addF, owF] at h
  rw [hmd] at h
  cases hs : sgsF copied param ports (d[k]'hk).1 f.1 with
  | none => rw [hs] at h; cases h
  | some s =>
   rw [hs] at h
   by_cases hb : owB (d[k]'hk) f s.2.2 = true
   ·simp only [if_pos hb] at h
    refine foldlM_indm (f := fun (g : FlSt) (x : TInst) => addF d n x.1.toNat (wdF param x.2.1) (x.2.2.map fun p => s.1.getD p.toNat 0) true g) (P := FlSz) _ (fun b x b' hx hb' hx' => ?_) _ (owB_sz MO hf hb param s.1) g h
    have h1 := (MO.ins x hx).1
    exact addF_sz hd n _ _ _ _ _ _ (by omega) hb' hx'
   ·simp only [if_neg hb] at h
    cases h
theorem nuL_bd {α : Type} {nu : α → Nat} {N : Nat} : ∀ {l : List α}, (∀ x ∈ l, nu x ≤ N) → nuL nu l ≤ l.length * N
 | [], _ => by simp [nuL]
 | x :: l, h => by
  have h1 := nuL_bd (nu := nu) (l := l) (fun y hy => h y (by simp [hy]))
  have h2 := h x (by simp)
  unfold nuL at h1 ⊢
  rw [List.map_cons, List.sum_cons, List.length_cons, Nat.add_mul]
  omega
theorem flatF_sz {f : FlSt} (h : FlSz f) : sModule (flatF f) ≤ 1048576 := by
 have h0 := h.l0
 have h1 := h.l1
 have h2 := h.l2
 have a0 := nuL_zero (l := f.1) sSignal (fun _ => rfl)
 have a1 := nuL_bd (nu := sAssign) (N := 15) (l := f.2.1) (fun a ha => by
  have h3 := h.ops a ha
  have h4 : sAssign a = szL sOp a.2 := rfl
  rw [h4, szL_eq, nuL_zero sOp (fun _ => rfl)]
  omega)
 have a2 := nuL_zero (l := f.2.2) sMem (fun _ => rfl)
 have a3 : szL sInst ([] : List TInst) = 0 := rfl
 have e : sModule (flatF f) = szL sSignal f.1 + szL sAssign f.2.1 + szL sInst [] + szL sMem f.2.2 := rfl
 rw [e, a3, szL_eq, szL_eq, szL_eq]
 omega
theorem flnM_sz (d : TDesign) (param : Int) : sModule (flnM d param) ≤ 1048576 := by
 unfold flnM flnF
 split
 ·rename_i h
  rw [Bool.and_eq_true] at h
  cases ha : addF d d.length (d.length - 1) param [] false ([], [], []) with
  | none => decide
  | some f =>
   show sModule ((if flatB (flatF f) = true then some (flatF f) else none).getD _) ≤ _
   have hd1 : 1 ≤ d.length := by
    have h1 := h.1
    unfold designB at h1
    rw [Bool.and_eq_true] at h1
    have := inR_iff.1 h1.1
    omega
   have hz := addF_sz h.1 _ _ _ _ _ _ _ (by omega) (show FlSz ([], [], []) from ⟨by simp, by simp, by simp, fun _ h => by simp at h⟩) ha
   split
   ·exact flatF_sz hz
   ·decide
 ·decide
theorem dsn_one {d : TDesign} (h : designB d = true) : 1 ≤ d.length ∧ d.length ≤ 4 := by
 unfold designB at h
 rw [Bool.and_eq_true] at h
 have := inR_iff.1 h.1
 omega
end Go.Proofs.Ytlgbdpcobbbglaa

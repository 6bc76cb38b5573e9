/- Plain: what the reading of a text returns; sizes; the reference's fold over the lines. -/
import Derived.Test.YthjdigcpgpiiiaaDoorPse
import Derived.Outline
namespace Go.Proofs.YthjdigcpgpiiiaaDoor
open Go.RowKit

def fldW (fs : Fls) : List (List Wd8) := fs.map fun f => f.map byt
theorem fldW_app (a b : Fls) : fldW (a ++ b) = fldW a ++ fldW b := by simp [fldW]
theorem fld_wOk {f : ByteArray} (h : fldOk f) : wOk (byt f) = true := by
 obtain ⟨h0, _, h2⟩ := h
 unfold wOk
 rw [Bool.and_eq_true, List.all_eq_true]
 refine ⟨?_, fun c hc => decide_eq_true ?_⟩
 ·have h1 : (byt f).length = f.size := rfl
  match hb : byt f, h1 with
  | [], h1 => simp at h1; omega
  | a :: l, _ => rfl
 ·obtain ⟨h3, h4⟩ := h2 c hc
  have h5 : c.toNat ≠ 32 := fun h => h3 (UInt8.toNat_inj.1 h)
  simp [okC] at h4
  omega
theorem fldW_ok {fs : Fls} (h : FlG fs) : FlOk (fldW fs) := by
 intro f hf
 obtain ⟨g, hg, rfl⟩ := List.mem_map.1 hf
 obtain ⟨h1, _, h3⟩ := h g hg
 refine ⟨fun e => h1 (List.map_eq_nil_iff.1 e), fun x hx => ?_⟩
 obtain ⟨y, hy, rfl⟩ := List.mem_map.1 hx
 exact fld_wOk (h3 y hy)
theorem fldW_40 {fs : Fls} (h : FlG fs) : ∀ f ∈ fldW fs, f.length ≤ 40 := by
 intro f hf
 obtain ⟨g, hg, rfl⟩ := List.mem_map.1 hf
 rw [List.length_map]
 exact (h g hg).2.1
theorem fldW_len (fs : Fls) : (fldW fs).length = fs.length := by simp [fldW]
/-- what ParseDesign returns -/
def pdO (s : ByteArray) : Option TDesign := if s.size ≤ 20000 then (flsF (tlR s)).bind fun fs => parsI (fldW fs) else none
def pdD (s : ByteArray) : TDesign := (pdO s).getD []
def pdB (s : ByteArray) : Bool := (pdO s).isSome
theorem pdO_long {s : ByteArray} (h : ¬ s.size ≤ 20000) : pdO s = none := if_neg h
theorem pdO_none {s : ByteArray} (h : flsF (tlR s) = none) : pdO s = none := by
 unfold pdO
 rw [h]
 split <;> rfl
theorem pdO_some {s : ByteArray} {fs : Fls} (hs : s.size ≤ 20000) (h : flsF (tlR s) = some fs) : pdO s = parsI (fldW fs) := by
 unfold pdO
 rw [if_pos hs, h]
 rfl
theorem flsF_ok {s : ByteArray} {fs : Fls} (hs : s.size ≤ 20000) (h : flsF (tlR s) = some fs) : FlG fs ∧ fs.length ≤ 20001 := by
 have h1 := fls_ok (tlR s) [] fs (fun f hf => by simp at hf) h
 have h2 := tlR_len s
 exact ⟨h1.1, by have := h1.2; simp at this; omega⟩
theorem pd_sz (s : ByteArray) : sDesign (pdD s) ≤ 1048576 := by
 unfold pdD
 by_cases hs : s.size ≤ 20000
 ·cases h : flsF (tlR s) with
  | none => rw [pdO_none h]; exact Nat.zero_le _
  | some fs =>
   rw [pdO_some hs h]
   obtain ⟨h1, h2⟩ := flsF_ok hs h
   have h3 := rdAllI_sz (fldW_40 h1) []
   rw [fldW_len] at h3
   have h4 : sDesign [] = 0 := rfl
   unfold parsI
   split
   ·show sDesign (rdAllI (fldW fs)) ≤ _
    unfold rdAllI
    omega
   ·exact Nat.zero_le _
 ·rw [pdO_long hs]; exact Nat.zero_le _
/-- the reference's step -/
def stpS (x : Fls × RdSt) (l : ByteArray) : Option (Fls × RdSt) :=
 if (spR l).2 = true then (if (spR l).1 = [] then some x else (stS x.2 ((spR l).1.map byt)).map fun t => (x.1 ++ [(spR l).1], t)) else none
theorem fls_more : ∀ (ls : List ByteArray) (a fs : Fls), ls.foldlM flsS a = some fs → ∃ t, fs = a ++ t
 | [], a, fs, h => by
  simp at h
  exact ⟨[], by rw [h, List.append_nil]⟩
 | l :: ls, a, fs, h => by
  rw [List.foldlM_cons] at h
  unfold flsS at h
  by_cases h2 : (spR l).2 = true
  ·rw [if_pos h2] at h
   by_cases h3 : (spR l).1 = []
   ·rw [if_pos h3] at h
    exact fls_more ls a fs h
   ·rw [if_neg h3] at h
    obtain ⟨t, ht⟩ := fls_more ls _ fs h
    exact ⟨[(spR l).1] ++ t, by rw [ht, List.append_assoc]⟩
  ·rw [if_neg h2] at h
   cases h
theorem rdAllS_one (s : RdSt) (f : List Wd8) : rdAllS s [f] = stS s f := by
 simp only [rdAllS]
 cases stS s f <;> rfl
theorem stp_some : ∀ (ls : List ByteArray) (a fs : Fls) (s t : RdSt), ls.foldlM stpS (a, s) = some (fs, t) → ls.foldlM flsS a = some fs ∧ ∀ s0, rdAllS s0 (fldW a) = some s → rdAllS s0 (fldW fs) = some t
 | [], a, fs, s, t, h => by
  simp at h
  obtain ⟨rfl, rfl⟩ := h
  exact ⟨by simp, fun s0 h => h⟩
 | l :: ls, a, fs, s, t, h => by
  rw [List.foldlM_cons] at h ⊢
  unfold stpS at h
  unfold flsS
  by_cases h2 : (spR l).2 = true
  ·rw [if_pos h2] at h ⊢
   by_cases h3 : (spR l).1 = []
   ·rw [if_pos h3] at h ⊢
    exact stp_some ls a fs s t h
   ·rw [if_neg h3] at h ⊢
    cases h4 : stS s ((spR l).1.map byt) with
    | none => rw [h4] at h; cases h
    | some s1 =>
     rw [h4] at h
     obtain ⟨h5, h6⟩ := stp_some ls (a ++ [(spR l).1]) fs s1 t h
     refine ⟨h5, fun s0 h7 => h6 s0 ?_⟩
     rw [fldW_app, rdAllS_app, h7, Option.bind_some]
     exact (rdAllS_one _ _).trans h4
  ·rw [if_neg h2] at h
   cases h
theorem stp_none : ∀ (ls : List ByteArray) (a : Fls) (s : RdSt), ls.foldlM stpS (a, s) = none → ∀ fs, ls.foldlM flsS a = some fs → ∀ s0, rdAllS s0 (fldW a) = some s → rdAllS s0 (fldW fs) = none
 | [], a, s, h => by simp at h
 | l :: ls, a, s, h => by
  rw [List.foldlM_cons] at h
  unfold stpS at h
  intro fs hfs
  rw [List.foldlM_cons] at hfs
  unfold flsS at hfs
  by_cases h2 : (spR l).2 = true
  ·rw [if_pos h2] at h hfs
   by_cases h3 : (spR l).1 = []
   ·rw [if_pos h3] at h hfs
    exact stp_none ls a s h fs hfs
   ·rw [if_neg h3] at h hfs
    cases h4 : stS s ((spR l).1.map byt) with
    | none =>
     intro s0 h7
     obtain ⟨t, ht⟩ := fls_more _ _ _ hfs
     have h5 : rdAllS s0 (fldW (a ++ [(spR l).1])) = none := by
      rw [fldW_app, rdAllS_app, h7, Option.bind_some]
      exact (rdAllS_one _ _).trans h4
     rw [ht, fldW_app, rdAllS_app, h5]
     rfl
    | some s1 =>
     rw [h4] at h
     intro s0 h7
     refine stp_none ls _ s1 h fs hfs s0 ?_
     rw [fldW_app, rdAllS_app, h7, Option.bind_some]
     exact (rdAllS_one _ _).trans h4
  ·rw [if_neg h2] at hfs
   cases hfs
abbrev st0S : RdSt := ([], noMod, false)
def foldS0 (ls : List ByteArray) : Option (Fls × RdSt) := ls.foldlM stpS ([], st0S)
/-- the reference's fold fails: nothing is found -/
theorem pdO_foldN {s : ByteArray} (h : foldS0 (tlR s) = none) : pdO s = none := by
 by_cases hs : s.size ≤ 20000
 ·cases hf : flsF (tlR s) with
  | none => exact pdO_none hf
  | some fs =>
   rw [pdO_some hs hf, ← pars_eq (fldW_ok (flsF_ok hs hf).1)]
   have h1 := stp_none _ _ _ h fs hf st0S rfl
   unfold parsS
   rw [h1]
 ·exact pdO_long hs
theorem pdO_foldY {s : ByteArray} {fs : Fls} {t : RdSt} (hs : s.size ≤ 20000) (h : foldS0 (tlR s) = some (fs, t)) : pdO s = if t.2.2 = false ∧ designB t.1 = true ∧ linesD t.1 = (fldW fs).map joinW then some t.1 else none := by
 obtain ⟨h1, h2⟩ := stp_some _ _ _ _ _ h
 have h3 := h2 st0S rfl
 rw [pdO_some hs h1, ← pars_eq (fldW_ok (flsF_ok hs h1).1)]
 unfold parsS
 rw [h3]
/-- size of what the reference has read -/
def muS (s : RdSt) : Nat := sDesign s.1 + if s.2.2 = true then 1 + sModule s.2.1 else 0
theorem rdLnS_sz {m m' : TModule} {f : List Wd8} (hf : f.length ≤ 40) (h : rdLnS m f = some m') : sModule m' ≤ sModule m + 41 := by
 have e : ∀ m : TModule, sModule m = szL sSignal m.1 + szL sAssign m.2.1 + szL sInst m.2.2.1 + szL sMem m.2.2.2 := fun _ => rfl
 have hA : ∀ a : TAssign, sAssign a = szL sOp a.2 := fun _ => rfl
 have hI : ∀ a : TInst, sInst a = szL sInt a.2.2 := fun _ => rfl
 have h0 : ∀ x : TSignal, sSignal x = 0 := fun _ => rfl
 have h3 : ∀ x : TMem, sMem x = 0 := fun _ => rfl
 have hO : ∀ l : List TOp, szL sOp l = l.length := fun l => by rw [szL_eq, nuL_zero sOp (fun _ => rfl)]; omega
 have hN : ∀ l : List Int, szL sInt l = l.length := fun l => by rw [szL_eq, nuL_zero sInt (fun _ => rfl)]; omega
 unfold rdLnS at h
 repeat' split at h
 all_goals first | cases h | skip
 all_goals simp only [e]
 all_goals (try simp only [szL_snoc, hA, hI, h0, h3, hO, hN, List.length_map, List.length_drop])
 all_goals omega
theorem stS_mu {s t : RdSt} {f : List Wd8} (hf : f.length ≤ 40) (h : stS s f = some t) : muS t ≤ muS s + 42 := by
 have e : ∀ d : TDesign, sDesign d = szL sModule d := fun _ => rfl
 have h0 : sModule noMod = 0 := rfl
 unfold stS at h
 unfold muS
 split at h
 ·rename_i h1
  injection h with h
  subst h
  simp [h1.2, h0]
 ·split at h
  ·rename_i h1
   injection h with h
   subst h
   simp only [e, szL_snoc, h1.2]
   simp
   omega
  ·split at h
   ·rename_i h1
    cases h2 : rdLnS s.2.1 f with
    | none => rw [h2] at h; cases h
    | some m' =>
     rw [h2] at h
     injection h with h
     subst h
     have := rdLnS_sz hf h2
     simp [h1]
     omega
   ·cases h
theorem rdAllS_mu : ∀ {fl : List (List Wd8)} {s t : RdSt}, (∀ f ∈ fl, f.length ≤ 40) → rdAllS s fl = some t → muS t ≤ muS s + 42 * fl.length
 | [], s, t, _, h => by injection h with h; subst h; simp
 | f :: fl, s, t, hf, h => by
  simp only [rdAllS] at h
  cases h1 : stS s f with
  | none => rw [h1] at h; cases h
  | some u =>
   rw [h1] at h
   have h2 := stS_mu (hf f (by simp)) h1
   have h3 := rdAllS_mu (fun g hg => hf g (by simp [hg])) h
   rw [List.length_cons]
   omega
theorem foldS_mu {ls : List ByteArray} {fs : Fls} {t : RdSt} (hl : ls.length ≤ 20001) (h : foldS0 ls = some (fs, t)) : muS t ≤ 840042 ∧ FlG fs ∧ fs.length ≤ ls.length := by
 obtain ⟨h1, h2⟩ := stp_some _ _ _ _ _ h
 have h3 := h2 st0S rfl
 have h4 := fls_ok ls [] fs (fun f hf => by simp at hf) h1
 have h5 := rdAllS_mu (fldW_40 h4.1) h3
 rw [fldW_len] at h5
 have h6 := h4.2
 have h7 : muS st0S = 0 := rfl
 simp at h6
 exact ⟨by omega, h4.1, h6⟩
theorem mod_lens (m : TModule) : m.1.length ≤ sModule m ∧ m.2.1.length ≤ sModule m ∧ m.2.2.1.length ≤ sModule m ∧ m.2.2.2.length ≤ sModule m := by
 have e : sModule m = szL sSignal m.1 + szL sAssign m.2.1 + szL sInst m.2.2.1 + szL sMem m.2.2.2 := rfl
 have e0 := szL_eq sSignal m.1
 have e1 := szL_eq sAssign m.2.1
 have e2 := szL_eq sInst m.2.2.1
 have e3 := szL_eq sMem m.2.2.2
 omega
theorem dsn_last (d : TDesign) (m : TModule) : sModule m + (d.length + 1) ≤ sDesign (d ++ [m]) := by
 have e : sDesign (d ++ [m]) = szL sModule (d ++ [m]) := rfl
 have e1 := szL_eq sModule d
 rw [e, szL_snoc]
 omega
end Go.Proofs.YthjdigcpgpiiiaaDoor

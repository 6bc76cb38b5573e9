/- Words and contracts that later texts use. -/
import Derived.Test.YthjdigcpgpiiiaaDoorPsd
import Derived.Outline
/- Plain: the size of what has been read. -/
namespace Go.Proofs.YthjdigcpgpiiiaaDoor
open Go.RowKit

theorem szL_snoc {α : Type} (nu : α → Nat) (l : List α) (x : α) : szL nu (l ++ [x]) = szL nu l + 1 + nu x := by
 unfold szL nuL
 rw [List.length_append, List.map_append, List.sum_append]
 simp
 omega
theorem rdLnI_sz {m : TModule} {f : List Wd8} (hf : f.length ≤ 40) : sModule (rdLnI m f) ≤ sModule m + 41 := by
 have e : ∀ m : TModule, sModule m = szL sSignal m.1 + szL sAssign m.2.1 + szL sInst m.2.2.1 + szL sMem m.2.2.2 := fun _ => rfl
 have hA : ∀ a : TAssign, sAssign a = szL sOp a.2 := fun _ => rfl
 have hI : ∀ a : TInst, sInst a = szL sInt a.2.2 := fun _ => rfl
 have h0 : ∀ x : TSignal, sSignal x = 0 := fun _ => rfl
 have h3 : ∀ x : TMem, sMem x = 0 := fun _ => rfl
 have hO : ∀ l : List TOp, szL sOp l = l.length := fun l => by rw [szL_eq, nuL_zero sOp (fun _ => rfl)]; omega
 have hN : ∀ l : List Int, szL sInt l = l.length := fun l => by rw [szL_eq, nuL_zero sInt (fun _ => rfl)]; omega
 unfold rdLnI
 simp only [e]
 repeat' split
 all_goals (try simp only [szL_snoc, hA, hI, h0, h3, hO, hN, List.length_map, List.length_drop])
 all_goals omega
theorem rdDI_sz {d : TDesign} {f : List Wd8} (hf : f.length ≤ 40) : sDesign (rdDI d f) ≤ sDesign d + 41 := by
 have e : ∀ d : TDesign, sDesign d = szL sModule d := fun _ => rfl
 unfold rdDI
 rw [e, e]
 split
 ·rw [szL_snoc]
  have : sModule noMod = 0 := rfl
  omega
 ·cases h : d.getLast? with
  | none => exact Nat.le_add_right _ _
  | some m =>
   have hd : d = d.dropLast ++ [m] := by
    obtain ⟨l, rfl⟩ := List.getLast?_eq_some_iff.1 h
    simp
   have h1 := rdLnI_sz (m := m) hf
   show szL sModule (d.dropLast ++ [rdLnI m f]) ≤ _
   rw [szL_snoc]
   have h2 : szL sModule d = szL sModule d.dropLast + 1 + sModule m := by
    conv => lhs; rw [hd]
    rw [szL_snoc]
   omega
theorem rdAllI_sz {fl : List (List Wd8)} (hf : ∀ f ∈ fl, f.length ≤ 40) : ∀ d, sDesign (fl.foldl rdDI d) ≤ sDesign d + 41 * fl.length := by
 induction fl with
 | nil => intro d; simp
 | cons f fl ih =>
  intro d
  have h1 := rdDI_sz (d := d) (hf f (by simp))
  have h2 := ih (fun g hg => hf g (by simp [hg])) (rdDI d f)
  rw [List.foldl_cons, List.length_cons]
  omega
end Go.Proofs.YthjdigcpgpiiiaaDoor

/- Plain: what the reading of a text returns; sizes; the reference's fold over the lines. -/
namespace Go.Proofs.YthjdigcpgpiiiaaDoor
open Go.RowKit

def fldW (fs : Fls) : List (List Wd8) := fs.map fun f => f.map byt
theorem fldW_app (a b : Fls) : fldW (a ++ b) = fldW a ++ fldW b := by simp [fldW]
theorem fld_wOk {f : ByteArray} (h : fldOk f) : wOk (byt f) = true := by
 obtain ⟨h0, _, h2⟩ := h
 unfold wOk
 rw [Bool.and_eq_true, List.all_eq_true]
 refine ⟨?_, fun c hc => decide_eq_true ?_⟩
 ·have h1 : (byt f).length = f.size := rfl
  match hb : byt f, h1 with
  | [], h1 => simp at h1; omega
  | a :: l, _ => rfl
 ·obtain ⟨h3, h4⟩ := h2 c hc
  have h5 : c.toNat ≠ 32 := fun h => h3 (UInt8.toNat_inj.1 h)
  simp [okC] at h4
  omega
theorem fldW_ok {fs : Fls} (h : FlG fs) : FlOk (fldW fs) := by
 intro f hf
 obtain ⟨g, hg, rfl⟩ := List.mem_map.1 hf
 obtain ⟨h1, _, h3⟩ := h g hg
 refine ⟨fun e => h1 (List.map_eq_nil_iff.1 e), fun x hx => ?_⟩
 obtain ⟨y, hy, rfl⟩ := List.mem_map.1 hx
 exact fld_wOk (h3 y hy)
theorem fldW_40 {fs : Fls} (h : FlG fs) : ∀ f ∈ fldW fs, f.length ≤ 40 := by
 intro f hf
 obtain ⟨g, hg, rfl⟩ := List.mem_map.1 hf
 rw [List.length_map]
 exact (h g hg).2.1
theorem fldW_len (fs : Fls) : (fldW fs).length = fs.length := by simp [fldW]
/-- what ParseDesign returns -/
def pdO (s : ByteArray) : Option TDesign := if s.size ≤ 20000 then (flsF (tlR s)).bind fun fs => parsI (fldW fs) else none
def pdD (s : ByteArray) : TDesign := (pdO s).getD []
def pdB (s : ByteArray) : Bool := (pdO s).isSome
theorem pdO_long {s : ByteArray} (h : ¬ s.size ≤ 20000) : pdO s = none := if_neg h
theorem pdO_none {s : ByteArray} (h : flsF (tlR s) = none) : pdO s = none := by
 unfold pdO
 rw [h]
 split <;> rfl
theorem pdO_some {s : ByteArray} {fs : Fls} (hs : s.size ≤ 20000) (h : flsF (tlR s) = some fs) : pdO s = parsI (fldW fs) := by
 unfold pdO
 rw [if_pos hs, h]
 rfl
theorem flsF_ok {s : ByteArray} {fs : Fls} (hs : s.size ≤ 20000) (h : flsF (tlR s) = some fs) : FlG fs ∧ fs.length ≤ 20001 := by
 have h1 := fls_ok (tlR s) [] fs (fun f hf => by simp at hf) h
 have h2 := tlR_len s
 exact ⟨h1.1, by have := h1.2; simp at this; omega⟩
theorem pd_sz (s : ByteArray) : sDesign (pdD s) ≤ 1048576 := by
 unfold pdD
 by_cases hs : s.size ≤ 20000
 ·cases h : flsF (tlR s) with
  | none => rw [pdO_none h]; exact Nat.zero_le _
  | some fs =>
   rw [pdO_some hs h]
   obtain ⟨h1, h2⟩ := flsF_ok hs h
   have h3 := rdAllI_sz (fldW_40 h1) []
   rw [fldW_len] at h3
   have h4 : sDesign [] = 0 := rfl
   unfold parsI
   split
   ·show sDesign (rdAllI (fldW fs)) ≤ _
    unfold rdAllI
    omega
   ·exact Nat.zero_le _
 ·rw [pdO_long hs]; exact Nat.zero_le _
/-- the reference's step -/
def stpS (x : Fls × RdSt) (l : ByteArray) : Option (Fls × RdSt) :=
 if (spR l).2 = true then (if (spR l).1 = [] then some x else (stS x.2 ((spR l).1.map byt)).map fun t => (x.1 ++ [(spR l).1], t)) else none
theorem fls_more : ∀ (ls : List ByteArray) (a fs : Fls), ls.foldlM flsS a = some fs → ∃ t, fs = a ++ t
 | [], a, fs, h => by
  simp at h
  exact ⟨[], by rw [h, List.append_nil]⟩
 | l :: ls, a, fs, h => by
  rw [List.foldlM_cons] at h
  unfold flsS at h
  by_cases h2 : (spR l).2 = true
  ·rw [if_pos h2] at h
   by_cases h3 : (spR l).1 = []
   ·rw [if_pos h3] at h
    exact fls_more ls a fs h
   ·rw [if_neg h3] at h
    obtain ⟨t, ht⟩ := fls_more ls _ fs h
    exact ⟨[(spR l).1] ++ t, by rw [ht, List.append_assoc]⟩
  ·rw [if_neg h2] at h
   cases h
theorem rdAllS_one (s : RdSt) (f : List Wd8) : rdAllS s [f] = stS s f := by
 simp only [rdAllS]
 cases stS s f <;> rfl
theorem stp_some : ∀ (ls : List ByteArray) (a fs : Fls) (s t : RdSt), ls.foldlM stpS (a, s) = some (fs, t) → ls.foldlM flsS a = some fs ∧ ∀ s0, rdAllS s0 (fldW a) = some s → rdAllS s0 (fldW fs) = some t
 | [], a, fs, s, t, h => by
  simp at h
  obtain ⟨rfl, rfl⟩ := h
  exact ⟨by simp, fun s0 h => h⟩
 | l :: ls, a, fs, s, t, h => by
  rw [List.foldlM_cons] at h ⊢
  unfold stpS at h
  unfold flsS
  by_cases h2 : (spR l).2 = true
  ·rw [if_pos h2] at h ⊢
   by_cases h3 : (spR l).1 = []
   ·rw [if_pos h3] at h ⊢
    exact stp_some ls a fs s t h
   ·rw [if_neg h3] at h ⊢
    cases h4 : stS s ((spR l).1.map byt) with
    | none => rw [h4] at h; cases h
    | some s1 =>
     rw [h4] at h
     obtain ⟨h5, h6⟩ := stp_some ls (a ++ [(spR l).1]) fs s1 t h
     refine ⟨h5, fun s0 h7 => h6 s0 ?_⟩
     rw [fldW_app, rdAllS_app, h7, Option.bind_some]
     exact (rdAllS_one _ _).trans h4
  ·rw [if_neg h2] at h
   cases h
theorem stp_none : ∀ (ls : List ByteArray) (a : Fls) (s : RdSt), ls.foldlM stpS (a, s) = none → ∀ fs, ls.foldlM flsS a = some fs → ∀ s0, rdAllS s0 (fldW a) = some s → rdAllS s0 (fldW fs) = none
 | [], a, s, h => by simp at h
 | l :: ls, a, s, h => by
  rw [List.foldlM_cons] at h
  unfold stpS at h
  intro fs hfs
  rw [List.foldlM_cons] at hfs
  unfold flsS at hfs
  by_cases h2 : (spR l).2 = true
  ·rw [if_pos h2] at h hfs
   by_cases h3 : (spR l).1 = []
   ·rw [if_pos h3] at h hfs
    exact stp_none ls a s h fs hfs
   ·rw [if_neg h3] at h hfs
    cases h4 : stS s ((spR l).1.map byt) with
    | none =>
     intro s0 h7
     obtain ⟨t, ht⟩ := fls_more _ _ _ hfs
     have h5 : rdAllS s0 (fldW (a ++ [(spR l).1])) = none := by
      rw [fldW_app, rdAllS_app, h7, Option.bind_some]
      exact (rdAllS_one _ _).trans h4
     rw [ht, fldW_app, rdAllS_app, h5]
     rfl
    | some s1 =>
     rw [h4] at h
     intro s0 h7
     refine stp_none ls _ s1 h fs hfs s0 ?_
     rw [fldW_app, rdAllS_app, h7, Option.bind_some]
     exact (rdAllS_one _ _).trans h4
  ·rw [if_neg h2] at hfs
   cases hfs
abbrev st0S : RdSt := ([], noMod, false)
def foldS0 (ls : List ByteArray) : Option (Fls × RdSt) := ls.foldlM stpS ([], st0S)
/-- the reference's fold fails: nothing is found -/
theorem pdO_foldN {s : ByteArray} (h : foldS0 (tlR s) = none) : pdO s = none := by
 by_cases hs : s.size ≤ 20000
 ·cases hf : flsF (tlR s) with
  | none => exact pdO_none hf
  | some fs =>
   rw [pdO_some hs hf, ← pars_eq (fldW_ok (flsF_ok hs hf).1)]
   have h1 := stp_none _ _ _ h fs hf st0S rfl
   unfold parsS
   rw [h1]
 ·exact pdO_long hs
theorem pdO_foldY {s : ByteArray} {fs : Fls} {t : RdSt} (hs : s.size ≤ 20000) (h : foldS0 (tlR s) = some (fs, t)) : pdO s = if t.2.2 = false ∧ designB t.1 = true ∧ linesD t.1 = (fldW fs).map joinW then some t.1 else none := by
 obtain ⟨h1, h2⟩ := stp_some _ _ _ _ _ h
 have h3 := h2 st0S rfl
 rw [pdO_some hs h1, ← pars_eq (fldW_ok (flsF_ok hs h1).1)]
 unfold parsS
 rw [h3]
/-- size of what the reference has read -/
def muS (s : RdSt) : Nat := sDesign s.1 + if s.2.2 = true then 1 + sModule s.2.1 else 0
theorem rdLnS_sz {m m' : TModule} {f : List Wd8} (hf : f.length ≤ 40) (h : rdLnS m f = some m') : sModule m' ≤ sModule m + 41 := by
 have e : ∀ m : TModule, sModule m = szL sSignal m.1 + szL sAssign m.2.1 + szL sInst m.2.2.1 + szL sMem m.2.2.2 := fun _ => rfl
 have hA : ∀ a : TAssign, sAssign a = szL sOp a.2 := fun _ => rfl
 have hI : ∀ a : TInst, sInst a = szL sInt a.2.2 := fun _ => rfl
 have h0 : ∀ x : TSignal, sSignal x = 0 := fun _ => rfl
 have h3 : ∀ x : TMem, sMem x = 0 := fun _ => rfl
 have hO : ∀ l : List TOp, szL sOp l = l.length := fun l => by rw [szL_eq, nuL_zero sOp (fun _ => rfl)]; omega
 have hN : ∀ l : List Int, szL sInt l = l.length := fun l => by rw [szL_eq, nuL_zero sInt (fun _ => rfl)]; omega
 unfold rdLnS at h
 repeat' split at h
 all_goals first | cases h | skip
 all_goals simp only [e]
 all_goals (try simp only [szL_snoc, hA, hI, h0, h3, hO, hN, List.length_map, List.length_drop])
 all_goals omega
theorem stS_mu {s t : RdSt} {f : List Wd8} (hf : f.length ≤ 40) (h : stS s f = some t) : muS t ≤ muS s + 42 := by
 have e : ∀ d : TDesign, sDesign d = szL sModule d := fun _ => rfl
 have h0 : sModule noMod = 0 := rfl
 unfold stS at h
 unfold muS
 split at h
 ·rename_i h1
  injection h with h
  subst h
  simp [h1.2, h0]
 ·split at h
  ·rename_i h1
   injection h with h
   subst h
   simp only [e, szL_snoc, h1.2]
   simp
   omega
  ·split at h
   ·rename_i h1
    cases h2 : rdLnS s.2.1 f with
    | none => rw [h2] at h; cases h
    | some m' =>
     rw [h2] at h
     injection h with h
     subst h
     have := rdLnS_sz hf h2
     simp [h1]
     omega
   ·cases h
theorem rdAllS_mu : ∀ {fl : List (List Wd8)} {s t : RdSt}, (∀ f ∈ fl, f.length ≤ 40) → rdAllS s fl = some t → muS t ≤ muS s + 42 * fl.length
 | [], s, t, _, h => by injection h with h; subst h; simp
 | f :: fl, s, t, hf, h => by
  simp only [rdAllS] at h
  cases h1 : stS s f with
  | none => rw [h1] at h; cases h
  | some u =>
   rw [h1] at h
   have h2 := stS_mu (hf f (by simp)) h1
   have h3 := rdAllS_mu (fun g hg => hf g (by simp [hg])) h
   rw [List.length_cons]
   omega
theorem foldS_mu {ls : List ByteArray} {fs : Fls} {t : RdSt} (hl : ls.length ≤ 20001) (h : foldS0 ls = some (fs, t)) : muS t ≤ 840042 ∧ FlG fs ∧ fs.length ≤ ls.length := by
 obtain ⟨h1, h2⟩ := stp_some _ _ _ _ _ h
 have h3 := h2 st0S rfl
 have h4 := fls_ok ls [] fs (fun f hf => by simp at hf) h1
 have h5 := rdAllS_mu (fldW_40 h4.1) h3
 rw [fldW_len] at h5
 have h6 := h4.2
 have h7 : muS st0S = 0 := rfl
 simp at h6
 exact ⟨by omega, h4.1, h6⟩
theorem mod_lens (m : TModule) : m.1.length ≤ sModule m ∧ m.2.1.length ≤ sModule m ∧ m.2.2.1.length ≤ sModule m ∧ m.2.2.2.length ≤ sModule m := by
 have e : sModule m = szL sSignal m.1 + szL sAssign m.2.1 + szL sInst m.2.2.1 + szL sMem m.2.2.2 := rfl
 have e0 := szL_eq sSignal m.1
 have e1 := szL_eq sAssign m.2.1
 have e2 := szL_eq sInst m.2.2.1
 have e3 := szL_eq sMem m.2.2.2
 omega
theorem dsn_last (d : TDesign) (m : TModule) : sModule m + (d.length + 1) ≤ sDesign (d ++ [m]) := by
 have e : sDesign (d ++ [m]) = szL sModule (d ++ [m]) := rfl
 have e1 := szL_eq sModule d
 rw [e, szL_snoc]
 omega
end Go.Proofs.YthjdigcpgpiiiaaDoor

/- Words for a text's reading: the modules that are closed, and the open one. -/
namespace Go.Proofs.YthjdigcpgpiiiaaDoor
open Go.RowKit

/-- types of a module's rows -/
def clT : List TypeId := [66, 71, 73, 78, 3, 80]
def OfC (w : World) (b : Nat) : Prop := ∃ t, t ∈ clT ∧ OfT w t b
def ClB (w : World) (lo0 lo : Nat) (b : Nat) : Prop := (lo0 ≤ b ∧ b < lo) ∧ OfC w b
section
variable {w w' : World} {lo0 lo n : Nat} {v0 v1 v2 v3 ov ov' : Value} {m : TModule} {D : TDesign} {xs : List Value} {C : Nat → Prop}
theorem OfC.of {t : TypeId} {b : Nat} (h : OfT w t b) (ht : t ∈ clT) : OfC w b := ⟨t, ht, h⟩
theorem OfC.keep {b : Nat} (h : OfC w b) (hk : w'.heap[b]? = w.heap[b]?) : OfC w' b := by
 obtain ⟨t, ht, h⟩ := h
 exact ⟨t, ht, h.keep hk⟩
theorem OfC.lt {b : Nat} (h : OfC w b) : b < w.heap.size := by
 obtain ⟨t, ht, h⟩ := h
 exact h.lt
theorem OfC.ne {b : Nat} {t : TypeId} (h : OfC w b) (h' : OfT w t b) (ht : t ∉ clT) : False := by
 obtain ⟨t', ht', h⟩ := h
 exact ht (h.inj h' ▸ ht')
theorem own_gm {gm g n c : Nat} (h : (Value.slice (some ⟨gm, 0, none⟩) n c).ownBlock = some g) : gm = g := by simpa [Value.ownBlock] using h
theorem mod_sepT (h : FlS w lo v0 v1 v3 m.1 m.2.1 m.2.2.2) (hi : InS w lo v2 m.2.2.1) (hz : sModule m ≤ 1048576) :
  QModule w (fun b => lo ≤ b ∧ OfC w b) (.agg #[v0, v1, v2, v3]) m := by
 obtain ⟨n0, n1, n2, n3⟩ := mod_lens m
 obtain ⟨h0, ⟨R1, x1, h1⟩, h3⟩ := h
 obtain ⟨R2, x2, h2⟩ := hi
 have o1 := h1.own
 have o2 := h2.own
 rw [List.length_map] at o1 o2
 obtain ⟨A0, c0, rfl, _, _, _⟩ := own_form h0
 obtain ⟨A1, c1, rfl, _, _, _⟩ := own_form o1
 obtain ⟨A2, c2, rfl, _, _, _⟩ := own_form o2
 obtain ⟨A3, c3, rfl, _, _, _⟩ := own_form h3
 have hm : ∀ k : Nat, k ≤ sModule m → k ≤ maxLen := fun k hk => by unfold maxLen; omega
 refine ⟨_, _, _, _, fun j b => lo ≤ b ∧ ((j = 0 ∧ OfT w 66 b) ∨ (j = 1 ∧ (OfT w 71 b ∨ OfT w 73 b)) ∨ (j = 2 ∧ (OfT w 78 b ∨ OfT w 3 b)) ∨ (j = 3 ∧ OfT w 80 b)), rfl, ?_, ?_, ?_, ?_, ?_, ?_⟩
 ·rintro j b ⟨hl, ⟨_, h⟩ | ⟨_, h | h⟩ | ⟨_, h | h⟩ | ⟨_, h⟩⟩ <;> exact ⟨hl, .of h (by decide)⟩
 ·rintro i j b ⟨_, ⟨e, h⟩ | ⟨e, h | h⟩ | ⟨e, h | h⟩ | ⟨e, h⟩⟩ ⟨_, ⟨e', h'⟩ | ⟨e', h' | h'⟩ | ⟨e', h' | h'⟩ | ⟨e', h'⟩⟩ <;> first | exact e.trans e'.symm | exact absurd (h.inj h') (by decide)
 ·exact sep_recs eSg_len (by decide) (hm _ n0) h0 (fun g hg => ⟨(h0.lt g hg).1, .inl ⟨rfl, own_of h0 hg⟩⟩)
 ·exact (h1.sep (by rw [List.length_map]) (hm _ n1) (by decide)).mono (fun b hb => ⟨hb.1, .inr (.inl ⟨rfl, hb.2⟩)⟩)
 ·exact (h2.sep (by rw [List.length_map]) (hm _ n2) (by decide)).mono (fun b hb => ⟨hb.1, .inr (.inr (.inl ⟨rfl, hb.2⟩))⟩)
 ·exact sep_recs eMm_len (by decide) (hm _ n3) h3 (fun g hg => ⟨(h3.lt g hg).1, .inr (.inr (.inr ⟨rfl, own_of h3 hg⟩))⟩)
/-- modules that are closed, in a row of their own -/
def MdC (w : World) (lo0 lo : Nat) (ov : Value) (D : TDesign) (xs : List Value) : Prop := w.ownsRow lo0 42 4 ov D.length xs ∧ RowsOf w (ClB w lo0 lo) (D.map rModule) 4 xs
theorem NoT.tail {t : TypeId} {ts : List TypeId} (h : NoT w lo C (t :: ts)) : NoT w lo C ts := fun b t' hb hl ht hm => h b t' hb hl ht (List.mem_cons_of_mem _ hm)
theorem rows_only (h : RowsOf w (ClB w lo0 lo) (D.map rModule) 4 xs) (ho : Only C w w') (hc : NoT w lo0 C clT) (_hlo : lo ≤ w.heap.size) : RowsOf w' (ClB w' lo0 lo) (D.map rModule) 4 xs := by
 have hk : ∀ b, ClB w lo0 lo b → w'.heap[b]? = w.heap[b]? := fun b hb => ho.block b hb.2.lt (fun hC => by
  obtain ⟨t, ht, h⟩ := hb.2
  exact hc b t hC hb.1.1 h ht)
 exact h.keep hk (fun b hb => ⟨hb.1, hb.2.keep (hk b hb)⟩)
theorem MdC.nil (w : World) (lo0 lo : Nat) : MdC w lo0 lo (.slice none 0 0) [] [] := ⟨World.ownsRow_nil _ _ _ _, RowsOf.nil _ _ _ _⟩
theorem MdC.only (h : MdC w lo0 lo ov D xs) (ho : Only C w w') (hc : NoT w lo0 C (42 :: clT)) (hlo : lo ≤ w.heap.size) : MdC w' lo0 lo ov D xs :=
 ⟨own_keep h.1 (fun g hg => ho.block g (h.1.lt g hg).2 (fun hC => hc g _ hC (h.1.lt g hg).1 (own_of h.1 hg) (by simp))), rows_only h.2 ho hc.tail hlo⟩
theorem MdC.below (h : MdC w lo0 lo ov D xs) (hb : Below w.heap.size w w') (hlo : lo ≤ w.heap.size) : MdC w' lo0 lo ov D xs := h.only (Only.of_below hb (fun _ => False)) (NoT.none _ _ _) hlo
theorem rows_snoc (h : RowsOf w (ClB w lo0 lo) (D.map rModule) 4 xs) (hx : xs.length = D.length * 4) (hq : QModule w (fun b => lo ≤ b ∧ OfC w b) (.agg #[v0, v1, v2, v3]) m) (hlo0 : lo0 ≤ lo) (hlo : lo ≤ w.heap.size) :
  RowsOf w (ClB w lo0 w.heap.size) ((D ++ [m]).map rModule) 4 (xs ++ [v0, v1, v2, v3]) := by
 obtain ⟨u0, u1, u2, u3, P, e, hP, hd, s0, s1, s2, s3⟩ := hq
 injection e with e
 injection e with e
 injection e with e0 e
 injection e with e1 e
 injection e with e2 e
 injection e with e3 e
 subst e0 e1 e2 e3
 rw [List.map_append]
 refine RowsOf.snoc (S := ClB w lo0 lo) (Q := P) (row := rModule m) h (rModule_lens D) (by rw [List.length_map]; exact hx) (fun b hb => ⟨⟨hb.1.1, by have := hb.1.2; omega⟩, hb.2⟩) (fun j b hj => ?_) hd (fun j f hf => ?_)
 ·have h1 := hP j b hj
  exact ⟨⟨⟨by omega, h1.2.lt⟩, h1.2⟩, fun h2 => by have := h2.1.2; omega⟩
 ·match j, hf with
  | 0, hf => simp [rModule] at hf; subst hf; exact ⟨_, rfl, s0⟩
  | 1, hf => simp [rModule] at hf; subst hf; exact ⟨_, rfl, s1⟩
  | 2, hf => simp [rModule] at hf; subst hf; exact ⟨_, rfl, s2⟩
  | 3, hf => simp [rModule] at hf; subst hf; exact ⟨_, rfl, s3⟩
  | j + 4, hf => simp [rModule] at hf
/-- .. as a design -/
theorem MdC.form (h : MdC w lo0 lo ov D xs) : ∃ A c, ov = .slice A D.length c := by
 obtain ⟨A, c, h1, _⟩ := own_form h.1
 exact ⟨A, c, h1⟩
theorem MdC.sep {S : Nat → Prop} (h : MdC w lo0 lo ov D xs) (hn : D.length ≤ 1048576) (hS : ∀ b, lo0 ≤ b → b < w.heap.size → S b) : Sep w S ov (fModuleS D) := by
 obtain ⟨A, c, rfl⟩ := h.form
 exact h.2.sep (by rw [List.length_map]) (by unfold maxLen; omega) (rModule_lens D) h.1 (fun g hg => ⟨hS g (h.1.lt g hg).1 (h.1.lt g hg).2, fun hc => hc.2.ne (own_of h.1 hg) (by decide)⟩) (fun b hb => hS b hb.1.1 hb.2.lt)
theorem MdC.dsn {S : Nat → Prop} (h : MdC w lo0 lo ov D xs) (hn : D.length ≤ 1048576) (hS : ∀ b, lo0 ≤ b → b < w.heap.size → S b) : QDesign w S (.agg #[ov]) D :=
 ⟨ov, fun j b => j = 0 ∧ S b, rfl, fun _j _b hb => hb.2, fun _i _j _b h1 h2 => h1.1.trans h2.1.symm, (h.sep hn hS).mono (fun _b hb => ⟨rfl, hb⟩)⟩
theorem dsn_nil (w : World) (S : Nat → Prop) : QDesign w S (.agg #[.slice none 0 0]) [] :=
 ⟨_, fun _ _ => False, rfl, fun _ _ h => h.elim, fun _ _ _ h => h.elim, (MdC.nil w 0 0).2.sep (S' := fun _ => False) (e := 42) rfl (Nat.zero_le _) (fun _ h => by simp at h) (World.ownsRow_nil w 0 42 4) (fun g hg => by simp [Value.ownBlock] at hg) (fun _ h => by have h1 := h.1; omega)⟩

/-- modules of which the last is open: its rows grow from lo on -/
def MdI (w : World) (lo0 lo : Nat) (ov : Value) (D : TDesign) : Prop :=
 (D = [] ∧ ov = .slice none 0 0) ∨ ∃ (D' : TDesign) (m : TModule) (gm c : Nat) (xs0 : List Value) (v0 v1 v2 v3 : Value), D = D' ++ [m] ∧ ov = .slice (some ⟨gm, 0, none⟩) (D'.length + 1) c ∧ lo0 ≤ gm ∧ OpM w lo gm D'.length c xs0 v0 v1 v2 v3 m ∧ RowsOf w (ClB w lo0 lo) (D'.map rModule) 4 xs0
theorem MdI.only (h : MdI w lo0 lo ov D) (ho : Only C w w') (hc : NoT w lo0 C (42 :: clT)) (hlo0 : lo0 ≤ lo) (hlo : lo ≤ w.heap.size) : MdI w' lo0 lo ov D := by
 rcases h with h | ⟨D', m, gm, c, xs0, v0, v1, v2, v3, e1, e2, h1, h2, h3⟩
 ·exact .inl h
 ·have hn : ∀ ts : List TypeId, (∀ t, t ∈ ts → t ∈ clT) → NoT w lo C ts := fun ts hts b t hC hl ht hm => hc b t hC (by omega) ht (List.mem_cons_of_mem _ (hts t hm))
  exact .inr ⟨D', m, gm, c, xs0, v0, v1, v2, v3, e1, e2, h1, ⟨own_keep h2.row (fun g hg => ho.block g (h2.row.lt g hg).2 (fun hC => hc g _ hC (own_gm hg ▸ h1) (own_of h2.row hg) (by simp))), h2.len, h2.lt, h2.fl.only ho (hn _ (by decide)), h2.ins.only ho (hn _ (by decide))⟩, rows_only h3 ho hc.tail hlo⟩
theorem MdI.below (h : MdI w lo0 lo ov D) (hb : Below w.heap.size w w') (hlo0 : lo0 ≤ lo) (hlo : lo ≤ w.heap.size) : MdI w' lo0 lo ov D := h.only (Only.of_below hb (fun _ => False)) (NoT.none _ _ _) hlo0 hlo
theorem MdI.close (h : MdI w lo0 lo ov D) (hlo0 : lo0 ≤ lo) (hlo : lo ≤ w.heap.size) (hz : sDesign D ≤ 1048576) : ∃ xs, MdC w lo0 w.heap.size ov D xs := by
 rcases h with ⟨rfl, rfl⟩ | ⟨D', m, gm, c, xs0, v0, v1, v2, v3, rfl, rfl, h1, h2, h3⟩
 ·exact ⟨[], MdC.nil _ _ _⟩
 ·have h4 := dsn_last D' m
  refine ⟨xs0 ++ [v0, v1, v2, v3], ?_, rows_snoc h3 h2.len (mod_sepT h2.fl h2.ins (by omega)) hlo0 hlo⟩
  rw [List.length_append]
  exact own_up' h2.row (fun g hg => own_gm hg ▸ h1)
/-- a new module is put behind -/
theorem MdC.opened (h : MdC w lo0 lo ov D xs) (hown : w'.ownsRow lo0 42 4 ov' (D.length + 1) (xs ++ [.slice none 0 0, .slice none 0 0, .slice none 0 0, .slice none 0 0])) (hg : w.grownBy w' ov.ownBlock) (hlo : lo ≤ w.heap.size) : MdI w' lo0 w'.heap.size ov' (D ++ [noMod]) := by
 obtain ⟨A, c, rfl, _, _, h2⟩ := own_form hown
 obtain ⟨gm, rfl, _⟩ := h2 (by omega)
 have h3 := hown.lt gm rfl
 have hsz := hg.size
 have hr := rows_only h.2 (only_row hg) (grown_not h.1 (by decide)) hlo
 refine .inr ⟨D, noMod, gm, c, xs, _, _, _, _, rfl, rfl, h3.1, ⟨own_mono hown (Nat.zero_le _), h.1.1, h3.2, FlS.nil _ _, InS.nil _ _⟩, hr.keep (fun _ _ => rfl) (fun b hb => ⟨⟨hb.1.1, by have := hb.1.2; omega⟩, hb.2⟩)⟩
/-- a line is read into the open module -/
theorem MdI.read {D' : TDesign} {m' : TModule} {gm c : Nat} {xs0 : List Value} (h1 : lo0 ≤ gm) (h2 : OpM w' lo gm D'.length c xs0 v0 v1 v2 v3 m') (h3 : RowsOf w (ClB w lo0 lo) (D'.map rModule) 4 xs0) (hgm : OfT w 42 gm) (hc : ChP lo rlT (fun b => b = gm) w w') : MdI w' lo0 lo (.slice (some ⟨gm, 0, none⟩) (D'.length + 1) c) (D' ++ [m']) := by
 have hk : ∀ b, ClB w lo0 lo b → w'.heap[b]? = w.heap[b]? := fun b hb => by
  obtain ⟨C, c1, c2⟩ := hc
  refine c1.block b hb.2.lt (fun hC => ?_)
  rcases c2 b hC hb.2.lt with rfl | ⟨c3, _⟩
  ·exact hb.2.ne hgm (by decide)
  ·have := hb.1.2
   omega
 exact .inr ⟨D', m', gm, c, xs0, v0, v1, v2, v3, rfl, rfl, h1, h2, h3.keep hk (fun b hb => ⟨hb.1, hb.2.keep (hk b hb)⟩)⟩
end
end Go.Proofs.YthjdigcpgpiiiaaDoor

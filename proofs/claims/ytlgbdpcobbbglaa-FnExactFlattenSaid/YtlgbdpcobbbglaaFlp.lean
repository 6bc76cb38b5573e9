/- Plain: a design, flattened. -/
import Derived.Test.YtlgbdpcobbbglaaModE
import Derived.Outline
namespace Go.Proofs.Ytlgbdpcobbbglaa
open Go.RowKit

theorem opB_at {k a b : Int} {s : Nat} (h : opB k a b s = true) (hk : k = 2 ∨ k = 3) : 0 ≤ a ∧ a < s := by
 unfold opB at h
 rcases hk with rfl | rfl
 ·simp at h; omega
 ·simp at h; omega
/-- the numbers of a valid module -/
structure MdOk (d : TDesign) (k : Nat) (m : TModule) : Prop where
 n0 : m.1.length ≤ 30
 n1 : m.2.1.length ≤ 30
 n2 : m.2.2.1.length ≤ 3
 n3 : m.2.2.2.length ≤ 2
 asg : ∀ a ∈ m.2.1, (0 ≤ a.1 ∧ a.1 < m.1.length) ∧ a.2.length ≤ 15 ∧ ∀ o ∈ a.2, opB o.1 o.2.1 o.2.2 m.1.length = true
 ins : ∀ x ∈ m.2.2.1, (0 ≤ x.1 ∧ x.1 < k) ∧ x.2.2.length = (portsM (md d x.1)).length ∧ ∀ p ∈ x.2.2, 0 ≤ p ∧ p < m.1.length
 mem : ∀ x ∈ m.2.2.2, (0 ≤ x.1 ∧ x.1 < m.1.length) ∧ (0 ≤ x.2.1 ∧ x.2.1 < m.1.length) ∧ (0 ≤ x.2.2.1 ∧ x.2.2.1 < m.1.length) ∧ 0 ≤ x.2.2.2 ∧ x.2.2.2 < m.1.length
theorem md_ok {d : TDesign} {k : Nat} {m : TModule} (h : moduleB d (k : Int) = true) (hx : d[k]? = some m) : MdOk d k m := by
 have hmd := md_get hx
 unfold moduleB at h
 rw [hmd, Bool.and_eq_true] at h
 obtain ⟨h1, h2⟩ := h
 obtain ⟨⟨_, hk⟩, hc, hi⟩ := l04C_iff.1 h1
 unfold countsB at hc
 rw [Bool.and_eq_true] at hc
 obtain ⟨b0, b1, b2, b3⟩ := cntOk1_iff.1 (List.all_eq_true.1 hc.2 m (List.mem_of_getElem? hx))
 unfold instsB at hi
 rw [hmd] at hi
 unfold modB at h2
 simp only [Bool.and_eq_true, List.all_eq_true] at h2
 obtain ⟨s1, s2, s3, s4, _⟩ := h2
 refine ⟨b0, b1, b2, b3, fun a ha => ?_, fun x hx => ?_, fun x hx => ?_⟩
 ·have h := s2 a ha
  simp only [asgB, Bool.and_eq_true, opsB, decide_eq_true_eq] at h
  obtain ⟨e1, _, h3, h4, h5⟩ := h
  have e1 := inR_iff.1 e1
  refine ⟨by omega, by omega, fun o ho => ?_⟩
  obtain ⟨j, hj, rfl⟩ := List.mem_iff_getElem.1 ho
  have h6 := List.all_eq_true.1 h4 j (List.mem_range.2 hj)
  simp only [Bool.and_eq_true] at h6
  have h7 := h6.2
  rw [List.getD, List.getElem?_eq_getElem hj, Option.getD_some] at h7
  exact h7
 ·have h := s3 x hx
  have h' := List.all_eq_true.1 hi x hx
  simp only [instB, insB, Bool.and_eq_true, decide_eq_true_eq] at h h'
  have e2 := inR_iff.1 h'.1
  refine ⟨by omega, h'.2, fun p hp => ?_⟩
  obtain ⟨j, hj, rfl⟩ := List.mem_iff_getElem.1 hp
  have hz : ((portsM (md d x.1)).zip x.2.2)[j]? = some ((portsM (md d x.1))[j]'(by omega), x.2.2[j]) := by
   rw [List.getElem?_zip_eq_some]
   exact ⟨List.getElem?_eq_getElem _, List.getElem?_eq_getElem _⟩
  have h3 := List.all_eq_true.1 h.2 _ (List.mem_of_getElem? hz)
  simp only [ptB, Bool.and_eq_true] at h3
  have e4 := inR_iff.1 h3.1
  omega
 ·have h := s4 x hx
  simp only [memB, drivesB, Bool.and_eq_true] at h
  have e1 := inR_iff.1 h.1
  have e2 := inR_iff.1 h.2.1
  have e3 := inR_iff.1 h.2.2.1
  have e4 := inR_iff.1 h.2.2.2.1
  omega

/-! ### the ports of a module, found one by one -/
theorem idxL_split {α : Type} (p : α → Bool) (l : List α) (k : Nat) : ∃ R : List Int, idxL p l = idxL p (l.take k) ++ R ∧ ∀ v ∈ R, (k : Int) ≤ v := by
 refine ⟨(((l.drop k).zipIdx (min k l.length)).filter fun x => p x.1).map fun x => (x.2 : Int), ?_, fun v hv => ?_⟩
 ·unfold idxL
  conv => lhs; rw [← List.take_append_drop k l, List.zipIdx_append, List.filter_append, List.map_append, List.length_take]
  simp
 ·obtain ⟨x, hx, rfl⟩ := List.mem_map.1 hv
  have h1 := (List.mem_filter.1 hx).1
  have h2 := List.mem_zipIdx h1
  rcases Nat.lt_or_ge k l.length with h | h
  ·omega
  ·rw [List.drop_eq_nil_of_le h] at h1
   simp at h1
theorem idxL_at {α : Type} {p : α → Bool} {l : List α} {k : Nat} {x : α} (h : l[k]? = some x) (hp : p x = true) : (idxL p l)[(idxL p (l.take k)).length]? = some (k : Int) := by
 obtain ⟨R, hR, _⟩ := idxL_split p l (k + 1)
 rw [hR, idxL_succ h, if_pos hp, List.append_assoc, List.getElem?_append_right (Nat.le_refl _), Nat.sub_self]
 rfl
theorem idxL_not {α : Type} {p : α → Bool} {l : List α} {k : Nat} {x : α} (h : l[k]? = some x) (hp : p x = false) {v : Int} (hv : (idxL p l)[(idxL p (l.take k)).length]? = some v) : v ≠ (k : Int) := by
 obtain ⟨R, hR, hk⟩ := idxL_split p l (k + 1)
 rw [hR, idxL_succ h, if_neg (by simp [hp]), List.append_nil, List.getElem?_append_right (Nat.le_refl _), Nat.sub_self] at hv
 have := hk v (List.mem_of_getElem? hv)
 omega

/-! ### the flattening -/
def wdF (param w : Int) : Int := if w = 0 then param else w
/-- places, ports met, signals -/
abbrev SgSt := List Int × Nat × List TSignal
def sgF (copied : Bool) (param : Int) (ports : List Int) (s : SgSt) (x : TSignal) : Option SgSt :=
 if (copied && isPort x) = true then
  (if (s.2.2.getD (ports.getD s.2.1 0).toNat (0, 0, 0)).2.1 = wdF param x.2.1 then some (s.1 ++ [ports.getD s.2.1 0], s.2.1 + 1, s.2.2) else none)
 else some (s.1 ++ [(s.2.2.length : Int)], s.2.1, s.2.2 ++ [(x.1, wdF param x.2.1, x.2.2)])
def sgsF (copied : Bool) (param : Int) (ports : List Int) (l sg : List TSignal) : Option SgSt := l.foldlM (sgF copied param ports) ([], 0, sg)
def opF (param : Int) (ids : List Int) (o : TOp) : TOp := if o.1 = 1 then (0, param, 0) else if o.1 = 2 ∨ o.1 = 3 then (o.1, ids.getD o.2.1.toNat 0, o.2.2) else o
def asF (param : Int) (ids : List Int) (a : TAssign) : TAssign := (ids.getD a.1.toNat 0, a.2.map (opF param ids))
def mmF (ids : List Int) (x : TMem) : TMem := (ids.getD x.1.toNat 0, ids.getD x.2.1.toNat 0, ids.getD x.2.2.1.toNat 0, ids.getD x.2.2.2.toNat 0)
abbrev FlSt := List TSignal × List TAssign × List TMem
def owB (m : TModule) (f : FlSt) (sg : List TSignal) : Bool := decide (sg.length ≤ 30 ∧ f.2.1.length + m.2.1.length ≤ 30 ∧ f.2.2.length + m.2.2.2.length ≤ 2)
def owF (copied : Bool) (param : Int) (ports : List Int) (m : TModule) (f : FlSt) : Option (List Int × FlSt) :=
 match sgsF copied param ports m.1 f.1 with
 | none => none
 | some s => if owB m f s.2.2 = true then some (s.1, s.2.2, f.2.1 ++ m.2.1.map (asF param s.1), f.2.2 ++ m.2.2.2.map (mmF s.1)) else none
def addF (d : TDesign) : Nat → Nat → Int → List Int → Bool → FlSt → Option FlSt
 | 0, _, _, _, _, _ => none
 | n + 1, k, param, ports, copied, f =>
  match owF copied param ports (md d (k : Int)) f with
  | none => none
  | some r => (md d (k : Int)).2.2.1.foldlM (fun g x => addF d n x.1.toNat (wdF param x.2.1) (x.2.2.map fun p => r.1.getD p.toNat 0) true g) r.2
theorem foldlM_take {α β : Type} {f : β → α → Option β} {l : List α} {k : Nat} {x : α} (h : l[k]? = some x) (s : β) : (l.take (k + 1)).foldlM f s = ((l.take k).foldlM f s).bind fun t => f t x := by
 rw [List.take_add_one, h, List.foldlM_append]
 cases (l.take k).foldlM f s with
 | none => rfl
 | some t => simp
theorem foldlM_none {α β : Type} {f : β → α → Option β} {l : List α} {k : Nat} {s : β} (h : (l.take k).foldlM f s = none) : l.foldlM f s = none := by
 rw [← List.take_append_drop k l, List.foldlM_append, h]
 rfl
/-- an instruction of the whole that keeps a property -/
theorem foldlM_ind {α β : Type} {f : β → α → Option β} {P : β → Prop} (hf : ∀ b x b', P b → f b x = some b' → P b') : ∀ (l : List α) (s : β), P s → ∀ t, l.foldlM f s = some t → P t
 | [], s, hs, t, h => by
  simp at h
  rw [← h]
  exact hs
 | x :: l, s, hs, t, h => by
  rw [List.foldlM_cons] at h
  cases h1 : f s x with
  | none => rw [h1] at h; cases h
  | some s' => rw [h1] at h; exact foldlM_ind hf l s' (hf s x s' hs h1) t h
/-- the signals' part, so far -/
structure SgOk (copied : Bool) (l sg : List TSignal) (s : SgSt) : Prop where
 len : s.1.length = l.length
 nxt : s.2.1 = if copied then (idxL isPort l).length else 0
 ids : ∀ i ∈ s.1, 0 ≤ i ∧ i < s.2.2.length
 lo : sg.length ≤ s.2.2.length
 hi : s.2.2.length ≤ sg.length + l.length
theorem idxL_snoc {α : Type} {p : α → Bool} (l : List α) (x : α) : idxL p (l ++ [x]) = idxL p l ++ (if p x then [(l.length : Int)] else []) := by
 unfold idxL
 rw [List.zipIdx_append, List.filter_append, List.map_append]
 cases hp : p x <;> simp [hp]
theorem SgOk.step {copied : Bool} {param : Int} {ports : List Int} {l sg : List TSignal} {s t : SgSt} {x : TSignal} (h : SgOk copied l sg s) (hp : ∀ i ∈ ports, 0 ≤ i ∧ i < sg.length) (hn : copied = true → isPort x = true → (idxL isPort l).length < ports.length)
  (ht : sgF copied param ports s x = some t) : SgOk copied (l ++ [x]) sg t := by
 have hl := h.lo
 have hh := h.hi
 unfold sgF at ht
 split at ht
 ·rename_i hc
  rw [Bool.and_eq_true] at hc
  split at ht
  ·injection ht with ht
   subst ht
   have hx : s.2.1 < ports.length := by rw [h.nxt, hc.1, if_pos rfl]; exact hn hc.1 hc.2
   have hg : ports.getD s.2.1 0 = ports[s.2.1] := by simp [List.getD, List.getElem?_eq_getElem hx]
   refine ⟨by simp [h.len], ?_, fun i hi => ?_, hl, by simp; omega⟩
   ·show s.2.1 + 1 = _
    rw [h.nxt, hc.1, if_pos rfl, if_pos rfl, idxL_snoc, if_pos hc.2]
    simp
   ·rcases List.mem_append.1 hi with hi | hi
    ·exact h.ids i hi
    ·rw [List.mem_singleton.1 hi, hg]
     have := hp _ (List.getElem_mem hx)
     show 0 ≤ _ ∧ _ < (s.2.2.length : Int)
     omega
  ·cases ht
 ·rename_i hc
  injection ht with ht
  subst ht
  refine ⟨by simp [h.len], ?_, fun i hi => ?_, by simp; omega, by simp; omega⟩
  ·show s.2.1 = _
   rw [h.nxt]
   cases copied with
   | false => rfl
   | true =>
    rw [if_pos rfl, if_pos rfl, idxL_snoc, if_neg (by simpa using hc)]
    simp
  ·rcases List.mem_append.1 hi with hi | hi
   ·have := h.ids i hi
    simp
    omega
   ·rw [List.mem_singleton.1 hi]
    simp
    omega
theorem SgOk.nil (copied : Bool) (sg : List TSignal) : SgOk copied [] sg ([], 0, sg) :=
 ⟨rfl, by cases copied <;> rfl, fun i hi => by simp at hi, Nat.le_refl _, by simp⟩
theorem sgs_ok {copied : Bool} {param : Int} {ports : List Int} {l sg : List TSignal} (hp : ∀ i ∈ ports, 0 ≤ i ∧ i < sg.length) (hn : copied = true → ports.length = (idxL isPort l).length) : ∀ (k : Nat) (s : SgSt), k ≤ l.length → (l.take k).foldlM (sgF copied param ports) ([], 0, sg) = some s → SgOk copied (l.take k) sg s
 | 0, s, _, h => by
  simp at h
  subst h
  exact SgOk.nil _ _
 | k + 1, s, hk, h => by
  have hx : l[k]? = some (l[k]'(by omega)) := List.getElem?_eq_getElem (by omega)
  rw [foldlM_take hx] at h
  cases h1 : (l.take k).foldlM (sgF copied param ports) ([], 0, sg) with
  | none => rw [h1] at h; cases h
  | some t =>
   rw [h1] at h
   have e : l.take (k + 1) = l.take k ++ [l[k]'(by omega)] := by rw [List.take_add_one, hx]; rfl
   rw [e]
   exact (sgs_ok hp hn k t (by omega) h1).step hp (fun hc hpx => by
    rw [hn hc]
    exact (List.getElem?_eq_some_iff.1 (idxL_at hx hpx)).1) h
theorem portsM_eq {m : TModule} (h : m.1.length ≤ 30) : portsM m = idxL isPort m.1 := by unfold portsM portsL; rw [if_pos h]
theorem set_app (a : List Int) (m : Nat) (v : Int) : (a ++ List.replicate (m + 1) 0).set a.length v = (a ++ [v]) ++ List.replicate m 0 := by
 rw [List.set_append, if_neg (by omega), Nat.sub_self, List.append_assoc]
 rfl
theorem dsn_modF {d : TDesign} (h : designB d = true) {k : Nat} (hk : k < d.length) : moduleB d (k : Int) = true := by
 unfold designB at h
 rw [Bool.and_eq_true] at h
 exact List.all_eq_true.1 h.2 k (List.mem_range.2 hk)
/-- sizes of a flat module that may grow on -/
structure FlSz (f : FlSt) : Prop where
 l0 : f.1.length ≤ 30
 l1 : f.2.1.length ≤ 30
 l2 : f.2.2.length ≤ 2
 ops : ∀ a ∈ f.2.1, a.2.length ≤ 15
theorem owB_sz {d : TDesign} {k : Nat} {m : TModule} {f : FlSt} {sg : List TSignal} (hm : MdOk d k m) (hf : FlSz f) (h : owB m f sg = true) (param : Int) (ids : List Int) : FlSz (sg, f.2.1 ++ m.2.1.map (asF param ids), f.2.2 ++ m.2.2.2.map (mmF ids)) := by
 unfold owB at h
 have h := of_decide_eq_true h
 refine ⟨h.1, by simp; exact h.2.1, by simp; exact h.2.2, fun a ha => ?_⟩
 rcases List.mem_append.1 ha with ha | ha
 ·exact hf.ops a ha
 ·obtain ⟨a', ha', rfl⟩ := List.mem_map.1 ha
  have := (hm.asg a' ha').2.1
  simpa [asF] using this
theorem addF_none1 {d : TDesign} {n k : Nat} {param : Int} {ports : List Int} {copied : Bool} {f : FlSt} {m : TModule} (hm : md d (k : Int) = m) {j : Nat} (h : (m.1.take j).foldlM (sgF copied param ports) ([], 0, f.1) = none) : addF d (n + 1) k param ports copied f = none := by
 rw [addF, hm, owF, sgsF, foldlM_none h]
theorem addF_none2 {d : TDesign} {n k : Nat} {param : Int} {ports : List Int} {copied : Bool} {f : FlSt} {m : TModule} (hm : md d (k : Int) = m) {s : SgSt} (h : m.1.foldlM (sgF copied param ports) ([], 0, f.1) = some s) (hb : owB m f s.2.2 = false) : addF d (n + 1) k param ports copied f = none := by
 rw [addF, hm, owF, sgsF, h]
 simp [hb]
theorem addF_some {d : TDesign} {n k : Nat} {param : Int} {ports : List Int} {copied : Bool} {f : FlSt} {m : TModule} (hm : md d (k : Int) = m) {s : SgSt} (h : m.1.foldlM (sgF copied param ports) ([], 0, f.1) = some s) (hb : owB m f s.2.2 = true) :
  addF d (n + 1) k param ports copied f = m.2.2.1.foldlM (fun g x => addF d n x.1.toNat (wdF param x.2.1) (x.2.2.map fun p => s.1.getD p.toNat 0) true g) (s.2.2, f.2.1 ++ m.2.1.map (asF param s.1), f.2.2 ++ m.2.2.2.map (mmF s.1)) := by
 rw [addF, hm, owF, sgsF, h]
 simp [hb]
theorem sgsF_len {copied : Bool} {param : Int} {ports : List Int} {l sg : List TSignal} {s : SgSt} (h : sgsF copied param ports l sg = some s) : sg.length ≤ s.2.2.length := by
 refine foldlM_ind (f := sgF copied param ports) (P := fun s => sg.length ≤ s.2.2.length) (fun b x b' hb hx => ?_) l ([], 0, sg) (Nat.le_refl _) s h
 unfold sgF at hx
 split at hx
 ·split at hx
  ·injection hx with hx
   subst hx
   exact hb
  ·cases hx
 ·injection hx with hx
  subst hx
  show sg.length ≤ (b.2.2 ++ [(x.1, wdF param x.2.1, x.2.2)]).length
  rw [List.length_append]
  omega
theorem addF_len {d : TDesign} : ∀ (n k : Nat) (param : Int) (ports : List Int) (copied : Bool) (f g : FlSt), addF d n k param ports copied f = some g → f.1.length ≤ g.1.length
 | 0, _, _, _, _, _, _, h => by cases h
 | n + 1, k, param, ports, copied, f, g, h => by
  rw [addF, owF] at h
  cases hs : sgsF copied param ports (md d (k : Int)).1 f.1 with
  | none => rw [hs] at h; cases h
  | some s =>
   rw [hs] at h
   have h1 := sgsF_len hs
   by_cases hb : owB (md d (k : Int)) f s.2.2 = true
   ·simp only [if_pos hb] at h
    have h2 := foldlM_ind (f := fun (g : FlSt) (x : TInst) => addF d n x.1.toNat (wdF param x.2.1) (x.2.2.map fun p => s.1.getD p.toNat 0) true g) (P := fun (g : FlSt) => s.2.2.length ≤ g.1.length) (fun b x b' hb' hx => Nat.le_trans hb' (addF_len n _ _ _ _ _ _ hx)) _ _ (Nat.le_refl _) g h
    exact Nat.le_trans h1 h2
   ·simp only [if_neg hb] at h
    cases h
end Go.Proofs.Ytlgbdpcobbbglaa

/- Plain: the states of a run are states; the values of all cycles. -/
import Derived.Test.YtjkdgedgfkgjdaaStpP
import Derived.Test.YtjkdgedgfkgjdaaFst
namespace Go.Proofs.Ytjkdgedgfkgjdaa
open Go.RowKit

theorem ws_mk {m : TModule} {st : TWordState} (h1 : flatB m = true) (h2 : st.1.length = m.1.length) (h3 : st.2.length = 4 * m.2.2.2.length) (h4 : ∀ i, i < m.1.length → wvB m st i = true) (h5 : ∀ i, i < st.2.length → wwB m st i = true) : wsB m st = true := by
 unfold wsB
 simp only [Bool.and_eq_true, decide_eq_true_eq]
 exact ⟨h1, h2, h3, List.all_eq_true.2 fun i hi => h4 i (List.mem_range.1 hi), List.all_eq_true.2 fun i hi => h5 i (List.mem_range.1 hi)⟩
theorem inR_mk {x : Nat} {M : Nat} (h : x ≤ M) : inR (x : Int) 0 (M : Int) = true := inR_iff.2 ⟨by omega, by omega⟩
theorem getD_nI (l : List Nat) (i : Nat) : (nI l).getD i 0 = ((l.getD i 0 : Nat) : Int) := by
 rw [List.getD_eq_getElem?_getD, nI_get, List.getD_eq_getElem?_getD]
 cases l[i]? <;> rfl
theorem getD_rep (n i : Nat) : (List.replicate n (0 : Int)).getD i 0 = 0 := by
 rw [List.getD_eq_getElem?_getD, List.getElem?_replicate]
 split <;> rfl
theorem iniV_le (x : TSignal) : iniV x ≤ mskN x.2.1 := by
 unfold iniV
 split
 ·exact Nat.and_le_right
 ·exact Nat.zero_le _
theorem start_ws {m : TModule} (hf : flatB m = true) : wsB m (startN m) = true := by
 refine ws_mk hf (by unfold startN; rw [nI_len]; simp [startV]) (by simp [startN]) (fun i hi => ?_) (fun i _ => ?_)
 ·obtain ⟨x, hx⟩ : ∃ x, m.1[i]? = some x := ⟨_, List.getElem?_eq_getElem hi⟩
  have e1 : (startN m).1.getD i 0 = ((iniV x : Nat) : Int) := by
   unfold startN
   rw [getD_nI]
   unfold startV
   rw [List.getD_eq_getElem?_getD, List.getElem?_map, hx]
   rfl
  unfold wvB
  rw [e1]
  split
  ·rw [widAt_get hx]
   exact inR_mk (iniV_le x)
  ·rename_i hs
   unfold iniV
   rw [if_neg]
   ·rfl
   ·intro h3
    apply hs
    unfold stoB
    rw [kindAt_get hx, decide_eq_true h3, Bool.true_or]
 ·unfold wwB
  have e1 : (startN m).2.getD i 0 = ((0 : Nat) : Int) := getD_rep _ _
  rw [e1]
  exact inR_mk (Nat.zero_le _)
/-! ### the next state is a state -/
theorem foldl_inv {α β : Type} (Q : β → Prop) (f : β → α → β) : ∀ (l : List α) (b : β), Q b → (∀ b, ∀ a ∈ l, Q b → Q (f b a)) → Q (l.foldl f b)
 | [], _, h, _ => h
 | a :: l, b, h, hs => foldl_inv Q f l (f b a) (hs b a (List.mem_cons_self ..) h) (fun b' a' ha hb => hs b' a' (List.mem_cons_of_mem _ ha) hb)
def okV (m : TModule) (l : List Int) : Prop := ∀ i, i < m.1.length → if stoB m i then ∃ x : Nat, l.getD i 0 = (x : Int) ∧ x ≤ mskN (widAt m.1 (i : Int)) else l.getD i 0 = 0
theorem getD_set (l : List Int) (s i : Nat) (x : Int) : (l.set s x).getD i 0 = if s = i ∧ s < l.length then x else l.getD i 0 := by
 rw [List.getD_eq_getElem?_getD, List.getElem?_set, List.getD_eq_getElem?_getD]
 by_cases h : s = i
 ·subst h
  rw [if_pos rfl]
  by_cases h2 : s < l.length
  ·rw [if_pos h2, if_pos ⟨rfl, h2⟩]; rfl
  ·rw [if_neg h2, if_neg (fun h => h2 h.2), List.getElem?_eq_none (by omega)]
 ·rw [if_neg h, if_neg (fun h2 => h h2.1)]
theorem okV_set {m : TModule} {l : List Int} {s x : Nat} (h : okV m l) (hs : stoB m s = true) (hx : x ≤ mskN (widAt m.1 (s : Int))) : okV m (l.set s (x : Int)) := by
 intro i hi
 have h1 := h i hi
 rw [getD_set]
 by_cases hc : s = i ∧ s < l.length
 ·obtain ⟨rfl, _⟩ := hc
  rw [if_pos (show s = s ∧ s < l.length from ⟨rfl, by assumption⟩), if_pos hs]
  exact ⟨x, rfl, hx⟩
 ·rw [if_neg hc]
  exact h1
theorem word_ok {m : TModule} {st : TWordState} (h : wsB m st = true) {i : Nat} (hi : i < st.2.length) : ∃ x : Nat, st.2.getD i 0 = (x : Int) ∧ x ≤ mskN (widAt m.1 (memD m (i / 4))) := by
 have h1 := (wsB_iff h).2.2.2.2 i hi
 unfold wwB at h1
 have h2 := inR_iff.1 h1
 exact ⟨(st.2.getD i 0).toNat, by omega, by omega⟩
theorem memD_at (m : TModule) (q : Nat) : memD m q = (memAt m q).2.1 := rfl
theorem next_ws {m : TModule} {st : TWordState} {vs : List Nat} (h : wsB m st = true) (hl : vs.length = m.1.length) (hw : WB m vs) : wsB m (nextN m st.2 vs) = true := by
 obtain ⟨hf, h1, h2, _, _⟩ := wsB_iff h
 have hmem : ∀ i, i < m.2.2.2.length → ∃ p q r s : Nat, memAt m i = ((p : Int), (q : Int), (r : Int), (s : Int)) ∧ (p < m.1.length ∧ q < m.1.length ∧ r < m.1.length ∧ s < m.1.length) ∧ (∃ vp, vp ≤ 3 ∧ cellN vs i (memAt m i) = 4 * i + vp) ∧ widAt m.1 (q : Int) = widAt m.1 (s : Int) ∧ stoB m s = true := by
  intro i hi
  obtain ⟨⟨a, b, c, o⟩, hx⟩ : ∃ x, m.2.2.2[i]? = some x := ⟨_, List.getElem?_eq_getElem hi⟩
  obtain ⟨p, q, r, s, ⟨rfl, rfl, rfl, rfl⟩, hlt, vp, _, _, _, hv3, hc⟩ := mem_facts hf hx hl hw
  have hm := List.all_eq_true.1 (flat_sum hf).2 _ (List.mem_of_getElem? hx)
  unfold memW at hm
  simp only [Bool.and_eq_true, decide_eq_true_eq] at hm
  refine ⟨p, q, r, s, memAt_get hx, hlt, ⟨vp, hv3, by rw [memAt_get hx]; exact hc⟩, hm.2.2, ?_⟩
  unfold stoB
  rw [Bool.or_eq_true]
  exact .inr (List.any_eq_true.2 ⟨_, List.mem_of_getElem? hx, decide_eq_true rfl⟩)
 have hreg : okV m (regK m vs m.2.1.length) := by
  unfold regK
  rw [List.take_length]
  refine foldl_inv (okV m) _ _ _ (fun i _ => ?_) (fun b a ha hb => ?_)
  ·rw [getD_rep]
   split
   ·exact ⟨0, rfl, Nat.zero_le _⟩
   ·rfl
  ·unfold regA
   split
   ·rename_i hk
    obtain ⟨i, hi⟩ := List.getElem?_of_mem ha
    obtain ⟨a0, os⟩ := a
    obtain ⟨s, y, rfl, hy, hw4⟩ := tgt_wid hf hi
    rw [Int.toNat_natCast]
    refine okV_set hb ?_ ?_
    ·unfold stoB
     rw [decide_eq_true hk, Bool.true_or]
    ·exact (ev_asg hf hi vs (mskN (widAt m.1 (s : Int)))).2.le (by rw [widAt_get hy]; exact mskN_is hw4)
   ·exact hb
 have hv : okV m (nextN m st.2 vs).1 := by
  unfold nextN mvK
  refine foldl_inv (okV m) _ _ _ hreg (fun b i hi hb => ?_)
  have hi := List.mem_range.1 hi
  obtain ⟨p, q, r, s, e, _, ⟨vp, hv3, hc⟩, hwd, hst⟩ := hmem i hi
  unfold mvA
  have hlt : cellN vs i (memAt m i) < st.2.length := by rw [hc, h2]; omega
  obtain ⟨x, hx, hxm⟩ := word_ok h hlt
  rw [hx, e]
  simp only [Int.toNat_natCast]
  refine okV_set hb hst ?_
  rw [hc, show (4 * i + vp) / 4 = i by omega, memD_at, e] at hxm
  rw [← hwd]
  exact hxm
 have hws : ∀ i, i < 4 * m.2.2.2.length → ∃ x : Nat, (nextN m st.2 vs).2.getD i 0 = (x : Int) ∧ x ≤ mskN (widAt m.1 (memD m (i / 4))) := by
  unfold nextN mwK
  refine foldl_inv (fun b : List Int => ∀ i, i < 4 * m.2.2.2.length → ∃ x : Nat, b.getD i 0 = (x : Int) ∧ x ≤ mskN (widAt m.1 (memD m (i / 4)))) _ _ _ (fun i hi => word_ok h (by omega)) (fun b i hi hb => ?_)
  have hi := List.mem_range.1 hi
  obtain ⟨p, q, r, s, e, hlt, ⟨vp, hv3, hc⟩, _, _⟩ := hmem i hi
  unfold mwA
  split
  ·intro j hj
   rw [getD_set]
   split
   ·rename_i hcj
    obtain ⟨hcj, _⟩ := hcj
    refine ⟨_, rfl, ?_⟩
    rw [← hcj, hc, show (4 * i + vp) / 4 = i by omega, memD_at, e]
    simp only [Int.toNat_natCast]
    exact hw q hlt.2.1
   ·exact hb j hj
  ·exact hb
 have hl2 : (nextN m st.2 vs).2.length = 4 * m.2.2.2.length := by unfold nextN; rw [mwK_len]; exact h2
 refine ws_mk hf (mvK_len _ _ _ _) hl2 (fun i hi => ?_) (fun i hi => ?_)
 ·have h3 := hv i hi
  unfold wvB
  split
  ·rename_i hs
   rw [if_pos hs] at h3
   obtain ⟨x, hx, hxm⟩ := h3
   rw [hx]
   exact inR_mk hxm
  ·rename_i hs
   rw [if_neg hs] at h3
   exact decide_eq_true h3
 ·rw [hl2] at hi
  obtain ⟨x, hx, hxm⟩ := hws i hi
  unfold wwB
  rw [hx]
  exact inR_mk hxm

/-! ### all cycles -/
/-- a run's inputs fit -/
def runB (m : TModule) (ins : List (List Int)) : Bool := flatB m && (decide (ins.length ≤ 16) && ins.all fun x => decide (x.length = (widthsM m 0).length))
/-- the state ahead of cycle k -/
noncomputable def cycS (m : TModule) (ins : List (List Int)) : Nat → TWordState
 | 0 => startN m
 | k + 1 => nextN m (cycS m ins k).2 (sigN m (cycS m ins k) (ins.getD k []))
noncomputable def cycV (m : TModule) (ins : List (List Int)) (k : Nat) : List Nat := sigN m (cycS m ins k) (ins.getD k [])
theorem cyc_ws {m : TModule} {ins : List (List Int)} (hf : flatB m = true) : ∀ k, wsB m (cycS m ins k) = true
 | 0 => start_ws hf
 | k + 1 => next_ws (cyc_ws hf k) (sigN_len _ _) (sigN_wb (cyc_ws hf k) _)
noncomputable def trcK (m : TModule) (ins : List (List Int)) (k : Nat) : List (List Int) := (List.range k).map fun i => nI (cycV m ins i)
noncomputable def runK (m : TModule) (ins : List (List Int)) (k : Nat) : List (List Int) := (List.range k).map fun i => outV m (cycV m ins i)
noncomputable def trcL (m : TModule) (ins : List (List Int)) : List (List Int) := if runB m ins then trcK m ins ins.length else []
noncomputable def runL (m : TModule) (ins : List (List Int)) : List (List Int) := if runB m ins then runK m ins ins.length else []
theorem trcK_succ (m : TModule) (ins : List (List Int)) (k : Nat) : trcK m ins (k + 1) = trcK m ins k ++ [nI (cycV m ins k)] := by unfold trcK; rw [List.range_succ]; simp
theorem runK_succ (m : TModule) (ins : List (List Int)) (k : Nat) : runK m ins (k + 1) = runK m ins k ++ [outV m (cycV m ins k)] := by unfold runK; rw [List.range_succ]; simp
theorem trcK_len (m : TModule) (ins : List (List Int)) (k : Nat) : (trcK m ins k).length = k := by simp [trcK]
theorem runK_len (m : TModule) (ins : List (List Int)) (k : Nat) : (runK m ins k).length = k := by simp [runK]
theorem runB_iff {m : TModule} {ins : List (List Int)} (h : runB m ins = true) : flatB m = true ∧ ins.length ≤ 16 ∧ ∀ x ∈ ins, x.length = (widthsM m 0).length := by
 unfold runB at h
 simp only [Bool.and_eq_true, decide_eq_true_eq] at h
 exact ⟨h.1, h.2.1, fun x hx => of_decide_eq_true (List.all_eq_true.1 h.2.2 x hx)⟩
end Go.Proofs.Ytjkdgedgfkgjdaa

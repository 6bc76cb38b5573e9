/- Plain: the values keep to their widths; the next state; the outputs. -/
import Derived.Test.YtlkjdhjeecogjaaSigA
namespace Go.Proofs.Ytlkjdhjeecogjaa
open Go.RowKit

/-! ### every value keeps to its signal's width -/
def WB (m : TModule) (vs : List Nat) : Prop := ∀ i, i < m.1.length → vs.getD i 0 ≤ mskN (widAt m.1 (i : Int))
theorem ws_wb {m : TModule} {st : TWordState} (h : wsB m st = true) : WB m (natL st.1) := by
 obtain ⟨hf, hl, _, hv, _⟩ := wsB_iff h
 intro i hi
 have h1 := hv i hi
 have e1 : (natL st.1).getD i 0 = (st.1.getD i 0).toNat := by
  unfold natL
  rw [List.getD_eq_getElem?_getD, List.getElem?_map, List.getD_eq_getElem?_getD]
  cases st.1[i]? <;> rfl
 rw [e1]
 unfold wvB at h1
 split at h1
 ·have := inR_iff.1 h1; omega
 ·have h2 := of_decide_eq_true h1; omega
theorem inpL_wb {m : TModule} {vs : List Nat} {ins : List Int} (hv : WB m vs) : WB m (inpL m vs ins) := by
 intro i hi
 have e1 : (inpL m vs ins).getD i 0 = inpA m vs ins i := by
  unfold inpL
  rw [List.getD_eq_getElem?_getD, List.getElem?_map, List.getElem?_range hi]
  rfl
 rw [e1]
 unfold inpA
 split
 ·exact cutN_le _ _
 ·exact hv i hi
theorem asgV_wb {m : TModule} (hf : flatB m = true) {i : Nat} (hi : i < m.2.1.length) {vs : List Nat} (hv : WB m vs) : WB m (asgV m vs i) := by
 intro j hj
 obtain ⟨⟨a, os⟩, ha⟩ : ∃ a, m.2.1[i]? = some a := ⟨_, List.getElem?_eq_getElem hi⟩
 obtain ⟨s, y, rfl, hy, hw⟩ := tgt_wid hf ha
 unfold asgV
 rw [asgA_get ha, List.getD_eq_getElem?_getD, List.getElem?_set]
 simp only [Int.toNat_natCast]
 split
 ·rename_i hs
  subst hs
  split
  ·have h2 := (ev_asg hf ha vs (mskN (widAt m.1 (s : Int)))).2
   exact h2.le (by rw [widAt_get hy]; exact mskN_is hw)
  ·exact Nat.zero_le _
 ·have h1 := hv j hj
  rw [List.getD_eq_getElem?_getD] at h1
  exact h1
theorem runV_wb {m : TModule} (hf : flatB m = true) : ∀ (l : List Nat) (vs : List Nat), (∀ i ∈ l, i < m.2.1.length) → WB m vs → WB m (runV m vs l)
 | [], _, _, hv => hv
 | i :: l, vs, hl, hv => runV_wb hf l (asgV m vs i) (fun j hj => hl j (List.mem_cons_of_mem _ hj)) (asgV_wb hf (hl i (List.mem_cons_self ..)) hv)
theorem sigN_wb {m : TModule} {st : TWordState} (h : wsB m st = true) (ins : List Int) : WB m (sigN m st ins) :=
 runV_wb (wsB_iff h).1 _ _ (ordN_mem (flat_ok (wsB_iff h).1).1) (inpL_wb (ws_wb h))
theorem sigN_len {m : TModule} (st : TWordState) (ins : List Int) : (sigN m st ins).length = m.1.length := by unfold sigN; rw [runV_len]; simp [inpL]

theorem wb_bd {m : TModule} {VS : List Nat} (hf : flatB m = true) (hl : VS.length = m.1.length) (hw : WB m VS) : ∀ y ∈ VS, y ≤ 15 := by
 intro y hy
 obtain ⟨i, hi⟩ := List.mem_iff_getElem?.1 hy
 have hi' : i < m.1.length := by have := (List.getElem?_eq_some_iff.1 hi).1; omega
 have h1 := hw i hi'
 rw [List.getD_eq_getElem?_getD, hi] at h1
 have hg : m.1[i]? = some m.1[i] := List.getElem?_eq_getElem hi'
 rw [widAt_get hg] at h1
 have h2 := (mask_le (mskN_is (flat_wid hf hg))).2
 simp only [Option.getD_some] at h1
 omega

/-! ### the next state -/
noncomputable def regA (m : TModule) (vs : List Nat) (acc : List Int) (a : TAssign) : List Int := if kindAt m.1 a.1 = 3 then acc.set a.1.toNat ((evF a.2 vs (mskN (widAt m.1 a.1)) : Nat) : Int) else acc
noncomputable def regK (m : TModule) (vs : List Nat) (k : Nat) : List Int := (m.2.1.take k).foldl (regA m vs) (List.replicate m.1.length 0)
theorem regK_succ {m : TModule} {k : Nat} {a : TAssign} (vs : List Nat) (h : m.2.1[k]? = some a) : regK m vs (k + 1) = regA m vs (regK m vs k) a := by
 unfold regK
 rw [List.take_add_one, h]
 simp
theorem regA_len (m : TModule) (vs : List Nat) (acc : List Int) (a : TAssign) : (regA m vs acc a).length = acc.length := by unfold regA; split <;> simp
theorem foldl_len {α β : Type} (f : List β → α → List β) (hf : ∀ b a, (f b a).length = b.length) : ∀ (l : List α) (b : List β), (l.foldl f b).length = b.length
 | [], _ => rfl
 | a :: l, b => (foldl_len f hf l (f b a)).trans (hf b a)
theorem regK_len (m : TModule) (vs : List Nat) (k : Nat) : (regK m vs k).length = m.1.length := by
 unfold regK
 rw [foldl_len _ (regA_len m vs)]
 simp
/-- a memory's cell at the signals' values -/
def cellN (vs : List Nat) (i : Nat) (x : TMem) : Nat := 4 * i + vs.getD x.1.toNat 0
def memAt (m : TModule) (i : Nat) : TMem := m.2.2.2.getD i (0, 0, 0, 0)
def mvA (m : TModule) (vs : List Nat) (ws : List Int) (acc : List Int) (i : Nat) : List Int := acc.set (memAt m i).2.2.2.toNat (ws.getD (cellN vs i (memAt m i)) 0)
def mwA (m : TModule) (vs : List Nat) (acc : List Int) (i : Nat) : List Int := if vs.getD (memAt m i).2.2.1.toNat 0 = 1 then acc.set (cellN vs i (memAt m i)) ((vs.getD (memAt m i).2.1.toNat 0 : Nat) : Int) else acc
noncomputable def mvK (m : TModule) (vs : List Nat) (ws : List Int) (k : Nat) : List Int := (List.range k).foldl (mvA m vs ws) (regK m vs m.2.1.length)
def mwK (m : TModule) (vs : List Nat) (ws : List Int) (k : Nat) : List Int := (List.range k).foldl (mwA m vs) ws
theorem mvK_succ (m : TModule) (vs : List Nat) (ws : List Int) (k : Nat) : mvK m vs ws (k + 1) = mvA m vs ws (mvK m vs ws k) k := by unfold mvK; rw [List.range_succ]; simp
theorem mwK_succ (m : TModule) (vs : List Nat) (ws : List Int) (k : Nat) : mwK m vs ws (k + 1) = mwA m vs (mwK m vs ws k) k := by unfold mwK; rw [List.range_succ]; simp
theorem mvK_len (m : TModule) (vs : List Nat) (ws : List Int) (k : Nat) : (mvK m vs ws k).length = m.1.length := by
 unfold mvK
 rw [foldl_len _ (fun b a => by simp [mvA]), regK_len]
theorem mwK_len (m : TModule) (vs : List Nat) (ws : List Int) (k : Nat) : (mwK m vs ws k).length = ws.length := by
 unfold mwK
 rw [foldl_len _ (fun b a => by unfold mwA; split <;> simp)]
theorem memAt_get {m : TModule} {i : Nat} {x : TMem} (h : m.2.2.2[i]? = some x) : memAt m i = x := by simp [memAt, List.getD, h]
/-- the next state -/
noncomputable def nextN (m : TModule) (ws : List Int) (vs : List Nat) : TWordState := (mvK m vs ws m.2.2.2.length, mwK m vs ws m.2.2.2.length)
/-- a memory's numbers -/
theorem mem_facts {m : TModule} (hf : flatB m = true) {i : Nat} {a b c o : Int} (hi : m.2.2.2[i]? = some (a, b, c, o)) {vs : List Nat} (hl : vs.length = m.1.length) (hw : WB m vs) :
  ∃ p q r s : Nat, (a = (p : Int) ∧ b = (q : Int) ∧ c = (r : Int) ∧ o = (s : Int)) ∧ (p < m.1.length ∧ q < m.1.length ∧ r < m.1.length ∧ s < m.1.length) ∧
   ∃ vp vq vr : Nat, (vs[p]? = some vp ∧ vs[q]? = some vq ∧ vs[r]? = some vr) ∧ vp ≤ 3 ∧ cellN vs i (a, b, c, o) = 4 * i + vp := by
 obtain ⟨p, q, r, s, rfl, rfl, rfl, rfl, hp, hq, hr, hs⟩ := okE_mem (flat_ok hf).1 hi
 refine ⟨p, q, r, s, ⟨rfl, rfl, rfl, rfl⟩, ⟨hp, hq, hr, hs⟩, vs[p], vs[q], vs[r], ⟨List.getElem?_eq_getElem _, List.getElem?_eq_getElem _, List.getElem?_eq_getElem _⟩, ?_, ?_⟩
 ·have h1 := List.all_eq_true.1 (flat_sum hf).2 _ (List.mem_of_getElem? hi)
  unfold memW at h1
  simp only [Bool.and_eq_true, decide_eq_true_eq] at h1
  have h2 := hw p hp
  rw [h1.1] at h2
  have h3 : vs.getD p 0 = vs[p]'(by omega) := by rw [List.getD_eq_getElem?_getD, List.getElem?_eq_getElem (by omega)]; rfl
  rw [h3] at h2
  exact h2
 ·unfold cellN
  rw [Int.toNat_natCast, List.getD_eq_getElem?_getD, List.getElem?_eq_getElem (by omega)]
  rfl

/-! ### the outputs -/
def outK (m : TModule) (vs : List Nat) (k : Nat) : List Int := ((List.range k).filter fun i : Nat => decide (kindAt m.1 (i : Int) = 1)).map fun i : Nat => ((vs.getD i 0 : Nat) : Int)
def outV (m : TModule) (vs : List Nat) : List Int := outK m vs m.1.length
theorem outK_yes {m : TModule} {vs : List Nat} {k : Nat} (h : kindAt m.1 (k : Int) = 1) : outK m vs (k + 1) = outK m vs k ++ [((vs.getD k 0 : Nat) : Int)] := by
 unfold outK
 rw [List.range_succ, List.filter_append]
 simp [h]
theorem outK_no {m : TModule} {vs : List Nat} {k : Nat} (h : ¬ kindAt m.1 (k : Int) = 1) : outK m vs (k + 1) = outK m vs k := by
 unfold outK
 rw [List.range_succ, List.filter_append]
 simp [h]
theorem outK_len (m : TModule) (vs : List Nat) (k : Nat) : (outK m vs k).length ≤ k := by
 unfold outK
 rw [List.length_map]
 exact Nat.le_trans (List.length_filter_le ..) (by simp)

/-! ### a step -/
noncomputable def stpS (m : TModule) (st : TWordState) (ins : List Int) : TWordState := if sigOk m st ins then nextN m st.2 (sigN m st ins) else ([], [])
noncomputable def stpO (m : TModule) (st : TWordState) (ins : List Int) : List Int := if sigOk m st ins then outV m (sigN m st ins) else []
theorem stp_ok {m : TModule} {st : TWordState} {ins : List Int} (h : sigOk m st ins = true) : wsB m st = true ∧ ins.length = (widthsM m 0).length := by
 unfold sigOk at h
 simp only [Bool.and_eq_true, decide_eq_true_eq] at h
 exact h
theorem stpS_sz (m : TModule) (st : TWordState) (ins : List Int) : sWordState (stpS m st ins) ≤ 1048576 := by
 unfold stpS sWordState
 split
 ·rename_i h
  obtain ⟨hf, _, h2, _, _⟩ := wsB_iff (stp_ok h).1
  have h1 := okE_na (flat_ok hf).1
  rw [szI, szI]
  simp only [nextN, mvK_len, mwK_len]
  omega
 ·decide
theorem stpO_sz (m : TModule) (st : TWordState) (ins : List Int) : szL sInt (stpO m st ins) ≤ 1048576 := by
 rw [szI]
 unfold stpO
 split
 ·rename_i h
  have h1 := okE_na (flat_ok (wsB_iff (stp_ok h).1).1).1
  have h2 := outK_len m (sigN m st ins) m.1.length
  unfold outV
  omega
 ·simp
/-- two results, each in blocks of its own -/
def StepQ (w w' : World) (e : Ending) (s : TWordState) (o : List Int) : Prop :=
 ∃ (v1 v2 : Value) (T1 T2 : Nat → Prop), e = .returned (.tuple #[v1, v2]) ∧ (∀ b, T1 b → New w w' b) ∧ (∀ b, T2 b → New w w' b) ∧ (∀ b, T1 b → T2 b → False) ∧ QWordState w' T1 v1 s ∧ QIntS w' T2 v2 o ∧ Below w.heap.size w w'
theorem q_zeroW (w : World) (S : Nat → Prop) : QWordState w S (.agg #[.slice none 0 0, .slice none 0 0]) ([], []) :=
 ⟨_, _, fun _ _ => False, rfl, fun _ _ h => h.elim, fun _ _ _ h => h.elim, sep_nil _ _, sep_nil _ _⟩
end Go.Proofs.Ytlkjdhjeecogjaa

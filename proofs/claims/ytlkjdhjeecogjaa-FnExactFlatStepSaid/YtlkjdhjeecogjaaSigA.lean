/- Contracts: a copy of numbers; the values of all signals in a cycle: the program's function. -/
import Derived.Test.YtlkjdhjeecogjaaSigP
import Derived.Outline
namespace Go.Proofs.Ytlkjdhjeecogjaa
open Go.RowKit

theorem rep_reads {w : World} {S : Nat → Prop} {B n c : Nat} {A : Option Addr} {l : List Int} (h : Rep w S (.slice A n c) (fIntS l)) (hS : ∀ b, S b → b < B) : Reads w B 1 A n (ints l) := by
 have h1 := Rep.to_reads (enc := fun x : Int => [x]) (size := 1) (fun _ => rfl) (by decide) h hS
 rw [ints_recs]
 exact h1
theorem own_repB {w : World} {base n c : Nat} {e : TypeId} {A : Option Addr} {l : List Int} (hm : n ≤ maxLen) (h : w.ownsRow base e 1 (.slice A n c) n (ints l)) : RepB w w.heap.size (.slice A n c) (fIntS l) :=
 (sep_ints (S := fun b => b < w.heap.size) hm h (fun g hg => (h.lt g hg).2)).rep
set_option maxRecDepth 100000 in
set_option maxHeartbeats 2000000 in
theorem i_copyInts {w : World} {S : Nat → Prop} {A : Option Addr} {n c : Nat} {l : List Int} (h : Rep w S (.slice A n c) (fIntS l)) (hS : ∀ b, S b → b < w.heap.size) (hn : n ≤ 1000000) :
  Calls Try.prog 125 #[.slice A n c] w fun e w' => ∃ g c' : Nat, e = .returned (.slice (some ⟨g, 0, none⟩) n c') ∧ w'.ownsRow w.heap.size 3 1 (.slice (some ⟨g, 0, none⟩) n c') n (ints l) ∧ Below w.heap.size w w' := by
 obtain ⟨i0, hi, hz0, hz1, hz2⟩ := info_parts Try.infoIntC
 have hl := h.len
 rw [List.length_map] at hl
 have hr := (rep_reads h hS).alloc (Nat.le_refl _) (.cells #[] 3)
 have HO := World.ownsRow_made (base := w.heap.size) (size := 1) (e := 3) w #[] 0 (Nat.le_refl _) (by unfold maxLen; omega) rfl
 have HB := Lib.hid ((Below.refl w.heap.size w).alloc (Nat.le_refl _) (.cells #[] 3))
 go_enter Try.func125, Try.ntmps125
 go_wp2_with (at_builtin; refine wpList_append_any _ rfl _ _ 28 rfl (w.heap.size) 3 i0 (.int .i64 0) 1 8 Try.underlying28 hi hz0 hz1 hz2 rfl (by decide) _ _ _ rfl HO _ _ n c (ints l) rfl hr (ints_one _) (by unfold maxLen; omega) (by omega) (by simp) ?_; intro v7 w7 hown7 hgrow7 hblk7; refine stopX ?_)
 refine stopped ?_
 have hb7 := Lib.hid (HB.out.trans (below_of_grown hgrow7 (by simp) (fun g hg => (HO.lt g hg).1)))
 rw [Nat.zero_add, List.nil_append] at hown7
 obtain ⟨g7, c7, rfl⟩ : ∃ g c, v7 = .slice (some ⟨g, 0, none⟩) n c := by
  rcases hown7.2 with ⟨rfl, _⟩ | ⟨g, cap, cur, rfl, _⟩
  ·exfalso
   rcases hblk7 with h1 | h1
   ·have h2 : (none : Option Nat) = some _ := h1
    cases h2
   ·have h2 : (none : Option Nat) = some _ := h1
    cases h2
  ·exact ⟨g, cap, rfl⟩
 have Hown7 := Lib.hid hown7
 clear hown7 hgrow7 hblk7 HO hr h
 go_wp2_with fail
 go_ret
 exact ⟨_, _, rfl, Hown7.out, hb7.out⟩

/-! ### what is known of the values on the way -/
theorem inpL_bd {m : TModule} {vs : List Nat} {ins : List Int} (hf : flatB m = true) (hv : ∀ x ∈ vs, x ≤ 15) : ∀ k, ∀ x ∈ inpK m vs ins k, x ≤ 15 := by
 intro k x hx
 unfold inpK at hx
 obtain ⟨i, hi, rfl⟩ := List.mem_map.1 hx
 have hi' := List.mem_range.1 hi
 have hb : vs.getD i 0 ≤ 15 := by
  rw [List.getD_eq_getElem?_getD]
  cases hq : vs[i]? with
  | none => simp
  | some y => exact hv y (List.mem_of_getElem? hq)
 split
 ·unfold inpA
  split
  ·have hg : m.1[i]? = some m.1[i] := List.getElem?_eq_getElem hi'
   rw [widAt_get hg]
   have h1 := cutN_le (ins.getD (cntIn m i) 0) (mskN (m.1[i]).2.1)
   have h2 := (mask_le (mskN_is (flat_wid hf hg))).2
   omega
  ·exact hb
 ·exact hb
theorem ev_asg {m : TModule} (hf : flatB m = true) {i : Nat} {a : Int} {os : List TOp} (hi : m.2.1[i]? = some (a, os)) (vs : List Nat) (M : Nat) : opsB os m.1.length = true ∧ Ev os vs M 0 (evF os vs M) os.length := by
 obtain ⟨_, _, _, hA, _, _⟩ := okE_iff.1 (flat_ok hf).1
 obtain ⟨_, _, h3⟩ := asgB_iff.1 (List.all_eq_true.1 hA _ (List.mem_of_getElem? hi))
 have h4 := List.all_eq_true.1 (flat_sum hf).1 _ (List.mem_of_getElem? hi)
 unfold noP1 at h4
 have h5 : hasP os = false := by simpa using h4
 exact ⟨h3, evF_ev h3 h5⟩
theorem tgt_wid {m : TModule} (hf : flatB m = true) {i : Nat} {a : Int} {os : List TOp} (hi : m.2.1[i]? = some (a, os)) : ∃ (s : Nat) (x : TSignal), a = (s : Int) ∧ m.1[s]? = some x ∧ 1 ≤ x.2.1 ∧ x.2.1 ≤ 4 := by
 obtain ⟨s, rfl, hs, _, _⟩ := okE_asg (flat_ok hf).1 hi
 have hg : m.1[s]? = some m.1[s] := List.getElem?_eq_getElem hs
 exact ⟨s, _, rfl, hg, flat_wid hf hg⟩
theorem asgV_bd {m : TModule} (hf : flatB m = true) {i : Nat} (hi : i < m.2.1.length) {vs : List Nat} (hv : ∀ x ∈ vs, x ≤ 15) : ∀ x ∈ asgV m vs i, x ≤ 15 := by
 intro x hx
 obtain ⟨⟨a, os⟩, ha⟩ : ∃ a, m.2.1[i]? = some a := ⟨_, List.getElem?_eq_getElem hi⟩
 unfold asgV at hx
 rw [asgA_get ha] at hx
 rcases List.mem_or_eq_of_mem_set hx with h1 | h1
 ·exact hv x h1
 ·obtain ⟨s, y, rfl, hy, hw⟩ := tgt_wid hf ha
  have h2 := (ev_asg hf ha vs (mskN (widAt m.1 (s : Int)))).2
  rw [widAt_get hy] at h1 h2
  have hM := mskN_is hw
  have h3 := h2.le hM
  have h4 := (mask_le hM).2
  simp only at h1
  omega
theorem runV_bd {m : TModule} (hf : flatB m = true) : ∀ (l : List Nat) (vs : List Nat), (∀ i ∈ l, i < m.2.1.length) → (∀ x ∈ vs, x ≤ 15) → ∀ x ∈ runV m vs l, x ≤ 15
 | [], _vs, _, hv => hv
 | i :: l, vs, hl, hv => runV_bd hf l (asgV m vs i) (fun j hj => hl j (List.mem_cons_of_mem _ hj)) (asgV_bd hf (hl i (List.mem_cons_self ..)) hv)
theorem ordN_mem {m : TModule} (h : okE m = true) : ∀ i ∈ ordN m, i < m.2.1.length := by
 unfold ordN
 rw [if_pos h]
 have key : ∀ (f : Nat) (todo out r : List Nat), EvoI m todo out → f = todo.length → evo m f todo out = some r → ∀ i ∈ r, i < m.2.1.length := by
  intro f
  induction f with
  | zero =>
   intro todo out r hI hf he i hi
   simp only [evo, Option.some.injEq] at he
   subst he
   exact hI.omem i hi
  | succ f ih =>
   intro todo out r hI hf he i hi
   rw [evo] at he
   cases hq : todo.findIdx? (freeB m todo) with
   | none => rw [hq] at he; cases he
   | some k =>
    rw [hq] at he
    simp only at he
    have hk : k < todo.length := by
     rw [List.findIdx?_eq_some_iff_getElem] at hq
     exact hq.1
    have hx : todo[k]? = some todo[k] := List.getElem?_eq_getElem hk
    rw [show todo.getD k 0 = todo[k] by simp [hx]] at he
    exact ih _ _ _ (hI.step hq hx) (by rw [List.length_eraseIdx, if_pos hk]; omega) he i hi
 intro i hi
 cases he : evoM m with
 | none => rw [he] at hi; simp at hi
 | some r =>
  rw [he] at hi
  exact key _ _ _ _ (EvoI.start h) rfl he i hi
theorem wsB_iff {m : TModule} {st : TWordState} (h : wsB m st = true) : flatB m = true ∧ st.1.length = m.1.length ∧ st.2.length = 4 * m.2.2.2.length ∧ (∀ i, i < m.1.length → wvB m st i = true) ∧ (∀ i, i < st.2.length → wwB m st i = true) := by
 unfold wsB at h
 simp only [Bool.and_eq_true, decide_eq_true_eq, List.all_eq_true, List.mem_range] at h
 obtain ⟨h1, h2, h3, h4, h5⟩ := h
 exact ⟨h1, h2, h3, h4, h5⟩
/-- the values of a state are small -/
theorem ws_vals {m : TModule} {st : TWordState} (h : wsB m st = true) : st.1 = nI (natL st.1) ∧ ∀ x ∈ natL st.1, x ≤ 15 := by
 obtain ⟨hf, hl, _, hv, _⟩ := wsB_iff h
 have key : ∀ x ∈ st.1, 0 ≤ x ∧ x ≤ 15 := by
  intro x hx
  obtain ⟨i, hi⟩ := List.mem_iff_getElem?.1 hx
  have hil : i < m.1.length := by have := (List.getElem?_eq_some_iff.1 hi).1; omega
  have h1 := hv i hil
  unfold wvB at h1
  rw [show st.1.getD i 0 = x by simp [List.getD, hi]] at h1
  have hg : m.1[i]? = some m.1[i] := List.getElem?_eq_getElem hil
  rw [widAt_get hg] at h1
  have h2 := (mask_le (mskN_is (flat_wid hf hg))).2
  split at h1
  ·have := inR_iff.1 h1; omega
  ·simp at h1; omega
 constructor
 ·apply List.ext_getElem?
  intro i
  rw [nI_get, natL, List.getElem?_map]
  cases hi : st.1[i]? with
  | none => rfl
  | some x =>
   have := key x (List.mem_of_getElem? hi)
   simp
   omega
 ·intro x hx
  obtain ⟨y, hy, rfl⟩ := List.mem_map.1 hx
  have := key y hy
  omega
end Go.Proofs.Ytlkjdhjeecogjaa

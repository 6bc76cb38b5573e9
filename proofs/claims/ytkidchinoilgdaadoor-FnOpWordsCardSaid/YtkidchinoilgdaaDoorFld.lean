/- Plain fields: the fields of a line, joined by single spaces, have the same fields. -/
import Derived.Test.YtkidchinoilgdaaDoorSplit
namespace Go.Proofs.YtkidchinoilgdaaDoor
open Go.RowKit

/-- each field with one space behind it -/
def joinL (fs : List ByteArray) : List UInt8 := fs.flatMap fun f => f.data.toList ++ [32]
def fldOk (f : ByteArray) : Prop := 0 < f.size ∧ f.size ≤ 600 ∧ ∀ c ∈ f.data.toList, c ≠ 32 ∧ okC c = true

theorem joinL_app (a b : List ByteArray) : joinL (a ++ b) = joinL a ++ joinL b := by simp [joinL]
theorem joinL_one (f : ByteArray) : joinL [f] = f.data.toList ++ [32] := by simp [joinL]
theorem joinL_take_succ {fs : List ByteArray} {k : Nat} {f : ByteArray} (h : fs[k]? = some f) : joinL (fs.take (k + 1)) = joinL (fs.take k) ++ (f.data.toList ++ [32]) := by
 rw [List.take_add_one, h, joinL_app, ← joinL_one]; rfl
theorem joinL_len : ∀ {fs : List ByteArray}, (∀ f ∈ fs, fldOk f) → (joinL fs).length ≤ 601 * fs.length
 | [], _ => by simp [joinL]
 | f :: fs, h => by
  have h1 := (h f (by simp)).2.1
  have h2 := joinL_len (fs := fs) fun x hx => h x (by simp [hx])
  have h3 : f.data.toList.length = f.size := rfl
  rw [show f :: fs = [f] ++ fs from rfl, joinL_app, joinL_one]
  simp only [List.length_append, List.length_cons, List.length_nil]
  omega

theorem ins_lt {s : ByteArray} {j : Nat} (h : insB s j = true) : j < s.size := by
 rcases Nat.lt_or_ge j s.size with h' | h'
 ·exact h'
 ·have : s.data.toList.getD j 32 = 32 := by
   rw [List.getD_eq_getElem?_getD, List.getElem?_eq_none (by simpa using h')]; rfl
  rw [insB, this] at h
  simp at h
theorem ext_list (s : ByteArray) (a b : Nat) : (s.extract a b).data.toList = (s.data.toList.drop a).take (b - a) := by
 simp [ByteArray.data_extract, List.extract_eq_take_drop]

theorem sp_inv (s : ByteArray) : ∀ k, (∀ j, (sp s k).2 ≤ j → j < k → insB s j = true) ∧
  ∀ f ∈ (sp s k).1, ∃ a b, a < b ∧ f = s.extract a b ∧ ∀ j, a ≤ j → j < b → insB s j = true
 | 0 => ⟨fun j _ h => absurd h (Nat.not_lt_zero _), fun f hf => by simp [sp] at hf⟩
 | k + 1 => by
  obtain ⟨h1, h2⟩ := sp_inv s k
  cases hi : insB s k
  ·by_cases hb : (sp s k).2 < k
   ·rw [sp_push hi hb]
    refine ⟨fun j hj hj2 => by simp only at hj; omega, fun f hf => ?_⟩
    rcases List.mem_append.1 hf with hf | hf
    ·exact h2 f hf
    ·simp only [List.mem_singleton] at hf
     exact ⟨_, _, hb, hf, h1⟩
   ·rw [sp_skip hi hb]
    exact ⟨fun j hj hj2 => by simp only at hj; omega, h2⟩
  ·rw [sp_in hi]
   refine ⟨fun j hj hj2 => ?_, h2⟩
   by_cases hjk : j = k
   ·rw [hjk]; exact hi
   ·exact h1 j hj (by omega)

theorem spR_fld {s : ByteArray} : ∀ f ∈ (spR s).1, fldOk f := by
 unfold spR
 split
 ·rename_i h
  intro f hf
  obtain ⟨a, b, hab, rfl, hin⟩ := (sp_inv s _).2 f hf
  have hb : b ≤ s.size := by
   have := ins_lt (hin (b - 1) (by omega) (by omega))
   omega
  have hl := ext_list s a b
  have hsz : (s.extract a b).size = b - a := by
   have h3 : (s.extract a b).data.toList.length = (s.extract a b).size := rfl
   have h4 : s.data.toList.length = s.size := rfl
   rw [← h3, hl, List.length_take, List.length_drop, h4]
   omega
  refine ⟨by omega, by omega, fun c hc => ?_⟩
  rw [hl] at hc
  obtain ⟨i, hi, he⟩ := List.getElem_of_mem hc
  have h4 : s.data.toList.length = s.size := rfl
  have hi2 : i < b - a := by
   rw [List.length_take] at hi
   omega
  rw [List.getElem_take, List.getElem_drop] at he
  have hai : a + i < s.size := by omega
  have hx := hin (a + i) (by omega) (by omega)
  rw [ins_at hai] at hx
  have he' : s[a + i] = c := he
  rw [he'] at hx
  refine ⟨fun h32 => ?_, ?_⟩
  ·subst h32
   simp at hx
  ·exact List.all_eq_true.1 h.2.1 c (by rw [← he]; exact List.getElem_mem _)
 ·intro f hf; simp at hf

theorem sp_steps {s : ByteArray} {pre : List ByteArray} {a : Nat} (h0 : sp s a = (pre, a)) : ∀ m, (∀ j, j < m → insB s (a + j) = true) → sp s (a + m) = (pre, a)
 | 0, _ => h0
 | m + 1, h => by
  rw [← Nat.add_assoc, sp_in (h m (by omega))]
  exact sp_steps h0 m fun j hj => h j (by omega)

theorem sp_join_from (s : ByteArray) : ∀ (fs pre : List ByteArray), s.data.toList = joinL pre ++ joinL fs → (∀ f ∈ fs, fldOk f) → sp s (joinL pre).length = (pre, (joinL pre).length) → sp s s.size = (pre ++ fs, s.size)
 | [], pre, hs, _, h0 => by
  have h4 : s.data.toList.length = s.size := rfl
  rw [hs] at h4
  simp only [joinL, List.flatMap_nil, List.append_nil] at h4 ⊢
  rw [← h4]
  exact h0
 | f :: fs, pre, hs, hf, h0 => by
  have hff := hf f (by simp)
  have hfl : f.data.toList.length = f.size := rfl
  have e1 : joinL (f :: fs) = f.data.toList ++ 32 :: joinL fs := by
   rw [show f :: fs = [f] ++ fs from rfl, joinL_app, joinL_one]; simp
  have hg : ∀ j, s.data.toList.getD ((joinL pre).length + j) 32 = (f.data.toList ++ 32 :: joinL fs).getD j 32 := fun j => by
   rw [hs, e1, List.getD_eq_getElem?_getD, List.getElem?_append_right (by omega), List.getD_eq_getElem?_getD]
   congr 2
   omega
  have h1 : sp s ((joinL pre).length + f.size) = (pre, (joinL pre).length) := by
   refine sp_steps h0 _ fun j hj => ?_
   rw [insB, hg, List.getD_eq_getElem?_getD, List.getElem?_append_left (by omega), List.getElem?_eq_getElem (by omega)]
   have := (hff.2.2 _ (List.getElem_mem (show j < f.data.toList.length by omega))).1
   simpa using this
  have hi : insB s ((joinL pre).length + f.size) = false := by
   rw [insB, hg, List.getD_eq_getElem?_getD, List.getElem?_append_right (by omega), hfl, Nat.sub_self]
   rfl
  have h2 : sp s ((joinL pre).length + f.size + 1) = (pre ++ [f], (joinL pre).length + f.size + 1) := by
   rw [sp_push hi (by rw [h1]; simp only; have := hff.1; omega), h1]
   simp only
   congr 2
   congr 1
   apply ByteArray.ext
   apply Array.toList_inj.1
   rw [ext_list, hs, e1, List.drop_left, show (joinL pre).length + f.size - (joinL pre).length = f.data.toList.length by omega, List.take_left]
  have e2 : (joinL (pre ++ [f])).length = (joinL pre).length + f.size + 1 := by
   rw [joinL_app, joinL_one]; simp; omega
  have := sp_join_from s fs (pre ++ [f]) (by rw [hs, joinL_app, joinL_one, e1]; simp) (fun x hx => hf x (by simp [hx])) (by rw [e2]; exact h2)
  rw [this]
  simp

theorem sp_join {s : ByteArray} {fs : List ByteArray} (hs : s.data.toList = joinL fs) (hf : ∀ f ∈ fs, fldOk f) : sp s (s.size + 1) = (fs, s.size + 1) := by
 have h := sp_join_from s fs [] (by rw [hs]; rfl) hf rfl
 rw [sp_skip ins_end (by rw [h]; simp), h]
 rfl
theorem joinL_ok : ∀ {fs : List ByteArray}, (∀ f ∈ fs, fldOk f) → (joinL fs).all okC = true
 | [], _ => rfl
 | f :: fs, h => by
  have h2 := joinL_ok (fs := fs) fun x hx => h x (by simp [hx])
  rw [show f :: fs = [f] ++ fs from rfl, joinL_app, joinL_one, List.all_append, List.all_append, h2]
  have : f.data.toList.all okC = true := List.all_eq_true.2 fun c hc => ((h f (by simp)).2.2 c hc).2
  rw [this]
  rfl

/-- THE LAW -/
theorem spR_join {s t : ByteArray} (ht : t.data.toList = joinL (spR s).1) (hz : t.size ≤ 600) : spR t = ((spR s).1, true) := by
 have h := sp_join ht spR_fld
 have h2 : t.data.toList.all okC = true := by rw [ht]; exact joinL_ok spR_fld
 rw [spR_yes ⟨hz, h2, by rw [h]; exact spR_len s⟩, h]
end Go.Proofs.YtkidchinoilgdaaDoor

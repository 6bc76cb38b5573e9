/- Plain: levels of the nodes of a net, and what is reached from a node. -/
import Derived.Test.YtlkjdhjeecogjaaNetL
import Derived.Test.YtlkjdhjeecogjaaText
namespace Go.Proofs.Ytlkjdhjeecogjaa

/-- the node of a literal -/
def hf (x : Int) : Nat := (x / 2).toNat
def lvS (l : List Int) (x : Int × Int) : List Int := l ++ [1 + max (l.getD (hf x.1) 0) (l.getD (hf x.2) 0)]
/-- the levels of the nodes -/
def lvL (F : Nat) (xs : List (Int × Int)) : List Int := xs.foldl lvS (List.replicate F 0)
def AndsOk (F : Nat) (xs : List (Int × Int)) : Prop := ∀ (i : Nat) (x : Int × Int), xs[i]? = some x → 0 ≤ x.1 ∧ x.1 < 2 * ((F : Int) + i) ∧ 0 ≤ x.2 ∧ x.2 < 2 * ((F : Int) + i)
theorem AndsOk.lt {F : Nat} {xs : List (Int × Int)} (h : AndsOk F xs) {i : Nat} {x : Int × Int} (hx : xs[i]? = some x) : hf x.1 < F + i ∧ hf x.2 < F + i := by
 have h1 := h i x hx
 unfold hf
 omega
theorem lvL_nil (F : Nat) : lvL F [] = List.replicate F 0 := rfl
theorem lvL_snoc (F : Nat) (xs : List (Int × Int)) (x : Int × Int) : lvL F (xs ++ [x]) = lvS (lvL F xs) x := by simp [lvL]
theorem lvL_len (F : Nat) (xs : List (Int × Int)) : (lvL F xs).length = F + xs.length := by
 induction xs using Tx.snoc_ind with
 | nil => simp [lvL]
 | snoc l a ih => rw [lvL_snoc, lvS, List.length_append, ih, List.length_append]; simp; omega
theorem lvL_take {F : Nat} {xs : List (Int × Int)} {k : Nat} {x : Int × Int} (hx : xs[k]? = some x) : lvL F (xs.take (k + 1)) = lvS (lvL F (xs.take k)) x := by
 rw [List.take_add_one, hx, ← lvL_snoc]
 rfl
theorem lvL_pre {F : Nat} {xs : List (Int × Int)} : ∀ (m k : Nat), k + m ≤ xs.length → ∀ j, j < F + k → (lvL F (xs.take (k + m)))[j]? = (lvL F (xs.take k))[j]?
 | 0, k, _, j, _ => rfl
 | m + 1, k, h, j, hj => by
  have hx : xs[k + m]? = some xs[k + m] := List.getElem?_eq_getElem (by omega)
  rw [show k + (m + 1) = k + m + 1 by omega, lvL_take hx, lvS, List.getElem?_append_left (by rw [lvL_len, List.length_take]; omega)]
  exact lvL_pre m k (by omega) j hj
theorem lvL_pre' {F : Nat} {xs : List (Int × Int)} {k j : Nat} (h : k ≤ xs.length) (hj : j < F + k) : (lvL F xs)[j]? = (lvL F (xs.take k))[j]? := by
 have h1 := lvL_pre (F := F) (xs := xs) (xs.length - k) k (by omega) j hj
 rw [show k + (xs.length - k) = xs.length by omega, List.take_length] at h1
 exact h1
theorem lvL_at {F : Nat} {xs : List (Int × Int)} (hok : AndsOk F xs) {i : Nat} {x : Int × Int} (hx : xs[i]? = some x) :
  (lvL F xs)[F + i]? = some (1 + max ((lvL F xs).getD (hf x.1) 0) ((lvL F xs).getD (hf x.2) 0)) := by
 have hi := (List.getElem?_eq_some_iff.1 hx).1
 have h2 := hok.lt hx
 rw [lvL_pre' (k := i + 1) (by omega) (by omega), lvL_take hx, lvS, List.getElem?_append_right (by rw [lvL_len, List.length_take]; omega)]
 rw [lvL_len, List.length_take, show F + i - (F + min i xs.length) = 0 by omega]
 simp only [List.getElem?_cons_zero, List.getD_eq_getElem?_getD, lvL_pre' (F := F) (xs := xs) (k := i) (by omega) h2.1, lvL_pre' (F := F) (xs := xs) (k := i) (by omega) h2.2]
theorem getD_bd {l : List Int} {m : Int} (h0 : 0 ≤ m) (h : ∀ v ∈ l, 0 ≤ v ∧ v ≤ m) (j : Nat) : 0 ≤ l.getD j 0 ∧ l.getD j 0 ≤ m := by
 rw [List.getD_eq_getElem?_getD]
 cases hj : l[j]? with
 | none => exact ⟨Int.le_refl _, h0⟩
 | some v => exact h v (List.mem_of_getElem? hj)
theorem lvL_bd (F : Nat) (xs : List (Int × Int)) : ∀ v ∈ lvL F xs, 0 ≤ v ∧ v ≤ (xs.length : Int) := by
 induction xs using Tx.snoc_ind with
 | nil => intro v hv; rw [lvL_nil] at hv; have := List.eq_of_mem_replicate hv; subst this; simp
 | snoc l a ih =>
  intro v hv
  rw [lvL_snoc, lvS] at hv
  have h1 := getD_bd (by omega) ih (hf a.1)
  have h2 := getD_bd (by omega) ih (hf a.2)
  rw [List.length_append]
  rcases List.mem_append.1 hv with hv | hv
  ·have := ih v hv
   simp
   omega
  ·simp only [List.mem_singleton] at hv
   subst hv
   simp only [List.length_cons, List.length_nil]
   omega
/-- the levels while they are computed -/
def lvP (F : Nat) (xs : List (Int × Int)) (k : Nat) : List Int := lvL F (xs.take k) ++ List.replicate (xs.length - k) 0
theorem lvP_zero (F : Nat) (xs : List (Int × Int)) : lvP F xs 0 = List.replicate (F + xs.length) 0 := by
 simp [lvP, lvL_nil, List.replicate_append_replicate]
theorem lvP_all {F : Nat} {xs : List (Int × Int)} : lvP F xs xs.length = lvL F xs := by simp [lvP]
theorem lvP_len {F : Nat} {xs : List (Int × Int)} {k : Nat} (h : k ≤ xs.length) : (lvP F xs k).length = F + xs.length := by
 rw [lvP, List.length_append, lvL_len, List.length_take, List.length_replicate]; omega
theorem lvP_get {F : Nat} {xs : List (Int × Int)} {k j : Nat} (h : k ≤ xs.length) (hj : j < F + k) : (lvP F xs k)[j]? = some ((lvL F (xs.take k)).getD j 0) := by
 have hl : j < (lvL F (xs.take k)).length := by rw [lvL_len, List.length_take]; omega
 rw [lvP, List.getElem?_append_left hl, List.getD_eq_getElem?_getD, List.getElem?_eq_getElem hl]
 rfl
theorem lvP_succ {F : Nat} {xs : List (Int × Int)} {k : Nat} {x : Int × Int} (hx : xs[k]? = some x) :
  (lvP F xs k).set (F + k) (1 + max ((lvL F (xs.take k)).getD (hf x.1) 0) ((lvL F (xs.take k)).getD (hf x.2) 0)) = lvP F xs (k + 1) := by
 have hk := (List.getElem?_eq_some_iff.1 hx).1
 have hl : (lvL F (xs.take k)).length = F + k := by rw [lvL_len, List.length_take]; omega
 rw [lvP, lvP, lvL_take hx, lvS, List.set_append_right _ _ (by omega), hl, Nat.sub_self, show xs.length - k = (xs.length - (k + 1)) + 1 by omega, List.replicate_succ, List.set_cons_zero, List.append_assoc]
 rfl
/-- the greatest level of the first roots -/
def bestL (lv rs : List Int) : Int := rs.foldl (fun b r => max b (lv.getD (hf r) 0)) 0
theorem bestL_take {lv rs : List Int} {k : Nat} {r : Int} (h : rs[k]? = some r) : bestL lv (rs.take (k + 1)) = max (bestL lv (rs.take k)) (lv.getD (hf r) 0) := by
 rw [List.take_add_one, h]
 simp [bestL]
theorem bestL_bd {lv : List Int} {m : Int} (h0 : 0 ≤ m) (h : ∀ v ∈ lv, 0 ≤ v ∧ v ≤ m) (rs : List Int) : 0 ≤ bestL lv rs ∧ bestL lv rs ≤ m := by
 induction rs using Tx.snoc_ind with
 | nil => exact ⟨Int.le_refl _, h0⟩
 | snoc l a ih =>
  have h1 := getD_bd h0 h (hf a)
  have h2 : bestL lv (l ++ [a]) = max (bestL lv l) (lv.getD (hf a) 0) := by simp [bestL]
  rw [h2]
  omega

/-- node j is reached from node v -/
inductive Rch (F : Nat) (xs : List (Int × Int)) (v : Nat) : Nat → Prop where
 | self : Rch F xs v v
 | a {u : Nat} {x : Int × Int} : Rch F xs v u → F ≤ u → xs[u - F]? = some x → Rch F xs v (hf x.1)
 | b {u : Nat} {x : Int × Int} : Rch F xs v u → F ≤ u → xs[u - F]? = some x → Rch F xs v (hf x.2)
section
variable {F : Nat} {xs : List (Int × Int)}
theorem Rch.trans {v u j : Nat} (h : Rch F xs v u) (k : Rch F xs u j) : Rch F xs v j := by
 induction k with
 | self => exact h
 | a _ h1 h2 ih => exact .a ih h1 h2
 | b _ h1 h2 ih => exact .b ih h1 h2
theorem Rch.head {v j : Nat} (h : Rch F xs v j) : j = v ∨ ∃ x, F ≤ v ∧ xs[v - F]? = some x ∧ (Rch F xs (hf x.1) j ∨ Rch F xs (hf x.2) j) := by
 induction h with
 | self => exact .inl rfl
 | a h h1 h2 ih =>
  rcases ih with rfl | ⟨y, h3, h4, h5⟩
  ·exact .inr ⟨_, h1, h2, .inl .self⟩
  ·exact .inr ⟨y, h3, h4, h5.imp (fun h => .a h h1 h2) (fun h => .a h h1 h2)⟩
 | b h h1 h2 ih =>
  rcases ih with rfl | ⟨y, h3, h4, h5⟩
  ·exact .inr ⟨_, h1, h2, .inr .self⟩
  ·exact .inr ⟨y, h3, h4, h5.imp (fun h => .b h h1 h2) (fun h => .b h h1 h2)⟩
theorem child_lt (hok : AndsOk F xs) {u : Nat} {x : Int × Int} (h1 : F ≤ u) (h2 : xs[u - F]? = some x) : hf x.1 < u ∧ hf x.2 < u := by
 have h3 := hok.lt h2
 omega
theorem Rch.le (hok : AndsOk F xs) {v j : Nat} (h : Rch F xs v j) : j ≤ v := by
 induction h with
 | self => exact Nat.le_refl _
 | a _ h1 h2 ih => have := (child_lt hok h1 h2).1; omega
 | b _ h1 h2 ih => have := (child_lt hok h1 h2).2; omega
/-- below k, marks are closed under the edges -/
def ClosedB (F : Nat) (xs : List (Int × Int)) (k : Nat) (s : List Bool) : Prop := ∀ u, u < k → s[u]? = some true → F ≤ u → ∀ x, xs[u - F]? = some x → s[hf x.1]? = some true ∧ s[hf x.2]? = some true
/-- s' is s with all marked that is reached from v -/
def MarkTo (F : Nat) (xs : List (Int × Int)) (s s' : List Bool) (v : Nat) : Prop := s'.length = s.length ∧ ∀ j, j < s.length → (s'[j]? = some true ↔ s[j]? = some true ∨ Rch F xs v j)
theorem ClosedB.rch (hok : AndsOk F xs) {k v j : Nat} {s : List Bool} (h : ClosedB F xs k s) (hv : v < k) (hs : s[v]? = some true) (hr : Rch F xs v j) : s[j]? = some true := by
 induction hr with
 | self => exact hs
 | a hr h1 h2 ih => exact (h _ (by have := hr.le hok; omega) ih h1 _ h2).1
 | b hr h1 h2 ih => exact (h _ (by have := hr.le hok; omega) ih h1 _ h2).2
theorem mark_there (hok : AndsOk F xs) {v : Nat} {s : List Bool} (h : ClosedB F xs (v + 1) s) (hs : s[v]? = some true) : MarkTo F xs s s v :=
 ⟨rfl, fun _j _hj => ⟨.inl, fun hh => hh.elim id fun hr => h.rch hok (Nat.lt_succ_self _) hs hr⟩⟩
theorem set_true {s : List Bool} {v j : Nat} (hj : j < s.length) : (s.set v true)[j]? = some true ↔ s[j]? = some true ∨ j = v := by
 by_cases h : j = v
 ·subst h; rw [List.getElem?_set_self hj]; simp
 ·rw [List.getElem?_set_ne (fun e => h e.symm)]; simp [h]
theorem mark_leaf {v : Nat} {s : List Bool} (hv : v < F) : MarkTo F xs s (s.set v true) v :=
 ⟨by simp, fun j hj => by
  rw [set_true hj]
  refine or_congr_right ⟨fun h => by subst h; exact .self, fun h => ?_⟩
  rcases h.head with h | ⟨x, h1, _⟩
  ·exact h
  ·omega⟩
theorem mark_step {v : Nat} {s s1 s2 : List Bool} {x : Int × Int} (hv : F ≤ v) (hx : xs[v - F]? = some x) (h1 : MarkTo F xs (s.set v true) s1 (hf x.1)) (h2 : MarkTo F xs s1 s2 (hf x.2)) : MarkTo F xs s s2 v := by
 have l1 : s1.length = s.length := by rw [h1.1, List.length_set]
 refine ⟨by rw [h2.1, l1], fun j hj => ?_⟩
 rw [h2.2 j (by omega), h1.2 j (by rw [List.length_set]; exact hj), set_true hj]
 constructor
 ·rintro (((h | h) | h) | h)
  ·exact .inl h
  ·subst h; exact .inr .self
  ·exact .inr ((Rch.a .self hv hx).trans h)
  ·exact .inr ((Rch.b .self hv hx).trans h)
 ·rintro (h | h)
  ·exact .inl (.inl (.inl h))
  ·rcases h.head with h | ⟨y, _, h4, h5⟩
   ·exact .inl (.inl (.inr h))
   ·rw [hx] at h4
    injection h4 with h4
    subst h4
    rcases h5 with h | h
    ·exact .inl (.inr h)
    ·exact .inr h
theorem ClosedB.less {k k' : Nat} {s : List Bool} (h : ClosedB F xs k s) (hk : k' ≤ k) : ClosedB F xs k' s := fun u hu => h u (by omega)
theorem ClosedB.set_ {k v : Nat} {s : List Bool} (h : ClosedB F xs k s) (hk : k ≤ v) (hok : AndsOk F xs) (hl : v < s.length) : ClosedB F xs k (s.set v true) := by
 intro u hu hs h1 x hx
 have h2 := child_lt hok h1 hx
 rw [set_true (by omega)] at hs
 have h3 := h u hu (hs.resolve_right (by omega)) h1 x hx
 rw [set_true (by omega), set_true (by omega)]
 exact ⟨.inl h3.1, .inl h3.2⟩
theorem ClosedB.mark (hok : AndsOk F xs) {k v : Nat} {s s' : List Bool} (h : ClosedB F xs k s) (hm : MarkTo F xs s s' v) (hk : k ≤ s.length) : ClosedB F xs k s' := by
 intro u hu hs h1 x hx
 have h2 := child_lt hok h1 hx
 rw [hm.2 u (by omega)] at hs
 rw [hm.2 _ (by omega), hm.2 _ (by omega)]
 rcases hs with hs | hs
 ·have h3 := h u hu hs h1 x hx
  exact ⟨.inl h3.1, .inl h3.2⟩
 ·exact ⟨.inr (.a hs h1 hx), .inr (.b hs h1 hx)⟩
/-- the marks of what the first roots reach -/
def RootsTo (F : Nat) (xs : List (Int × Int)) (rs : List Int) (s : List Bool) : Prop := ∀ j, j < s.length → (s[j]? = some true ↔ ∃ r ∈ rs, Rch F xs (hf r) j)
theorem RootsTo.step {rs : List Int} {k : Nat} {r : Int} {s s' : List Bool} (h : RootsTo F xs (rs.take k) s) (hr : rs[k]? = some r) (hm : MarkTo F xs s s' (hf r)) : RootsTo F xs (rs.take (k + 1)) s' := by
 intro j hj
 rw [hm.1] at hj
 rw [hm.2 j hj, h j hj, List.take_add_one, hr]
 constructor
 ·rintro (⟨q, h1, h2⟩ | h)
  ·exact ⟨q, List.mem_append_left _ h1, h2⟩
  ·exact ⟨r, List.mem_append_right _ (by simp), h⟩
 ·rintro ⟨q, h1, h2⟩
  rcases List.mem_append.1 h1 with h1 | h1
  ·exact .inl ⟨q, h1, h2⟩
  ·simp at h1
   subst h1
   exact .inr h2
theorem RootsTo.closed {rs : List Int} {s : List Bool} (hok : AndsOk F xs) (h : RootsTo F xs rs s) : ClosedB F xs s.length s := by
 intro u hu hs h1 x hx
 have h2 := child_lt hok h1 hx
 rw [h u hu] at hs
 obtain ⟨r, hr, hs⟩ := hs
 rw [h _ (by omega), h _ (by omega)]
 exact ⟨⟨r, hr, .a hs h1 hx⟩, ⟨r, hr, .b hs h1 hx⟩⟩
theorem RootsTo.nil (n : Nat) : RootsTo F xs [] (List.replicate n false) := by
 intro j hj
 rw [List.length_replicate] at hj
 simp [hj]
theorem RootsTo.same {rs : List Int} {s t : List Bool} (h : RootsTo F xs rs s) (h' : RootsTo F xs rs t) (hl : s.length = t.length) : s = t := by
 apply List.ext_getElem?
 intro j
 by_cases hj : j < s.length
 ·have h1 := (h j hj).trans (h' j (by omega)).symm
  rw [List.getElem?_eq_getElem hj, List.getElem?_eq_getElem (by omega)] at h1 ⊢
  simp only [Option.some.injEq] at h1 ⊢
  exact Bool.eq_iff_iff.2 h1
 ·rw [List.getElem?_eq_none (by omega), List.getElem?_eq_none (by omega)]
end
/-- what is marked, a list of numbers -/
def markedL (s : List Bool) (k : Nat) : List Int := ((List.range k).filter fun j => s.getD j false).map fun j => ((j : Nat) : Int)
theorem markedL_succ (s : List Bool) (k : Nat) : markedL s (k + 1) = if s.getD k false then markedL s k ++ [(k : Int)] else markedL s k := by
 unfold markedL
 rw [List.range_succ, List.filter_append, List.map_append]
 by_cases h : s.getD k false = true
 ·rw [if_pos h]; simp only [List.filter_cons, h, if_true, List.filter_nil, List.map_cons, List.map_nil]
 ·rw [if_neg h]; simp only [List.filter_cons, h, List.filter_nil]; simp
theorem markedL_mem {s : List Bool} {x : Int} : x ∈ markedL s s.length ↔ ∃ j : Nat, x = (j : Int) ∧ s[j]? = some true := by
 unfold markedL
 simp only [List.mem_map, List.mem_filter, List.mem_range]
 constructor
 ·rintro ⟨j, ⟨h1, h2⟩, rfl⟩
  refine ⟨j, rfl, ?_⟩
  rw [List.getD_eq_getElem?_getD, List.getElem?_eq_getElem h1] at h2
  rw [List.getElem?_eq_getElem h1]
  simpa using h2
 ·rintro ⟨j, rfl, h⟩
  refine ⟨j, ⟨(List.getElem?_eq_some_iff.1 h).1, ?_⟩, rfl⟩
  rw [List.getD_eq_getElem?_getD, h]
  rfl
theorem markedL_len (s : List Bool) (k : Nat) : (markedL s k).length ≤ k := by
 unfold markedL
 rw [List.length_map]
 exact Nat.le_trans (List.length_filter_le _ _) (by simp)
/-- marks with the numbers of a list added -/
def AddTo (l : List Int) (s s' : List Bool) : Prop := s'.length = s.length ∧ ∀ j, j < s.length → (s'[j]? = some true ↔ s[j]? = some true ∨ (j : Int) ∈ l)
theorem AddTo.nil (s : List Bool) : AddTo [] s s := ⟨rfl, fun j _ => by simp⟩
theorem AddTo.step {l : List Int} {k c : Nat} {s s' : List Bool} (h : AddTo (l.take k) s s') (hc : l[k]? = some (c : Int)) : AddTo (l.take (k + 1)) s (s'.set c true) := by
 refine ⟨by rw [List.length_set]; exact h.1, fun j hj => ?_⟩
 rw [set_true (by rw [h.1]; exact hj), h.2 j hj, List.take_add_one, hc]
 simp only [Option.toList_some, List.mem_append, List.mem_singleton, or_assoc]
 refine or_congr_right (or_congr_right ⟨fun h => by rw [h], fun h => by omega⟩)
theorem AddTo.mark {F : Nat} {xs : List (Int × Int)} {l : List Int} {v : Nat} {s s' : List Bool} (h : AddTo l s s') (hl : ∀ j : Nat, j < s.length → ((j : Int) ∈ l ↔ Rch F xs v j)) : MarkTo F xs s s' v :=
 ⟨h.1, fun j hj => by rw [h.2 j hj, hl j hj]⟩
end Go.Proofs.Ytlkjdhjeecogjaa

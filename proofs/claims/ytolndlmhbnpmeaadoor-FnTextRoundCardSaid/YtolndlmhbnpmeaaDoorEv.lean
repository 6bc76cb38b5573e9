/- Plain: the value of an expression. -/
import Derived.Test.YtolndlmhbnpmeaaDoorGe
import Derived.Test.YtolndlmhbnpmeaaDoorGc
namespace Go.Proofs.YtolndlmhbnpmeaaDoor
open Go.RowKit

/-- stops the walk until facts are laid -/
def StopX (P : Prop) : Prop := P
theorem stopX {P : Prop} (h : StopX P) : P := h
theorem stopped {P : Prop} (h : P) : StopX P := h
/-! ### natural numbers as numbers -/
def nI (l : List Nat) : List Int := l.map fun x : Nat => (x : Int)
theorem nI_len (l : List Nat) : (nI l).length = l.length := by simp [nI]
theorem nI_app (a b : List Nat) : nI (a ++ b) = nI a ++ nI b := by simp [nI]
theorem nI_get (l : List Nat) (k : Nat) : (nI l)[k]? = l[k]?.map fun x : Nat => (x : Int) := by simp [nI]
theorem blkS3 {w : World} {g : Nat} {t : TypeId} {a b c : Value} (h : Blk w g t #[a, b, c]) : w.cell? ⟨g, 0, none⟩ = some a ∧ w.cell? ⟨g, 1, none⟩ = some b ∧ w.cell? ⟨g, 2, none⟩ = some c := ⟨h.cell 0, h.cell 1, h.cell 2⟩
theorem own_nat_at {w : World} {base g n c k : Nat} {e : TypeId} {l : List Nat} (h : w.ownsRow base e 1 (.slice (some ⟨g, 0, none⟩) n c) n (ints (nI l))) (hk : k < n) : ∃ x : Nat, l[k]? = some x ∧ w.cell? ⟨g, k, none⟩ = some (.int .i64 (x : Int)) := by
 have h1 := h.cellAt k (by omega)
 have h2 : (ints (nI l)).length = n := by have := h.1; omega
 rw [ints_len, nI_len] at h2
 have h3 : l[k]? = some l[k] := List.getElem?_eq_getElem (by omega)
 refine ⟨l[k], h3, ?_⟩
 rw [h1, ints_get, nI_get, h3]
 rfl
/-- what an operator without operands is worth; M: the mask -/
def leafV (vals : List Nat) (M : Nat) (k a b : Int) : Nat :=
 if k = 0 then a.toNat &&& M else if k = 2 then vals.getD a.toNat 0 &&& M else ((vals.getD a.toNat 0 >>> b.toNat) &&& 1) &&& M
def binV (M : Nat) (k : Int) (x y : Nat) : Nat :=
 if k = 5 then x &&& y else if k = 6 then x ||| y else if k = 7 then x ^^^ y else if k = 8 then (x + y) &&& M else if k = 9 then (x + (M + 1) - y) &&& M
 else if k = 10 then (if x = y then 1 else 0) else (if x < y then 1 else 0)
/-- operator p begins an expression of value v that ends ahead of e -/
inductive Ev (os : List TOp) (vals : List Nat) (M : Nat) : Nat → Nat → Nat → Prop
 | leaf {p : Nat} {k a b : Int} (h : os[p]? = some (k, a, b)) (hk : k = 0 ∨ k = 2 ∨ k = 3) : Ev os vals M p (leafV vals M k a b) (p + 1)
 | un {p x e : Nat} {a b : Int} (h : os[p]? = some (4, a, b)) (h1 : Ev os vals M (p + 1) x e) : Ev os vals M p (M ^^^ x) e
 | bin {p x y e f : Nat} {k a b : Int} (h : os[p]? = some (k, a, b)) (hk : 5 ≤ k ∧ k ≤ 11) (h1 : Ev os vals M (p + 1) x e) (h2 : Ev os vals M e y f) : Ev os vals M p (binV M k x y) f
 | mux {p x y z e f g : Nat} {a b : Int} (h : os[p]? = some (12, a, b)) (h1 : Ev os vals M (p + 1) x e) (h2 : Ev os vals M e y f) (h3 : Ev os vals M f z g) : Ev os vals M p (if x ≠ 0 then y else z) g
def isMask (M : Nat) : Prop := M = 1 ∨ M = 3 ∨ M = 7 ∨ M = 15
theorem and_le_mask (x M : Nat) : x &&& M ≤ M := Nat.and_le_right
theorem binV_le {M : Nat} (hM : isMask M) {k : Int} {x y : Nat} (hx : x ≤ M) (hy : y ≤ M) : binV M k x y ≤ M := by
 have h1 : 1 ≤ M := by rcases hM with h | h | h | h <;> omega
 obtain ⟨n, hn⟩ : ∃ n, M = 2 ^ n - 1 := by
  rcases hM with h | h | h | h
  ·exact ⟨1, h⟩
  ·exact ⟨2, h⟩
  ·exact ⟨3, h⟩
  ·exact ⟨4, h⟩
 have hp : 0 < 2 ^ n := Nat.two_pow_pos n
 have hx2 : x < 2 ^ n := by omega
 have hy2 : y < 2 ^ n := by omega
 have ho := Nat.or_lt_two_pow hx2 hy2
 have hxo := Nat.xor_lt_two_pow hx2 hy2
 unfold binV
 split
 ·exact Nat.le_trans Nat.and_le_left hx
 ·split
  ·omega
  ·split
   ·omega
   ·split
    ·exact Nat.and_le_right
    ·split
     ·exact Nat.and_le_right
     ·split <;> split <;> omega
theorem Ev.le {os : List TOp} {vals : List Nat} {M p v e : Nat} (hM : isMask M) (h : Ev os vals M p v e) : v ≤ M := by
 induction h with
 | leaf h hk =>
  unfold leafV
  split
  ·exact Nat.and_le_right
  ·split <;> exact Nat.and_le_right
 | un h _ ih =>
  rcases hM with hM | hM | hM | hM
  all_goals
   subst hM
   rw [Nat.xor_comm]
  ·exact Nat.le_of_lt_succ (Nat.xor_lt_two_pow (n := 1) (by omega) (by omega))
  ·exact Nat.le_of_lt_succ (Nat.xor_lt_two_pow (n := 2) (by omega) (by omega))
  ·exact Nat.le_of_lt_succ (Nat.xor_lt_two_pow (n := 3) (by omega) (by omega))
  ·exact Nat.le_of_lt_succ (Nat.xor_lt_two_pow (n := 4) (by omega) (by omega))
 | bin h hk _ _ i1 i2 => exact binV_le hM i1 i2
 | mux h _ _ _ i1 i2 i3 => split <;> assumption
theorem Ev.lt {os : List TOp} {vals : List Nat} {M p v e : Nat} (h : Ev os vals M p v e) : p < e ∧ e ≤ os.length := by
 induction h with
 | leaf h hk => have := (List.getElem?_eq_some_iff.1 h).1; omega
 | un h _ ih => omega
 | bin h hk _ _ i1 i2 => omega
 | mux h _ _ _ i1 i2 i3 => omega
theorem Ev.beg {os : List TOp} {vals : List Nat} {M p v e : Nat} (h : Ev os vals M p v e) : p < os.length := by have := h.lt; omega

/-- the parameter is among the operators -/
def hp1 (o : TOp) : Bool := decide (o.1 = 1)
def hasP (os : List TOp) : Bool := os.any hp1
/-! ### each expression has a value -/
theorem opsB_iff {os : List TOp} {n : Int} : opsB os n = true ↔ os.length ≤ 15 ∧ (∀ j o, os[j]? = some o → nd (os.take j) ≠ 0 ∧ opT n o = true) ∧ nd os = 0 := by
 unfold opsB preB
 simp only [Bool.and_eq_true, decide_eq_true_eq, List.all_eq_true, List.mem_range]
 constructor
 ·rintro ⟨h1, h2, h3⟩
  refine ⟨h1, fun j o hj => ?_, h3⟩
  have := h2 j (List.getElem?_eq_some_iff.1 hj).1
  simpa [List.getD, hj] using this
 ·rintro ⟨h1, h2, h3⟩
  refine ⟨h1, fun j hj => ?_, h3⟩
  have hx : os[j]? = some os[j] := List.getElem?_eq_getElem hj
  simpa [List.getD, hx] using h2 j _ hx
theorem opsB_op {os : List TOp} {n : Int} (h : opsB os n = true) : ∀ o ∈ os, opT n o = true := by
 unfold opsB at h
 simp only [Bool.and_eq_true, decide_eq_true_eq] at h
 obtain ⟨_, h1, _⟩ := h
 unfold preB at h1
 intro o ho
 obtain ⟨j, hj⟩ := List.mem_iff_getElem?.1 ho
 have := List.all_eq_true.1 h1 j (List.mem_range.2 (List.getElem?_eq_some_iff.1 hj).1)
 simp only [Bool.and_eq_true, List.getD, hj, Option.getD_some] at this
 exact this.2
theorem opsB_sig {os : List TOp} {n : Int} (h : opsB os n = true) : ∀ o ∈ os, (o.1 = 2 ∨ o.1 = 3) → 0 ≤ o.2.1 ∧ o.2.1 < n := by
 intro o ho hk
 have h1 := opsB_op h o ho
 unfold opT opB at h1
 rcases hk with hk | hk <;> rw [hk] at h1 <;> simp at h1 <;> omega
theorem opT_kind {n : Int} {k a b : Int} (h : opT n (k, a, b) = true) : 0 ≤ opAr k := by
 unfold opT opB at h
 simp only at h
 split at h
 ·subst_vars; decide
 ·split at h
  ·subst_vars; decide
  ·split at h
   ·subst_vars; decide
   ·simp only [Bool.and_eq_true, decide_eq_true_eq] at h; exact h.1.1
theorem nd_pos {os : List TOp} {n : Int} (h : opsB os n = true) : ∀ j, j < os.length → 1 ≤ nd (os.take j) := by
 obtain ⟨_, h1, _⟩ := opsB_iff.1 h
 intro j
 induction j with
 | zero => intro _; simp [nd]
 | succ j ih =>
  intro hj
  have hx : os[j]? = some os[j] := List.getElem?_eq_getElem (by omega)
  have hx1 : os[j + 1]? = some os[j + 1] := List.getElem?_eq_getElem hj
  have h2 := ih (by omega)
  obtain ⟨⟨k, a, b⟩, ho⟩ : ∃ o, os[j] = o := ⟨_, rfl⟩
  rw [ho] at hx
  have h3 := nd_succ hx
  have h4 := (h1 _ _ hx1).1
  have h5 := opAr_bd k
  have h6 := opT_kind (h1 _ _ hx).2
  simp only at h3
  omega
theorem ev_at {os : List TOp} {vals : List Nat} {M : Nat} {n : Int} (h : opsB os n = true) (hp : hasP os = false) : ∀ q p, os.length - p ≤ q → p < os.length → ∃ v e, Ev os vals M p v e ∧ nd (os.take e) = nd (os.take p) - 1 ∧ p < e ∧ e ≤ os.length := by
 obtain ⟨_, h1, h2⟩ := opsB_iff.1 h
 have hpos := nd_pos h
 have hend : ∀ e, e ≤ os.length → 1 ≤ nd (os.take e) → e < os.length := by
  intro e he hn
  rcases Nat.lt_or_ge e os.length with h' | h'
  ·exact h'
  ·rw [List.take_of_length_le h'] at hn; omega
 intro q
 induction q with
 | zero => intro p hq hlt; omega
 | succ q ih =>
  intro p hq hlt
  have hx : os[p]? = some os[p] := List.getElem?_eq_getElem hlt
  obtain ⟨⟨k, a, b⟩, ho⟩ : ∃ o, os[p] = o := ⟨_, rfl⟩
  rw [ho] at hx
  have h3 := nd_succ hx
  have h4 := opT_kind (h1 _ _ hx).2
  have h5 := hpos p hlt
  have hk1 : k ≠ 1 := by
   rintro rfl
   unfold hasP at hp
   rw [List.any_eq_false] at hp
   exact hp _ (List.mem_of_getElem? hx) (by simp [hp1])
  simp only at h3
  unfold opAr at h3 h4
  by_cases c0 : 0 ≤ k ∧ k ≤ 3
  ·rw [if_pos c0] at h3
   exact ⟨_, p + 1, .leaf hx (by omega), by omega, by omega, by omega⟩
  ·rw [if_neg c0] at h3 h4
   by_cases c1 : k = 4
   ·subst c1
    rw [if_pos rfl] at h3
    have l1 := hend (p + 1) (by omega) (by omega)
    obtain ⟨x, e, e1, e2, e3, e4⟩ := ih (p + 1) (by omega) l1
    exact ⟨_, e, .un hx e1, by omega, by omega, e4⟩
   ·rw [if_neg c1] at h3 h4
    by_cases c2 : 5 ≤ k ∧ k ≤ 11
    ·rw [if_pos c2] at h3
     have l1 := hend (p + 1) (by omega) (by omega)
     obtain ⟨x, e, e1, e2, e3, e4⟩ := ih (p + 1) (by omega) l1
     have l2 := hend e e4 (by omega)
     obtain ⟨y, f, f1, f2, f3, f4⟩ := ih e (by omega) l2
     exact ⟨_, f, .bin hx c2 e1 f1, by omega, by omega, f4⟩
    ·rw [if_neg c2] at h3 h4
     by_cases c3 : k = 12
     ·subst c3
      rw [if_pos rfl] at h3
      have l1 := hend (p + 1) (by omega) (by omega)
      obtain ⟨x, e, e1, e2, e3, e4⟩ := ih (p + 1) (by omega) l1
      have l2 := hend e e4 (by omega)
      obtain ⟨y, f, f1, f2, f3, f4⟩ := ih e (by omega) l2
      have l3 := hend f f4 (by omega)
      obtain ⟨z, g, g1, g2, g3, g4⟩ := ih f (by omega) l3
      exact ⟨_, g, .mux hx e1 f1 g1, by omega, by omega, g4⟩
     ·rw [if_neg c3] at h4
      omega
/-- the whole expression -/
theorem ev_all {os : List TOp} {vals : List Nat} {M : Nat} {n : Int} (h : opsB os n = true) (hp : hasP os = false) : ∃ v, Ev os vals M 0 v os.length := by
 obtain ⟨_, h1, h2⟩ := opsB_iff.1 h
 have h0 : 0 < os.length := by
  rcases Nat.eq_zero_or_pos os.length with hl | hl
  ·rw [List.eq_nil_of_length_eq_zero hl] at h2; simp [nd] at h2
  ·exact hl
 obtain ⟨v, e, h3, h4, h5, h6⟩ := ev_at (vals := vals) (M := M) h hp os.length 0 (by omega) h0
 refine ⟨v, ?_⟩
 rcases Nat.lt_or_ge e os.length with hl | hl
 ·have := nd_pos h e hl
  simp only [List.take_zero] at h4
  rw [nd_nil] at h4
  omega
 ·rwa [show os.length = e by omega]
theorem Ev.det {os : List TOp} {vals : List Nat} {M p v e v' e' : Nat} (h : Ev os vals M p v e) (h' : Ev os vals M p v' e') : v = v' ∧ e = e' := by
 induction h generalizing v' e' with
 | leaf h hk =>
  cases h' with
  | leaf g gk => rw [h] at g; injection g with g; injection g with g1 g2; injection g2 with g2 g3; subst g1 g2 g3; exact ⟨rfl, rfl⟩
  | un g _ => rw [h] at g; injection g with g; injection g with g1 g2; omega
  | bin g gk _ _ => rw [h] at g; injection g with g; injection g with g1 g2; omega
  | mux g _ _ _ => rw [h] at g; injection g with g; injection g with g1 g2; omega
 | un h _ ih =>
  cases h' with
  | leaf g gk => rw [h] at g; injection g with g; injection g with g1 g2; omega
  | un g g1 => obtain ⟨rfl, rfl⟩ := ih g1; exact ⟨rfl, rfl⟩
  | bin g gk _ _ => rw [h] at g; injection g with g; injection g with g1 g2; omega
  | mux g _ _ _ => rw [h] at g; injection g with g; injection g with g1 g2; omega
 | bin h hk _ _ i1 i2 =>
  cases h' with
  | leaf g gk => rw [h] at g; injection g with g; injection g with g1 g2; omega
  | un g g1 => rw [h] at g; injection g with g; injection g with g1 g2; omega
  | bin g gk a1 a2 => rw [h] at g; injection g with g; injection g with g1 g2; subst g1; obtain ⟨rfl, rfl⟩ := i1 a1; obtain ⟨rfl, rfl⟩ := i2 a2; exact ⟨rfl, rfl⟩
  | mux g _ _ _ => rw [h] at g; injection g with g; injection g with g1 g2; omega
 | mux h _ _ _ i1 i2 i3 =>
  cases h' with
  | leaf g gk => rw [h] at g; injection g with g; injection g with g1 g2; omega
  | un g g1 => rw [h] at g; injection g with g; injection g with g1 g2; omega
  | bin g gk a1 a2 => rw [h] at g; injection g with g; injection g with g1 g2; omega
  | mux g a1 a2 a3 => obtain ⟨rfl, rfl⟩ := i1 a1; obtain ⟨rfl, rfl⟩ := i2 a2; obtain ⟨rfl, rfl⟩ := i3 a3; exact ⟨rfl, rfl⟩
end Go.Proofs.YtolndlmhbnpmeaaDoor

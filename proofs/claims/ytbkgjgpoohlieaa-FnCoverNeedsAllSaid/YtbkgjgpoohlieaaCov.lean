/- Plain covers: the primes cover a table, a minimal cover needs all its cubes; no program in sight. -/
import Derived.Test.YtbkgjgpoohlieaaCubeM
namespace Go.Proofs.Ytbkgjgpoohlieaa.Tb

def prs (n b : Nat) : List Cb := prS n (2 ^ n) b (2 ^ n)
theorem mem_prs {n b : Nat} {x : Cb} : x ∈ prs n b ↔ x.1 < 2 ^ n ∧ good (2 ^ n) b x.1 x.2 = true ∧ primeS n (2 ^ n) b x = true := by
 simp only [prs, prS, rowS, List.mem_flatMap, List.mem_range, List.mem_map, List.mem_filter, Bool.and_eq_true]
 constructor
 ·rintro ⟨a, ha, v, ⟨hv, hg, hp⟩, rfl⟩; exact ⟨ha, hg, hp⟩
 ·rintro ⟨h1, h2, h3⟩
  refine ⟨x.1, h1, x.2, ⟨?_, h2, h3⟩, rfl⟩
  have := and_le_of_sub (good_iff.1 h2).1
  omega

/-- all cubes -/
def allC (m c : Nat) : List Cb := (List.range c).flatMap fun c => ((List.range m).filter fun v => andn v c == 0).map fun v => (c, v)
theorem len_filter_le {α : Type} {p q : α → Bool} (h : ∀ x, p x = true → q x = true) : ∀ l : List α, (l.filter p).length ≤ (l.filter q).length
 | [] => by simp
 | x :: l => by
  have ih := len_filter_le h l
  by_cases hp : p x = true
  ·rw [List.filter_cons_of_pos hp, List.filter_cons_of_pos (h x hp)]; simp; exact ih
  ·rw [List.filter_cons_of_neg hp]
   by_cases hq : q x = true
   ·rw [List.filter_cons_of_pos hq]; simp; omega
   ·rw [List.filter_cons_of_neg hq]; exact ih
theorem len_flatMap_le {α β : Type} {f g : α → List β} (h : ∀ x, (f x).length ≤ (g x).length) : ∀ l : List α, (l.flatMap f).length ≤ (l.flatMap g).length
 | [] => by simp
 | x :: l => by
  have ih := len_flatMap_le h l
  have := h x
  simp only [List.flatMap_cons, List.length_append]
  omega
theorem allC_len {n : Nat} (h : n ≤ 4) : (allC (2 ^ n) (2 ^ n)).length ≤ 81 := by
 have : n = 0 ∨ n = 1 ∨ n = 2 ∨ n = 3 ∨ n = 4 := by omega
 rcases this with rfl | rfl | rfl | rfl | rfl <;> decide +kernel
theorem prs_len {n b : Nat} (h : n ≤ 4) : (prs n b).length ≤ 81 := by
 refine Nat.le_trans (len_flatMap_le (fun c => ?_) _) (allC_len h)
 unfold rowS
 rw [List.length_map, List.length_map]
 refine len_filter_le (fun v hv => ?_) _
 simp only [good, Bool.and_eq_true] at hv
 exact hv.1.1

theorem hit_iff {x : Cb} {i : Nat} : hit x i = true ↔ i &&& x.1 = x.2 := by simp [hit]
theorem ctab_bit (m : Nat) (cs : List Cb) (i : Nat) : (ctab m cs).testBit i = (decide (i < m) && cs.any fun x => hit x i) := tab_bit _ _ _

/-- every index with the value true lies in a prime -/
theorem prime_hits {n b i : Nat} (hi : i < 2 ^ n) : ∀ (N : Nat) (x : Cb), x.1 < N → x.1 < 2 ^ n → good (2 ^ n) b x.1 x.2 = true → hit x i = true → ∃ y ∈ prs n b, hit y i = true
 | 0, _, h, _, _, _ => absurd h (Nat.not_lt_zero _)
 | N + 1, x, hN, hx, hg, hh => by
  by_cases hp : primeS n (2 ^ n) b x = true
  ·exact ⟨x, mem_prs.2 ⟨hx, hg, hp⟩, hh⟩
  ·have hp : primeS n (2 ^ n) b x = false := by simpa using hp
   unfold primeS at hp
   rw [List.all_eq_false] at hp
   obtain ⟨k, hk, hkk⟩ := hp
   simp only [Bool.not_eq_true', Bool.and_eq_false_iff, not_or, Bool.not_eq_false] at hkk
   obtain ⟨hb, hi2⟩ := hkk
   have hlt : andn x.1 (2 ^ k) < x.1 := by
    rcases Nat.lt_or_ge (andn x.1 (2 ^ k)) x.1 with h | h
    ·exact h
    ·have e : andn x.1 (2 ^ k) = x.1 := Nat.le_antisymm (andn_le _ _) h
     have := andn_pow_bit x.1 k k
     rw [e, hb] at this
     simp at this
   have hvc := andn_zero.1 (good_iff.1 hg).1
   refine prime_hits hi N (andn x.1 (2 ^ k), andn x.2 (2 ^ k)) (by show andn x.1 (2 ^ k) < N; omega) (by show andn x.1 (2 ^ k) < 2 ^ n; omega) (good_iff.2 ⟨andn_zero.2 fun j hj => ?_, hi2⟩) ?_
   ·rw [andn_pow_bit] at hj ⊢
    simp only [Bool.and_eq_true] at hj ⊢
    exact ⟨hvc j hj.1, hj.2⟩
   ·rw [hit_iff] at hh ⊢
    apply Nat.eq_of_testBit_eq
    intro j
    have hj := congrArg (fun z => Nat.testBit z j) hh
    simp only [Nat.testBit_and] at hj
    simp only [Nat.testBit_and, andn_pow_bit]
    rw [← hj]
    cases i.testBit j <;> simp

theorem and_top {n i : Nat} (hi : i < 2 ^ n) : i &&& (2 ^ n - 1) = i := by
 rw [Nat.and_two_pow_sub_one_eq_mod, Nat.mod_eq_of_lt hi]
theorem prs_cover {n b : Nat} (hb : b < 2 ^ 2 ^ n) : ctab (2 ^ n) (prs n b) = b := by
 apply Nat.eq_of_testBit_eq
 intro i
 rw [ctab_bit]
 by_cases hi : i < 2 ^ n
 ·simp only [hi, decide_true, Bool.true_and]
  rw [Bool.eq_iff_iff, List.any_eq_true]
  constructor
  ·rintro ⟨x, hx, hh⟩
   exact impl_iff.1 (good_iff.1 (mem_prs.1 hx).2.1).2 i hi (hit_iff.1 hh)
  ·intro hbi
   have hp : 0 < 2 ^ n := Nat.two_pow_pos n
   refine prime_hits hi (2 ^ n) (2 ^ n - 1, i) (by show 2 ^ n - 1 < 2 ^ n; omega) (by show 2 ^ n - 1 < 2 ^ n; omega) (good_iff.2 ⟨andn_zero.2 fun j hj => ?_, impl_iff.2 fun j hj he => ?_⟩) (hit_iff.2 (and_top hi))
   ·have hjn : j < n := by
     rcases Nat.lt_or_ge j n with h | h
     ·exact h
     ·rw [bit_big hi h] at hj; cases hj
    simp [Nat.testBit_two_pow_sub_one, hjn]
   ·dsimp only at he
    rw [and_top hj] at he
    rw [he]; exact hbi
 ·simp only [hi, decide_false, Bool.false_and]
  exact (bit_big hb (by omega)).symm

theorem ctab_mono {m : Nat} {a c : List Cb} (h : ∀ x ∈ a, x ∈ c) {i : Nat} (hi : (ctab m a).testBit i = true) : (ctab m c).testBit i = true := by
 rw [ctab_bit, Bool.and_eq_true, List.any_eq_true] at hi ⊢
 obtain ⟨h1, x, hx, hh⟩ := hi
 exact ⟨h1, x, h x hx, hh⟩
theorem ctab_mid {m b : Nat} {a d c : List Cb} (h1 : ∀ x ∈ a, x ∈ d) (h2 : ∀ x ∈ d, x ∈ c) (ha : ctab m a = b) (hc : ctab m c = b) : ctab m d = b := by
 apply Nat.eq_of_testBit_eq
 intro i
 rw [Bool.eq_iff_iff]
 constructor
 ·intro h; rw [← hc]; exact ctab_mono h2 h
 ·intro h; rw [← ha] at h; exact ctab_mono h1 h

theorem eraseIdx_comm {α : Type} : ∀ (l : List α) {j k : Nat}, k ≤ j → (l.eraseIdx k).eraseIdx j = (l.eraseIdx (j + 1)).eraseIdx k
 | [], _, _, _ => by simp
 | _ :: l, j, 0, _ => by simp
 | x :: l, 0, k + 1, h => absurd h (by omega)
 | x :: l, j + 1, k + 1, h => by
  simp only [List.eraseIdx_cons_succ]
  rw [eraseIdx_comm l (by omega)]
/-- what the walk down the list leaves: a cover, a part of the list, of which none from k on can be dropped -/
theorem minC_inv {m b : Nat} : ∀ (k : Nat) (l : List Cb), ctab m l = b → (∀ j, k ≤ j → j < l.length → ctab m (l.eraseIdx j) ≠ b) →
  ctab m (minC m b k l) = b ∧ (minC m b k l).Sublist l ∧ ∀ j, j < (minC m b k l).length → ctab m ((minC m b k l).eraseIdx j) ≠ b
 | 0, l, h1, h2 => ⟨h1, List.Sublist.refl _, fun j hj => h2 j (Nat.zero_le _) hj⟩
 | k + 1, l, h1, h2 => by
  rw [minC]
  by_cases he : ctab m (l.eraseIdx k) = b
  ·rw [if_pos he]
   by_cases hk : k < l.length
   ·have ih := minC_inv k (l.eraseIdx k) he (fun j hj hjl hc => by
     rw [List.length_eraseIdx_of_lt hk] at hjl
     refine h2 (j + 1) (by omega) (by omega) (ctab_mid (a := (l.eraseIdx k).eraseIdx j) (c := l) ?_ ?_ hc h1)
     ·intro x hx
      have hcm : (l.eraseIdx k).eraseIdx j = (l.eraseIdx (j + 1)).eraseIdx k := eraseIdx_comm l hj
      rw [hcm] at hx
      exact List.mem_of_mem_eraseIdx hx
     ·intro x hx; exact List.mem_of_mem_eraseIdx hx)
    exact ⟨ih.1, ih.2.1.trans (List.eraseIdx_sublist l k), ih.2.2⟩
   ·have e : l.eraseIdx k = l := List.eraseIdx_of_length_le (by omega)
    rw [e]
    exact minC_inv k l h1 (fun j hj hjl => by omega)
  ·rw [if_neg he]
   exact minC_inv k l h1 (fun j hj hjl => by
    by_cases hjk : j = k
    ·rw [hjk]; exact he
    ·exact h2 j (by omega) hjl)

def minimal (n b : Nat) : List Cb := minC (2 ^ n) b (prs n b).length (prs n b)
theorem minimal_spec {n b : Nat} (hb : b < 2 ^ 2 ^ n) : ctab (2 ^ n) (minimal n b) = b ∧ (minimal n b).Sublist (prs n b) ∧ ∀ j, j < (minimal n b).length → ctab (2 ^ n) ((minimal n b).eraseIdx j) ≠ b :=
 minC_inv _ _ (prs_cover hb) (fun j h1 h2 => by omega)
theorem minC_len {m b : Nat} : ∀ (k : Nat) (l : List Cb), (minC m b k l).length ≤ l.length
 | 0, _ => Nat.le_refl _
 | k + 1, l => by
  rw [minC]
  refine Nat.le_trans (minC_len k _) ?_
  split
  ·exact List.length_eraseIdx_le ..
  ·exact Nat.le_refl _

/-- a prime without one of its literals spoils the cover -/
theorem wide_not {n b k : Nat} {x : Cb} {rest : List Cb} (hx : x ∈ prs n b) (hk : k < n) (hb : x.1.testBit k = true) : ctab (2 ^ n) (rest ++ [(andn x.1 (2 ^ k), andn x.2 (2 ^ k))]) ≠ b := by
 intro he
 have hp := (mem_prs.1 hx).2.2
 unfold primeS at hp
 have := List.all_eq_true.1 hp k (List.mem_range.2 hk)
 simp only [Bool.not_eq_true', Bool.and_eq_false_iff, hb] at this
 rcases this with h | h
 ·cases h
 ·apply Bool.false_ne_true
  rw [← h]
  refine impl_iff.2 fun i hi hh => ?_
  rw [← he, ctab_bit, Bool.and_eq_true, List.any_eq_true]
  exact ⟨by simpa using hi, (andn x.1 (2 ^ k), andn x.2 (2 ^ k)), by simp, hit_iff.2 hh⟩

/-- the bits below n, as the reference counts them -/
def popS (c : Nat) : Nat → Nat
 | 0 => 0
 | k + 1 => popS c k + c / 2 ^ k % 2
theorem popS_half (c : Nat) : ∀ n, popS c (n + 1) = c % 2 + popS (c / 2) n
 | 0 => by simp [popS]
 | n + 1 => by
  rw [popS, popS_half c n, popS, Nat.div_div_eq_div_mul, Nat.pow_succ']
  omega
theorem pop_eq : ∀ (f c : Nat), c < 2 ^ f → pop f c = popS c f
 | 0, c, h => rfl
 | f + 1, c, h => by
  rw [pop, popS_half]
  by_cases hc : c = 0
  ·subst hc
   rw [if_pos rfl]
   have : ∀ f, popS 0 f = 0 := fun f => by induction f with
    | zero => rfl
    | succ f ih => rw [popS, ih]; simp
   simp [this]
  ·rw [if_neg hc, pop_eq f (c / 2) (by rw [Nat.pow_succ] at h; omega)]
theorem popS_le (c : Nat) : ∀ n, popS c n ≤ n
 | 0 => Nat.le_refl _
 | n + 1 => by rw [popS]; have := popS_le c n; omega
def lits (n : Nat) (cs : List Cb) : Nat := (cs.map fun x => popS x.1 n).sum
theorem lits_le {n : Nat} {a c : List Cb} (h : a.Sublist c) : lits n a ≤ lits n c := by
 unfold lits
 induction h with
 | slnil => exact Nat.le_refl _
 | cons x _ ih => simp only [List.map_cons, List.sum_cons]; omega
 | cons_cons x _ ih => simp only [List.map_cons, List.sum_cons]; omega
end Go.Proofs.Ytbkgjgpoohlieaa.Tb

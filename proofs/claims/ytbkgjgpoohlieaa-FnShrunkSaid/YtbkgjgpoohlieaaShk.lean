/- Plain tables: a shrunk table has the values of the table and depends on all its inputs. -/
import Derived.Test.YtbkgjgpoohlieaaShn
import Derived.Test.YtbkgjgpoohlieaaShr
namespace Go.Proofs.Ytbkgjgpoohlieaa
open Go.RowKit

theorem Tb.spr_bit {l : List Nat} (h : l.Pairwise (· < ·)) (j q : Nat) : ∀ m, m ≤ l.length → ((Tb.spr l j m).testBit q = true ↔ ∃ k, k < m ∧ l.getD k 0 = q ∧ j.testBit k = true)
  | 0, _ => by simp [Tb.spr]
  | m + 1, hm => by
    have ih := Tb.spr_bit h j q m (by omega)
    rw [← Tb.spr_or h j m (by omega), Nat.testBit_or, Bool.or_eq_true, ih]
    constructor
    · rintro (⟨k, hk, h1, h2⟩ | h1)
      · exact ⟨k, by omega, h1, h2⟩
      · cases hj : j.testBit m
        · rw [hj] at h1; simp at h1
        · rw [hj, if_pos rfl, Nat.testBit_two_pow] at h1
          exact ⟨m, by omega, by simpa using h1, hj⟩
    · rintro ⟨k, hk, h1, h2⟩
      by_cases hkm : k = m
      · subst hkm
        right
        rw [h2, if_pos rfl, Nat.testBit_two_pow]
        simpa using h1
      · exact .inl ⟨k, by omega, h1, h2⟩

/-- the bits of i at the places of l, put together -/
def gat (l : List Nat) (i m : Nat) : Nat := Tb.tab (fun k => i.testBit (l.getD k 0)) m
theorem gat_lt (l : List Nat) (i m : Nat) : gat l i m < 2 ^ m := Tb.tab_lt _ _
theorem gat_bit (l : List Nat) (i m k : Nat) : (gat l i m).testBit k = (decide (k < m) && i.testBit (l.getD k 0)) := Tb.tab_bit _ _ _
theorem mem_getD {l : List Nat} {q : Nat} : q ∈ l ↔ ∃ k, k < l.length ∧ l.getD k 0 = q := by
  constructor
  · intro h
    obtain ⟨k, hk, e⟩ := List.getElem_of_mem h
    exact ⟨k, hk, by rw [Tb.getD_el hk, e]⟩
  · rintro ⟨k, hk, rfl⟩
    rw [Tb.getD_el hk]; exact List.getElem_mem hk
theorem spr_gat {l : List Nat} (h : l.Pairwise (· < ·)) (i q : Nat) : (Tb.spr l (gat l i l.length) l.length).testBit q = (decide (q ∈ l) && i.testBit q) := by
  rw [Bool.eq_iff_iff, Tb.spr_bit h _ _ _ (Nat.le_refl _), Bool.and_eq_true, decide_eq_true_eq, mem_getD]
  constructor
  · rintro ⟨k, hk, h1, h2⟩
    rw [gat_bit] at h2
    simp only [hk, decide_true, Bool.true_and, h1] at h2
    exact ⟨⟨k, hk, h1⟩, h2⟩
  · rintro ⟨⟨k, hk, h1⟩, h2⟩
    refine ⟨k, hk, h1, ?_⟩
    rw [gat_bit, h1, h2]
    simpa using hk
theorem getD_inj {l : List Nat} (h : l.Pairwise (· < ·)) {a b : Nat} (ha : a < l.length) (hb : b < l.length) (e : l.getD a 0 = l.getD b 0) : a = b := by
  rcases Nat.lt_trichotomy a b with hlt | heq | hlt
  · have := Tb.asc_lt h hlt hb; omega
  · exact heq
  · have := Tb.asc_lt h hlt ha; omega
theorem gat_set {l : List Nat} (h : l.Pairwise (· < ·)) {q : Nat} (hq : q < l.length) (v : Bool) (i : Nat) : gat l (Tb.setb (l.getD q 0) v i) l.length = Tb.setb q v (gat l i l.length) := by
  apply Nat.eq_of_testBit_eq
  intro k
  rw [gat_bit, Tb.setb_bit, Tb.setb_bit, gat_bit]
  by_cases hk : k < l.length
  · by_cases hkq : q = k
    · subst hkq; simp [hk]
    · rw [if_neg hkq, if_neg (fun e => hkq (getD_inj h hq hk e))]
  · have hqk : ¬ q = k := by omega
    simp [hk, hqk]

/-- i without the bits outside S, below k -/
def clr (S : List Nat) (i : Nat) : Nat → Nat
  | 0 => i
  | k + 1 => if k ∈ S then clr S i k else Tb.setb k false (clr S i k)
theorem clr_lt {S : List Nat} {i n : Nat} (h : i < 2 ^ n) : ∀ k, k ≤ n → clr S i k < 2 ^ n
  | 0, _ => h
  | k + 1, hk => by
    rw [clr]
    split
    · exact clr_lt h k (by omega)
    · exact Tb.setb_lt (by omega) (clr_lt h k (by omega))
theorem clr_bit (S : List Nat) (i q : Nat) : ∀ k, (clr S i k).testBit q = if q < k then (decide (q ∈ S) && i.testBit q) else i.testBit q
  | 0 => by simp [clr]
  | k + 1 => by
    have ih := clr_bit S i q k
    rw [clr]
    by_cases hk : k ∈ S
    · rw [if_pos hk, ih]
      by_cases hq : q = k
      · subst hq; simp [hk]
      · by_cases h1 : q < k
        · rw [if_pos h1, if_pos (by omega)]
        · rw [if_neg h1, if_neg (by omega)]
    · rw [if_neg hk, Tb.setb_bit, ih]
      by_cases hq : k = q
      · subst hq; simp [hk]
      · rw [if_neg hq]
        by_cases h1 : q < k
        · rw [if_pos h1, if_pos (by omega)]
        · rw [if_neg h1, if_neg (by omega)]

theorem dep_not {n : Int} {b k : Nat} (h : tOk n b = true) (hk : (k : Int) < n) (hd : tDep n b k = false) {i : Nat} (hi : i < 2 ^ n.toNat) (v : Bool) : b.testBit (Tb.setb k v i) = b.testBit i := by
  have h3 : inR (k : Int) 0 (n - 1) = true := inR_iff.2 (by omega)
  rw [tDep_of h h3, tCof_eq h (by omega) hk, tCof_eq h (by omega) hk] at hd
  simp only [decide_eq_false_iff_not, ne_eq, Classical.not_not] at hd
  have he : Tb.cof n.toNat b k false = Tb.cof n.toNat b k true := by
    have := Int.ofNat.inj hd
    simpa using this
  have hb := congrArg (fun x => x.testBit i) he
  simp only [Tb.cof_bit hi] at hb
  cases hx : i.testBit k
  · have e := Tb.setb_self hx
    cases v
    · rw [e]
    · rw [← hb, e]
  · have e := Tb.setb_self hx
    cases v
    · rw [hb, e]
    · rw [e]
theorem dep_yes {n : Int} {b k : Nat} (h : tOk n b = true) (hk : (k : Int) < n) (hd : tDep n b k = true) : ∃ i, i < 2 ^ n.toNat ∧ b.testBit (Tb.setb k false i) ≠ b.testBit (Tb.setb k true i) := by
  refine Classical.byContradiction fun hno => ?_
  have h3 : inR (k : Int) 0 (n - 1) = true := inR_iff.2 (by omega)
  rw [tDep_of h h3, tCof_eq h (by omega) hk, tCof_eq h (by omega) hk] at hd
  simp only [decide_eq_true_eq] at hd
  apply hd
  congr 1
  unfold Tb.cof
  apply Tb.tab_congr
  intro i hi
  exact Classical.byContradiction fun hne => hno ⟨i, hi, hne⟩

/-- clearing the inputs on which the table does not depend changes nothing -/
theorem clr_ev {n : Int} {b : Nat} (h : tOk n b = true) {i : Nat} (hi : i < 2 ^ n.toNat) : ∀ k, k ≤ n.toNat → b.testBit (clr (supN n b) i k) = b.testBit i
  | 0, _ => rfl
  | k + 1, hk => by
    have ih := clr_ev h hi k (by omega)
    rw [clr]
    split
    · exact ih
    · rename_i hks
      have hn1 := (inR_iff.1 (tOk_split h).1).2
      have hd : tDep n b k = false := by
        cases hd : tDep n b k
        · rfl
        · exact absurd (by simp only [supN, List.mem_filter, List.mem_range]; exact ⟨by omega, hd⟩) hks
      rw [dep_not h (by omega) hd (clr_lt hi k (by omega)), ih]
theorem spr_clr {n : Int} {b : Nat} {i : Nat} (hi : i < 2 ^ n.toNat) : Tb.spr (supN n b) (gat (supN n b) i (supN n b).length) (supN n b).length = clr (supN n b) i n.toNat := by
  apply Nat.eq_of_testBit_eq
  intro q
  rw [spr_gat (supN_asc n b), clr_bit]
  by_cases hq : q < n.toNat
  · rw [if_pos hq]
  · rw [if_neg hq, Tb.bit_big hi (by omega), Bool.and_false]
/-- THE VALUES -/
theorem shr_ev {n : Int} {b : Nat} (h : tOk n b = true) {i : Nat} (hi : i < 2 ^ n.toNat) : (shrB n b).testBit (gat (supN n b) i (supN n b).length) = b.testBit i := by
  unfold shrB
  rw [Tb.tab_bit, ← supN_len]
  have := gat_lt (supN n b) i (supN n b).length
  rw [Int.toNat_natCast, spr_clr hi, clr_ev h hi _ (Nat.le_refl _), decide_eq_true this, Bool.true_and]
theorem sup4 (n b : Int) : (supN n b).length ≤ 4 := by rw [supN_len]; exact sup_len n b 4
theorem inR_len (n b : Int) : inR ((supN n b).length : Int) 0 4 = true := by
  have := sup4 n b
  exact inR_iff.2 (by omega)
theorem shr_ok (n b : Int) : tOk ((supN n b).length : Int) (shrB n b : Int) = true := by
  refine tOk_mk (inR_len n b) ?_
  rw [Int.toNat_natCast, supN_len]
  exact Tb.tab_lt _ _
theorem shr_evT {n : Int} {b : Nat} (h : tOk n b = true) {i : Nat} (hi : i < 2 ^ n.toNat) : tEv ((supN n b).length : Int) (shrB n b : Int) ((gat (supN n b) i (supN n b).length : Nat) : Int) = tEv n b i := by
  rw [tEv_bit h hi, tEv_bit (shr_ok n b) (by rw [Int.toNat_natCast]; exact gat_lt _ _ _), shr_ev h hi]
/-- the shrunk table depends on all its inputs -/
theorem shr_dep {n : Int} {b : Nat} (h : tOk n b = true) {q : Nat} (hq : q < (supN n b).length) : tDep ((supN n b).length : Int) (shrB n b : Int) q = true := by
  have hm : (supN n b).getD q 0 ∈ supN n b := by rw [Tb.getD_el hq]; exact List.getElem_mem _
  have hlt := supN_lt hm
  have hd : tDep n b ((supN n b).getD q 0 : Nat) = true := by
    have hm' := hm
    simp only [supN, List.mem_filter] at hm'
    exact hm'.2
  have hn0 := (inR_iff.1 (tOk_split h).1).1
  obtain ⟨i, hi, hne⟩ := dep_yes h (by omega) hd
  cases hx : tDep ((supN n b).length : Int) (shrB n b : Int) q
  · exfalso
    apply hne
    have hj := gat_lt (supN n b) i (supN n b).length
    have e := fun v => dep_not (shr_ok n b) (k := q) (by omega) hx (i := gat (supN n b) i (supN n b).length) (by rw [Int.toNat_natCast]; exact hj) v
    have e2 := fun v => shr_ev h (i := Tb.setb ((supN n b).getD q 0) v i) (Tb.setb_lt hlt.1 hi)
    rw [← e2 false, ← e2 true, gat_set (supN_asc n b) hq, gat_set (supN_asc n b) hq, e false, e true]
  · rfl
theorem range_filter {m : Nat} (h : m ≤ 4) : (List.range 4).filter (fun k => decide (k < m)) = List.range m := by
  have : m = 0 ∨ m = 1 ∨ m = 2 ∨ m = 3 ∨ m = 4 := by omega
  rcases this with rfl | rfl | rfl | rfl | rfl <;> decide
theorem shr_sup {n : Int} {b : Nat} (h : tOk n b = true) : supN ((supN n b).length : Int) (shrB n b : Int) = List.range (supN n b).length := by
  rw [← range_filter (sup4 n b)]
  show (List.range 4).filter (fun (k : Nat) => tDep ((supN n b).length : Int) (shrB n b : Int) (k : Int)) = _
  apply List.filter_congr
  intro k _
  by_cases hk : k < (supN n b).length
  · rw [shr_dep h hk]; simp [hk]
  · rw [tDep_not (by omega)]; simp [hk]
theorem spr_range {m i : Nat} (hi : i < 2 ^ m) : Tb.spr (List.range m) i m = i := by
  apply Nat.eq_of_testBit_eq
  intro q
  rw [Bool.eq_iff_iff, Tb.spr_bit List.pairwise_lt_range _ _ _ (by simp)]
  constructor
  · rintro ⟨k, hk, h1, h2⟩
    rw [Tb.getD_el (by simpa using hk), List.getElem_range] at h1
    rw [← h1]; exact h2
  · intro hq
    have hqm : q < m := by
      rcases Nat.lt_or_ge q m with h' | h'
      · exact h'
      · rw [Tb.bit_big hi h'] at hq; cases hq
    exact ⟨q, hqm, by rw [Tb.getD_el (by simpa using hqm), List.getElem_range], hq⟩
/-- shrinking again changes nothing -/
theorem shr_again {n : Int} {b : Nat} (h : tOk n b = true) : (tSup ((supN n b).length : Int) (shrB n b : Int)).length = (supN n b).length ∧ tShr ((supN n b).length : Int) (shrB n b : Int) = (((supN n b).length : Int), (shrB n b : Int)) := by
  have hs := shr_sup h
  have hl : (tSup ((supN n b).length : Int) (shrB n b : Int)).length = (supN n b).length := by rw [← supN_len, hs, List.length_range]
  refine ⟨hl, ?_⟩
  unfold tShr
  rw [if_pos (shr_ok n b), hl]
  congr 2
  show Tb.tab (fun i => ((shrB n b : Int)).toNat.testBit (Tb.spr (supN ((supN n b).length : Int) (shrB n b : Int)) i (tSup ((supN n b).length : Int) (shrB n b : Int)).length)) (2 ^ (tSup ((supN n b).length : Int) (shrB n b : Int)).length) = shrB n b
  rw [hl, hs]
  have hb : shrB n b < 2 ^ 2 ^ (supN n b).length := by
    unfold shrB
    rw [← supN_len]
    exact Tb.tab_lt _ _
  rw [← Tb.eq_tab hb]
  apply Tb.tab_congr
  intro i hi
  rw [spr_range hi, Tb.eq_tab hb, Int.toNat_natCast]
end Go.Proofs.Ytbkgjgpoohlieaa

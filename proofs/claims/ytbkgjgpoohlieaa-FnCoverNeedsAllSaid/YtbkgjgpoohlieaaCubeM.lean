/- Plain cubes: prime implicants and covers over numbers; no program in sight. -/
import Derived.Test.YtbkgjgpoohlieaaTab
namespace Go.Proofs.Ytbkgjgpoohlieaa.Tb

abbrev Cb := Nat × Nat
def hit (x : Cb) (i : Nat) : Bool := i &&& x.1 == x.2
def impl (m b : Nat) (x : Cb) : Bool := (List.range m).all fun i => !hit x i || b.testBit i
theorem impl_iff {m b : Nat} {x : Cb} : impl m b x = true ↔ ∀ i, i < m → i &&& x.1 = x.2 → b.testBit i = true := by
 simp only [impl, hit, List.all_eq_true, List.mem_range, Bool.or_eq_true, Bool.not_eq_true', beq_eq_false_iff_ne, ne_eq]
 constructor
 ·intro h i hi hx
  rcases h i hi with h | h
  ·exact absurd hx h
  ·exact h
 ·intro h i hi
  by_cases hx : i &&& x.1 = x.2
  ·exact .inr (h i hi hx)
  ·exact .inl hx

/-- a cube of the code's first list: value within care, and an implicant -/
def good (m b c v : Nat) : Bool := (andn v c == 0) && impl m b (c, v)
def rowI (m b c k : Nat) : List Cb := ((List.range k).filter fun v => good m b c v).map fun v => (c, v)
def allI (m b c : Nat) : List Cb := (List.range c).flatMap fun c => rowI m b c (c + 1)
def over (x d : Cb) : Bool := (d != x) && ((andn d.1 x.1 == 0) && (x.2 &&& d.1 == d.2))
def primeI (all : List Cb) (x : Cb) : Bool := !all.any (over x)
def prI (m b : Nat) : List Cb := (allI m b m).filter (primeI (allI m b m))

def primeS (n m b : Nat) (x : Cb) : Bool := (List.range n).all fun k => !(x.1.testBit k && impl m b (andn x.1 (2 ^ k), andn x.2 (2 ^ k)))
def rowS (n m b c k : Nat) : List Cb := ((List.range k).filter fun v => good m b c v && primeS n m b (c, v)).map fun v => (c, v)
def prS (n m b c : Nat) : List Cb := (List.range c).flatMap fun c => rowS n m b c m

theorem mem_allI {m b c : Nat} {x : Cb} : x ∈ allI m b c ↔ x.1 < c ∧ good m b x.1 x.2 = true := by
 simp only [allI, rowI, List.mem_flatMap, List.mem_range, List.mem_map, List.mem_filter]
 constructor
 ·rintro ⟨a, ha, v, ⟨hv, hg⟩, rfl⟩; exact ⟨ha, hg⟩
 ·rintro ⟨h1, h2⟩
  refine ⟨x.1, h1, x.2, ⟨?_, h2⟩, rfl⟩
  simp only [good, Bool.and_eq_true, beq_iff_eq] at h2
  have := and_le_of_sub h2.1
  omega

theorem good_iff {m b c v : Nat} : good m b c v = true ↔ andn v c = 0 ∧ impl m b (c, v) = true := by
 simp [good]

theorem sub_and {v c : Nat} (h : andn v c = 0) : v &&& c = v := by
 apply Nat.eq_of_testBit_eq
 intro i
 rw [Nat.testBit_and]
 have := andn_zero.1 h i
 cases hv : v.testBit i
 ·rfl
 ·simp [this hv]

theorem prime_eq {n b c v : Nat} (hc : c < 2 ^ n) (hg : good (2 ^ n) b c v = true) : primeI (allI (2 ^ n) b (2 ^ n)) (c, v) = primeS n (2 ^ n) b (c, v) := by
 rw [Bool.eq_iff_iff]
 have hg' := good_iff.1 hg
 have hvc := andn_zero.1 hg'.1
 simp only [primeI, primeS, Bool.not_eq_true', List.any_eq_false, List.all_eq_true, List.mem_range, over, Bool.and_eq_true, bne_iff_ne, ne_eq, beq_iff_eq, Bool.and_eq_false_iff]
 constructor
 ·intro h k hk
  by_cases hb : c.testBit k = true
  ·right
   by_cases hi : impl (2 ^ n) b (andn c (2 ^ k), andn v (2 ^ k)) = true
   ·exfalso
    have hlt : andn c (2 ^ k) < 2 ^ n := Nat.lt_of_le_of_lt (andn_le _ _) hc
    have hz : andn (andn v (2 ^ k)) (andn c (2 ^ k)) = 0 := andn_zero.2 fun j hj => by
     rw [andn_pow_bit] at hj ⊢
     simp only [Bool.and_eq_true] at hj ⊢
     exact ⟨hvc j hj.1, hj.2⟩
    refine h (andn c (2 ^ k), andn v (2 ^ k)) (mem_allI.2 ⟨hlt, good_iff.2 ⟨hz, hi⟩⟩) ⟨?_, andn_zero.2 fun j hj => ?_, ?_⟩
    ·intro e
     have e1 : andn c (2 ^ k) = c := by injection e
     have := andn_pow_bit c k k
     rw [e1, hb] at this
     simp at this
    ·rw [andn_pow_bit] at hj; simp only [Bool.and_eq_true] at hj; exact hj.1
    ·apply Nat.eq_of_testBit_eq
     intro j
     rw [Nat.testBit_and, andn_pow_bit, andn_pow_bit]
     have := hvc j
     cases hv : v.testBit j
     ·rfl
     ·rw [this hv]; simp
   ·simpa using hi
  ·left; simpa using hb
 ·intro h d hd hov
  obtain ⟨hne, hsub, hval⟩ := hov
  obtain ⟨hd1, hd2⟩ := mem_allI.1 hd
  obtain ⟨hd3, hd4⟩ := good_iff.1 hd2
  have hsub' := andn_zero.1 hsub
  -- a bit of c that d lacks
  have hex : ∃ k, c.testBit k = true ∧ d.1.testBit k = false := by
   refine Classical.byContradiction fun hno => hne ?_
   have hcd : d.1 = c := by
    apply Nat.eq_of_testBit_eq
    intro j
    cases hj : d.1.testBit j
    ·cases hcj : c.testBit j
     ·rfl
     ·exact absurd ⟨j, hcj, hj⟩ hno
    ·exact (hsub' j hj).symm
   have hvd : d.2 = v := by
    rw [← hval, hcd]; exact sub_and hg'.1
   exact Prod.ext hcd hvd
  obtain ⟨k, hck, hdk⟩ := hex
  have hkn : k < n := by
   rcases Nat.lt_or_ge k n with h' | h'
   ·exact h'
   ·rw [bit_big hc h'] at hck; cases hck
  rcases h k hkn with h' | h'
  ·rw [hck] at h'; cases h'
  ·have : impl (2 ^ n) b (andn c (2 ^ k), andn v (2 ^ k)) = true := impl_iff.2 fun i hi he => by
    refine impl_iff.1 hd4 i hi ?_
    dsimp only at he ⊢
    rw [← hval]
    apply Nat.eq_of_testBit_eq
    intro j
    have hj := congrArg (fun x => Nat.testBit x j) he
    simp only [Nat.testBit_and, andn_pow_bit] at hj ⊢
    cases hdj : d.1.testBit j
    ·simp
    ·have hcj := hsub' j hdj
     have hkj : k ≠ j := fun e => by rw [e, hdj] at hdk; cases hdk
     simp only [hcj, hkj, decide_false, Bool.not_false, Bool.and_true] at hj
     simp [hj]
   rw [this] at h'; cases h'

theorem filter_range_good {m b c : Nat} (p : Nat → Bool) (hc : c < m) : (List.range m).filter (fun v => good m b c v && p v) = (List.range (c + 1)).filter (fun v => good m b c v && p v) := by
 obtain ⟨k, hk⟩ : ∃ k, m = (c + 1) + k := ⟨m - (c + 1), by omega⟩
 have hr : List.range m = List.range (c + 1) ++ (List.range k).map (c + 1 + ·) := by rw [hk, List.range_add]
 rw [hr, List.filter_append]
 have : ((List.range k).map (c + 1 + ·)).filter (fun v => good m b c v && p v) = [] := by
  rw [List.filter_eq_nil_iff]
  intro v hv
  simp only [List.mem_map, List.mem_range] at hv
  obtain ⟨j, _, rfl⟩ := hv
  intro h
  simp only [Bool.and_eq_true] at h
  have := and_le_of_sub (good_iff.1 h.1).1
  omega
 rw [this, List.append_nil]

theorem rowI_filter {n b c : Nat} (hc : c < 2 ^ n) : (rowI (2 ^ n) b c (c + 1)).filter (primeI (allI (2 ^ n) b (2 ^ n))) = rowS n (2 ^ n) b c (2 ^ n) := by
 unfold rowI rowS
 rw [filter_range_good _ hc, List.filter_map, List.filter_filter]
 congr 1
 apply List.filter_congr
 intro v hv
 cases hg : good (2 ^ n) b c v
 ·simp
 ·simp [prime_eq hc hg]

theorem filter_flatMap' {α β : Type} (p : β → Bool) (f : α → List β) (l : List α) : (l.flatMap f).filter p = l.flatMap fun a => (f a).filter p := by
 induction l with
 | nil => rfl
 | cons a l ih => simp [List.flatMap_cons, ih]
theorem flatMap_congr' {α β : Type} {f g : α → List β} {l : List α} (h : ∀ a ∈ l, f a = g a) : l.flatMap f = l.flatMap g := by
 induction l with
 | nil => rfl
 | cons a l ih => rw [List.flatMap_cons, List.flatMap_cons, h a (by simp), ih fun x hx => h x (by simp [hx])]

theorem prI_eq_prS (n b : Nat) : prI (2 ^ n) b = prS n (2 ^ n) b (2 ^ n) := by
 unfold prI prS
 rw [show (allI (2 ^ n) b (2 ^ n)).filter (primeI (allI (2 ^ n) b (2 ^ n))) = ((List.range (2 ^ n)).flatMap fun c => rowI (2 ^ n) b c (c + 1)).filter (primeI (allI (2 ^ n) b (2 ^ n))) from rfl, filter_flatMap']
 exact flatMap_congr' fun c hc => rowI_filter (List.mem_range.1 hc)

/-! ## covers -/
def ctab (m : Nat) (cs : List Cb) : Nat := tab (fun i => cs.any fun x => hit x i) m
def minC (m b : Nat) : Nat → List Cb → List Cb
 | 0, l => l
 | k + 1, l => minC m b k (if ctab m (l.eraseIdx k) = b then l.eraseIdx k else l)

/-- the number of bits -/
def pop : Nat → Nat → Nat
 | 0, _ => 0
 | f + 1, c => if c = 0 then 0 else c % 2 + pop f (c / 2)
end Go.Proofs.Ytbkgjgpoohlieaa.Tb

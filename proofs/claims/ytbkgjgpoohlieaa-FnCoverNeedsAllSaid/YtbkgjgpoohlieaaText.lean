/- Plain texts: numbers in decimal, fields, hexadecimal; no program in sight. -/
namespace Go.Proofs.Ytbkgjgpoohlieaa.Tx

theorem snoc_ind {α : Type} {P : List α → Prop} (nil : P []) (snoc : ∀ l a, P l → P (l ++ [a])) (l : List α) : P l := by
 have h : ∀ r : List α, P r.reverse := by
  intro r
  induction r with
  | nil => exact nil
  | cons a r ih => rw [List.reverse_cons]; exact snoc _ _ ih
 have := h l.reverse
 rwa [List.reverse_reverse] at this

/-! ## decimal -/
def dg : Nat → Nat → List UInt8 → List UInt8
 | 0, _, acc => acc
 | f + 1, a, acc => if a = 0 then acc else dg f (a / 10) (UInt8.ofNat (48 + a % 10) :: acc)

theorem dg_zero (f : Nat) (acc : List UInt8) : dg f 0 acc = acc := by cases f <;> simp [dg]
theorem dg_pos {f a : Nat} (acc : List UInt8) (h : a ≠ 0) : dg (f + 1) a acc = dg f (a / 10) (UInt8.ofNat (48 + a % 10) :: acc) := by simp [dg, h]
theorem dg_app (f a : Nat) (acc : List UInt8) : dg f a acc = dg f a [] ++ acc := by
 induction f generalizing a acc with
 | zero => simp [dg]
 | succ f ih =>
  by_cases h : a = 0
  ·simp [dg, h]
  ·rw [dg_pos _ h, dg_pos _ h, ih, ih (a / 10) [UInt8.ofNat (48 + a % 10)]]
   simp
theorem div_lt {f a : Nat} (h : a < 10 ^ (f + 1)) : a / 10 < 10 ^ f := by
 rw [Nat.pow_succ] at h; omega
theorem dg_fuel {f g a : Nat} (hf : a < 10 ^ f) (hg : a < 10 ^ g) (acc : List UInt8) : dg f a acc = dg g a acc := by
 induction f generalizing a g acc with
 | zero =>
  have : a = 0 := by omega
  subst this; rw [dg_zero, dg_zero]
 | succ f ih =>
  by_cases h : a = 0
  ·subst h; rw [dg_zero, dg_zero]
  ·cases g with
   | zero => omega
   | succ g => rw [dg_pos _ h, dg_pos _ h]; exact ih (div_lt hf) (div_lt hg) _
theorem dg_len {f a : Nat} (acc : List UInt8) : (dg f a acc).length ≤ f + acc.length := by
 induction f generalizing a acc with
 | zero => simp [dg]
 | succ f ih =>
  by_cases h : a = 0
  ·subst h; rw [dg_zero]; omega
  ·rw [dg_pos _ h]
   have := ih (a := a / 10) (UInt8.ofNat (48 + a % 10) :: acc)
   simp only [List.length_cons] at this; omega

/-- the decimal text of a number that is not negative -/
def fmtN (a : Nat) : List UInt8 := if a = 0 then [48] else dg 20 a []
/-- the decimal text -/
def fmtI (n : Int) : List UInt8 := if n < 0 then 45 :: dg 20 n.natAbs [] else fmtN n.natAbs

theorem ten20 : (9223372036854775808 : Nat) < 10 ^ 20 := by decide
theorem fmtN_len (a : Nat) : (fmtN a).length ≤ 20 := by
 unfold fmtN; split
 ·simp
 ·have := dg_len (f := 20) (a := a) []; simpa using this
theorem fmtI_len (n : Int) : (fmtI n).length ≤ 21 := by
 unfold fmtI; split
 ·have := dg_len (f := 20) (a := n.natAbs) []; simp at this ⊢; omega
 ·have := fmtN_len n.natAbs; omega

/-- a digit -/
def isD (c : UInt8) : Bool := decide (48 ≤ c.toNat ∧ c.toNat ≤ 57)
def val (l : List UInt8) : Nat := l.foldl (fun n c => 10 * n + (c.toNat - 48)) 0
theorem val_snoc (l : List UInt8) (c : UInt8) : val (l ++ [c]) = 10 * val l + (c.toNat - 48) := by simp [val]
theorem val_nil : val [] = 0 := rfl

theorem of48 (a : Nat) : (UInt8.ofNat (48 + a % 10)).toNat = 48 + a % 10 := by
 rw [UInt8.toNat_ofNat']; omega
theorem isD_of48 (a : Nat) : isD (UInt8.ofNat (48 + a % 10)) = true := by
 simp only [isD, of48, decide_eq_true_eq]; omega

theorem val_app (l r : List UInt8) : val (l ++ r) = val l * 10 ^ r.length + val r := by
 induction r using snoc_ind generalizing l with
 | nil => simp [val_nil]
 | snoc r c ih =>
  rw [← List.append_assoc, val_snoc, val_snoc, ih, List.length_append, List.length_singleton, Nat.pow_succ]
  have : val l * (10 ^ r.length * 10) = 10 * (val l * 10 ^ r.length) := by rw [← Nat.mul_assoc, Nat.mul_comm]
  omega
theorem dg_val {f a : Nat} (h : a < 10 ^ f) (acc : List UInt8) : val (dg f a acc) = a * 10 ^ acc.length + val acc := by
 induction f generalizing a acc with
 | zero =>
  have : a = 0 := by omega
  subst this; simp [dg]
 | succ f ih =>
  by_cases h0 : a = 0
  ·subst h0; rw [dg_zero]; simp
  ·rw [dg_pos _ h0, ih (div_lt h)]
   have e : UInt8.ofNat (48 + a % 10) :: acc = [UInt8.ofNat (48 + a % 10)] ++ acc := rfl
   have e2 : val [UInt8.ofNat (48 + a % 10)] = a % 10 := by
    show 10 * 0 + ((UInt8.ofNat (48 + a % 10)).toNat - 48) = _
    rw [of48]; omega
   rw [e, val_app, e2, List.length_append, List.length_singleton]
   have hp : 10 ^ (1 + acc.length) = 10 * 10 ^ acc.length := by rw [Nat.pow_add]
   rw [hp]
   have := Nat.div_add_mod a 10
   have h3 : a / 10 * (10 * 10 ^ acc.length) + a % 10 * 10 ^ acc.length = a * 10 ^ acc.length := by
    rw [← Nat.mul_assoc, ← Nat.add_mul]
    congr 1; omega
   omega
theorem fmtN_val {a : Nat} (h : a < 10 ^ 20) : val (fmtN a) = a := by
 unfold fmtN; split
 ·rename_i h0; subst h0; rfl
 ·rw [dg_val h]; simp [val_nil]
theorem dg_digits {f a : Nat} {acc : List UInt8} (hacc : ∀ c ∈ acc, isD c = true) : ∀ c ∈ dg f a acc, isD c = true := by
 induction f generalizing a acc with
 | zero => exact hacc
 | succ f ih =>
  by_cases h : a = 0
  ·subst h; rw [dg_zero]; exact hacc
  ·rw [dg_pos _ h]
   refine ih fun c hc => ?_
   rcases List.mem_cons.1 hc with rfl | hc
   ·exact isD_of48 a
   ·exact hacc c hc
theorem fmtN_digits (a : Nat) : ∀ c ∈ fmtN a, isD c = true := by
 unfold fmtN; split
 ·intro c hc; simp at hc; subst hc; rfl
 ·exact dg_digits (by simp)
theorem dg_head {f a : Nat} (ha : a ≠ 0) (h : a < 10 ^ f) (acc : List UInt8) : ∃ c t, dg f a acc = c :: t ∧ c.toNat ≠ 48 := by
 induction f generalizing a acc with
 | zero => omega
 | succ f ih =>
  rw [dg_pos _ ha]
  by_cases h1 : a / 10 = 0
  ·rw [h1, dg_zero]
   refine ⟨_, _, rfl, ?_⟩
   rw [of48]; omega
  ·exact ih h1 (div_lt h) _
theorem fmtN_ne (a : Nat) (h : a < 10 ^ 20) : fmtN a ≠ [] := by
 unfold fmtN; split
 ·simp
 ·rename_i h0
  obtain ⟨c, t, e, _⟩ := dg_head h0 h []
  rw [e]; simp

/-- a text of digits without a leading zero is the text of its number -/
theorem dg_of_text {l : List UInt8} (hd : ∀ c ∈ l, isD c = true) (h0 : ∀ c t, l = c :: t → c.toNat ≠ 48) {f : Nat} (hf : l.length ≤ f) (acc : List UInt8) :
  dg f (val l) acc = l ++ acc ∧ (l ≠ [] → val l ≠ 0) := by
 induction l using snoc_ind generalizing f acc with
 | nil => exact ⟨by rw [val_nil, dg_zero]; rfl, by simp⟩
 | snoc l c ih =>
  have hc : isD c = true := hd c (by simp)
  simp only [isD, decide_eq_true_eq] at hc
  have hl : ∀ c ∈ l, isD c = true := fun x hx => hd x (by simp [hx])
  have hl0 : ∀ c t, l = c :: t → c.toNat ≠ 48 := fun x t e => h0 x (t ++ [c]) (by rw [e]; rfl)
  have hne : val (l ++ [c]) ≠ 0 := by
   rw [val_snoc]
   cases hl' : l with
   | nil =>
    have := h0 c [] (by rw [hl']; rfl)
    rw [val_nil]; omega
   | cons x t =>
    have := (ih hl hl0 (f := l.length) (Nat.le_refl _) []).2 (by rw [hl']; simp)
    rw [hl'] at this; omega
  cases f with
  | zero => simp at hf
  | succ f =>
   refine ⟨?_, fun _ => hne⟩
   rw [dg_pos _ hne]
   have e1 : val (l ++ [c]) / 10 = val l := by rw [val_snoc]; omega
   have e2 : UInt8.ofNat (48 + val (l ++ [c]) % 10) = c := by
    apply UInt8.toNat_inj.1
    rw [of48, val_snoc]; omega
   rw [e1, e2, (ih hl hl0 (by simp at hf; omega) _).1]
   simp

/-- no leading zero -/
def noLead : List UInt8 → Bool
 | [] => false
 | [_] => true
 | c :: _ :: _ => c.toNat != 48
/-- what ParseUint reads -/
def pu (l : List UInt8) : Option Nat :=
 if noLead l = true ∧ l.length ≤ 10 ∧ l.all isD = true ∧ val l ≤ 1000000000 then some (val l) else none

theorem val_lt {l : List UInt8} (hd : l.all isD = true) : val l < 10 ^ l.length := by
 induction l using snoc_ind with
 | nil => simp [val_nil]
 | snoc l c ih =>
  simp only [List.all_append, Bool.and_eq_true, List.all_cons, List.all_nil, Bool.and_true] at hd
  have h1 := ih hd.1
  have h2 := hd.2
  simp only [isD, decide_eq_true_eq] at h2
  rw [val_snoc, List.length_append, List.length_singleton, Nat.pow_succ]
  omega
theorem val_zero_head (t : List UInt8) : val (48 :: t) = val t := by
 have : (48 : UInt8) :: t = [48] ++ t := rfl
 rw [this, val_app]
 simp [val]

/-- the reference's test: the text of the number is the text -/
theorem fmt_val_iff {l : List UInt8} (hd : l.all isD = true) (hl : l.length ≤ 20) : fmtN (val l) = l ↔ noLead l = true := by
 have hv := val_lt hd
 have hv20 : val l < 10 ^ 20 := Nat.lt_of_lt_of_le hv (Nat.pow_le_pow_right (by omega) hl)
 have hd' : ∀ c ∈ l, isD c = true := List.all_eq_true.1 hd
 constructor
 ·intro h
  match l, h, hd' with
  | [], h, _ => exact absurd h (by simp [val, fmtN])
  | [c], _, _ => rfl
  | c :: d :: t, h, hd' =>
   simp only [noLead, bne_iff_ne, ne_eq]
   intro hc
   have hc48 : c = 48 := by apply UInt8.toNat_inj.1; rw [hc]; rfl
   subst hc48
   unfold fmtN at h
   split at h
   ·simp at h
   ·rename_i h0
    obtain ⟨x, t', e, hx⟩ := dg_head h0 hv20 []
    rw [e] at h
    injection h with h1 _
    rw [h1] at hx
    exact hx rfl
 ·intro h
  match l, h, hd' with
  | [c], _, hd' =>
   have hc := hd' c (by simp)
   simp only [isD, decide_eq_true_eq] at hc
   by_cases h0 : c.toNat = 48
   ·have : c = 48 := by apply UInt8.toNat_inj.1; rw [h0]; rfl
    subst this; rfl
   ·have := dg_of_text (l := [c]) hd' (by intro c' t e; injection e with e1 _; rw [← e1]; exact h0) (f := 20) (by simp) []
    unfold fmtN
    rw [if_neg (this.2 (by simp)), this.1]; rfl
  | c :: d :: t, h, hd' =>
   simp only [noLead, bne_iff_ne, ne_eq] at h
   have := dg_of_text (l := c :: d :: t) hd' (by intro c' t' e; injection e with e1 _; rw [← e1]; exact h) (f := 20) hl []
   unfold fmtN
   rw [if_neg (this.2 (by simp)), this.1, List.append_nil]

end Go.Proofs.Ytbkgjgpoohlieaa.Tx

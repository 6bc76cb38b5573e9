/- Words and contracts that later texts use. -/
import Derived.Test.YtolndlmhbnpmeaaDoorGa
import Derived.Laws.BytesArg
import Derived.Outline
/- Plain texts: numbers in decimal, fields, hexadecimal; no program in sight. -/
namespace Go.Proofs.YtolndlmhbnpmeaaDoor.Tx

theorem snoc_ind {α : Type} {P : List α → Prop} (nil : P []) (snoc : ∀ l a, P l → P (l ++ [a])) (l : List α) : P l := by
 have h : ∀ r : List α, P r.reverse := by
  intro r
  induction r with
  | nil => exact nil
  | cons a r ih => rw [List.reverse_cons]; exact snoc _ _ ih
 have := h l.reverse
 rwa [List.reverse_reverse] at this

/-! ## decimal -/
def dg : Nat → Nat → List UInt8 → List UInt8
 | 0, _, acc => acc
 | f + 1, a, acc => if a = 0 then acc else dg f (a / 10) (UInt8.ofNat (48 + a % 10) :: acc)

theorem dg_zero (f : Nat) (acc : List UInt8) : dg f 0 acc = acc := by cases f <;> simp [dg]
theorem dg_pos {f a : Nat} (acc : List UInt8) (h : a ≠ 0) : dg (f + 1) a acc = dg f (a / 10) (UInt8.ofNat (48 + a % 10) :: acc) := by simp [dg, h]
theorem dg_app (f a : Nat) (acc : List UInt8) : dg f a acc = dg f a [] ++ acc := by
 induction f generalizing a acc with
 | zero => simp [dg]
 | succ f ih =>
  by_cases h : a = 0
  ·simp [dg, h]
  ·rw [dg_pos _ h, dg_pos _ h, ih, ih (a / 10) [UInt8.ofNat (48 + a % 10)]]
   simp
theorem div_lt {f a : Nat} (h : a < 10 ^ (f + 1)) : a / 10 < 10 ^ f := by
 rw [Nat.pow_succ] at h; omega
theorem dg_fuel {f g a : Nat} (hf : a < 10 ^ f) (hg : a < 10 ^ g) (acc : List UInt8) : dg f a acc = dg g a acc := by
 induction f generalizing a g acc with
 | zero =>
  have : a = 0 := by omega
  subst this; rw [dg_zero, dg_zero]
 | succ f ih =>
  by_cases h : a = 0
  ·subst h; rw [dg_zero, dg_zero]
  ·cases g with
   | zero => omega
   | succ g => rw [dg_pos _ h, dg_pos _ h]; exact ih (div_lt hf) (div_lt hg) _
theorem dg_len {f a : Nat} (acc : List UInt8) : (dg f a acc).length ≤ f + acc.length := by
 induction f generalizing a acc with
 | zero => simp [dg]
 | succ f ih =>
  by_cases h : a = 0
  ·subst h; rw [dg_zero]; omega
  ·rw [dg_pos _ h]
   have := ih (a := a / 10) (UInt8.ofNat (48 + a % 10) :: acc)
   simp only [List.length_cons] at this; omega

/-- the decimal text of a number that is not negative -/
def fmtN (a : Nat) : List UInt8 := if a = 0 then [48] else dg 20 a []
/-- the decimal text -/
def fmtI (n : Int) : List UInt8 := if n < 0 then 45 :: dg 20 n.natAbs [] else fmtN n.natAbs

theorem ten20 : (9223372036854775808 : Nat) < 10 ^ 20 := by decide
theorem fmtN_len (a : Nat) : (fmtN a).length ≤ 20 := by
 unfold fmtN; split
 ·simp
 ·have := dg_len (f := 20) (a := a) []; simpa using this
theorem fmtI_len (n : Int) : (fmtI n).length ≤ 21 := by
 unfold fmtI; split
 ·have := dg_len (f := 20) (a := n.natAbs) []; simp at this ⊢; omega
 ·have := fmtN_len n.natAbs; omega

/-- a digit -/
def isD (c : UInt8) : Bool := decide (48 ≤ c.toNat ∧ c.toNat ≤ 57)
def val (l : List UInt8) : Nat := l.foldl (fun n c => 10 * n + (c.toNat - 48)) 0
theorem val_snoc (l : List UInt8) (c : UInt8) : val (l ++ [c]) = 10 * val l + (c.toNat - 48) := by simp [val]
theorem val_nil : val [] = 0 := rfl

theorem of48 (a : Nat) : (UInt8.ofNat (48 + a % 10)).toNat = 48 + a % 10 := by
 rw [UInt8.toNat_ofNat']; omega
theorem isD_of48 (a : Nat) : isD (UInt8.ofNat (48 + a % 10)) = true := by
 simp only [isD, of48, decide_eq_true_eq]; omega

theorem val_app (l r : List UInt8) : val (l ++ r) = val l * 10 ^ r.length + val r := by
 induction r using snoc_ind generalizing l with
 | nil => simp [val_nil]
 | snoc r c ih =>
  rw [← List.append_assoc, val_snoc, val_snoc, ih, List.length_append, List.length_singleton, Nat.pow_succ]
  have : val l * (10 ^ r.length * 10) = 10 * (val l * 10 ^ r.length) := by rw [← Nat.mul_assoc, Nat.mul_comm]
  omega
theorem dg_val {f a : Nat} (h : a < 10 ^ f) (acc : List UInt8) : val (dg f a acc) = a * 10 ^ acc.length + val acc := by
 induction f generalizing a acc with
 | zero =>
  have : a = 0 := by omega
  subst this; simp [dg]
 | succ f ih =>
  by_cases h0 : a = 0
  ·subst h0; rw [dg_zero]; simp
  ·rw [dg_pos _ h0, ih (div_lt h)]
   have e : UInt8.ofNat (48 + a % 10) :: acc = [UInt8.ofNat (48 + a % 10)] ++ acc := rfl
   have e2 : val [UInt8.ofNat (48 + a % 10)] = a % 10 := by
    show 10 * 0 + ((UInt8.ofNat (48 + a % 10)).toNat - 48) = _
    rw [of48]; omega
   rw [e, val_app, e2, List.length_append, List.length_singleton]
   have hp : 10 ^ (1 + acc.length) = 10 * 10 ^ acc.length := by rw [Nat.pow_add]
   rw [hp]
   have := Nat.div_add_mod a 10
   have h3 : a / 10 * (10 * 10 ^ acc.length) + a % 10 * 10 ^ acc.length = a * 10 ^ acc.length := by
    rw [← Nat.mul_assoc, ← Nat.add_mul]
    congr 1; omega
   omega
theorem fmtN_val {a : Nat} (h : a < 10 ^ 20) : val (fmtN a) = a := by
 unfold fmtN; split
 ·rename_i h0; subst h0; rfl
 ·rw [dg_val h]; simp [val_nil]
theorem dg_digits {f a : Nat} {acc : List UInt8} (hacc : ∀ c ∈ acc, isD c = true) : ∀ c ∈ dg f a acc, isD c = true := by
 induction f generalizing a acc with
 | zero => exact hacc
 | succ f ih =>
  by_cases h : a = 0
  ·subst h; rw [dg_zero]; exact hacc
  ·rw [dg_pos _ h]
   refine ih fun c hc => ?_
   rcases List.mem_cons.1 hc with rfl | hc
   ·exact isD_of48 a
   ·exact hacc c hc
theorem fmtN_digits (a : Nat) : ∀ c ∈ fmtN a, isD c = true := by
 unfold fmtN; split
 ·intro c hc; simp at hc; subst hc; rfl
 ·exact dg_digits (by simp)
theorem dg_head {f a : Nat} (ha : a ≠ 0) (h : a < 10 ^ f) (acc : List UInt8) : ∃ c t, dg f a acc = c :: t ∧ c.toNat ≠ 48 := by
 induction f generalizing a acc with
 | zero => omega
 | succ f ih =>
  rw [dg_pos _ ha]
  by_cases h1 : a / 10 = 0
  ·rw [h1, dg_zero]
   refine ⟨_, _, rfl, ?_⟩
   rw [of48]; omega
  ·exact ih h1 (div_lt h) _
theorem fmtN_ne (a : Nat) (h : a < 10 ^ 20) : fmtN a ≠ [] := by
 unfold fmtN; split
 ·simp
 ·rename_i h0
  obtain ⟨c, t, e, _⟩ := dg_head h0 h []
  rw [e]; simp

/-- a text of digits without a leading zero is the text of its number -/
theorem dg_of_text {l : List UInt8} (hd : ∀ c ∈ l, isD c = true) (h0 : ∀ c t, l = c :: t → c.toNat ≠ 48) {f : Nat} (hf : l.length ≤ f) (acc : List UInt8) :
  dg f (val l) acc = l ++ acc ∧ (l ≠ [] → val l ≠ 0) := by
 induction l using snoc_ind generalizing f acc with
 | nil => exact ⟨by rw [val_nil, dg_zero]; rfl, by simp⟩
 | snoc l c ih =>
  have hc : isD c = true := hd c (by simp)
  simp only [isD, decide_eq_true_eq] at hc
  have hl : ∀ c ∈ l, isD c = true := fun x hx => hd x (by simp [hx])
  have hl0 : ∀ c t, l = c :: t → c.toNat ≠ 48 := fun x t e => h0 x (t ++ [c]) (by rw [e]; rfl)
  have hne : val (l ++ [c]) ≠ 0 := by
   rw [val_snoc]
   cases hl' : l with
   | nil =>
    have := h0 c [] (by rw [hl']; rfl)
    rw [val_nil]; omega
   | cons x t =>
    have := (ih hl hl0 (f := l.length) (Nat.le_refl _) []).2 (by rw [hl']; simp)
    rw [hl'] at this; omega
  cases f with
  | zero => simp at hf
  | succ f =>
   refine ⟨?_, fun _ => hne⟩
   rw [dg_pos _ hne]
   have e1 : val (l ++ [c]) / 10 = val l := by rw [val_snoc]; omega
   have e2 : UInt8.ofNat (48 + val (l ++ [c]) % 10) = c := by
    apply UInt8.toNat_inj.1
    rw [of48, val_snoc]; omega
   rw [e1, e2, (ih hl hl0 (by simp at hf; omega) _).1]
   simp

/-- no leading zero -/
def noLead : List UInt8 → Bool
 | [] => false
 | [_] => true
 | c :: _ :: _ => c.toNat != 48
/-- what ParseUint reads -/
def pu (l : List UInt8) : Option Nat :=
 if noLead l = true ∧ l.length ≤ 10 ∧ l.all isD = true ∧ val l ≤ 1000000000 then some (val l) else none

theorem val_lt {l : List UInt8} (hd : l.all isD = true) : val l < 10 ^ l.length := by
 induction l using snoc_ind with
 | nil => simp [val_nil]
 | snoc l c ih =>
  simp only [List.all_append, Bool.and_eq_true, List.all_cons, List.all_nil, Bool.and_true] at hd
  have h1 := ih hd.1
  have h2 := hd.2
  simp only [isD, decide_eq_true_eq] at h2
  rw [val_snoc, List.length_append, List.length_singleton, Nat.pow_succ]
  omega
theorem val_zero_head (t : List UInt8) : val (48 :: t) = val t := by
 have : (48 : UInt8) :: t = [48] ++ t := rfl
 rw [this, val_app]
 simp [val]

/-- the reference's test: the text of the number is the text -/
theorem fmt_val_iff {l : List UInt8} (hd : l.all isD = true) (hl : l.length ≤ 20) : fmtN (val l) = l ↔ noLead l = true := by
 have hv := val_lt hd
 have hv20 : val l < 10 ^ 20 := Nat.lt_of_lt_of_le hv (Nat.pow_le_pow_right (by omega) hl)
 have hd' : ∀ c ∈ l, isD c = true := List.all_eq_true.1 hd
 constructor
 ·intro h
  match l, h, hd' with
  | [], h, _ => exact absurd h (by simp [val, fmtN])
  | [c], _, _ => rfl
  | c :: d :: t, h, hd' =>
   simp only [noLead, bne_iff_ne, ne_eq]
   intro hc
   have hc48 : c = 48 := by apply UInt8.toNat_inj.1; rw [hc]; rfl
   subst hc48
   unfold fmtN at h
   split at h
   ·simp at h
   ·rename_i h0
    obtain ⟨x, t', e, hx⟩ := dg_head h0 hv20 []
    rw [e] at h
    injection h with h1 _
    rw [h1] at hx
    exact hx rfl
 ·intro h
  match l, h, hd' with
  | [c], _, hd' =>
   have hc := hd' c (by simp)
   simp only [isD, decide_eq_true_eq] at hc
   by_cases h0 : c.toNat = 48
   ·have : c = 48 := by apply UInt8.toNat_inj.1; rw [h0]; rfl
    subst this; rfl
   ·have := dg_of_text (l := [c]) hd' (by intro c' t e; injection e with e1 _; rw [← e1]; exact h0) (f := 20) (by simp) []
    unfold fmtN
    rw [if_neg (this.2 (by simp)), this.1]; rfl
  | c :: d :: t, h, hd' =>
   simp only [noLead, bne_iff_ne, ne_eq] at h
   have := dg_of_text (l := c :: d :: t) hd' (by intro c' t' e; injection e with e1 _; rw [← e1]; exact h) (f := 20) hl []
   unfold fmtN
   rw [if_neg (this.2 (by simp)), this.1, List.append_nil]

end Go.Proofs.YtolndlmhbnpmeaaDoor.Tx

/- Contracts: hexadecimal texts: both functions. -/
namespace Go.Proofs.YtolndlmhbnpmeaaDoor
open Go.RowKit

def bys (l : List UInt8) : List Value := l.map fun c => Value.int .u8 (c.toNat : Int)
theorem bys_len (l : List UInt8) : (bys l).length = l.length := by simp [bys]
theorem Tryd.infoU8 : (Tryd.prog.info? 5).map (fun i => (i.zero, i.size, i.bytes)) = some (some (.int .u8 0), 1, 1) := by kernel_rfl

set_option maxRecDepth 100000 in
/-- the text of bytes in memory of the call's own -/
theorem run_str {w : World} {base n c : Nat} {A : Option Addr} {l : List UInt8} (h : w.ownsRow base 5 1 (.slice A n c) n (bys l)) :
  (convert 22 9 (.slice A n c)).run Tryd.prog w = .ok (.string ⟨l.toArray⟩) w := by
 have hl : l.length = n := by have := h.1; rw [bys_len] at this; omega
 subst hl
 rcases h.2 with ⟨hv, h0⟩ | ⟨g, cap, cur, hv, _⟩
 ·injection hv with hv1 _ hv2
  subst hv1 hv2
  have : l = [] := List.eq_nil_of_length_eq_zero h0
  subst this
  exact run_convert_bytes_nil (P := Tryd.prog) w 22 5 Tryd.underlying22 Tryd.underlying5 0 0 9 Tryd.underlying9
 ·injection hv with hv1 _ hv2
  subst hv1 hv2
  refine run_convert_bytes_back (P := Tryd.prog) w 22 9 5 ⟨g, 0, none⟩ _ l Tryd.underlying22 Tryd.underlying5 Tryd.underlying9 fun j hj => ?_
  refine h.cells (g := g) rfl j _ ?_
  simp [bys, List.getElem?_eq_getElem hj]

/-- a figure -/
def fig (x : Nat) : UInt8 := UInt8.ofNat (if x < 10 then 48 + x else 87 + x)
theorem fig_nat {x : Nat} (h : x < 16) : (fig x).toNat = if x < 10 then 48 + x else 87 + x := by
 unfold fig; split <;> (rw [UInt8.toNat_ofNat']; omega)

def enc (l : List UInt8) : List UInt8 := l.flatMap fun c => [fig (c.toNat / 16), fig (c.toNat % 16)]
theorem enc_len (l : List UInt8) : (enc l).length = 2 * l.length := by
 induction l with
 | nil => rfl
 | cons c l ih => simp only [enc, List.flatMap_cons, List.length_append, List.length_cons, List.length_nil] at ih ⊢; omega
theorem enc_snoc (l : List UInt8) (c : UInt8) : enc (l ++ [c]) = enc l ++ [fig (c.toNat / 16), fig (c.toNat % 16)] := by simp [enc]

/-- what both return -/
def HexPost (s : ByteArray) (w : World) (e : Ending) (w' : World) : Prop :=
 e = .returned (if s.size ≤ 20000 then .tuple #[.string ⟨(enc s.data.toList).toArray⟩, .bool true] else .tuple #[.string ⟨#[]⟩, .bool false]) ∧ Below w.heap.size w w'

theorem take_snoc (s : ByteArray) (k : Nat) (h : k < s.size) : s.data.toList.take (k + 1) = s.data.toList.take k ++ [s[k]] := by
 rw [List.take_succ_eq_append_getElem (by simpa using h)]; rfl

theorem idx_fig (x : Nat) (h : x < 16) (W : World) : (Instr.index 9 (.string ⟨#[48, 49, 50, 51, 52, 53, 54, 55, 56, 57, 97, 98, 99, 100, 101, 102]⟩) (.int .u8 (x : Int))).run Tryd.prog W = .ok (.int .u8 ((fig x).toNat : Int)) W :=
 match x, h with
 | 0, _ => by kernel_rfl
 | 1, _ => by kernel_rfl
 | 2, _ => by kernel_rfl
 | 3, _ => by kernel_rfl
 | 4, _ => by kernel_rfl
 | 5, _ => by kernel_rfl
 | 6, _ => by kernel_rfl
 | 7, _ => by kernel_rfl
 | 8, _ => by kernel_rfl
 | 9, _ => by kernel_rfl
 | 10, _ => by kernel_rfl
 | 11, _ => by kernel_rfl
 | 12, _ => by kernel_rfl
 | 13, _ => by kernel_rfl
 | 14, _ => by kernel_rfl
 | 15, _ => by kernel_rfl
 | n + 16, h => absurd h (by omega)
theorem u8_and15 (n : Nat) (h : n < 256) : bits .and .u8 (n : Int) 15 = (n : Int) % 16 := by
 have h1 := u8_and_nat n 15 h (by omega)
 have h2 : n &&& 15 = n % 16 := Nat.and_two_pow_sub_one_eq_mod n 4
 rw [h2] at h1
 exact h1

end Go.Proofs.YtolndlmhbnpmeaaDoor

/- Contracts: hexadecimal texts read back: both functions. -/
namespace Go.Proofs.YtolndlmhbnpmeaaDoor
open Go.RowKit

/-- a figure's value, -1 if it is none -/
def hv (x : Nat) : Int := if 48 ≤ x ∧ x ≤ 57 then (x : Int) - 48 else if 97 ≤ x ∧ x ≤ 102 then (x : Int) - 87 else -1
theorem hv_bd (x : Nat) : -1 ≤ hv x ∧ hv x ≤ 15 := by
 unfold hv; split
 ·omega
 ·split <;> omega

/-- the j-th pair -/
def pr (l : List UInt8) (j : Nat) : Int × Int := (hv (l.getD (2 * j) 0).toNat, hv (l.getD (2 * j + 1) 0).toNat)
def decOk (l : List UInt8) (k : Nat) : Bool := (List.range k).all fun j => decide (0 ≤ (pr l j).1) && decide (0 ≤ (pr l j).2)
def dec (l : List UInt8) (k : Nat) : List UInt8 := (List.range k).map fun j => UInt8.ofNat (16 * (pr l j).1 + (pr l j).2).toNat
theorem decOk_succ (l : List UInt8) (k : Nat) : decOk l (k + 1) = (decOk l k && (decide (0 ≤ (pr l k).1) && decide (0 ≤ (pr l k).2))) := by
 simp [decOk, List.range_succ, List.all_append]
theorem dec_succ (l : List UInt8) (k : Nat) : dec l (k + 1) = dec l k ++ [UInt8.ofNat (16 * (pr l k).1 + (pr l k).2).toNat] := by
 simp [dec, List.range_succ]
theorem dec_len (l : List UInt8) (k : Nat) : (dec l k).length = k := by simp [dec]
theorem decOk_false {l : List UInt8} {k n : Nat} (hkn : k < n) (h : ¬ (0 ≤ (pr l k).1 ∧ 0 ≤ (pr l k).2)) : decOk l n = false := by
 cases hd : decOk l n
 ·rfl
 ·have := List.all_eq_true.1 hd k (List.mem_range.2 hkn)
  simp only [Bool.and_eq_true, decide_eq_true_eq] at this
  exact absurd this h
def decB (s : ByteArray) : Bool := decide (s.size % 2 = 0) && decide (s.size ≤ 40000) && decOk s.data.toList (s.size / 2)
def DecPost (s : ByteArray) (w : World) (e : Ending) (w' : World) : Prop :=
 e = .returned (if decB s then .tuple #[.string ⟨(dec s.data.toList (s.size / 2)).toArray⟩, .bool true] else .tuple #[.string ⟨#[]⟩, .bool false]) ∧ Below w.heap.size w w'

theorem byte_at (s : ByteArray) (k : Nat) (h : k < s.size) : (s.data.toList.getD k 0) = s[k] := by
 have : k < s.data.toList.length := by simpa using h
 simp [List.getD, List.getElem?_eq_getElem this]; rfl

theorem idx_at (s : ByteArray) (j : Nat) (h : j < s.size) (i : Int) (hi : i = (j : Int)) (W : World) : (Instr.index 9 (.string s) (.int .i64 i)).run Tryd.prog W = .ok (.int .u8 (s[j].toNat : Int)) W := by
 subst hi
 have h1 : (0 : Int) ≤ (j : Int) := by omega
 have h2 : (j : Int) < (s.size : Int) := by omega
 simp [go_sem, h1, h2]
theorem byte_of {p q : Int} (hp : 0 ≤ p) (hp1 : p ≤ 15) (hq : 0 ≤ q) (hq1 : q ≤ 15) : ((UInt8.ofNat (16 * p + q).toNat).toNat : Int) = 16 * p + q := by
 rw [UInt8.toNat_ofNat']; omega

end Go.Proofs.YtolndlmhbnpmeaaDoor

/- Contracts: a number in decimal: both functions. -/
namespace Go.Proofs.YtolndlmhbnpmeaaDoor
open Go.RowKit

theorem bys_one (l : List UInt8) : ∀ u ∈ bys l, u.oneCell' = true := by
 intro u hu
 simp only [bys, List.mem_map] at hu
 obtain ⟨x, _, rfl⟩ := hu
 rfl
/-- a step of the digits -/
theorem dg_step {a : Nat} {l : List UInt8} (ha : a ≠ 0) (hb : a < 10 ^ 20) : Tx.dg 20 a l = Tx.dg 20 (a / 10) (UInt8.ofNat (48 + a % 10) :: l) := by
 rw [Tx.dg_pos _ ha]
 refine Tx.dg_fuel (f := 19) (g := 20) ?_ ?_ _
 ·exact Tx.div_lt hb
 ·exact Nat.lt_of_le_of_lt (Nat.div_le_self _ _) hb
theorem dg_suffix {a n : Nat} {l : List UInt8} (h : Tx.dg 20 a l = Tx.dg 20 n []) : l.length ≤ 20 := by
 have h1 := Tx.dg_len (f := 20) (a := n) []
 rw [← h, Tx.dg_app] at h1
 simp at h1
 omega
def i64B (x : Int) : Prop := -9223372036854775808 ≤ x ∧ x ≤ 9223372036854775807
theorem natAbs_lt {x : Int} (h : i64B x) : x.natAbs < 10 ^ 20 := by
 have := h.1; have := h.2
 have : (9223372036854775808 : Nat) < 10 ^ 20 := Tx.ten20
 omega
theorem tdiv_bd {x : Int} (h : i64B x) : i64B (x.tdiv 10) := by
 have h1 := Int.natAbs_tdiv_le_natAbs x 10
 have h3 : (x.tdiv 10).natAbs = x.natAbs / 10 := by rw [Int.natAbs_tdiv]; rfl
 have := h.1; have := h.2
 unfold i64B
 omega
theorem tmod_bd (x : Int) : -9 ≤ x.tmod 10 ∧ x.tmod 10 ≤ 9 := by
 have h : (x.tmod 10).natAbs = x.natAbs % 10 := by rw [Int.natAbs_tmod]; rfl
 omega
theorem tmod_abs (x : Int) : (x.tmod 10).natAbs = x.natAbs % 10 := by rw [Int.natAbs_tmod]; rfl
theorem tdiv_abs (x : Int) : (x.tdiv 10).natAbs = x.natAbs / 10 := by rw [Int.natAbs_tdiv]; rfl
theorem below_pre {w0 w1 w2 : World} {B : Nat} {o : Obj} (hb : Below B w0 w1) (hs : B ≤ w1.heap.size) (hg : (w1.alloc o).grownBy w2 (some w1.heap.size)) : Below B w0 w2 :=
 (hb.alloc hs o).trans (below_of_grown hg (by simp; omega) fun g hgv => by injection hgv with hgv; omega)

theorem digit_neg {x : Int} (h : x.tmod 10 < 0) : ((UInt8.ofNat (48 + x.natAbs % 10)).toNat : Int) = 48 + -x.tmod 10 := by
 have h1 := tmod_abs x
 rw [Tx.of48]; omega
theorem digit_pos {x : Int} (h : ¬ x.tmod 10 < 0) : ((UInt8.ofNat (48 + x.natAbs % 10)).toNat : Int) = 48 + x.tmod 10 := by
 have h1 := tmod_abs x
 rw [Tx.of48]; omega
theorem fmt_pos {n : Int} {l : List UInt8} (h0 : n ≠ 0) (h : ¬ n < 0) (hl : Tx.dg 20 0 l = Tx.dg 20 n.natAbs []) : Tx.fmtI n = l := by
 rw [Tx.dg_zero] at hl
 rw [Tx.fmtI, if_neg h, Tx.fmtN, if_neg (by omega), hl]
theorem fmt_neg {n : Int} {l : List UInt8} (h : n < 0) (hl : Tx.dg 20 0 l = Tx.dg 20 n.natAbs []) : Tx.fmtI n = 45 :: l := by
 rw [Tx.dg_zero] at hl
 rw [Tx.fmtI, if_pos h, hl]

set_option maxRecDepth 100000 in
set_option maxHeartbeats 8000000 in
theorem i_FormatInt (n : Int) (hn : i64B n) (w : World) : Calls Tryd.prog 41 #[.int .i64 n] w fun e w' => e = .returned (.string ⟨(Tx.fmtI n).toArray⟩) ∧ Below w.heap.size w w' := by
 obtain ⟨i0, hi, hz0, hz1, hz2⟩ := info_parts Tryd.infoU8
 by_cases h0 : n = 0
 ·subst h0
  go_enter Tryd.func41, Tryd.ntmps41
  go_wp2
  go_ret
  exact ⟨rfl, Below.refl _ _⟩
 by_cases hneg : n < 0
 ·have Hn := Lib.hid hn
  have hn0 : (n == 0) = false := by simpa using h0
  have hn1 := hn.1
  have hn2 := hn.2
  clear hn
  go_enter Tryd.func41, Tryd.ntmps41
  go_wp2_with fail
  go_loopw [0, 3, 5] (fun xv v _ wr => ∃ (x : Int) (l : List UInt8), xv = .int .i64 x ∧ Hid (i64B x) ∧ Hid (Tx.dg 20 x.natAbs l = Tx.dg 20 n.natAbs []) ∧ wr.ownsRow w.heap.size 5 1 v l.length (bys l) ∧ Below w.heap.size w wr) (fun xv _ _ _ => (intOf xv).natAbs)
  case atStart => exact ⟨n, [], rfl, Hn, rfl, World.ownsRow_nil _ _ _ _, Below.refl _ _⟩
  case round =>
   obtain ⟨x, l, rfl, Hx, Hd, hown, hb⟩ := hrel
   have hlen := dg_suffix Hd.out
   have hx1 := Hx.out.1
   have hx2 := Hx.out.2
   obtain ⟨A, c, rfl, hc1, hc2, hA⟩ := own_form hown
   have hsz := hb.size
   have Hb := Lib.hid hb
   have Hown := Lib.hid hown
   clear hb hown hA
   by_cases hx0 : x = 0
   ·subst hx0
    go_wp2_with (at_builtin; refine wpList_append_any _ rfl _ _ 22 rfl w.heap.size 5 i0 (.int .u8 0) 1 1 Tryd.underlying22 hi hz0 hz1 hz2 rfl (by decide) _ 1 _ rfl (World.ownsRow_lit wr _ 1 hsz (by unfold maxLen; omega) rfl) _ _ _ _ _ rfl ((Reads.of_own Hown.out).alloc (Nat.le_refl _) _) (bys_one _) (by unfold maxLen; omega) (by omega) (by simp; omega) ?_; intro v2 w2 hown2 hgrow2 hblk2; obtain ⟨A2, c2, rfl, _, _, _⟩ := own_form hown2; have hcv := run_str (l := 45 :: l) hown2)
    have hbb := below_pre Hb.out hsz hgrow2
    go_ret
    exact ⟨by rw [fmt_neg hneg Hd.out]; rfl, hbb⟩
   ·have hne : (x != 0) = true := by simpa using hx0
    have t1 := (tmod_bd x).1
    have t2 := (tmod_bd x).2
    by_cases hd : x.tmod 10 < 0
    ·have HD := Lib.hid (digit_neg hd)
     go_wp2_with (at_builtin; refine wpList_append_any _ rfl _ _ 22 rfl w.heap.size 5 i0 (.int .u8 0) 1 1 Tryd.underlying22 hi hz0 hz1 hz2 rfl (by decide) _ 1 _ rfl (World.ownsRow_lit wr _ 1 hsz (by unfold maxLen; omega) rfl) _ _ _ _ _ rfl ((Reads.of_own Hown.out).alloc (Nat.le_refl _) _) (bys_one _) (by unfold maxLen; omega) (by omega) (by simp; omega) ?_; intro v2 w2 hown2 hgrow2 hblk2)
     have hbb := below_pre Hb.out hsz hgrow2
     have Hown2 := Lib.hid hown2
     clear hown2 hgrow2 hblk2
     go_wp2_with fail
     go_roundw
     case rel =>
      refine ⟨x.tdiv 10, UInt8.ofNat (48 + x.natAbs % 10) :: l, rfl, tdiv_bd Hx.out, ?_, ?_, hbb⟩
      ·show Tx.dg 20 (x.tdiv 10).natAbs (UInt8.ofNat (48 + x.natAbs % 10) :: l) = _
       rw [tdiv_abs, ← dg_step (by omega) (natAbs_lt Hx.out)]
       exact Hd.out
      ·rw [bys, List.map_cons, HD.out, List.length_cons, Nat.add_comm]
       exact Hown2.out
     case measure => simp only [intOf]; rw [tdiv_abs]; omega
    ·have HD := Lib.hid (digit_pos hd)
     go_wp2_with (at_builtin; refine wpList_append_any _ rfl _ _ 22 rfl w.heap.size 5 i0 (.int .u8 0) 1 1 Tryd.underlying22 hi hz0 hz1 hz2 rfl (by decide) _ 1 _ rfl (World.ownsRow_lit wr _ 1 hsz (by unfold maxLen; omega) rfl) _ _ _ _ _ rfl ((Reads.of_own Hown.out).alloc (Nat.le_refl _) _) (bys_one _) (by unfold maxLen; omega) (by omega) (by simp; omega) ?_; intro v2 w2 hown2 hgrow2 hblk2)
     have hbb := below_pre Hb.out hsz hgrow2
     have Hown2 := Lib.hid hown2
     clear hown2 hgrow2 hblk2
     go_wp2_with fail
     go_roundw
     case rel =>
      refine ⟨x.tdiv 10, UInt8.ofNat (48 + x.natAbs % 10) :: l, rfl, tdiv_bd Hx.out, ?_, ?_, hbb⟩
      ·show Tx.dg 20 (x.tdiv 10).natAbs (UInt8.ofNat (48 + x.natAbs % 10) :: l) = _
       rw [tdiv_abs, ← dg_step (by omega) (natAbs_lt Hx.out)]
       exact Hd.out
      ·rw [bys, List.map_cons, HD.out, List.length_cons, Nat.add_comm]
       exact Hown2.out
     case measure => simp only [intOf]; rw [tdiv_abs]; omega
 ·have Hn := Lib.hid hn
  have hn0 : (n == 0) = false := by simpa using h0
  have hn1 := hn.1
  have hn2 := hn.2
  clear hn
  go_enter Tryd.func41, Tryd.ntmps41
  go_wp2_with fail
  go_loopw [0, 3, 5] (fun xv v _ wr => ∃ (x : Int) (l : List UInt8), xv = .int .i64 x ∧ Hid (i64B x) ∧ Hid (Tx.dg 20 x.natAbs l = Tx.dg 20 n.natAbs []) ∧ wr.ownsRow w.heap.size 5 1 v l.length (bys l) ∧ Below w.heap.size w wr) (fun xv _ _ _ => (intOf xv).natAbs)
  case atStart => exact ⟨n, [], rfl, Hn, rfl, World.ownsRow_nil _ _ _ _, Below.refl _ _⟩
  case round =>
   obtain ⟨x, l, rfl, Hx, Hd, hown, hb⟩ := hrel
   have hlen := dg_suffix Hd.out
   have hx1 := Hx.out.1
   have hx2 := Hx.out.2
   obtain ⟨A, c, rfl, hc1, hc2, hA⟩ := own_form hown
   have hsz := hb.size
   have Hb := Lib.hid hb
   have Hown := Lib.hid hown
   clear hb hown hA
   by_cases hx0 : x = 0
   ·subst hx0
    have hcv := run_str Hown.out
    go_wp2_with fail
    go_ret
    exact ⟨by rw [fmt_pos h0 (by omega) Hd.out]; rfl, Hb.out⟩
   ·have hne : (x != 0) = true := by simpa using hx0
    have t1 := (tmod_bd x).1
    have t2 := (tmod_bd x).2
    by_cases hd : x.tmod 10 < 0
    ·have HD := Lib.hid (digit_neg hd)
     go_wp2_with (at_builtin; refine wpList_append_any _ rfl _ _ 22 rfl w.heap.size 5 i0 (.int .u8 0) 1 1 Tryd.underlying22 hi hz0 hz1 hz2 rfl (by decide) _ 1 _ rfl (World.ownsRow_lit wr _ 1 hsz (by unfold maxLen; omega) rfl) _ _ _ _ _ rfl ((Reads.of_own Hown.out).alloc (Nat.le_refl _) _) (bys_one _) (by unfold maxLen; omega) (by omega) (by simp; omega) ?_; intro v2 w2 hown2 hgrow2 hblk2)
     have hbb := below_pre Hb.out hsz hgrow2
     have Hown2 := Lib.hid hown2
     clear hown2 hgrow2 hblk2
     go_wp2_with fail
     go_roundw
     case rel =>
      refine ⟨x.tdiv 10, UInt8.ofNat (48 + x.natAbs % 10) :: l, rfl, tdiv_bd Hx.out, ?_, ?_, hbb⟩
      ·show Tx.dg 20 (x.tdiv 10).natAbs (UInt8.ofNat (48 + x.natAbs % 10) :: l) = _
       rw [tdiv_abs, ← dg_step (by omega) (natAbs_lt Hx.out)]
       exact Hd.out
      ·rw [bys, List.map_cons, HD.out, List.length_cons, Nat.add_comm]
       exact Hown2.out
     case measure => simp only [intOf]; rw [tdiv_abs]; omega
    ·have HD := Lib.hid (digit_pos hd)
     go_wp2_with (at_builtin; refine wpList_append_any _ rfl _ _ 22 rfl w.heap.size 5 i0 (.int .u8 0) 1 1 Tryd.underlying22 hi hz0 hz1 hz2 rfl (by decide) _ 1 _ rfl (World.ownsRow_lit wr _ 1 hsz (by unfold maxLen; omega) rfl) _ _ _ _ _ rfl ((Reads.of_own Hown.out).alloc (Nat.le_refl _) _) (bys_one _) (by unfold maxLen; omega) (by omega) (by simp; omega) ?_; intro v2 w2 hown2 hgrow2 hblk2)
     have hbb := below_pre Hb.out hsz hgrow2
     have Hown2 := Lib.hid hown2
     clear hown2 hgrow2 hblk2
     go_wp2_with fail
     go_roundw
     case rel =>
      refine ⟨x.tdiv 10, UInt8.ofNat (48 + x.natAbs % 10) :: l, rfl, tdiv_bd Hx.out, ?_, ?_, hbb⟩
      ·show Tx.dg 20 (x.tdiv 10).natAbs (UInt8.ofNat (48 + x.natAbs % 10) :: l) = _
       rw [tdiv_abs, ← dg_step (by omega) (natAbs_lt Hx.out)]
       exact Hd.out
      ·rw [bys, List.map_cons, HD.out, List.length_cons, Nat.add_comm]
       exact Hown2.out
     case measure => simp only [intOf]; rw [tdiv_abs]; omega
end Go.Proofs.YtolndlmhbnpmeaaDoor

/- Contract: the reference's FormatInt. -/
namespace Go.Proofs.YtolndlmhbnpmeaaDoor
open Go.RowKit

theorem str_cons (c : UInt8) (l : List UInt8) : ((⟨[c].toArray⟩ : ByteArray) ++ (⟨l.toArray⟩ : ByteArray)) = ⟨(c :: l).toArray⟩ := by
 apply ByteArray.ext
 simp [ByteArray.data_append]
theorem fig_dig {y : Nat} (h : y < 10) : fig y = UInt8.ofNat (48 + y) := by
 unfold fig; rw [if_pos h]
theorem digS_neg {x : Int} (h : x.tmod 10 < 0) : fig (-x.tmod 10).toNat = UInt8.ofNat (48 + x.natAbs % 10) := by
 have h1 := tmod_abs x
 rw [fig_dig (by omega)]
 congr 2; omega
theorem digS_pos {x : Int} (h : 0 ≤ x.tmod 10) : fig (x.tmod 10).toNat = UInt8.ofNat (48 + x.natAbs % 10) := by
 have h1 := tmod_abs x
 rw [fig_dig (by omega)]
 congr 2; omega

end Go.Proofs.YtolndlmhbnpmeaaDoor

/- Contracts: a number read from its decimal text: both functions. -/
namespace Go.Proofs.YtolndlmhbnpmeaaDoor
open Go.RowKit

/-- what both return -/
def puV (l : List UInt8) : Value := match Tx.pu l with
 | some n => .tuple #[.int .i64 n, .bool true]
 | none => .tuple #[.int .i64 0, .bool false]
theorem puV_some {l : List UInt8} {n : Nat} (h : Tx.pu l = some n) : puV l = .tuple #[.int .i64 n, .bool true] := by rw [puV, h]
theorem puV_none {l : List UInt8} (h : Tx.pu l = none) : puV l = .tuple #[.int .i64 0, .bool false] := by rw [puV, h]
theorem all_takeD {s : ByteArray} {k : Nat} (h : k < s.size) : (s.data.toList.take (k + 1)).all Tx.isD = ((s.data.toList.take k).all Tx.isD && Tx.isD s[k]) := by
 rw [take_snoc s k h, List.all_append]; simp
theorem val_take {s : ByteArray} {k : Nat} (h : k < s.size) : Tx.val (s.data.toList.take (k + 1)) = 10 * Tx.val (s.data.toList.take k) + (s[k].toNat - 48) := by
 rw [take_snoc s k h, Tx.val_snoc]
theorem not_all {s : ByteArray} {k : Nat} (h : k < s.size) (hd : Tx.isD s[k] = false) : s.data.toList.all Tx.isD = false := by
 cases ha : s.data.toList.all Tx.isD
 ·rfl
 ·have hm : s[k] ∈ s.data.toList := by
   have : k < s.data.toList.length := by simpa using h
   have e : s[k] = s.data.toList[k] := rfl
   rw [e]; exact List.getElem_mem _
  rw [List.all_eq_true.1 ha _ hm] at hd
  cases hd
theorem pu_digits {l : List UInt8} (h : l.all Tx.isD = false) : Tx.pu l = none := by
 unfold Tx.pu; rw [if_neg (by simp [h])]
theorem val_bd {s : ByteArray} {k : Nat} (hk : k ≤ 10) (h : (s.data.toList.take k).all Tx.isD = true) : Tx.val (s.data.toList.take k) < 10 ^ 10 := by
 have h1 := Tx.val_lt h
 have h2 : (s.data.toList.take k).length ≤ 10 := Nat.le_trans (List.length_take_le _ _) hk
 exact Nat.lt_of_lt_of_le h1 (Nat.pow_le_pow_right (by omega) h2)

theorem lead_no {s : ByteArray} (h1 : 1 < s.size) (h : s[0].toNat = 48) : Tx.noLead s.data.toList = false := by
 obtain ⟨⟨l⟩⟩ := s
 match l, h1, h with
 | c :: d :: t, _, h =>
  have h' : c.toNat = 48 := h
  simp [Tx.noLead, h']
theorem lead_yes {s : ByteArray} (h0 : 0 < s.size) (h : 1 < s.size → ¬ s[0].toNat = 48) : Tx.noLead s.data.toList = true := by
 obtain ⟨⟨l⟩⟩ := s
 match l, h0, h with
 | [c], _, _ => rfl
 | c :: d :: t, _, h =>
  have h' : ¬ c.toNat = 48 := h (by show 1 < (c :: d :: t).length; simp)
  simp [Tx.noLead, h']
theorem pu_lead {l : List UInt8} (h : Tx.noLead l = false) : Tx.pu l = none := by
 unfold Tx.pu; rw [if_neg (by simp [h])]
theorem empty_of {s : ByteArray} (h : s.size = 0) : s.data.toList = [] := List.eq_nil_of_length_eq_zero (by simpa using h)

set_option maxRecDepth 100000 in
set_option maxHeartbeats 4000000 in
theorem i_ParseUint (s : ByteArray) (hs : s.size ≤ maxLen) (w : World) : Calls Tryd.prog 43 #[.string s] w fun e w' => e = .returned (puV s.data.toList) ∧ Below w.heap.size w w' := by
 unfold maxLen at hs
 by_cases h0 : s.size = 0
 ·have hnil := empty_of h0
  have he : s.toList = [] := by rw [ByteArray.toList_eq]; exact hnil
  have He := Lib.hid (show puV s.data.toList = .tuple #[.int .i64 0, .bool false] by rw [hnil]; rfl)
  clear hnil
  go_enter Tryd.func43, Tryd.ntmps43
  go_wp2_with fail
  go_ret2
  exact ⟨by rw [He.out]; rfl, Below.refl _ _⟩
 ·have hne : s.toList ≠ [] := by
   rw [ByteArray.toList_eq]
   intro h
   have hl := congrArg List.length h
   have hl2 : s.data.toList.length = s.size := by simp
   rw [hl2] at hl
   exact h0 hl
  have he : (s.toList == []) = false := by simpa using hne
  have he2 : s.toList.isEmpty = false := by simpa using hne
  by_cases hl : s.size ≤ 10
  ·have hp : 0 < s.size := by omega
   have g0 : (0 : Int) < (s.size : Int) := by omega
   by_cases hld : 1 < s.size ∧ s[0].toNat = 48
   ·have He := Lib.hid (pu_lead (lead_no hld.1 hld.2))
    have hz : ((s[0].toNat : Int) == 48) = true := by simp; omega
    have h1 : 1 < s.size := hld.1
    have g1 : (1 : Int) < (s.size : Int) := by omega
    clear hld
    go_enter Tryd.func43, Tryd.ntmps43
    go_wp2_with fail
    go_ret2
    exact ⟨by rw [puV_none He.out]; rfl, Below.refl _ _⟩
   ·have Hlead := Lib.hid (lead_yes hp (fun h1 h2 => hld ⟨h1, h2⟩))
    have hz : 1 < s.size → ((s[0].toNat : Int) == 48) = false := fun h1 => by
     rw [beq_eq_false_iff_ne]
     intro h2
     exact hld ⟨h1, by omega⟩
    have HZ := Lib.hid hz
    clear hz hld
    by_cases h1 : 1 < s.size
    ·have hz := HZ.out h1
     have g1 : (1 : Int) < (s.size : Int) := by omega
     go_enter Tryd.func43, Tryd.ntmps43
     go_wp2_with fail
     go_loop [4, 5] (fun nv i => ∃ k : Nat, k ≤ s.size ∧ i = .int .i64 k ∧ nv = .int .i64 (Tx.val (s.data.toList.take k)) ∧ (s.data.toList.take k).all Tx.isD = true) (fun _ i => s.size - (intOf i).toNat)
     case atStart => exact ⟨0, Nat.zero_le _, rfl, rfl, rfl⟩
     case round =>
      obtain ⟨k, hk, rfl, rfl, hall⟩ := hrel
      have hv := val_bd (by omega) hall
      have Hall := Lib.hid hall
      clear hall
      by_cases hlt : k < s.size
      ·have g1 : (0 : Int) ≤ (k : Int) := by omega
       have g2 : (k : Int) < (s.size : Int) := by omega
       have hx : s[k].toNat < 256 := s[k].toNat_lt
       have Hval := Lib.hid (val_take hlt)
       have Hal := Lib.hid (all_takeD hlt)
       by_cases hd : 48 ≤ s[k].toNat ∧ s[k].toNat ≤ 57
       ·have hd1 := hd.1
        have hd2 := hd.2
        have Hd := Lib.hid (show Tx.isD s[k] = true by simp [Tx.isD, hd1, hd2])
        clear hd
        go_wp2_with fail
        go_round
        case rel =>
         refine ⟨k + 1, by omega, by go_num, ?_, by rw [Hal.out, Hall.out, Hd.out]; rfl⟩
         rw [Hval.out]
         go_num
        case measure => simp [intOf]; omega
       ·have Hd := Lib.hid (pu_digits (not_all hlt (show Tx.isD s[k] = false by simp only [Tx.isD]; simpa using hd)))
        have hd' : ((s[k].toNat : Int) < 48) ∨ (57 < (s[k].toNat : Int)) := by omega
        clear hd
        rcases hd' with hd | hd
        all_goals
         go_wp2_with fail
         go_ret2
         exact ⟨by rw [puV_none Hd.out]; rfl, Below.refl _ _⟩
      ·obtain rfl : k = s.size := by omega
       rw [List.take_of_length_le (by simp)] at Hall hv ⊢
       by_cases hm : Tx.val s.data.toList ≤ 1000000000
       ·have He := Lib.hid (show Tx.pu s.data.toList = some (Tx.val s.data.toList) by
         unfold Tx.pu; rw [if_pos ⟨Hlead.out, by simpa using hl, Hall.out, hm⟩])
        go_wp2_with fail
        go_ret2
        exact ⟨by rw [puV_some He.out]; rfl, Below.refl _ _⟩
       ·have He := Lib.hid (show Tx.pu s.data.toList = none by
         unfold Tx.pu; rw [if_neg (fun h => hm h.2.2.2)])
        have hm' : 1000000000 < Tx.val s.data.toList := by omega
        clear hm
        go_wp2_with fail
        go_ret2
        exact ⟨by rw [puV_none He.out]; rfl, Below.refl _ _⟩
    ·have g1 : (s.size : Int) ≤ 1 := by omega
     go_enter Tryd.func43, Tryd.ntmps43
     go_wp2_with fail
     go_loop [4, 5] (fun nv i => ∃ k : Nat, k ≤ s.size ∧ i = .int .i64 k ∧ nv = .int .i64 (Tx.val (s.data.toList.take k)) ∧ (s.data.toList.take k).all Tx.isD = true) (fun _ i => s.size - (intOf i).toNat)
     case atStart => exact ⟨0, Nat.zero_le _, rfl, rfl, rfl⟩
     case round =>
      obtain ⟨k, hk, rfl, rfl, hall⟩ := hrel
      have hv := val_bd (by omega) hall
      have Hall := Lib.hid hall
      clear hall
      by_cases hlt : k < s.size
      ·have g1 : (0 : Int) ≤ (k : Int) := by omega
       have g2 : (k : Int) < (s.size : Int) := by omega
       have hx : s[k].toNat < 256 := s[k].toNat_lt
       have Hval := Lib.hid (val_take hlt)
       have Hal := Lib.hid (all_takeD hlt)
       by_cases hd : 48 ≤ s[k].toNat ∧ s[k].toNat ≤ 57
       ·have hd1 := hd.1
        have hd2 := hd.2
        have Hd := Lib.hid (show Tx.isD s[k] = true by simp [Tx.isD, hd1, hd2])
        clear hd
        go_wp2_with fail
        go_round
        case rel =>
         refine ⟨k + 1, by omega, by go_num, ?_, by rw [Hal.out, Hall.out, Hd.out]; rfl⟩
         rw [Hval.out]
         go_num
        case measure => simp [intOf]; omega
       ·have Hd := Lib.hid (pu_digits (not_all hlt (show Tx.isD s[k] = false by simp only [Tx.isD]; simpa using hd)))
        have hd' : ((s[k].toNat : Int) < 48) ∨ (57 < (s[k].toNat : Int)) := by omega
        clear hd
        rcases hd' with hd | hd
        all_goals
         go_wp2_with fail
         go_ret2
         exact ⟨by rw [puV_none Hd.out]; rfl, Below.refl _ _⟩
      ·obtain rfl : k = s.size := by omega
       rw [List.take_of_length_le (by simp)] at Hall hv ⊢
       by_cases hm : Tx.val s.data.toList ≤ 1000000000
       ·have He := Lib.hid (show Tx.pu s.data.toList = some (Tx.val s.data.toList) by
         unfold Tx.pu; rw [if_pos ⟨Hlead.out, by simpa using hl, Hall.out, hm⟩])
        go_wp2_with fail
        go_ret2
        exact ⟨by rw [puV_some He.out]; rfl, Below.refl _ _⟩
       ·have He := Lib.hid (show Tx.pu s.data.toList = none by
         unfold Tx.pu; rw [if_neg (fun h => hm h.2.2.2)])
        have hm' : 1000000000 < Tx.val s.data.toList := by omega
        clear hm
        go_wp2_with fail
        go_ret2
        exact ⟨by rw [puV_none He.out]; rfl, Below.refl _ _⟩
  ·have He := Lib.hid (show Tx.pu s.data.toList = none by
    unfold Tx.pu; rw [if_neg (fun h => hl (by simpa using h.2.1))])
   go_enter Tryd.func43, Tryd.ntmps43
   go_wp2_with fail
   go_ret2
   exact ⟨by rw [puV_none He.out]; rfl, Below.refl _ _⟩
end Go.Proofs.YtolndlmhbnpmeaaDoor

/- Contracts: lists of texts in the laws: equality, marks, whether the marks are held. -/
namespace Go.Proofs.YtolndlmhbnpmeaaDoor
open Go.RowKit

def strs (l : List ByteArray) : List Value := l.map Value.string
theorem strs_len (l : List ByteArray) : (strs l).length = l.length := by simp [strs]
theorem strs_get (l : List ByteArray) (k : Nat) : (strs l)[k]? = l[k]?.map Value.string := by simp [strs]
theorem Tryd.infoStr : (Tryd.prog.info? 9).map (fun i => (i.zero, i.size, i.bytes)) = some (some (.string ByteArray.empty), 1, 16) := by kernel_rfl

theorem Reads.str_at {w : World} {B n : Nat} {A : Option Addr} {l : List ByteArray} (h : Reads w B 1 A n (strs l)) {k : Nat} (hk : k < n) :
  ∃ ad x, A = some ad ∧ ad.block < B ∧ l[k]? = some x ∧ w.cell? (ad.add k) = some (.string x) := by
 obtain ⟨ad, u, rfl, hb, hu, hc⟩ := h.at_ hk
 rw [strs_get] at hu
 cases hx : l[k]? with
 | none => rw [hx] at hu; cases hu
 | some x => rw [hx] at hu; injection hu with hu; subst hu; exact ⟨ad, x, rfl, hb, rfl, hc⟩
theorem Reads.slen {w : World} {B n : Nat} {A : Option Addr} {l : List ByteArray} (h : Reads w B 1 A n (strs l)) : l.length = n := by
 have := h.1; rw [strs_len] at this; omega
theorem str_ne {x y : ByteArray} (h : ¬ x = y) : (x.toList == y.toList) = false := by
 rw [beq_eq_false_iff_ne]
 intro he
 rw [ByteArray.toList_eq, ByteArray.toList_eq] at he
 apply h
 apply ByteArray.ext
 exact Array.toList_inj.1 he

/-- the text of a mark -/
def mtx (k : Int) : ByteArray := ⟨(109 :: Tx.dg 20 k.natAbs []).toArray⟩

theorem digM {x : Int} (h : 0 < x) : ((UInt8.ofNat (48 + x.natAbs % 10)).toNat : Int) = 48 + x % 10 := by
 rw [Tx.of48]; omega

/-- the marks from k on -/
def smarks (k : Int) (n : Nat) : List ByteArray := (List.range n).map fun i => mtx (k + ((i : Nat) : Int))
theorem smarks_len (k : Int) (n : Nat) : (smarks k n).length = n := by simp [smarks]
theorem smarks_get {k : Int} {n i : Nat} (h : i < n) : (smarks k n)[i]? = some (mtx (k + (i : Int))) := by
 simp [smarks, List.getElem?_range h]
def spart (k : Int) (i : Nat) (l : List ByteArray) : List ByteArray := smarks k i ++ l.drop i
theorem spart_zero (k : Int) (l : List ByteArray) : spart k 0 l = l := by simp [spart, smarks]
theorem spart_all {k : Int} {l : List ByteArray} {n : Nat} (h : l.length = n) : spart k n l = smarks k n := by simp [spart, ← h]
theorem spart_succ {k : Int} {i : Nat} {l : List ByteArray} (h : i < l.length) : (spart k i l).set i (mtx (k + (i : Int))) = spart k (i + 1) l := by
 unfold spart
 rw [List.set_append_right _ _ (by rw [smarks_len]; exact Nat.le_refl _), smarks_len, Nat.sub_self, List.drop_eq_getElem_cons h, List.set_cons_zero]
 unfold smarks
 rw [List.range_succ, List.map_append, List.append_assoc]
 rfl

end Go.Proofs.YtolndlmhbnpmeaaDoor

/- Contracts: lists of texts as data: rows, equality of equals, marks. -/
namespace Go.Proofs.YtolndlmhbnpmeaaDoor
open Go.RowKit

abbrev TString := ByteArray
def rString (x : TString) : List Fd := [.str x]
theorem rString_len (x : TString) : (rString x).length = 1 := rfl
def fStringS (l : List TString) : Fd := .sl (l.map rString)
theorem rString_lens (l : List TString) : ∀ r ∈ l.map rString, r.length = 1 := by
 intro r hr
 obtain ⟨x, _, rfl⟩ := List.mem_map.1 hr
 rfl
def sString (_ : TString) : Nat := 0
def nString (_ : TString) : Nat := 1
def kString (k : Nat) (_ : TString) : TString := mtx ((k : Nat) : Int)
theorem nString_le (x : TString) : nString x ≤ 4 + 4 * sString x := by simp only [nString, sString]; omega
theorem nuL_String_le (l : List TString) : nuL nString l ≤ 4 * szL sString l := nuL_le4 (fun x => by have := nString_le x; omega) l
theorem nuL_string (l : List TString) : nuL nString l = l.length := by
 unfold nuL
 induction l with
 | nil => rfl
 | cons x l ih => rw [List.map_cons, List.sum_cons, ih, List.length_cons, nString]; omega
theorem szL_string (l : List TString) : szL sString l = l.length := by
 unfold szL
 rw [nuL_zero sString (fun _ => rfl)]
 omega
theorem mkL_string (k : Nat) (l : List TString) : mkL kString nString k l = smarks (k : Int) l.length := by
 apply List.ext_getElem?
 intro i
 by_cases hi : i < l.length
 ·rw [mkL_get kString nString k (List.getElem?_eq_getElem hi), smarks_get hi, nuL_string, List.length_take, Nat.min_eq_left (by omega)]
  simp only [kString, Int.natCast_add]
 ·rw [List.getElem?_eq_none (by rw [mkL_len]; omega), List.getElem?_eq_none (by rw [smarks_len]; omega)]
theorem fStringS_row {w : World} {S : Nat → Prop} {A : Option Addr} {n c k : Nat} {l : List TString} (h : Rep w S (.slice A n c) (fStringS l)) (hk : k < n) :
  ∃ (ad : Addr) (x : ByteArray), A = some ad ∧ S ad.block ∧ l[k]? = some x ∧ w.cell? (ad.add k) = some (.string x) := by
 obtain ⟨ad, r, rfl, hb, hr, _, hc⟩ := h.row hk
 have hl := h.len
 rw [List.length_map] at hl
 have hx : l[k]? = some l[k] := List.getElem?_eq_getElem (by omega)
 rw [List.getElem?_map, hx] at hr
 injection hr with hr
 generalize l[k] = x at hx hr
 subst hr
 obtain ⟨v0, c0, h0⟩ := hc 0 (.str x) rfl
 rw [h0.str_val] at c0
 exact ⟨ad, x, rfl, hb, hx, by simpa [rString] using c0⟩
theorem strs_reads {w : World} {S : Nat → Prop} {B : Nat} {A : Option Addr} {n c : Nat} {l : List TString} (h : Rep w S (.slice A n c) (fStringS l)) (hS : ∀ b, S b → b < B) : Reads w B 1 A n (strs l) := by
 have hl := h.len
 rw [List.length_map] at hl
 refine ⟨by rw [strs_len, hl, Nat.mul_one], fun h0 => ?_⟩
 obtain ⟨ad, _, rfl, hb, _⟩ := fStringS_row h h0
 refine ⟨ad, rfl, hS _ hb, fun j u hu => ?_⟩
 rw [strs_get] at hu
 by_cases hj : j < n
 ·obtain ⟨ad', x, e, _, hx, hc⟩ := fStringS_row h hj
  injection e with e
  subst e
  rw [hx] at hu
  injection hu with hu
  rw [← hu]
  exact hc
 ·rw [List.getElem?_eq_none (by omega)] at hu
  cases hu
/-- a list of texts of the call's own -/
theorem sep_strs {w : World} {S : Nat → Prop} {base n c : Nat} {e : TypeId} {A : Option Addr} {l : List TString} (hm : n ≤ maxLen) (h : w.ownsRow base e 1 (.slice A n c) n (strs l)) (hS : ∀ g, (Value.slice A n c).ownBlock = some g → S g) : Sep w S (.slice A n c) (fStringS l) := by
 have hl : l.length = n := by have := h.1; rw [strs_len] at this; omega
 refine .sl S A n c 1 e _ (strs l) (fun i _ => ((strs l)[i]?).getD undef) (fun _ _ _ => False) (by rw [List.length_map]; exact hl) hm (rString_lens l) (own_mono h (Nat.zero_le _)) hS (fun _ _ _ h => h.elim) (fun _ _ _ _ _ h => h.elim) (fun i j hi hj => ?_) (fun i j r f hr hf => ?_)
 ·obtain rfl : j = 0 := by omega
  rw [Nat.mul_one, Nat.add_zero, List.getElem?_eq_getElem (by rw [strs_len]; omega)]
  rfl
 ·rw [List.getElem?_map] at hr
  cases hx : l[i]? with
  | none => rw [hx] at hr; cases hr
  | some x =>
   rw [hx] at hr
   injection hr with hr
   subst hr
   cases j with
   | zero =>
    simp [rString] at hf
    subst hf
    rw [strs_get, hx]
    exact .str _ x
   | succ j => simp [rString] at hf
theorem Sep.strs_own {w : World} {S : Nat → Prop} {n c : Nat} {A : Option Addr} {l : List TString} (h : Sep w S (.slice A n c) (fStringS l)) (h0 : 0 < n) : ∃ e, w.ownsRow 0 e 1 (.slice A n c) n (strs l) ∧ ∀ g, (Value.slice A n c).ownBlock = some g → S g := by
 cases h with
 | sl S A n c size e rows xs V P hn hm hs ho hS hP hd hx hr =>
  rw [List.length_map] at hn
  have h1 : size = 1 := by rw [← hs _ (List.mem_of_getElem? (show (l.map rString)[0]? = some (rString (l[0]'(by omega))) by rw [List.getElem?_map, List.getElem?_eq_getElem (by omega)]; rfl))]; rfl
  subst h1
  have hxs : xs = strs l := by
   apply List.ext_getElem?
   intro i
   by_cases hi : i < n
   ·have h2 := hx i 0 hi (by decide)
    rw [Nat.mul_one, Nat.add_zero] at h2
    have h3 := hr i 0 (rString (l[i]'(by omega))) (.str (l[i]'(by omega))) (by rw [List.getElem?_map, List.getElem?_eq_getElem (by omega)]; rfl) rfl
    rw [h2, h3.rep.str_val, strs_get, List.getElem?_eq_getElem (by omega)]
    rfl
   ·rw [List.getElem?_eq_none (by rw [ho.1]; omega), List.getElem?_eq_none (by rw [strs_len]; omega)]
  subst hxs
  exact ⟨e, ho, hS⟩

end Go.Proofs.YtolndlmhbnpmeaaDoor

/- Contracts: the fields of a line: both functions. -/
namespace Go.Proofs.YtolndlmhbnpmeaaDoor
open Go.RowKit

/-- is the k-th byte inside a field? -/
def spIn (s : ByteArray) (k : Nat) : Bool := s.data.toList.getD k 32 != 32
/-- the fields that end ahead of position k, and where the next one would begin -/
def sp (s : ByteArray) : Nat → List ByteArray × Nat
 | 0 => ([], 0)
 | k + 1 => if spIn s k then sp s k else (if (sp s k).2 < k then (sp s k).1 ++ [s.extract (sp s k).2 k] else (sp s k).1, k + 1)
theorem sp_bd (s : ByteArray) : ∀ k, (sp s k).1.length ≤ k ∧ (sp s k).2 ≤ k
 | 0 => ⟨by simp [sp], by simp [sp]⟩
 | k + 1 => by
  have ih := sp_bd s k
  rw [sp]
  split
  ·omega
  ·refine ⟨?_, Nat.le_refl _⟩
   show (if (sp s k).2 < k then (sp s k).1 ++ [s.extract (sp s k).2 k] else (sp s k).1).length ≤ k + 1
   split
   ·simp; omega
   ·omega
theorem sp_in {s : ByteArray} {k : Nat} (h : spIn s k = true) : sp s (k + 1) = sp s k := by rw [sp, if_pos h]
theorem sp_push {s : ByteArray} {k : Nat} (h : spIn s k = false) (hb : (sp s k).2 < k) : sp s (k + 1) = ((sp s k).1 ++ [s.extract (sp s k).2 k], k + 1) := by
 rw [sp, if_neg (by simp [h]), if_pos hb]
theorem sp_skip {s : ByteArray} {k : Nat} (h : spIn s k = false) (hb : ¬ (sp s k).2 < k) : sp s (k + 1) = ((sp s k).1, k + 1) := by
 rw [sp, if_neg (by simp [h]), if_neg hb]
theorem ins_at {s : ByteArray} {k : Nat} (h : k < s.size) : spIn s k = decide (s[k].toNat ≠ 32) := by
 have hk : k < s.data.toList.length := by simpa using h
 have e : s.data.toList.getD k 32 = s[k] := by simp [List.getD, List.getElem?_eq_getElem hk]; rfl
 rw [spIn, e, Bool.eq_iff_iff]
 simp only [bne_iff_ne, ne_eq, decide_eq_true_eq]
 constructor
 ·intro h1 h2; exact h1 (UInt8.toNat_inj.1 h2)
 ·intro h1 h2; exact h1 (by rw [h2]; rfl)
theorem ins_end {s : ByteArray} : spIn s s.size = false := by
 have : s.data.toList.getD s.size 32 = 32 := by simp [List.getD]
 rw [spIn, this]; rfl

def okC (c : UInt8) : Bool := decide (32 ≤ c.toNat ∧ c.toNat ≤ 126)
theorem ok_take {s : ByteArray} {k : Nat} (h : k < s.size) : (s.data.toList.take (k + 1)).all okC = ((s.data.toList.take k).all okC && okC s[k]) := by
 rw [take_snoc s k h, List.all_append]; simp
theorem not_ok {s : ByteArray} {k : Nat} (h : k < s.size) (hd : okC s[k] = false) : s.data.toList.all okC = false := by
 cases ha : s.data.toList.all okC
 ·rfl
 ·have hm : s[k] ∈ s.data.toList := by
   have : k < s.data.toList.length := by simpa using h
   have e : s[k] = s.data.toList[k] := rfl
   rw [e]; exact List.getElem_mem _
  rw [List.all_eq_true.1 ha _ hm] at hd
  cases hd
/-- the fields, if there are any -/
def spR (s : ByteArray) : List ByteArray × Bool := if s.size ≤ 600 ∧ s.data.toList.all okC = true ∧ (sp s (s.size + 1)).1.length ≤ 40 then ((sp s (s.size + 1)).1, true) else ([], false)
theorem spR_no {s : ByteArray} (h : ¬ (s.size ≤ 600 ∧ s.data.toList.all okC = true ∧ (sp s (s.size + 1)).1.length ≤ 40)) : spR s = ([], false) := by rw [spR, if_neg h]
theorem spR_yes {s : ByteArray} (h : s.size ≤ 600 ∧ s.data.toList.all okC = true ∧ (sp s (s.size + 1)).1.length ≤ 40) : spR s = ((sp s (s.size + 1)).1, true) := by rw [spR, if_pos h]
theorem spR_len (s : ByteArray) : (spR s).1.length ≤ 40 := by
 unfold spR; split
 ·rename_i h; exact h.2.2
 ·simp

/-- a list of texts in memory of the call's own, and a bool -/
def OwnStrs (r : List ByteArray × Bool) (w : World) (e : Ending) (w' : World) : Prop :=
 ∃ A c, e = .returned (.tuple #[.slice A r.1.length c, .bool r.2]) ∧ w'.ownsRow w.heap.size 9 1 (.slice A r.1.length c) r.1.length (strs r.1) ∧ Below w.heap.size w w'
theorem own_emptyS (w : World) : (w.alloc (.cells #[] 9)).ownsRow w.heap.size 9 1 (.slice (some ⟨w.heap.size, 0, none⟩) 0 0) 0 (strs []) :=
 World.ownsRow_made (base := w.heap.size) (size := 1) (e := 9) w #[] 0 (Nat.le_refl _) (by unfold maxLen; omega) rfl

/-- where a field has begun, as the program keeps it -/
def fromI (s : ByteArray) (k : Nat) : Int := if (sp s k).2 < k then ((sp s k).2 : Int) else -1
theorem from_in {s : ByteArray} {k : Nat} (h : (sp s k).2 < k) : fromI s k = ((sp s k).2 : Int) := by rw [fromI, if_pos h]
theorem from_out {s : ByteArray} {k : Nat} (h : ¬ (sp s k).2 < k) : fromI s k = -1 := by rw [fromI, if_neg h]

set_option maxRecDepth 100000 in
set_option maxHeartbeats 8000000 in
theorem i_SplitFields (s : ByteArray) (hs : s.size ≤ maxLen) (w : World) : Calls Tryd.prog 23 #[.string s] w (OwnStrs (spR s) w) := by
 unfold maxLen at hs
 obtain ⟨i0, hi, hz0, hz1, hz2⟩ := info_parts Tryd.infoStr
 by_cases hl : s.size ≤ 600
 ·go_enter Tryd.func23, Tryd.ntmps23
  go_wp2_with fail
  go_loopw [4, 5, 6, 7] (fun v b i _ wr => ∃ k : Nat, k ≤ s.size + 1 ∧ i = .int .i64 k ∧ b = .int .i64 (fromI s k) ∧ (s.data.toList.take k).all okC = true ∧ wr.ownsRow w.heap.size 9 1 v (sp s k).1.length (strs (sp s k).1) ∧ Below w.heap.size w wr) (fun _ _ i _ _ => s.size + 1 - (intOf i).toNat)
  case atStart => exact ⟨0, Nat.zero_le _, rfl, rfl, rfl, World.ownsRow_nil _ _ _ _, Below.refl _ _⟩
  case round =>
   obtain ⟨k, hk, rfl, rfl, hok, hown, hb⟩ := hrel
   have hbd := sp_bd s k
   have hbd1 := hbd.1
   have hbd2 := hbd.2
   obtain ⟨A, c, rfl, hc1, hc2, hA⟩ := own_form hown
   have hsz := hb.size
   have Hb := Lib.hid hb
   have Hown := Lib.hid hown
   have Hok := Lib.hid hok
   clear hb hown hA hok hbd
   by_cases hke : k ≤ s.size
   ·by_cases hlt : k < s.size
    ·have g1 : (0 : Int) ≤ (k : Int) := by omega
     have g2 : (k : Int) < (s.size : Int) := by omega
     have hx : s[k].toNat < 256 := s[k].toNat_lt
     have Hal := Lib.hid (ok_take hlt)
     by_cases hv : 32 ≤ s[k].toNat ∧ s[k].toNat ≤ 126
     ·have hv1 := hv.1
      have hv2 := hv.2
      have Hc := Lib.hid (show okC s[k] = true by simp [okC, hv1, hv2])
      clear hv
      by_cases h32 : s[k].toNat ≠ 32
      ·
       have HS := Lib.hid (sp_in (show spIn s k = true by rw [ins_at hlt]; simpa using h32))
       have h32' : ((s[k].toNat : Int) != 32) = true := by simp; omega
       have Hok2 := Lib.hid (show (s.data.toList.take (k + 1)).all okC = true by rw [Hal.out, Hok.out, Hc.out]; rfl)
       by_cases hbk : (sp s k).2 < k
       ·rw [from_in hbk]
        have g5 : (0 : Int) ≤ ((sp s k).2 : Int) := by omega
        go_wp2_with fail
        go_roundw
        case rel => exact ⟨k + 1, by omega, by go_num, by rw [from_in (by rw [HS.out]; omega), HS.out], Hok2.out, by rw [HS.out]; exact Hown.out, Hb.out⟩
        case measure => simp [intOf] <;> omega
       ·rw [from_out hbk]
        go_wp2_with fail
        go_roundw
        case rel => exact ⟨k + 1, by omega, by go_num, by rw [from_in (by rw [HS.out]; omega), HS.out, show (sp s k).2 = k by omega], Hok2.out, by rw [HS.out]; exact Hown.out, Hb.out⟩
        case measure => simp [intOf] <;> omega
      ·have Hins := Lib.hid (show spIn s k = false by rw [ins_at hlt]; simpa using h32)
       have h32' : ((s[k].toNat : Int) != 32) = false := by simp; omega
       have Hok2 := Lib.hid (show (s.data.toList.take (k + 1)).all okC = true by rw [Hal.out, Hok.out, Hc.out]; rfl)
       by_cases hbk : (sp s k).2 < k
       ·have HS := Lib.hid (sp_push Hins.out hbk)
        rw [from_in hbk]
        have g3 : (0 : Int) ≤ ((sp s k).2 : Int) := by omega
        have g4 : ((sp s k).2 : Int) ≤ (k : Int) := by omega
        have g5 : ((sp s k).2 : Int) < (k : Int) := by omega
        go_wp2_with (at_builtin; refine wpList_append_any _ rfl _ _ 38 rfl (w.heap.size) 9 i0 (.string ByteArray.empty) 1 16 Tryd.underlying38 hi hz0 hz1 hz2 rfl (by decide) _ _ _ rfl (Hown.out.alloc _) _ _ 1 1 _ rfl (reads_new _ _ 1 1 rfl) (by intro u hu; simp at hu; first | (subst hu; rfl) | (rcases hu with rfl | rfl <;> rfl) | (rcases hu with rfl | rfl | rfl <;> rfl)) (by unfold maxLen; omega) (by omega) (by (try simp) <;> (try omega)) ?_; intro v2 w2 hown2 hgrow2 hblk2)
        have hbb := below_push Hb.out Hown.out (Nat.le_refl _) hsz hgrow2
        have Hown2 := Lib.hid hown2
        clear hown2 hgrow2 hblk2
        go_wp2_with fail
        go_roundw
        case rel =>
         refine ⟨k + 1, by omega, by go_num, by rw [from_out (by rw [HS.out]; simp)], Hok2.out, ?_, hbb⟩
         rw [HS.out, List.length_append, strs, List.map_append]
         exact Hown2.out
        case measure => simp [intOf] <;> omega
       ·have HS := Lib.hid (sp_skip Hins.out hbk)
        rw [from_out hbk]
        have g5 : (k : Int) ≤ ((sp s k).2 : Int) := by omega
        go_wp2_with fail
        go_roundw
        case rel => exact ⟨k + 1, by omega, by go_num, by rw [from_out (by rw [HS.out]; simp)], Hok2.out, by rw [HS.out]; exact Hown.out, Hb.out⟩
        case measure => simp [intOf] <;> omega
     ·have He := Lib.hid (spR_no (s := s) (fun h => by
       have := not_ok hlt (show okC s[k] = false by simp only [okC]; simpa using hv)
       rw [this] at h
       exact absurd h.2.1 (by simp)))
      have hv' : ((s[k].toNat : Int) < 32) ∨ (126 < (s[k].toNat : Int)) := by omega
      clear hv
      rcases hv' with hv | hv
      all_goals
       go_wp2_with fail
       go_ret2
       unfold OwnStrs
       rw [He.out]
       exact ⟨none, 0, rfl, World.ownsRow_nil _ _ _ _, Hb.out⟩
    ·obtain rfl : k = s.size := by omega
     have Hok2 := Lib.hid (show (s.data.toList.take (s.size + 1)).all okC = true by
      have h1 := Hok.out
      rw [List.take_of_length_le (by simp)] at h1
      rw [List.take_of_length_le (by simp)]
      exact h1)
     have Hins := Lib.hid (ins_end (s := s))
     by_cases hbk : (sp s s.size).2 < s.size
     ·have HS := Lib.hid (sp_push Hins.out hbk)
      rw [from_in hbk]
      have g3 : (0 : Int) ≤ ((sp s s.size).2 : Int) := by omega
      have g4 : ((sp s s.size).2 : Int) ≤ (s.size : Int) := by omega
      have g5 : ((sp s s.size).2 : Int) < (s.size : Int) := by omega
      go_wp2_with (at_builtin; refine wpList_append_any _ rfl _ _ 38 rfl (w.heap.size) 9 i0 (.string ByteArray.empty) 1 16 Tryd.underlying38 hi hz0 hz1 hz2 rfl (by decide) _ _ _ rfl (Hown.out.alloc _) _ _ 1 1 _ rfl (reads_new _ _ 1 1 rfl) (by intro u hu; simp at hu; first | (subst hu; rfl) | (rcases hu with rfl | rfl <;> rfl) | (rcases hu with rfl | rfl | rfl <;> rfl)) (by unfold maxLen; omega) (by omega) (by (try simp) <;> (try omega)) ?_; intro v2 w2 hown2 hgrow2 hblk2)
      have hbb := below_push Hb.out Hown.out (Nat.le_refl _) hsz hgrow2
      have Hown2 := Lib.hid hown2
      clear hown2 hgrow2 hblk2
      go_wp2_with fail
      go_roundw
      case rel =>
       refine ⟨s.size + 1, by omega, by go_num, by rw [from_out (by rw [HS.out]; simp)], Hok2.out, ?_, hbb⟩
       rw [HS.out, List.length_append, strs, List.map_append]
       exact Hown2.out
      case measure => simp [intOf] <;> omega
     ·have HS := Lib.hid (sp_skip Hins.out hbk)
      rw [from_out hbk]
      have g5 : (s.size : Int) ≤ ((sp s s.size).2 : Int) := by omega
      go_wp2_with fail
      go_roundw
      case rel => exact ⟨s.size + 1, by omega, by go_num, by rw [from_out (by rw [HS.out]; simp)], Hok2.out, by rw [HS.out]; exact Hown.out, Hb.out⟩
      case measure => simp [intOf] <;> omega
   ·obtain rfl : k = s.size + 1 := by omega
    have Hok2 := Lib.hid (show s.data.toList.all okC = true by
     have h1 := Hok.out
     rwa [List.take_of_length_le (by simp)] at h1)
    by_cases h40 : (sp s (s.size + 1)).1.length ≤ 40
    ·have He := Lib.hid (spR_yes ⟨hl, Hok2.out, h40⟩)
     go_wp2_with fail
     go_ret2
     unfold OwnStrs
     rw [He.out]
     exact ⟨A, c, rfl, Hown.out, Hb.out⟩
    ·have He := Lib.hid (spR_no (s := s) (fun h => h40 h.2.2))
     have g5 : (40 : Int) < ((sp s (s.size + 1)).1.length : Int) := by omega
     go_wp2_with fail
     go_ret2
     unfold OwnStrs
     rw [He.out]
     exact ⟨none, 0, rfl, World.ownsRow_nil _ _ _ _, Hb.out⟩
 ·have He := Lib.hid (spR_no (s := s) (fun h => hl h.1))
  go_enter Tryd.func23, Tryd.ntmps23
  go_wp2_with fail
  go_ret2
  unfold OwnStrs
  rw [He.out]
  exact ⟨none, 0, rfl, World.ownsRow_nil _ _ _ _, Below.refl _ _⟩
end Go.Proofs.YtolndlmhbnpmeaaDoor

/- Plain fields: the fields of a line, joined by single spaces, have the same fields. -/
namespace Go.Proofs.YtolndlmhbnpmeaaDoor
open Go.RowKit

/-- each field with one space behind it -/
def joinL (fs : List ByteArray) : List UInt8 := fs.flatMap fun f => f.data.toList ++ [32]
def fldOk (f : ByteArray) : Prop := 0 < f.size ∧ f.size ≤ 600 ∧ ∀ c ∈ f.data.toList, c ≠ 32 ∧ okC c = true

theorem joinL_app (a b : List ByteArray) : joinL (a ++ b) = joinL a ++ joinL b := by simp [joinL]
theorem joinL_one (f : ByteArray) : joinL [f] = f.data.toList ++ [32] := by simp [joinL]
theorem joinL_take_succ {fs : List ByteArray} {k : Nat} {f : ByteArray} (h : fs[k]? = some f) : joinL (fs.take (k + 1)) = joinL (fs.take k) ++ (f.data.toList ++ [32]) := by
 rw [List.take_add_one, h, joinL_app, ← joinL_one]; rfl
theorem joinL_len : ∀ {fs : List ByteArray}, (∀ f ∈ fs, fldOk f) → (joinL fs).length ≤ 601 * fs.length
 | [], _ => by simp [joinL]
 | f :: fs, h => by
  have h1 := (h f (by simp)).2.1
  have h2 := joinL_len (fs := fs) fun x hx => h x (by simp [hx])
  have h3 : f.data.toList.length = f.size := rfl
  rw [show f :: fs = [f] ++ fs from rfl, joinL_app, joinL_one]
  simp only [List.length_append, List.length_cons, List.length_nil]
  omega

theorem ins_lt {s : ByteArray} {j : Nat} (h : spIn s j = true) : j < s.size := by
 rcases Nat.lt_or_ge j s.size with h' | h'
 ·exact h'
 ·have : s.data.toList.getD j 32 = 32 := by
   rw [List.getD_eq_getElem?_getD, List.getElem?_eq_none (by simpa using h')]; rfl
  rw [spIn, this] at h
  simp at h
theorem ext_list (s : ByteArray) (a b : Nat) : (s.extract a b).data.toList = (s.data.toList.drop a).take (b - a) := by
 simp [ByteArray.data_extract, List.extract_eq_take_drop]

theorem sp_inv (s : ByteArray) : ∀ k, (∀ j, (sp s k).2 ≤ j → j < k → spIn s j = true) ∧
  ∀ f ∈ (sp s k).1, ∃ a b, a < b ∧ f = s.extract a b ∧ ∀ j, a ≤ j → j < b → spIn s j = true
 | 0 => ⟨fun j _ h => absurd h (Nat.not_lt_zero _), fun f hf => by simp [sp] at hf⟩
 | k + 1 => by
  obtain ⟨h1, h2⟩ := sp_inv s k
  cases hi : spIn s k
  ·by_cases hb : (sp s k).2 < k
   ·rw [sp_push hi hb]
    refine ⟨fun j hj hj2 => by simp only at hj; omega, fun f hf => ?_⟩
    rcases List.mem_append.1 hf with hf | hf
    ·exact h2 f hf
    ·simp only [List.mem_singleton] at hf
     exact ⟨_, _, hb, hf, h1⟩
   ·rw [sp_skip hi hb]
    exact ⟨fun j hj hj2 => by simp only at hj; omega, h2⟩
  ·rw [sp_in hi]
   refine ⟨fun j hj hj2 => ?_, h2⟩
   by_cases hjk : j = k
   ·rw [hjk]; exact hi
   ·exact h1 j hj (by omega)

theorem spR_fld {s : ByteArray} : ∀ f ∈ (spR s).1, fldOk f := by
 unfold spR
 split
 ·rename_i h
  intro f hf
  obtain ⟨a, b, hab, rfl, hin⟩ := (sp_inv s _).2 f hf
  have hb : b ≤ s.size := by
   have := ins_lt (hin (b - 1) (by omega) (by omega))
   omega
  have hl := ext_list s a b
  have hsz : (s.extract a b).size = b - a := by
   have h3 : (s.extract a b).data.toList.length = (s.extract a b).size := rfl
   have h4 : s.data.toList.length = s.size := rfl
   rw [← h3, hl, List.length_take, List.length_drop, h4]
   omega
  refine ⟨by omega, by omega, fun c hc => ?_⟩
  rw [hl] at hc
  obtain ⟨i, hi, he⟩ := List.getElem_of_mem hc
  have h4 : s.data.toList.length = s.size := rfl
  have hi2 : i < b - a := by
   rw [List.length_take] at hi
   omega
  rw [List.getElem_take, List.getElem_drop] at he
  have hai : a + i < s.size := by omega
  have hx := hin (a + i) (by omega) (by omega)
  rw [ins_at hai] at hx
  have he' : s[a + i] = c := he
  rw [he'] at hx
  refine ⟨fun h32 => ?_, ?_⟩
  ·subst h32
   simp at hx
  ·exact List.all_eq_true.1 h.2.1 c (by rw [← he]; exact List.getElem_mem _)
 ·intro f hf; simp at hf

theorem sp_steps {s : ByteArray} {pre : List ByteArray} {a : Nat} (h0 : sp s a = (pre, a)) : ∀ m, (∀ j, j < m → spIn s (a + j) = true) → sp s (a + m) = (pre, a)
 | 0, _ => h0
 | m + 1, h => by
  rw [← Nat.add_assoc, sp_in (h m (by omega))]
  exact sp_steps h0 m fun j hj => h j (by omega)

theorem sp_join_from (s : ByteArray) : ∀ (fs pre : List ByteArray), s.data.toList = joinL pre ++ joinL fs → (∀ f ∈ fs, fldOk f) → sp s (joinL pre).length = (pre, (joinL pre).length) → sp s s.size = (pre ++ fs, s.size)
 | [], pre, hs, _, h0 => by
  have h4 : s.data.toList.length = s.size := rfl
  rw [hs] at h4
  simp only [joinL, List.flatMap_nil, List.append_nil] at h4 ⊢
  rw [← h4]
  exact h0
 | f :: fs, pre, hs, hf, h0 => by
  have hff := hf f (by simp)
  have hfl : f.data.toList.length = f.size := rfl
  have e1 : joinL (f :: fs) = f.data.toList ++ 32 :: joinL fs := by
   rw [show f :: fs = [f] ++ fs from rfl, joinL_app, joinL_one]; simp
  have hg : ∀ j, s.data.toList.getD ((joinL pre).length + j) 32 = (f.data.toList ++ 32 :: joinL fs).getD j 32 := fun j => by
   rw [hs, e1, List.getD_eq_getElem?_getD, List.getElem?_append_right (by omega), List.getD_eq_getElem?_getD]
   congr 2
   omega
  have h1 : sp s ((joinL pre).length + f.size) = (pre, (joinL pre).length) := by
   refine sp_steps h0 _ fun j hj => ?_
   rw [spIn, hg, List.getD_eq_getElem?_getD, List.getElem?_append_left (by omega), List.getElem?_eq_getElem (by omega)]
   have := (hff.2.2 _ (List.getElem_mem (show j < f.data.toList.length by omega))).1
   simpa using this
  have hi : spIn s ((joinL pre).length + f.size) = false := by
   rw [spIn, hg, List.getD_eq_getElem?_getD, List.getElem?_append_right (by omega), hfl, Nat.sub_self]
   rfl
  have h2 : sp s ((joinL pre).length + f.size + 1) = (pre ++ [f], (joinL pre).length + f.size + 1) := by
   rw [sp_push hi (by rw [h1]; simp only; have := hff.1; omega), h1]
   simp only
   congr 2
   congr 1
   apply ByteArray.ext
   apply Array.toList_inj.1
   rw [ext_list, hs, e1, List.drop_left, show (joinL pre).length + f.size - (joinL pre).length = f.data.toList.length by omega, List.take_left]
  have e2 : (joinL (pre ++ [f])).length = (joinL pre).length + f.size + 1 := by
   rw [joinL_app, joinL_one]; simp; omega
  have := sp_join_from s fs (pre ++ [f]) (by rw [hs, joinL_app, joinL_one, e1]; simp) (fun x hx => hf x (by simp [hx])) (by rw [e2]; exact h2)
  rw [this]
  simp

theorem sp_join {s : ByteArray} {fs : List ByteArray} (hs : s.data.toList = joinL fs) (hf : ∀ f ∈ fs, fldOk f) : sp s (s.size + 1) = (fs, s.size + 1) := by
 have h := sp_join_from s fs [] (by rw [hs]; rfl) hf rfl
 rw [sp_skip ins_end (by rw [h]; simp), h]
 rfl
theorem joinL_ok : ∀ {fs : List ByteArray}, (∀ f ∈ fs, fldOk f) → (joinL fs).all okC = true
 | [], _ => rfl
 | f :: fs, h => by
  have h2 := joinL_ok (fs := fs) fun x hx => h x (by simp [hx])
  rw [show f :: fs = [f] ++ fs from rfl, joinL_app, joinL_one, List.all_append, List.all_append, h2]
  have : f.data.toList.all okC = true := List.all_eq_true.2 fun c hc => ((h f (by simp)).2.2 c hc).2
  rw [this]
  rfl

/-- THE LAW -/
theorem spR_join {s t : ByteArray} (ht : t.data.toList = joinL (spR s).1) (hz : t.size ≤ 600) : spR t = ((spR s).1, true) := by
 have h := sp_join ht spR_fld
 have h2 : t.data.toList.all okC = true := by rw [ht]; exact joinL_ok spR_fld
 rw [spR_yes ⟨hz, h2, by rw [h]; exact spR_len s⟩, h]
end Go.Proofs.YtolndlmhbnpmeaaDoor

/- Contracts: hexadecimal texts: both functions. -/
import Derived.Test.YtbkgjgpoohlieaaInts
import Derived.Laws.BytesArg
namespace Go.Proofs.Ytbkgjgpoohlieaa
open Go.RowKit

def bys (l : List UInt8) : List Value := l.map fun c => Value.int .u8 (c.toNat : Int)
theorem bys_len (l : List UInt8) : (bys l).length = l.length := by simp [bys]
theorem Try.infoU8 : (Try.prog.info? 5).map (fun i => (i.zero, i.size, i.bytes)) = some (some (.int .u8 0), 1, 1) := by kernel_rfl

set_option maxRecDepth 100000 in
/-- the text of bytes in memory of the call's own -/
theorem run_str {w : World} {base n c : Nat} {A : Option Addr} {l : List UInt8} (h : w.ownsRow base 5 1 (.slice A n c) n (bys l)) :
  (convert 22 9 (.slice A n c)).run Try.prog w = .ok (.string ⟨l.toArray⟩) w := by
 have hl : l.length = n := by have := h.1; rw [bys_len] at this; omega
 subst hl
 rcases h.2 with ⟨hv, h0⟩ | ⟨g, cap, cur, hv, _⟩
 ·injection hv with hv1 _ hv2
  subst hv1 hv2
  have : l = [] := List.eq_nil_of_length_eq_zero h0
  subst this
  exact run_convert_bytes_nil (P := Try.prog) w 22 5 Try.underlying22 Try.underlying5 0 0 9 Try.underlying9
 ·injection hv with hv1 _ hv2
  subst hv1 hv2
  refine run_convert_bytes_back (P := Try.prog) w 22 9 5 ⟨g, 0, none⟩ _ l Try.underlying22 Try.underlying5 Try.underlying9 fun j hj => ?_
  refine h.cells (g := g) rfl j _ ?_
  simp [bys, List.getElem?_eq_getElem hj]

/-- a figure -/
def fig (x : Nat) : UInt8 := UInt8.ofNat (if x < 10 then 48 + x else 87 + x)
theorem fig_nat {x : Nat} (h : x < 16) : (fig x).toNat = if x < 10 then 48 + x else 87 + x := by
 unfold fig; split <;> (rw [UInt8.toNat_ofNat']; omega)

def enc (l : List UInt8) : List UInt8 := l.flatMap fun c => [fig (c.toNat / 16), fig (c.toNat % 16)]
theorem enc_len (l : List UInt8) : (enc l).length = 2 * l.length := by
 induction l with
 | nil => rfl
 | cons c l ih => simp only [enc, List.flatMap_cons, List.length_append, List.length_cons, List.length_nil] at ih ⊢; omega
theorem enc_snoc (l : List UInt8) (c : UInt8) : enc (l ++ [c]) = enc l ++ [fig (c.toNat / 16), fig (c.toNat % 16)] := by simp [enc]

/-- what both return -/
def HexPost (s : ByteArray) (w : World) (e : Ending) (w' : World) : Prop :=
 e = .returned (if s.size ≤ 20000 then .tuple #[.string ⟨(enc s.data.toList).toArray⟩, .bool true] else .tuple #[.string ⟨#[]⟩, .bool false]) ∧ Below w.heap.size w w'

theorem take_snoc (s : ByteArray) (k : Nat) (h : k < s.size) : s.data.toList.take (k + 1) = s.data.toList.take k ++ [s[k]] := by
 rw [List.take_succ_eq_append_getElem (by simpa using h)]; rfl

theorem idx_fig (x : Nat) (h : x < 16) (W : World) : (Instr.index 9 (.string ⟨#[48, 49, 50, 51, 52, 53, 54, 55, 56, 57, 97, 98, 99, 100, 101, 102]⟩) (.int .u8 (x : Int))).run Try.prog W = .ok (.int .u8 ((fig x).toNat : Int)) W :=
 match x, h with
 | 0, _ => by kernel_rfl
 | 1, _ => by kernel_rfl
 | 2, _ => by kernel_rfl
 | 3, _ => by kernel_rfl
 | 4, _ => by kernel_rfl
 | 5, _ => by kernel_rfl
 | 6, _ => by kernel_rfl
 | 7, _ => by kernel_rfl
 | 8, _ => by kernel_rfl
 | 9, _ => by kernel_rfl
 | 10, _ => by kernel_rfl
 | 11, _ => by kernel_rfl
 | 12, _ => by kernel_rfl
 | 13, _ => by kernel_rfl
 | 14, _ => by kernel_rfl
 | 15, _ => by kernel_rfl
 | n + 16, h => absurd h (by omega)
theorem u8_and15 (n : Nat) (h : n < 256) : bits .and .u8 (n : Int) 15 = (n : Int) % 16 := by
 have h1 := u8_and_nat n 15 h (by omega)
 have h2 : n &&& 15 = n % 16 := Nat.and_two_pow_sub_one_eq_mod n 4
 rw [h2] at h1
 exact h1

end Go.Proofs.Ytbkgjgpoohlieaa

/- Contracts: lists of texts in the laws: equality, marks, whether the marks are held. -/
import Derived.Test.YtbkgjgpoohlieaaInts
import Derived.Test.YtbkgjgpoohlieaaFmtS
namespace Go.Proofs.Ytbkgjgpoohlieaa
open Go.RowKit

def strs (l : List ByteArray) : List Value := l.map Value.string
theorem strs_len (l : List ByteArray) : (strs l).length = l.length := by simp [strs]
theorem strs_get (l : List ByteArray) (k : Nat) : (strs l)[k]? = l[k]?.map Value.string := by simp [strs]
theorem Try.infoStr : (Try.prog.info? 9).map (fun i => (i.zero, i.size, i.bytes)) = some (some (.string ByteArray.empty), 1, 16) := by kernel_rfl

theorem Reads.str_at {w : World} {B n : Nat} {A : Option Addr} {l : List ByteArray} (h : Reads w B 1 A n (strs l)) {k : Nat} (hk : k < n) :
    ∃ ad x, A = some ad ∧ ad.block < B ∧ l[k]? = some x ∧ w.cell? (ad.add k) = some (.string x) := by
  obtain ⟨ad, u, rfl, hb, hu, hc⟩ := h.at_ hk
  rw [strs_get] at hu
  cases hx : l[k]? with
  | none => rw [hx] at hu; cases hu
  | some x => rw [hx] at hu; injection hu with hu; subst hu; exact ⟨ad, x, rfl, hb, rfl, hc⟩
theorem Reads.slen {w : World} {B n : Nat} {A : Option Addr} {l : List ByteArray} (h : Reads w B 1 A n (strs l)) : l.length = n := by
  have := h.1; rw [strs_len] at this; omega
theorem str_ne {x y : ByteArray} (h : ¬ x = y) : (x.toList == y.toList) = false := by
  rw [beq_eq_false_iff_ne]
  intro he
  rw [ByteArray.toList_eq, ByteArray.toList_eq] at he
  apply h
  apply ByteArray.ext
  exact Array.toList_inj.1 he

/-- the text of a mark -/
def mtx (k : Int) : ByteArray := ⟨(109 :: Tx.dg 20 k.natAbs []).toArray⟩

theorem digM {x : Int} (h : 0 < x) : ((UInt8.ofNat (48 + x.natAbs % 10)).toNat : Int) = 48 + x % 10 := by
  rw [Tx.of48]; omega

/-- the marks from k on -/
def smarks (k : Int) (n : Nat) : List ByteArray := (List.range n).map fun i => mtx (k + ((i : Nat) : Int))
theorem smarks_len (k : Int) (n : Nat) : (smarks k n).length = n := by simp [smarks]
theorem smarks_get {k : Int} {n i : Nat} (h : i < n) : (smarks k n)[i]? = some (mtx (k + (i : Int))) := by
  simp [smarks, List.getElem?_range h]
def spart (k : Int) (i : Nat) (l : List ByteArray) : List ByteArray := smarks k i ++ l.drop i
theorem spart_zero (k : Int) (l : List ByteArray) : spart k 0 l = l := by simp [spart, smarks]
theorem spart_all {k : Int} {l : List ByteArray} {n : Nat} (h : l.length = n) : spart k n l = smarks k n := by simp [spart, ← h]
theorem spart_succ {k : Int} {i : Nat} {l : List ByteArray} (h : i < l.length) : (spart k i l).set i (mtx (k + (i : Int))) = spart k (i + 1) l := by
  unfold spart
  rw [List.set_append_right _ _ (by rw [smarks_len]; exact Nat.le_refl _), smarks_len, Nat.sub_self, List.drop_eq_getElem_cons h, List.set_cons_zero]
  unfold smarks
  rw [List.range_succ, List.map_append, List.append_assoc]
  rfl

end Go.Proofs.Ytbkgjgpoohlieaa

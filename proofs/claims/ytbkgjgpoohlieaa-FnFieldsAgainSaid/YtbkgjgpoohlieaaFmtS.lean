/- Contract: the reference's FormatInt. -/
import Derived.Test.YtbkgjgpoohlieaaFmt
namespace Go.Proofs.Ytbkgjgpoohlieaa
open Go.RowKit

theorem str_cons (c : UInt8) (l : List UInt8) : ((⟨[c].toArray⟩ : ByteArray) ++ (⟨l.toArray⟩ : ByteArray)) = ⟨(c :: l).toArray⟩ := by
  apply ByteArray.ext
  simp [ByteArray.data_append]
theorem fig_dig {y : Nat} (h : y < 10) : fig y = UInt8.ofNat (48 + y) := by
  unfold fig; rw [if_pos h]
theorem digS_neg {x : Int} (h : x.tmod 10 < 0) : fig (-x.tmod 10).toNat = UInt8.ofNat (48 + x.natAbs % 10) := by
  have h1 := tmod_abs x
  rw [fig_dig (by omega)]
  congr 2; omega
theorem digS_pos {x : Int} (h : 0 ≤ x.tmod 10) : fig (x.tmod 10).toNat = UInt8.ofNat (48 + x.natAbs % 10) := by
  have h1 := tmod_abs x
  rw [fig_dig (by omega)]
  congr 2; omega

end Go.Proofs.Ytbkgjgpoohlieaa

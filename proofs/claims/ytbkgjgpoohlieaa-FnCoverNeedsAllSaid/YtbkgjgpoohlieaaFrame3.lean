/- How a law's arguments read: bytes. -/
import Derived.Test.YtbkgjgpoohlieaaFrame2
import Derived.Test.YtbkgjgpoohlieaaHex
namespace Go.Proofs.Ytbkgjgpoohlieaa
open Go.ChangeShapes Go.WideShapes Go.ChangeAt Go.RowKit
section
variable {H : Type} {enc : TypeId × Value → H} {P : Program} {W : World} {held : Bool} {base b0 : Nat}
theorem op_bytes {t e : TypeId} {v : Value} {d : DataW H} {p : List MemPlace} (ht : P.underlying t = some (.slice e)) (he : P.underlying e = some (.int .u8)) (hC : P.cellsOf e = 1) (hv : Value.okWide P W .any b0 t v)
  (h : DataW.Trod enc P W base (fun _ => true) held t v d p) (hlt : ∀ x ∈ p, x.block < W.heap.size) : ∃ (A : Option Addr) (n c : Nat) (l : List UInt8), v = .slice A n c ∧ Reads W W.heap.size 1 A n (bys l) := by
 obtain ⟨a1, len, cap, rfl⟩ := okWide_slice ht hv
 obtain ⟨fuel, hf⟩ := h
 rcases open_ints ht he hC hf with ⟨hcs, hx⟩ | ⟨a, len', cap', zs, hcs, _, hl, hm, hz, hx, hcell, hwz⟩
 ·simp [Value.cells] at hcs
  obtain ⟨rfl, rfl, rfl⟩ := hcs
  exact ⟨none, 0, 0, [], rfl, Reads.none_⟩
 ·simp [Value.cells] at hcs
  obtain ⟨rfl, rfl, rfl⟩ := hcs
  simp only [Prod.mk.injEq] at hx
  obtain ⟨_, rfl⟩ := hx
  simp only [if_true] at hz
  refine ⟨some a, len, cap, (zs.take len).map fun n => UInt8.ofNat n.toNat, rfl, ?_, fun hn => ⟨a, rfl, ?_, fun j u hu => ?_⟩⟩
  ·simp [bys]; omega
  ·exact hlt (.cell a.block (a.off + 0)) (MemPlace.mem_row.2 ⟨0, by omega, rfl⟩)
  ·rw [bys, List.map_map, List.getElem?_map] at hu
   rcases Nat.lt_or_ge j len with hj | hj
   ·have hjz : j < zs.length := by omega
    rw [List.getElem?_take, if_pos hj, List.getElem?_eq_getElem hjz] at hu
    injection hu with hu
    have hw := hwz zs[j] (List.getElem_mem hjz)
    have hb : 0 ≤ zs[j] ∧ zs[j] ≤ 255 := by
     simp [Lit.wf] at hw
     have hm : IntKind.u8.min = 0 := by decide
     rw [hm] at hw
     exact hw
    rw [hcell j hjz, ← hu]
    have hg : zs.getD j 0 = zs[j] := by simp [List.getD, List.getElem?_eq_getElem hjz]
    rw [hg]
    simp only [Function.comp]
    congr 2
    rw [UInt8.toNat_ofNat']
    omega
   ·rw [List.getElem?_take, if_neg (by omega)] at hu
    cases hu
end
end Go.Proofs.Ytbkgjgpoohlieaa

/- Contracts: the first state of a flat module: the program's and the reference's functions. -/
import Derived.Test.YtlkjdhjeecogjaaOrd
import Derived.Test.YtlkjdhjeecogjaaWskS
import Derived.Deep.Cut
import Derived.Outline
namespace Go.Proofs.Ytlkjdhjeecogjaa
open Go.RowKit

def iniV (x : TSignal) : Nat := if x.1 = 3 then x.2.2.toNat &&& mskN x.2.1 else 0
/-- the values at the start -/
def startV (m : TModule) : List Nat := m.1.map iniV
def startK (m : TModule) (k : Nat) : List Nat := (m.1.take k).map iniV ++ List.replicate (m.1.length - k) 0
def startN (m : TModule) : TWordState := (nI (startV m), List.replicate (4 * m.2.2.2.length) 0)
def startS (m : TModule) : TWordState := if flatB m then startN m else ([], [])
theorem startK_len (m : TModule) {k : Nat} (h : k ≤ m.1.length) : (startK m k).length = m.1.length := by simp [startK]; omega
theorem startK_zero (m : TModule) : nI (startK m 0) = List.replicate m.1.length 0 := by simp [startK, nI]
theorem startK_end (m : TModule) : startK m m.1.length = startV m := by simp [startK, startV]
theorem startK_set {m : TModule} {k : Nat} {x : TSignal} (h : m.1[k]? = some x) : (startK m k).set k (iniV x) = startK m (k + 1) := by
 have hk := (List.getElem?_eq_some_iff.1 h).1
 unfold startK
 have hl : ((m.1.take k).map iniV).length = k := by simp; omega
 rw [List.set_append_right _ _ (by omega), hl, Nat.sub_self, List.take_add_one, h]
 obtain ⟨n, hn⟩ : ∃ n, m.1.length - k = n + 1 := ⟨m.1.length - k - 1, by omega⟩
 rw [hn, show m.1.length - (k + 1) = n by omega]
 simp [List.replicate_succ]
theorem startK_same {m : TModule} {k : Nat} {x : TSignal} (h : m.1[k]? = some x) (h0 : iniV x = 0) : startK m k = startK m (k + 1) := by
 rw [← startK_set h, h0]
 have hk := (List.getElem?_eq_some_iff.1 h).1
 have hl : ((m.1.take k).map iniV).length = k := by simp; omega
 apply List.ext_getElem?
 intro j
 rw [List.getElem?_set]
 by_cases hj : k = j
 ·subst hj
  rw [if_pos rfl, if_pos (by rw [startK_len m (by omega)]; exact hk)]
  unfold startK
  rw [List.getElem?_append_right (by omega), hl, Nat.sub_self]
  rw [List.getElem?_replicate, if_pos (by omega)]
 ·rw [if_neg hj]

theorem own_zeros {W : World} {g n : Nat} (hm : n ≤ maxLen) (hb : Blk W g 3 (madeCells #[.int .i64 0] n)) : W.ownsRow 0 3 1 (.slice (some ⟨g, 0, none⟩) n n) n (ints (List.replicate n 0)) := by
 have h1 := own_blk (n := n) (size := 1) hb hm (by simp [size_madeCells])
 rw [made_ints] at h1
 exact h1
theorem blk_two {W : World} {g : Nat} {t : TypeId} {a b a' b' : Value} (hb : Blk W g t #[a, b]) : Blk ((W.setCell ⟨g, 0, none⟩ a').setCell ⟨g, 1, none⟩ b') g t #[a', b'] := (hb.set_ 0 a').set_ 1 b'
/-- behind the makes: two rows of zeros and the state's block -/
def StartI (W0 wc : World) (ns nm gb g1 g2 : Nat) : Prop :=
 wc.ownsRow 0 3 1 (.slice (some ⟨g1, 0, none⟩) ns ns) ns (ints (List.replicate ns 0)) ∧ wc.ownsRow 0 3 1 (.slice (some ⟨g2, 0, none⟩) (4 * nm) (4 * nm)) (4 * nm) (ints (List.replicate (4 * nm) 0)) ∧
 Blk wc gb 33 #[.slice (some ⟨g1, 0, none⟩) ns ns, .slice (some ⟨g2, 0, none⟩) (4 * nm) (4 * nm)] ∧ (g1 ≠ g2 ∧ gb ≠ g1 ∧ gb ≠ g2) ∧ (W0.heap.size ≤ gb ∧ W0.heap.size ≤ g1 ∧ W0.heap.size ≤ g2) ∧ Below W0.heap.size W0 wc
end Go.Proofs.Ytlkjdhjeecogjaa

/- Words for a text's reading by the reference: the lines so far, the state in memory. -/
import Derived.Test.YthjdigcpgpiiiaaDoorPsh
import Derived.Test.YthjdigcpgpiiiaaDoorPsi
import Derived.Outline
namespace Go.Proofs.YthjdigcpgpiiiaaDoor
open Go.RowKit

/-- the lines that end ahead of position k; at the text's end all of them -/
def tlx (s : ByteArray) (k : Nat) : List ByteArray × Nat := if k ≤ s.size then tln s k else (tlR s, s.size + 1)
theorem tlx_le {s : ByteArray} {k : Nat} (h : k ≤ s.size) : tlx s k = tln s k := if_pos h
theorem tlx_end {s : ByteArray} {k : Nat} (h : ¬ k ≤ s.size) : tlx s k = (tlR s, s.size + 1) := if_neg h
/-- a line ends at k -/
theorem tlx_cut {s : ByteArray} {k : Nat} (hk : k ≤ s.size) (h : k = s.size ∨ s.data.toList.getD k 0 = 10) : tlx s (k + 1) = ((tln s k).1 ++ [s.extract (tln s k).2 k], k + 1) := by
 by_cases hks : k = s.size
 ·subst hks
  rw [tlx_end (by omega)]
  rfl
 ·have h10 : s.data.toList.getD k 0 = 10 := by
   rcases h with h | h
   ·exact absurd h hks
   ·exact h
  rw [tlx_le (by omega), tln_yes h10]
theorem tlx_on {s : ByteArray} {k : Nat} (hk : k < s.size) (h : ¬ s.data.toList.getD k 0 = 10) : tlx s (k + 1) = tln s k := by rw [tlx_le (by omega), tln_no h]
theorem tln_pre (s : ByteArray) (k : Nat) : ∀ d, ∃ t, (tln s (k + d)).1 = (tln s k).1 ++ t
 | 0 => ⟨[], by simp⟩
 | d + 1 => by
  obtain ⟨t, ht⟩ := tln_pre s k d
  rw [← Nat.add_assoc, tln]
  split
  ·exact ⟨t ++ [s.extract (tln s (k + d)).2 (k + d)], by rw [ht, List.append_assoc]⟩
  ·exact ⟨t, ht⟩
theorem tlx_pre (s : ByteArray) (k : Nat) : ∃ t, tlR s = (tlx s k).1 ++ t := by
 by_cases hk : k ≤ s.size
 ·rw [tlx_le hk]
  obtain ⟨d, hd⟩ : ∃ d, s.size = k + d := ⟨s.size - k, by omega⟩
  obtain ⟨t, ht⟩ := tln_pre s k d
  unfold tlR
  rw [hd, ht, List.append_assoc]
  exact ⟨_, rfl⟩
 ·rw [tlx_end hk]
  exact ⟨[], by simp⟩
theorem foldS0_app (a b : List ByteArray) : foldS0 (a ++ b) = (foldS0 a).bind fun x => b.foldlM stpS x := by
 unfold foldS0
 rw [List.foldlM_append]
 cases List.foldlM stpS ([], st0S) a <;> rfl
theorem foldS0_snoc {a : List ByteArray} {x : Fls × RdSt} (h : foldS0 a = some x) (l : ByteArray) : foldS0 (a ++ [l]) = stpS x l := by
 rw [foldS0_app, h, Option.bind_some, List.foldlM_cons]
 cases stpS x l <;> rfl
/-- a fold that fails ahead of the end -/
theorem pdO_failed {s : ByteArray} {k : Nat} (h : foldS0 (tlx s k).1 = none) : pdO s = none := by
 obtain ⟨t, ht⟩ := tlx_pre s k
 refine pdO_foldN ?_
 rw [ht, foldS0_app, h]
 rfl
theorem stp_bad {x : Fls × RdSt} {l : ByteArray} (h : (spR l).2 = false) : stpS x l = none := by unfold stpS; rw [if_neg (by rw [h]; simp)]
theorem stp_emp {x : Fls × RdSt} {l : ByteArray} (h : (spR l).2 = true) (h2 : (spR l).1 = []) : stpS x l = some x := by unfold stpS; rw [if_pos h, if_pos h2]
theorem stp_line {x : Fls × RdSt} {l : ByteArray} (h : (spR l).2 = true) (h2 : (spR l).1 ≠ []) : stpS x l = (stS x.2 ((spR l).1.map byt)).map fun t => (x.1 ++ [(spR l).1], t) := by unfold stpS; rw [if_pos h, if_neg h2]
theorem stS_mod {s : RdSt} {f : List Wd8} (h : joinW f = wMod) (h2 : s.2.2 = false) : stS s f = some (s.1, noMod, true) := if_pos ⟨h, h2⟩
theorem stS_end {s : RdSt} {f : List Wd8} (h : joinW f = wEnd) (h2 : s.2.2 = true) : stS s f = some (s.1 ++ [s.2.1], s.2.1, false) := by
 unfold stS
 rw [if_neg (fun h3 => by rw [h] at h3; exact absurd h3.1 (by decide)), if_pos ⟨h, h2⟩]
theorem stS_in {s : RdSt} {f : List Wd8} (h : joinW f ≠ wEnd) (h2 : s.2.2 = true) : stS s f = (rdLnS s.2.1 f).map fun x => (s.1, x, true) := by
 unfold stS
 rw [if_neg (fun h3 => by rw [h2] at h3; cases h3.2), if_neg (fun h3 => h h3.1), if_pos h2]
theorem stS_out {s : RdSt} {f : List Wd8} (h : joinW f ≠ wMod) (h2 : s.2.2 = false) : stS s f = none := by
 unfold stS
 rw [if_neg (fun h3 => h h3.1), if_neg (fun h3 => by rw [h2] at h3; cases h3.2), if_neg (by rw [h2]; simp)]
/-- the reference's state in memory: the boxes of the result, the design, the module -/
structure PsS (w : World) (B lo : Nat) (ov u0 u1 u2 u3 : Value) (xs : List Value) (st : RdSt) : Prop where
 res : Blk w B 24 #[.slice none 0 0]
 box : Blk w (B + 1) 24 #[ov]
 mod : Blk w (B + 2) 42 #[u0, u1, u2, u3]
 md : MdC w (B + 3) lo ov st.1 xs
 op : st.2.2 = true → FlS w lo u0 u1 u3 st.2.1.1 st.2.1.2.1 st.2.1.2.2.2 ∧ InS w lo u2 st.2.1.2.2.1
 l0 : B + 3 ≤ lo
 l1 : lo ≤ w.heap.size
section
variable {w w' : World} {B lo lo' : Nat} {ov u0 u1 u2 u3 : Value} {xs : List Value} {st : RdSt} {C : Nat → Prop}
theorem PsS.only (h : PsS w B lo ov u0 u1 u2 u3 xs st) (ho : Only C w w') (hc : NoT w 0 C (24 :: 42 :: clT)) : PsS w' B lo ov u0 u1 u2 u3 xs st := by
 have k0 : ∀ {b t} {cs : Array Value}, Blk w b t cs → t ∈ [24, 42] → Blk w' b t cs := fun {b t cs} hb ht => ho.blk hb (fun hC => hc b t hC (Nat.zero_le _) hb.of (by
  rcases List.mem_cons.1 ht with rfl | ht
  ·simp
  ·rw [List.mem_singleton.1 ht]; simp))
 have n1 : ∀ (l : Nat) (ts : List TypeId), (∀ t, t ∈ ts → t ∈ clT) → NoT w l C ts := fun l ts hts b t hC _ hb hm => hc b t hC (Nat.zero_le _) hb (by have := hts t hm; simp [this])
 exact ⟨k0 h.res (by simp), k0 h.box (by simp), k0 h.mod (by simp), h.md.only ho (fun b t hC _ hb hm => hc b t hC (Nat.zero_le _) hb (List.mem_cons_of_mem _ hm)) h.l1,
  fun he => ⟨(h.op he).1.only ho (n1 _ _ (by decide)), (h.op he).2.only ho (n1 _ _ (by decide))⟩, h.l0, by have := ho.size; have := h.l1; omega⟩
theorem PsS.below (h : PsS w B lo ov u0 u1 u2 u3 xs st) (hb : Below w.heap.size w w') : PsS w' B lo ov u0 u1 u2 u3 xs st := h.only (Only.of_below hb (fun _ => False)) (NoT.none _ _ _)
/-- a row of texts grows -/
theorem PsS.strs {base n : Nat} {v : Value} {ys : List Value} (h : PsS w B lo ov u0 u1 u2 u3 xs st) (ho : w.ownsRow base 9 1 v n ys) (hg : w.grownBy w' v.ownBlock) : PsS w' B lo ov u0 u1 u2 u3 xs st := by
 refine h.only (only_row hg) (fun b t hb _ ht hm => ?_)
 rw [← (own_of ho hb).inj ht] at hm
 exact absurd hm (by decide)
theorem MdC.up (h : MdC w lo' lo ov st.1 xs) {hi : Nat} (hh : lo ≤ hi) : MdC w lo' hi ov st.1 xs := ⟨h.1, h.2.keep (fun _ _ => rfl) (fun b hb => ⟨⟨hb.1.1, by have := hb.1.2; omega⟩, hb.2⟩)⟩
end
theorem mod_four {W : World} {g : Nat} {a b c d a' b' c' d' : Value} (_h : Blk W g 42 #[a, b, c, d]) : Only (fun k => k = g) W ((((W.setCell ⟨g, 0, none⟩ a').setCell ⟨g, 1, none⟩ b').setCell ⟨g, 2, none⟩ c').setCell ⟨g, 3, none⟩ d') :=
 ((((Only.refl (fun k => k = g) W).setCell (p := ⟨g, 0, none⟩) (.inl rfl) a').setCell (p := ⟨g, 1, none⟩) (.inl rfl) b').setCell (p := ⟨g, 2, none⟩) (.inl rfl) c').setCell (p := ⟨g, 3, none⟩) (.inl rfl) d'
end Go.Proofs.YthjdigcpgpiiiaaDoor

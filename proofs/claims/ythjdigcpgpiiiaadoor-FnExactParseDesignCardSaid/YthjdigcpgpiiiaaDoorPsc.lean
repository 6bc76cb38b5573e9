/- Words for the reading of lines: instances that grow, the open module behind a pointer; the closure that picks a field. -/
import Derived.Test.YthjdigcpgpiiiaaDoorPsb
import Derived.Test.YthjdigcpgpiiiaaDoorChg
import Derived.Outline
namespace Go.Proofs.YthjdigcpgpiiiaaDoor
open Go.RowKit

section
variable {w w' w0 : World} {lo : Nat} {v0 v1 v2 v3 v' : Value} {sg : List TSignal} {ag : List TAssign} {mm : List TMem} {ins : List TInst}
/-- an instance; its ports lie in a block of their own, made since w0 -/
theorem InS.pushI {a b : Int} {ps : List Int} {A : Option Addr} {no c base : Nat} {R : Nat → Prop} {xs : List Value} (h1 : RwS w lo 78 3 3 v2 (ins.map rInst) R xs) (hR : ∀ b, R b → b < w0.heap.size) (hlo : lo ≤ w0.heap.size) (hb : w0.heap.size ≤ base)
  (ho : w.ownsRow base 3 1 (.slice A no c) no (ints ps)) (hm : no ≤ maxLen)
  (hown : w'.ownsRow lo 78 3 v' (ins.length + 1) (xs ++ [.int .i64 a, .int .i64 b, .slice A no c])) (hg : w.grownBy w' v2.ownBlock) : InS w' lo v' (ins ++ [(a, b, ps)]) := by
 refine ⟨fun b => R b ∨ ∃ j : Nat, j = 2 ∧ (Value.slice A no c).ownBlock = some b, xs ++ [.int .i64 a, .int .i64 b, .slice A no c], ?_⟩
 rw [List.map_append]
 refine RwS.push (w0 := w0) (row := rInst (a, b, ps)) (Q := fun j b => j = 2 ∧ (Value.slice A no c).ownBlock = some b) hR h1 hlo (by decide) (by rw [List.length_map]; exact hown) hg rfl (fun j b hj => ⟨Nat.le_trans hb (ho.lt b hj.2).1, own_of ho hj.2⟩) (fun j j' b h1 h2 => h1.1.trans h2.1.symm) (fun j f hf => ?_)
 match j, hf with
 | 0, hf => simp [rInst] at hf; subst hf; exact ⟨_, rfl, .int _ _⟩
 | 1, hf => simp [rInst] at hf; subst hf; exact ⟨_, rfl, .int _ _⟩
 | 2, hf =>
  simp [rInst] at hf
  subst hf
  exact ⟨_, rfl, sep_ints hm (own_mono ho (Nat.zero_le _)) (fun g hg => ⟨rfl, hg⟩)⟩
 | j + 3, hf => simp [rInst] at hf
/-- a row of another type grows -/
theorem InS.grown {base size n : Nat} {t : TypeId} {v : Value} {xs : List Value} (h : InS w lo v2 ins) (ho : w.ownsRow base t size v n xs) (ht : t ∉ [78, 3]) (hg : w.grownBy w' v.ownBlock) : InS w' lo v2 ins := h.only (only_row hg) (grown_not ho ht)
theorem FlS.grown {base size n : Nat} {t : TypeId} {v : Value} {xs : List Value} (h : FlS w lo v0 v1 v3 sg ag mm) (ho : w.ownsRow base t size v n xs) (ht : t ∉ [66, 71, 73, 80]) (hg : w.grownBy w' v.ownBlock) : FlS w' lo v0 v1 v3 sg ag mm := h.only (only_row hg) (grown_not ho ht)
theorem InS.set {g : Nat} {t : TypeId} (h : InS w lo v2 ins) (hb : OfT w t g) (ht : t ∉ [78, 3]) (i : Nat) (u : Value) : InS (w.setCell ⟨g, i, none⟩ u) lo v2 ins :=
 h.only ((Only.refl (fun b => b = g) w).setCell (p := ⟨g, i, none⟩) (.inl rfl) u) (fun b t' hb' _ ht' => by subst hb'; rw [← hb.inj ht']; exact ht)
theorem FlS.set {g : Nat} {t : TypeId} (h : FlS w lo v0 v1 v3 sg ag mm) (hb : OfT w t g) (ht : t ∉ [66, 71, 73, 80]) (i : Nat) (u : Value) : FlS (w.setCell ⟨g, i, none⟩ u) lo v0 v1 v3 sg ag mm :=
 h.only ((Only.refl (fun b => b = g) w).setCell (p := ⟨g, i, none⟩) (.inl rfl) u) (fun b t' hb' _ ht' => by subst hb'; rw [← hb.inj ht']; exact ht)
end
/-- the last module of a row of modules, open: its four lists grow from lo on -/
structure OpM (w : World) (lo gm q c : Nat) (xs0 : List Value) (v0 v1 v2 v3 : Value) (m : TModule) : Prop where
 row : w.ownsRow 0 42 4 (.slice (some ⟨gm, 0, none⟩) (q + 1) c) (q + 1) (xs0 ++ [v0, v1, v2, v3])
 len : xs0.length = q * 4
 lt : gm < lo
 fl : FlS w lo v0 v1 v3 m.1 m.2.1 m.2.2.2
 ins : InS w lo v2 m.2.2.1
theorem OpM.cells {w : World} {lo gm q c : Nat} {xs0 : List Value} {v0 v1 v2 v3 : Value} {m : TModule} (h : OpM w lo gm q c xs0 v0 v1 v2 v3 m) :
  w.cell? ⟨gm, q * 4, none⟩ = some v0 ∧ w.cell? ⟨gm, q * 4 + 1, none⟩ = some v1 ∧ w.cell? ⟨gm, q * 4 + 2, none⟩ = some v2 ∧ w.cell? ⟨gm, q * 4 + 3, none⟩ = some v3 := by
 have h0 : ∀ j u, [v0, v1, v2, v3][j]? = some u → w.cell? ⟨gm, q * 4 + j, none⟩ = some u := fun j u hj => by
  have hj4 : j < 4 := (List.getElem?_eq_some_iff.1 hj).1
  have h1 := h.row.cellAt (q * 4 + j) (by omega)
  rw [List.getElem?_append_right (by rw [h.len]; omega), h.len, Nat.add_sub_cancel_left, hj] at h1
  exact h1
 exact ⟨h0 0 v0 rfl, h0 1 v1 rfl, h0 2 v2 rfl, h0 3 v3 rfl⟩
theorem at0_some {fs : List ByteArray} {i : Nat} {x : ByteArray} (h : fs[i]? = some x) : at0 (fs.map byt) i = byt x := by
 unfold at0
 rw [List.getD, List.getElem?_map, h]
 rfl
theorem at0_none {fs : List ByteArray} {i : Nat} (h : fs.length ≤ i) : at0 (fs.map byt) i = [] := by
 unfold at0
 rw [List.getD, List.getElem?_map, List.getElem?_eq_none h]
 rfl
set_option maxRecDepth 100000 in
set_option maxHeartbeats 4000000 in
theorem i_at {w : World} {g fb n c : Nat} {A : Option Addr} {fs : List ByteArray} (hX : Blk w g 43 #[.slice A n c]) (hr : w.ownsRow fb 9 1 (.slice A n c) n (strs fs)) (i : Nat) :
  Calls Tryd.prog 39 #[.int .i64 i, .pointer (some ⟨g, 0, none⟩)] w fun e w' => e = .returned (.string (bt (at0 (fs.map byt) i))) ∧ w = w' := by
 have x0 := blkS1 hX
 have R := Reads.of_own hr
 have hl := R.slen
 have g1 : (0 : Int) ≤ (i : Int) := by omega
 by_cases h : i < n
 ·obtain ⟨ad, x, rfl, hab, hx, hc⟩ := R.str_at h
  have HA := Lib.hid (at0_some hx)
  have g2 : (i : Int) < (n : Int) := by omega
  clear hx hl hr R
  go_enter Tryd.func39, Tryd.ntmps39
  go_wp2_with fail
  go_ret
  exact ⟨by rw [HA.out]; rfl, rfl⟩
 ·have HA := Lib.hid (at0_none (fs := fs) (i := i) (by omega))
  have g2 : (n : Int) ≤ (i : Int) := by omega
  clear hl hr R
  go_enter Tryd.func39, Tryd.ntmps39
  go_wp2_with fail
  go_ret
  exact ⟨by rw [HA.out]; rfl, rfl⟩
end Go.Proofs.YthjdigcpgpiiiaaDoor

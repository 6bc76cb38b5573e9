/- Lists of structs of numbers in memory of their own; a module's copy so far. -/
import Derived.Test.YtolndlmhbnpmeaaDoorGrw
import Derived.Test.YtolndlmhbnpmeaaDoorGf
import Derived.Test.YtolndlmhbnpmeaaDoorOpS
import Derived.Test.YtolndlmhbnpmeaaDoorPorts
import Derived.Test.YtolndlmhbnpmeaaDoorEv
import Derived.Test.YtolndlmhbnpmeaaDoorGa
namespace Go.Proofs.YtolndlmhbnpmeaaDoor
open Go.RowKit

def eSg (x : TSignal) : List Int := [x.1, x.2.1, x.2.2]
def eMm (x : TMem) : List Int := [x.1, x.2.1, x.2.2.1, x.2.2.2]
theorem eSg_len (x : TSignal) : (eSg x).length = 3 := rfl
theorem eMm_len (x : TMem) : (eMm x).length = 4 := rfl
/-- a list of structs of numbers in memory of its own -/
theorem sep_recs {α : Type} {enc : α → List Int} {size : Nat} (hE : ∀ x, (enc x).length = size) (h0 : 0 < size) {w : World} {S : Nat → Prop} {base n c : Nat} {e : TypeId} {A : Option Addr} {l : List α} (hm : n ≤ maxLen) (h : w.ownsRow base e size (.slice A n c) n (recs enc l)) (hS : ∀ g, (Value.slice A n c).ownBlock = some g → S g) : Sep w S (.slice A n c) (frecs enc l) := by
 have hl : l.length = n := by
  have h1 := h.1
  rw [recs_len hE] at h1
  exact Nat.eq_of_mul_eq_mul_right h0 h1
 refine .sl S A n c size e _ (recs enc l) (fun i j => ((recs enc l)[i * size + j]?).getD undef) (fun _ _ _ => False) (by rw [List.length_map]; exact hl) hm (fun r hr => ?_) (own_mono h (Nat.zero_le _)) hS (fun _ _ _ h => h.elim) (fun _ _ _ _ _ h => h.elim) (fun i j hi hj => ?_) (fun i j r f hr hf => ?_)
 ·obtain ⟨x, _, rfl⟩ := List.mem_map.1 hr
  unfold frow
  rw [List.length_map, hE]
 ·have hlt : i * size + j < (recs enc l).length := by
   rw [h.1]
   calc i * size + j < i * size + size := by omega
    _ = (i + 1) * size := by rw [Nat.add_mul, Nat.one_mul]
    _ ≤ n * size := Nat.mul_le_mul_right _ hi
  rw [List.getElem?_eq_getElem hlt]
  rfl
 ·rw [List.getElem?_map] at hr
  cases hx : l[i]? with
  | none => rw [hx] at hr; cases hr
  | some x =>
   rw [hx] at hr
   injection hr with hr
   subst hr
   unfold frow at hf
   rw [List.getElem?_map] at hf
   cases hy : (enc x)[j]? with
   | none => rw [hy] at hf; cases hf
   | some y =>
    rw [hy] at hf
    injection hf with hf
    subst hf
    have hj : j < size := by rw [← hE x]; exact (List.getElem?_eq_some_iff.1 hy).1
    have e1 := recs_get hE j hj l i
    rw [hx] at e1
    simp only [Option.bind_some, hy, Option.map_some] at e1
    rw [e1]
    exact .int _ y
theorem blk_four {W : World} {g : Nat} {t : TypeId} {a b c d a' b' c' d' : Value} (hb : Blk W g t #[a, b, c, d]) : Blk ((((W.setCell ⟨g, 0, none⟩ a').setCell ⟨g, 1, none⟩ b').setCell ⟨g, 2, none⟩ c').setCell ⟨g, 3, none⟩ d') g t #[a', b', c', d'] := (((hb.set_ 0 a').set_ 1 b').set_ 2 c').set_ 3 d'
theorem Only.grown2 {S : Nat → Prop} {w w1 w' : World} {row : Option Nat} (h : Only S w w1) (hg : w1.grownBy w' row) (hr : ∀ g, row = some g → S g ∨ w.heap.size ≤ g) : Only S w w' :=
 ⟨hg.os.trans h.os, hg.tape.trans h.tape, hg.output.trans h.output, Nat.le_trans h.size hg.size, fun b hb hs => (hg.block b (by have := h.size; omega) (fun e => by
  rcases hr b e.symm with h1 | h1
  ·exact hs h1
  ·omega)).trans (h.block b hb hs)⟩
theorem asg_len {m : TModule} (hz : sModule m ≤ 1048576) {k : Nat} {a : Int} {os : List TOp} (hx : m.2.1[k]? = some (a, os)) : os.length ≤ 1048576 := by
 have h1 := nuL_el sAssign (List.mem_of_getElem? hx)
 have h2 : sAssign (a, os) = szL sOp os := rfl
 rw [h2] at h1
 unfold sModule szL at hz
 unfold szL at h1
 omega
theorem ins_len {m : TModule} (hz : sModule m ≤ 1048576) {k : Nat} {a b : Int} {ps : List Int} (hx : m.2.2.1[k]? = some (a, b, ps)) : ps.length ≤ 1048576 := by
 have h1 := nuL_el sInst (List.mem_of_getElem? hx)
 have h2 : sInst (a, b, ps) = szL sInt ps := rfl
 rw [h2] at h1
 unfold sModule szL at hz
 unfold szL at h1
 omega
theorem row_assign {a : Int} {os : List TOp} {v : Value} {w : World} {Q : Nat → Nat → Prop} (hs : Sep w (Q 1) v (fOpS os)) : ∀ (j : Nat) (f : Fd), (rAssign (a, os))[j]? = some f → ∃ u, [Value.int .i64 a, v][j]? = some u ∧ Sep w (Q j) u f := by
 intro j f hf
 match j, hf with
 | 0, hf => simp [rAssign] at hf; subst hf; exact ⟨_, rfl, .int _ _⟩
 | 1, hf => simp [rAssign] at hf; subst hf; exact ⟨_, rfl, hs⟩
 | j + 2, hf => simp [rAssign] at hf
theorem row_inst {a b : Int} {ps : List Int} {v : Value} {w : World} {Q : Nat → Nat → Prop} (hs : Sep w (Q 2) v (fIntS ps)) : ∀ (j : Nat) (f : Fd), (rInst (a, b, ps))[j]? = some f → ∃ u, [Value.int .i64 a, Value.int .i64 b, v][j]? = some u ∧ Sep w (Q j) u f := by
 intro j f hf
 match j, hf with
 | 0, hf => simp [rInst] at hf; subst hf; exact ⟨_, rfl, .int _ _⟩
 | 1, hf => simp [rInst] at hf; subst hf; exact ⟨_, rfl, .int _ _⟩
 | 2, hf => simp [rInst] at hf; subst hf; exact ⟨_, rfl, hs⟩
 | j + 3, hf => simp [rInst] at hf
theorem rep_reads2 {w : World} {S : Nat → Prop} {B n c : Nat} {A : Option Addr} {l : List Int} (h : Rep w S (.slice A n c) (fIntS l)) (hS : ∀ b, S b → b < B) : Reads w B 1 A n (ints l) := by
 have h1 := Rep.to_reads (enc := fun x : Int => [x]) (size := 1) (fun _ => rfl) (by decide) h hS
 rw [ints_recs]
 exact h1
theorem ocel {S : Nat → Prop} {W0 : World} {p : Addr} {u : Value} (h : W0.cell? p = some u) (hp : p.block < W0.heap.size) (hn : ¬ S p.block) : ∀ W : Wd (fun w => Only S W0 w), W.val.cell? p = some u := fun W => (W.ok.cell hp hn).trans h
/-- the copies of the signals and of the memories, and the new module's block -/
def CopyI (U0 wc : World) (sg : List TSignal) (ms : List TMem) (ns nm gb h0 k0 h1 k1 : Nat) : Prop :=
 wc.ownsRow U0.heap.size 66 3 (.slice (some ⟨h0, 0, none⟩) ns k0) ns (recs eSg sg) ∧ wc.ownsRow U0.heap.size 77 4 (.slice (some ⟨h1, 0, none⟩) nm k1) nm (recs eMm ms) ∧
 Blk wc gb 50 #[.slice (some ⟨h0, 0, none⟩) ns k0, .slice none 0 0, .slice none 0 0, .slice (some ⟨h1, 0, none⟩) nm k1] ∧ (h0 ≠ h1 ∧ gb ≠ h0 ∧ gb ≠ h1) ∧ (U0.heap.size ≤ gb ∧ U0.heap.size ≤ h0 ∧ U0.heap.size ≤ h1) ∧ Below U0.heap.size U0 wc
theorem own_up' {w : World} {base base' size n : Nat} {e : TypeId} {v : Value} {xs : List Value} (h : w.ownsRow base e size v n xs) (hb : ∀ g, v.ownBlock = some g → base' ≤ g) : w.ownsRow base' e size v n xs := by
 refine ⟨h.1, h.2.imp id ?_⟩
 rintro ⟨g, cap, cur, hv, hl, r⟩
 exact ⟨g, cap, cur, hv, hb g (by rw [hv]; rfl), r⟩
theorem slice_form {w' : World} {lo n size : Nat} {e : TypeId} {v' : Value} {xs : List Value} {o : Option Nat} {b : Nat} (h : w'.ownsRow lo e size v' n xs) (hk : v'.ownBlock = some b ∨ v'.ownBlock = o) (ho : ∃ q, o = some q) : ∃ g c, v' = .slice (some ⟨g, 0, none⟩) n c := by
 rcases h.2 with ⟨rfl, _⟩ | ⟨g, cap, cur, rfl, _⟩
 ·exfalso
  obtain ⟨q, rfl⟩ := ho
  rcases hk with h1 | h1
  ·have h2 : (none : Option Nat) = some _ := h1
   cases h2
  ·have h2 : (none : Option Nat) = some _ := h1
   cases h2
 ·exact ⟨g, cap, rfl⟩
theorem Tryd.infAssignC : (Tryd.prog.info? 69).map (fun i => (i.zero, i.size, i.bytes)) = some (some (.agg #[.int .i64 0, .slice none 0 0]), 2, 32) := by kernel_rfl
theorem Tryd.infInstC : (Tryd.prog.info? 75).map (fun i => (i.zero, i.size, i.bytes)) = some (some (.agg #[.int .i64 0, .int .i64 0, .slice none 0 0]), 3, 40) := by kernel_rfl
theorem Tryd.infSignalC : (Tryd.prog.info? 66).map (fun i => (i.zero, i.size, i.bytes)) = some (some (.agg #[.int .i64 0, .int .i64 0, .int .i64 0]), 3, 24) := by kernel_rfl
theorem Tryd.infMemC : (Tryd.prog.info? 77).map (fun i => (i.zero, i.size, i.bytes)) = some (some (.agg #[.int .i64 0, .int .i64 0, .int .i64 0, .int .i64 0]), 4, 32) := by kernel_rfl
theorem Tryd.infOpC : (Tryd.prog.info? 71).map (fun i => (i.zero, i.size, i.bytes)) = some (some (.agg #[.int .i64 0, .int .i64 0, .int .i64 0]), 3, 24) := by kernel_rfl
theorem Tryd.infModuleC : (Tryd.prog.info? 50).map (fun i => (i.zero, i.size, i.bytes)) = some (some (.agg #[.slice none 0 0, .slice none 0 0, .slice none 0 0, .slice none 0 0]), 4, 96) := by kernel_rfl
end Go.Proofs.YtolndlmhbnpmeaaDoor

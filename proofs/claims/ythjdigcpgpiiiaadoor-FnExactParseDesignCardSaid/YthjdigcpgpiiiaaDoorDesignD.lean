/- Contracts: Design in the laws: the size, the copy, equality of equals, marks. -/
import Derived.Test.YthjdigcpgpiiiaaDoorModuleD
import Derived.Outline
namespace Go.Proofs.YthjdigcpgpiiiaaDoor
open Go.RowKit

abbrev TDesign := List TModule
def rDesign (x : TDesign) : List Fd := [fModuleS x]
theorem rDesign_len (x : TDesign) : (rDesign x).length = 1 := rfl
def fDesignS (l : List TDesign) : Fd := .sl (l.map rDesign)
theorem rDesign_lens (l : List TDesign) : ∀ r ∈ l.map rDesign, r.length = 1 := by
 intro r hr
 obtain ⟨x, _, rfl⟩ := List.mem_map.1 hr
 rfl
def sDesign (x : TDesign) : Nat := szL sModule x
def nDesign (x : TDesign) : Nat := nuL nModule x
def kDesign (k : Nat) (x : TDesign) : TDesign := (mkL kModule nModule k x)
theorem nDesign_le (x : TDesign) : nDesign x ≤ 4 * sDesign x := by simp only [nDesign, sDesign]; have h0 := nuL_Module_le x; omega
/-- v is such a struct -/
def RDesign (w : World) (S : Nat → Prop) (v : Value) (x : TDesign) : Prop := ∃ (v0 : Value), v = .agg #[v0] ∧ Rep w S v0 (fModuleS x)
/-- .. in memory of its own -/
def QDesign (w : World) (S : Nat → Prop) (v : Value) (x : TDesign) : Prop := ∃ (v0 : Value) (P : Nat → Nat → Prop), v = .agg #[v0] ∧ (∀ j b, P j b → S b) ∧ (∀ i j b, P i b → P j b → i = j) ∧ Sep w (P 0) v0 (fModuleS x)
theorem QDesign.r {w : World} {S : Nat → Prop} {v : Value} {x : TDesign} (h : QDesign w S v x) : RDesign w S v x := by
 obtain ⟨v0, P, rfl, hP, _, h0⟩ := h
 exact ⟨v0, rfl, h0.rep.mono (hP 0)⟩
theorem RDesign.keep {w w' : World} {S : Nat → Prop} {v : Value} {x : TDesign} (h : RDesign w S v x) (hk : ∀ p : Addr, S p.block → w'.cell? p = w.cell? p) : RDesign w' S v x := by
 obtain ⟨v0, e, h0⟩ := h
 exact ⟨v0, e, h0.keep hk⟩
theorem RDesign.under {w w' : World} {S : Nat → Prop} {B : Nat} {v : Value} {x : TDesign} (h : RDesign w S v x) (hS : ∀ b, S b → b < B) (hb : Below B w w') : RDesign w' S v x := h.keep fun _p hp => hb.cell (hS _ hp)
theorem RDesign.mono {w : World} {S S' : Nat → Prop} {v : Value} {x : TDesign} (h : RDesign w S v x) (hS : ∀ b, S b → S' b) : RDesign w S' v x := by
 obtain ⟨v0, e, h0⟩ := h
 exact ⟨v0, e, h0.mono hS⟩
theorem QDesign.keep {w w' : World} {S : Nat → Prop} {v : Value} {x : TDesign} (h : QDesign w S v x) (hk : ∀ b, S b → w'.heap[b]? = w.heap[b]?) : QDesign w' S v x := by
 obtain ⟨v0, P, e, hP, hd, h0⟩ := h
 exact ⟨v0, P, e, hP, hd, h0.keep (fun b hb => hk b (hP _ b hb))⟩
theorem QDesign.mono {w : World} {S S' : Nat → Prop} {v : Value} {x : TDesign} (h : QDesign w S v x) (hS : ∀ b, S b → S' b) : QDesign w S' v x := by
 obtain ⟨v0, P, e, hP, hd, h0⟩ := h
 exact ⟨v0, P, e, fun j b hb => hS b (hP j b hb), hd, h0⟩
theorem RDesign.form {w : World} {S : Nat → Prop} {v : Value} {x : TDesign} (h : RDesign w S v x) : ∃ (A0 : Option Addr) (n0 c0 : Nat), v = .agg #[.slice A0 n0 c0] := by
 obtain ⟨v0, rfl, h0⟩ := h
 obtain ⟨A0, n0, c0, rfl⟩ := slv_of h0
 exact ⟨_, _, _, rfl⟩

set_option maxRecDepth 100000 in
set_option maxHeartbeats 4000000 in
theorem d_eqDesign {w : World} {S S' : Nat → Prop} {v v' : Value} {x : TDesign} (hz : sDesign x ≤ 1048576) (h : RDesign w S v x) (h' : RDesign w S' v' x) (hS : ∀ b, S b → b < w.heap.size) (hS' : ∀ b, S' b → b < w.heap.size) :
  Calls Tryd.prog 7 #[v, v'] w fun e w' => e = .returned (.bool true) ∧ Below w.heap.size w w' := by
 obtain ⟨x0, rfl⟩ : ∃ x0, x0 = x := ⟨x, rfl⟩
 obtain ⟨v0, rfl, h0⟩ := h
 obtain ⟨u0, rfl, h0'⟩ := h'
 simp only [sDesign] at hz
 go_enter Tryd.func7, Tryd.ntmps7
 go_wp2_with fail
 refine (d_eqModuleS (by omega) (h0.under hS bel_) (h0'.under hS' bel_) (fun b hb => by have := hS b hb; (try simp) <;> omega) (fun b hb => by have := hS' b hb; (try simp) <;> omega)).mono ?_
 rintro e w1 ⟨rfl, hb1⟩
 have z1 := hb1.size
 try simp at z1
 (try have y1_0 : w.heap.size < w1.heap.size := (by omega))
 have q1_0 := fun o => (bcell hb1).1 (w.heap.size) o (by (try simp) <;> (try omega))
 have p1_0 := fun o => (bcell hb1).2 (w.heap.size) o (by (try simp) <;> (try omega))
 (try have y1_1 : w.heap.size + 1 < w1.heap.size := (by omega))
 have q1_1 := fun o => (bcell hb1).1 (w.heap.size + 1) o (by (try simp) <;> (try omega))
 have p1_1 := fun o => (bcell hb1).2 (w.heap.size + 1) o (by (try simp) <;> (try omega))
 go_wp2_with fail
 go_ret
 exact ⟨rfl, bel_⟩

set_option maxRecDepth 100000 in
set_option maxHeartbeats 4000000 in
theorem d_markDesign {w : World} {S : Nat → Prop} {v : Value} {x : TDesign} (k0 : Nat) (hk0 : k0 + nDesign x ≤ 1099511627776) (h : QDesign w S v x) (hS : ∀ b, S b → b < w.heap.size) :
  Calls Tryd.prog 8 #[v, .int .i64 k0] w fun e w' => e = .returned (.int .i64 ((k0 + nDesign x : Nat) : Int)) ∧ QDesign w' S v (kDesign k0 x) ∧ Only S w w' := by
 obtain ⟨x0, rfl⟩ : ∃ x0, x0 = x := ⟨x, rfl⟩
 obtain ⟨v0, P, rfl, hP, hd, h0⟩ := h
 simp only [nDesign] at hk0
 have HP := Lib.hid hP
 have Hd := Lib.hid hd
 clear hP hd
 have hSP : ∀ j b, P j b → b < w.heap.size := fun j b hb => hS b (HP.out j b hb)
 have hSb : ∀ b, S b → ¬ b = w.heap.size := fun b hb => by have := hS b hb; omega
 go_enter Tryd.func8, Tryd.ntmps8
 go_wp2_with fail
 have HX0 := Lib.hid (Blk.new w 24 #[v0])
 have HO0 := Lib.hid (show Only S w (w.alloc (.cells #[v0] 24)) from (Only.refl S w).alloc _)
 have HS0_0 := Lib.hid (h0.alloc (hSP 0) (.cells #[v0] 24))
 clear h0
 refine (d_markModuleS (k0) (by omega) HS0_0.out (fun b hb => by have := hSP 0 b hb; have := HO0.out.size; (try simp) <;> omega)).mono ?_
 rintro e w1 ⟨rfl, hs1, ho1⟩
 have HX1 := Lib.hid (ho1.blk HX0.out (fun hc => by have := hSP _ _ hc; omega))
 have HO1 := Lib.hid (HO0.out.trans (ho1.more (HP.out 0)))
 have HS1_0 := Lib.hid hs1
 clear hs1 ho1
 have y0 := HX1.out.cell 0
 simp only [List.getElem?_toArray, List.getElem?_cons_zero] at y0
 go_wp2_with fail
 go_ret
 refine ⟨ret_int (by (try simp only [nDesign]); go_num), ⟨v0, P, rfl, HP.out, Hd.out, HS1_0.out⟩, HO1.out⟩

set_option maxRecDepth 100000 in
set_option maxHeartbeats 4000000 in
theorem d_heldDesign {w : World} {S : Nat → Prop} {v : Value} {x : TDesign} (k0 : Nat) (hk0 : k0 + nDesign x ≤ 1099511627776) (h : RDesign w S v (kDesign k0 x)) (hS : ∀ b, S b → b < w.heap.size) :
  Calls Tryd.prog 9 #[v, .int .i64 k0] w fun e w' => e = .returned (.int .i64 ((k0 + nDesign x : Nat) : Int)) ∧ Below w.heap.size w w' := by
 obtain ⟨x0, rfl⟩ : ∃ x0, x0 = x := ⟨x, rfl⟩
 obtain ⟨v0, rfl, h0⟩ := h
 simp only [nDesign] at hk0
 simp only [kDesign] at h0
 go_enter Tryd.func9, Tryd.ntmps9
 go_wp2_with fail
 refine (d_heldModuleS (k0) (by omega) (h0.under hS bel_) (fun b hb => by have := hS b hb; (try simp) <;> omega)).mono ?_
 rintro e w1 ⟨rfl, hb1⟩
 have z1 := hb1.size
 try simp at z1
 (try have y1_0 : w.heap.size < w1.heap.size := (by omega))
 have q1_0 := fun o => (bcell hb1).1 (w.heap.size) o (by (try simp) <;> (try omega))
 have p1_0 := fun o => (bcell hb1).2 (w.heap.size) o (by (try simp) <;> (try omega))
 go_wp2_with fail
 go_ret
 exact ⟨ret_int (by (try simp only [nDesign]); go_num), bel_⟩
end Go.Proofs.YthjdigcpgpiiiaaDoor

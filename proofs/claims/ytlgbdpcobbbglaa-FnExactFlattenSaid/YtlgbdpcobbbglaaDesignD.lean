/- Contracts: Design in the laws: the size, the copy, equality of equals, marks. -/
import Derived.Test.YtlgbdpcobbbglaaModuleD
import Derived.Outline
namespace Go.Proofs.Ytlgbdpcobbbglaa
open Go.RowKit

abbrev TDesign := List TModule
def rDesign (x : TDesign) : List Fd := [fModuleS x]
theorem rDesign_len (x : TDesign) : (rDesign x).length = 1 := rfl
def fDesignS (l : List TDesign) : Fd := .sl (l.map rDesign)
theorem rDesign_lens (l : List TDesign) : ∀ r ∈ l.map rDesign, r.length = 1 := by
 intro r hr
 obtain ⟨x, _, rfl⟩ := List.mem_map.1 hr
 rfl
def sDesign (x : TDesign) : Nat := szL sModule x
def nDesign (x : TDesign) : Nat := nuL nModule x
def kDesign (k : Nat) (x : TDesign) : TDesign := (mkL kModule nModule k x)
theorem nDesign_le (x : TDesign) : nDesign x ≤ 4 * sDesign x := by simp only [nDesign, sDesign]; have h0 := nuL_Module_le x; omega
/-- v is such a struct -/
def RDesign (w : World) (S : Nat → Prop) (v : Value) (x : TDesign) : Prop := ∃ (v0 : Value), v = .agg #[v0] ∧ Rep w S v0 (fModuleS x)
/-- .. in memory of its own -/
def QDesign (w : World) (S : Nat → Prop) (v : Value) (x : TDesign) : Prop := ∃ (v0 : Value) (P : Nat → Nat → Prop), v = .agg #[v0] ∧ (∀ j b, P j b → S b) ∧ (∀ i j b, P i b → P j b → i = j) ∧ Sep w (P 0) v0 (fModuleS x)
theorem QDesign.r {w : World} {S : Nat → Prop} {v : Value} {x : TDesign} (h : QDesign w S v x) : RDesign w S v x := by
 obtain ⟨v0, P, rfl, hP, _, h0⟩ := h
 exact ⟨v0, rfl, h0.rep.mono (hP 0)⟩
theorem RDesign.keep {w w' : World} {S : Nat → Prop} {v : Value} {x : TDesign} (h : RDesign w S v x) (hk : ∀ p : Addr, S p.block → w'.cell? p = w.cell? p) : RDesign w' S v x := by
 obtain ⟨v0, e, h0⟩ := h
 exact ⟨v0, e, h0.keep hk⟩
theorem RDesign.under {w w' : World} {S : Nat → Prop} {B : Nat} {v : Value} {x : TDesign} (h : RDesign w S v x) (hS : ∀ b, S b → b < B) (hb : Below B w w') : RDesign w' S v x := h.keep fun _p hp => hb.cell (hS _ hp)
theorem RDesign.mono {w : World} {S S' : Nat → Prop} {v : Value} {x : TDesign} (h : RDesign w S v x) (hS : ∀ b, S b → S' b) : RDesign w S' v x := by
 obtain ⟨v0, e, h0⟩ := h
 exact ⟨v0, e, h0.mono hS⟩
theorem QDesign.keep {w w' : World} {S : Nat → Prop} {v : Value} {x : TDesign} (h : QDesign w S v x) (hk : ∀ b, S b → w'.heap[b]? = w.heap[b]?) : QDesign w' S v x := by
 obtain ⟨v0, P, e, hP, hd, h0⟩ := h
 exact ⟨v0, P, e, hP, hd, h0.keep (fun b hb => hk b (hP _ b hb))⟩
theorem QDesign.mono {w : World} {S S' : Nat → Prop} {v : Value} {x : TDesign} (h : QDesign w S v x) (hS : ∀ b, S b → S' b) : QDesign w S' v x := by
 obtain ⟨v0, P, e, hP, hd, h0⟩ := h
 exact ⟨v0, P, e, fun j b hb => hS b (hP j b hb), hd, h0⟩
theorem RDesign.form {w : World} {S : Nat → Prop} {v : Value} {x : TDesign} (h : RDesign w S v x) : ∃ (A0 : Option Addr) (n0 c0 : Nat), v = .agg #[.slice A0 n0 c0] := by
 obtain ⟨v0, rfl, h0⟩ := h
 obtain ⟨A0, n0, c0, rfl⟩ := slv_of h0
 exact ⟨_, _, _, rfl⟩

set_option maxRecDepth 100000 in
set_option maxHeartbeats 4000000 in
theorem d_szDesign {w : World} {S : Nat → Prop} {v : Value} {x : TDesign} (left : Nat) (h1 : left ≤ 1048576) (h : RDesign w S v x) (hS : ∀ b, S b → b < w.heap.size) :
  Calls Try.prog 4 #[v, .int .i64 left] w fun e w' => e = .returned (.int .i64 (leftD left (sDesign x))) ∧ Below w.heap.size w w' := by
 obtain ⟨x0, rfl⟩ : ∃ x0, x0 = x := ⟨x, rfl⟩
 obtain ⟨v0, rfl, h0⟩ := h
 go_enter Try.func4, Try.ntmps4
 go_wp2_with fail
 obtain ⟨c0, hc0⟩ : ∃ c, c = szL sModule x0 := ⟨_, rfl⟩
 refine (d_szModuleS (left) (by omega) (h0.under hS bel_) (fun b hb => by have := hS b hb; (try simp) <;> omega)).mono ?_
 rintro e w1 ⟨rfl, hb1⟩
 rw [← hc0]
 have Hc0 := Lib.hid hc0
 clear hc0
 have z1 := hb1.size
 try simp at z1
 (try have y1_0 : w.heap.size < w1.heap.size := (by omega))
 have q1_0 := fun o => (bcell hb1).1 (w.heap.size) o (by (try simp) <;> (try omega))
 have p1_0 := fun o => (bcell hb1).2 (w.heap.size) o (by (try simp) <;> (try omega))
 by_cases b0 : c0 ≤ left
 ·obtain ⟨r0, hr0⟩ : ∃ r, r = left - c0 := ⟨_, rfl⟩
  rw [leftD_yes b0, ← hr0]
  have br0 : r0 ≤ 1048576 := by omega
  have Hr0 := Lib.hid (show r0 + c0 = left by omega)
  clear hr0 b0
  go_wp2_with fail
  go_ret
  exact ⟨ret_int (by have a0 := Hc0.out; have b0 := Hr0.out; simp only [sDesign]; rw [leftD_yes (by omega)]; omega), bel_⟩
 ·rw [leftD_no b0]
  go_wp2_with fail
  go_ret
  exact ⟨ret_int (by have a0 := Hc0.out; rw [leftD_no (by simp only [sDesign]; omega)]), bel_⟩

set_option maxRecDepth 100000 in
set_option maxHeartbeats 4000000 in
theorem d_toDesign {w : World} {S : Nat → Prop} {v : Value} {x : TDesign} (hz : sDesign x ≤ 1048576) (h : RDesign w S v x) (hS : ∀ b, S b → b < w.heap.size) :
  Calls Try.prog 6 #[v] w fun e w' => ∃ v', e = .returned v' ∧ QDesign w' (New w w') v' x ∧ Below w.heap.size w w' := by
 obtain ⟨x0, rfl⟩ : ∃ x0, x0 = x := ⟨x, rfl⟩
 obtain ⟨v0, rfl, h0⟩ := h
 simp only [sDesign] at hz
 go_enter Try.func6, Try.ntmps6
 go_wp2_with fail
 refine (d_toModuleS (by omega) (h0.under hS bel_) (fun b hb => by have := hS b hb; (try simp) <;> omega)).mono ?_
 rintro e w1 ⟨_, rfl, hs1, hb1⟩
 obtain ⟨A0, c0, rfl, _⟩ := hs1.sl_val
 rw [List.length_map] at hs1 ⊢
 have z1 := hb1.size
 try simp at z1
 (try have y1_0 : w.heap.size < w1.heap.size := (by omega))
 have q1_0 := fun o => (bcell hb1).1 (w.heap.size) o (by (try simp) <;> (try omega))
 have p1_0 := fun o => (bcell hb1).2 (w.heap.size) o (by (try simp) <;> (try omega))
 (try have y1_1 : w.heap.size + 1 < w1.heap.size := (by omega))
 have q1_1 := fun o => (bcell hb1).1 (w.heap.size + 1) o (by (try simp) <;> (try omega))
 have p1_1 := fun o => (bcell hb1).2 (w.heap.size + 1) o (by (try simp) <;> (try omega))
 (try have y1_2 : w.heap.size + 1 + 1 < w1.heap.size := (by omega))
 have q1_2 := fun o => (bcell hb1).1 (w.heap.size + 1 + 1) o (by (try simp) <;> (try omega))
 have p1_2 := fun o => (bcell hb1).2 (w.heap.size + 1 + 1) o (by (try simp) <;> (try omega))
 have z1' := hb1.size
 simp at z1'
 have Hs1 := Lib.hid (show Sep w1 (fun b => w.heap.size + 3 ≤ b ∧ b < w1.heap.size) (.slice A0 x0.length c0) (fModuleS x0) from hs1.mono (fun b hb => by simp [New] at hb; exact ⟨by omega, hb.2⟩))
 clear hs1
 go_wp2_with fail
 refine bodyPost_ret (v := .agg #[.slice A0 x0.length c0]) (by simp [results, Try.results6, go_sem, q1_1]) rfl ⟨_, rfl, ?_, bel_⟩
 refine ⟨_, fun j b => (j = 0 ∧ w.heap.size + 3 ≤ b ∧ b < w1.heap.size), rfl, fun j b hb => ⟨by omega, by simp; omega⟩, fun i j b h1 h2 => by omega, ?_⟩
 ·refine Sep.mono (S := fun b => w.heap.size + 3 ≤ b ∧ b < w1.heap.size) ?_ (fun b hb => by omega)
  repeat (refine Sep.setCell ?_ (fun hh => by have := hh.1; simp at this <;> omega) _)
  exact Hs1.out

set_option maxRecDepth 100000 in
set_option maxHeartbeats 4000000 in
theorem d_eqDesign {w : World} {S S' : Nat → Prop} {v v' : Value} {x : TDesign} (hz : sDesign x ≤ 1048576) (h : RDesign w S v x) (h' : RDesign w S' v' x) (hS : ∀ b, S b → b < w.heap.size) (hS' : ∀ b, S' b → b < w.heap.size) :
  Calls Try.prog 9 #[v, v'] w fun e w' => e = .returned (.bool true) ∧ Below w.heap.size w w' := by
 obtain ⟨x0, rfl⟩ : ∃ x0, x0 = x := ⟨x, rfl⟩
 obtain ⟨v0, rfl, h0⟩ := h
 obtain ⟨u0, rfl, h0'⟩ := h'
 simp only [sDesign] at hz
 go_enter Try.func9, Try.ntmps9
 go_wp2_with fail
 refine (d_eqModuleS (by omega) (h0.under hS bel_) (h0'.under hS' bel_) (fun b hb => by have := hS b hb; (try simp) <;> omega) (fun b hb => by have := hS' b hb; (try simp) <;> omega)).mono ?_
 rintro e w1 ⟨rfl, hb1⟩
 have z1 := hb1.size
 try simp at z1
 (try have y1_0 : w.heap.size < w1.heap.size := (by omega))
 have q1_0 := fun o => (bcell hb1).1 (w.heap.size) o (by (try simp) <;> (try omega))
 have p1_0 := fun o => (bcell hb1).2 (w.heap.size) o (by (try simp) <;> (try omega))
 (try have y1_1 : w.heap.size + 1 < w1.heap.size := (by omega))
 have q1_1 := fun o => (bcell hb1).1 (w.heap.size + 1) o (by (try simp) <;> (try omega))
 have p1_1 := fun o => (bcell hb1).2 (w.heap.size + 1) o (by (try simp) <;> (try omega))
 go_wp2_with fail
 go_ret
 exact ⟨rfl, bel_⟩

set_option maxRecDepth 100000 in
set_option maxHeartbeats 4000000 in
theorem d_markDesign {w : World} {S : Nat → Prop} {v : Value} {x : TDesign} (k0 : Nat) (hk0 : k0 + nDesign x ≤ 1099511627776) (h : QDesign w S v x) (hS : ∀ b, S b → b < w.heap.size) :
  Calls Try.prog 10 #[v, .int .i64 k0] w fun e w' => e = .returned (.int .i64 ((k0 + nDesign x : Nat) : Int)) ∧ QDesign w' S v (kDesign k0 x) ∧ Only S w w' := by
 obtain ⟨x0, rfl⟩ : ∃ x0, x0 = x := ⟨x, rfl⟩
 obtain ⟨v0, P, rfl, hP, hd, h0⟩ := h
 simp only [nDesign] at hk0
 have HP := Lib.hid hP
 have Hd := Lib.hid hd
 clear hP hd
 have hSP : ∀ j b, P j b → b < w.heap.size := fun j b hb => hS b (HP.out j b hb)
 have hSb : ∀ b, S b → ¬ b = w.heap.size := fun b hb => by have := hS b hb; omega
 go_enter Try.func10, Try.ntmps10
 go_wp2_with fail
 have HX0 := Lib.hid (Blk.new w 36 #[v0])
 have HO0 := Lib.hid (show Only S w (w.alloc (.cells #[v0] 36)) from (Only.refl S w).alloc _)
 have HS0_0 := Lib.hid (h0.alloc (hSP 0) (.cells #[v0] 36))
 clear h0
 refine (d_markModuleS (k0) (by omega) HS0_0.out (fun b hb => by have := hSP 0 b hb; have := HO0.out.size; (try simp) <;> omega)).mono ?_
 rintro e w1 ⟨rfl, hs1, ho1⟩
 have HX1 := Lib.hid (ho1.blk HX0.out (fun hc => by have := hSP _ _ hc; omega))
 have HO1 := Lib.hid (HO0.out.trans (ho1.more (HP.out 0)))
 have HS1_0 := Lib.hid hs1
 clear hs1 ho1
 have y0 := HX1.out.cell 0
 simp only [List.getElem?_toArray, List.getElem?_cons_zero] at y0
 go_wp2_with fail
 go_ret
 refine ⟨ret_int (by (try simp only [nDesign]); go_num), ⟨v0, P, rfl, HP.out, Hd.out, HS1_0.out⟩, HO1.out⟩

end Go.Proofs.Ytlgbdpcobbbglaa

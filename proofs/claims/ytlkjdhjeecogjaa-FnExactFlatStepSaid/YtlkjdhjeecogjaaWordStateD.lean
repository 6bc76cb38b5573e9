/- Contracts: WordState in the laws: the size, the copy, equality of equals, marks. -/
import Derived.Test.YtlkjdhjeecogjaaGc
import Derived.Outline
namespace Go.Proofs.Ytlkjdhjeecogjaa
open Go.RowKit

abbrev TWordState := List Int × List Int
def rWordState (x : TWordState) : List Fd := [fIntS x.1, fIntS x.2]
theorem rWordState_len (x : TWordState) : (rWordState x).length = 2 := rfl
def fWordStateS (l : List TWordState) : Fd := .sl (l.map rWordState)
theorem rWordState_lens (l : List TWordState) : ∀ r ∈ l.map rWordState, r.length = 2 := by
 intro r hr
 obtain ⟨x, _, rfl⟩ := List.mem_map.1 hr
 rfl
def sWordState (x : TWordState) : Nat := szL sInt x.1 + szL sInt x.2
def nWordState (x : TWordState) : Nat := nuL nInt x.1 + nuL nInt x.2
def kWordState (k : Nat) (x : TWordState) : TWordState := (mkL kInt nInt k x.1, mkL kInt nInt (k + nuL nInt x.1) x.2)
theorem nWordState_le (x : TWordState) : nWordState x ≤ 4 * sWordState x := by simp only [nWordState, sWordState]; have h0 := nuL_Int_le x.1; have h1 := nuL_Int_le x.2; omega
/-- v is such a struct -/
def RWordState (w : World) (S : Nat → Prop) (v : Value) (x : TWordState) : Prop := ∃ (v0 : Value) (v1 : Value), v = .agg #[v0, v1] ∧ Rep w S v0 (fIntS x.1) ∧ Rep w S v1 (fIntS x.2)
/-- .. in memory of its own -/
def QWordState (w : World) (S : Nat → Prop) (v : Value) (x : TWordState) : Prop := ∃ (v0 : Value) (v1 : Value) (P : Nat → Nat → Prop), v = .agg #[v0, v1] ∧ (∀ j b, P j b → S b) ∧ (∀ i j b, P i b → P j b → i = j) ∧ Sep w (P 0) v0 (fIntS x.1) ∧ Sep w (P 1) v1 (fIntS x.2)
theorem QWordState.r {w : World} {S : Nat → Prop} {v : Value} {x : TWordState} (h : QWordState w S v x) : RWordState w S v x := by
 obtain ⟨v0, v1, P, rfl, hP, _, h0, h1⟩ := h
 exact ⟨v0, v1, rfl, h0.rep.mono (hP 0), h1.rep.mono (hP 1)⟩
theorem RWordState.keep {w w' : World} {S : Nat → Prop} {v : Value} {x : TWordState} (h : RWordState w S v x) (hk : ∀ p : Addr, S p.block → w'.cell? p = w.cell? p) : RWordState w' S v x := by
 obtain ⟨v0, v1, e, h0, h1⟩ := h
 exact ⟨v0, v1, e, h0.keep hk, h1.keep hk⟩
theorem RWordState.under {w w' : World} {S : Nat → Prop} {B : Nat} {v : Value} {x : TWordState} (h : RWordState w S v x) (hS : ∀ b, S b → b < B) (hb : Below B w w') : RWordState w' S v x := h.keep fun _p hp => hb.cell (hS _ hp)
theorem RWordState.mono {w : World} {S S' : Nat → Prop} {v : Value} {x : TWordState} (h : RWordState w S v x) (hS : ∀ b, S b → S' b) : RWordState w S' v x := by
 obtain ⟨v0, v1, e, h0, h1⟩ := h
 exact ⟨v0, v1, e, h0.mono hS, h1.mono hS⟩
theorem QWordState.keep {w w' : World} {S : Nat → Prop} {v : Value} {x : TWordState} (h : QWordState w S v x) (hk : ∀ b, S b → w'.heap[b]? = w.heap[b]?) : QWordState w' S v x := by
 obtain ⟨v0, v1, P, e, hP, hd, h0, h1⟩ := h
 exact ⟨v0, v1, P, e, hP, hd, h0.keep (fun b hb => hk b (hP _ b hb)), h1.keep (fun b hb => hk b (hP _ b hb))⟩
theorem QWordState.mono {w : World} {S S' : Nat → Prop} {v : Value} {x : TWordState} (h : QWordState w S v x) (hS : ∀ b, S b → S' b) : QWordState w S' v x := by
 obtain ⟨v0, v1, P, e, hP, hd, h0, h1⟩ := h
 exact ⟨v0, v1, P, e, fun j b hb => hS b (hP j b hb), hd, h0, h1⟩
theorem RWordState.form {w : World} {S : Nat → Prop} {v : Value} {x : TWordState} (h : RWordState w S v x) : ∃ (A0 : Option Addr) (n0 c0 : Nat) (A1 : Option Addr) (n1 c1 : Nat), v = .agg #[.slice A0 n0 c0, .slice A1 n1 c1] := by
 obtain ⟨v0, v1, rfl, h0, h1⟩ := h
 obtain ⟨A0, n0, c0, rfl⟩ := slv_of h0
 obtain ⟨A1, n1, c1, rfl⟩ := slv_of h1
 exact ⟨_, _, _, _, _, _, rfl⟩

set_option maxRecDepth 100000 in
set_option maxHeartbeats 4000000 in
theorem d_szWordState {w : World} {S : Nat → Prop} {v : Value} {x : TWordState} (left : Nat) (h1 : left ≤ 1048576) (h : RWordState w S v x) (hS : ∀ b, S b → b < w.heap.size) :
  Calls Try.prog 9 #[v, .int .i64 left] w fun e w' => e = .returned (.int .i64 (leftD left (sWordState x))) ∧ Below w.heap.size w w' := by
 obtain ⟨x0, x1⟩ := x
 obtain ⟨v0, v1, rfl, h0, h1⟩ := h
 go_enter Try.func9, Try.ntmps9
 go_wp2_with fail
 obtain ⟨c0, hc0⟩ : ∃ c, c = szL sInt x0 := ⟨_, rfl⟩
 refine (d_szIntS (left) (by omega) (h0.under hS bel_) (fun b hb => by have := hS b hb; (try simp) <;> omega)).mono ?_
 rintro e w1 ⟨rfl, hb1⟩
 rw [← hc0]
 have Hc0 := Lib.hid hc0
 clear hc0
 have z1 := hb1.size
 try simp at z1
 (try have y1_0 : w.heap.size < w1.heap.size := (by omega))
 have q1_0 := fun o => (bcell hb1).1 (w.heap.size) o (by (try simp) <;> (try omega))
 have p1_0 := fun o => (bcell hb1).2 (w.heap.size) o (by (try simp) <;> (try omega))
 by_cases b0 : c0 ≤ left
 ·obtain ⟨r0, hr0⟩ : ∃ r, r = left - c0 := ⟨_, rfl⟩
  rw [leftD_yes b0, ← hr0]
  have br0 : r0 ≤ 1048576 := by omega
  have Hr0 := Lib.hid (show r0 + c0 = left by omega)
  clear hr0 b0
  go_wp2_with fail
  obtain ⟨c1, hc1⟩ : ∃ c, c = szL sInt x1 := ⟨_, rfl⟩
  refine (d_szIntS (r0) (by omega) (h1.under hS bel_) (fun b hb => by have := hS b hb; (try simp) <;> omega)).mono ?_
  rintro e w2 ⟨rfl, hb2⟩
  rw [← hc1]
  have Hc1 := Lib.hid hc1
  clear hc1
  have z2 := hb2.size
  try simp at z2
  (try have y2_0 : w.heap.size < w2.heap.size := (by omega))
  have q2_0 := fun o => (bcell hb2).1 (w.heap.size) o (by (try simp) <;> (try omega))
  have p2_0 := fun o => (bcell hb2).2 (w.heap.size) o (by (try simp) <;> (try omega))
  by_cases b1 : c1 ≤ r0
  ·obtain ⟨r1, hr1⟩ : ∃ r, r = r0 - c1 := ⟨_, rfl⟩
   rw [leftD_yes b1, ← hr1]
   have br1 : r1 ≤ 1048576 := by omega
   have Hr1 := Lib.hid (show r1 + c1 = r0 by omega)
   clear hr1 b1
   go_wp2_with fail
   go_ret
   exact ⟨ret_int (by have a0 := Hc0.out; have b0 := Hr0.out; have a1 := Hc1.out; have b1 := Hr1.out; simp only [sWordState]; rw [leftD_yes (by omega)]; omega), bel_⟩
  ·rw [leftD_no b1]
   go_wp2_with fail
   go_ret
   exact ⟨ret_int (by have a0 := Hc0.out; have a1 := Hc1.out; have b0 := Hr0.out; rw [leftD_no (by simp only [sWordState]; omega)]), bel_⟩
 ·rw [leftD_no b0]
  go_wp2_with fail
  go_ret
  exact ⟨ret_int (by have a0 := Hc0.out; rw [leftD_no (by simp only [sWordState]; omega)]), bel_⟩

set_option maxRecDepth 100000 in
set_option maxHeartbeats 4000000 in
theorem d_toWordState {w : World} {S : Nat → Prop} {v : Value} {x : TWordState} (hz : sWordState x ≤ 1048576) (h : RWordState w S v x) (hS : ∀ b, S b → b < w.heap.size) :
  Calls Try.prog 12 #[v] w fun e w' => ∃ v', e = .returned v' ∧ QWordState w' (New w w') v' x ∧ Below w.heap.size w w' := by
 obtain ⟨x0, x1⟩ := x
 obtain ⟨v0, v1, rfl, h0, h1⟩ := h
 simp only [sWordState] at hz
 go_enter Try.func12, Try.ntmps12
 go_wp2_with fail
 refine (d_toIntS (by omega) (h0.under hS bel_) (fun b hb => by have := hS b hb; (try simp) <;> omega)).mono ?_
 rintro e w1 ⟨_, rfl, hs1, hb1⟩
 obtain ⟨A0, c0, rfl, _⟩ := hs1.sl_val
 rw [List.length_map] at hs1 ⊢
 have z1 := hb1.size
 try simp at z1
 (try have y1_0 : w.heap.size < w1.heap.size := (by omega))
 have q1_0 := fun o => (bcell hb1).1 (w.heap.size) o (by (try simp) <;> (try omega))
 have p1_0 := fun o => (bcell hb1).2 (w.heap.size) o (by (try simp) <;> (try omega))
 (try have y1_1 : w.heap.size + 1 < w1.heap.size := (by omega))
 have q1_1 := fun o => (bcell hb1).1 (w.heap.size + 1) o (by (try simp) <;> (try omega))
 have p1_1 := fun o => (bcell hb1).2 (w.heap.size + 1) o (by (try simp) <;> (try omega))
 (try have y1_2 : w.heap.size + 1 + 1 < w1.heap.size := (by omega))
 have q1_2 := fun o => (bcell hb1).1 (w.heap.size + 1 + 1) o (by (try simp) <;> (try omega))
 have p1_2 := fun o => (bcell hb1).2 (w.heap.size + 1 + 1) o (by (try simp) <;> (try omega))
 have z1' := hb1.size
 simp at z1'
 have Hs1 := Lib.hid (show Sep w1 (fun b => w.heap.size + 3 ≤ b ∧ b < w1.heap.size) (.slice A0 x0.length c0) (fIntS x0) from hs1.mono (fun b hb => by simp [New] at hb; exact ⟨by omega, hb.2⟩))
 clear hs1
 go_wp2_with fail
 refine (d_toIntS (by omega) (h1.under hS bel_) (fun b hb => by have := hS b hb; (try simp) <;> omega)).mono ?_
 rintro e w2 ⟨_, rfl, hs2, hb2⟩
 obtain ⟨A1, c1, rfl, _⟩ := hs2.sl_val
 rw [List.length_map] at hs2 ⊢
 have z2 := hb2.size
 try simp at z2
 (try have y2_0 : w.heap.size < w2.heap.size := (by omega))
 have q2_0 := fun o => (bcell hb2).1 (w.heap.size) o (by (try simp) <;> (try omega))
 have p2_0 := fun o => (bcell hb2).2 (w.heap.size) o (by (try simp) <;> (try omega))
 (try have y2_1 : w.heap.size + 1 < w2.heap.size := (by omega))
 have q2_1 := fun o => (bcell hb2).1 (w.heap.size + 1) o (by (try simp) <;> (try omega))
 have p2_1 := fun o => (bcell hb2).2 (w.heap.size + 1) o (by (try simp) <;> (try omega))
 (try have y2_2 : w.heap.size + 1 + 1 < w2.heap.size := (by omega))
 have q2_2 := fun o => (bcell hb2).1 (w.heap.size + 1 + 1) o (by (try simp) <;> (try omega))
 have p2_2 := fun o => (bcell hb2).2 (w.heap.size + 1 + 1) o (by (try simp) <;> (try omega))
 have z2' := hb2.size
 simp at z2'
 have Hs2 := Lib.hid (show Sep w2 (fun b => w1.heap.size ≤ b ∧ b < w2.heap.size) (.slice A1 x1.length c1) (fIntS x1) from hs2.mono (fun b hb => by simp [New] at hb; exact ⟨by omega, hb.2⟩))
 clear hs2
 have Hs1b := Lib.hid (show Sep w2 (fun b => w.heap.size + 3 ≤ b ∧ b < w1.heap.size) (.slice A0 x0.length c0) (fIntS x0) from (Hs1.out.setCell (p := ⟨w.heap.size + 1 + 1, 0, none⟩) (fun hh => by have := hh.1; simp at this <;> omega) _).under (fun b hb => by have := hb.2; (try simp) <;> omega) hb2)
 clear Hs1
 go_wp2_with fail
 refine bodyPost_ret (v := .agg #[.slice A0 x0.length c0, .slice A1 x1.length c1]) (by simp [results, Try.results12, go_sem, q1_1, q2_1]) rfl ⟨_, rfl, ?_, bel_⟩
 refine ⟨_, _, fun j b => (j = 0 ∧ w.heap.size + 3 ≤ b ∧ b < w1.heap.size) ∨ (j = 1 ∧ w1.heap.size ≤ b ∧ b < w2.heap.size), rfl, fun j b hb => ⟨by omega, by simp; omega⟩, fun i j b h1 h2 => by omega, ?_, ?_⟩
 ·refine Sep.mono (S := fun b => w.heap.size + 3 ≤ b ∧ b < w1.heap.size) ?_ (fun b hb => by omega)
  repeat (refine Sep.setCell ?_ (fun hh => by have := hh.1; simp at this <;> omega) _)
  exact Hs1b.out
 ·refine Sep.mono (S := fun b => w1.heap.size ≤ b ∧ b < w2.heap.size) ?_ (fun b hb => by omega)
  repeat (refine Sep.setCell ?_ (fun hh => by have := hh.1; simp at this <;> omega) _)
  exact Hs2.out

set_option maxRecDepth 100000 in
set_option maxHeartbeats 4000000 in
theorem d_eqWordState {w : World} {S S' : Nat → Prop} {v v' : Value} {x : TWordState} (hz : sWordState x ≤ 1048576) (h : RWordState w S v x) (h' : RWordState w S' v' x) (hS : ∀ b, S b → b < w.heap.size) (hS' : ∀ b, S' b → b < w.heap.size) :
  Calls Try.prog 15 #[v, v'] w fun e w' => e = .returned (.bool true) ∧ Below w.heap.size w w' := by
 obtain ⟨x0, x1⟩ := x
 obtain ⟨v0, v1, rfl, h0, h1⟩ := h
 obtain ⟨u0, u1, rfl, h0', h1'⟩ := h'
 simp only [sWordState] at hz
 go_enter Try.func15, Try.ntmps15
 go_wp2_with fail
 refine (d_eqIntS (by omega) (h0.under hS bel_) (h0'.under hS' bel_) (fun b hb => by have := hS b hb; (try simp) <;> omega) (fun b hb => by have := hS' b hb; (try simp) <;> omega)).mono ?_
 rintro e w1 ⟨rfl, hb1⟩
 have z1 := hb1.size
 try simp at z1
 (try have y1_0 : w.heap.size < w1.heap.size := (by omega))
 have q1_0 := fun o => (bcell hb1).1 (w.heap.size) o (by (try simp) <;> (try omega))
 have p1_0 := fun o => (bcell hb1).2 (w.heap.size) o (by (try simp) <;> (try omega))
 (try have y1_1 : w.heap.size + 1 < w1.heap.size := (by omega))
 have q1_1 := fun o => (bcell hb1).1 (w.heap.size + 1) o (by (try simp) <;> (try omega))
 have p1_1 := fun o => (bcell hb1).2 (w.heap.size + 1) o (by (try simp) <;> (try omega))
 go_wp2_with fail
 refine (d_eqIntS (by omega) (h1.under hS bel_) (h1'.under hS' bel_) (fun b hb => by have := hS b hb; (try simp) <;> omega) (fun b hb => by have := hS' b hb; (try simp) <;> omega)).mono ?_
 rintro e w2 ⟨rfl, hb2⟩
 have z2 := hb2.size
 try simp at z2
 (try have y2_0 : w.heap.size < w2.heap.size := (by omega))
 have q2_0 := fun o => (bcell hb2).1 (w.heap.size) o (by (try simp) <;> (try omega))
 have p2_0 := fun o => (bcell hb2).2 (w.heap.size) o (by (try simp) <;> (try omega))
 (try have y2_1 : w.heap.size + 1 < w2.heap.size := (by omega))
 have q2_1 := fun o => (bcell hb2).1 (w.heap.size + 1) o (by (try simp) <;> (try omega))
 have p2_1 := fun o => (bcell hb2).2 (w.heap.size + 1) o (by (try simp) <;> (try omega))
 go_wp2_with fail
 go_ret
 exact ⟨rfl, bel_⟩

set_option maxRecDepth 100000 in
set_option maxHeartbeats 4000000 in
theorem d_markWordState {w : World} {S : Nat → Prop} {v : Value} {x : TWordState} (k0 : Nat) (hk0 : k0 + nWordState x ≤ 1099511627776) (h : QWordState w S v x) (hS : ∀ b, S b → b < w.heap.size) :
  Calls Try.prog 19 #[v, .int .i64 k0] w fun e w' => e = .returned (.int .i64 ((k0 + nWordState x : Nat) : Int)) ∧ QWordState w' S v (kWordState k0 x) ∧ Only S w w' := by
 obtain ⟨x0, x1⟩ := x
 obtain ⟨v0, v1, P, rfl, hP, hd, h0, h1⟩ := h
 simp only [nWordState] at hk0
 have HP := Lib.hid hP
 have Hd := Lib.hid hd
 clear hP hd
 have hSP : ∀ j b, P j b → b < w.heap.size := fun j b hb => hS b (HP.out j b hb)
 have hSb : ∀ b, S b → ¬ b = w.heap.size := fun b hb => by have := hS b hb; omega
 go_enter Try.func19, Try.ntmps19
 go_wp2_with fail
 have HX0 := Lib.hid (Blk.new w 33 #[v0, v1])
 have HO0 := Lib.hid (show Only S w (w.alloc (.cells #[v0, v1] 33)) from (Only.refl S w).alloc _)
 have HS0_0 := Lib.hid (h0.alloc (hSP 0) (.cells #[v0, v1] 33))
 have HS0_1 := Lib.hid (h1.alloc (hSP 1) (.cells #[v0, v1] 33))
 clear h0 h1
 refine (d_markIntS (k0) (by omega) HS0_0.out (fun b hb => by have := hSP 0 b hb; have := HO0.out.size; (try simp) <;> omega)).mono ?_
 rintro e w1 ⟨rfl, hs1, ho1⟩
 have HX1 := Lib.hid (ho1.blk HX0.out (fun hc => by have := hSP _ _ hc; omega))
 have HO1 := Lib.hid (HO0.out.trans (ho1.more (HP.out 0)))
 have HS1_0 := Lib.hid hs1
 have HS1_1 := Lib.hid (HS0_1.out.only (fun b hb => by have := hSP 1 b hb; have := HO0.out.size; (try simp) <;> omega) ho1 (fun b h1 h2 => absurd (Hd.out 1 0 b h1 h2) (by decide)))
 clear hs1 ho1
 obtain ⟨y0, y1⟩ := blkS2 HX1.out
 go_wp2_with fail
 clear y0 y1
 refine (d_markIntS (k0 + nuL nInt x0) (by omega) HS1_1.out (fun b hb => by have := hSP 1 b hb; have := HO1.out.size; (try simp) <;> omega)).mono ?_
 rintro e w2 ⟨rfl, hs2, ho2⟩
 have HX2 := Lib.hid (ho2.blk HX1.out (fun hc => by have := hSP _ _ hc; omega))
 have HO2 := Lib.hid (HO1.out.trans (ho2.more (HP.out 1)))
 have HS2_0 := Lib.hid (HS1_0.out.only (fun b hb => by have := hSP 0 b hb; have := HO1.out.size; (try simp) <;> omega) ho2 (fun b h1 h2 => absurd (Hd.out 0 1 b h1 h2) (by decide)))
 have HS2_1 := Lib.hid hs2
 clear hs2 ho2
 obtain ⟨y0, y1⟩ := blkS2 HX2.out
 go_wp2_with fail
 go_ret
 refine ⟨ret_int (by (try simp only [nWordState]); go_num), ⟨v0, v1, P, rfl, HP.out, Hd.out, HS2_0.out, HS2_1.out⟩, HO2.out⟩

set_option maxRecDepth 100000 in
set_option maxHeartbeats 4000000 in
theorem d_heldWordState {w : World} {S : Nat → Prop} {v : Value} {x : TWordState} (k0 : Nat) (hk0 : k0 + nWordState x ≤ 1099511627776) (h : RWordState w S v (kWordState k0 x)) (hS : ∀ b, S b → b < w.heap.size) :
  Calls Try.prog 21 #[v, .int .i64 k0] w fun e w' => e = .returned (.int .i64 ((k0 + nWordState x : Nat) : Int)) ∧ Below w.heap.size w w' := by
 obtain ⟨x0, x1⟩ := x
 obtain ⟨v0, v1, rfl, h0, h1⟩ := h
 simp only [nWordState] at hk0
 simp only [kWordState] at h0 h1
 go_enter Try.func21, Try.ntmps21
 go_wp2_with fail
 refine (d_heldIntS (k0) (by omega) (h0.under hS bel_) (fun b hb => by have := hS b hb; (try simp) <;> omega)).mono ?_
 rintro e w1 ⟨rfl, hb1⟩
 have z1 := hb1.size
 try simp at z1
 (try have y1_0 : w.heap.size < w1.heap.size := (by omega))
 have q1_0 := fun o => (bcell hb1).1 (w.heap.size) o (by (try simp) <;> (try omega))
 have p1_0 := fun o => (bcell hb1).2 (w.heap.size) o (by (try simp) <;> (try omega))
 go_wp2_with fail
 refine (d_heldIntS (k0 + nuL nInt x0) (by omega) (h1.under hS bel_) (fun b hb => by have := hS b hb; (try simp) <;> omega)).mono ?_
 rintro e w2 ⟨rfl, hb2⟩
 have z2 := hb2.size
 try simp at z2
 (try have y2_0 : w.heap.size < w2.heap.size := (by omega))
 have q2_0 := fun o => (bcell hb2).1 (w.heap.size) o (by (try simp) <;> (try omega))
 have p2_0 := fun o => (bcell hb2).2 (w.heap.size) o (by (try simp) <;> (try omega))
 go_wp2_with fail
 go_ret
 exact ⟨ret_int (by (try simp only [nWordState]); go_num), bel_⟩
end Go.Proofs.Ytlkjdhjeecogjaa

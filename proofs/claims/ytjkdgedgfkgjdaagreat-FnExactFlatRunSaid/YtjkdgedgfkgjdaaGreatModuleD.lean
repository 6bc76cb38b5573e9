/- Contracts: Module in the laws: the size, the copy, equality of equals, marks. -/
import Derived.Test.YtjkdgedgfkgjdaaGreatGc
import Derived.Test.YtjkdgedgfkgjdaaGreatGd
import Derived.Outline
namespace Go.Proofs.YtjkdgedgfkgjdaaGreat
open Go.RowKit

abbrev TModule := List TSignal × List TAssign × List TInst × List TMem
def rModule (x : TModule) : List Fd := [fSignalS x.1, fAssignS x.2.1, fInstS x.2.2.1, fMemS x.2.2.2]
theorem rModule_len (x : TModule) : (rModule x).length = 4 := rfl
def fModuleS (l : List TModule) : Fd := .sl (l.map rModule)
theorem rModule_lens (l : List TModule) : ∀ r ∈ l.map rModule, r.length = 4 := by
 intro r hr
 obtain ⟨x, _, rfl⟩ := List.mem_map.1 hr
 rfl
def sModule (x : TModule) : Nat := szL sSignal x.1 + szL sAssign x.2.1 + szL sInst x.2.2.1 + szL sMem x.2.2.2
def nModule (x : TModule) : Nat := nuL nSignal x.1 + nuL nAssign x.2.1 + nuL nInst x.2.2.1 + nuL nMem x.2.2.2
def kModule (k : Nat) (x : TModule) : TModule := (mkL kSignal nSignal k x.1, mkL kAssign nAssign (k + nuL nSignal x.1) x.2.1, mkL kInst nInst ((k + nuL nSignal x.1) + nuL nAssign x.2.1) x.2.2.1, mkL kMem nMem (((k + nuL nSignal x.1) + nuL nAssign x.2.1) + nuL nInst x.2.2.1) x.2.2.2)
theorem nModule_le (x : TModule) : nModule x ≤ 4 * sModule x := by simp only [nModule, sModule]; have h0 := nuL_Signal_le x.1; have h1 := nuL_Assign_le x.2.1; have h2 := nuL_Inst_le x.2.2.1; have h3 := nuL_Mem_le x.2.2.2; omega
theorem nuL_Module_le (l : List TModule) : nuL nModule l ≤ 4 * szL sModule l := nuL_le4 (fun x => by have := nModule_le x; omega) l
/-- v is such a struct -/
def RModule (w : World) (S : Nat → Prop) (v : Value) (x : TModule) : Prop := ∃ (v0 : Value) (v1 : Value) (v2 : Value) (v3 : Value), v = .agg #[v0, v1, v2, v3] ∧ Rep w S v0 (fSignalS x.1) ∧ Rep w S v1 (fAssignS x.2.1) ∧ Rep w S v2 (fInstS x.2.2.1) ∧ Rep w S v3 (fMemS x.2.2.2)
/-- .. in memory of its own -/
def QModule (w : World) (S : Nat → Prop) (v : Value) (x : TModule) : Prop := ∃ (v0 : Value) (v1 : Value) (v2 : Value) (v3 : Value) (P : Nat → Nat → Prop), v = .agg #[v0, v1, v2, v3] ∧ (∀ j b, P j b → S b) ∧ (∀ i j b, P i b → P j b → i = j) ∧ Sep w (P 0) v0 (fSignalS x.1) ∧ Sep w (P 1) v1 (fAssignS x.2.1) ∧ Sep w (P 2) v2 (fInstS x.2.2.1) ∧ Sep w (P 3) v3 (fMemS x.2.2.2)
theorem QModule.r {w : World} {S : Nat → Prop} {v : Value} {x : TModule} (h : QModule w S v x) : RModule w S v x := by
 obtain ⟨v0, v1, v2, v3, P, rfl, hP, _, h0, h1, h2, h3⟩ := h
 exact ⟨v0, v1, v2, v3, rfl, h0.rep.mono (hP 0), h1.rep.mono (hP 1), h2.rep.mono (hP 2), h3.rep.mono (hP 3)⟩
theorem RModule.keep {w w' : World} {S : Nat → Prop} {v : Value} {x : TModule} (h : RModule w S v x) (hk : ∀ p : Addr, S p.block → w'.cell? p = w.cell? p) : RModule w' S v x := by
 obtain ⟨v0, v1, v2, v3, e, h0, h1, h2, h3⟩ := h
 exact ⟨v0, v1, v2, v3, e, h0.keep hk, h1.keep hk, h2.keep hk, h3.keep hk⟩
theorem RModule.under {w w' : World} {S : Nat → Prop} {B : Nat} {v : Value} {x : TModule} (h : RModule w S v x) (hS : ∀ b, S b → b < B) (hb : Below B w w') : RModule w' S v x := h.keep fun p hp => hb.cell (hS _ hp)
theorem RModule.mono {w : World} {S S' : Nat → Prop} {v : Value} {x : TModule} (h : RModule w S v x) (hS : ∀ b, S b → S' b) : RModule w S' v x := by
 obtain ⟨v0, v1, v2, v3, e, h0, h1, h2, h3⟩ := h
 exact ⟨v0, v1, v2, v3, e, h0.mono hS, h1.mono hS, h2.mono hS, h3.mono hS⟩
theorem QModule.keep {w w' : World} {S : Nat → Prop} {v : Value} {x : TModule} (h : QModule w S v x) (hk : ∀ b, S b → w'.heap[b]? = w.heap[b]?) : QModule w' S v x := by
 obtain ⟨v0, v1, v2, v3, P, e, hP, hd, h0, h1, h2, h3⟩ := h
 exact ⟨v0, v1, v2, v3, P, e, hP, hd, h0.keep (fun b hb => hk b (hP _ b hb)), h1.keep (fun b hb => hk b (hP _ b hb)), h2.keep (fun b hb => hk b (hP _ b hb)), h3.keep (fun b hb => hk b (hP _ b hb))⟩
theorem QModule.mono {w : World} {S S' : Nat → Prop} {v : Value} {x : TModule} (h : QModule w S v x) (hS : ∀ b, S b → S' b) : QModule w S' v x := by
 obtain ⟨v0, v1, v2, v3, P, e, hP, hd, h0, h1, h2, h3⟩ := h
 exact ⟨v0, v1, v2, v3, P, e, fun j b hb => hS b (hP j b hb), hd, h0, h1, h2, h3⟩
theorem RModule.form {w : World} {S : Nat → Prop} {v : Value} {x : TModule} (h : RModule w S v x) : ∃ (A0 : Option Addr) (n0 c0 : Nat) (A1 : Option Addr) (n1 c1 : Nat) (A2 : Option Addr) (n2 c2 : Nat) (A3 : Option Addr) (n3 c3 : Nat), v = .agg #[.slice A0 n0 c0, .slice A1 n1 c1, .slice A2 n2 c2, .slice A3 n3 c3] := by
 obtain ⟨v0, v1, v2, v3, rfl, h0, h1, h2, h3⟩ := h
 obtain ⟨A0, n0, c0, rfl⟩ := slv_of h0
 obtain ⟨A1, n1, c1, rfl⟩ := slv_of h1
 obtain ⟨A2, n2, c2, rfl⟩ := slv_of h2
 obtain ⟨A3, n3, c3, rfl⟩ := slv_of h3
 exact ⟨_, _, _, _, _, _, _, _, _, _, _, _, rfl⟩
theorem fModuleS_row {w : World} {S : Nat → Prop} {A : Option Addr} {n c k : Nat} {l : List TModule} (h : Rep w S (.slice A n c) (fModuleS l)) (hk : k < n) :
  ∃ (ad : Addr) (x0 : List TSignal) (x1 : List TAssign) (x2 : List TInst) (x3 : List TMem) (v0 : Value) (v1 : Value) (v2 : Value) (v3 : Value), A = some ad ∧ S ad.block ∧ l[k]? = some (x0, x1, x2, x3) ∧ Rep w S v0 (fSignalS x0) ∧ Rep w S v1 (fAssignS x1) ∧ Rep w S v2 (fInstS x2) ∧ Rep w S v3 (fMemS x3) ∧ w.cell? (ad.add (k * 4)) = some (v0) ∧ w.cell? (nxt (ad.add (k * 4)) 1) = some (v1) ∧ w.cell? (nxt (ad.add (k * 4)) 2) = some (v2) ∧ w.cell? (nxt (ad.add (k * 4)) 3) = some (v3) := by
 obtain ⟨ad, r, rfl, hb, hr, _, hc⟩ := h.row hk
 have hl := h.len
 rw [List.length_map] at hl
 have hx : l[k]? = some l[k] := List.getElem?_eq_getElem (by omega)
 rw [List.getElem?_map, hx] at hr
 injection hr with hr
 generalize l[k] = x at hx hr
 obtain ⟨x0, x1, x2, x3⟩ := x
 subst hr
 obtain ⟨v0, c0, h0⟩ := hc 0 (fSignalS x0) rfl
 obtain ⟨v1, c1, h1⟩ := hc 1 (fAssignS x1) rfl
 obtain ⟨v2, c2, h2⟩ := hc 2 (fInstS x2) rfl
 obtain ⟨v3, c3, h3⟩ := hc 3 (fMemS x3) rfl
 exact ⟨ad, x0, x1, x2, x3, v0, v1, v2, v3, rfl, hb, hx, h0, h1, h2, h3, c0, by rw [nxt_add _ _ (by decide)]; exact c1, by rw [nxt_add _ _ (by decide)]; exact c2, by rw [nxt_add _ _ (by decide)]; exact c3⟩

set_option maxRecDepth 100000 in
set_option maxHeartbeats 4000000 in
theorem d_szModule {w : World} {S : Nat → Prop} {v : Value} {x : TModule} (left : Nat) (h1 : left ≤ 1048576) (h : RModule w S v x) (hS : ∀ b, S b → b < w.heap.size) :
  Calls Tryz.prog 4 #[v, .int .i64 left] w fun e w' => e = .returned (.int .i64 (leftD left (sModule x))) ∧ Below w.heap.size w w' := by
 obtain ⟨x0, x1, x2, x3⟩ := x
 obtain ⟨v0, v1, v2, v3, rfl, h0, h1, h2, h3⟩ := h
 go_enter Tryz.func4, Tryz.ntmps4
 go_wp2_with fail
 obtain ⟨c0, hc0⟩ : ∃ c, c = szL sSignal x0 := ⟨_, rfl⟩
 refine (d_szSignalS (left) (by omega) (h0.under hS bel_) (fun b hb => by have := hS b hb; (try simp) <;> omega)).mono ?_
 rintro e w1 ⟨rfl, hb1⟩
 rw [← hc0]
 have Hc0 := Lib.hid hc0
 clear hc0
 have z1 := hb1.size
 try simp at z1
 (try have y1_0 : w.heap.size < w1.heap.size := (by omega))
 have q1_0 := fun o => (bcell hb1).1 (w.heap.size) o (by (try simp) <;> (try omega))
 have p1_0 := fun o => (bcell hb1).2 (w.heap.size) o (by (try simp) <;> (try omega))
 by_cases b0 : c0 ≤ left
 ·obtain ⟨r0, hr0⟩ : ∃ r, r = left - c0 := ⟨_, rfl⟩
  rw [leftD_yes b0, ← hr0]
  have br0 : r0 ≤ 1048576 := by omega
  have Hr0 := Lib.hid (show r0 + c0 = left by omega)
  clear hr0 b0
  go_wp2_with fail
  obtain ⟨c1, hc1⟩ : ∃ c, c = szL sAssign x1 := ⟨_, rfl⟩
  refine (d_szAssignS (r0) (by omega) (h1.under hS bel_) (fun b hb => by have := hS b hb; (try simp) <;> omega)).mono ?_
  rintro e w2 ⟨rfl, hb2⟩
  rw [← hc1]
  have Hc1 := Lib.hid hc1
  clear hc1
  have z2 := hb2.size
  try simp at z2
  (try have y2_0 : w.heap.size < w2.heap.size := (by omega))
  have q2_0 := fun o => (bcell hb2).1 (w.heap.size) o (by (try simp) <;> (try omega))
  have p2_0 := fun o => (bcell hb2).2 (w.heap.size) o (by (try simp) <;> (try omega))
  by_cases b1 : c1 ≤ r0
  ·obtain ⟨r1, hr1⟩ : ∃ r, r = r0 - c1 := ⟨_, rfl⟩
   rw [leftD_yes b1, ← hr1]
   have br1 : r1 ≤ 1048576 := by omega
   have Hr1 := Lib.hid (show r1 + c1 = r0 by omega)
   clear hr1 b1
   go_wp2_with fail
   obtain ⟨c2, hc2⟩ : ∃ c, c = szL sInst x2 := ⟨_, rfl⟩
   refine (d_szInstS (r1) (by omega) (h2.under hS bel_) (fun b hb => by have := hS b hb; (try simp) <;> omega)).mono ?_
   rintro e w3 ⟨rfl, hb3⟩
   rw [← hc2]
   have Hc2 := Lib.hid hc2
   clear hc2
   have z3 := hb3.size
   try simp at z3
   (try have y3_0 : w.heap.size < w3.heap.size := (by omega))
   have q3_0 := fun o => (bcell hb3).1 (w.heap.size) o (by (try simp) <;> (try omega))
   have p3_0 := fun o => (bcell hb3).2 (w.heap.size) o (by (try simp) <;> (try omega))
   by_cases b2 : c2 ≤ r1
   ·obtain ⟨r2, hr2⟩ : ∃ r, r = r1 - c2 := ⟨_, rfl⟩
    rw [leftD_yes b2, ← hr2]
    have br2 : r2 ≤ 1048576 := by omega
    have Hr2 := Lib.hid (show r2 + c2 = r1 by omega)
    clear hr2 b2
    go_wp2_with fail
    obtain ⟨c3, hc3⟩ : ∃ c, c = szL sMem x3 := ⟨_, rfl⟩
    refine (d_szMemS (r2) (by omega) (h3.under hS bel_) (fun b hb => by have := hS b hb; (try simp) <;> omega)).mono ?_
    rintro e w4 ⟨rfl, hb4⟩
    rw [← hc3]
    have Hc3 := Lib.hid hc3
    clear hc3
    have z4 := hb4.size
    try simp at z4
    (try have y4_0 : w.heap.size < w4.heap.size := (by omega))
    have q4_0 := fun o => (bcell hb4).1 (w.heap.size) o (by (try simp) <;> (try omega))
    have p4_0 := fun o => (bcell hb4).2 (w.heap.size) o (by (try simp) <;> (try omega))
    by_cases b3 : c3 ≤ r2
    ·obtain ⟨r3, hr3⟩ : ∃ r, r = r2 - c3 := ⟨_, rfl⟩
     rw [leftD_yes b3, ← hr3]
     have br3 : r3 ≤ 1048576 := by omega
     have Hr3 := Lib.hid (show r3 + c3 = r2 by omega)
     clear hr3 b3
     go_wp2_with fail
     go_ret
     exact ⟨ret_int (by have a0 := Hc0.out; have b0 := Hr0.out; have a1 := Hc1.out; have b1 := Hr1.out; have a2 := Hc2.out; have b2 := Hr2.out; have a3 := Hc3.out; have b3 := Hr3.out; simp only [sModule]; rw [leftD_yes (by omega)]; omega), bel_⟩
    ·rw [leftD_no b3]
     go_wp2_with fail
     go_ret
     exact ⟨ret_int (by have a0 := Hc0.out; have a1 := Hc1.out; have a2 := Hc2.out; have a3 := Hc3.out; have b0 := Hr0.out; have b1 := Hr1.out; have b2 := Hr2.out; rw [leftD_no (by simp only [sModule]; omega)]), bel_⟩
   ·rw [leftD_no b2]
    go_wp2_with fail
    go_ret
    exact ⟨ret_int (by have a0 := Hc0.out; have a1 := Hc1.out; have a2 := Hc2.out; have b0 := Hr0.out; have b1 := Hr1.out; rw [leftD_no (by simp only [sModule]; omega)]), bel_⟩
  ·rw [leftD_no b1]
   go_wp2_with fail
   go_ret
   exact ⟨ret_int (by have a0 := Hc0.out; have a1 := Hc1.out; have b0 := Hr0.out; rw [leftD_no (by simp only [sModule]; omega)]), bel_⟩
 ·rw [leftD_no b0]
  go_wp2_with fail
  go_ret
  exact ⟨ret_int (by have a0 := Hc0.out; rw [leftD_no (by simp only [sModule]; omega)]), bel_⟩

set_option maxRecDepth 100000 in
set_option maxHeartbeats 4000000 in
theorem d_toModule {w : World} {S : Nat → Prop} {v : Value} {x : TModule} (hz : sModule x ≤ 1048576) (h : RModule w S v x) (hS : ∀ b, S b → b < w.heap.size) :
  Calls Tryz.prog 7 #[v] w fun e w' => ∃ v', e = .returned v' ∧ QModule w' (New w w') v' x ∧ Below w.heap.size w w' := by
 obtain ⟨x0, x1, x2, x3⟩ := x
 obtain ⟨v0, v1, v2, v3, rfl, h0, h1, h2, h3⟩ := h
 simp only [sModule] at hz
 go_enter Tryz.func7, Tryz.ntmps7
 go_wp2_with fail
 refine (d_toSignalS (by omega) (h0.under hS bel_) (fun b hb => by have := hS b hb; (try simp) <;> omega)).mono ?_
 rintro e w1 ⟨_, rfl, hs1, hb1⟩
 obtain ⟨A0, c0, rfl, _⟩ := hs1.sl_val
 rw [List.length_map] at hs1 ⊢
 have z1 := hb1.size
 try simp at z1
 (try have y1_0 : w.heap.size < w1.heap.size := (by omega))
 have q1_0 := fun o => (bcell hb1).1 (w.heap.size) o (by (try simp) <;> (try omega))
 have p1_0 := fun o => (bcell hb1).2 (w.heap.size) o (by (try simp) <;> (try omega))
 (try have y1_1 : w.heap.size + 1 < w1.heap.size := (by omega))
 have q1_1 := fun o => (bcell hb1).1 (w.heap.size + 1) o (by (try simp) <;> (try omega))
 have p1_1 := fun o => (bcell hb1).2 (w.heap.size + 1) o (by (try simp) <;> (try omega))
 (try have y1_2 : w.heap.size + 1 + 1 < w1.heap.size := (by omega))
 have q1_2 := fun o => (bcell hb1).1 (w.heap.size + 1 + 1) o (by (try simp) <;> (try omega))
 have p1_2 := fun o => (bcell hb1).2 (w.heap.size + 1 + 1) o (by (try simp) <;> (try omega))
 have z1' := hb1.size
 simp at z1'
 have Hs1 := Lib.hid (show Sep w1 (fun b => w.heap.size + 3 ≤ b ∧ b < w1.heap.size) (.slice A0 x0.length c0) (fSignalS x0) from hs1.mono (fun b hb => by simp [New] at hb; exact ⟨by omega, hb.2⟩))
 clear hs1
 go_wp2_with fail
 refine (d_toAssignS (by omega) (h1.under hS bel_) (fun b hb => by have := hS b hb; (try simp) <;> omega)).mono ?_
 rintro e w2 ⟨_, rfl, hs2, hb2⟩
 obtain ⟨A1, c1, rfl, _⟩ := hs2.sl_val
 rw [List.length_map] at hs2 ⊢
 have z2 := hb2.size
 try simp at z2
 (try have y2_0 : w.heap.size < w2.heap.size := (by omega))
 have q2_0 := fun o => (bcell hb2).1 (w.heap.size) o (by (try simp) <;> (try omega))
 have p2_0 := fun o => (bcell hb2).2 (w.heap.size) o (by (try simp) <;> (try omega))
 (try have y2_1 : w.heap.size + 1 < w2.heap.size := (by omega))
 have q2_1 := fun o => (bcell hb2).1 (w.heap.size + 1) o (by (try simp) <;> (try omega))
 have p2_1 := fun o => (bcell hb2).2 (w.heap.size + 1) o (by (try simp) <;> (try omega))
 (try have y2_2 : w.heap.size + 1 + 1 < w2.heap.size := (by omega))
 have q2_2 := fun o => (bcell hb2).1 (w.heap.size + 1 + 1) o (by (try simp) <;> (try omega))
 have p2_2 := fun o => (bcell hb2).2 (w.heap.size + 1 + 1) o (by (try simp) <;> (try omega))
 have z2' := hb2.size
 simp at z2'
 have Hs2 := Lib.hid (show Sep w2 (fun b => w1.heap.size ≤ b ∧ b < w2.heap.size) (.slice A1 x1.length c1) (fAssignS x1) from hs2.mono (fun b hb => by simp [New] at hb; exact ⟨by omega, hb.2⟩))
 clear hs2
 have Hs1b := Lib.hid (show Sep w2 (fun b => w.heap.size + 3 ≤ b ∧ b < w1.heap.size) (.slice A0 x0.length c0) (fSignalS x0) from (Hs1.out.setCell (p := ⟨w.heap.size + 1 + 1, 0, none⟩) (fun hh => by have := hh.1; simp at this <;> omega) _).under (fun b hb => by have := hb.2; (try simp) <;> omega) hb2)
 clear Hs1
 go_wp2_with fail
 refine (d_toInstS (by omega) (h2.under hS bel_) (fun b hb => by have := hS b hb; (try simp) <;> omega)).mono ?_
 rintro e w3 ⟨_, rfl, hs3, hb3⟩
 obtain ⟨A2, c2, rfl, _⟩ := hs3.sl_val
 rw [List.length_map] at hs3 ⊢
 have z3 := hb3.size
 try simp at z3
 (try have y3_0 : w.heap.size < w3.heap.size := (by omega))
 have q3_0 := fun o => (bcell hb3).1 (w.heap.size) o (by (try simp) <;> (try omega))
 have p3_0 := fun o => (bcell hb3).2 (w.heap.size) o (by (try simp) <;> (try omega))
 (try have y3_1 : w.heap.size + 1 < w3.heap.size := (by omega))
 have q3_1 := fun o => (bcell hb3).1 (w.heap.size + 1) o (by (try simp) <;> (try omega))
 have p3_1 := fun o => (bcell hb3).2 (w.heap.size + 1) o (by (try simp) <;> (try omega))
 (try have y3_2 : w.heap.size + 1 + 1 < w3.heap.size := (by omega))
 have q3_2 := fun o => (bcell hb3).1 (w.heap.size + 1 + 1) o (by (try simp) <;> (try omega))
 have p3_2 := fun o => (bcell hb3).2 (w.heap.size + 1 + 1) o (by (try simp) <;> (try omega))
 have z3' := hb3.size
 simp at z3'
 have Hs3 := Lib.hid (show Sep w3 (fun b => w2.heap.size ≤ b ∧ b < w3.heap.size) (.slice A2 x2.length c2) (fInstS x2) from hs3.mono (fun b hb => by simp [New] at hb; exact ⟨by omega, hb.2⟩))
 clear hs3
 have Hs1bb := Lib.hid (show Sep w3 (fun b => w.heap.size + 3 ≤ b ∧ b < w1.heap.size) (.slice A0 x0.length c0) (fSignalS x0) from (Hs1b.out.setCell (p := ⟨w.heap.size + 1 + 1, 1, none⟩) (fun hh => by have := hh.1; simp at this <;> omega) _).under (fun b hb => by have := hb.2; (try simp) <;> omega) hb3)
 clear Hs1b
 have Hs2b := Lib.hid (show Sep w3 (fun b => w1.heap.size ≤ b ∧ b < w2.heap.size) (.slice A1 x1.length c1) (fAssignS x1) from (Hs2.out.setCell (p := ⟨w.heap.size + 1 + 1, 1, none⟩) (fun hh => by have := hh.1; simp at this <;> omega) _).under (fun b hb => by have := hb.2; (try simp) <;> omega) hb3)
 clear Hs2
 go_wp2_with fail
 refine (d_toMemS (by omega) (h3.under hS bel_) (fun b hb => by have := hS b hb; (try simp) <;> omega)).mono ?_
 rintro e w4 ⟨_, rfl, hs4, hb4⟩
 obtain ⟨A3, c3, rfl, _⟩ := hs4.sl_val
 rw [List.length_map] at hs4 ⊢
 have z4 := hb4.size
 try simp at z4
 (try have y4_0 : w.heap.size < w4.heap.size := (by omega))
 have q4_0 := fun o => (bcell hb4).1 (w.heap.size) o (by (try simp) <;> (try omega))
 have p4_0 := fun o => (bcell hb4).2 (w.heap.size) o (by (try simp) <;> (try omega))
 (try have y4_1 : w.heap.size + 1 < w4.heap.size := (by omega))
 have q4_1 := fun o => (bcell hb4).1 (w.heap.size + 1) o (by (try simp) <;> (try omega))
 have p4_1 := fun o => (bcell hb4).2 (w.heap.size + 1) o (by (try simp) <;> (try omega))
 (try have y4_2 : w.heap.size + 1 + 1 < w4.heap.size := (by omega))
 have q4_2 := fun o => (bcell hb4).1 (w.heap.size + 1 + 1) o (by (try simp) <;> (try omega))
 have p4_2 := fun o => (bcell hb4).2 (w.heap.size + 1 + 1) o (by (try simp) <;> (try omega))
 have z4' := hb4.size
 simp at z4'
 have Hs4 := Lib.hid (show Sep w4 (fun b => w3.heap.size ≤ b ∧ b < w4.heap.size) (.slice A3 x3.length c3) (fMemS x3) from hs4.mono (fun b hb => by simp [New] at hb; exact ⟨by omega, hb.2⟩))
 clear hs4
 have Hs1bbb := Lib.hid (show Sep w4 (fun b => w.heap.size + 3 ≤ b ∧ b < w1.heap.size) (.slice A0 x0.length c0) (fSignalS x0) from (Hs1bb.out.setCell (p := ⟨w.heap.size + 1 + 1, 2, none⟩) (fun hh => by have := hh.1; simp at this <;> omega) _).under (fun b hb => by have := hb.2; (try simp) <;> omega) hb4)
 clear Hs1bb
 have Hs2bb := Lib.hid (show Sep w4 (fun b => w1.heap.size ≤ b ∧ b < w2.heap.size) (.slice A1 x1.length c1) (fAssignS x1) from (Hs2b.out.setCell (p := ⟨w.heap.size + 1 + 1, 2, none⟩) (fun hh => by have := hh.1; simp at this <;> omega) _).under (fun b hb => by have := hb.2; (try simp) <;> omega) hb4)
 clear Hs2b
 have Hs3b := Lib.hid (show Sep w4 (fun b => w2.heap.size ≤ b ∧ b < w3.heap.size) (.slice A2 x2.length c2) (fInstS x2) from (Hs3.out.setCell (p := ⟨w.heap.size + 1 + 1, 2, none⟩) (fun hh => by have := hh.1; simp at this <;> omega) _).under (fun b hb => by have := hb.2; (try simp) <;> omega) hb4)
 clear Hs3
 go_wp2_with fail
 refine bodyPost_ret (v := .agg #[.slice A0 x0.length c0, .slice A1 x1.length c1, .slice A2 x2.length c2, .slice A3 x3.length c3]) (by simp [results, Tryz.results7, go_sem, q1_0, q1_1, q1_2, p1_0, p1_1, p1_2, q2_0, q2_1, q2_2, p2_0, p2_1, p2_2, q3_0, q3_1, q3_2, p3_0, p3_1, p3_2, q4_0, q4_1, q4_2, p4_0, p4_1, p4_2]) rfl ⟨_, rfl, ?_, bel_⟩
 refine ⟨_, _, _, _, fun j b => (j = 0 ∧ w.heap.size + 3 ≤ b ∧ b < w1.heap.size) ∨ (j = 1 ∧ w1.heap.size ≤ b ∧ b < w2.heap.size) ∨ (j = 2 ∧ w2.heap.size ≤ b ∧ b < w3.heap.size) ∨ (j = 3 ∧ w3.heap.size ≤ b ∧ b < w4.heap.size), rfl, fun j b hb => ⟨by omega, by simp; omega⟩, fun i j b h1 h2 => by omega, ?_, ?_, ?_, ?_⟩
 ·refine Sep.mono (S := fun b => w.heap.size + 3 ≤ b ∧ b < w1.heap.size) ?_ (fun b hb => by omega)
  repeat (refine Sep.setCell ?_ (fun hh => by have := hh.1; simp at this <;> omega) _)
  exact Hs1bbb.out
 ·refine Sep.mono (S := fun b => w1.heap.size ≤ b ∧ b < w2.heap.size) ?_ (fun b hb => by omega)
  repeat (refine Sep.setCell ?_ (fun hh => by have := hh.1; simp at this <;> omega) _)
  exact Hs2bb.out
 ·refine Sep.mono (S := fun b => w2.heap.size ≤ b ∧ b < w3.heap.size) ?_ (fun b hb => by omega)
  repeat (refine Sep.setCell ?_ (fun hh => by have := hh.1; simp at this <;> omega) _)
  exact Hs3b.out
 ·refine Sep.mono (S := fun b => w3.heap.size ≤ b ∧ b < w4.heap.size) ?_ (fun b hb => by omega)
  repeat (refine Sep.setCell ?_ (fun hh => by have := hh.1; simp at this <;> omega) _)
  exact Hs4.out

theorem Tryz.infModule : (Tryz.prog.info? 37).map (fun i => (i.zero, i.size, i.bytes)) = some (some (.agg #[.slice none 0 0, .slice none 0 0, .slice none 0 0, .slice none 0 0]), 4, 96) := by kernel_rfl
theorem ownModuleD {w : World} {n : Nat} (hn : n ≤ maxLen) : (w.alloc (.cells (madeCells #[.slice none 0 0, .slice none 0 0, .slice none 0 0, .slice none 0 0] (n * 4)) 37)).ownsRow w.heap.size 37 4 (.slice (some ⟨w.heap.size, 0, none⟩) n n) n (madeCells #[.slice none 0 0, .slice none 0 0, .slice none 0 0, .slice none 0 0] (n * 4)).toList :=
 ⟨by simp [size_madeCells], .inr ⟨w.heap.size, n, madeCells #[.slice none 0 0, .slice none 0 0, .slice none 0 0, .slice none 0 0] (n * 4), rfl, Nat.le_refl _, heap_alloc_new w _, Nat.le_refl _, hn, by simp [size_madeCells], by rw [List.take_of_length_le]; simp [size_madeCells]⟩⟩
theorem setModule_old {xs : List Value} {k p : Nat} {a0 a1 a2 a3 : Value} (h : p < k * 4) : ((((xs.set (k * 4) a0).set (k * 4 + 1) a1).set (k * 4 + 2) a2).set (k * 4 + 3) a3)[p]? = xs[p]? := by
 rw [List.getElem?_set_ne (by omega), List.getElem?_set_ne (by omega), List.getElem?_set_ne (by omega), List.getElem?_set_ne (by omega)]
theorem setModule_new {xs : List Value} {k : Nat} {a0 a1 a2 a3 : Value} (h : k * 4 + 3 < xs.length) :
  ((((xs.set (k * 4) a0).set (k * 4 + 1) a1).set (k * 4 + 2) a2).set (k * 4 + 3) a3)[k * 4 + 0]? = some a0 ∧ ((((xs.set (k * 4) a0).set (k * 4 + 1) a1).set (k * 4 + 2) a2).set (k * 4 + 3) a3)[k * 4 + 1]? = some a1 ∧ ((((xs.set (k * 4) a0).set (k * 4 + 1) a1).set (k * 4 + 2) a2).set (k * 4 + 3) a3)[k * 4 + 2]? = some a2 ∧ ((((xs.set (k * 4) a0).set (k * 4 + 1) a1).set (k * 4 + 2) a2).set (k * 4 + 3) a3)[k * 4 + 3]? = some a3 := by
 refine ⟨?_, ?_, ?_, ?_⟩
 ·rw [List.getElem?_set_ne (by omega), List.getElem?_set_ne (by omega), List.getElem?_set_ne (by omega)]
  exact List.getElem?_set_self (by omega)
 ·rw [List.getElem?_set_ne (by omega), List.getElem?_set_ne (by omega), List.getElem?_set_self (by simp; omega)]
 ·rw [List.getElem?_set_ne (by omega), List.getElem?_set_self (by simp; omega)]
 ·rw [List.getElem?_set_self (by simp; omega)]

set_option maxRecDepth 100000 in
set_option maxHeartbeats 4000000 in
theorem d_eqModule {w : World} {S S' : Nat → Prop} {v v' : Value} {x : TModule} (hz : sModule x ≤ 1048576) (h : RModule w S v x) (h' : RModule w S' v' x) (hS : ∀ b, S b → b < w.heap.size) (hS' : ∀ b, S' b → b < w.heap.size) :
  Calls Tryz.prog 11 #[v, v'] w fun e w' => e = .returned (.bool true) ∧ Below w.heap.size w w' := by
 obtain ⟨x0, x1, x2, x3⟩ := x
 obtain ⟨v0, v1, v2, v3, rfl, h0, h1, h2, h3⟩ := h
 obtain ⟨u0, u1, u2, u3, rfl, h0', h1', h2', h3'⟩ := h'
 simp only [sModule] at hz
 go_enter Tryz.func11, Tryz.ntmps11
 go_wp2_with fail
 refine (d_eqSignalS (by omega) (h0.under hS bel_) (h0'.under hS' bel_) (fun b hb => by have := hS b hb; (try simp) <;> omega) (fun b hb => by have := hS' b hb; (try simp) <;> omega)).mono ?_
 rintro e w1 ⟨rfl, hb1⟩
 have z1 := hb1.size
 try simp at z1
 (try have y1_0 : w.heap.size < w1.heap.size := (by omega))
 have q1_0 := fun o => (bcell hb1).1 (w.heap.size) o (by (try simp) <;> (try omega))
 have p1_0 := fun o => (bcell hb1).2 (w.heap.size) o (by (try simp) <;> (try omega))
 (try have y1_1 : w.heap.size + 1 < w1.heap.size := (by omega))
 have q1_1 := fun o => (bcell hb1).1 (w.heap.size + 1) o (by (try simp) <;> (try omega))
 have p1_1 := fun o => (bcell hb1).2 (w.heap.size + 1) o (by (try simp) <;> (try omega))
 go_wp2_with fail
 refine (d_eqAssignS (by omega) (h1.under hS bel_) (h1'.under hS' bel_) (fun b hb => by have := hS b hb; (try simp) <;> omega) (fun b hb => by have := hS' b hb; (try simp) <;> omega)).mono ?_
 rintro e w2 ⟨rfl, hb2⟩
 have z2 := hb2.size
 try simp at z2
 (try have y2_0 : w.heap.size < w2.heap.size := (by omega))
 have q2_0 := fun o => (bcell hb2).1 (w.heap.size) o (by (try simp) <;> (try omega))
 have p2_0 := fun o => (bcell hb2).2 (w.heap.size) o (by (try simp) <;> (try omega))
 (try have y2_1 : w.heap.size + 1 < w2.heap.size := (by omega))
 have q2_1 := fun o => (bcell hb2).1 (w.heap.size + 1) o (by (try simp) <;> (try omega))
 have p2_1 := fun o => (bcell hb2).2 (w.heap.size + 1) o (by (try simp) <;> (try omega))
 go_wp2_with fail
 refine (d_eqInstS (by omega) (h2.under hS bel_) (h2'.under hS' bel_) (fun b hb => by have := hS b hb; (try simp) <;> omega) (fun b hb => by have := hS' b hb; (try simp) <;> omega)).mono ?_
 rintro e w3 ⟨rfl, hb3⟩
 have z3 := hb3.size
 try simp at z3
 (try have y3_0 : w.heap.size < w3.heap.size := (by omega))
 have q3_0 := fun o => (bcell hb3).1 (w.heap.size) o (by (try simp) <;> (try omega))
 have p3_0 := fun o => (bcell hb3).2 (w.heap.size) o (by (try simp) <;> (try omega))
 (try have y3_1 : w.heap.size + 1 < w3.heap.size := (by omega))
 have q3_1 := fun o => (bcell hb3).1 (w.heap.size + 1) o (by (try simp) <;> (try omega))
 have p3_1 := fun o => (bcell hb3).2 (w.heap.size + 1) o (by (try simp) <;> (try omega))
 go_wp2_with fail
 refine (d_eqMemS (by omega) (h3.under hS bel_) (h3'.under hS' bel_) (fun b hb => by have := hS b hb; (try simp) <;> omega) (fun b hb => by have := hS' b hb; (try simp) <;> omega)).mono ?_
 rintro e w4 ⟨rfl, hb4⟩
 have z4 := hb4.size
 try simp at z4
 (try have y4_0 : w.heap.size < w4.heap.size := (by omega))
 have q4_0 := fun o => (bcell hb4).1 (w.heap.size) o (by (try simp) <;> (try omega))
 have p4_0 := fun o => (bcell hb4).2 (w.heap.size) o (by (try simp) <;> (try omega))
 (try have y4_1 : w.heap.size + 1 < w4.heap.size := (by omega))
 have q4_1 := fun o => (bcell hb4).1 (w.heap.size + 1) o (by (try simp) <;> (try omega))
 have p4_1 := fun o => (bcell hb4).2 (w.heap.size + 1) o (by (try simp) <;> (try omega))
 go_wp2_with fail
 go_ret
 exact ⟨rfl, bel_⟩

set_option maxRecDepth 100000 in
set_option maxHeartbeats 4000000 in
theorem d_markModule {w : World} {S : Nat → Prop} {v : Value} {x : TModule} (k0 : Nat) (hk0 : k0 + nModule x ≤ 1099511627776) (h : QModule w S v x) (hS : ∀ b, S b → b < w.heap.size) :
  Calls Tryz.prog 12 #[v, .int .i64 k0] w fun e w' => e = .returned (.int .i64 ((k0 + nModule x : Nat) : Int)) ∧ QModule w' S v (kModule k0 x) ∧ Only S w w' := by
 obtain ⟨x0, x1, x2, x3⟩ := x
 obtain ⟨v0, v1, v2, v3, P, rfl, hP, hd, h0, h1, h2, h3⟩ := h
 simp only [nModule] at hk0
 have HP := Lib.hid hP
 have Hd := Lib.hid hd
 clear hP hd
 have hSP : ∀ j b, P j b → b < w.heap.size := fun j b hb => hS b (HP.out j b hb)
 have hSb : ∀ b, S b → ¬ b = w.heap.size := fun b hb => by have := hS b hb; omega
 go_enter Tryz.func12, Tryz.ntmps12
 go_wp2_with fail
 have HX0 := Lib.hid (Blk.new w 37 #[v0, v1, v2, v3])
 have HO0 := Lib.hid (show Only S w (w.alloc (.cells #[v0, v1, v2, v3] 37)) from (Only.refl S w).alloc _)
 have HS0_0 := Lib.hid (h0.alloc (hSP 0) (.cells #[v0, v1, v2, v3] 37))
 have HS0_1 := Lib.hid (h1.alloc (hSP 1) (.cells #[v0, v1, v2, v3] 37))
 have HS0_2 := Lib.hid (h2.alloc (hSP 2) (.cells #[v0, v1, v2, v3] 37))
 have HS0_3 := Lib.hid (h3.alloc (hSP 3) (.cells #[v0, v1, v2, v3] 37))
 clear h0 h1 h2 h3
 refine (d_markSignalS (k0) (by omega) HS0_0.out (fun b hb => by have := hSP 0 b hb; have := HO0.out.size; (try simp) <;> omega)).mono ?_
 rintro e w1 ⟨rfl, hs1, ho1⟩
 have HX1 := Lib.hid (ho1.blk HX0.out (fun hc => by have := hSP _ _ hc; omega))
 have HO1 := Lib.hid (HO0.out.trans (ho1.more (HP.out 0)))
 have HS1_0 := Lib.hid hs1
 have HS1_1 := Lib.hid (HS0_1.out.only (fun b hb => by have := hSP 1 b hb; have := HO0.out.size; (try simp) <;> omega) ho1 (fun b h1 h2 => absurd (Hd.out 1 0 b h1 h2) (by decide)))
 have HS1_2 := Lib.hid (HS0_2.out.only (fun b hb => by have := hSP 2 b hb; have := HO0.out.size; (try simp) <;> omega) ho1 (fun b h1 h2 => absurd (Hd.out 2 0 b h1 h2) (by decide)))
 have HS1_3 := Lib.hid (HS0_3.out.only (fun b hb => by have := hSP 3 b hb; have := HO0.out.size; (try simp) <;> omega) ho1 (fun b h1 h2 => absurd (Hd.out 3 0 b h1 h2) (by decide)))
 clear hs1 ho1
 obtain ⟨y0, y1, y2, y3⟩ := blkS4 HX1.out
 go_wp2_with fail
 clear y0 y1 y2 y3
 refine (d_markAssignS (k0 + nuL nSignal x0) (by omega) HS1_1.out (fun b hb => by have := hSP 1 b hb; have := HO1.out.size; (try simp) <;> omega)).mono ?_
 rintro e w2 ⟨rfl, hs2, ho2⟩
 have HX2 := Lib.hid (ho2.blk HX1.out (fun hc => by have := hSP _ _ hc; omega))
 have HO2 := Lib.hid (HO1.out.trans (ho2.more (HP.out 1)))
 have HS2_0 := Lib.hid (HS1_0.out.only (fun b hb => by have := hSP 0 b hb; have := HO1.out.size; (try simp) <;> omega) ho2 (fun b h1 h2 => absurd (Hd.out 0 1 b h1 h2) (by decide)))
 have HS2_1 := Lib.hid hs2
 have HS2_2 := Lib.hid (HS1_2.out.only (fun b hb => by have := hSP 2 b hb; have := HO1.out.size; (try simp) <;> omega) ho2 (fun b h1 h2 => absurd (Hd.out 2 1 b h1 h2) (by decide)))
 have HS2_3 := Lib.hid (HS1_3.out.only (fun b hb => by have := hSP 3 b hb; have := HO1.out.size; (try simp) <;> omega) ho2 (fun b h1 h2 => absurd (Hd.out 3 1 b h1 h2) (by decide)))
 clear hs2 ho2
 obtain ⟨y0, y1, y2, y3⟩ := blkS4 HX2.out
 go_wp2_with fail
 clear y0 y1 y2 y3
 refine (d_markInstS (k0 + nuL nSignal x0 + nuL nAssign x1) (by omega) HS2_2.out (fun b hb => by have := hSP 2 b hb; have := HO2.out.size; (try simp) <;> omega)).mono ?_
 rintro e w3 ⟨rfl, hs3, ho3⟩
 have HX3 := Lib.hid (ho3.blk HX2.out (fun hc => by have := hSP _ _ hc; omega))
 have HO3 := Lib.hid (HO2.out.trans (ho3.more (HP.out 2)))
 have HS3_0 := Lib.hid (HS2_0.out.only (fun b hb => by have := hSP 0 b hb; have := HO2.out.size; (try simp) <;> omega) ho3 (fun b h1 h2 => absurd (Hd.out 0 2 b h1 h2) (by decide)))
 have HS3_1 := Lib.hid (HS2_1.out.only (fun b hb => by have := hSP 1 b hb; have := HO2.out.size; (try simp) <;> omega) ho3 (fun b h1 h2 => absurd (Hd.out 1 2 b h1 h2) (by decide)))
 have HS3_2 := Lib.hid hs3
 have HS3_3 := Lib.hid (HS2_3.out.only (fun b hb => by have := hSP 3 b hb; have := HO2.out.size; (try simp) <;> omega) ho3 (fun b h1 h2 => absurd (Hd.out 3 2 b h1 h2) (by decide)))
 clear hs3 ho3
 obtain ⟨y0, y1, y2, y3⟩ := blkS4 HX3.out
 go_wp2_with fail
 clear y0 y1 y2 y3
 refine (d_markMemS (k0 + nuL nSignal x0 + nuL nAssign x1 + nuL nInst x2) (by omega) HS3_3.out (fun b hb => by have := hSP 3 b hb; have := HO3.out.size; (try simp) <;> omega)).mono ?_
 rintro e w4 ⟨rfl, hs4, ho4⟩
 have HX4 := Lib.hid (ho4.blk HX3.out (fun hc => by have := hSP _ _ hc; omega))
 have HO4 := Lib.hid (HO3.out.trans (ho4.more (HP.out 3)))
 have HS4_0 := Lib.hid (HS3_0.out.only (fun b hb => by have := hSP 0 b hb; have := HO3.out.size; (try simp) <;> omega) ho4 (fun b h1 h2 => absurd (Hd.out 0 3 b h1 h2) (by decide)))
 have HS4_1 := Lib.hid (HS3_1.out.only (fun b hb => by have := hSP 1 b hb; have := HO3.out.size; (try simp) <;> omega) ho4 (fun b h1 h2 => absurd (Hd.out 1 3 b h1 h2) (by decide)))
 have HS4_2 := Lib.hid (HS3_2.out.only (fun b hb => by have := hSP 2 b hb; have := HO3.out.size; (try simp) <;> omega) ho4 (fun b h1 h2 => absurd (Hd.out 2 3 b h1 h2) (by decide)))
 have HS4_3 := Lib.hid hs4
 clear hs4 ho4
 obtain ⟨y0, y1, y2, y3⟩ := blkS4 HX4.out
 go_wp2_with fail
 go_ret
 refine ⟨ret_int (by (try simp only [nModule]); go_num), ⟨v0, v1, v2, v3, P, rfl, HP.out, Hd.out, HS4_0.out, HS4_1.out, HS4_2.out, HS4_3.out⟩, HO4.out⟩

end Go.Proofs.YtjkdgedgfkgjdaaGreat

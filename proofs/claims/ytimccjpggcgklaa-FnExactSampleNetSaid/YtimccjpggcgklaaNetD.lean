/- Contracts: Net in the laws: the size, the copy, equality of equals, marks. -/
import Derived.Test.YtimccjpggcgklaaAndD
import Derived.Test.YtimccjpggcgklaaIntD
import Derived.Test.YtimccjpggcgklaaSeqD
import Derived.Outline
namespace Go.Proofs.Ytimccjpggcgklaa
open Go.RowKit

abbrev TNet := Int × List TSeq × List TAnd × List Int
def rNet (x : TNet) : List Fd := [.int x.1, fSeqS x.2.1, fAndS x.2.2.1, fIntS x.2.2.2]
theorem rNet_len (x : TNet) : (rNet x).length = 4 := rfl
def fNetS (l : List TNet) : Fd := .sl (l.map rNet)
theorem rNet_lens (l : List TNet) : ∀ r ∈ l.map rNet, r.length = 4 := by
  intro r hr
  obtain ⟨x, _, rfl⟩ := List.mem_map.1 hr
  rfl
def sNet (x : TNet) : Nat := szL sSeq x.2.1 + szL sAnd x.2.2.1 + szL sInt x.2.2.2
def nNet (x : TNet) : Nat := nuL nSeq x.2.1 + nuL nAnd x.2.2.1 + nuL nInt x.2.2.2
def kNet (k : Nat) (x : TNet) : TNet := (x.1, mkL kSeq nSeq k x.2.1, mkL kAnd nAnd (k + nuL nSeq x.2.1) x.2.2.1, mkL kInt nInt ((k + nuL nSeq x.2.1) + nuL nAnd x.2.2.1) x.2.2.2)
theorem nNet_le (x : TNet) : nNet x ≤ 4 * sNet x := by simp only [nNet, sNet]; have h1 := nuL_Seq_le x.2.1; have h2 := nuL_And_le x.2.2.1; have h3 := nuL_Int_le x.2.2.2; omega
/-- v is such a struct -/
def RNet (w : World) (S : Nat → Prop) (v : Value) (x : TNet) : Prop := ∃ (v1 : Value) (v2 : Value) (v3 : Value), v = .agg #[.int .i64 (x.1), v1, v2, v3] ∧ Rep w S v1 (fSeqS x.2.1) ∧ Rep w S v2 (fAndS x.2.2.1) ∧ Rep w S v3 (fIntS x.2.2.2)
/-- .. in memory of its own -/
def QNet (w : World) (S : Nat → Prop) (v : Value) (x : TNet) : Prop := ∃ (v1 : Value) (v2 : Value) (v3 : Value) (P : Nat → Nat → Prop), v = .agg #[.int .i64 (x.1), v1, v2, v3] ∧ (∀ j b, P j b → S b) ∧ (∀ i j b, P i b → P j b → i = j) ∧ Sep w (P 1) v1 (fSeqS x.2.1) ∧ Sep w (P 2) v2 (fAndS x.2.2.1) ∧ Sep w (P 3) v3 (fIntS x.2.2.2)
theorem QNet.r {w : World} {S : Nat → Prop} {v : Value} {x : TNet} (h : QNet w S v x) : RNet w S v x := by
  obtain ⟨v1, v2, v3, P, rfl, hP, _, h1, h2, h3⟩ := h
  exact ⟨v1, v2, v3, rfl, h1.rep.mono (hP 1), h2.rep.mono (hP 2), h3.rep.mono (hP 3)⟩
theorem RNet.keep {w w' : World} {S : Nat → Prop} {v : Value} {x : TNet} (h : RNet w S v x) (hk : ∀ p : Addr, S p.block → w'.cell? p = w.cell? p) : RNet w' S v x := by
  obtain ⟨v1, v2, v3, e, h1, h2, h3⟩ := h
  exact ⟨v1, v2, v3, e, h1.keep hk, h2.keep hk, h3.keep hk⟩
theorem RNet.under {w w' : World} {S : Nat → Prop} {B : Nat} {v : Value} {x : TNet} (h : RNet w S v x) (hS : ∀ b, S b → b < B) (hb : Below B w w') : RNet w' S v x := h.keep fun p hp => hb.cell (hS _ hp)
theorem RNet.mono {w : World} {S S' : Nat → Prop} {v : Value} {x : TNet} (h : RNet w S v x) (hS : ∀ b, S b → S' b) : RNet w S' v x := by
  obtain ⟨v1, v2, v3, e, h1, h2, h3⟩ := h
  exact ⟨v1, v2, v3, e, h1.mono hS, h2.mono hS, h3.mono hS⟩
theorem QNet.keep {w w' : World} {S : Nat → Prop} {v : Value} {x : TNet} (h : QNet w S v x) (hk : ∀ b, S b → w'.heap[b]? = w.heap[b]?) : QNet w' S v x := by
  obtain ⟨v1, v2, v3, P, e, hP, hd, h1, h2, h3⟩ := h
  exact ⟨v1, v2, v3, P, e, hP, hd, h1.keep (fun b hb => hk b (hP _ b hb)), h2.keep (fun b hb => hk b (hP _ b hb)), h3.keep (fun b hb => hk b (hP _ b hb))⟩
theorem QNet.mono {w : World} {S S' : Nat → Prop} {v : Value} {x : TNet} (h : QNet w S v x) (hS : ∀ b, S b → S' b) : QNet w S' v x := by
  obtain ⟨v1, v2, v3, P, e, hP, hd, h1, h2, h3⟩ := h
  exact ⟨v1, v2, v3, P, e, fun j b hb => hS b (hP j b hb), hd, h1, h2, h3⟩
theorem RNet.form {w : World} {S : Nat → Prop} {v : Value} {x : TNet} (h : RNet w S v x) : ∃ (a0 : Int) (A1 : Option Addr) (n1 c1 : Nat) (A2 : Option Addr) (n2 c2 : Nat) (A3 : Option Addr) (n3 c3 : Nat), v = .agg #[.int .i64 a0, .slice A1 n1 c1, .slice A2 n2 c2, .slice A3 n3 c3] := by
  obtain ⟨v1, v2, v3, rfl, h1, h2, h3⟩ := h
  obtain ⟨A1, n1, c1, rfl⟩ := slv_of h1
  obtain ⟨A2, n2, c2, rfl⟩ := slv_of h2
  obtain ⟨A3, n3, c3, rfl⟩ := slv_of h3
  exact ⟨_, _, _, _, _, _, _, _, _, _, rfl⟩

set_option maxRecDepth 100000 in
set_option maxHeartbeats 4000000 in
theorem d_szNet {w : World} {S : Nat → Prop} {v : Value} {x : TNet} (left : Nat) (h1 : left ≤ 1048576) (h : RNet w S v x) (hS : ∀ b, S b → b < w.heap.size) :
    Calls Try.prog 28 #[v, .int .i64 left] w fun e w' => e = .returned (.int .i64 (leftD left (sNet x))) ∧ Below w.heap.size w w' := by
  obtain ⟨x0, x1, x2, x3⟩ := x
  obtain ⟨v1, v2, v3, rfl, h1, h2, h3⟩ := h
  go_enter Try.func28, Try.ntmps28
  go_wp2_with fail
  obtain ⟨c1, hc1⟩ : ∃ c, c = szL sSeq x1 := ⟨_, rfl⟩
  refine (d_szSeqS (left) (by omega) (h1.under hS (by repeat (first | with_reducible exact Below.refl _ _ | with_reducible assumption | with_reducible refine below_drewN ?_ _ | with_reducible refine Below.drew ?_ | ((with_reducible refine Below.alloc ?_ ?_ _); rotate_left; (((try simp) <;> (try omega)) <;> done)) | ((with_reducible refine Below.setCell ?_ ?_ _); rotate_left; (((try simp) <;> (try omega)) <;> done)) | ((with_reducible refine Below.trans ?_ (Below.mono (by with_reducible assumption) ?_)); rotate_left; (((try simp) <;> (try omega)) <;> done))))) (fun b hb => by have := hS b hb; (try simp) <;> omega)).mono ?_
  rintro e w1 ⟨rfl, hb1⟩
  rw [← hc1]
  have Hc1 := Lib.hid hc1
  clear hc1
  have z1 := hb1.size
  try simp at z1
  (try have y1_0 : w.heap.size < w1.heap.size := (by omega))
  have q1_0 := fun o => (bcell hb1).1 (w.heap.size) o (by (try simp) <;> (try omega))
  have p1_0 := fun o => (bcell hb1).2 (w.heap.size) o (by (try simp) <;> (try omega))
  by_cases b1 : c1 ≤ left
  · obtain ⟨r1, hr1⟩ : ∃ r, r = left - c1 := ⟨_, rfl⟩
    rw [leftD_yes b1, ← hr1]
    have br1 : r1 ≤ 1048576 := by omega
    have Hr1 := Lib.hid (show r1 + c1 = left by omega)
    clear hr1 b1
    go_wp2_with fail
    obtain ⟨c2, hc2⟩ : ∃ c, c = szL sAnd x2 := ⟨_, rfl⟩
    refine (d_szAndS (r1) (by omega) (h2.under hS (by repeat (first | with_reducible exact Below.refl _ _ | with_reducible assumption | with_reducible refine below_drewN ?_ _ | with_reducible refine Below.drew ?_ | ((with_reducible refine Below.alloc ?_ ?_ _); rotate_left; (((try simp) <;> (try omega)) <;> done)) | ((with_reducible refine Below.setCell ?_ ?_ _); rotate_left; (((try simp) <;> (try omega)) <;> done)) | ((with_reducible refine Below.trans ?_ (Below.mono (by with_reducible assumption) ?_)); rotate_left; (((try simp) <;> (try omega)) <;> done))))) (fun b hb => by have := hS b hb; (try simp) <;> omega)).mono ?_
    rintro e w2 ⟨rfl, hb2⟩
    rw [← hc2]
    have Hc2 := Lib.hid hc2
    clear hc2
    have z2 := hb2.size
    try simp at z2
    (try have y2_0 : w.heap.size < w2.heap.size := (by omega))
    have q2_0 := fun o => (bcell hb2).1 (w.heap.size) o (by (try simp) <;> (try omega))
    have p2_0 := fun o => (bcell hb2).2 (w.heap.size) o (by (try simp) <;> (try omega))
    by_cases b2 : c2 ≤ r1
    · obtain ⟨r2, hr2⟩ : ∃ r, r = r1 - c2 := ⟨_, rfl⟩
      rw [leftD_yes b2, ← hr2]
      have br2 : r2 ≤ 1048576 := by omega
      have Hr2 := Lib.hid (show r2 + c2 = r1 by omega)
      clear hr2 b2
      go_wp2_with fail
      obtain ⟨c3, hc3⟩ : ∃ c, c = szL sInt x3 := ⟨_, rfl⟩
      refine (d_szIntS (r2) (by omega) (h3.under hS (by repeat (first | with_reducible exact Below.refl _ _ | with_reducible assumption | with_reducible refine below_drewN ?_ _ | with_reducible refine Below.drew ?_ | ((with_reducible refine Below.alloc ?_ ?_ _); rotate_left; (((try simp) <;> (try omega)) <;> done)) | ((with_reducible refine Below.setCell ?_ ?_ _); rotate_left; (((try simp) <;> (try omega)) <;> done)) | ((with_reducible refine Below.trans ?_ (Below.mono (by with_reducible assumption) ?_)); rotate_left; (((try simp) <;> (try omega)) <;> done))))) (fun b hb => by have := hS b hb; (try simp) <;> omega)).mono ?_
      rintro e w3 ⟨rfl, hb3⟩
      rw [← hc3]
      have Hc3 := Lib.hid hc3
      clear hc3
      have z3 := hb3.size
      try simp at z3
      (try have y3_0 : w.heap.size < w3.heap.size := (by omega))
      have q3_0 := fun o => (bcell hb3).1 (w.heap.size) o (by (try simp) <;> (try omega))
      have p3_0 := fun o => (bcell hb3).2 (w.heap.size) o (by (try simp) <;> (try omega))
      by_cases b3 : c3 ≤ r2
      · obtain ⟨r3, hr3⟩ : ∃ r, r = r2 - c3 := ⟨_, rfl⟩
        rw [leftD_yes b3, ← hr3]
        have br3 : r3 ≤ 1048576 := by omega
        have Hr3 := Lib.hid (show r3 + c3 = r2 by omega)
        clear hr3 b3
        go_wp2_with fail
        go_ret
        exact ⟨ret_int (by have a1 := Hc1.out; have b1 := Hr1.out; have a2 := Hc2.out; have b2 := Hr2.out; have a3 := Hc3.out; have b3 := Hr3.out; simp only [sNet]; rw [leftD_yes (by omega)]; omega), (by repeat (first | with_reducible exact Below.refl _ _ | with_reducible assumption | with_reducible refine below_drewN ?_ _ | with_reducible refine Below.drew ?_ | ((with_reducible refine Below.alloc ?_ ?_ _); rotate_left; (((try simp) <;> (try omega)) <;> done)) | ((with_reducible refine Below.setCell ?_ ?_ _); rotate_left; (((try simp) <;> (try omega)) <;> done)) | ((with_reducible refine Below.trans ?_ (Below.mono (by with_reducible assumption) ?_)); rotate_left; (((try simp) <;> (try omega)) <;> done))))⟩
      · rw [leftD_no b3]
        go_wp2_with fail
        go_ret
        exact ⟨ret_int (by have a1 := Hc1.out; have a2 := Hc2.out; have a3 := Hc3.out; have b1 := Hr1.out; have b2 := Hr2.out; rw [leftD_no (by simp only [sNet]; omega)]), (by repeat (first | with_reducible exact Below.refl _ _ | with_reducible assumption | with_reducible refine below_drewN ?_ _ | with_reducible refine Below.drew ?_ | ((with_reducible refine Below.alloc ?_ ?_ _); rotate_left; (((try simp) <;> (try omega)) <;> done)) | ((with_reducible refine Below.setCell ?_ ?_ _); rotate_left; (((try simp) <;> (try omega)) <;> done)) | ((with_reducible refine Below.trans ?_ (Below.mono (by with_reducible assumption) ?_)); rotate_left; (((try simp) <;> (try omega)) <;> done))))⟩
    · rw [leftD_no b2]
      go_wp2_with fail
      go_ret
      exact ⟨ret_int (by have a1 := Hc1.out; have a2 := Hc2.out; have b1 := Hr1.out; rw [leftD_no (by simp only [sNet]; omega)]), (by repeat (first | with_reducible exact Below.refl _ _ | with_reducible assumption | with_reducible refine below_drewN ?_ _ | with_reducible refine Below.drew ?_ | ((with_reducible refine Below.alloc ?_ ?_ _); rotate_left; (((try simp) <;> (try omega)) <;> done)) | ((with_reducible refine Below.setCell ?_ ?_ _); rotate_left; (((try simp) <;> (try omega)) <;> done)) | ((with_reducible refine Below.trans ?_ (Below.mono (by with_reducible assumption) ?_)); rotate_left; (((try simp) <;> (try omega)) <;> done))))⟩
  · rw [leftD_no b1]
    go_wp2_with fail
    go_ret
    exact ⟨ret_int (by have a1 := Hc1.out; rw [leftD_no (by simp only [sNet]; omega)]), (by repeat (first | with_reducible exact Below.refl _ _ | with_reducible assumption | with_reducible refine below_drewN ?_ _ | with_reducible refine Below.drew ?_ | ((with_reducible refine Below.alloc ?_ ?_ _); rotate_left; (((try simp) <;> (try omega)) <;> done)) | ((with_reducible refine Below.setCell ?_ ?_ _); rotate_left; (((try simp) <;> (try omega)) <;> done)) | ((with_reducible refine Below.trans ?_ (Below.mono (by with_reducible assumption) ?_)); rotate_left; (((try simp) <;> (try omega)) <;> done))))⟩

set_option maxRecDepth 100000 in
set_option maxHeartbeats 4000000 in
theorem d_toNet {w : World} {S : Nat → Prop} {v : Value} {x : TNet} (hz : sNet x ≤ 1048576) (h : RNet w S v x) (hS : ∀ b, S b → b < w.heap.size) :
    Calls Try.prog 30 #[v] w fun e w' => ∃ v', e = .returned v' ∧ QNet w' (New w w') v' x ∧ Below w.heap.size w w' := by
  obtain ⟨x0, x1, x2, x3⟩ := x
  obtain ⟨v1, v2, v3, rfl, h1, h2, h3⟩ := h
  simp only [sNet] at hz
  go_enter Try.func30, Try.ntmps30
  go_wp2_with fail
  refine (d_toSeqS (by omega) (h1.under hS (by repeat (first | with_reducible exact Below.refl _ _ | with_reducible assumption | with_reducible refine below_drewN ?_ _ | with_reducible refine Below.drew ?_ | ((with_reducible refine Below.alloc ?_ ?_ _); rotate_left; (((try simp) <;> (try omega)) <;> done)) | ((with_reducible refine Below.setCell ?_ ?_ _); rotate_left; (((try simp) <;> (try omega)) <;> done)) | ((with_reducible refine Below.trans ?_ (Below.mono (by with_reducible assumption) ?_)); rotate_left; (((try simp) <;> (try omega)) <;> done))))) (fun b hb => by have := hS b hb; (try simp) <;> omega)).mono ?_
  rintro e w1 ⟨_, rfl, hs1, hb1⟩
  obtain ⟨A1, c1, rfl, _⟩ := hs1.sl_val
  rw [List.length_map] at hs1 ⊢
  have z1 := hb1.size
  try simp at z1
  (try have y1_0 : w.heap.size < w1.heap.size := (by omega))
  have q1_0 := fun o => (bcell hb1).1 (w.heap.size) o (by (try simp) <;> (try omega))
  have p1_0 := fun o => (bcell hb1).2 (w.heap.size) o (by (try simp) <;> (try omega))
  (try have y1_1 : w.heap.size + 1 < w1.heap.size := (by omega))
  have q1_1 := fun o => (bcell hb1).1 (w.heap.size + 1) o (by (try simp) <;> (try omega))
  have p1_1 := fun o => (bcell hb1).2 (w.heap.size + 1) o (by (try simp) <;> (try omega))
  (try have y1_2 : w.heap.size + 1 + 1 < w1.heap.size := (by omega))
  have q1_2 := fun o => (bcell hb1).1 (w.heap.size + 1 + 1) o (by (try simp) <;> (try omega))
  have p1_2 := fun o => (bcell hb1).2 (w.heap.size + 1 + 1) o (by (try simp) <;> (try omega))
  have z1' := hb1.size
  simp at z1'
  have Hs1 := Lib.hid (show Sep w1 (fun b => w.heap.size + 3 ≤ b ∧ b < w1.heap.size) (.slice A1 x1.length c1) (fSeqS x1) from hs1.mono (fun b hb => by simp [New] at hb; exact ⟨by omega, hb.2⟩))
  clear hs1
  go_wp2_with fail
  refine (d_toAndS (by omega) (h2.under hS (by repeat (first | with_reducible exact Below.refl _ _ | with_reducible assumption | with_reducible refine below_drewN ?_ _ | with_reducible refine Below.drew ?_ | ((with_reducible refine Below.alloc ?_ ?_ _); rotate_left; (((try simp) <;> (try omega)) <;> done)) | ((with_reducible refine Below.setCell ?_ ?_ _); rotate_left; (((try simp) <;> (try omega)) <;> done)) | ((with_reducible refine Below.trans ?_ (Below.mono (by with_reducible assumption) ?_)); rotate_left; (((try simp) <;> (try omega)) <;> done))))) (fun b hb => by have := hS b hb; (try simp) <;> omega)).mono ?_
  rintro e w2 ⟨_, rfl, hs2, hb2⟩
  obtain ⟨A2, c2, rfl, _⟩ := hs2.sl_val
  rw [List.length_map] at hs2 ⊢
  have z2 := hb2.size
  try simp at z2
  (try have y2_0 : w.heap.size < w2.heap.size := (by omega))
  have q2_0 := fun o => (bcell hb2).1 (w.heap.size) o (by (try simp) <;> (try omega))
  have p2_0 := fun o => (bcell hb2).2 (w.heap.size) o (by (try simp) <;> (try omega))
  (try have y2_1 : w.heap.size + 1 < w2.heap.size := (by omega))
  have q2_1 := fun o => (bcell hb2).1 (w.heap.size + 1) o (by (try simp) <;> (try omega))
  have p2_1 := fun o => (bcell hb2).2 (w.heap.size + 1) o (by (try simp) <;> (try omega))
  (try have y2_2 : w.heap.size + 1 + 1 < w2.heap.size := (by omega))
  have q2_2 := fun o => (bcell hb2).1 (w.heap.size + 1 + 1) o (by (try simp) <;> (try omega))
  have p2_2 := fun o => (bcell hb2).2 (w.heap.size + 1 + 1) o (by (try simp) <;> (try omega))
  have z2' := hb2.size
  simp at z2'
  have Hs2 := Lib.hid (show Sep w2 (fun b => w1.heap.size ≤ b ∧ b < w2.heap.size) (.slice A2 x2.length c2) (fAndS x2) from hs2.mono (fun b hb => by simp [New] at hb; exact ⟨by omega, hb.2⟩))
  clear hs2
  have Hs1b := Lib.hid (show Sep w2 (fun b => w.heap.size + 3 ≤ b ∧ b < w1.heap.size) (.slice A1 x1.length c1) (fSeqS x1) from (Hs1.out.setCell (p := ⟨w.heap.size + 1 + 1, 1, none⟩) (fun hh => by have := hh.1; simp at this <;> omega) _).under (fun b hb => by have := hb.2; (try simp) <;> omega) hb2)
  clear Hs1
  go_wp2_with fail
  refine (d_toIntS (by omega) (h3.under hS (by repeat (first | with_reducible exact Below.refl _ _ | with_reducible assumption | with_reducible refine below_drewN ?_ _ | with_reducible refine Below.drew ?_ | ((with_reducible refine Below.alloc ?_ ?_ _); rotate_left; (((try simp) <;> (try omega)) <;> done)) | ((with_reducible refine Below.setCell ?_ ?_ _); rotate_left; (((try simp) <;> (try omega)) <;> done)) | ((with_reducible refine Below.trans ?_ (Below.mono (by with_reducible assumption) ?_)); rotate_left; (((try simp) <;> (try omega)) <;> done))))) (fun b hb => by have := hS b hb; (try simp) <;> omega)).mono ?_
  rintro e w3 ⟨_, rfl, hs3, hb3⟩
  obtain ⟨A3, c3, rfl, _⟩ := hs3.sl_val
  rw [List.length_map] at hs3 ⊢
  have z3 := hb3.size
  try simp at z3
  (try have y3_0 : w.heap.size < w3.heap.size := (by omega))
  have q3_0 := fun o => (bcell hb3).1 (w.heap.size) o (by (try simp) <;> (try omega))
  have p3_0 := fun o => (bcell hb3).2 (w.heap.size) o (by (try simp) <;> (try omega))
  (try have y3_1 : w.heap.size + 1 < w3.heap.size := (by omega))
  have q3_1 := fun o => (bcell hb3).1 (w.heap.size + 1) o (by (try simp) <;> (try omega))
  have p3_1 := fun o => (bcell hb3).2 (w.heap.size + 1) o (by (try simp) <;> (try omega))
  (try have y3_2 : w.heap.size + 1 + 1 < w3.heap.size := (by omega))
  have q3_2 := fun o => (bcell hb3).1 (w.heap.size + 1 + 1) o (by (try simp) <;> (try omega))
  have p3_2 := fun o => (bcell hb3).2 (w.heap.size + 1 + 1) o (by (try simp) <;> (try omega))
  have z3' := hb3.size
  simp at z3'
  have Hs3 := Lib.hid (show Sep w3 (fun b => w2.heap.size ≤ b ∧ b < w3.heap.size) (.slice A3 x3.length c3) (fIntS x3) from hs3.mono (fun b hb => by simp [New] at hb; exact ⟨by omega, hb.2⟩))
  clear hs3
  have Hs1bb := Lib.hid (show Sep w3 (fun b => w.heap.size + 3 ≤ b ∧ b < w1.heap.size) (.slice A1 x1.length c1) (fSeqS x1) from (Hs1b.out.setCell (p := ⟨w.heap.size + 1 + 1, 2, none⟩) (fun hh => by have := hh.1; simp at this <;> omega) _).under (fun b hb => by have := hb.2; (try simp) <;> omega) hb3)
  clear Hs1b
  have Hs2b := Lib.hid (show Sep w3 (fun b => w1.heap.size ≤ b ∧ b < w2.heap.size) (.slice A2 x2.length c2) (fAndS x2) from (Hs2.out.setCell (p := ⟨w.heap.size + 1 + 1, 2, none⟩) (fun hh => by have := hh.1; simp at this <;> omega) _).under (fun b hb => by have := hb.2; (try simp) <;> omega) hb3)
  clear Hs2
  go_wp2_with fail
  refine bodyPost_ret (v := .agg #[.int .i64 x0, .slice A1 x1.length c1, .slice A2 x2.length c2, .slice A3 x3.length c3]) (by simp [results, Try.results30, go_sem, q1_0, q1_1, q1_2, p1_0, p1_1, p1_2, q2_0, q2_1, q2_2, p2_0, p2_1, p2_2, q3_0, q3_1, q3_2, p3_0, p3_1, p3_2]) rfl ⟨_, rfl, ?_, (by repeat (first | with_reducible exact Below.refl _ _ | with_reducible assumption | with_reducible refine below_drewN ?_ _ | with_reducible refine Below.drew ?_ | ((with_reducible refine Below.alloc ?_ ?_ _); rotate_left; (((try simp) <;> (try omega)) <;> done)) | ((with_reducible refine Below.setCell ?_ ?_ _); rotate_left; (((try simp) <;> (try omega)) <;> done)) | ((with_reducible refine Below.trans ?_ (Below.mono (by with_reducible assumption) ?_)); rotate_left; (((try simp) <;> (try omega)) <;> done))))⟩
  refine ⟨_, _, _, fun j b => (j = 1 ∧ w.heap.size + 3 ≤ b ∧ b < w1.heap.size) ∨ (j = 2 ∧ w1.heap.size ≤ b ∧ b < w2.heap.size) ∨ (j = 3 ∧ w2.heap.size ≤ b ∧ b < w3.heap.size), rfl, fun j b hb => ⟨by omega, by simp; omega⟩, fun i j b h1 h2 => by omega, ?_, ?_, ?_⟩
  · refine Sep.mono (S := fun b => w.heap.size + 3 ≤ b ∧ b < w1.heap.size) ?_ (fun b hb => by omega)
    repeat (refine Sep.setCell ?_ (fun hh => by have := hh.1; simp at this <;> omega) _)
    exact Hs1bb.out
  · refine Sep.mono (S := fun b => w1.heap.size ≤ b ∧ b < w2.heap.size) ?_ (fun b hb => by omega)
    repeat (refine Sep.setCell ?_ (fun hh => by have := hh.1; simp at this <;> omega) _)
    exact Hs2b.out
  · refine Sep.mono (S := fun b => w2.heap.size ≤ b ∧ b < w3.heap.size) ?_ (fun b hb => by omega)
    repeat (refine Sep.setCell ?_ (fun hh => by have := hh.1; simp at this <;> omega) _)
    exact Hs3.out

set_option maxRecDepth 100000 in
set_option maxHeartbeats 4000000 in
theorem d_eqNet {w : World} {S S' : Nat → Prop} {v v' : Value} {x : TNet} (hz : sNet x ≤ 1048576) (h : RNet w S v x) (h' : RNet w S' v' x) (hS : ∀ b, S b → b < w.heap.size) (hS' : ∀ b, S' b → b < w.heap.size) :
    Calls Try.prog 25 #[v, v'] w fun e w' => e = .returned (.bool true) ∧ Below w.heap.size w w' := by
  obtain ⟨x0, x1, x2, x3⟩ := x
  obtain ⟨v1, v2, v3, rfl, h1, h2, h3⟩ := h
  obtain ⟨u1, u2, u3, rfl, h1', h2', h3'⟩ := h'
  simp only [sNet] at hz
  go_enter Try.func25, Try.ntmps25
  go_wp2_with fail
  refine (d_eqSeqS (by omega) (h1.under hS (by repeat (first | with_reducible exact Below.refl _ _ | with_reducible assumption | with_reducible refine below_drewN ?_ _ | with_reducible refine Below.drew ?_ | ((with_reducible refine Below.alloc ?_ ?_ _); rotate_left; (((try simp) <;> (try omega)) <;> done)) | ((with_reducible refine Below.setCell ?_ ?_ _); rotate_left; (((try simp) <;> (try omega)) <;> done)) | ((with_reducible refine Below.trans ?_ (Below.mono (by with_reducible assumption) ?_)); rotate_left; (((try simp) <;> (try omega)) <;> done))))) (h1'.under hS' (by repeat (first | with_reducible exact Below.refl _ _ | with_reducible assumption | with_reducible refine below_drewN ?_ _ | with_reducible refine Below.drew ?_ | ((with_reducible refine Below.alloc ?_ ?_ _); rotate_left; (((try simp) <;> (try omega)) <;> done)) | ((with_reducible refine Below.setCell ?_ ?_ _); rotate_left; (((try simp) <;> (try omega)) <;> done)) | ((with_reducible refine Below.trans ?_ (Below.mono (by with_reducible assumption) ?_)); rotate_left; (((try simp) <;> (try omega)) <;> done))))) (fun b hb => by have := hS b hb; (try simp) <;> omega) (fun b hb => by have := hS' b hb; (try simp) <;> omega)).mono ?_
  rintro e w1 ⟨rfl, hb1⟩
  have z1 := hb1.size
  try simp at z1
  (try have y1_0 : w.heap.size < w1.heap.size := (by omega))
  have q1_0 := fun o => (bcell hb1).1 (w.heap.size) o (by (try simp) <;> (try omega))
  have p1_0 := fun o => (bcell hb1).2 (w.heap.size) o (by (try simp) <;> (try omega))
  (try have y1_1 : w.heap.size + 1 < w1.heap.size := (by omega))
  have q1_1 := fun o => (bcell hb1).1 (w.heap.size + 1) o (by (try simp) <;> (try omega))
  have p1_1 := fun o => (bcell hb1).2 (w.heap.size + 1) o (by (try simp) <;> (try omega))
  go_wp2_with fail
  refine (d_eqAndS (by omega) (h2.under hS (by repeat (first | with_reducible exact Below.refl _ _ | with_reducible assumption | with_reducible refine below_drewN ?_ _ | with_reducible refine Below.drew ?_ | ((with_reducible refine Below.alloc ?_ ?_ _); rotate_left; (((try simp) <;> (try omega)) <;> done)) | ((with_reducible refine Below.setCell ?_ ?_ _); rotate_left; (((try simp) <;> (try omega)) <;> done)) | ((with_reducible refine Below.trans ?_ (Below.mono (by with_reducible assumption) ?_)); rotate_left; (((try simp) <;> (try omega)) <;> done))))) (h2'.under hS' (by repeat (first | with_reducible exact Below.refl _ _ | with_reducible assumption | with_reducible refine below_drewN ?_ _ | with_reducible refine Below.drew ?_ | ((with_reducible refine Below.alloc ?_ ?_ _); rotate_left; (((try simp) <;> (try omega)) <;> done)) | ((with_reducible refine Below.setCell ?_ ?_ _); rotate_left; (((try simp) <;> (try omega)) <;> done)) | ((with_reducible refine Below.trans ?_ (Below.mono (by with_reducible assumption) ?_)); rotate_left; (((try simp) <;> (try omega)) <;> done))))) (fun b hb => by have := hS b hb; (try simp) <;> omega) (fun b hb => by have := hS' b hb; (try simp) <;> omega)).mono ?_
  rintro e w2 ⟨rfl, hb2⟩
  have z2 := hb2.size
  try simp at z2
  (try have y2_0 : w.heap.size < w2.heap.size := (by omega))
  have q2_0 := fun o => (bcell hb2).1 (w.heap.size) o (by (try simp) <;> (try omega))
  have p2_0 := fun o => (bcell hb2).2 (w.heap.size) o (by (try simp) <;> (try omega))
  (try have y2_1 : w.heap.size + 1 < w2.heap.size := (by omega))
  have q2_1 := fun o => (bcell hb2).1 (w.heap.size + 1) o (by (try simp) <;> (try omega))
  have p2_1 := fun o => (bcell hb2).2 (w.heap.size + 1) o (by (try simp) <;> (try omega))
  go_wp2_with fail
  refine (d_eqIntS (by omega) (h3.under hS (by repeat (first | with_reducible exact Below.refl _ _ | with_reducible assumption | with_reducible refine below_drewN ?_ _ | with_reducible refine Below.drew ?_ | ((with_reducible refine Below.alloc ?_ ?_ _); rotate_left; (((try simp) <;> (try omega)) <;> done)) | ((with_reducible refine Below.setCell ?_ ?_ _); rotate_left; (((try simp) <;> (try omega)) <;> done)) | ((with_reducible refine Below.trans ?_ (Below.mono (by with_reducible assumption) ?_)); rotate_left; (((try simp) <;> (try omega)) <;> done))))) (h3'.under hS' (by repeat (first | with_reducible exact Below.refl _ _ | with_reducible assumption | with_reducible refine below_drewN ?_ _ | with_reducible refine Below.drew ?_ | ((with_reducible refine Below.alloc ?_ ?_ _); rotate_left; (((try simp) <;> (try omega)) <;> done)) | ((with_reducible refine Below.setCell ?_ ?_ _); rotate_left; (((try simp) <;> (try omega)) <;> done)) | ((with_reducible refine Below.trans ?_ (Below.mono (by with_reducible assumption) ?_)); rotate_left; (((try simp) <;> (try omega)) <;> done))))) (fun b hb => by have := hS b hb; (try simp) <;> omega) (fun b hb => by have := hS' b hb; (try simp) <;> omega)).mono ?_
  rintro e w3 ⟨rfl, hb3⟩
  have z3 := hb3.size
  try simp at z3
  (try have y3_0 : w.heap.size < w3.heap.size := (by omega))
  have q3_0 := fun o => (bcell hb3).1 (w.heap.size) o (by (try simp) <;> (try omega))
  have p3_0 := fun o => (bcell hb3).2 (w.heap.size) o (by (try simp) <;> (try omega))
  (try have y3_1 : w.heap.size + 1 < w3.heap.size := (by omega))
  have q3_1 := fun o => (bcell hb3).1 (w.heap.size + 1) o (by (try simp) <;> (try omega))
  have p3_1 := fun o => (bcell hb3).2 (w.heap.size + 1) o (by (try simp) <;> (try omega))
  go_wp2_with fail
  go_ret
  exact ⟨rfl, (by repeat (first | with_reducible exact Below.refl _ _ | with_reducible assumption | with_reducible refine below_drewN ?_ _ | with_reducible refine Below.drew ?_ | ((with_reducible refine Below.alloc ?_ ?_ _); rotate_left; (((try simp) <;> (try omega)) <;> done)) | ((with_reducible refine Below.setCell ?_ ?_ _); rotate_left; (((try simp) <;> (try omega)) <;> done)) | ((with_reducible refine Below.trans ?_ (Below.mono (by with_reducible assumption) ?_)); rotate_left; (((try simp) <;> (try omega)) <;> done))))⟩

set_option maxRecDepth 100000 in
set_option maxHeartbeats 4000000 in
theorem d_markNet {w : World} {S : Nat → Prop} {v : Value} {x : TNet} (k0 : Nat) (hk0 : k0 + nNet x ≤ 1099511627776) (h : QNet w S v x) (hS : ∀ b, S b → b < w.heap.size) :
    Calls Try.prog 26 #[v, .int .i64 k0] w fun e w' => e = .returned (.int .i64 ((k0 + nNet x : Nat) : Int)) ∧ QNet w' S v (kNet k0 x) ∧ Only S w w' := by
  obtain ⟨x0, x1, x2, x3⟩ := x
  obtain ⟨v1, v2, v3, P, rfl, hP, hd, h1, h2, h3⟩ := h
  simp only [nNet] at hk0
  have HP := Lib.hid hP
  have Hd := Lib.hid hd
  clear hP hd
  have hSP : ∀ j b, P j b → b < w.heap.size := fun j b hb => hS b (HP.out j b hb)
  have hSb : ∀ b, S b → ¬ b = w.heap.size := fun b hb => by have := hS b hb; omega
  go_enter Try.func26, Try.ntmps26
  go_wp2_with fail
  have HX0 := Lib.hid (Blk.new w 41 #[.int .i64 x0, v1, v2, v3])
  have HO0 := Lib.hid (show Only S w (w.alloc (.cells #[.int .i64 x0, v1, v2, v3] 41)) from (Only.refl S w).alloc _)
  have HS0_1 := Lib.hid (h1.alloc (hSP 1) (.cells #[.int .i64 x0, v1, v2, v3] 41))
  have HS0_2 := Lib.hid (h2.alloc (hSP 2) (.cells #[.int .i64 x0, v1, v2, v3] 41))
  have HS0_3 := Lib.hid (h3.alloc (hSP 3) (.cells #[.int .i64 x0, v1, v2, v3] 41))
  clear h1 h2 h3
  refine (d_markSeqS (k0) (by omega) HS0_1.out (fun b hb => by have := hSP 1 b hb; have := HO0.out.size; (try simp) <;> omega)).mono ?_
  rintro e w1 ⟨rfl, hs1, ho1⟩
  have HX1 := Lib.hid (ho1.blk HX0.out (fun hc => by have := hSP _ _ hc; omega))
  have HO1 := Lib.hid (HO0.out.trans (ho1.more (HP.out 1)))
  have HS1_1 := Lib.hid hs1
  have HS1_2 := Lib.hid (HS0_2.out.only (fun b hb => by have := hSP 2 b hb; have := HO0.out.size; (try simp) <;> omega) ho1 (fun b h1 h2 => absurd (Hd.out 2 1 b h1 h2) (by decide)))
  have HS1_3 := Lib.hid (HS0_3.out.only (fun b hb => by have := hSP 3 b hb; have := HO0.out.size; (try simp) <;> omega) ho1 (fun b h1 h2 => absurd (Hd.out 3 1 b h1 h2) (by decide)))
  clear hs1 ho1
  obtain ⟨y0, y1, y2, y3⟩ := blkS4 HX1.out
  go_wp2_with fail
  clear y0 y1 y2 y3
  refine (d_markAndS (k0 + nuL nSeq x1) (by omega) HS1_2.out (fun b hb => by have := hSP 2 b hb; have := HO1.out.size; (try simp) <;> omega)).mono ?_
  rintro e w2 ⟨rfl, hs2, ho2⟩
  have HX2 := Lib.hid (ho2.blk HX1.out (fun hc => by have := hSP _ _ hc; omega))
  have HO2 := Lib.hid (HO1.out.trans (ho2.more (HP.out 2)))
  have HS2_1 := Lib.hid (HS1_1.out.only (fun b hb => by have := hSP 1 b hb; have := HO1.out.size; (try simp) <;> omega) ho2 (fun b h1 h2 => absurd (Hd.out 1 2 b h1 h2) (by decide)))
  have HS2_2 := Lib.hid hs2
  have HS2_3 := Lib.hid (HS1_3.out.only (fun b hb => by have := hSP 3 b hb; have := HO1.out.size; (try simp) <;> omega) ho2 (fun b h1 h2 => absurd (Hd.out 3 2 b h1 h2) (by decide)))
  clear hs2 ho2
  obtain ⟨y0, y1, y2, y3⟩ := blkS4 HX2.out
  go_wp2_with fail
  clear y0 y1 y2 y3
  refine (d_markIntS (k0 + nuL nSeq x1 + nuL nAnd x2) (by omega) HS2_3.out (fun b hb => by have := hSP 3 b hb; have := HO2.out.size; (try simp) <;> omega)).mono ?_
  rintro e w3 ⟨rfl, hs3, ho3⟩
  have HX3 := Lib.hid (ho3.blk HX2.out (fun hc => by have := hSP _ _ hc; omega))
  have HO3 := Lib.hid (HO2.out.trans (ho3.more (HP.out 3)))
  have HS3_1 := Lib.hid (HS2_1.out.only (fun b hb => by have := hSP 1 b hb; have := HO2.out.size; (try simp) <;> omega) ho3 (fun b h1 h2 => absurd (Hd.out 1 3 b h1 h2) (by decide)))
  have HS3_2 := Lib.hid (HS2_2.out.only (fun b hb => by have := hSP 2 b hb; have := HO2.out.size; (try simp) <;> omega) ho3 (fun b h1 h2 => absurd (Hd.out 2 3 b h1 h2) (by decide)))
  have HS3_3 := Lib.hid hs3
  clear hs3 ho3
  obtain ⟨y0, y1, y2, y3⟩ := blkS4 HX3.out
  go_wp2_with fail
  go_ret
  refine ⟨ret_int (by (try simp only [nNet]); go_num), ⟨v1, v2, v3, P, rfl, HP.out, Hd.out, HS3_1.out, HS3_2.out, HS3_3.out⟩, HO3.out⟩

set_option maxRecDepth 100000 in
set_option maxHeartbeats 4000000 in
theorem d_heldNet {w : World} {S : Nat → Prop} {v : Value} {x : TNet} (k0 : Nat) (hk0 : k0 + nNet x ≤ 1099511627776) (h : RNet w S v (kNet k0 x)) (hS : ∀ b, S b → b < w.heap.size) :
    Calls Try.prog 27 #[v, .int .i64 k0] w fun e w' => e = .returned (.int .i64 ((k0 + nNet x : Nat) : Int)) ∧ Below w.heap.size w w' := by
  obtain ⟨x0, x1, x2, x3⟩ := x
  obtain ⟨v1, v2, v3, rfl, h1, h2, h3⟩ := h
  simp only [nNet] at hk0
  simp only [kNet] at h1 h2 h3
  go_enter Try.func27, Try.ntmps27
  go_wp2_with fail
  refine (d_heldSeqS (k0) (by omega) (h1.under hS (by repeat (first | with_reducible exact Below.refl _ _ | with_reducible assumption | with_reducible refine below_drewN ?_ _ | with_reducible refine Below.drew ?_ | ((with_reducible refine Below.alloc ?_ ?_ _); rotate_left; (((try simp) <;> (try omega)) <;> done)) | ((with_reducible refine Below.setCell ?_ ?_ _); rotate_left; (((try simp) <;> (try omega)) <;> done)) | ((with_reducible refine Below.trans ?_ (Below.mono (by with_reducible assumption) ?_)); rotate_left; (((try simp) <;> (try omega)) <;> done))))) (fun b hb => by have := hS b hb; (try simp) <;> omega)).mono ?_
  rintro e w1 ⟨rfl, hb1⟩
  have z1 := hb1.size
  try simp at z1
  (try have y1_0 : w.heap.size < w1.heap.size := (by omega))
  have q1_0 := fun o => (bcell hb1).1 (w.heap.size) o (by (try simp) <;> (try omega))
  have p1_0 := fun o => (bcell hb1).2 (w.heap.size) o (by (try simp) <;> (try omega))
  go_wp2_with fail
  refine (d_heldAndS (k0 + nuL nSeq x1) (by omega) (h2.under hS (by repeat (first | with_reducible exact Below.refl _ _ | with_reducible assumption | with_reducible refine below_drewN ?_ _ | with_reducible refine Below.drew ?_ | ((with_reducible refine Below.alloc ?_ ?_ _); rotate_left; (((try simp) <;> (try omega)) <;> done)) | ((with_reducible refine Below.setCell ?_ ?_ _); rotate_left; (((try simp) <;> (try omega)) <;> done)) | ((with_reducible refine Below.trans ?_ (Below.mono (by with_reducible assumption) ?_)); rotate_left; (((try simp) <;> (try omega)) <;> done))))) (fun b hb => by have := hS b hb; (try simp) <;> omega)).mono ?_
  rintro e w2 ⟨rfl, hb2⟩
  have z2 := hb2.size
  try simp at z2
  (try have y2_0 : w.heap.size < w2.heap.size := (by omega))
  have q2_0 := fun o => (bcell hb2).1 (w.heap.size) o (by (try simp) <;> (try omega))
  have p2_0 := fun o => (bcell hb2).2 (w.heap.size) o (by (try simp) <;> (try omega))
  go_wp2_with fail
  refine (d_heldIntS (k0 + nuL nSeq x1 + nuL nAnd x2) (by omega) (h3.under hS (by repeat (first | with_reducible exact Below.refl _ _ | with_reducible assumption | with_reducible refine below_drewN ?_ _ | with_reducible refine Below.drew ?_ | ((with_reducible refine Below.alloc ?_ ?_ _); rotate_left; (((try simp) <;> (try omega)) <;> done)) | ((with_reducible refine Below.setCell ?_ ?_ _); rotate_left; (((try simp) <;> (try omega)) <;> done)) | ((with_reducible refine Below.trans ?_ (Below.mono (by with_reducible assumption) ?_)); rotate_left; (((try simp) <;> (try omega)) <;> done))))) (fun b hb => by have := hS b hb; (try simp) <;> omega)).mono ?_
  rintro e w3 ⟨rfl, hb3⟩
  have z3 := hb3.size
  try simp at z3
  (try have y3_0 : w.heap.size < w3.heap.size := (by omega))
  have q3_0 := fun o => (bcell hb3).1 (w.heap.size) o (by (try simp) <;> (try omega))
  have p3_0 := fun o => (bcell hb3).2 (w.heap.size) o (by (try simp) <;> (try omega))
  go_wp2_with fail
  go_ret
  exact ⟨ret_int (by (try simp only [nNet]); go_num), (by repeat (first | with_reducible exact Below.refl _ _ | with_reducible assumption | with_reducible refine below_drewN ?_ _ | with_reducible refine Below.drew ?_ | ((with_reducible refine Below.alloc ?_ ?_ _); rotate_left; (((try simp) <;> (try omega)) <;> done)) | ((with_reducible refine Below.setCell ?_ ?_ _); rotate_left; (((try simp) <;> (try omega)) <;> done)) | ((with_reducible refine Below.trans ?_ (Below.mono (by with_reducible assumption) ?_)); rotate_left; (((try simp) <;> (try omega)) <;> done))))⟩
end Go.Proofs.Ytimccjpggcgklaa

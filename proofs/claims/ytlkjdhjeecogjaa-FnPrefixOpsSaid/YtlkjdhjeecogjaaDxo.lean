/- Contracts: a drawn list of operators. -/
import Derived.Test.YtlkjdhjeecogjaaDxp
import Derived.Test.YtlkjdhjeecogjaaOpS
import Derived.Outline
namespace Go.Proofs.Ytlkjdhjeecogjaa
open Go.RowKit

def slLn : Value → Nat | .slice _ n _ => n | _ => 0
/-- the first k elements of what a slice reads as -/
theorem Reads.head {w : World} {B size n : Nat} {A : Option Addr} {xs : List Value} (h : Reads w B size A n xs) {k : Nat} (hk : k ≤ n) : Reads w B size A k (xs.take (k * size)) := by
 refine ⟨?_, fun h0 => ?_⟩
 ·rw [List.length_take, h.1]
  exact Nat.min_eq_left (Nat.mul_le_mul_right _ hk)
 ·obtain ⟨ad, hA, hb, hc⟩ := h.2 (by omega)
  exact ⟨ad, hA, hb, fun j u hu => hc j u (by
   rw [List.getElem?_take] at hu
   split at hu
   ·exact hu
   ·cases hu)⟩
theorem recs_take {α : Type} {enc : α → List Int} {size : Nat} (hE : ∀ x, (enc x).length = size) (l : List α) (k : Nat) : recs enc (l.take k) = (recs enc l).take (k * size) := by
 by_cases hk : k ≤ l.length
 ·have h1 : recs enc l = recs enc (l.take k) ++ recs enc (l.drop k) := by rw [← recs_app, List.take_append_drop]
  rw [h1, List.take_left' (by rw [recs_len hE, List.length_take, Nat.min_eq_left hk])]
 ·rw [List.take_of_length_le (by omega), List.take_of_length_le]
  rw [recs_len hE]
  exact Nat.mul_le_mul_right _ (by omega)
def placeL (n : Int) : List Int := [-1, n, n + 1, 9223372036854775807, -9223372036854775808]
theorem placeL_cell {w : World} {n : Int} {j : Nat} {x : Int} (hj : (placeL n)[j]? = some x) : (w.alloc (.cells #[.int .i64 (-1), .int .i64 n, .int .i64 (n + 1), .int .i64 9223372036854775807, .int .i64 (-9223372036854775808)] 3)).cell? ((⟨w.heap.size, 0, none⟩ : Addr).add j) = some (.int .i64 x) := by
 rw [show (⟨w.heap.size, 0, none⟩ : Addr).add j = ⟨w.heap.size, j, none⟩ by unfold Addr.add; split <;> simp_all]
 rw [(Blk.new w 3 _).cell j]
 unfold placeL at hj
 match j, hj with
 | 0, h | 1, h | 2, h | 3, h | 4, h => simp at h ⊢; exact h
 | j + 5, h => simp at h
set_option maxRecDepth 100000 in
set_option maxHeartbeats 4000000 in
theorem s_Place {B g : Nat} {w : World} (n : Nat) (hn : n ≤ 1000) (hcur : Cur B g w) : Calls Try.prog 97 #[.pointer (some ⟨g, 0, none⟩), .int .i64 n] w (DrawI B g (fun x => x ∈ placeL n ∨ rng n x) w) := by
 have hgl := hcur.lt
 go_enter Try.func97, Try.ntmps97
 go_wp2_with fail
 refine (s_Once 15 hcur).mono ?_
 rintro e w1 ⟨o, rfl, hc1, hg1⟩
 have Hc1 := Lib.hid hc1
 have Hg1 := Lib.hid hg1
 have z1 := hg1.size
 clear hc1 hg1 hcur
 cases o
 ·go_wp2_with fail
  refine (s_Below (n : Int) Hc1.out).mono ?_
  rintro e w2 ⟨x, rfl, hx, hc2, hg2⟩
  go_wp2_with fail
  go_ret
  exact ⟨x, rfl, .inr hx, hc2, Hg1.out.trans hg2⟩
 ·go_wp2_with fail
  refine (s_PickInt (l := placeL n) (n := 5) (Hc1.out.alloc _) (by omega) (by omega) rfl (by show w1.heap.size ≠ g; omega) (by simp) (fun j x hj => placeL_cell hj)).mono ?_
  rintro e w2 ⟨x, rfl, hx, hc2, hg2⟩
  go_wp2_with fail
  go_ret
  exact ⟨x, rfl, .inl hx, hc2, (grown_alloc' Hg1.out _).trans hg2⟩

def upto (k : Nat) : List Int := (List.range k).map fun i => ((i : Nat) : Int)
theorem upto_len (k : Nat) : (upto k).length = k := by simp [upto]
theorem upto_succ (k : Nat) : ints (upto k) ++ [.int .i64 (k : Int)] = ints (upto (k + 1)) := by
 unfold upto
 rw [List.range_succ, List.map_append, ints_app]
 rfl
theorem upto_bd {k : Nat} : ∀ x ∈ upto k, 0 ≤ x ∧ x < (k : Int) := by
 intro x hx
 obtain ⟨i, hi, rfl⟩ := List.mem_map.1 hx
 have := List.mem_range.1 hi
 omega
/-- a drawn list of operators -/
def OpsD (w : World) (e : Ending) (w' : World) : Prop :=
 ∃ (A : Option Addr) (n c : Nat) (os : List TOp) (k : Nat), e = .returned (.tuple #[.slice A n c, .int .i64 k]) ∧ Reads w' w'.heap.size 3 A n (recs eOp os) ∧ n ≤ 100 ∧ n ≤ c ∧ Below w.heap.size w w'
set_option maxRecDepth 100000 in
set_option maxHeartbeats 16000000 in
theorem s_DrawOpsOk {w : World} {A : Option Addr} {n c : Nat} {l : List UInt8} (hr : Reads w w.heap.size 1 A n (bys l)) (hn : n ≤ 1048576) : Calls Try.prog 34 #[.slice A n c] w (OpsD w) := by
 obtain ⟨i0, hi, hz0, hz1, hz2⟩ := info_parts Try.infoIntC
 go_enter Try.func34, Try.ntmps34
 go_wp2_with fail
 refine (s_New hr hn).mono ?_
 rintro e w1 ⟨g, rfl, hc1, hb1⟩
 have hgw := hc1.le
 have hg1 := hc1.lt
 have Hb1 := Lib.hid hb1
 have Hc1 := Lib.hid hc1
 clear hb1 hc1 hr
 go_wp2_with fail
 refine (s_Below 4 Hc1.out).mono ?_
 rintro e w2 ⟨kk, rfl, hk, hc2, hg2⟩
 obtain ⟨hk0, hk1⟩ := hk.1 (by omega)
 obtain ⟨kn, rfl⟩ := Int.eq_ofNat_of_zero_le hk0
 have Hb2 := Lib.hid (below_curL' Hb1.out Hc1.out hgw hg2)
 have Hc2 := Lib.hid hc2
 have hgl2 := hc2.lt
 clear hk hc2 hg2
 go_wp2_with fail
 have Ho2 := Lib.hid (World.ownsRow_lit (base := g + 1) (size := 1) (e := 3) w2 #[] 0 (by omega) (by unfold maxLen; omega) rfl)
 have Hb3 := Lib.hid (Hb2.out.alloc Hb2.out.size (.cells #[] 3))
 have Hc3 := Lib.hid (Hc2.out.alloc (.cells #[] 3))
 go_loopw [6, 7] (fun ov iv wr => ∃ k : Nat, k ≤ kn ∧ iv = .int .i64 k ∧ wr.ownsRow (g + 1) 3 1 ov k (ints (upto k)) ∧ Cur w.heap.size g wr ∧ Below w.heap.size w wr) (fun _ iv _ => kn - (intOf iv).toNat)
 case atStart => exact ⟨0, Nat.zero_le _, rfl, Ho2.out, Hc3.out, Hb3.out⟩
 case round =>
  obtain ⟨k, hk, rfl, ho, hc, hb⟩ := hrel
  obtain ⟨Ao, co, rfl, _, _, _⟩ := own_form ho
  have Ho := Lib.hid ho
  have Hc := Lib.hid hc
  have Hb := Lib.hid hb
  have hgl := hc.lt
  clear ho hc hb
  by_cases hlt : k < kn
  ·have g2 : (k : Int) < (kn : Int) := by omega
   have z3 : g + 1 ≤ wr.heap.size := by omega
   go_wp2_with (at_builtin; refine wpList_append_any _ rfl _ _ 28 rfl (g + 1) 3 i0 (.int .i64 0) 1 8 Try.underlying28 hi hz0 hz1 hz2 rfl (by decide) _ _ _ rfl (Ho.out.alloc _) _ _ 1 1 _ rfl (reads_new _ _ 1 1 rfl) (by intro u hu; simp at hu; first | (subst hu; rfl) | (rcases hu with rfl | rfl <;> rfl) | (rcases hu with rfl | rfl | rfl <;> rfl)) (by unfold maxLen; omega) (by omega) (by (try simp) <;> (try omega)) ?_; intro v2 w2 hown2 hgrow2 hblk2)
   have hrow : ∀ b, (Value.slice Ao k co).ownBlock = some b → g + 1 ≤ b := fun b hb => (Ho.out.lt b hb).1
   have Ho2 := Lib.hid (show w2.ownsRow (g + 1) 3 1 v2 (k + 1) (ints (upto (k + 1))) by rw [← upto_succ]; exact hown2)
   have Hc2 := Lib.hid ((Hc.out.alloc _).grown hgrow2 (fun b hb => by have := hrow b hb; omega))
   have Hb2 := Lib.hid ((Hb.out.alloc Hb.out.size _).trans (below_of_grown hgrow2 (by have := Hb.out.size; simp; omega) (fun b hb => by have := hrow b hb; omega)))
   clear hown2 hgrow2 hblk2 hrow
   go_wp2_with fail
   go_roundw
   case rel => exact ⟨k + 1, by omega, by go_num, Ho2.out, Hc2.out, Hb2.out⟩
   case measure => simp [intOf]; omega
  obtain rfl : k = kn := by omega
  have g2 : (k : Int) ≤ (k : Int) := Int.le_refl _
  go_wp2_with fail
  refine (s_l04Expr 15 (Nat.le_refl _) Hc.out (by omega) Ho.out upto_bd).mono ?_
  rintro e w3 ⟨v3, os, rfl, ho3, ⟨hl1, hl2⟩, _, hc3, hg3⟩
  obtain ⟨A3, c3, rfl, hmc3, _, hA3⟩ := own_form ho3
  obtain ⟨b3, rfl, hb3, hb3'⟩ := hA3 (by omega)
  obtain ⟨m, hm⟩ : ∃ m, m = os.length := ⟨_, rfl⟩
  rw [← hm] at ho3 hl1 hl2 hmc3 ⊢
  have Hm := Lib.hid hm
  have Ho3 := Lib.hid ho3
  have Hc3 := Lib.hid hc3
  have Hb3 := Lib.hid (below_curL' Hb.out Hc.out hgw hg3)
  have zb := Hb.out.size
  clear hA3 hm ho3 hc3 hg3 Hc2 Hb2 Ho2
  have hl15 : m ≤ 15 := by omega
  go_wp2_with fail
  refine (s_Below 6 Hc3.out).mono ?_
  rintro e w4 ⟨x, rfl, hx, hc4, hg4⟩
  obtain ⟨hx0, hx1⟩ := hx.1 (by omega)
  have Hc4 := Lib.hid hc4
  have Ho4 := Lib.hid (own_grown Ho3.out (by omega) hg4)
  have Hb4 := Lib.hid (below_curL' Hb3.out Hc3.out hgw hg4)
  clear hx hc4 hg4
  by_cases e0 : x = 0
  ·subst e0
   go_wp2_with fail
   refine (s_Below (m : Int) Hc4.out).mono ?_
   rintro e w5 ⟨y, rfl, hy, hc5, hg5⟩
   obtain ⟨hy0, hy1⟩ := hy.1 (by omega)
   obtain ⟨yn, rfl⟩ := Int.eq_ofNat_of_zero_le hy0
   have hyn : yn < m := by omega
   have Hc5 := Lib.hid hc5
   have Ho5 := Lib.hid (own_grown Ho4.out (by omega) hg5)
   have Hb5 := Lib.hid (below_curL' Hb4.out Hc4.out hgw hg5)
   clear hy hc5 hg5
   go_wp2_with fail
   refine (s_Below 15 Hc5.out).mono ?_
   rintro e w6 ⟨pa, rfl, hpa, hc6, hg6⟩
   obtain ⟨pa0, pa1⟩ := hpa.1 (by omega)
   have Hc6 := Lib.hid hc6
   have Ho6 := Lib.hid (own_grown Ho5.out (by omega) hg6)
   have Hb6 := Lib.hid (below_curL' Hb5.out Hc5.out hgw hg6)
   clear hpa hc6 hg6
   go_wp2_with fail
   refine (s_Place 16 (by omega) Hc6.out).mono ?_
   rintro e w7 ⟨pb, rfl, _, hc7, hg7⟩
   have Hc7 := Lib.hid hc7
   have Ho7 := Lib.hid (own_grown Ho6.out (by omega) hg7)
   have Hb7 := Lib.hid (below_curL' Hb6.out Hc6.out hgw hg7)
   clear hc7 hg7
   go_wp2_with fail
   refine (s_Below 6 Hc7.out).mono ?_
   rintro e w8 ⟨pc, rfl, hpc, hc8, hg8⟩
   obtain ⟨pc0, pc1⟩ := hpc.1 (by omega)
   have Ho8 := Lib.hid (own_grown Ho7.out (by omega) hg8)
   have Hb8 := Lib.hid (below_curL' Hb7.out Hc7.out hgw hg8)
   clear hpc hc8 hg8
   have hown2 := Ho8.out
   obtain ⟨z, hz⟩ : ∃ z, os[yn]? = some z := ⟨_, List.getElem?_eq_getElem (by rw [← Hm.out]; exact hyn)⟩
   have hc0 : w8.cell? ⟨b3, yn * 3, none⟩ = _ := hown2.cellAt (yn * 3) (by omega)
   have fz0 := hown2.frozenAt (yn * 3)
   have q0 := recs_get eOp_len 0 (by decide) os yn
   have hc1 : w8.cell? ⟨b3, yn * 3 + 1, none⟩ = _ := hown2.cellAt (yn * 3 + 1) (by omega)
   have fz1 := hown2.frozenAt (yn * 3 + 1)
   have q1 := recs_get eOp_len 1 (by decide) os yn
   have hc2 : w8.cell? ⟨b3, yn * 3 + 2, none⟩ = _ := hown2.cellAt (yn * 3 + 2) (by omega)
   have fz2 := hown2.frozenAt (yn * 3 + 2)
   have q2 := recs_get eOp_len 2 (by decide) os yn
   rw [hz] at q0 q1 q2
   rw [show yn * 3 = yn * 3 + 0 from rfl, q0] at hc0
   rw [q1] at hc1
   rw [q2] at hc2
   simp [eOp] at hc0 hc1 hc2
   have g1 : (yn : Int) < (m : Int) := by omega
   clear hz q0 q1 q2 hown2
   go_wp2_with fail
   go_ret2
   have hs0 := Ho8.out.stored (yn * 3) (.int .i64 (pa - 1))
   have hs1 := hs0.1.stored (yn * 3 + 1) (.int .i64 pb)
   have hs2 := hs1.1.stored (yn * 3 + 2) (.int .i64 (pc - 1))
   rw [eOp_set] at hs2
   exact ⟨_, _, _, os.set yn (pa - 1, pb, pc - 1), k, rfl, Reads.of_own hs2.1, by omega, by omega, ((Hb8.out.setCell (by show w.heap.size ≤ b3; omega) _).setCell (by show w.heap.size ≤ b3; omega) _).setCell (by show w.heap.size ≤ b3; omega) _⟩
  by_cases e1 : x = 1
  ·subst e1
   obtain ⟨i0, hi, hz0, hz1, hz2⟩ := info_parts Try.infOpC
   have z4 := (Ho4.out.lt b3 rfl).2
   go_wp2_with (at_builtin; refine wpList_append_any _ rfl _ _ 69 rfl (wr.heap.size) 74 i0 (.agg #[.int .i64 0, .int .i64 0, .int .i64 0]) 3 24 Try.underlying69 hi hz0 hz1 hz2 rfl (by decide) _ _ _ rfl (Ho4.out.alloc _) _ _ 1 1 _ rfl (reads_new _ _ 1 3 rfl) (by intro u hu; simp at hu; first | (subst hu; rfl) | (rcases hu with rfl | rfl <;> rfl) | (rcases hu with rfl | rfl | rfl <;> rfl)) (by unfold maxLen; omega) (by omega) (by (try simp) <;> (try omega)) ?_; intro v5 w5 hown5 hgrow5 hblk5)
   obtain ⟨A5, c5, rfl, hc5, _, _⟩ := own_form hown5
   have HR := Lib.hid (show Reads w5 w5.heap.size 3 A5 (m + 1) (recs eOp (os ++ [(0, 0, 0)])) by rw [recs_app]; exact Reads.of_own hown5)
   have Hb5 := Lib.hid ((Hb4.out.alloc Hb4.out.size _).trans (below_of_grown hgrow5 (by simp; omega) (fun b hb => by have := (Ho4.out.lt b hb).1; omega)))
   clear hown5 hgrow5 hblk5
   go_wp2_with fail
   go_ret2
   exact ⟨_, _, _, os ++ [(0, 0, 0)], k, rfl, HR.out, by omega, hc5, Hb5.out⟩
  by_cases e2 : x = 2
  ·subst e2
   have g1 : (m : Int) - 1 ≤ (c3 : Int) := by omega
   have g2 : (0 : Int) ≤ (m : Int) - 1 := by omega
   go_wp2_with fail
   go_ret2
   have h1 := (Reads.of_own Ho4.out).head (k := m - 1) (by omega)
   rw [← recs_take eOp_len] at h1
   exact ⟨_, _, _, os.take (m - 1), k, rfl, h1, by omega, by omega, Hb4.out⟩
  by_cases e3 : x = 3
  ·subst e3
   obtain ⟨i0, hi, hz0, hz1, hz2⟩ := info_parts Try.infOpC
   have z4 := (Ho4.out.lt b3 rfl).2
   have z4' := Hb4.out.size
   go_wp2_with fail
   have Hl0 := Lib.hid (show (w4.alloc (.cells #[] 74)).ownsRow (g + 1) 74 3 (.slice (some ⟨w4.heap.size, 0, none⟩) 0 0) 0 (recs eOp []) from World.ownsRow_lit (base := g + 1) (size := 3) (e := 74) w4 #[] 0 (by omega) (by unfold maxLen; omega) rfl)
   have Hbl := Lib.hid (Hb4.out.alloc z4' (.cells #[] 74))
   have Hcl := Lib.hid (Hc4.out.alloc (.cells #[] 74))
   go_loopw [9] (fun lv wl => ∃ (q : Nat) (ls : List TOp), q ≤ 15 ∧ wl.ownsRow (g + 1) 74 3 lv q (recs eOp ls) ∧ Cur w.heap.size g wl ∧ Below w.heap.size w wl) (fun lv _ => 15 - slLn lv)
   case atStart => exact ⟨0, [], by omega, Hl0.out, Hcl.out, Hbl.out⟩
   case round =>
    obtain ⟨q, ls, hq, ho, hc, hb⟩ := hrel
    obtain ⟨Aq, cq, rfl, _, _, _⟩ := own_form ho
    have Hoq := Lib.hid ho
    have Hcq := Lib.hid hc
    have Hbq := Lib.hid hb
    have hgq := hc.lt
    clear ho hc hb
    go_wp2_with fail
    refine (s_Below 2 Hcq.out).mono ?_
    rintro e w5 ⟨y, rfl, hy, hc5, hg5⟩
    obtain ⟨hy0, hy1⟩ := hy.1 (by omega)
    have Hc5 := Lib.hid hc5
    have Ho5 := Lib.hid (own_grown Hoq.out (by omega) hg5)
    have Hb5 := Lib.hid (below_curL' Hbq.out Hcq.out hgw hg5)
    have z5 := hg5.size
    have hg5' := hc5.lt
    clear hy hc5 hg5
    by_cases hlt : (q : Int) < 14 + y
    ·have z6 : g + 1 ≤ w5.heap.size := by omega
     go_wp2_with (at_builtin; refine wpList_append_any _ rfl _ _ 69 rfl (g + 1) 74 i0 (.agg #[.int .i64 0, .int .i64 0, .int .i64 0]) 3 24 Try.underlying69 hi hz0 hz1 hz2 rfl (by decide) _ _ _ rfl (Ho5.out.alloc _) _ _ 1 1 _ rfl (reads_new _ _ 1 3 rfl) (by intro u hu; simp at hu; first | (subst hu; rfl) | (rcases hu with rfl | rfl <;> rfl) | (rcases hu with rfl | rfl | rfl <;> rfl)) (by unfold maxLen; omega) (by omega) (by (try simp) <;> (try omega)) ?_; intro v6 w6 hown6 hgrow6 hblk6)
     have hrow : ∀ b, (Value.slice Aq q cq).ownBlock = some b → g + 1 ≤ b := fun b hb => (Ho5.out.lt b hb).1
     have Ho6 := Lib.hid (show w6.ownsRow (g + 1) 74 3 v6 (q + 1) (recs eOp (ls ++ [(4, 0, 0)])) by rw [recs_app]; exact hown6)
     have Hc6 := Lib.hid ((Hc5.out.alloc _).grown hgrow6 (fun b hb => by have := hrow b hb; omega))
     have Hb6 := Lib.hid ((Hb5.out.alloc Hb5.out.size _).trans (below_of_grown hgrow6 (by have := Hb5.out.size; simp; omega) (fun b hb => by have := hrow b hb; omega)))
     have hsl : slLn v6 = q + 1 := by obtain ⟨_, _, rfl, _⟩ := own_form hown6; rfl
     have Hsl := Lib.hid hsl
     clear hown6 hgrow6 hblk6 hrow hsl
     go_wp2_with fail
     go_roundw
     case rel => exact ⟨q + 1, ls ++ [(4, 0, 0)], by omega, Ho6.out, Hc6.out, Hb6.out⟩
     case measure => rw [Hsl.out]; show 15 - (q + 1) < 15 - q; omega
    have hge : 14 + y ≤ (q : Int) := by omega
    have z6 : g + 1 ≤ w5.heap.size := by omega
    go_wp2_with (at_builtin; refine wpList_append_any _ rfl _ _ 69 rfl (g + 1) 74 i0 (.agg #[.int .i64 0, .int .i64 0, .int .i64 0]) 3 24 Try.underlying69 hi hz0 hz1 hz2 rfl (by decide) _ _ _ rfl (Ho5.out.alloc _) _ _ 1 1 _ rfl (reads_new _ _ 1 3 rfl) (by intro u hu; simp at hu; first | (subst hu; rfl) | (rcases hu with rfl | rfl <;> rfl) | (rcases hu with rfl | rfl | rfl <;> rfl)) (by unfold maxLen; omega) (by omega) (by (try simp) <;> (try omega)) ?_; intro v6 w6 hown6 hgrow6 hblk6)
    obtain ⟨A6, c6, rfl, hc6, _, _⟩ := own_form hown6
    have HR := Lib.hid (show Reads w6 w6.heap.size 3 A6 (q + 1) (recs eOp (ls ++ [(0, 0, 0)])) by rw [recs_app]; exact Reads.of_own hown6)
    have Hb6 := Lib.hid ((Hb5.out.alloc Hb5.out.size _).trans (below_of_grown hgrow6 (by have := Hb5.out.size; simp; omega) (fun b hb => by have := (Ho5.out.lt b hb).1; omega)))
    clear hown6 hgrow6 hblk6
    go_wp2_with fail
    go_ret2
    exact ⟨_, _, _, ls ++ [(0, 0, 0)], k, rfl, HR.out, by omega, hc6, Hb6.out⟩
  go_wp2_with fail
  go_ret2
  exact ⟨_, _, _, os, k, rfl, Reads.of_own Ho4.out, by omega, by omega, Hb4.out⟩
end Go.Proofs.Ytlkjdhjeecogjaa

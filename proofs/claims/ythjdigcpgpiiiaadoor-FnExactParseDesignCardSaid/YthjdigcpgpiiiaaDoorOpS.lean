/- Contracts: lists of Op in the laws: the size, the copy, equality, marks. -/
import Derived.Test.YthjdigcpgpiiiaaDoorGa
import Derived.Outline
namespace Go.Proofs.YthjdigcpgpiiiaaDoor
open Go.RowKit

def eOp (x : Int × Int × Int) : List Int := [x.1, x.2.1, x.2.2]
theorem eOp_len (x : Int × Int × Int) : (eOp x).length = 3 := rfl
theorem Reads.atOp {w : World} {B n : Nat} {A : Option Addr} {l : List (Int × Int × Int)} (h : Reads w B 3 A n (recs eOp l)) {k : Nat} (hk : k < n) :
  ∃ (ad : Addr) (c0 c1 c2 : Int), A = some ad ∧ ad.block < B ∧ l[k]? = some (c0, c1, c2) ∧ w.cell? (ad.add (k * 3)) = some (.int .i64 c0) ∧ w.cell? (nxt (ad.add (k * 3)) 1) = some (.int .i64 c1) ∧ w.cell? (nxt (ad.add (k * 3)) 2) = some (.int .i64 c2) := by
 obtain ⟨ad, x, rfl, hb, hx, hc⟩ := Reads.rec_at eOp_len (by decide) h hk
 exact ⟨ad, x.1, x.2.1, x.2.2, rfl, hb, hx, hc 0 x.1 rfl, by rw [nxt_add _ _ (by decide)]; exact hc 1 (x.2.1) rfl, by rw [nxt_add _ _ (by decide)]; exact hc 2 (x.2.2) rfl⟩
theorem eOp_clen {w : World} {B n : Nat} {A : Option Addr} {l : List (Int × Int × Int)} (h : Reads w B 3 A n (recs eOp l)) : l.length = n := Reads.rlen eOp_len (by decide) h
theorem eOp_set : ∀ (l : List (Int × Int × Int)) (k : Nat) (b0 b1 b2 : Int), (((recs eOp l).set (k * 3) (.int .i64 b0)).set (k * 3 + 1) (.int .i64 b1)).set (k * 3 + 2) (.int .i64 b2) = recs eOp (l.set k (b0, b1, b2))
 | [], k, b0, b1, b2 => by simp [recs]
 | (a0, a1, a2) :: l, 0, b0, b1, b2 => by simp [recs, eOp]
 | (a0, a1, a2) :: l, k + 1, b0, b1, b2 => by
  have ih := eOp_set l k b0 b1 b2
  have e0 : recs eOp ((a0, a1, a2) :: l) = .int .i64 a0 :: .int .i64 a1 :: .int .i64 a2 :: recs eOp l := rfl
  rw [e0, show (k + 1) * 3 + 2 = (k * 3 + 2) + 1 + 1 + 1 by omega, show (k + 1) * 3 + 1 = (k * 3 + 1) + 1 + 1 + 1 by omega, show (k + 1) * 3 = (k * 3) + 1 + 1 + 1 by omega]
  simp only [List.set_cons_succ, ih]
  rfl
theorem Tryd.infoOp : (Tryd.prog.info? 73).map (fun i => (i.zero, i.size, i.bytes)) = some (some (.agg #[.int .i64 0, .int .i64 0, .int .i64 0]), 3, 24) := by kernel_rfl
/-- a list in memory of the call's own -/
def OwnOp (l : List (Int × Int × Int)) (w : World) (e : Ending) (w' : World) : Prop :=
 ∃ A c, e = .returned (.slice A l.length c) ∧ w'.ownsRow w.heap.size 73 3 (.slice A l.length c) l.length (recs eOp l) ∧ Below w.heap.size w w'

theorem l_eqOp (a0 a1 a2 : Int) (w : World) : Calls Tryd.prog 112 #[.agg #[.int .i64 a0, .int .i64 a1, .int .i64 a2], .agg #[.int .i64 a0, .int .i64 a1, .int .i64 a2]] w fun e w' => e = .returned (.bool true) ∧ Below w.heap.size w w' := by
 go_enter Tryd.func112, Tryd.ntmps112
 go_wp2
 go_ret
 exact ⟨rfl, bel_⟩

set_option maxRecDepth 100000 in
set_option maxHeartbeats 1000000 in
theorem l_eqOpS {w : World} {B B' : Nat} {A A' : Option Addr} {n c c' : Nat} {l : List (Int × Int × Int)} (hn : n ≤ 1099511627776) (h : Reads w B 3 A n (recs eOp l)) (h' : Reads w B' 3 A' n (recs eOp l)) (hB : B ≤ w.heap.size) (hB' : B' ≤ w.heap.size) :
  Calls Tryd.prog 110 #[.slice A n c, .slice A' n c'] w fun e w' => e = .returned (.bool true) ∧ Below w.heap.size w w' := by
 go_enter Tryd.func110, Tryd.ntmps110
 go_wp2
 go_loopw [5] (fun i wr => ∃ k : Nat, k ≤ n ∧ i = .int .i64 k ∧ Below w.heap.size w wr) (fun i _ => n - (intOf i).toNat)
 case atStart => exact ⟨0, Nat.zero_le _, rfl, Below.refl _ _⟩
 case round =>
  obtain ⟨k, hk, rfl, hb⟩ := hrel
  have Hb := Lib.hid hb
  have hsz := hb.size
  clear hb
  by_cases hlt : k < n
  ·obtain ⟨ad, c0, c1, c2, rfl, hab, hx, hc0, hc1, hc2⟩ := h.atOp hlt
   obtain ⟨ad', d0, d1, d2, rfl, hab', hx', hd0, hd1, hd2⟩ := h'.atOp hlt
   rw [hx] at hx'
   injection hx' with hx'
   simp only [Prod.mk.injEq] at hx'
   obtain ⟨rfl, rfl, rfl⟩ := hx'
   clear hx

   have e0 := (Hb.out.cell (p := (ad.add (k * 3))) (by rw [block_of_add]; omega)).trans hc0
   have f0 := (Hb.out.cell (p := (ad'.add (k * 3))) (by rw [block_of_add]; omega)).trans hd0
   have e1 := (Hb.out.cell (p := (nxt (ad.add (k * 3)) 1)) (by rw [nxt_block]; omega)).trans hc1
   have f1 := (Hb.out.cell (p := (nxt (ad'.add (k * 3)) 1)) (by rw [nxt_block]; omega)).trans hd1
   have e2 := (Hb.out.cell (p := (nxt (ad.add (k * 3)) 2)) (by rw [nxt_block]; omega)).trans hc2
   have f2 := (Hb.out.cell (p := (nxt (ad'.add (k * 3)) 2)) (by rw [nxt_block]; omega)).trans hd2
   clear hc0 hc1 hc2 hd0 hd1 hd2
   have g1 : (0 : Int) ≤ (k : Int) := by omega
   have g2 : (k : Int) < (n : Int) := by omega
   go_wp2_with fail
   refine wp_region_lexC (by kernel_rfl) (by kernel_rfl) (fun x => Below wr.heap.size wr x) ((Below.refl _ _).drew) (fun lexNE => ?_)
   have r0 := fun W : Wd (fun x => Below wr.heap.size wr x) => (W.ok.cell (p := (ad.add (k * 3))) (by rw [block_of_add]; omega)).trans e0
   have s0 := fun W : Wd (fun x => Below wr.heap.size wr x) => (W.ok.cell (p := (ad'.add (k * 3))) (by rw [block_of_add]; omega)).trans f0
   have r1 := fun W : Wd (fun x => Below wr.heap.size wr x) => (W.ok.cell (p := (nxt (ad.add (k * 3)) 1)) (by rw [nxt_block]; omega)).trans e1
   have s1 := fun W : Wd (fun x => Below wr.heap.size wr x) => (W.ok.cell (p := (nxt (ad'.add (k * 3)) 1)) (by rw [nxt_block]; omega)).trans f1
   have r2 := fun W : Wd (fun x => Below wr.heap.size wr x) => (W.ok.cell (p := (nxt (ad.add (k * 3)) 2)) (by rw [nxt_block]; omega)).trans e2
   have s2 := fun W : Wd (fun x => Below wr.heap.size wr x) => (W.ok.cell (p := (nxt (ad'.add (k * 3)) 2)) (by rw [nxt_block]; omega)).trans f2
   (repeat (first | (refine lex_r fun K hK => ?_; go_big_quiet_op; refine hK _ ?_; clear hK K) | (refine lex_k fun K hK => ?_; go_simp; refine hK _ ?_; clear hK K)))
   (refine lex_e fun K hK => ?_; go_big_op)
   refine (l_eqOp _ _ _ _).mono ?_
   rintro e w6 ⟨rfl, hb6⟩
   have Hb6 := Lib.hid (Hb.out.drew.trans (hb6.mono hsz))
   refine hK _ _ (Cls.mk' ((Below.refl wr.heap.size wr).drew.trans hb6)) ?_
   clear hK K
   (repeat (first | (refine lex_r fun K hK => ?_; go_big_quiet_op; refine hK _ ?_; clear hK K) | (refine lex_k fun K hK => ?_; go_simp; refine hK _ ?_; clear hK K)))
   (refine lex_nil ?_)
   clear lexNE r0 r1 r2 s0 s1 s2
   go_wp2_with fail
   go_roundw
   case rel => exact ⟨k + 1, by omega, by go_num, Hb6.out⟩
   case measure => simp [intOf]; omega
  ·have hke : k = n := by omega
   subst hke
   go_wp2_with fail
   go_ret
   exact ⟨rfl, Hb.out⟩

theorem madeOp (n : Nat) : (madeCells #[.int .i64 0, .int .i64 0, .int .i64 0] (n * 3)).toList = recs eOp (List.replicate n (0, 0, 0)) := by
 apply List.ext_getElem?
 intro j
 by_cases hj : j < n * 3
 ·have hj2 : j = j / 3 * 3 + j % 3 := by omega
  have hg := recs_get eOp_len (j % 3) (by omega) (List.replicate n ((0, 0, 0) : Int × Int × Int)) (j / 3)
  rw [← hj2] at hg
  rw [hg, List.getElem?_replicate, if_pos (by omega)]
  have hm : j % 3 = 0 ∨ j % 3 = 1 ∨ j % 3 = 2 := by omega
  rcases hm with h | h | h <;> simp [madeCells, hj, h, eOp]
 ·rw [List.getElem?_eq_none (by simp [madeCells]; omega), List.getElem?_eq_none (by rw [recs_len eOp_len]; simp; omega)]
theorem ownOp {w : World} {n : Nat} (hn : n ≤ maxLen) : (w.alloc (.cells (madeCells #[.int .i64 0, .int .i64 0, .int .i64 0] (n * 3)) 73)).ownsRow w.heap.size 73 3 (.slice (some ⟨w.heap.size, 0, none⟩) n n) n (recs eOp (List.replicate n (0, 0, 0))) :=
 ⟨by rw [recs_len eOp_len]; simp, .inr ⟨w.heap.size, n, madeCells #[.int .i64 0, .int .i64 0, .int .i64 0] (n * 3), rfl, Nat.le_refl _, heap_alloc_new w _, Nat.le_refl _, hn, by simp [size_madeCells], by rw [madeOp, List.take_of_length_le]; rw [recs_len eOp_len]; simp⟩⟩
theorem set_takeOp {α : Type} {l m : List α} {k : Nat} {x : α} (h : l.take k = m.take k) (hl : k < l.length) (hm : m[k]? = some x) : (l.set k x).take (k + 1) = m.take (k + 1) := by
 rw [List.take_add_one, List.take_add_one, List.take_set_of_le (Nat.le_refl _), h, hm, List.getElem?_set_self hl]

end Go.Proofs.YthjdigcpgpiiiaaDoor

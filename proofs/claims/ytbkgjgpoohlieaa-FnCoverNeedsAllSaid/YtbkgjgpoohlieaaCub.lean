/- Contracts: lists of cubes in the laws: the copy, the size, equality, marks, whether the marks are held. -/
import Derived.Test.YtbkgjgpoohlieaaRec
import Derived.Test.YtbkgjgpoohlieaaCubW
import Derived.Outline
namespace Go.Proofs.Ytbkgjgpoohlieaa
open Go.RowKit

theorem l_eqCube (a b c d : Int) (w : World) : Calls Try.prog 64 #[.agg #[.int .i64 a, .int .i64 b], .agg #[.int .i64 c, .int .i64 d]] w fun e w' => e = .returned (.bool (decide ((a, b) = (c, d)))) ∧ Below w.heap.size w w' := by
 by_cases h : a = c
 ·by_cases h2 : b = d
  ·subst h h2
   go_enter Try.func64, Try.ntmps64
   go_wp2
   go_ret
   exact ⟨ret_bool (by simp), bel_⟩
  ·subst h
   have hne : (b != d) = true := by simpa using h2
   go_enter Try.func64, Try.ntmps64
   go_wp2
   go_ret
   exact ⟨ret_bool (by simp [h2]), bel_⟩
 ·have hne : (a != c) = true := by simpa using h
  go_enter Try.func64, Try.ntmps64
  go_wp2
  go_ret
  exact ⟨ret_bool (by simp [h]), bel_⟩

theorem l_szCubeS (A : Option Addr) (n c : Nat) (left : Nat) (h1 : left ≤ 1048576) (hn : n ≤ maxLen) (w : World) : Calls Try.prog 30 #[.slice A n c, .int .i64 left] w fun e w' => e = .returned (.int .i64 (if n ≤ left then (left : Int) - n else -1)) ∧ w = w' := by
 unfold maxLen at hn
 by_cases h : n ≤ left
 ·rw [if_pos h]
  go_enter Try.func30, Try.ntmps30
  go_wp2
  go_ret
  exact ⟨rfl, rfl⟩
 ·rw [if_neg h]
  have h2 : (left : Int) < n := by omega
  go_enter Try.func30, Try.ntmps30
  go_wp2
  go_ret
  exact ⟨rfl, rfl⟩

set_option maxRecDepth 100000 in
set_option maxHeartbeats 1000000 in
theorem l_eqCubeS {w : World} {B B' : Nat} {A A' : Option Addr} {n m c c' : Nat} {l l' : List (Int × Int)} (hn : n ≤ 1099511627776) (hm : m ≤ 1099511627776) (h : Reads w B 2 A n (cbs l)) (h' : Reads w B' 2 A' m (cbs l')) (hB : B ≤ w.heap.size) (hB' : B' ≤ w.heap.size) :
  Calls Try.prog 34 #[.slice A n c, .slice A' m c'] w fun e w' => e = .returned (.bool (decide (l = l'))) ∧ Below w.heap.size w w' := by
 have hl := h.clen
 have hl' := h'.clen
 by_cases hnm : n = m
 ·subst hnm
  have Hl := Lib.hid hl
  have Hl' := Lib.hid hl'
  clear hl hl'
  go_enter Try.func34, Try.ntmps34
  go_wp2
  go_loopw [5] (fun i wr => ∃ k : Nat, k ≤ n ∧ i = .int .i64 k ∧ l.take k = l'.take k ∧ Below w.heap.size w wr) (fun i _ => n - (intOf i).toNat)
  case atStart => exact ⟨0, Nat.zero_le _, rfl, rfl, Below.refl _ _⟩
  case round =>
   obtain ⟨k, hk, rfl, heq, hb⟩ := hrel
   have Heq := Lib.hid heq
   have Hb := Lib.hid hb
   have hsz := hb.size
   clear heq hb
   by_cases hlt : k < n
   ·obtain ⟨ad, x, y, rfl, hab, hx, hc0, hc1⟩ := h.cube_at hlt
    obtain ⟨ad', x', y', rfl, hab', hx', hc0', hc1'⟩ := h'.cube_at hlt
    have Hx := Lib.hid hx
    have Hx' := Lib.hid hx'
    have e0 := (Hb.out.cell (p := ad.add (k * 2)) (by rw [block_of_add]; omega)).trans hc0
    have e1 := (Hb.out.cell (p := nxt (ad.add (k * 2)) 1) (by rw [nxt_block]; omega)).trans hc1
    have e2 := (Hb.out.cell (p := ad'.add (k * 2)) (by rw [block_of_add]; omega)).trans hc0'
    have e3 := (Hb.out.cell (p := nxt (ad'.add (k * 2)) 1) (by rw [nxt_block]; omega)).trans hc1'
    clear hc0 hc1 hc0' hc1' hx hx'
    have g1 : (0 : Int) ≤ (k : Int) := by omega
    have g2 : (k : Int) < (n : Int) := by omega
    go_wp2_with fail
    refine wp_region_lexC (by kernel_rfl) (by kernel_rfl) (fun x => Below wr.heap.size wr x) ((Below.refl _ _).drew) (fun lexNE => ?_)
    have r0 := fun W : Wd (fun x => Below wr.heap.size wr x) => (W.ok.cell (p := ad.add (k * 2)) (by rw [block_of_add]; omega)).trans e0
    have r1 := fun W : Wd (fun x => Below wr.heap.size wr x) => (W.ok.cell (p := nxt (ad.add (k * 2)) 1) (by rw [nxt_block]; omega)).trans e1
    have r2 := fun W : Wd (fun x => Below wr.heap.size wr x) => (W.ok.cell (p := ad'.add (k * 2)) (by rw [block_of_add]; omega)).trans e2
    have r3 := fun W : Wd (fun x => Below wr.heap.size wr x) => (W.ok.cell (p := nxt (ad'.add (k * 2)) 1) (by rw [nxt_block]; omega)).trans e3
    (repeat (first | (refine lex_r fun K hK => ?_; go_big_quiet_op; refine hK _ ?_; clear hK K) | (refine lex_k fun K hK => ?_; go_simp; refine hK _ ?_; clear hK K)))
    (refine lex_e fun K hK => ?_; go_big_op)
    refine (l_eqCube _ _ _ _ _).mono ?_
    rintro e w6 ⟨rfl, hb6⟩
    have Hb6 := Lib.hid (Hb.out.drew.trans (hb6.mono hsz))
    refine hK _ _ (Cls.mk' ((Below.refl wr.heap.size wr).drew.trans hb6)) ?_
    clear hK K
    by_cases hxx : (x, y) = (x', y')
    ·have hd : decide ((x, y) = (x', y')) = true := decide_eq_true hxx
     rw [hd]
     have Hxx := Lib.hid hxx
     clear hxx hd
     (repeat (first | (refine lex_r fun K hK => ?_; go_big_quiet_op; refine hK _ ?_; clear hK K) | (refine lex_k fun K hK => ?_; go_simp; refine hK _ ?_; clear hK K)))
     (refine lex_nil ?_)
     clear lexNE r0 r1 r2 r3
     go_wp2_with fail
     go_roundw
     case rel =>
      refine ⟨k + 1, by omega, by go_num, ?_, Hb6.out⟩
      rw [List.take_add_one, List.take_add_one, Heq.out, Hx.out, Hx'.out, Hxx.out]
     case measure => simp [intOf]; omega
    ·have hd : decide ((x, y) = (x', y')) = false := decide_eq_false hxx
     rw [hd]
     have Hxx := Lib.hid hxx
     clear hxx hd
     (repeat (first | (refine lex_r fun K hK => ?_; go_big_quiet_op; refine hK _ ?_; clear hK K) | (refine lex_k fun K hK => ?_; go_simp; refine hK _ ?_; clear hK K)))
     (refine lex_nil ?_)
     clear lexNE r0 r1 r2 r3
     go_wp2_with fail
     go_ret
     refine ⟨ret_bool ?_, Hb6.out⟩
     have : l ≠ l' := by
      rintro rfl
      have h1 := Hx.out
      rw [Hx'.out] at h1
      injection h1 with h1
      exact Hxx.out h1.symm
     simp [this]
   ·have hke : k = n := by omega
    subst hke
    go_wp2_with fail
    go_ret
    refine ⟨ret_bool ?_, Hb.out⟩
    have h1 := Heq.out
    have h2 := Hl.out
    have h3 := Hl'.out
    rw [List.take_of_length_le (by omega), List.take_of_length_le (by omega)] at h1
    simp [h1]
 ·have hne : ((n : Int) != (m : Int)) = true := by simp; omega
  have hll : l ≠ l' := by rintro rfl; omega
  have Hll := Lib.hid hll
  clear hl hl' hll
  go_enter Try.func34, Try.ntmps34
  go_wp2
  go_ret
  exact ⟨ret_bool (by simp [Hll.out]), Below.refl _ _⟩

/-! ### marks -/
def cmarks (k : Int) (n : Nat) : List (Int × Int) := (List.range n).map fun i => (k + 2 * ((i : Nat) : Int), k + 2 * ((i : Nat) : Int) + 1)
theorem cmarks_len (k : Int) (n : Nat) : (cmarks k n).length = n := by simp [cmarks]
theorem cmarks_get {k : Int} {n i : Nat} (h : i < n) : (cmarks k n)[i]? = some (k + 2 * (i : Int), k + 2 * (i : Int) + 1) := by
 simp [cmarks, List.getElem?_range h]
/-- the first i marked, the others as they were -/
def cpart (k : Int) (i : Nat) (l : List (Int × Int)) : List (Int × Int) := cmarks k i ++ l.drop i
theorem cpart_zero (k : Int) (l : List (Int × Int)) : cpart k 0 l = l := by simp [cpart, cmarks]
theorem cpart_all {k : Int} {l : List (Int × Int)} {n : Nat} (h : l.length = n) : cpart k n l = cmarks k n := by simp [cpart, ← h]
theorem cpart_succ {k : Int} {i : Nat} {l : List (Int × Int)} (h : i < l.length) : (cpart k i l).set i (k + 2 * (i : Int), k + 2 * (i : Int) + 1) = cpart k (i + 1) l := by
 unfold cpart
 rw [List.set_append_right _ _ (by rw [cmarks_len]; exact Nat.le_refl _), cmarks_len, Nat.sub_self, List.drop_eq_getElem_cons h, List.set_cons_zero]
 unfold cmarks
 rw [List.range_succ, List.map_append, List.append_assoc]
 rfl
theorem cbs_set : ∀ (l : List (Int × Int)) (i : Nat) (a b : Int), ((cbs l).set (i * 2) (.int .i64 a)).set (i * 2 + 1) (.int .i64 b) = cbs (l.set i (a, b))
 | [], i, a, b => by simp [cbs, recs]
 | (x, y) :: l, 0, a, b => by simp [cbs, recs, cbE]
 | (x, y) :: l, i + 1, a, b => by
  have ih := cbs_set l i a b
  have e : cbs ((x, y) :: l) = .int .i64 x :: .int .i64 y :: cbs l := rfl
  rw [e, show (i + 1) * 2 = i * 2 + 1 + 1 by omega, show i * 2 + 1 + 1 + 1 = (i * 2 + 1) + 1 + 1 by omega]
  simp only [List.set_cons_succ, ih]
  rfl

set_option maxRecDepth 100000 in
set_option maxHeartbeats 1000000 in
theorem l_markCubeS {w : World} {base : Nat} {A : Option Addr} {n c : Nat} {l : List (Int × Int)} (k0 : Int) (hk0 : 0 ≤ k0) (hk1 : k0 ≤ 1099511627776) (hn : n ≤ 1099511627776) (h : w.ownsRow base 61 2 (.slice A n c) n (cbs l)) :
  Calls Try.prog 41 #[.slice A n c, .int .i64 k0] w fun e w' => e = .returned (.int .i64 (k0 + 2 * n)) ∧ w'.ownsRow base 61 2 (.slice A n c) n (cbs (cmarks k0 n)) ∧ w.grownBy w' (Value.slice A n c).ownBlock := by
 have hl : l.length = n := by have := h.1; rw [cbs_len] at this; omega
 have H := Lib.hid h
 have Hl := Lib.hid hl
 clear h hl
 go_enter Try.func41, Try.ntmps41
 go_wp2
 go_loopw [1, 5] (fun kv i wr => ∃ k : Nat, k ≤ n ∧ i = .int .i64 k ∧ kv = .int .i64 (k0 + 2 * k) ∧ wr.ownsRow base 61 2 (.slice A n c) n (cbs (cpart k0 k l)) ∧ w.grownBy wr (Value.slice A n c).ownBlock) (fun _ i _ => n - (intOf i).toNat)
 case atStart => exact ⟨0, Nat.zero_le _, rfl, by simp, by rw [cpart_zero]; exact H.out, World.grownBy.refl _ _⟩
 case round =>
  obtain ⟨k, hk, rfl, rfl, hown, hg⟩ := hrel
  have Hown := Lib.hid hown
  have Hg := Lib.hid hg
  by_cases hlt : k < n
  ·obtain ⟨A', c', hv, _, _, hA⟩ := own_form hown
   injection hv with hv1 hv2 hv3
   subst hv1 hv3
   obtain ⟨g, rfl, hgb, hgl⟩ := hA (by omega)
   have hc0 : wr.cell? ⟨g, k * 2, none⟩ = _ := hown.cellAt (k * 2) (by omega)
   have hc1 : wr.cell? ⟨g, k * 2 + 1, none⟩ = _ := hown.cellAt (k * 2 + 1) (by omega)
   have f0 := hown.frozenAt (k * 2)
   have f1 := hown.frozenAt (k * 2 + 1)
   obtain ⟨x, hx⟩ : ∃ x, (cpart k0 k l)[k]? = some x := ⟨_, List.getElem?_eq_getElem (by rw [cpart, List.length_append, cmarks_len, List.length_drop]; have := Hl.out; omega)⟩
   have q0 := recs_get cbE_len 0 (by decide) (cpart k0 k l) k
   have q1 := recs_get cbE_len 1 (by decide) (cpart k0 k l) k
   rw [hx] at q0 q1
   rw [show cbs (cpart k0 k l) = recs cbE (cpart k0 k l) from rfl, show k * 2 = k * 2 + 0 from rfl, q0] at hc0
   rw [show cbs (cpart k0 k l) = recs cbE (cpart k0 k l) from rfl, q1] at hc1
   simp [cbE] at hc0 hc1
   have g1 : (0 : Int) ≤ (k : Int) := by omega
   have g2 : (k : Int) < (n : Int) := by omega
   clear hx hown hg q0 q1
   go_wp2_with fail
   go_roundw
   case rel =>
    have hs := Hown.out.stored (k * 2) (.int .i64 (k0 + 2 * (k : Int)))
    have hs2 := hs.1.stored (k * 2 + 1) (.int .i64 (k0 + 2 * (k : Int) + 1))
    refine ⟨k + 1, by omega, by go_num, by go_num, ?_, (Hg.out.trans hs.2).trans hs2.2⟩
    have e : ((cbs (cpart k0 k l)).set (k * 2) (.int .i64 (k0 + 2 * (k : Int)))).set (k * 2 + 1) (.int .i64 (k0 + 2 * (k : Int) + 1)) = cbs (cpart k0 (k + 1) l) := by
     rw [cbs_set, cpart_succ (by have := Hl.out; omega)]
    rw [← e]
    exact hs2.1
   case measure => simp [intOf]; omega
  ·have hke : k = n := by omega
   subst hke
   go_wp2_with fail
   go_ret
   exact ⟨rfl, by rw [← cpart_all Hl.out]; exact Hown.out, Hg.out⟩

set_option maxRecDepth 100000 in
set_option maxHeartbeats 1000000 in
theorem l_heldCubeS {w : World} {B : Nat} {A : Option Addr} {n c : Nat} (k0 : Int) (hk0 : 0 ≤ k0) (hk1 : k0 ≤ 1099511627776) (hn : n ≤ 1099511627776) (h : Reads w B 2 A n (cbs (cmarks k0 n))) (_hB : B ≤ w.heap.size) :
  Calls Try.prog 42 #[.slice A n c, .int .i64 k0] w fun e w' => e = .returned (.int .i64 (k0 + 2 * n)) ∧ w = w' := by
 go_enter Try.func42, Try.ntmps42
 go_wp2
 go_loop [1, 5] (fun kv i => ∃ k : Nat, k ≤ n ∧ i = .int .i64 k ∧ kv = .int .i64 (k0 + 2 * k)) (fun _ i => n - (intOf i).toNat)
 case atStart => exact ⟨0, Nat.zero_le _, rfl, by simp⟩
 case round =>
  obtain ⟨k, hk, rfl, rfl⟩ := hrel
  by_cases hlt : k < n
  ·obtain ⟨ad, x, y, rfl, hab, hx, hc0, hc1⟩ := h.cube_at hlt
   rw [cmarks_get hlt] at hx
   injection hx with hx
   injection hx with hx hy
   subst hx hy
   have g1 : (0 : Int) ≤ (k : Int) := by omega
   have g2 : (k : Int) < (n : Int) := by omega
   clear h
   go_wp2_with fail
   go_round
   case rel => exact ⟨k + 1, by omega, by go_num, by go_num⟩
   case measure => simp [intOf]; omega
  ·have hke : k = n := by omega
   subst hke
   go_wp2_with fail
   go_ret
   exact ⟨rfl, rfl⟩

/-! ### the copy -/
/-- a list of cubes in memory of the call's own -/
def OwnCubes (l : List (Int × Int)) (w : World) (e : Ending) (w' : World) : Prop :=
 ∃ A c, e = .returned (.slice A l.length c) ∧ w'.ownsRow w.heap.size 61 2 (.slice A l.length c) l.length (cbs l) ∧ Below w.heap.size w w'
theorem Try.infoCube : (Try.prog.info? 61).map (fun i => (i.zero, i.size, i.bytes)) = some (some (.agg #[.int .i64 0, .int .i64 0]), 2, 16) := by kernel_rfl
theorem made_cubes (n : Nat) : (madeCells #[.int .i64 0, .int .i64 0] (n * 2)).toList = cbs (List.replicate n (0, 0)) := by
 apply List.ext_getElem?
 intro j
 by_cases hj : j < n * 2
 ·have hj2 : j = j / 2 * 2 + j % 2 := by omega
  have hg := recs_get cbE_len (j % 2) (by omega) (List.replicate n ((0 : Int), (0 : Int))) (j / 2)
  rw [← hj2] at hg
  rw [show cbs (List.replicate n ((0 : Int), (0 : Int))) = recs cbE (List.replicate n ((0 : Int), (0 : Int))) from rfl, hg, List.getElem?_replicate, if_pos (by omega)]
  rcases Nat.mod_two_eq_zero_or_one j with h | h <;> simp [madeCells, hj, h, cbE]
 ·rw [List.getElem?_eq_none (by simp [madeCells]; omega), List.getElem?_eq_none (by rw [cbs_len]; simp; omega)]
theorem own_cubes {w : World} {n : Nat} (hn : n ≤ maxLen) : (w.alloc (.cells (madeCells #[.int .i64 0, .int .i64 0] (n * 2)) 61)).ownsRow w.heap.size 61 2 (.slice (some ⟨w.heap.size, 0, none⟩) n n) n (cbs (List.replicate n (0, 0))) :=
 ⟨by rw [cbs_len]; simp, .inr ⟨w.heap.size, n, madeCells #[.int .i64 0, .int .i64 0] (n * 2), rfl, Nat.le_refl _, heap_alloc_new w _, Nat.le_refl _, hn, by simp [size_madeCells], by rw [made_cubes, List.take_of_length_le]; rw [cbs_len]; simp⟩⟩
theorem set_take {α : Type} {l m : List α} {k : Nat} {x : α} (h : l.take k = m.take k) (hl : k < l.length) (hm : m[k]? = some x) : (l.set k x).take (k + 1) = m.take (k + 1) := by
 rw [List.take_add_one, List.take_add_one, List.take_set_of_le (Nat.le_refl _), h, hm, List.getElem?_set_self hl]

set_option maxRecDepth 100000 in
set_option maxHeartbeats 4000000 in
theorem l_toCubeS {w : World} {B : Nat} {A : Option Addr} {n c : Nat} {l : List (Int × Int)} (hn : n ≤ 1048576) (h : Reads w B 2 A n (cbs l)) (hB : B ≤ w.heap.size) : Calls Try.prog 32 #[.slice A n c] w (OwnCubes l w) := by
 obtain ⟨i0, hi, hz0, hz1, hz2⟩ := info_parts Try.infoCube
 have hl := h.clen
 have hmk := run_make_rowN (P := Try.prog) 49 61 i0 (.agg #[.int .i64 0, .int .i64 0]) Try.underlying49 hi hz0 .i64 .i64 n n (Nat.le_refl _) (by rw [hz2]; omega) (by omega) w
 rw [hz1] at hmk
 have hcs : (Value.agg #[.int .i64 0, .int .i64 0]).cells = #[.int .i64 0, .int .i64 0] := rfl
 rw [hcs] at hmk
 have Hmo := Lib.hid (own_cubes (w := w) (n := n) (by unfold maxLen; omega))
 have Hl := Lib.hid hl
 clear hl hcs hz0 hz1 hz2 hi
 go_enter Try.func32, Try.ntmps32
 go_wp2_with fail
 go_loopw [4] (fun i wr => ∃ (k : Nat) (l' : List (Int × Int)), k ≤ n ∧ l'.length = n ∧ i = .int .i64 k ∧ l'.take k = l.take k ∧ wr.ownsRow w.heap.size 61 2 (.slice (some ⟨w.heap.size, 0, none⟩) n n) n (cbs l') ∧ Below w.heap.size w wr) (fun i _ => n - (intOf i).toNat)
 case atStart => exact ⟨0, List.replicate n (0, 0), Nat.zero_le _, by simp, rfl, rfl, Hmo.out, bel_⟩
 case round =>
  obtain ⟨k, l', hk, hl', rfl, ht, hown, hb⟩ := hrel
  have Hb := Lib.hid hb
  have Hown := Lib.hid hown
  have Hl' := Lib.hid hl'
  have Ht := Lib.hid ht
  have hsz := hb.size
  clear hl' ht hmk
  by_cases hlt : k < n
  ·obtain ⟨ad, x, y, rfl, hab, hx, hc0, hc1⟩ := h.cube_at hlt
   have e0 := (Hb.out.cell (p := ad.add (k * 2)) (by rw [block_of_add]; omega)).trans hc0
   have e1 := (Hb.out.cell (p := nxt (ad.add (k * 2)) 1) (by rw [nxt_block]; omega)).trans hc1
   have g1 : (0 : Int) ≤ (k : Int) := by omega
   have g2 : (k : Int) < (n : Int) := by omega
   have Hx := Lib.hid hx
   clear hc0 hc1 hown hb hx
   go_wp2_with fail
   refine (l_toCube _ _ _).mono ?_
   rintro e w2 ⟨rfl, hb2⟩
   have hown2 := own_below Hown.out hb2 (Nat.le_refl _)
   have hc0 : w2.cell? ⟨w.heap.size, k * 2, none⟩ = _ := hown2.cellAt (k * 2) (by omega)
   have hc1 : w2.cell? ⟨w.heap.size, k * 2 + 1, none⟩ = _ := hown2.cellAt (k * 2 + 1) (by omega)
   have f0 := hown2.frozenAt (k * 2)
   have f1 := hown2.frozenAt (k * 2 + 1)
   obtain ⟨z, hz⟩ : ∃ z, l'[k]? = some z := ⟨_, List.getElem?_eq_getElem (by rw [Hl'.out]; exact hlt)⟩
   have q0 := recs_get cbE_len 0 (by decide) l' k
   have q1 := recs_get cbE_len 1 (by decide) l' k
   rw [hz] at q0 q1
   rw [show cbs l' = recs cbE l' from rfl, show k * 2 = k * 2 + 0 from rfl, q0] at hc0
   rw [show cbs l' = recs cbE l' from rfl, q1] at hc1
   simp [cbE] at hc0 hc1
   have Hown2 := Lib.hid hown2
   have Hb2 := Lib.hid (Hb.out.trans (hb2.mono hsz))
   clear hz q0 q1 hown2 hb2
   go_wp2_with fail
   go_roundw
   case rel =>
    have hs := Hown2.out.stored (k * 2) (.int .i64 x)
    have hs2 := hs.1.stored (k * 2 + 1) (.int .i64 y)
    rw [cbs_set] at hs2
    exact ⟨k + 1, l'.set k (x, y), by omega, by rw [List.length_set]; exact Hl'.out, by go_num, set_take Ht.out (by rw [Hl'.out]; exact hlt) Hx.out, hs2.1, (Hb2.out.setCell (by simp) _).setCell (by simp) _⟩
   case measure => simp [intOf]; omega
  ·obtain rfl : k = n := by omega
   clear hown hb
   go_wp2_with fail
   go_ret
   have h1 := Ht.out
   rw [List.take_of_length_le (by rw [Hl'.out]; exact Nat.le_refl _), List.take_of_length_le (by rw [Hl.out]; exact Nat.le_refl _)] at h1
   subst h1
   unfold OwnCubes
   rw [Hl.out]
   exact ⟨some ⟨w.heap.size, 0, none⟩, _, rfl, Hown.out, Hb.out⟩
end Go.Proofs.Ytbkgjgpoohlieaa

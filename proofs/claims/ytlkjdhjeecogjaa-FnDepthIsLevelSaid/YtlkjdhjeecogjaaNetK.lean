/- Contracts: nets: sequential elements, roots, literals: the program's and the reference's functions. -/
import Derived.Test.YtlkjdhjeecogjaaNetB
import Derived.Outline
namespace Go.Proofs.Ytlkjdhjeecogjaa
open Go.RowKit

def seqB (k i : Int) (n : Nat) : Bool := (decide (k = 0) && (inR i 0 1 && decide (n = 1))) || (decide (k = 1) && (inR i 0 31 && decide (n = 4)))
theorem seqB0 (i : Int) (n : Nat) : seqB 0 i n = (inR i 0 1 && decide (n = 1)) := by simp [seqB]
theorem seqB1 (i : Int) (n : Nat) : seqB 1 i n = (inR i 0 31 && decide (n = 4)) := by simp [seqB]
theorem seqB_no {k i : Int} {n : Nat} (h0 : ¬ k = 0) (h1 : ¬ k = 1) : seqB k i n = false := by simp [seqB, h0, h1]
theorem castN (n k : Nat) : ((n : Int) == (k : Int)) = decide (n = k) := by rw [Bool.eq_iff_iff]; simp; omega

set_option maxHeartbeats 2000000 in
theorem i_seqOk (k i : Int) (A : Option Addr) (n c : Nat) (w : World) : Calls Try.prog 106 #[.agg #[.int .i64 k, .int .i64 i, .slice A n c]] w fun e w' => e = .returned (.bool (seqB k i n)) ∧ Below w.heap.size w w' := by
 have n1 := Lib.hid (castN n 1)
 have n4 := Lib.hid (castN n 4)
 by_cases h0 : k = 0
 ·subst h0
  have He := Lib.hid (seqB0 i n)
  cases hX : inR i 0 1
  ·have HX := Lib.hid hX
   clear hX
   go_enter Try.func106, Try.ntmps106
   go_wp2_with (first | (go_at_call 80; refine (i_inRange _ _ _ _).mono ?_; rintro e w' ⟨rfl, rfl⟩; rw [HX.out]))
   go_ret
   exact ⟨ret_bool (by rw [He.out, HX.out]; rfl), bel_⟩
  ·have HX := Lib.hid hX
   clear hX
   go_enter Try.func106, Try.ntmps106
   go_wp2_with (first | (go_at_call 80; refine (i_inRange _ _ _ _).mono ?_; rintro e w' ⟨rfl, rfl⟩; rw [HX.out]))
   go_ret
   exact ⟨ret_bool (by rw [He.out, HX.out, ← n1.out]; rfl), bel_⟩
 ·by_cases h1 : k = 1
  ·subst h1
   have He := Lib.hid (seqB1 i n)
   cases hX : inR i 0 31
   ·have HX := Lib.hid hX
    clear hX
    go_enter Try.func106, Try.ntmps106
    go_wp2_with (first | (go_at_call 80; refine (i_inRange _ _ _ _).mono ?_; rintro e w' ⟨rfl, rfl⟩; rw [HX.out]))
    go_ret
    exact ⟨ret_bool (by rw [He.out, HX.out]; rfl), bel_⟩
   ·have HX := Lib.hid hX
    clear hX
    go_enter Try.func106, Try.ntmps106
    go_wp2_with (first | (go_at_call 80; refine (i_inRange _ _ _ _).mono ?_; rintro e w' ⟨rfl, rfl⟩; rw [HX.out]))
    go_ret
    exact ⟨ret_bool (by rw [He.out, HX.out, ← n4.out]; rfl), bel_⟩
  ·have He := Lib.hid (seqB_no (n := n) (i := i) h0 h1)
   have q0 : (k == 0) = false := by simpa using h0
   have q1 : (k == 1) = false := by simpa using h1
   clear h0 h1
   go_enter Try.func106, Try.ntmps106
   go_wp2_with fail
   go_ret
   exact ⟨ret_bool He.out.symm, bel_⟩

theorem i_firstAnd (inp : Int) (h0 : 0 ≤ inp) (h20 : inp ≤ 20) (As Aa Ao : Option Addr) (ns cs na ca no co : Nat) (h1 : ns ≤ 12) (w : World) :
  Calls Try.prog 107 #[.agg #[.int .i64 inp, .slice As ns cs, .slice Aa na ca, .slice Ao no co]] w fun e w' => e = .returned (.int .i64 (1 + inp + ns)) ∧ Below w.heap.size w w' := by
 go_enter Try.func107, Try.ntmps107
 go_wp2_with fail
 go_ret
 exact ⟨rfl, bel_⟩
theorem s_l08First (inp : Int) (h0 : 0 ≤ inp) (h20 : inp ≤ 20) (As Aa Ao : Option Addr) (ns cs na ca no co : Nat) (h1 : ns ≤ 12) (w : World) :
  Calls Try.prog 146 #[.agg #[.int .i64 inp, .slice As ns cs, .slice Aa na ca, .slice Ao no co]] w fun e w' => e = .returned (.int .i64 (1 + inp + ns)) ∧ Below w.heap.size w w' := by
 go_enter Try.func146, Try.ntmps146
 go_wp2_with fail
 go_ret
 exact ⟨rfl, bel_⟩
set_option maxHeartbeats 1000000 in
theorem s_l08Lit (x nodes : Int) (hx64 : x ≤ 9223372036854775807) (_h0 : 0 ≤ nodes) (_h1 : nodes ≤ 1000000) (w : World) : Calls Try.prog 145 #[.int .i64 x, .int .i64 nodes] w fun e w' => e = .returned (.bool (inR x 0 (2 * nodes - 1))) ∧ w = w' := by
 by_cases hx : 0 ≤ x
 ·have He := Lib.hid (show inR x 0 (2 * nodes - 1) = decide (x / 2 < nodes) by unfold inR; apply decide_eq_decide.2; omega)
  go_enter Try.func145, Try.ntmps145
  go_wp2_with fail
  go_ret
  exact ⟨ret_bool He.out.symm, rfl⟩
 ·have hx' : x < 0 := by omega
  have He := Lib.hid (show inR x 0 (2 * nodes - 1) = false by unfold inR; rw [decide_eq_false_iff_not]; omega)
  go_enter Try.func145, Try.ntmps145
  go_wp2_with fail
  go_ret
  exact ⟨ret_bool He.out.symm, rfl⟩

/-- the roots of a net -/
def rootsL (outs : List Int) (ss : List Seq3) : List Int := outs ++ ss.flatMap fun x => x.2.2
theorem roots_succ {outs : List Int} {ss : List Seq3} {k : Nat} {x : Seq3} (h : ss[k]? = some x) : rootsL outs (ss.take (k + 1)) = rootsL outs (ss.take k) ++ x.2.2 := by
 unfold rootsL
 rw [List.take_add_one, h, List.flatMap_append, List.append_assoc]
 simp
theorem roots_len (outs : List Int) : ∀ (ss : List Seq3), (rootsL outs ss).length ≤ outs.length + cntSeq ss
 | [] => by simp [rootsL, cntSeq]
 | x :: ss => by
  have ih := roots_len outs ss
  unfold rootsL cntSeq at ih ⊢
  simp only [List.flatMap_cons, List.length_append, List.map_cons, List.sum_cons, List.length_cons] at ih ⊢
  omega
theorem cntSeq_take (ss : List Seq3) (k : Nat) : cntSeq (ss.take k) ≤ cntSeq ss := by
 unfold cntSeq
 have h1 := sumSeq_le ss k
 have h2 := List.length_take_le k ss
 have h3 : (ss.take k).length ≤ ss.length := by rw [List.length_take]; omega
 omega
theorem ints_app (a b : List Int) : ints (a ++ b) = ints a ++ ints b := by simp [ints]

set_option maxRecDepth 100000 in
set_option maxHeartbeats 2000000 in
theorem i_copyInts {w : World} {B : Nat} {A : Option Addr} {n c : Nat} {l : List Int} (hn : n ≤ 1048576) (h : Reads w B 1 A n (ints l)) (hB : B ≤ w.heap.size) : Calls Try.prog 125 #[.slice A n c] w (OwnI l w) := by
 obtain ⟨i0, hi, hz0, hz1, hz2⟩ := info_parts Try.infoIntC
 have hl := h.len
 have HE := Lib.hid (World.ownsRow_made (base := w.heap.size) (size := 1) (e := 3) w #[] 0 (Nat.le_refl _) (by unfold maxLen; omega) rfl)
 have Hl := Lib.hid hl
 clear hl
 go_enter Try.func125, Try.ntmps125
 go_wp2_with (at_builtin; refine wpList_append_any _ rfl _ _ 28 rfl w.heap.size 3 i0 (.int .i64 0) 1 8 Try.underlying28 hi hz0 hz1 hz2 rfl (by decide) _ _ _ rfl HE.out _ _ _ _ _ rfl (h.alloc hB _) (ints_one _) (by unfold maxLen; omega) (by omega) (by simp) ?_; intro v2 w2 hown2 hgrow2 hblk2; simp only [Nat.zero_add, List.nil_append] at hown2)
 obtain ⟨A2, c2, rfl, _, _, _⟩ := own_form hown2
 go_ret
 unfold OwnI
 rw [Hl.out]
 exact ⟨A2, c2, rfl, hown2, ((Below.refl w.heap.size w).alloc (Nat.le_refl _) _).trans (below_of_grown hgrow2 (by simp) (fun g hg => (HE.out.lt g hg).1))⟩

set_option maxRecDepth 100000 in
set_option maxHeartbeats 4000000 in
theorem i_roots (inp : Int) {w : World} {S : Nat → Prop} {As Aa Ao : Option Addr} {ns cs na ca no co : Nat} {ss : List Seq3} {ands : List (Int × Int)} {outs : List Int} (hB : NetB ss ands outs) (h : NetR w S As ns cs ss Aa na ca ands Ao no co outs) (hS : ∀ b, S b → b < w.heap.size) :
  Calls Try.prog 105 #[.agg #[.int .i64 inp, .slice As ns cs, .slice Aa na ca, .slice Ao no co]] w (OwnI (rootsL outs ss) w) := by
 obtain ⟨i0, hi, hz0, hz1, hz2⟩ := info_parts Try.infoIntC
 obtain ⟨l1, l2, l3, m1, m2, m3⟩ := h.lens
 unfold NetB at hB
 have hcs : ss.length ≤ cntSeq ss := by unfold cntSeq; omega
 have Hlen := Lib.hid (fun k => (show (rootsL outs (ss.take k)).length ≤ 1048576 by have h1 := roots_len outs (ss.take k); have h2 := cntSeq_take ss k; omega))
 have Hel := Lib.hid (fun x (hx : x ∈ ss) => (show x.2.2.length ≤ 1048576 by have := cntSeq_el hx; omega))
 have Hl1 := Lib.hid l1
 have hns : ns ≤ 1048576 := by omega
 have hno : no ≤ 1048576 := by omega
 have hk : NetR (w.alloc (.cells #[.int .i64 inp, .slice As ns cs, .slice Aa na ca, .slice Ao no co] 78)) S As ns cs ss Aa na ca ands Ao no co outs := h.keep (fun p hp => World.cell?_alloc_lt _ _ p (hS _ hp)) (fun _ h => h)
 have hS1 : ∀ b, S b → b < w.heap.size + 1 := fun b hb => by have := hS b hb; omega
 have Hl3 := Lib.hid l3
 clear l1 l2 l3 m1 m2 m3 hB hcs
 go_enter Try.func105, Try.ntmps105
 go_wp2_with fail
 refine (i_copyInts hno (hk.2.2.ints_ (B := w.heap.size + 1) hS1) (by simp)).mono ?_
 rintro e w1 ⟨A1, c1, rfl, hown1, hb1⟩
 have z1 := hb1.size
 try simp at z1
 (try have y1_0 : w.heap.size < w1.heap.size := (by omega))
 have q1_0 := fun o => (bcell hb1).1 (w.heap.size) o (by (try simp) <;> (try omega))
 have p1_0 := fun o => (bcell hb1).2 (w.heap.size) o (by (try simp) <;> (try omega))
 have HN1 := Lib.hid (hk.under (fun b hb => by simpa using hS1 b hb) hb1)
 have HO1 := Lib.hid (own_mono hown1 (base' := w.heap.size + 1) (by simp))
 have Hb1 := Lib.hid hb1
 have HT1 := Lib.hid ((Blk.new w 78 #[.int .i64 inp, .slice As ns cs, .slice Aa na ca, .slice Ao no co]).below hb1 (by simp))
 clear hk hown1 hb1
 go_wp2_with fail
 go_loopw [3, 5, 12] (fun ov _ iv wr => ∃ k : Nat, k ≤ ns ∧ iv = .int .i64 k ∧ wr.ownsRow (w.heap.size + 1) 3 1 ov (rootsL outs (ss.take k)).length (ints (rootsL outs (ss.take k))) ∧ Below (w.heap.size + 1) w1 wr) (fun _ _ iv _ => ns - (intOf iv).toNat)
 case atStart => exact ⟨0, Nat.zero_le _, rfl, by simpa [rootsL] using HO1.out, Below.refl _ _⟩
 case round =>
  obtain ⟨k, hk, rfl, hown, hb⟩ := hrel
  have hlk := Hlen.out k
  obtain ⟨Ac, cc, rfl, _, _, _⟩ := own_form hown
  have HO := Lib.hid hown
  have Hb := Lib.hid hb
  have zr := hb.size
  obtain ⟨L, hL⟩ : ∃ L, L = rootsL outs (ss.take k) := ⟨_, rfl⟩
  rw [← hL] at HO hlk ⊢
  have HL := Lib.hid hL
  clear hown hb hL
  by_cases hlt : k < ns
  ·obtain ⟨ad, a, b, l, A2, c2, rfl, hab, hx, hlm, hr2, hc0, hc1, hc2⟩ := fSeqS_row HN1.out.1 hlt
   have hab1 := hS1 _ hab
   have e0 := (Hb.out.cell (p := ad.add (k * 3)) (by rw [block_of_add]; omega)).trans hc0
   have e1 := (Hb.out.cell (p := nxt (ad.add (k * 3)) 1) (by rw [nxt_block]; omega)).trans hc1
   have e2 := (Hb.out.cell (p := nxt (ad.add (k * 3)) 2) (by rw [nxt_block]; omega)).trans hc2
   have Hr := Lib.hid (roots_succ (outs := outs) hx)
   have hle := Hel.out _ (List.mem_of_getElem? hx)
   simp only at hle Hr
   have RL := Lib.hid (((hr2.under hS1 Hb.out).ints_ (B := w.heap.size + 1) hS1).alloc (by omega) (.cells #[.int .i64 a, .int .i64 b, .slice A2 l.length c2] 139))
   have g1 : (0 : Int) ≤ (k : Int) := by omega
   have g2 : (k : Int) < (ns : Int) := by omega
   have HO2 := Lib.hid (HO.out.alloc (.cells #[.int .i64 a, .int .i64 b, .slice A2 l.length c2] 139))
   have zz : w.heap.size + 1 ≤ wr.heap.size := by omega
   clear hc0 hc1 hc2 hx hr2
   go_wp2_with (at_builtin; refine wpList_append_any _ rfl _ _ 28 rfl (w.heap.size + 1) 3 i0 (.int .i64 0) 1 8 Try.underlying28 hi hz0 hz1 hz2 rfl (by decide) _ _ _ rfl HO2.out _ _ _ _ _ rfl RL.out (ints_one _) (by unfold maxLen; omega) (by omega) (by (try simp) <;> omega) ?_; intro v2 w2 hown2 hgrow2 hblk2)
   have hcat : ints L ++ ints l = ints (rootsL outs (ss.take (k + 1))) := by rw [Hr.out, ← HL.out, ints_app]
   have hln : L.length + l.length = (rootsL outs (ss.take (k + 1))).length := by rw [Hr.out, ← HL.out, List.length_append]
   rw [hcat, hln] at hown2
   have Hown2 := Lib.hid hown2
   have Hb2 := Lib.hid ((Hb.out.alloc zz (.cells #[.int .i64 a, .int .i64 b, .slice A2 l.length c2] 139)).trans (below_of_grown hgrow2 (by simp; omega) (fun g hg => (HO2.out.lt g hg).1)))
   clear hown2 hgrow2 hblk2 hcat hln
   go_wp2_with fail
   go_roundw
   case rel => exact ⟨k + 1, by omega, by go_num, Hown2.out, Hb2.out⟩
   case measure => simp [intOf]; omega
  ·have hkn : k = ns := by omega
   have HE := Lib.hid (show L = rootsL outs ss by rw [HL.out, List.take_of_length_le (by rw [Hl1.out, hkn]; exact Nat.le_refl _)])
   have g2 : (ns : Int) ≤ (k : Int) := by omega
   clear hkn
   go_wp2_with fail
   go_ret
   unfold OwnI
   rw [← HE.out]
   exact ⟨Ac, cc, rfl, own_mono HO.out (by omega), (((Below.refl w.heap.size w).alloc (Nat.le_refl _) _).trans (Hb1.out.mono (by simp))).trans (Hb.out.mono (by omega))⟩
set_option maxRecDepth 100000 in
set_option maxHeartbeats 4000000 in
theorem s_l08Roots (inp : Int) {w : World} {S : Nat → Prop} {As Aa Ao : Option Addr} {ns cs na ca no co : Nat} {ss : List Seq3} {ands : List (Int × Int)} {outs : List Int} (hB : NetB ss ands outs) (h : NetR w S As ns cs ss Aa na ca ands Ao no co outs) (hS : ∀ b, S b → b < w.heap.size) :
  Calls Try.prog 110 #[.agg #[.int .i64 inp, .slice As ns cs, .slice Aa na ca, .slice Ao no co]] w (OwnI (rootsL outs ss) w) := by
 obtain ⟨i0, hi, hz0, hz1, hz2⟩ := info_parts Try.infoIntC
 obtain ⟨l1, l2, l3, m1, m2, m3⟩ := h.lens
 unfold NetB at hB
 have hcs : ss.length ≤ cntSeq ss := by unfold cntSeq; omega
 have Hlen := Lib.hid (fun k => (show (rootsL outs (ss.take k)).length ≤ 1048576 by have h1 := roots_len outs (ss.take k); have h2 := cntSeq_take ss k; omega))
 have Hel := Lib.hid (fun x (hx : x ∈ ss) => (show x.2.2.length ≤ 1048576 by have := cntSeq_el hx; omega))
 have Hl1 := Lib.hid l1
 have hns : ns ≤ 1048576 := by omega
 have hno : no ≤ 1048576 := by omega
 have hk : NetR (w.alloc (.cells #[.int .i64 inp, .slice As ns cs, .slice Aa na ca, .slice Ao no co] 78)) S As ns cs ss Aa na ca ands Ao no co outs := h.keep (fun p hp => World.cell?_alloc_lt _ _ p (hS _ hp)) (fun _ h => h)
 have hS1 : ∀ b, S b → b < w.heap.size + 1 := fun b hb => by have := hS b hb; omega
 have Hl3 := Lib.hid l3
 clear l1 l2 l3 m1 m2 m3 hB hcs
 go_enter Try.func110, Try.ntmps110
 have HT0 := Lib.hid (Blk.new w 78 #[.int .i64 inp, .slice As ns cs, .slice Aa na ca, .slice Ao no co])
 have HE0 := Lib.hid (World.ownsRow_made (base := w.heap.size + 1) (size := 1) (e := 3) (w.alloc (.cells #[.int .i64 inp, .slice As ns cs, .slice Aa na ca, .slice Ao no co] 78)) #[] 0 (by simp) (by unfold maxLen; omega) rfl)
 have hsz : (w.alloc (.cells #[.int .i64 inp, .slice As ns cs, .slice Aa na ca, .slice Ao no co] 78)).heap.size = w.heap.size + 1 := by simp
 rw [hsz] at HE0
 have RO := Lib.hid ((hk.2.2.ints_ (B := w.heap.size + 1) hS1).alloc (by simp) (.cells #[] 3))
 go_wp2_with (at_builtin; refine wpList_append_any _ rfl _ _ 28 rfl (w.heap.size + 1) 3 i0 (.int .i64 0) 1 8 Try.underlying28 hi hz0 hz1 hz2 rfl (by decide) _ _ _ rfl HE0.out _ _ _ _ _ rfl RO.out (ints_one _) (by unfold maxLen; omega) (by omega) (by (try simp) <;> omega) ?_; intro v1 w1 hown1 hgrow1 hblk1; simp only [Nat.zero_add, List.nil_append] at hown1)
 have hb1 : Below (w.heap.size + 1) (w.alloc (.cells #[.int .i64 inp, .slice As ns cs, .slice Aa na ca, .slice Ao no co] 78)) w1 := ((Below.refl (w.heap.size + 1) (w.alloc (.cells #[.int .i64 inp, .slice As ns cs, .slice Aa na ca, .slice Ao no co] 78))).alloc (by simp) (.cells #[] 3)).trans (below_of_grown hgrow1 (by (try simp) <;> omega) (fun g hg => (HE0.out.lt g hg).1))
 obtain ⟨A1, c1, rfl, _, _, _⟩ := own_form hown1
 have HN1 := Lib.hid (hk.under hS1 hb1)
 rw [← Hl3.out] at hown1
 have HO1 := Lib.hid hown1
 have z1 := hb1.size
 have HT1 := Lib.hid (HT0.out.below hb1 (by omega))
 have Hb1 := Lib.hid hb1
 rw [← Hl3.out]
 simp at z1
 clear hk hown1 hb1 hgrow1 hblk1 HE0 RO HT0
 go_wp2_with fail
 go_loopw [3, 4] (fun ov iv wr => ∃ k : Nat, k ≤ ns ∧ iv = .int .i64 k ∧ wr.ownsRow (w.heap.size + 1) 3 1 ov (rootsL outs (ss.take k)).length (ints (rootsL outs (ss.take k))) ∧ Below (w.heap.size + 1) w1 wr) (fun _ iv _ => ns - (intOf iv).toNat)
 case atStart => exact ⟨0, Nat.zero_le _, rfl, by simpa [rootsL] using HO1.out, Below.refl _ _⟩
 case round =>
  obtain ⟨k, hk, rfl, hown, hb⟩ := hrel
  have hlk := Hlen.out k
  obtain ⟨Ac, cc, rfl, _, _, _⟩ := own_form hown
  have HO := Lib.hid hown
  have Hb := Lib.hid hb
  have zr := hb.size
  obtain ⟨L, hL⟩ : ∃ L, L = rootsL outs (ss.take k) := ⟨_, rfl⟩
  rw [← hL] at HO hlk ⊢
  have HL := Lib.hid hL
  clear hown hb hL
  by_cases hlt : k < ns
  ·obtain ⟨ad, a, b, l, A2, c2, rfl, hab, hx, hlm, hr2, hc0, hc1, hc2⟩ := fSeqS_row HN1.out.1 hlt
   have hab1 := hS1 _ hab
   have e0 := (Hb.out.cell (p := ad.add (k * 3)) (by rw [block_of_add]; omega)).trans hc0
   have e1 := (Hb.out.cell (p := nxt (ad.add (k * 3)) 1) (by rw [nxt_block]; omega)).trans hc1
   have e2 := (Hb.out.cell (p := nxt (ad.add (k * 3)) 2) (by rw [nxt_block]; omega)).trans hc2
   have Hr := Lib.hid (roots_succ (outs := outs) hx)
   have hle := Hel.out _ (List.mem_of_getElem? hx)
   simp only at hle Hr
   have RL := Lib.hid ((hr2.under hS1 Hb.out).ints_ (B := w.heap.size + 1) hS1)
   have g1 : (0 : Int) ≤ (k : Int) := by omega
   have g2 : (k : Int) < (ns : Int) := by omega
   have HO2 := HO
   have HTr := (HT1.out.below Hb.out (by omega))
   have t1 := HTr.cell 1
   simp only [List.getElem?_toArray, List.getElem?_cons_zero, List.getElem?_cons_succ] at t1
   clear HTr
   have zz : w.heap.size + 1 ≤ wr.heap.size := by omega
   clear hc0 hc1 hc2 hx hr2
   go_wp2_with (at_builtin; refine wpList_append_any _ rfl _ _ 28 rfl (w.heap.size + 1) 3 i0 (.int .i64 0) 1 8 Try.underlying28 hi hz0 hz1 hz2 rfl (by decide) _ _ _ rfl HO2.out _ _ _ _ _ rfl RL.out (ints_one _) (by unfold maxLen; omega) (by omega) (by (try simp) <;> omega) ?_; intro v2 w2 hown2 hgrow2 hblk2)
   have hcat : ints L ++ ints l = ints (rootsL outs (ss.take (k + 1))) := by rw [Hr.out, ← HL.out, ints_app]
   have hln : L.length + l.length = (rootsL outs (ss.take (k + 1))).length := by rw [Hr.out, ← HL.out, List.length_append]
   rw [hcat, hln] at hown2
   have Hown2 := Lib.hid hown2
   have Hb2 := Lib.hid (Hb.out.trans (below_of_grown hgrow2 (by omega) (fun g hg => (HO2.out.lt g hg).1)))
   clear hown2 hgrow2 hblk2 hcat hln
   go_wp2_with fail
   go_roundw
   case rel => exact ⟨k + 1, by omega, by go_num, Hown2.out, Hb2.out⟩
   case measure => simp [intOf]; omega
  ·have hkn : k = ns := by omega
   have HE := Lib.hid (show L = rootsL outs ss by rw [HL.out, List.take_of_length_le (by rw [Hl1.out, hkn]; exact Nat.le_refl _)])
   have g2 : (ns : Int) ≤ (k : Int) := by omega
   have HTr := (HT1.out.below Hb.out (by omega))
   have t1 := HTr.cell 1
   simp only [List.getElem?_toArray, List.getElem?_cons_zero, List.getElem?_cons_succ] at t1
   clear hkn HTr
   go_wp2_with fail
   go_ret
   unfold OwnI
   rw [← HE.out]
   exact ⟨Ac, cc, rfl, own_mono HO.out (by omega), (((Below.refl w.heap.size w).alloc (Nat.le_refl _) _).trans (Hb1.out.mono (by simp))).trans (Hb.out.mono (by omega))⟩
end Go.Proofs.Ytlkjdhjeecogjaa

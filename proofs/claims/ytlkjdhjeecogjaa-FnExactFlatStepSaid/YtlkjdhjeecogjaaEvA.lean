/- Contracts: the value of an expression: the program's function. -/
import Derived.Test.YtlkjdhjeecogjaaEv
import Derived.Test.YtlkjdhjeecogjaaPorts
import Derived.Test.YtlkjdhjeecogjaaGa
import Derived.Outline
namespace Go.Proofs.Ytlkjdhjeecogjaa
open Go.RowKit

def mskN (k : Int) : Nat := 2 ^ k.toNat - 1
theorem mskN_cases {k : Int} (h : 1 ≤ k ∧ k ≤ 4) : (k = 1 ∧ mskN k = 1) ∨ (k = 2 ∧ mskN k = 3) ∨ (k = 3 ∧ mskN k = 7) ∨ (k = 4 ∧ mskN k = 15) := by
 have : k = 1 ∨ k = 2 ∨ k = 3 ∨ k = 4 := by omega
 rcases this with rfl | rfl | rfl | rfl
 ·exact .inl ⟨rfl, rfl⟩
 ·exact .inr (.inl ⟨rfl, rfl⟩)
 ·exact .inr (.inr (.inl ⟨rfl, rfl⟩))
 ·exact .inr (.inr (.inr ⟨rfl, rfl⟩))
theorem mskN_is {k : Int} (h : 1 ≤ k ∧ k ≤ 4) : isMask (mskN k) := by
 unfold isMask
 rcases mskN_cases h with ⟨_, h⟩ | ⟨_, h⟩ | ⟨_, h⟩ | ⟨_, h⟩ <;> simp [h]
theorem i_widthMask (k : Int) (h : 0 ≤ k ∧ k ≤ 4) (w : World) : Calls Try.prog 124 #[.int .i64 k] w fun e w' => e = .returned (.int .i64 (mskN k : Int)) ∧ w = w' := by
 have : k = 0 ∨ k = 1 ∨ k = 2 ∨ k = 3 ∨ k = 4 := by omega
 rcases this with rfl | rfl | rfl | rfl | rfl
 all_goals
  go_enter Try.func124, Try.ntmps124
  go_wp2
  go_ret
  exact ⟨rfl, rfl⟩
/-! ### bits of small numbers -/
theorem and_i64 (x M : Nat) (hx : x ≤ 1000) (hM : M ≤ 15) : bits .and .i64 (x : Int) (M : Int) = ((x &&& M : Nat) : Int) := i64_and_nat x M (by omega) (by omega)
theorem or_i64 (x M : Nat) (hx : x ≤ 1000) (hM : M ≤ 1000) : bits .or .i64 (x : Int) (M : Int) = ((x ||| M : Nat) : Int) := i64_or_nat x M (by omega) (by omega)
theorem xor_i64 (x M : Nat) (hx : x ≤ 1000) (hM : M ≤ 1000) : bits .xor .i64 (x : Int) (M : Int) = ((x ^^^ M : Nat) : Int) := i64_xor_nat x M (by omega) (by omega)
theorem in_mask {M x : Nat} (hM : isMask M) (hx : x ≤ M) : x &&& M = x := by
 obtain ⟨n, hn⟩ : ∃ n, M = 2 ^ n - 1 := by
  rcases hM with h | h | h | h
  ·exact ⟨1, h⟩
  ·exact ⟨2, h⟩
  ·exact ⟨3, h⟩
  ·exact ⟨4, h⟩
 have hp : 0 < 2 ^ n := Nat.two_pow_pos n
 rw [hn, Nat.and_two_pow_sub_one_eq_mod, Nat.mod_eq_of_lt (by omega)]
theorem sub_tab : ((List.range 16).all fun x => (List.range 16).all fun y => [1, 3, 7, 15].all fun M => decide (bits .and .i64 ((x : Int) - (y : Int)) ((M : Nat) : Int) = (((x + (M + 1) - y) &&& M : Nat) : Int)) || decide (M < x) || decide (M < y)) = true := by kernel_rfl
theorem not_tab : ((List.range 16).all fun x => [1, 3, 7, 15].all fun M => decide (bits .and .i64 (bits .xor .i64 (-1) (x : Int)) ((M : Nat) : Int) = ((M ^^^ x : Nat) : Int)) || decide (M < x)) = true := by kernel_rfl
theorem mask_mem {M : Nat} (hM : isMask M) : M ∈ [1, 3, 7, 15] := by rcases hM with h | h | h | h <;> simp [h]
theorem mask_le {M : Nat} (hM : isMask M) : 1 ≤ M ∧ M ≤ 15 := by rcases hM with h | h | h | h <;> omega
theorem sub_i64 {x y M : Nat} (hM : isMask M) (hx : x ≤ M) (hy : y ≤ M) : bits .and .i64 ((x : Int) - (y : Int)) (M : Int) = (((x + (M + 1) - y) &&& M : Nat) : Int) := by
 have h15 := mask_le hM
 have h1 := List.all_eq_true.1 (List.all_eq_true.1 (List.all_eq_true.1 sub_tab x (List.mem_range.2 (by omega))) y (List.mem_range.2 (by omega))) M (mask_mem hM)
 simp only [Bool.or_eq_true, decide_eq_true_eq] at h1
 rcases h1 with (h1 | h1) | h1
 ·exact h1
 ·omega
 ·omega
theorem not_i64 {x M : Nat} (hM : isMask M) (hx : x ≤ M) : bits .and .i64 (bits .xor .i64 (-1) (x : Int)) (M : Int) = ((M ^^^ x : Nat) : Int) := by
 have h15 := mask_le hM
 have h1 := List.all_eq_true.1 (List.all_eq_true.1 not_tab x (List.mem_range.2 (by omega))) M (mask_mem hM)
 simp only [Bool.or_eq_true, decide_eq_true_eq] at h1
 rcases h1 with h1 | h1
 ·exact h1
 ·omega

/-- the program's exprAt at operator p answers so -/
def ExI (os : List TOp) (vals : List Nat) (W : Int) (p v e : Nat) : Prop := ∀ (w : World) (A A2 : Option Addr) (n c n2 c2 : Nat), RepB w w.heap.size (.slice A n c) (fOpS os) → RepB w w.heap.size (.slice A2 n2 c2) (fIntS (nI vals)) →
 Calls Try.prog 126 #[.slice A n c, .int .i64 (p : Int), .slice A2 n2 c2, .int .i64 W] w fun e' w' => e' = .returned (.tuple #[.int .i64 (v : Int), .int .i64 (e : Int)]) ∧ Below w.heap.size w w'
/-- what an operator's value is, out of its operands' -/
def finV (vals : List Nat) (M : Nat) (k a b : Int) (vs : List Nat) : Nat :=
 if k ≤ 3 then leafV vals M k a b else if k = 4 then M ^^^ vs.getD 0 0 else if k = 12 then (if vs.getD 0 0 ≠ 0 then vs.getD 1 0 else vs.getD 2 0) else binV M k (vs.getD 0 0) (vs.getD 1 0)

theorem ret_ev {v v' : Nat} {e : Nat} (h : v' = v) : Ending.returned (.tuple #[.int .i64 ((v : Nat) : Int), .int .i64 (e : Int)]) = .returned (.tuple #[.int .i64 ((v' : Nat) : Int), .int .i64 (e : Int)]) := by rw [h]
theorem opT_sig {N : Nat} {k a b : Int} (h : opT N (k, a, b) = true) (hk : k = 2 ∨ k = 3) : ∃ an : Nat, a = (an : Int) ∧ an < N := by
 have h1 : 0 ≤ a ∧ a < N := by
  unfold opT opB at h
  rcases hk with rfl | rfl <;> simp at h <;> omega
 obtain ⟨an, rfl⟩ := Int.eq_ofNat_of_zero_le h1.1
 exact ⟨an, rfl, by omega⟩
theorem opT_bit {N : Nat} {a b : Int} (h : opT N (3, a, b) = true) : 0 ≤ b ∧ b ≤ 3 := by
 have h2 : inR b 0 3 = true := by
  revert h
  unfold opT opB
  simp
 exact inR_iff.1 h2
theorem rep_nat_at {w : World} {S : Nat → Prop} {A : Option Addr} {n c k : Nat} {l : List Nat} (h : Rep w S (.slice A n c) (fIntS (nI l))) (hk : k < n) : ∃ (ad : Addr) (x : Nat), A = some ad ∧ S ad.block ∧ l[k]? = some x ∧ w.cell? (ad.add k) = some (.int .i64 (x : Int)) := by
 obtain ⟨ad, x, rfl, hb, hx, hc⟩ := fIntS_row h hk
 rw [nI_get] at hx
 cases hy : l[k]? with
 | none => rw [hy] at hx; cases hx
 | some y =>
  rw [hy] at hx
  simp only [Option.map_some, Option.some.injEq] at hx
  subst hx
  exact ⟨ad, y, rfl, hb, rfl, hc⟩
theorem opAr_cases {k : Int} {i : Nat} (h : opAr k = (i : Int)) (h1 : k ≠ 1) : ((k = 0 ∨ k = 2 ∨ k = 3) ∧ i = 0) ∨ (k = 4 ∧ i = 1) ∨ ((k = 5 ∨ k = 6 ∨ k = 7 ∨ k = 8 ∨ k = 9 ∨ k = 10 ∨ k = 11) ∧ i = 2) ∨ (k = 12 ∧ i = 3) := by
 unfold opAr at h
 by_cases c0 : 0 ≤ k ∧ k ≤ 3
 ·rw [if_pos c0] at h
  exact .inl ⟨by omega, by omega⟩
 ·rw [if_neg c0] at h
  by_cases c1 : k = 4
  ·rw [if_pos c1] at h
   exact .inr (.inl ⟨c1, by omega⟩)
  ·rw [if_neg c1] at h
   by_cases c2 : 5 ≤ k ∧ k ≤ 11
   ·rw [if_pos c2] at h
    exact .inr (.inr (.inl ⟨by omega, by omega⟩))
   ·rw [if_neg c2] at h
    by_cases c3 : k = 12
    ·rw [if_pos c3] at h
     exact .inr (.inr (.inr ⟨c3, by omega⟩))
    ·rw [if_neg c3] at h
     omega
theorem bw3 {B : Nat} {W0 : World} {g : Nat} {t : TypeId} {a b c : Value} (h : Blk W0 g t #[a, b, c]) (hg : g < B) : (∀ W : Wd (fun w => Below B W0 w), W.val.cell? ⟨g, 0, none⟩ = some a) ∧ (∀ W : Wd (fun w => Below B W0 w), W.val.cell? ⟨g, 1, none⟩ = some b) ∧ (∀ W : Wd (fun w => Below B W0 w), W.val.cell? ⟨g, 2, none⟩ = some c) :=
 ⟨fun W => (W.ok.cell (p := ⟨g, 0, none⟩) hg).trans (h.cell 0), fun W => (W.ok.cell (p := ⟨g, 1, none⟩) hg).trans (h.cell 1), fun W => (W.ok.cell (p := ⟨g, 2, none⟩) hg).trans (h.cell 2)⟩
/-- a cell below B in a class of worlds -/
theorem wcel {B : Nat} {W0 : World} {p : Addr} {u : Value} (h : W0.cell? p = some u) (hp : p.block < B) : ∀ W : Wd (fun w => Below B W0 w), W.val.cell? p = some u := fun W => (W.ok.cell hp).trans h
set_option maxRecDepth 100000 in
set_option maxHeartbeats 16000000 in
theorem i_exprAt_core {os : List TOp} {vals : List Nat} {W : Int} {p ar : Nat} {k a b : Int} {vs es : List Nat} (hW : 1 ≤ W ∧ W ≤ 4) (h15 : os.length ≤ 15) (hx : os[p]? = some (k, a, b)) (hk : opAr k = (ar : Int)) (hk1 : k ≠ 1)
  (hvl : vs.length = ar) (hvM : ∀ x ∈ vs, x ≤ mskN W) (he0 : es[0]? = some (p + 1)) (hes : ∀ i, i ≤ ar → ∃ q, es[i]? = some q ∧ q ≤ 15)
  (IH : ∀ (i q r v : Nat), i < ar → es[i]? = some q → es[i + 1]? = some r → vs[i]? = some v → ExI os vals W q v r)
  (ho : opT vals.length (k, a, b) = true) (hvs : ∀ x ∈ vals, x ≤ 15) {e : Nat} (hee : es[ar]? = some e) : ExI os vals W p (finV vals (mskN W) k a b vs) e := by
 intro w A A2 n c n2 c2 h hv
 obtain ⟨i0, hi, hz0, hz1, hz2⟩ := info_parts Try.infoIntC
 have hl := h.len
 rw [List.length_map] at hl
 have hl2 := hv.len
 simp only [nI, List.length_map] at hl2
 have hpn : p < n := by have := (List.getElem?_eq_some_iff.1 hx).1; omega
 obtain ⟨ad, x0, x1, x2, rfl, hab, hx', e0, e1, e2⟩ := fOpS_row h hpn
 rw [hx] at hx'
 injection hx' with hx'
 injection hx' with hx1 hx2
 injection hx2 with hx2 hx3
 subst hx1 hx2 hx3
 have g1 : (0 : Int) ≤ (p : Int) := by omega
 have g2 : (p : Int) < (n : Int) := by omega
 have hp15 : p ≤ 15 := by omega
 have har : ar ≤ 3 := by have := opAr_bd k; omega
 have H := Lib.hid h
 have HV := Lib.hid hv
 have HB1 := Lib.hid ((Below.refl w.heap.size w).alloc (Nat.le_refl _) (.cells #[.int .i64 k, .int .i64 a, .int .i64 b] 74))
 have HX1 := Lib.hid (Blk.new w 74 #[.int .i64 k, .int .i64 a, .int .i64 b])
 have HE := Lib.hid hes
 have HIH := Lib.hid IH
 have Hee := Lib.hid hee
 have He0 := Lib.hid he0
 have Hvl := Lib.hid hvl
 have HvM := Lib.hid hvM
 have Hk := Lib.hid hk
 have Hvs := Lib.hid hvs
 have Hl := Lib.hid (And.intro hl hl2)
 obtain ⟨W1, hW1⟩ : ∃ W1, W1 = w.alloc (.cells #[.int .i64 k, .int .i64 a, .int .i64 b] 74) := ⟨_, rfl⟩
 have hz1' : W1.heap.size = w.heap.size + 1 := by rw [hW1]; simp
 rw [← hW1] at HB1 HX1
 clear h hv hx hes IH hee he0 hvl hvM hk hvs hl hl2
 go_enter Try.func126, Try.ntmps126
 go_wp2_with fail
 refine (i_widthMask W (by omega) _).mono ?_
 rintro e' w9 ⟨rfl, rfl⟩
 go_wp2_with fail
 rw [← hW1]
 clear hW1 e0 e1 e2
 go_loopw [1, 12, 13, 14, 15] (fun pv av iv _ _ wr => ∃ i q : Nat, i ≤ ar ∧ iv = .int .i64 i ∧ es[i]? = some q ∧ pv = .int .i64 q ∧ wr.ownsRow W1.heap.size 3 1 av i (ints (nI (vs.take i))) ∧ Below W1.heap.size W1 wr) (fun _ _ iv _ _ _ => ar - (intOf iv).toNat)
 case atStart => exact ⟨0, p + 1, Nat.zero_le _, rfl, He0.out, by go_num, World.ownsRow_nil _ _ _ _, Below.refl _ _⟩
 case round =>
  obtain ⟨i, q, hia, rfl, hq, rfl, hown, hb⟩ := hrel
  have Hb := Lib.hid hb
  have hsz := hb.size
  have HXr := Lib.hid (HX1.out.below hb HX1.out.lt)
  obtain ⟨y0, y1, y2⟩ := blkS3 HXr.out
  obtain ⟨Av, cv, rfl, _, _, hAv⟩ := own_form hown
  have Hown := Lib.hid hown
  have Hq := Lib.hid hq
  clear hb hown hq
  go_wp2_with fail
  refine (i_OpArity k _).mono ?_
  rintro e' w9 ⟨rfl, rfl⟩
  rw [Hk.out]
  by_cases hlt : i < ar
  ·have g3 : (i : Int) < (ar : Int) := by omega
   obtain ⟨r, hr, hr15⟩ := HE.out (i + 1) (by omega)
   obtain ⟨v, hv⟩ : ∃ v, vs[i]? = some v := ⟨_, List.getElem?_eq_getElem (by have := Hvl.out; omega)⟩
   have Hr := Lib.hid hr
   have Hv := Lib.hid hv
   clear hr hv
   go_wp2_with fail
   refine (HIH.out i q r v hlt Hq.out Hr.out Hv.out _ _ _ _ _ _ _ (H.out.grow (HB1.out.trans (Hb.out.mono (by omega)))) (HV.out.grow (HB1.out.trans (Hb.out.mono (by omega))))).mono ?_
   rintro e' w3 ⟨rfl, hb3⟩
   have Hb3 := Lib.hid (Hb.out.trans (hb3.mono hsz))
   have Hown3 := Lib.hid (own_below Hown.out hb3 (Nat.le_refl _))
   have z3 := Hb3.out.size
   clear hb3 y0 y1 y2
   go_wp2_with (at_builtin; refine wpList_append_any _ rfl _ _ 28 rfl (W1.heap.size) 3 i0 (.int .i64 0) 1 8 Try.underlying28 hi hz0 hz1 hz2 rfl (by decide) _ _ _ rfl (Hown3.out.alloc _) _ _ 1 1 _ rfl (reads_new _ _ 1 1 rfl) (by intro u hu; simp at hu; first | (subst hu; rfl) | (rcases hu with rfl | rfl <;> rfl) | (rcases hu with rfl | rfl | rfl <;> rfl)) (by unfold maxLen; omega) (by omega) (by (try simp) <;> (try omega)) ?_; intro v7 w7 hown7 hgrow7 hblk7)
   have hb7 := below_push Hb3.out Hown3.out (Nat.le_refl _) (by omega) hgrow7
   have Hown7 := Lib.hid hown7
   clear hown7 hgrow7 hblk7
   go_wp2_with fail
   go_roundw
   case rel => exact ⟨i + 1, r, by omega, by go_num, Hr.out, rfl, by rw [List.take_add_one, Hv.out]; simp only [Option.toList_some, nI, List.map_append, ints_app]; exact Hown7.out, hb7⟩
   case measure => simp [intOf]; omega
  ·have g3 : (ar : Int) ≤ (i : Int) := by omega
   obtain rfl : i = ar := by omega
   obtain rfl : q = e := by have h1 := Hq.out; rw [Hee.out] at h1; injection h1 with h1; exact h1.symm
   have hMi := mskN_is hW
   have hM15 := mask_le hMi
   have HvM' := HvM.out
   obtain ⟨M, hM⟩ : ∃ M, M = mskN W := ⟨_, rfl⟩
   rw [← hM] at HvM' hMi hM15 ⊢
   have HM := Lib.hid hM
   clear HvM hM
   have hk13 := opAr_cases Hk.out hk1
   rw [show vs.take i = vs from List.take_of_length_le (by rw [Hvl.out]; exact Nat.le_refl _)] at Hown
   rcases hk13 with ⟨hk0, rfl⟩ | ⟨rfl, rfl⟩ | ⟨hk2, rfl⟩ | ⟨rfl, rfl⟩
   ·rcases hk0 with rfl | rfl | rfl
    ·have ho1 : 0 ≤ a ∧ a ≤ 15 := by
      unfold opT opB at ho
      simp only [if_true, Bool.and_eq_true] at ho
      exact inR_iff.1 ho.1
     obtain ⟨an, rfl⟩ := Int.eq_ofNat_of_zero_le ho1.1
     have hb := and_i64 an M (by omega) (by omega)
     have Hf := Lib.hid (show finV vals (mskN W) 0 (an : Int) b vs = an &&& M by rw [← HM.out]; simp [finV, leafV])
     go_wp2_with fail
     go_ret2
     exact ⟨ret_ev Hf.out, HB1.out.trans (Hb.out.mono (by omega))⟩
    ·obtain ⟨an, rfl, han⟩ := opT_sig ho (.inl rfl)
     obtain ⟨ad2, x, rfl, hab2, hxv, t0⟩ := rep_nat_at (k := an) (HV.out.grow (HB1.out.trans (Hb.out.mono (by omega)))) (by have := Hl.out.2; omega)
     have hx15 := Hvs.out x (List.mem_of_getElem? hxv)
     have hb := and_i64 x M (by omega) (by omega)
     have Hf := Lib.hid (show finV vals (mskN W) 2 (an : Int) b vs = x &&& M by rw [← HM.out]; simp [finV, leafV, List.getD, hxv])
     have g5 : (0 : Int) ≤ (an : Int) := by omega
     have g6 : (an : Int) < (n2 : Int) := by have := Hl.out.2; omega
     go_wp2_with fail
     go_ret2
     exact ⟨ret_ev Hf.out, HB1.out.trans (Hb.out.mono (by omega))⟩
    ·obtain ⟨an, rfl, han⟩ := opT_sig ho (.inr rfl)
     obtain ⟨ad2, x, rfl, hab2, hxv, t0⟩ := rep_nat_at (k := an) (HV.out.grow (HB1.out.trans (Hb.out.mono (by omega)))) (by have := Hl.out.2; omega)
     have hx15 := Hvs.out x (List.mem_of_getElem? hxv)
     have hb4 := opT_bit ho
     obtain ⟨bn, rfl⟩ := Int.eq_ofNat_of_zero_le hb4.1
     have hxs : x >>> bn ≤ 15 := Nat.le_trans (Nat.shiftRight_le _ _) hx15
     obtain ⟨z, hz⟩ : ∃ z, z = (x >>> bn) &&& 1 := ⟨_, rfl⟩
     have hsh : bits .and .i64 ((x : Int) / 2 ^ bn) 1 = (z : Int) := by
      rw [hz, i64_and1, Nat.shiftRight_eq_div_pow, Nat.and_one_is_mod]
      push_cast
      rfl
     have hb := and_i64 z M (by have : (x >>> bn) &&& 1 ≤ 1 := Nat.and_le_right; omega) (by omega)
     have Hf := Lib.hid (show finV vals (mskN W) 3 (an : Int) bn vs = z &&& M by rw [← HM.out, hz]; simp [finV, leafV, List.getD, hxv])
     clear hz
     have g5 : (0 : Int) ≤ (an : Int) := by omega
     have g6 : (an : Int) < (n2 : Int) := by have := Hl.out.2; omega
     go_wp2_with fail
     refine wp_region_lexC (by kernel_rfl) (by kernel_rfl) (fun x => Below wr.heap.size wr x) ((Below.refl _ _).drew) (fun lexNE => ?_)
     obtain ⟨c0, c1, c2⟩ := bw3 HXr.out HXr.out.lt
     have d0 := wcel t0 (by rw [block_of_add]; have := HB1.out.size; omega)
     (repeat (first | (refine lex_r fun K hK => ?_; go_big_quiet_op; refine hK _ ?_; clear hK K) | (refine lex_k fun K hK => ?_; go_simp; refine hK _ ?_; clear hK K)))
     (refine lex_nil ?_)
     clear lexNE c0 c1 c2 d0
     go_wp2_with fail
     go_ret2
     exact ⟨ret_ev Hf.out, HB1.out.trans (Hb.out.drew.mono (by omega))⟩
   ·have Hx := Hvl.out
    obtain ⟨g, rfl, hg1, hg2⟩ := hAv (by omega)
    obtain ⟨x, hx, t0⟩ := own_nat_at Hown.out (k := 0) (by omega)
    have hxM := HvM' x (List.mem_of_getElem? hx)
    have hb := not_i64 hMi hxM
    have Hf := Lib.hid (show finV vals (mskN W) 4 a b vs = M ^^^ x by rw [← HM.out]; simp [finV, List.getD, hx])
    go_wp2_with fail
    go_ret2
    exact ⟨ret_ev Hf.out, HB1.out.trans (Hb.out.mono (by omega))⟩
   ·obtain ⟨g, rfl, hg1, hg2⟩ := hAv (by omega)
    obtain ⟨x, hx, t0⟩ := own_nat_at Hown.out (k := 0) (by omega)
    obtain ⟨y, hy, t1⟩ := own_nat_at Hown.out (k := 1) (by omega)
    have hxM := HvM' x (List.mem_of_getElem? hx)
    have hyM := HvM' y (List.mem_of_getElem? hy)
    have Hf := Lib.hid (fun (k : Int) (h : 5 ≤ k ∧ k ≤ 11) => show finV vals (mskN W) k a b vs = binV M k x y by rw [← HM.out]; unfold finV; rw [if_neg (by omega), if_neg (by omega), if_neg (by omega)]; simp [List.getD, hx, hy])
    clear hx hy
    rcases hk2 with rfl | rfl | rfl | rfl | rfl | rfl | rfl
    ·have hb := and_i64 x y (by omega) (by omega)
     have hzM : binV M 5 x y ≤ M := binV_le hMi hxM hyM
     have hb2 : bits .and .i64 ((x &&& y : Nat) : Int) (M : Int) = ((x &&& y : Nat) : Int) := by
      have h1 := and_i64 (binV M 5 x y) M (by omega) (by omega)
      rw [in_mask hMi hzM] at h1
      exact h1
     have HF := Lib.hid (show binV M 5 x y = x &&& y from rfl)
     clear hzM
     go_wp2_with fail
     refine wp_region_lexC (by kernel_rfl) (by kernel_rfl) (fun x => Below wr.heap.size wr x) ((Below.refl _ _).drew) (fun lexNE => ?_)
     have d0 := wcel t0 (by show g < _; omega)
     have d1 := wcel t1 (by show g < _; omega)
     (repeat (first | (refine lex_r fun K hK => ?_; go_big_quiet_op; refine hK _ ?_; clear hK K) | (refine lex_k fun K hK => ?_; go_simp; refine hK _ ?_; clear hK K)))
     (refine lex_nil ?_)
     clear lexNE d0 d1
     go_wp2_with fail
     go_ret2
     refine ⟨?_, HB1.out.trans (Hb.out.drew.mono (by omega))⟩
     rw [Hf.out 5 (by omega), HF.out]
     first | done | rfl | (rw [show (bits BinOp.and IntKind.i64 1 (M : Int)) = 1 from h1M]; rfl) | (rw [show (bits BinOp.and IntKind.i64 0 (M : Int)) = 0 from h0M]; rfl)
    ·have hb := or_i64 x y (by omega) (by omega)
     have hzM : binV M 6 x y ≤ M := binV_le hMi hxM hyM
     have hb2 : bits .and .i64 ((x ||| y : Nat) : Int) (M : Int) = ((x ||| y : Nat) : Int) := by
      have h1 := and_i64 (binV M 6 x y) M (by omega) (by omega)
      rw [in_mask hMi hzM] at h1
      exact h1
     have HF := Lib.hid (show binV M 6 x y = x ||| y from rfl)
     clear hzM
     go_wp2_with fail
     refine wp_region_lexC (by kernel_rfl) (by kernel_rfl) (fun x => Below wr.heap.size wr x) ((Below.refl _ _).drew) (fun lexNE => ?_)
     have d0 := wcel t0 (by show g < _; omega)
     have d1 := wcel t1 (by show g < _; omega)
     (repeat (first | (refine lex_r fun K hK => ?_; go_big_quiet_op; refine hK _ ?_; clear hK K) | (refine lex_k fun K hK => ?_; go_simp; refine hK _ ?_; clear hK K)))
     (refine lex_nil ?_)
     clear lexNE d0 d1
     go_wp2_with fail
     go_ret2
     refine ⟨?_, HB1.out.trans (Hb.out.drew.mono (by omega))⟩
     rw [Hf.out 6 (by omega), HF.out]
     first | done | rfl | (rw [show (bits BinOp.and IntKind.i64 1 (M : Int)) = 1 from h1M]; rfl) | (rw [show (bits BinOp.and IntKind.i64 0 (M : Int)) = 0 from h0M]; rfl)
    ·have hb := xor_i64 x y (by omega) (by omega)
     have hzM : binV M 7 x y ≤ M := binV_le hMi hxM hyM
     have hb2 : bits .and .i64 ((x ^^^ y : Nat) : Int) (M : Int) = ((x ^^^ y : Nat) : Int) := by
      have h1 := and_i64 (binV M 7 x y) M (by omega) (by omega)
      rw [in_mask hMi hzM] at h1
      exact h1
     have HF := Lib.hid (show binV M 7 x y = x ^^^ y from rfl)
     clear hzM
     go_wp2_with fail
     refine wp_region_lexC (by kernel_rfl) (by kernel_rfl) (fun x => Below wr.heap.size wr x) ((Below.refl _ _).drew) (fun lexNE => ?_)
     have d0 := wcel t0 (by show g < _; omega)
     have d1 := wcel t1 (by show g < _; omega)
     (repeat (first | (refine lex_r fun K hK => ?_; go_big_quiet_op; refine hK _ ?_; clear hK K) | (refine lex_k fun K hK => ?_; go_simp; refine hK _ ?_; clear hK K)))
     (refine lex_nil ?_)
     clear lexNE d0 d1
     go_wp2_with fail
     go_ret2
     refine ⟨?_, HB1.out.trans (Hb.out.drew.mono (by omega))⟩
     rw [Hf.out 7 (by omega), HF.out]
     first | done | rfl | (rw [show (bits BinOp.and IntKind.i64 1 (M : Int)) = 1 from h1M]; rfl) | (rw [show (bits BinOp.and IntKind.i64 0 (M : Int)) = 0 from h0M]; rfl)
    ·have hb2 := and_i64 (x + y) M (by omega) (by omega)
     rw [show ((x + y : Nat) : Int) = (x : Int) + (y : Int) by push_cast; rfl] at hb2
     have HF := Lib.hid (show binV M 8 x y = (x + y) &&& M from rfl)
     go_wp2_with fail
     refine wp_region_lexC (by kernel_rfl) (by kernel_rfl) (fun x => Below wr.heap.size wr x) ((Below.refl _ _).drew) (fun lexNE => ?_)
     have d0 := wcel t0 (by show g < _; omega)
     have d1 := wcel t1 (by show g < _; omega)
     (repeat (first | (refine lex_r fun K hK => ?_; go_big_quiet_op; refine hK _ ?_; clear hK K) | (refine lex_k fun K hK => ?_; go_simp; refine hK _ ?_; clear hK K)))
     (refine lex_nil ?_)
     clear lexNE d0 d1
     go_wp2_with fail
     go_ret2
     refine ⟨?_, HB1.out.trans (Hb.out.drew.mono (by omega))⟩
     rw [Hf.out 8 (by omega), HF.out]
     first | done | rfl | (rw [show (bits BinOp.and IntKind.i64 1 (M : Int)) = 1 from h1M]; rfl) | (rw [show (bits BinOp.and IntKind.i64 0 (M : Int)) = 0 from h0M]; rfl)
    ·have hb2 := sub_i64 hMi hxM hyM
     have HF := Lib.hid (show binV M 9 x y = (x + (M + 1) - y) &&& M from rfl)
     go_wp2_with fail
     refine wp_region_lexC (by kernel_rfl) (by kernel_rfl) (fun x => Below wr.heap.size wr x) ((Below.refl _ _).drew) (fun lexNE => ?_)
     have d0 := wcel t0 (by show g < _; omega)
     have d1 := wcel t1 (by show g < _; omega)
     (repeat (first | (refine lex_r fun K hK => ?_; go_big_quiet_op; refine hK _ ?_; clear hK K) | (refine lex_k fun K hK => ?_; go_simp; refine hK _ ?_; clear hK K)))
     (refine lex_nil ?_)
     clear lexNE d0 d1
     go_wp2_with fail
     go_ret2
     refine ⟨?_, HB1.out.trans (Hb.out.drew.mono (by omega))⟩
     rw [Hf.out 9 (by omega), HF.out]
     first | done | rfl | (rw [show (bits BinOp.and IntKind.i64 1 (M : Int)) = 1 from h1M]; rfl) | (rw [show (bits BinOp.and IntKind.i64 0 (M : Int)) = 0 from h0M]; rfl)
    ·have h1M := and_i64 1 M (by omega) (by omega)
     rw [in_mask hMi hM15.1] at h1M
     have h0M := and_i64 0 M (by omega) (by omega)
     rw [Nat.zero_and] at h0M
     by_cases hq : x = y
     ·subst hq
      have HF := Lib.hid (show binV M 10 x x = 1 by simp [binV])
      go_wp2_with fail
      refine wp_region_lexC (by kernel_rfl) (by kernel_rfl) (fun x => Below wr.heap.size wr x) ((Below.refl _ _).drew) (fun lexNE => ?_)
      have d0 := wcel t0 (by show g < _; omega)
      have d1 := wcel t1 (by show g < _; omega)
      (repeat (first | (refine lex_r fun K hK => ?_; go_big_quiet_op; refine hK _ ?_; clear hK K) | (refine lex_k fun K hK => ?_; go_simp; refine hK _ ?_; clear hK K)))
      (refine lex_nil ?_)
      clear lexNE d0 d1
      go_wp2_with fail
      go_ret2
      refine ⟨?_, HB1.out.trans (Hb.out.drew.mono (by omega))⟩
      rw [Hf.out 10 (by omega), HF.out]
      first | done | rfl | (rw [show (bits BinOp.and IntKind.i64 1 (M : Int)) = 1 from h1M]; rfl) | (rw [show (bits BinOp.and IntKind.i64 0 (M : Int)) = 0 from h0M]; rfl)
     ·have q0 : ((x : Int) == (y : Int)) = false := by simp; omega
      have HF := Lib.hid (show binV M 10 x y = 0 by simp [binV, hq])
      clear hq
      go_wp2_with fail
      refine wp_region_lexC (by kernel_rfl) (by kernel_rfl) (fun x => Below wr.heap.size wr x) ((Below.refl _ _).drew) (fun lexNE => ?_)
      have d0 := wcel t0 (by show g < _; omega)
      have d1 := wcel t1 (by show g < _; omega)
      (repeat (first | (refine lex_r fun K hK => ?_; go_big_quiet_op; refine hK _ ?_; clear hK K) | (refine lex_k fun K hK => ?_; go_simp; refine hK _ ?_; clear hK K)))
      (refine lex_nil ?_)
      clear lexNE d0 d1
      go_wp2_with fail
      go_ret2
      refine ⟨?_, HB1.out.trans (Hb.out.drew.mono (by omega))⟩
      rw [Hf.out 10 (by omega), HF.out]
      first | done | rfl | (rw [show (bits BinOp.and IntKind.i64 1 (M : Int)) = 1 from h1M]; rfl) | (rw [show (bits BinOp.and IntKind.i64 0 (M : Int)) = 0 from h0M]; rfl)
    ·have h1M := and_i64 1 M (by omega) (by omega)
     rw [in_mask hMi hM15.1] at h1M
     have h0M := and_i64 0 M (by omega) (by omega)
     rw [Nat.zero_and] at h0M
     by_cases hq : x < y
     ·have q0 : (x : Int) < (y : Int) := by omega
      have HF := Lib.hid (show binV M 11 x y = 1 by simp [binV, hq])
      clear hq
      go_wp2_with fail
      refine wp_region_lexC (by kernel_rfl) (by kernel_rfl) (fun x => Below wr.heap.size wr x) ((Below.refl _ _).drew) (fun lexNE => ?_)
      have d0 := wcel t0 (by show g < _; omega)
      have d1 := wcel t1 (by show g < _; omega)
      (repeat (first | (refine lex_r fun K hK => ?_; go_big_quiet_op; refine hK _ ?_; clear hK K) | (refine lex_k fun K hK => ?_; go_simp; refine hK _ ?_; clear hK K)))
      (refine lex_nil ?_)
      clear lexNE d0 d1
      go_wp2_with fail
      go_ret2
      refine ⟨?_, HB1.out.trans (Hb.out.drew.mono (by omega))⟩
      rw [Hf.out 11 (by omega), HF.out]
      first | done | rfl | (rw [show (bits BinOp.and IntKind.i64 1 (M : Int)) = 1 from h1M]; rfl) | (rw [show (bits BinOp.and IntKind.i64 0 (M : Int)) = 0 from h0M]; rfl)
     ·have q0 : (y : Int) ≤ (x : Int) := by omega
      have HF := Lib.hid (show binV M 11 x y = 0 by simp [binV, hq])
      clear hq
      go_wp2_with fail
      refine wp_region_lexC (by kernel_rfl) (by kernel_rfl) (fun x => Below wr.heap.size wr x) ((Below.refl _ _).drew) (fun lexNE => ?_)
      have d0 := wcel t0 (by show g < _; omega)
      have d1 := wcel t1 (by show g < _; omega)
      (repeat (first | (refine lex_r fun K hK => ?_; go_big_quiet_op; refine hK _ ?_; clear hK K) | (refine lex_k fun K hK => ?_; go_simp; refine hK _ ?_; clear hK K)))
      (refine lex_nil ?_)
      clear lexNE d0 d1
      go_wp2_with fail
      go_ret2
      refine ⟨?_, HB1.out.trans (Hb.out.drew.mono (by omega))⟩
      rw [Hf.out 11 (by omega), HF.out]
      first | done | rfl | (rw [show (bits BinOp.and IntKind.i64 1 (M : Int)) = 1 from h1M]; rfl) | (rw [show (bits BinOp.and IntKind.i64 0 (M : Int)) = 0 from h0M]; rfl)
   ·obtain ⟨g, rfl, hg1, hg2⟩ := hAv (by omega)
    obtain ⟨x, hx, t0⟩ := own_nat_at Hown.out (k := 0) (by omega)
    obtain ⟨y, hy, t1⟩ := own_nat_at Hown.out (k := 1) (by omega)
    obtain ⟨z, hz, t2⟩ := own_nat_at Hown.out (k := 2) (by omega)
    have hxM := HvM' x (List.mem_of_getElem? hx)
    have hyM := HvM' y (List.mem_of_getElem? hy)
    have hzM := HvM' z (List.mem_of_getElem? hz)
    have hby := and_i64 y M (by omega) (by omega)
    rw [in_mask hMi hyM] at hby
    have hbz := and_i64 z M (by omega) (by omega)
    rw [in_mask hMi hzM] at hbz
    have Hf := Lib.hid (show finV vals (mskN W) 12 a b vs = if x ≠ 0 then y else z by simp [finV, List.getD, hx, hy, hz])
    by_cases h0 : x = 0
    ·subst h0
     go_wp2_with fail
     go_ret2
     exact ⟨ret_ev (by rw [Hf.out]; rfl), HB1.out.trans (Hb.out.mono (by omega))⟩
    ·have q0 : ((x : Int) != 0) = true := by simp; omega
     have H0 := Lib.hid h0
     clear h0
     go_wp2_with fail
     go_ret2
     exact ⟨ret_ev (by rw [Hf.out, if_pos H0.out]), HB1.out.trans (Hb.out.mono (by omega))⟩
end Go.Proofs.Ytlkjdhjeecogjaa

/- Contracts: the value of an expression: the program's and the reference's functions. -/
import Derived.Test.YtlkjdhjeecogjaaEvA
import Derived.Outline
namespace Go.Proofs.Ytlkjdhjeecogjaa
open Go.RowKit

theorem opAr_leaf {k : Int} (h : k = 0 ∨ k = 2 ∨ k = 3) : opAr k = 0 := by rcases h with rfl | rfl | rfl <;> rfl
theorem opAr_bin {k : Int} (h : 5 ≤ k ∧ k ≤ 11) : opAr k = 2 := by
 unfold opAr
 rw [if_neg (by omega), if_neg (by omega), if_pos h]
theorem i_exprAt {os : List TOp} {vals : List Nat} {W : Int} {p v e : Nat} (hW : 1 ≤ W ∧ W ≤ 4) (ho : opsB os vals.length = true) (hvs : ∀ x ∈ vals, x ≤ 15) (h : Ev os vals (mskN W) p v e) : ExI os vals W p v e := by
 have h15 : os.length ≤ 15 := (opsB_iff.1 ho).1
 have hop := opsB_op ho
 have hM := mskN_is hW
 induction h with
 | @leaf p k a b h hk =>
  have hp := (List.getElem?_eq_some_iff.1 h).1
  have h1 := i_exprAt_core (vs := []) (es := [p + 1]) (ar := 0) hW h15 h (opAr_leaf hk) (by omega) rfl (by simp) rfl (fun i hi => ⟨p + 1, by rw [show i = 0 by omega]; rfl, by omega⟩) (fun i _ _ _ hi => absurd hi (Nat.not_lt_zero _)) (hop _ (List.mem_of_getElem? h)) hvs (e := p + 1) rfl
  rw [show finV vals (mskN W) k a b [] = leafV vals (mskN W) k a b by unfold finV; rw [if_pos (by omega)]] at h1
  exact h1
 | @un p x e a b h h1 ih =>
  have hx := h1.le hM
  have l1 := h1.lt
  have h2 := i_exprAt_core (vs := [x]) (es := [p + 1, e]) (ar := 1) hW h15 h rfl (by omega) rfl (by simpa using hx) rfl (fun i hi => by
   match i, hi with
   | 0, _ => exact ⟨p + 1, rfl, by omega⟩
   | 1, _ => exact ⟨e, rfl, by omega⟩) (fun i q r v hi hq hr hv => by
   match i, hi with
   | 0, _ =>
    simp at hq hr hv
    subst hq hr hv
    exact ih) (hop _ (List.mem_of_getElem? h)) hvs (e := e) rfl
  exact h2
 | @bin p x y e f k a b h hk h1 h2 i1 i2 =>
  have hx := h1.le hM
  have hy := h2.le hM
  have l1 := h1.lt
  have l2 := h2.lt
  have h3 := i_exprAt_core (vs := [x, y]) (es := [p + 1, e, f]) (ar := 2) hW h15 h (opAr_bin hk) (by omega) rfl (by simp; exact ⟨hx, hy⟩) rfl (fun i hi => by
   match i, hi with
   | 0, _ => exact ⟨p + 1, rfl, by omega⟩
   | 1, _ => exact ⟨e, rfl, by omega⟩
   | 2, _ => exact ⟨f, rfl, by omega⟩) (fun i q r v hi hq hr hv => by
   match i, hi with
   | 0, _ =>
    simp at hq hr hv
    subst hq hr hv
    exact i1
   | 1, _ =>
    simp at hq hr hv
    subst hq hr hv
    exact i2) (hop _ (List.mem_of_getElem? h)) hvs (e := f) rfl
  rw [show finV vals (mskN W) k a b [x, y] = binV (mskN W) k x y by unfold finV; rw [if_neg (by omega), if_neg (by omega), if_neg (by omega)]; rfl] at h3
  exact h3
 | @mux p x y z e f g a b h h1 h2 h3 i1 i2 i3 =>
  have hx := h1.le hM
  have hy := h2.le hM
  have hz := h3.le hM
  have l1 := h1.lt
  have l2 := h2.lt
  have l3 := h3.lt
  have h4 := i_exprAt_core (vs := [x, y, z]) (es := [p + 1, e, f, g]) (ar := 3) hW h15 h rfl (by omega) rfl (by simp; exact ⟨hx, hy, hz⟩) rfl (fun i hi => by
   match i, hi with
   | 0, _ => exact ⟨p + 1, rfl, by omega⟩
   | 1, _ => exact ⟨e, rfl, by omega⟩
   | 2, _ => exact ⟨f, rfl, by omega⟩
   | 3, _ => exact ⟨g, rfl, by omega⟩) (fun i q r v hi hq hr hv => by
   match i, hi with
   | 0, _ =>
    simp at hq hr hv
    subst hq hr hv
    exact i1
   | 1, _ =>
    simp at hq hr hv
    subst hq hr hv
    exact i2
   | 2, _ =>
    simp at hq hr hv
    subst hq hr hv
    exact i3) (hop _ (List.mem_of_getElem? h)) hvs (e := g) rfl
  exact h4

theorem s_l07Bit (b : Bool) (w : World) : Calls Try.prog 116 #[.bool b] w fun e w' => e = .returned (.int .i64 (if b then 1 else 0)) ∧ w = w' := by
 cases b with
 | true =>
  go_enter Try.func116, Try.ntmps116
  go_wp2
  go_ret
  exact ⟨rfl, rfl⟩
 | false =>
  go_enter Try.func116, Try.ntmps116
  go_wp2
  go_ret
  exact ⟨rfl, rfl⟩
/-- the reference's l07Eval at operator p answers so -/
def ExS (os : List TOp) (vals : List Nat) (M : Nat) (p v e : Nat) : Prop := ∀ (w : World) (A A2 : Option Addr) (n c n2 c2 : Nat), RepB w w.heap.size (.slice A n c) (fOpS os) → RepB w w.heap.size (.slice A2 n2 c2) (fIntS (nI vals)) →
 Calls Try.prog 57 #[.slice A n c, .int .i64 (p : Int), .slice A2 n2 c2, .int .i64 (M : Int)] w fun e' w' => e' = .returned (.tuple #[.int .i64 (v : Int), .int .i64 (e : Int)]) ∧ Below w.heap.size w w'
set_option maxRecDepth 100000 in
set_option maxHeartbeats 16000000 in
theorem s_l07Eval {os : List TOp} {vals : List Nat} {M : Nat} {p v e : Nat} (hM : isMask M) (ho : opsB os vals.length = true) (hvs : ∀ x ∈ vals, x ≤ 15) (h : Ev os vals M p v e) : ExS os vals M p v e := by
 have h15 : os.length ≤ 15 := (opsB_iff.1 ho).1
 have ho1 := opsB_op ho
 have hM15 := mask_le hM
 clear ho
 induction h with
 | @leaf p k a b h hk =>
  rcases hk with rfl | rfl | rfl
  ·intro w A A2 n c n2 c2 ho' hv'
   have hl := ho'.len
   rw [List.length_map] at hl
   have hl2 := hv'.len
   simp only [nI, List.length_map] at hl2
   have hpn : p < n := by have := (List.getElem?_eq_some_iff.1 h).1; omega
   have hp15 : p ≤ 15 := by omega
   obtain ⟨ad, x0, x1, x2, rfl, hab, hx', e0, e1, e2⟩ := fOpS_row ho' hpn
   rw [h] at hx'
   injection hx' with hx'
   injection hx' with hx1 hx2
   injection hx2 with hx2 hx3
   subst hx1 hx2 hx3
   have g1 : (0 : Int) ≤ (p : Int) := by omega
   have g2 : (p : Int) < (n : Int) := by omega
   have HO := Lib.hid ho'
   have HV := Lib.hid hv'
   have HB1 := Lib.hid ((Below.refl w.heap.size w).alloc (Nat.le_refl _) (.cells #[.int .i64 0, .int .i64 a, .int .i64 b] 74))
   have HX1 := Lib.hid (Blk.new w 74 #[.int .i64 0, .int .i64 a, .int .i64 b])
   have Hl := Lib.hid (And.intro hl hl2)
   have hop := ho1 _ (List.mem_of_getElem? h)
   clear ho' hv' h hl hl2
   have hao : 0 ≤ a ∧ a ≤ 15 := by
    unfold opT opB at hop
    simp only [if_true, Bool.and_eq_true] at hop
    exact inR_iff.1 hop.1
   obtain ⟨an, rfl⟩ := Int.eq_ofNat_of_zero_le hao.1
   have hb := and_i64 an M (by omega) (by omega)
   have HF := Lib.hid (show leafV vals M 0 (an : Int) b = an &&& M by simp [leafV])
   go_enter Try.func57, Try.ntmps57
   go_wp2_with fail
   go_ret2
   exact ⟨ret_ev HF.out, HB1.out⟩
  ·intro w A A2 n c n2 c2 ho' hv'
   have hl := ho'.len
   rw [List.length_map] at hl
   have hl2 := hv'.len
   simp only [nI, List.length_map] at hl2
   have hpn : p < n := by have := (List.getElem?_eq_some_iff.1 h).1; omega
   have hp15 : p ≤ 15 := by omega
   obtain ⟨ad, x0, x1, x2, rfl, hab, hx', e0, e1, e2⟩ := fOpS_row ho' hpn
   rw [h] at hx'
   injection hx' with hx'
   injection hx' with hx1 hx2
   injection hx2 with hx2 hx3
   subst hx1 hx2 hx3
   have g1 : (0 : Int) ≤ (p : Int) := by omega
   have g2 : (p : Int) < (n : Int) := by omega
   have HO := Lib.hid ho'
   have HV := Lib.hid hv'
   have HB1 := Lib.hid ((Below.refl w.heap.size w).alloc (Nat.le_refl _) (.cells #[.int .i64 2, .int .i64 a, .int .i64 b] 74))
   have HX1 := Lib.hid (Blk.new w 74 #[.int .i64 2, .int .i64 a, .int .i64 b])
   have Hl := Lib.hid (And.intro hl hl2)
   have hop := ho1 _ (List.mem_of_getElem? h)
   clear ho' hv' h hl hl2
   obtain ⟨an, rfl, han⟩ := opT_sig hop (.inl rfl)
   obtain ⟨ad2, x, rfl, hab2, hxv, t0⟩ := rep_nat_at (k := an) (HV.out.grow HB1.out) (by have := Hl.out.2; omega)
   have hx15 := hvs x (List.mem_of_getElem? hxv)
   have g5 : (0 : Int) ≤ (an : Int) := by omega
   have g6 : (an : Int) < (n2 : Int) := by have := Hl.out.2; omega
   have hb := and_i64 x M (by omega) (by omega)
   have HF := Lib.hid (show leafV vals M 2 (an : Int) b = x &&& M by simp [leafV, List.getD, hxv])
   go_enter Try.func57, Try.ntmps57
   go_wp2_with fail
   go_ret2
   exact ⟨ret_ev HF.out, HB1.out⟩
  ·intro w A A2 n c n2 c2 ho' hv'
   have hl := ho'.len
   rw [List.length_map] at hl
   have hl2 := hv'.len
   simp only [nI, List.length_map] at hl2
   have hpn : p < n := by have := (List.getElem?_eq_some_iff.1 h).1; omega
   have hp15 : p ≤ 15 := by omega
   obtain ⟨ad, x0, x1, x2, rfl, hab, hx', e0, e1, e2⟩ := fOpS_row ho' hpn
   rw [h] at hx'
   injection hx' with hx'
   injection hx' with hx1 hx2
   injection hx2 with hx2 hx3
   subst hx1 hx2 hx3
   have g1 : (0 : Int) ≤ (p : Int) := by omega
   have g2 : (p : Int) < (n : Int) := by omega
   have HO := Lib.hid ho'
   have HV := Lib.hid hv'
   have HB1 := Lib.hid ((Below.refl w.heap.size w).alloc (Nat.le_refl _) (.cells #[.int .i64 3, .int .i64 a, .int .i64 b] 74))
   have HX1 := Lib.hid (Blk.new w 74 #[.int .i64 3, .int .i64 a, .int .i64 b])
   have Hl := Lib.hid (And.intro hl hl2)
   have hop := ho1 _ (List.mem_of_getElem? h)
   clear ho' hv' h hl hl2
   obtain ⟨an, rfl, han⟩ := opT_sig hop (.inr rfl)
   obtain ⟨ad2, x, rfl, hab2, hxv, t0⟩ := rep_nat_at (k := an) (HV.out.grow HB1.out) (by have := Hl.out.2; omega)
   have hx15 := hvs x (List.mem_of_getElem? hxv)
   have g5 : (0 : Int) ≤ (an : Int) := by omega
   have g6 : (an : Int) < (n2 : Int) := by have := Hl.out.2; omega
   have hb4 := opT_bit hop
   obtain ⟨bn, rfl⟩ := Int.eq_ofNat_of_zero_le hb4.1
   obtain ⟨z, hz⟩ : ∃ z, z = (x >>> bn) &&& 1 := ⟨_, rfl⟩
   have hsh : bits .and .i64 ((x : Int) / 2 ^ bn) 1 = (z : Int) := by
    rw [hz, i64_and1, Nat.shiftRight_eq_div_pow, Nat.and_one_is_mod]
    push_cast
    rfl
   have hb := and_i64 z M (by have : (x >>> bn) &&& 1 ≤ 1 := Nat.and_le_right; omega) (by omega)
   have HF := Lib.hid (show leafV vals M 3 (an : Int) bn = z &&& M by rw [hz]; simp [leafV, List.getD, hxv])
   have hxs : (x : Int) / 2 ^ bn ≤ 15 := by
    have h1 := Int.ediv_le_self (a := (x : Int)) (2 ^ bn) (by omega)
    omega
   obtain ⟨W1, hW1⟩ : ∃ W1, W1 = w.alloc (.cells #[.int .i64 3, .int .i64 (an : Int), .int .i64 (bn : Int)] 74) := ⟨_, rfl⟩
   have hW := hW1
   rw [← hW1] at HB1 HX1 t0 hab2
   clear hz hxs
   go_enter Try.func57, Try.ntmps57
   go_wp2_with fail
   rw [← hW1]
   clear hW1 hW
   refine wp_region_lexC (by kernel_rfl) (by kernel_rfl) (fun x => Below W1.heap.size W1 x) ((Below.refl _ _).drew) (fun lexNE => ?_)
   obtain ⟨c0, c1, c2⟩ := bw3 HX1.out HX1.out.lt
   have d0 := wcel (B := W1.heap.size) t0 (by rw [block_of_add]; exact hab2)
   (repeat (first | (refine lex_r fun K hK => ?_; go_big_quiet_op; refine hK _ ?_; clear hK K) | (refine lex_k fun K hK => ?_; go_simp; refine hK _ ?_; clear hK K)))
   (refine lex_nil ?_)
   clear lexNE c0 c1 c2 d0
   go_wp2_with fail
   go_ret2
   exact ⟨ret_ev HF.out, HB1.out.drew⟩
 | @un p x e a b h h1 i1 =>
  have hxM := h1.le hM
  have hb := not_i64 hM hxM
  have l1 := h1.lt
  intro w A A2 n c n2 c2 ho' hv'
  have hl := ho'.len
  rw [List.length_map] at hl
  have hl2 := hv'.len
  simp only [nI, List.length_map] at hl2
  have hpn : p < n := by have := (List.getElem?_eq_some_iff.1 h).1; omega
  have hp15 : p ≤ 15 := by omega
  obtain ⟨ad, x0, x1, x2, rfl, hab, hx', e0, e1, e2⟩ := fOpS_row ho' hpn
  rw [h] at hx'
  injection hx' with hx'
  injection hx' with hx1 hx2
  injection hx2 with hx2 hx3
  subst hx1 hx2 hx3
  have g1 : (0 : Int) ≤ (p : Int) := by omega
  have g2 : (p : Int) < (n : Int) := by omega
  have HO := Lib.hid ho'
  have HV := Lib.hid hv'
  have HB1 := Lib.hid ((Below.refl w.heap.size w).alloc (Nat.le_refl _) (.cells #[.int .i64 4, .int .i64 a, .int .i64 b] 74))
  have HX1 := Lib.hid (Blk.new w 74 #[.int .i64 4, .int .i64 a, .int .i64 b])
  have Hl := Lib.hid (And.intro hl hl2)
  have hop := ho1 _ (List.mem_of_getElem? h)
  clear ho' hv' h hl hl2
  go_enter Try.func57, Try.ntmps57
  go_wp2_with fail
  refine (i1 _ _ _ _ _ _ _ (HO.out.grow HB1.out) (HV.out.grow HB1.out)).mono ?_
  rintro e' w2 ⟨rfl, hb2⟩
  have Hb2 := Lib.hid (HB1.out.trans (hb2.mono HB1.out.size))
  have HX2 := Lib.hid (HX1.out.below hb2 HX1.out.lt)
  obtain ⟨y0, y1, y2⟩ := blkS3 HX2.out
  clear hb2 e0 e1 e2
  go_wp2_with fail
  go_ret2
  exact ⟨rfl, Hb2.out⟩
 | @bin p x y e f k a b h hk h1 h2 i1 i2 =>
  have hxM := h1.le hM
  have hyM := h2.le hM
  have l1 := h1.lt
  have l2 := h2.lt
  have hk2 : k = 5 ∨ k = 6 ∨ k = 7 ∨ k = 8 ∨ k = 9 ∨ k = 10 ∨ k = 11 := by omega
  clear hk
  rcases hk2 with rfl | rfl | rfl | rfl | rfl | rfl | rfl
  ·have hb := and_i64 x y (by omega) (by omega)
   have HF := Lib.hid (show binV M 5 x y = x &&& y from rfl)
   intro w A A2 n c n2 c2 ho' hv'
   have hl := ho'.len
   rw [List.length_map] at hl
   have hl2 := hv'.len
   simp only [nI, List.length_map] at hl2
   have hpn : p < n := by have := (List.getElem?_eq_some_iff.1 h).1; omega
   have hp15 : p ≤ 15 := by omega
   obtain ⟨ad, x0, x1, x2, rfl, hab, hx', e0, e1, e2⟩ := fOpS_row ho' hpn
   rw [h] at hx'
   injection hx' with hx'
   injection hx' with hx1 hx2
   injection hx2 with hx2 hx3
   subst hx1 hx2 hx3
   have g1 : (0 : Int) ≤ (p : Int) := by omega
   have g2 : (p : Int) < (n : Int) := by omega
   have HO := Lib.hid ho'
   have HV := Lib.hid hv'
   have HB1 := Lib.hid ((Below.refl w.heap.size w).alloc (Nat.le_refl _) (.cells #[.int .i64 5, .int .i64 a, .int .i64 b] 74))
   have HX1 := Lib.hid (Blk.new w 74 #[.int .i64 5, .int .i64 a, .int .i64 b])
   have Hl := Lib.hid (And.intro hl hl2)
   have hop := ho1 _ (List.mem_of_getElem? h)
   clear ho' hv' h hl hl2
   go_enter Try.func57, Try.ntmps57
   go_wp2_with fail
   refine (i1 _ _ _ _ _ _ _ (HO.out.grow HB1.out) (HV.out.grow HB1.out)).mono ?_
   rintro e' w2 ⟨rfl, hb2⟩
   have Hb2 := Lib.hid (HB1.out.trans (hb2.mono HB1.out.size))
   have HX2 := Lib.hid (HX1.out.below hb2 HX1.out.lt)
   obtain ⟨y0, y1, y2⟩ := blkS3 HX2.out
   clear hb2 e0 e1 e2
   go_wp2_with fail
   refine (i2 _ _ _ _ _ _ _ (HO.out.grow Hb2.out) (HV.out.grow Hb2.out)).mono ?_
   rintro e' w3 ⟨rfl, hb3⟩
   have Hb3 := Lib.hid (Hb2.out.trans (hb3.mono Hb2.out.size))
   have HX3 := Lib.hid (HX2.out.below hb3 HX2.out.lt)
   clear y0 y1 y2
   obtain ⟨y0, y1, y2⟩ := blkS3 HX3.out
   clear hb3
   go_wp2_with fail
   go_ret2
   exact ⟨by rw [HF.out]; rfl, Hb3.out⟩
  ·have hb := or_i64 x y (by omega) (by omega)
   have HF := Lib.hid (show binV M 6 x y = x ||| y from rfl)
   intro w A A2 n c n2 c2 ho' hv'
   have hl := ho'.len
   rw [List.length_map] at hl
   have hl2 := hv'.len
   simp only [nI, List.length_map] at hl2
   have hpn : p < n := by have := (List.getElem?_eq_some_iff.1 h).1; omega
   have hp15 : p ≤ 15 := by omega
   obtain ⟨ad, x0, x1, x2, rfl, hab, hx', e0, e1, e2⟩ := fOpS_row ho' hpn
   rw [h] at hx'
   injection hx' with hx'
   injection hx' with hx1 hx2
   injection hx2 with hx2 hx3
   subst hx1 hx2 hx3
   have g1 : (0 : Int) ≤ (p : Int) := by omega
   have g2 : (p : Int) < (n : Int) := by omega
   have HO := Lib.hid ho'
   have HV := Lib.hid hv'
   have HB1 := Lib.hid ((Below.refl w.heap.size w).alloc (Nat.le_refl _) (.cells #[.int .i64 6, .int .i64 a, .int .i64 b] 74))
   have HX1 := Lib.hid (Blk.new w 74 #[.int .i64 6, .int .i64 a, .int .i64 b])
   have Hl := Lib.hid (And.intro hl hl2)
   have hop := ho1 _ (List.mem_of_getElem? h)
   clear ho' hv' h hl hl2
   go_enter Try.func57, Try.ntmps57
   go_wp2_with fail
   refine (i1 _ _ _ _ _ _ _ (HO.out.grow HB1.out) (HV.out.grow HB1.out)).mono ?_
   rintro e' w2 ⟨rfl, hb2⟩
   have Hb2 := Lib.hid (HB1.out.trans (hb2.mono HB1.out.size))
   have HX2 := Lib.hid (HX1.out.below hb2 HX1.out.lt)
   obtain ⟨y0, y1, y2⟩ := blkS3 HX2.out
   clear hb2 e0 e1 e2
   go_wp2_with fail
   refine (i2 _ _ _ _ _ _ _ (HO.out.grow Hb2.out) (HV.out.grow Hb2.out)).mono ?_
   rintro e' w3 ⟨rfl, hb3⟩
   have Hb3 := Lib.hid (Hb2.out.trans (hb3.mono Hb2.out.size))
   have HX3 := Lib.hid (HX2.out.below hb3 HX2.out.lt)
   clear y0 y1 y2
   obtain ⟨y0, y1, y2⟩ := blkS3 HX3.out
   clear hb3
   go_wp2_with fail
   go_ret2
   exact ⟨by rw [HF.out]; rfl, Hb3.out⟩
  ·have hb := xor_i64 x y (by omega) (by omega)
   have HF := Lib.hid (show binV M 7 x y = x ^^^ y from rfl)
   intro w A A2 n c n2 c2 ho' hv'
   have hl := ho'.len
   rw [List.length_map] at hl
   have hl2 := hv'.len
   simp only [nI, List.length_map] at hl2
   have hpn : p < n := by have := (List.getElem?_eq_some_iff.1 h).1; omega
   have hp15 : p ≤ 15 := by omega
   obtain ⟨ad, x0, x1, x2, rfl, hab, hx', e0, e1, e2⟩ := fOpS_row ho' hpn
   rw [h] at hx'
   injection hx' with hx'
   injection hx' with hx1 hx2
   injection hx2 with hx2 hx3
   subst hx1 hx2 hx3
   have g1 : (0 : Int) ≤ (p : Int) := by omega
   have g2 : (p : Int) < (n : Int) := by omega
   have HO := Lib.hid ho'
   have HV := Lib.hid hv'
   have HB1 := Lib.hid ((Below.refl w.heap.size w).alloc (Nat.le_refl _) (.cells #[.int .i64 7, .int .i64 a, .int .i64 b] 74))
   have HX1 := Lib.hid (Blk.new w 74 #[.int .i64 7, .int .i64 a, .int .i64 b])
   have Hl := Lib.hid (And.intro hl hl2)
   have hop := ho1 _ (List.mem_of_getElem? h)
   clear ho' hv' h hl hl2
   go_enter Try.func57, Try.ntmps57
   go_wp2_with fail
   refine (i1 _ _ _ _ _ _ _ (HO.out.grow HB1.out) (HV.out.grow HB1.out)).mono ?_
   rintro e' w2 ⟨rfl, hb2⟩
   have Hb2 := Lib.hid (HB1.out.trans (hb2.mono HB1.out.size))
   have HX2 := Lib.hid (HX1.out.below hb2 HX1.out.lt)
   obtain ⟨y0, y1, y2⟩ := blkS3 HX2.out
   clear hb2 e0 e1 e2
   go_wp2_with fail
   refine (i2 _ _ _ _ _ _ _ (HO.out.grow Hb2.out) (HV.out.grow Hb2.out)).mono ?_
   rintro e' w3 ⟨rfl, hb3⟩
   have Hb3 := Lib.hid (Hb2.out.trans (hb3.mono Hb2.out.size))
   have HX3 := Lib.hid (HX2.out.below hb3 HX2.out.lt)
   clear y0 y1 y2
   obtain ⟨y0, y1, y2⟩ := blkS3 HX3.out
   clear hb3
   go_wp2_with fail
   go_ret2
   exact ⟨by rw [HF.out]; rfl, Hb3.out⟩
  ·have hb2 := and_i64 (x + y) M (by omega) (by omega)
   rw [show ((x + y : Nat) : Int) = (x : Int) + (y : Int) by push_cast; rfl] at hb2
   have HF := Lib.hid (show binV M 8 x y = (x + y) &&& M from rfl)
   intro w A A2 n c n2 c2 ho' hv'
   have hl := ho'.len
   rw [List.length_map] at hl
   have hl2 := hv'.len
   simp only [nI, List.length_map] at hl2
   have hpn : p < n := by have := (List.getElem?_eq_some_iff.1 h).1; omega
   have hp15 : p ≤ 15 := by omega
   obtain ⟨ad, x0, x1, x2, rfl, hab, hx', e0, e1, e2⟩ := fOpS_row ho' hpn
   rw [h] at hx'
   injection hx' with hx'
   injection hx' with hx1 hx2
   injection hx2 with hx2 hx3
   subst hx1 hx2 hx3
   have g1 : (0 : Int) ≤ (p : Int) := by omega
   have g2 : (p : Int) < (n : Int) := by omega
   have HO := Lib.hid ho'
   have HV := Lib.hid hv'
   have HB1 := Lib.hid ((Below.refl w.heap.size w).alloc (Nat.le_refl _) (.cells #[.int .i64 8, .int .i64 a, .int .i64 b] 74))
   have HX1 := Lib.hid (Blk.new w 74 #[.int .i64 8, .int .i64 a, .int .i64 b])
   have Hl := Lib.hid (And.intro hl hl2)
   have hop := ho1 _ (List.mem_of_getElem? h)
   clear ho' hv' h hl hl2
   go_enter Try.func57, Try.ntmps57
   go_wp2_with fail
   refine (i1 _ _ _ _ _ _ _ (HO.out.grow HB1.out) (HV.out.grow HB1.out)).mono ?_
   rintro e' w2 ⟨rfl, hb2⟩
   have Hb2 := Lib.hid (HB1.out.trans (hb2.mono HB1.out.size))
   have HX2 := Lib.hid (HX1.out.below hb2 HX1.out.lt)
   obtain ⟨y0, y1, y2⟩ := blkS3 HX2.out
   clear hb2 e0 e1 e2
   go_wp2_with fail
   refine (i2 _ _ _ _ _ _ _ (HO.out.grow Hb2.out) (HV.out.grow Hb2.out)).mono ?_
   rintro e' w3 ⟨rfl, hb3⟩
   have Hb3 := Lib.hid (Hb2.out.trans (hb3.mono Hb2.out.size))
   have HX3 := Lib.hid (HX2.out.below hb3 HX2.out.lt)
   clear y0 y1 y2
   obtain ⟨y0, y1, y2⟩ := blkS3 HX3.out
   clear hb3
   go_wp2_with fail
   go_ret2
   exact ⟨by rw [HF.out]; rfl, Hb3.out⟩
  ·have hb2 := sub_i64 hM hxM hyM
   have HF := Lib.hid (show binV M 9 x y = (x + (M + 1) - y) &&& M from rfl)
   intro w A A2 n c n2 c2 ho' hv'
   have hl := ho'.len
   rw [List.length_map] at hl
   have hl2 := hv'.len
   simp only [nI, List.length_map] at hl2
   have hpn : p < n := by have := (List.getElem?_eq_some_iff.1 h).1; omega
   have hp15 : p ≤ 15 := by omega
   obtain ⟨ad, x0, x1, x2, rfl, hab, hx', e0, e1, e2⟩ := fOpS_row ho' hpn
   rw [h] at hx'
   injection hx' with hx'
   injection hx' with hx1 hx2
   injection hx2 with hx2 hx3
   subst hx1 hx2 hx3
   have g1 : (0 : Int) ≤ (p : Int) := by omega
   have g2 : (p : Int) < (n : Int) := by omega
   have HO := Lib.hid ho'
   have HV := Lib.hid hv'
   have HB1 := Lib.hid ((Below.refl w.heap.size w).alloc (Nat.le_refl _) (.cells #[.int .i64 9, .int .i64 a, .int .i64 b] 74))
   have HX1 := Lib.hid (Blk.new w 74 #[.int .i64 9, .int .i64 a, .int .i64 b])
   have Hl := Lib.hid (And.intro hl hl2)
   have hop := ho1 _ (List.mem_of_getElem? h)
   clear ho' hv' h hl hl2
   go_enter Try.func57, Try.ntmps57
   go_wp2_with fail
   refine (i1 _ _ _ _ _ _ _ (HO.out.grow HB1.out) (HV.out.grow HB1.out)).mono ?_
   rintro e' w2 ⟨rfl, hb2⟩
   have Hb2 := Lib.hid (HB1.out.trans (hb2.mono HB1.out.size))
   have HX2 := Lib.hid (HX1.out.below hb2 HX1.out.lt)
   obtain ⟨y0, y1, y2⟩ := blkS3 HX2.out
   clear hb2 e0 e1 e2
   go_wp2_with fail
   refine (i2 _ _ _ _ _ _ _ (HO.out.grow Hb2.out) (HV.out.grow Hb2.out)).mono ?_
   rintro e' w3 ⟨rfl, hb3⟩
   have Hb3 := Lib.hid (Hb2.out.trans (hb3.mono Hb2.out.size))
   have HX3 := Lib.hid (HX2.out.below hb3 HX2.out.lt)
   clear y0 y1 y2
   obtain ⟨y0, y1, y2⟩ := blkS3 HX3.out
   clear hb3
   go_wp2_with fail
   go_ret2
   exact ⟨by rw [HF.out]; rfl, Hb3.out⟩
  ·by_cases hq : x = y
   ·subst hq
    have HF := Lib.hid (show binV M 10 x x = 1 by simp [binV])
    intro w A A2 n c n2 c2 ho' hv'
    have hl := ho'.len
    rw [List.length_map] at hl
    have hl2 := hv'.len
    simp only [nI, List.length_map] at hl2
    have hpn : p < n := by have := (List.getElem?_eq_some_iff.1 h).1; omega
    have hp15 : p ≤ 15 := by omega
    obtain ⟨ad, x0, x1, x2, rfl, hab, hx', e0, e1, e2⟩ := fOpS_row ho' hpn
    rw [h] at hx'
    injection hx' with hx'
    injection hx' with hx1 hx2
    injection hx2 with hx2 hx3
    subst hx1 hx2 hx3
    have g1 : (0 : Int) ≤ (p : Int) := by omega
    have g2 : (p : Int) < (n : Int) := by omega
    have HO := Lib.hid ho'
    have HV := Lib.hid hv'
    have HB1 := Lib.hid ((Below.refl w.heap.size w).alloc (Nat.le_refl _) (.cells #[.int .i64 10, .int .i64 a, .int .i64 b] 74))
    have HX1 := Lib.hid (Blk.new w 74 #[.int .i64 10, .int .i64 a, .int .i64 b])
    have Hl := Lib.hid (And.intro hl hl2)
    have hop := ho1 _ (List.mem_of_getElem? h)
    clear ho' hv' h hl hl2
    go_enter Try.func57, Try.ntmps57
    go_wp2_with fail
    refine (i1 _ _ _ _ _ _ _ (HO.out.grow HB1.out) (HV.out.grow HB1.out)).mono ?_
    rintro e' w2 ⟨rfl, hb2⟩
    have Hb2 := Lib.hid (HB1.out.trans (hb2.mono HB1.out.size))
    have HX2 := Lib.hid (HX1.out.below hb2 HX1.out.lt)
    obtain ⟨y0, y1, y2⟩ := blkS3 HX2.out
    clear hb2 e0 e1 e2
    go_wp2_with fail
    refine (i2 _ _ _ _ _ _ _ (HO.out.grow Hb2.out) (HV.out.grow Hb2.out)).mono ?_
    rintro e' w3 ⟨rfl, hb3⟩
    have Hb3 := Lib.hid (Hb2.out.trans (hb3.mono Hb2.out.size))
    have HX3 := Lib.hid (HX2.out.below hb3 HX2.out.lt)
    clear y0 y1 y2
    obtain ⟨y0, y1, y2⟩ := blkS3 HX3.out
    clear hb3
    go_wp2_with fail
    refine (s_l07Bit _ _).mono ?_
    rintro e' w9 ⟨rfl, rfl⟩
    go_wp2_with fail
    go_ret2
    exact ⟨by rw [HF.out]; rfl, Hb3.out⟩
   ·have q0 : ((x : Int) == (y : Int)) = false := by simp; omega
    have HF := Lib.hid (show binV M 10 x y = 0 by simp [binV, hq])
    clear hq
    intro w A A2 n c n2 c2 ho' hv'
    have hl := ho'.len
    rw [List.length_map] at hl
    have hl2 := hv'.len
    simp only [nI, List.length_map] at hl2
    have hpn : p < n := by have := (List.getElem?_eq_some_iff.1 h).1; omega
    have hp15 : p ≤ 15 := by omega
    obtain ⟨ad, x0, x1, x2, rfl, hab, hx', e0, e1, e2⟩ := fOpS_row ho' hpn
    rw [h] at hx'
    injection hx' with hx'
    injection hx' with hx1 hx2
    injection hx2 with hx2 hx3
    subst hx1 hx2 hx3
    have g1 : (0 : Int) ≤ (p : Int) := by omega
    have g2 : (p : Int) < (n : Int) := by omega
    have HO := Lib.hid ho'
    have HV := Lib.hid hv'
    have HB1 := Lib.hid ((Below.refl w.heap.size w).alloc (Nat.le_refl _) (.cells #[.int .i64 10, .int .i64 a, .int .i64 b] 74))
    have HX1 := Lib.hid (Blk.new w 74 #[.int .i64 10, .int .i64 a, .int .i64 b])
    have Hl := Lib.hid (And.intro hl hl2)
    have hop := ho1 _ (List.mem_of_getElem? h)
    clear ho' hv' h hl hl2
    go_enter Try.func57, Try.ntmps57
    go_wp2_with fail
    refine (i1 _ _ _ _ _ _ _ (HO.out.grow HB1.out) (HV.out.grow HB1.out)).mono ?_
    rintro e' w2 ⟨rfl, hb2⟩
    have Hb2 := Lib.hid (HB1.out.trans (hb2.mono HB1.out.size))
    have HX2 := Lib.hid (HX1.out.below hb2 HX1.out.lt)
    obtain ⟨y0, y1, y2⟩ := blkS3 HX2.out
    clear hb2 e0 e1 e2
    go_wp2_with fail
    refine (i2 _ _ _ _ _ _ _ (HO.out.grow Hb2.out) (HV.out.grow Hb2.out)).mono ?_
    rintro e' w3 ⟨rfl, hb3⟩
    have Hb3 := Lib.hid (Hb2.out.trans (hb3.mono Hb2.out.size))
    have HX3 := Lib.hid (HX2.out.below hb3 HX2.out.lt)
    clear y0 y1 y2
    obtain ⟨y0, y1, y2⟩ := blkS3 HX3.out
    clear hb3
    go_wp2_with fail
    refine (s_l07Bit _ _).mono ?_
    rintro e' w9 ⟨rfl, rfl⟩
    go_wp2_with fail
    go_ret2
    exact ⟨by rw [HF.out]; rfl, Hb3.out⟩
  ·by_cases hq : x < y
   ·have q0 : (x : Int) < (y : Int) := by omega
    have HF := Lib.hid (show binV M 11 x y = 1 by simp [binV, hq])
    clear hq
    intro w A A2 n c n2 c2 ho' hv'
    have hl := ho'.len
    rw [List.length_map] at hl
    have hl2 := hv'.len
    simp only [nI, List.length_map] at hl2
    have hpn : p < n := by have := (List.getElem?_eq_some_iff.1 h).1; omega
    have hp15 : p ≤ 15 := by omega
    obtain ⟨ad, x0, x1, x2, rfl, hab, hx', e0, e1, e2⟩ := fOpS_row ho' hpn
    rw [h] at hx'
    injection hx' with hx'
    injection hx' with hx1 hx2
    injection hx2 with hx2 hx3
    subst hx1 hx2 hx3
    have g1 : (0 : Int) ≤ (p : Int) := by omega
    have g2 : (p : Int) < (n : Int) := by omega
    have HO := Lib.hid ho'
    have HV := Lib.hid hv'
    have HB1 := Lib.hid ((Below.refl w.heap.size w).alloc (Nat.le_refl _) (.cells #[.int .i64 11, .int .i64 a, .int .i64 b] 74))
    have HX1 := Lib.hid (Blk.new w 74 #[.int .i64 11, .int .i64 a, .int .i64 b])
    have Hl := Lib.hid (And.intro hl hl2)
    have hop := ho1 _ (List.mem_of_getElem? h)
    clear ho' hv' h hl hl2
    go_enter Try.func57, Try.ntmps57
    go_wp2_with fail
    refine (i1 _ _ _ _ _ _ _ (HO.out.grow HB1.out) (HV.out.grow HB1.out)).mono ?_
    rintro e' w2 ⟨rfl, hb2⟩
    have Hb2 := Lib.hid (HB1.out.trans (hb2.mono HB1.out.size))
    have HX2 := Lib.hid (HX1.out.below hb2 HX1.out.lt)
    obtain ⟨y0, y1, y2⟩ := blkS3 HX2.out
    clear hb2 e0 e1 e2
    go_wp2_with fail
    refine (i2 _ _ _ _ _ _ _ (HO.out.grow Hb2.out) (HV.out.grow Hb2.out)).mono ?_
    rintro e' w3 ⟨rfl, hb3⟩
    have Hb3 := Lib.hid (Hb2.out.trans (hb3.mono Hb2.out.size))
    have HX3 := Lib.hid (HX2.out.below hb3 HX2.out.lt)
    clear y0 y1 y2
    obtain ⟨y0, y1, y2⟩ := blkS3 HX3.out
    clear hb3
    go_wp2_with fail
    refine (s_l07Bit _ _).mono ?_
    rintro e' w9 ⟨rfl, rfl⟩
    go_wp2_with fail
    go_ret2
    exact ⟨by rw [HF.out]; rfl, Hb3.out⟩
   ·have q0 : (y : Int) ≤ (x : Int) := by omega
    have HF := Lib.hid (show binV M 11 x y = 0 by simp [binV, hq])
    clear hq
    intro w A A2 n c n2 c2 ho' hv'
    have hl := ho'.len
    rw [List.length_map] at hl
    have hl2 := hv'.len
    simp only [nI, List.length_map] at hl2
    have hpn : p < n := by have := (List.getElem?_eq_some_iff.1 h).1; omega
    have hp15 : p ≤ 15 := by omega
    obtain ⟨ad, x0, x1, x2, rfl, hab, hx', e0, e1, e2⟩ := fOpS_row ho' hpn
    rw [h] at hx'
    injection hx' with hx'
    injection hx' with hx1 hx2
    injection hx2 with hx2 hx3
    subst hx1 hx2 hx3
    have g1 : (0 : Int) ≤ (p : Int) := by omega
    have g2 : (p : Int) < (n : Int) := by omega
    have HO := Lib.hid ho'
    have HV := Lib.hid hv'
    have HB1 := Lib.hid ((Below.refl w.heap.size w).alloc (Nat.le_refl _) (.cells #[.int .i64 11, .int .i64 a, .int .i64 b] 74))
    have HX1 := Lib.hid (Blk.new w 74 #[.int .i64 11, .int .i64 a, .int .i64 b])
    have Hl := Lib.hid (And.intro hl hl2)
    have hop := ho1 _ (List.mem_of_getElem? h)
    clear ho' hv' h hl hl2
    go_enter Try.func57, Try.ntmps57
    go_wp2_with fail
    refine (i1 _ _ _ _ _ _ _ (HO.out.grow HB1.out) (HV.out.grow HB1.out)).mono ?_
    rintro e' w2 ⟨rfl, hb2⟩
    have Hb2 := Lib.hid (HB1.out.trans (hb2.mono HB1.out.size))
    have HX2 := Lib.hid (HX1.out.below hb2 HX1.out.lt)
    obtain ⟨y0, y1, y2⟩ := blkS3 HX2.out
    clear hb2 e0 e1 e2
    go_wp2_with fail
    refine (i2 _ _ _ _ _ _ _ (HO.out.grow Hb2.out) (HV.out.grow Hb2.out)).mono ?_
    rintro e' w3 ⟨rfl, hb3⟩
    have Hb3 := Lib.hid (Hb2.out.trans (hb3.mono Hb2.out.size))
    have HX3 := Lib.hid (HX2.out.below hb3 HX2.out.lt)
    clear y0 y1 y2
    obtain ⟨y0, y1, y2⟩ := blkS3 HX3.out
    clear hb3
    go_wp2_with fail
    refine (s_l07Bit _ _).mono ?_
    rintro e' w9 ⟨rfl, rfl⟩
    go_wp2_with fail
    go_ret2
    exact ⟨by rw [HF.out]; rfl, Hb3.out⟩
 | @mux p x y z e f g a b h h1 h2 h3 i1 i2 i3 =>
  have l1 := h1.lt
  have l2 := h2.lt
  have l3 := h3.lt
  by_cases h0 : x = 0
  ·subst h0
   intro w A A2 n c n2 c2 ho' hv'
   have hl := ho'.len
   rw [List.length_map] at hl
   have hl2 := hv'.len
   simp only [nI, List.length_map] at hl2
   have hpn : p < n := by have := (List.getElem?_eq_some_iff.1 h).1; omega
   have hp15 : p ≤ 15 := by omega
   obtain ⟨ad, x0, x1, x2, rfl, hab, hx', e0, e1, e2⟩ := fOpS_row ho' hpn
   rw [h] at hx'
   injection hx' with hx'
   injection hx' with hx1 hx2
   injection hx2 with hx2 hx3
   subst hx1 hx2 hx3
   have g1 : (0 : Int) ≤ (p : Int) := by omega
   have g2 : (p : Int) < (n : Int) := by omega
   have HO := Lib.hid ho'
   have HV := Lib.hid hv'
   have HB1 := Lib.hid ((Below.refl w.heap.size w).alloc (Nat.le_refl _) (.cells #[.int .i64 12, .int .i64 a, .int .i64 b] 74))
   have HX1 := Lib.hid (Blk.new w 74 #[.int .i64 12, .int .i64 a, .int .i64 b])
   have Hl := Lib.hid (And.intro hl hl2)
   have hop := ho1 _ (List.mem_of_getElem? h)
   clear ho' hv' h hl hl2
   go_enter Try.func57, Try.ntmps57
   go_wp2_with fail
   refine (i1 _ _ _ _ _ _ _ (HO.out.grow HB1.out) (HV.out.grow HB1.out)).mono ?_
   rintro e' w2 ⟨rfl, hb2⟩
   have Hb2 := Lib.hid (HB1.out.trans (hb2.mono HB1.out.size))
   have HX2 := Lib.hid (HX1.out.below hb2 HX1.out.lt)
   obtain ⟨y0, y1, y2⟩ := blkS3 HX2.out
   clear hb2 e0 e1 e2
   go_wp2_with fail
   refine (i2 _ _ _ _ _ _ _ (HO.out.grow Hb2.out) (HV.out.grow Hb2.out)).mono ?_
   rintro e' w3 ⟨rfl, hb3⟩
   have Hb3 := Lib.hid (Hb2.out.trans (hb3.mono Hb2.out.size))
   have HX3 := Lib.hid (HX2.out.below hb3 HX2.out.lt)
   clear y0 y1 y2
   obtain ⟨y0, y1, y2⟩ := blkS3 HX3.out
   clear hb3
   go_wp2_with fail
   refine (i3 _ _ _ _ _ _ _ (HO.out.grow Hb3.out) (HV.out.grow Hb3.out)).mono ?_
   rintro e' w4 ⟨rfl, hb4⟩
   have Hb4 := Lib.hid (Hb3.out.trans (hb4.mono Hb3.out.size))
   clear hb4 y0 y1 y2
   go_wp2_with fail
   go_ret2
   exact ⟨rfl, Hb4.out⟩
  ·have q0 : ((x : Int) != 0) = true := by simp; omega
   have H0 := Lib.hid h0
   clear h0
   intro w A A2 n c n2 c2 ho' hv'
   have hl := ho'.len
   rw [List.length_map] at hl
   have hl2 := hv'.len
   simp only [nI, List.length_map] at hl2
   have hpn : p < n := by have := (List.getElem?_eq_some_iff.1 h).1; omega
   have hp15 : p ≤ 15 := by omega
   obtain ⟨ad, x0, x1, x2, rfl, hab, hx', e0, e1, e2⟩ := fOpS_row ho' hpn
   rw [h] at hx'
   injection hx' with hx'
   injection hx' with hx1 hx2
   injection hx2 with hx2 hx3
   subst hx1 hx2 hx3
   have g1 : (0 : Int) ≤ (p : Int) := by omega
   have g2 : (p : Int) < (n : Int) := by omega
   have HO := Lib.hid ho'
   have HV := Lib.hid hv'
   have HB1 := Lib.hid ((Below.refl w.heap.size w).alloc (Nat.le_refl _) (.cells #[.int .i64 12, .int .i64 a, .int .i64 b] 74))
   have HX1 := Lib.hid (Blk.new w 74 #[.int .i64 12, .int .i64 a, .int .i64 b])
   have Hl := Lib.hid (And.intro hl hl2)
   have hop := ho1 _ (List.mem_of_getElem? h)
   clear ho' hv' h hl hl2
   go_enter Try.func57, Try.ntmps57
   go_wp2_with fail
   refine (i1 _ _ _ _ _ _ _ (HO.out.grow HB1.out) (HV.out.grow HB1.out)).mono ?_
   rintro e' w2 ⟨rfl, hb2⟩
   have Hb2 := Lib.hid (HB1.out.trans (hb2.mono HB1.out.size))
   have HX2 := Lib.hid (HX1.out.below hb2 HX1.out.lt)
   obtain ⟨y0, y1, y2⟩ := blkS3 HX2.out
   clear hb2 e0 e1 e2
   go_wp2_with fail
   refine (i2 _ _ _ _ _ _ _ (HO.out.grow Hb2.out) (HV.out.grow Hb2.out)).mono ?_
   rintro e' w3 ⟨rfl, hb3⟩
   have Hb3 := Lib.hid (Hb2.out.trans (hb3.mono Hb2.out.size))
   have HX3 := Lib.hid (HX2.out.below hb3 HX2.out.lt)
   clear y0 y1 y2
   obtain ⟨y0, y1, y2⟩ := blkS3 HX3.out
   clear hb3
   go_wp2_with fail
   refine (i3 _ _ _ _ _ _ _ (HO.out.grow Hb3.out) (HV.out.grow Hb3.out)).mono ?_
   rintro e' w4 ⟨rfl, hb4⟩
   have Hb4 := Lib.hid (Hb3.out.trans (hb4.mono Hb3.out.size))
   clear hb4 y0 y1 y2
   go_wp2_with fail
   go_ret2
   exact ⟨by first | rfl | (rw [if_pos H0.out]; rfl) | (rw [if_neg H0.out]; rfl), Hb4.out⟩
end Go.Proofs.Ytlkjdhjeecogjaa

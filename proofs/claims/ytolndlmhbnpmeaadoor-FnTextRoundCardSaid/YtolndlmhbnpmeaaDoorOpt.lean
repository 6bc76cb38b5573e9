/- Contracts: an operator as a word: the program's and the reference's OpText. -/
import Derived.Test.YtolndlmhbnpmeaaDoorFrameV
import Derived.Test.YtolndlmhbnpmeaaDoorGe
import Derived.Test.YtolndlmhbnpmeaaDoorGh
import Derived.Outline
namespace Go.Proofs.YtolndlmhbnpmeaaDoor
open Go.RowKit

def sgnB (i : Nat) : UInt8 := ([126, 38, 124, 94, 43, 45, 61, 60, 63] : List UInt8).getD i 0
/-- the word of a valid operator -/
def opTx (k a b : Int) : List UInt8 := if k = 0 then Tx.fmtI a else if k = 1 then [87] else if k = 2 then 115 :: Tx.fmtI a else if k = 3 then 115 :: (Tx.fmtI a ++ 46 :: Tx.fmtI b) else [sgnB (k - 4).toNat]
def opTxR (k a b : Int) : List UInt8 := if opB k a b 30 then opTx k a b else []
def OpTxQ (k a b : Int) (w : World) (e : Ending) (w' : World) : Prop := e = .returned (.tuple #[.string ⟨(opTxR k a b).toArray⟩, .bool (opB k a b 30)]) ∧ Below w.heap.size w w'
theorem opB_bd {k a b : Int} (h : opB k a b 30 = true) : 0 ≤ k ∧ k ≤ 12 ∧ 0 ≤ a ∧ a < 30 ∧ 0 ≤ b ∧ b ≤ 3 := by
 unfold opB opAr inR at h
 by_cases h0 : k = 0
 ·rw [if_pos h0] at h; simp at h; omega
 ·rw [if_neg h0] at h
  by_cases h2 : k = 2
  ·rw [if_pos h2] at h; simp at h; omega
  ·rw [if_neg h2] at h
   by_cases h3 : k = 3
   ·rw [if_pos h3] at h; simp at h; omega
   ·rw [if_neg h3] at h
    simp at h
    obtain ⟨⟨h4, h5⟩, h6⟩ := h
    subst h5; subst h6
    repeat (split at h4 <;> try omega)
theorem opTx_len {k a b : Int} : (opTx k a b).length ≤ 50 := by
 have h1 := Tx.fmtI_len a
 have h2 := Tx.fmtI_len b
 unfold opTx
 repeat (split <;> try (simp; try omega))
theorem wcs {B : Nat} {W0 : World} {p : Addr} {u : Value} (h : W0.cell? p = some u) (hp : p.block < B) : ∀ W : Wd (fun w => Below B W0 w), W.val.cell? p = some u := fun W => (W.ok.cell hp).trans h
theorem cat_two (a b : List UInt8) : ((⟨a.toArray⟩ : ByteArray) ++ (⟨b.toArray⟩ : ByteArray)) = ⟨(a ++ b).toArray⟩ := by
 apply ByteArray.ext
 simp [ByteArray.data_append]
theorem sgn_ext {i : Nat} (h : i < 9) : (⟨#[126, 38, 124, 94, 43, 45, 61, 60, 63]⟩ : ByteArray).extract i (i + 1) = ⟨[sgnB i].toArray⟩ := by
 match i, h with
 | 0, _ | 1, _ | 2, _ | 3, _ | 4, _ | 5, _ | 6, _ | 7, _ | 8, _ => decide
theorem sgn_at {i : Nat} (h : i < 9) : signsL[i]? = some ⟨[sgnB i].toArray⟩ := by
 match i, h with
 | 0, _ | 1, _ | 2, _ | 3, _ | 4, _ | 5, _ | 6, _ | 7, _ | 8, _ => rfl
set_option maxRecDepth 100000 in
set_option maxHeartbeats 8000000 in
theorem i_OpText (k a b : Int) (w : World) (hs : SignsAt w) : Calls Tryd.prog 40 #[.agg #[.int .i64 k, .int .i64 a, .int .i64 b]] w (OpTxQ k a b w) := by
 obtain ⟨U, hU⟩ : ∃ U, U = w.alloc (.cells #[.int .i64 k, .int .i64 a, .int .i64 b] 71) := ⟨_, rfl⟩
 have HU := Lib.hid hU
 have HX := Lib.hid (show Blk U w.heap.size 71 #[.int .i64 k, .int .i64 a, .int .i64 b] by rw [hU]; exact Blk.new _ _ _)
 have HB0 := Lib.hid (show Below w.heap.size w U by rw [hU]; exact (Below.refl _ _).alloc (Nat.le_refl _) _)
 have hzu : w.heap.size < U.heap.size := HX.out.lt
 clear hU
 go_enter Tryd.func40, Tryd.ntmps40
 have y0 := HX.out.cell 0
 have y1 := HX.out.cell 1
 have y2 := HX.out.cell 2
 simp only [List.getElem?_toArray, List.getElem?_cons_zero, List.getElem?_cons_succ] at y0 y1 y2
 rw [HU.out] at y0 y1 y2
 go_wp2_with fail
 rw [← HU.out]
 refine (i_opOk k a b 30 U).mono ?_
 rintro e w1 ⟨rfl, hb1⟩
 have HB1 := Lib.hid (HB0.out.trans (hb1.mono (by omega)))
 have HX1 := Lib.hid (HX.out.below hb1 HX.out.lt)
 clear y0 y1 y2 hb1
 have y0 := HX1.out.cell 0
 have y1 := HX1.out.cell 1
 have y2 := HX1.out.cell 2
 simp only [List.getElem?_toArray, List.getElem?_cons_zero, List.getElem?_cons_succ] at y0 y1 y2
 cases hq : opB k a b 30 with
 | false =>
  have HQ := Lib.hid hq
  clear hq
  go_wp2_with fail
  go_ret2
  exact ⟨by unfold opTxR; rw [HQ.out]; rfl, HB1.out⟩
 | true =>
  have HQ := Lib.hid hq
  obtain ⟨k0, k12, a0, a30, b0, b3⟩ := opB_bd hq
  have Hfin := Lib.hid (show opTxR k a b = opTx k a b by unfold opTxR; rw [hq]; rfl)
  have Hia := Lib.hid (show i64B a by unfold i64B; omega)
  have Hib := Lib.hid (show i64B b by unfold i64B; omega)
  have la := Tx.fmtI_len a
  have lb := Tx.fmtI_len b
  have z1 := HB1.out.size
  clear hq
  by_cases c0 : k = 0
  ·subst c0
   go_wp2_with fail
   refine (i_FormatInt a Hia.out w1).mono ?_
   rintro e w2 ⟨rfl, hb2⟩
   have HB2 := Lib.hid (HB1.out.trans (hb2.mono z1))
   clear hb2 y0 y1 y2
   go_wp2_with fail
   go_ret2
   exact ⟨by rw [Hfin.out, HQ.out]; rfl, HB2.out⟩
  by_cases c1 : k = 1
  ·subst c1
   go_wp2_with fail
   go_ret2
   exact ⟨by rw [Hfin.out, HQ.out]; rfl, HB1.out⟩
  by_cases c2 : k = 2
  ·subst c2
   go_wp2_with fail
   refine (i_FormatInt a Hia.out w1).mono ?_
   rintro e w2 ⟨rfl, hb2⟩
   have HB2 := Lib.hid (HB1.out.trans (hb2.mono z1))
   clear hb2 y0 y1 y2
   have hsum1 : (1 : Int) + ((Tx.fmtI a).length : Int) ≤ 8388608 := by omega
   go_wp2_with fail
   go_ret2
   refine ⟨?_, HB2.out⟩
   rw [Hfin.out, HQ.out, show opTx 2 a b = [115] ++ Tx.fmtI a from rfl, ← cat_two]
   rfl
  by_cases c3 : k = 3
  ·subst c3
   go_wp2_with fail
   refine wp_region_lexC (by kernel_rfl) (by kernel_rfl) (fun x => Below w1.heap.size w1 x) ((Below.refl _ _).drew) (fun lexNE => ?_)
   have e1 := wcs (B := w1.heap.size) y1 (show w.heap.size < w1.heap.size from HX1.out.lt)
   have e2 := wcs (B := w1.heap.size) y2 (show w.heap.size < w1.heap.size from HX1.out.lt)
   clear y0 y1 y2
   have hsum1 : (1 : Int) + ((Tx.fmtI a).length : Int) ≤ 8388608 := by omega
   have hsum2 : (1 : Int) + ((Tx.fmtI a).length : Int) + 1 ≤ 8388608 := by omega
   have hsum3 : (1 : Int) + ((Tx.fmtI a).length : Int) + 1 + ((Tx.fmtI b).length : Int) ≤ 8388608 := by omega
   (repeat (first | (refine lex_r fun K hK => ?_; go_big_quiet_op; refine hK _ ?_; clear hK K) | (refine lex_k fun K hK => ?_; go_simp; refine hK _ ?_; clear hK K)))
   (refine lex_e fun K hK => ?_; go_big_op)
   refine (i_FormatInt a Hia.out w1.drew).mono ?_
   rintro e w2 ⟨rfl, hb2⟩
   have HD2 := Lib.hid ((Below.refl w1.heap.size w1).drew.trans hb2)
   refine hK _ _ (Cls.mk' HD2.out) ?_
   clear hK K hb2
   (repeat (first | (refine lex_r fun K hK => ?_; go_big_quiet_op; refine hK _ ?_; clear hK K) | (refine lex_k fun K hK => ?_; go_simp; refine hK _ ?_; clear hK K)))
   (refine lex_e fun K hK => ?_; go_big_op)
   refine (i_FormatInt b Hib.out w2).mono ?_
   rintro e w3 ⟨rfl, hb3⟩
   have HD3 := Lib.hid (HD2.out.trans (hb3.mono HD2.out.size))
   refine hK _ _ (Cls.mk' HD3.out) ?_
   clear hK K hb3
   (repeat (first | (refine lex_r fun K hK => ?_; go_big_quiet_op; refine hK _ ?_; clear hK K) | (refine lex_k fun K hK => ?_; go_simp; refine hK _ ?_; clear hK K)))
   (refine lex_nil ?_)
   clear lexNE e1 e2
   go_wp2_with fail
   go_ret2
   refine ⟨?_, HB1.out.trans (HD3.out.mono z1)⟩
   rw [Hfin.out, HQ.out, show opTx 3 a b = (([115] ++ Tx.fmtI a) ++ [46]) ++ Tx.fmtI b by simp [opTx], ← cat_two, ← cat_two, ← cat_two]
   rfl
  obtain ⟨i, rfl⟩ : ∃ i : Nat, k = 4 + (i : Int) := ⟨(k - 4).toNat, by omega⟩
  have hi9 : i < 9 := by omega
  have Hs1 := Lib.hid (hs.below ((HB1.out)))
  obtain ⟨ad, cap, h9, _, hab, t0, t1⟩ := Hs1.out
  have t2 := t1 i _ (sgn_at hi9)
  have g1 : (i : Int) < 9 := by omega
  have g2 : (0 : Int) ≤ (i : Int) := by omega
  go_wp2_with fail
  go_ret2
  refine ⟨?_, HB1.out⟩
  rw [Hfin.out, HQ.out, show opTx (4 + (i : Int)) a b = [sgnB i] by unfold opTx; rw [if_neg (by omega), if_neg (by omega), if_neg (by omega), if_neg (by omega)]; congr 2; omega]
  rfl
end Go.Proofs.YtolndlmhbnpmeaaDoor

/- Contracts: ParseOp, the program's and the reference's. -/
import Derived.Test.YtkidchinoilgdaaDoorPopI
import Derived.Outline
namespace Go.Proofs.YtkidchinoilgdaaDoor
open Go.RowKit

-- the end: $1 k $2 a $3 b $4 ok $5 world $6 block $7 Below $8 function
-- behind OpText: $1 function $2 world $3 block $4 Below $5 the op's block
set_option maxRecDepth 100000 in
set_option maxHeartbeats 8000000 in
theorem i_ParseOp (s : ByteArray) (hs : s.size ≤ maxLen) (w : World) (hg : SignsAt w) : Calls Tryd.prog 14 #[.string s] w (OpPQ s.data.toList w) := by
 have Hs0 := Lib.hid hs
 unfold maxLen at hs
 obtain ⟨U, hU⟩ : ∃ U, U = w.alloc (.cells #[.int .i64 0, .int .i64 0, .int .i64 0] 26) := ⟨_, rfl⟩
 have HU := Lib.hid hU
 have HX := Lib.hid (show Blk U w.heap.size 26 #[.int .i64 0, .int .i64 0, .int .i64 0] by rw [hU]; exact Blk.new _ _ _)
 have HB0 := Lib.hid (show Below w.heap.size w U by rw [hU]; exact (Below.refl _ _).alloc (Nat.le_refl _) _)
 have hzu : w.heap.size < U.heap.size := HX.out.lt
 obtain ⟨l, hl⟩ : ∃ l, l = s.data.toList := ⟨_, rfl⟩
 have Hl := Lib.hid hl
 have hlb : s.toList = l := by rw [hl]; exact tl_eq s
 rw [← hl]
 clear hl hU
 go_enter Tryd.func14, Tryd.ntmps14
 go_wp2_with fail
 rw [← HU.out]
 refine (i_parseOp s Hs0.out U (hg.below HB0.out)).mono ?_
 rintro e w1 ⟨rfl, hb1⟩
 rw [← Hl.out]
 obtain ⟨k, hk⟩ : ∃ k, k = (rdI l).1 := ⟨_, rfl⟩
 obtain ⟨a, ha⟩ : ∃ a, a = (rdI l).2.1 := ⟨_, rfl⟩
 obtain ⟨b, hb⟩ : ∃ b, b = (rdI l).2.2 := ⟨_, rfl⟩
 rw [← hk, ← ha, ← hb]
 have HP := Lib.hid (show opPR l = if (opB k a b 30 && decide (opTx k a b = l)) then ((k, a, b), true) else ((0, 0, 0), false) by rw [hk, ha, hb]; rfl)
 obtain ⟨W2, hW2⟩ : ∃ W2, W2 = w1.alloc (.cells #[.int .i64 k, .int .i64 a, .int .i64 b] 26) := ⟨_, rfl⟩
 have HW2 := Lib.hid hW2
 have HX2 := Lib.hid (show Blk W2 w.heap.size 26 #[.int .i64 0, .int .i64 0, .int .i64 0] by rw [hW2]; exact (HX.out.below hb1 hzu).alloc _)
 have HO2 := Lib.hid (show Blk W2 w1.heap.size 26 #[.int .i64 k, .int .i64 a, .int .i64 b] by rw [hW2]; exact Blk.new _ _ _)
 have HB2 := Lib.hid (show Below w.heap.size w W2 by rw [hW2]; exact (HB0.out.trans (hb1.mono (by omega))).alloc (by have := hb1.size; omega) _)
 have hne : w.heap.size < w1.heap.size := by have := hb1.size; omega
 obtain ⟨y0, y1, y2⟩ := bk3 HO2.out
 rw [hW2] at y0 y1 y2
 clear hk ha hb hW2 hb1
 go_wp2_with fail
 rw [← HW2.out]
 refine (i_OpText k a b W2 (hg.below HB2.out)).mono ?_
 rintro e w3 ⟨rfl, hb3⟩
 have HX3 := Lib.hid (HX2.out.below hb3 HX2.out.lt)
 have HO3 := Lib.hid (HO2.out.below hb3 HO2.out.lt)
 have HB3 := Lib.hid (HB2.out.trans (hb3.mono HB2.out.size))
 clear hb3 y0 y1 y2
 unfold OpPQ
 cases hq : opB (k) (a) (b) 30 with
 | false =>
  have HQ := Lib.hid hq
  clear hq
  obtain ⟨r0, r1, r2⟩ := bk3 HX3.out
  have f0 := (HX3.out).frozen 0
  have f1 := (HX3.out).frozen 1
  have f2 := (HX3.out).frozen 2
  go_wp2_with fail
  clear r0 r1 r2 f0 f1 f2
  obtain ⟨wf, hwf⟩ : ∃ wf, wf = (((w3.setCell ⟨w.heap.size, 0, none⟩ (.int .i64 (0))).setCell ⟨w.heap.size, 1, none⟩ (.int .i64 (0))).setCell ⟨w.heap.size, 2, none⟩ (.int .i64 (0))) := ⟨_, rfl⟩
  have hRf : Blk wf w.heap.size 26 #[.int .i64 (0), .int .i64 (0), .int .i64 (0)] := by rw [hwf]; exact ((HX3.out.set_ 0 _).set_ 1 _).set_ 2 _
  have hBf : Below w.heap.size w wf := by rw [hwf]; exact (((HB3.out).setCell (Nat.le_refl _) _).setCell (Nat.le_refl _) _).setCell (Nat.le_refl _) _
  obtain ⟨s0, s1, s2⟩ := bk3 hRf
  rw [← hwf]
  refine bodyPost_ret (v := .tuple #[.agg #[.int .i64 (0), .int .i64 (0), .int .i64 (0)], .bool false]) (by simp [results, Tryd.results14, go_sem, s0, s1, s2]) rfl ⟨?_, hBf⟩
  rw [HP.out, HQ.out]
  rfl
 | true =>
  have HQ := Lib.hid hq
  have Htx := Lib.hid (show opTxR (k) (a) (b) = opTx (k) (a) (b) by unfold opTxR; rw [hq]; rfl)
  rw [Htx.out]
  obtain ⟨tx, htx⟩ : ∃ t, t = opTx (k) (a) (b) := ⟨_, rfl⟩
  rw [← htx]
  have HT := Lib.hid htx
  have ht : (⟨tx.toArray⟩ : ByteArray).toList = tx := by rw [tl_eq]
  clear hq htx
  obtain ⟨y0, y1, y2⟩ := bk3 HO3.out
  by_cases he : tx = l
  ·have hc : (tx == l) = true := by rw [he]; exact beq_self_eq_true _
   have He := Lib.hid he
   clear he
   obtain ⟨r0, r1, r2⟩ := bk3 HX3.out
   have f0 := (HX3.out).frozen 0
   have f1 := (HX3.out).frozen 1
   have f2 := (HX3.out).frozen 2
   go_wp2_with fail
   clear y0 y1 y2
   clear r0 r1 r2 f0 f1 f2
   obtain ⟨wf, hwf⟩ : ∃ wf, wf = (((w3.setCell ⟨w.heap.size, 0, none⟩ (.int .i64 (k))).setCell ⟨w.heap.size, 1, none⟩ (.int .i64 (a))).setCell ⟨w.heap.size, 2, none⟩ (.int .i64 (b))) := ⟨_, rfl⟩
   have hRf : Blk wf w.heap.size 26 #[.int .i64 (k), .int .i64 (a), .int .i64 (b)] := by rw [hwf]; exact ((HX3.out.set_ 0 _).set_ 1 _).set_ 2 _
   have hBf : Below w.heap.size w wf := by rw [hwf]; exact (((HB3.out).setCell (Nat.le_refl _) _).setCell (Nat.le_refl _) _).setCell (Nat.le_refl _) _
   obtain ⟨s0, s1, s2⟩ := bk3 hRf
   rw [← hwf]
   refine bodyPost_ret (v := .tuple #[.agg #[.int .i64 (k), .int .i64 (a), .int .i64 (b)], .bool true]) (by simp [results, Tryd.results14, go_sem, s0, s1, s2]) rfl ⟨?_, hBf⟩
   rw [HP.out, HQ.out, ← HT.out, He.out]
   simp
  ·have hc : (tx == l) = false := lb_no he
   have He := Lib.hid he
   clear he
   obtain ⟨r0, r1, r2⟩ := bk3 HX3.out
   have f0 := (HX3.out).frozen 0
   have f1 := (HX3.out).frozen 1
   have f2 := (HX3.out).frozen 2
   go_wp2_with fail
   clear y0 y1 y2
   clear r0 r1 r2 f0 f1 f2
   obtain ⟨wf, hwf⟩ : ∃ wf, wf = (((w3.setCell ⟨w.heap.size, 0, none⟩ (.int .i64 (0))).setCell ⟨w.heap.size, 1, none⟩ (.int .i64 (0))).setCell ⟨w.heap.size, 2, none⟩ (.int .i64 (0))) := ⟨_, rfl⟩
   have hRf : Blk wf w.heap.size 26 #[.int .i64 (0), .int .i64 (0), .int .i64 (0)] := by rw [hwf]; exact ((HX3.out.set_ 0 _).set_ 1 _).set_ 2 _
   have hBf : Below w.heap.size w wf := by rw [hwf]; exact (((HB3.out).setCell (Nat.le_refl _) _).setCell (Nat.le_refl _) _).setCell (Nat.le_refl _) _
   obtain ⟨s0, s1, s2⟩ := bk3 hRf
   rw [← hwf]
   refine bodyPost_ret (v := .tuple #[.agg #[.int .i64 (0), .int .i64 (0), .int .i64 (0)], .bool false]) (by simp [results, Tryd.results14, go_sem, s0, s1, s2]) rfl ⟨?_, hBf⟩
   rw [HP.out, HQ.out, ← HT.out, decide_eq_false He.out]
   rfl
end Go.Proofs.YtkidchinoilgdaaDoor

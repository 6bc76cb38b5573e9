/- Contracts: an operator read out of a word: the reference's functions. -/
import Derived.Test.YtkidchinoilgdaaDoorPopI
import Derived.Outline
namespace Go.Proofs.YtkidchinoilgdaaDoor
open Go.RowKit

-- the end: $1 k $2 a $3 b $4 ok $5 world $6 block $7 Below $8 function
-- behind OpText: $1 function $2 world $3 block $4 Below $5 the op's block
theorem tlS_of {l : List UInt8} (h : ¬ l.length < 2) : tlS l = match Tx.pu l.tail with | some n => (n : Int) | none => -1 := by unfold tlS; rw [if_neg h]; cases Tx.pu l.tail <;> rfl
set_option maxRecDepth 100000 in
set_option maxHeartbeats 4000000 in
theorem s_l05Tail (s : ByteArray) (hs : s.size ≤ maxLen) (w : World) : Calls Tryd.prog 38 #[.string s] w fun e w' => e = .returned (.int .i64 (tlS s.data.toList)) ∧ Below w.heap.size w w' := by
 have Hs0 := Lib.hid hs
 unfold maxLen at hs
 have Hsz := Lib.hid (sz_list s)
 go_enter Tryd.func38, Tryd.ntmps38
 by_cases h2 : s.size < 2
 ·have h2i : (s.size : Int) < 2 := by omega
  go_wp2_with fail
  go_ret
  exact ⟨by unfold tlS; rw [if_pos (by rw [← Hsz.out]; exact h2)]; rfl, Below.refl _ _⟩
 ·have h2i : ¬ (s.size : Int) < 2 := by omega
  have k1 : (1 : Int) ≤ (s.size : Int) := by omega
  go_wp2_with fail
  refine (s_ParseUint (s.extract 1 s.size) (by rw [ByteArray.size_extract]; unfold maxLen; omega) w).mono ?_
  rintro e w1 ⟨rfl, hb1⟩
  have Hea := Lib.hid (show (s.extract 1 s.size).data.toList = s.data.toList.tail by
   rw [ext_list, List.take_of_length_le (by rw [List.length_drop, ← Hsz.out]; omega)]
   cases s.data.toList <;> rfl)
  rw [Hea.out]
  have HT := Lib.hid (tlS_of (l := s.data.toList) (by rw [← Hsz.out]; exact h2))
  cases hp : Tx.pu s.data.toList.tail with
  | none =>
   have Hp := Lib.hid hp
   rw [puV_none hp]
   clear hp
   go_wp2_with fail
   go_ret
   exact ⟨by rw [HT.out, Hp.out]; rfl, hb1⟩
  | some n =>
   have Hp := Lib.hid hp
   rw [puV_some hp]
   clear hp
   go_wp2_with fail
   go_ret
   exact ⟨by rw [HT.out, Hp.out]; rfl, hb1⟩
-- behind the reading of an operator's fields (region 21 ahead): $1 world $2 result block $3 Below $4 the op's block
-- a signal's word: $1 kind $2 bit $3 the number's word $4 its size $5 its letters $6 are that $7 what the reference reads
-- field $1 of the op's block is set to $2 in world $3; cells behind $4 $5 $6
set_option maxRecDepth 100000 in
set_option maxHeartbeats 16000000 in
theorem s_ParseOp (s : ByteArray) (hs : s.size ≤ maxLen) (w : World) : Calls Tryd.prog 13 #[.string s] w (OpPQ s.data.toList w) := by
 have Hs0 := Lib.hid hs
 unfold maxLen at hs
 obtain ⟨U, hU⟩ : ∃ U, U = w.alloc (.cells #[.int .i64 0, .int .i64 0, .int .i64 0] 26) := ⟨_, rfl⟩
 have HU := Lib.hid hU
 have HX := Lib.hid (show Blk U w.heap.size 26 #[.int .i64 0, .int .i64 0, .int .i64 0] by rw [hU]; exact Blk.new _ _ _)
 have HB0 := Lib.hid (show Below w.heap.size w U by rw [hU]; exact (Below.refl _ _).alloc (Nat.le_refl _) _)
 have hzu : w.heap.size < U.heap.size := HX.out.lt
 obtain ⟨l, hl⟩ : ∃ l, l = s.data.toList := ⟨_, rfl⟩
 have Hl := Lib.hid hl
 have hlb : s.toList = l := by rw [hl]; exact tl_eq s
 rw [← hl]
 unfold OpPQ
 clear hl hU
 go_enter Tryd.func13, Tryd.ntmps13
 by_cases hW : l = [87]
 ·have hc : (l == [87]) = true := by rw [hW]; rfl
  go_wp2_with fail
  obtain ⟨s0, s1, s2⟩ := bk3 (Blk.new w 26 #[.int .i64 1, .int .i64 0, .int .i64 0])
  refine bodyPost_ret (v := .tuple #[.agg #[.int .i64 1, .int .i64 0, .int .i64 0], .bool true]) (by simp [results, Tryd.results13, go_sem, s0, s1, s2]) rfl ⟨?_, (Below.refl _ _).alloc (Nat.le_refl _) _⟩
  rw [hW, opPR_yes (k := 1) (a := 0) (b := 0) (by decide) (by decide)]
 have hc : (l == [87]) = false := lb_no hW
 have HW := Lib.hid hW
 go_wp2_with fail
 rw [← HU.out]
 clear hW hc
 go_loopw [4, 5, 6] (fun kv _ _ wr => ∃ i : Nat, i ≤ 9 ∧ kv = .int .i64 (4 + (i : Int)) ∧ Hid (∀ j, j < i → l ≠ [sgnB j]) ∧ Below U.heap.size U wr) (fun kv _ _ _ => 13 - (intOf kv).toNat)
 case atStart => exact ⟨0, Nat.zero_le _, rfl, Lib.hid (fun j h => absurd h (Nat.not_lt_zero _)), Below.refl _ _⟩
 case round =>
  obtain ⟨i, hi, rfl, Hs, hb⟩ := hrel
  have Hb := Lib.hid hb
  have HXr := Lib.hid (HX.out.below hb hzu)
  have HBr := Lib.hid (HB0.out.trans (hb.mono (by omega)))
  have zr := hb.size
  clear hb
  by_cases hlt : i < 9
  ·have g1 : 4 + (i : Int) ≤ 12 := by omega
   go_wp2_with fail
   refine (s_OpText (4 + (i : Int)) 0 0 wr).mono ?_
   rintro e w1 ⟨rfl, hb1⟩
   have HX1 := Lib.hid (HXr.out.below hb1 HXr.out.lt)
   have HB1 := Lib.hid (HBr.out.trans (hb1.mono HBr.out.size))
   have Hb1 := Lib.hid (Hb.out.trans (hb1.mono zr))
   clear hb1
   rw [(sgn_op hlt).1, show opTxR (4 + (i : Int)) 0 0 = [sgnB i] by unfold opTxR; rw [(sgn_op hlt).1, if_pos rfl, (sgn_op hlt).2]]
   have ht : (⟨[sgnB i].toArray⟩ : ByteArray).toList = [sgnB i] := tl_eq _
   by_cases hq : l = [sgnB i]
   ·have hc : ([sgnB i] == l) = true := by rw [hq]; exact beq_self_eq_true _
    obtain ⟨r0, r1, r2⟩ := bk3 HX1.out
    have f0 := (HX1.out).frozen 0
    have f1 := (HX1.out).frozen 1
    have f2 := (HX1.out).frozen 2
    go_wp2_with fail
    clear r0 r1 r2 f0 f1 f2
    obtain ⟨wf, hwf⟩ : ∃ wf, wf = (((w1.setCell ⟨w.heap.size, 0, none⟩ (.int .i64 (4 + (i : Int)))).setCell ⟨w.heap.size, 1, none⟩ (.int .i64 (0))).setCell ⟨w.heap.size, 2, none⟩ (.int .i64 (0))) := ⟨_, rfl⟩
    have hRf : Blk wf w.heap.size 26 #[.int .i64 (4 + (i : Int)), .int .i64 (0), .int .i64 (0)] := by rw [hwf]; exact ((HX1.out.set_ 0 _).set_ 1 _).set_ 2 _
    have hBf : Below w.heap.size w wf := by rw [hwf]; exact (((HB1.out).setCell (Nat.le_refl _) _).setCell (Nat.le_refl _) _).setCell (Nat.le_refl _) _
    obtain ⟨s0, s1, s2⟩ := bk3 hRf
    rw [← hwf]
    refine bodyPost_ret (v := .tuple #[.agg #[.int .i64 (4 + (i : Int)), .int .i64 (0), .int .i64 (0)], .bool true]) (by simp [results, Tryd.results13, go_sem, s0, s1, s2]) rfl ⟨?_, hBf⟩
    rw [hq, opPR_yes (sgn_op hlt).1 (sgn_op hlt).2]
   ·have hc : ([sgnB i] == l) = false := lb_no (fun e => hq e.symm)
    have Hq := Lib.hid hq
    clear hq
    go_wp2_with fail
    go_roundw
    case rel => exact ⟨i + 1, by omega, by go_num, Lib.hid (fun j hj => by
     rcases Nat.lt_succ_iff_lt_or_eq.1 hj with h | h
     ·exact Hs.out j h
     ·subst h; exact Hq.out), Hb1.out⟩
    case measure => simp [intOf]; omega
  obtain rfl : i = 9 := by omega
  have HR := Lib.hid (fun k a b (h : rdS l = some (k, a, b)) => opPR_of (l := l) (k := k) (a := a) (b := b) (fun k' a' b' h1 h2 => by have h3 := rdS_op HW.out Hs.out h1 h2; rw [h] at h3; injection h3 with h3; exact h3.symm))
  have HRn := Lib.hid (fun (h : rdS l = none) => opPR_no (l := l) (fun k' a' b' h1 h2 => by have h3 := rdS_op HW.out Hs.out h1 h2; rw [h] at h3; cases h3))
  have Hsl := Lib.hid (show s.size = l.length by rw [sz_list, ← Hl.out])
  clear hi hlt
  obtain ⟨W1, hW1⟩ : ∃ W1, W1 = wr.alloc (.cells #[.int .i64 0, .int .i64 0, .int .i64 0] 26) := ⟨_, rfl⟩
  obtain ⟨go, hgo⟩ : ∃ g, g = wr.heap.size := ⟨_, rfl⟩
  have HW1 := Lib.hid hW1
  have HGo := Lib.hid hgo
  have HX1 := Lib.hid (show Blk W1 w.heap.size 26 #[.int .i64 0, .int .i64 0, .int .i64 0] by rw [hW1]; exact HXr.out.alloc _)
  have HO1 := Lib.hid (show Blk W1 go 26 #[.int .i64 0, .int .i64 0, .int .i64 0] by rw [hW1, hgo]; exact Blk.new _ _ _)
  have HB1 := Lib.hid (show Below w.heap.size w W1 by rw [hW1]; exact HBr.out.alloc (by omega) _)
  have hgo1 : w.heap.size < go := by omega
  have hgo2 : go < W1.heap.size := HO1.out.lt
  clear hW1 hgo
  by_cases h0 : l.head? = some 115
  ·obtain ⟨t, ht⟩ : ∃ t, l = 115 :: t := by
    cases l with
    | nil => simp at h0
    | cons c t => simp at h0; subst h0; exact ⟨t, rfl⟩
   have hpos : 0 < s.size := by rw [Hsl.out, ht]; simp
   have hpos2 : (0 : Int) < (s.size : Int) := by omega
   have h115 : s[0].toNat = 115 := by
    have h1 := str_get (s := s) (l := l) (k := 0) Hl.out hpos
    rw [ht] at h1
    have h2 : s[0] = 115 := by simpa using h1.symm
    rw [h2]
    rfl
   have Ht := Lib.hid ht
   clear ht h0
   have HS0 := Lib.hid (show rdS l = (if 3 < l.length ∧ l.getD (l.length - 2) 0 = 46 then some (3, tlS (l.take (l.length - 2)), ((l.getD (l.length - 1) 0).toNat : Int) - 48) else some (2, tlS l, 0)) by unfold rdS; rw [if_pos (by rw [Ht.out]; rfl)])
   by_cases hd : 3 < s.size
   ·have hd2 : (3 : Int) < (s.size : Int) := by omega
    obtain ⟨q1, hq1⟩ : ∃ q : Nat, (s.size : Int) - 1 = (q : Int) := ⟨s.size - 1, by omega⟩
    obtain ⟨q2, hq2⟩ : ∃ q : Nat, (s.size : Int) - 2 = (q : Int) := ⟨s.size - 2, by omega⟩
    have l1 : q1 < s.size := by omega
    have l2 : q2 < s.size := by omega
    have l2i : (q2 : Int) ≤ (s.size : Int) := by omega
    have l1j : (q1 : Int) < (s.size : Int) := by omega
    have l2j : (q2 : Int) < (s.size : Int) := by omega
    have G1 := Lib.hid (str_get (s := s) (l := l) (k := q1) Hl.out l1)
    have G2 := Lib.hid (str_get (s := s) (l := l) (k := q2) Hl.out l2)
    have E1 := Lib.hid (show l.length - 1 = q1 by rw [← Hsl.out]; omega)
    have E2 := Lib.hid (show l.length - 2 = q2 by rw [← Hsl.out]; omega)
    by_cases h46 : s[q2].toNat = 46
    ·have h46' : s[q2] = 46 := UInt8.toNat_inj.1 (by rw [h46]; rfl)
     have Hrd := Lib.hid (show rdS l = some (3, tlS (l.take q2), (s[q1].toNat : Int) - 48) by
      rw [HS0.out, E1.out, E2.out, if_pos ⟨by rw [← Hsl.out]; omega, by rw [List.getD_eq_getElem?_getD, G2.out, h46']; rfl⟩, List.getD_eq_getElem?_getD, G1.out]
      rfl)
     have hb8 := s[q1].toNat_lt
     clear h46'
     obtain ⟨vb, hvb⟩ : ∃ v : Int, (s[q1].toNat : Int) - 48 = v := ⟨_, rfl⟩
     have Hvb := Lib.hid hvb
     go_wp2_with fail
     have HE := Lib.hid (show (s.extract 0 q2).data.toList = l.take q2 by rw [ext_list, List.drop_zero, ← Hl.out]; rfl)
     obtain ⟨W5, hW5⟩ : ∃ W5, W5 = wr.alloc (.cells #[.int .i64 (3), .int .i64 0, .int .i64 (vb)] 26) := ⟨_, rfl⟩
     have HX5 := Lib.hid (show Blk W5 w.heap.size 26 #[.int .i64 0, .int .i64 0, .int .i64 0] by rw [hW5]; exact HXr.out.alloc _)
     have HO5 := Lib.hid (show Blk W5 go 26 #[.int .i64 (3), .int .i64 0, .int .i64 (vb)] by rw [hW5, HGo.out]; exact Blk.new _ _ _)
     have HB5 := Lib.hid (show Below w.heap.size w W5 by rw [hW5]; exact HBr.out.alloc (by omega) _)
     rw [← hW5, ← HGo.out]
     clear hW5
     refine (s_l05Tail (s.extract 0 q2) (by rw [ByteArray.size_extract]; unfold maxLen; omega) W5).mono ?_
     rintro e w2 ⟨rfl, hb2⟩
     rw [HE.out]
     obtain ⟨va, hva⟩ : ∃ v, v = tlS (l.take q2) := ⟨_, rfl⟩
     have Hva := Lib.hid hva
     rw [← hva]
     have HX2 := Lib.hid (HX5.out.below hb2 HX5.out.lt)
     have HO2 := Lib.hid (HO5.out.below hb2 HO5.out.lt)
     have HB2 := Lib.hid (HB5.out.trans (hb2.mono HB5.out.size))
     have HP := Lib.hid (HR.out (3) va (vb) (by rw [Hrd.out, ← Hvb.out, Hva.out]))
     clear hb2 hva
     obtain ⟨W3, hW3⟩ : ∃ W3, W3 = w2.setCell ⟨go, 1, none⟩ (.int .i64 va) := ⟨_, rfl⟩
     have HX3 := Lib.hid (show Blk W3 w.heap.size 26 #[.int .i64 0, .int .i64 0, .int .i64 0] by rw [hW3]; exact HX2.out.far (p := ⟨go, 1, none⟩) (by show w.heap.size ≠ go; omega) _)
     have HO3 := Lib.hid (show Blk W3 go 26 #[.int .i64 (3), .int .i64 (va), .int .i64 (vb)] by rw [hW3]; exact HO2.out.set_ 1 _)
     have HB3 := Lib.hid (show Below w.heap.size w W3 by rw [hW3]; exact HB2.out.setCell (by show w.heap.size ≤ go; omega) _)
     obtain ⟨o0, o1, o2⟩ := bk3 HO2.out
     have fo0 := (HO2.out).frozen 0
     have fo1 := (HO2.out).frozen 1
     have fo2 := (HO2.out).frozen 2
     obtain ⟨y0, y1, y2⟩ := bk3 HO3.out
     rw [hW3] at y0 y1 y2
     go_wp2_with fail
     rw [← hW3]
     clear hW3 y0 y1 y2 o0 o1 o2 fo0 fo1 fo2
     refine (s_OpText (3) (va) (vb) W3).mono ?_
     rintro e w9 ⟨rfl, hb9⟩
     have HX9 := Lib.hid (HX3.out.below hb9 HX3.out.lt)
     have HO9 := Lib.hid (HO3.out.below hb9 HO3.out.lt)
     have HB9 := Lib.hid (HB3.out.trans (hb9.mono HB3.out.size))
     clear hb9
     cases hq : opB (3) (va) (vb) 30 with
     | false =>
      have HQ := Lib.hid hq
      clear hq
      obtain ⟨r0, r1, r2⟩ := bk3 HX9.out
      have f0 := (HX9.out).frozen 0
      have f1 := (HX9.out).frozen 1
      have f2 := (HX9.out).frozen 2
      go_wp2_with fail
      clear r0 r1 r2 f0 f1 f2
      obtain ⟨wf, hwf⟩ : ∃ wf, wf = (((w9.setCell ⟨w.heap.size, 0, none⟩ (.int .i64 (0))).setCell ⟨w.heap.size, 1, none⟩ (.int .i64 (0))).setCell ⟨w.heap.size, 2, none⟩ (.int .i64 (0))) := ⟨_, rfl⟩
      have hRf : Blk wf w.heap.size 26 #[.int .i64 (0), .int .i64 (0), .int .i64 (0)] := by rw [hwf]; exact ((HX9.out.set_ 0 _).set_ 1 _).set_ 2 _
      have hBf : Below w.heap.size w wf := by rw [hwf]; exact (((HB9.out).setCell (Nat.le_refl _) _).setCell (Nat.le_refl _) _).setCell (Nat.le_refl _) _
      obtain ⟨s0, s1, s2⟩ := bk3 hRf
      rw [← hwf]
      refine bodyPost_ret (v := .tuple #[.agg #[.int .i64 (0), .int .i64 (0), .int .i64 (0)], .bool false]) (by simp [results, Tryd.results13, go_sem, s0, s1, s2]) rfl ⟨?_, hBf⟩
      rw [HP.out, HQ.out]
      rfl
     | true =>
      have HQ := Lib.hid hq
      have Htx := Lib.hid (show opTxR (3) (va) (vb) = opTx (3) (va) (vb) by unfold opTxR; rw [hq]; rfl)
      rw [Htx.out]
      obtain ⟨tx, htx⟩ : ∃ t, t = opTx (3) (va) (vb) := ⟨_, rfl⟩
      rw [← htx]
      have HT := Lib.hid htx
      have ht : (⟨tx.toArray⟩ : ByteArray).toList = tx := by rw [tl_eq]
      clear hq htx
      obtain ⟨y0, y1, y2⟩ := bk3 HO9.out
      by_cases he : tx = l
      ·have hc : (tx == l) = true := by rw [he]; exact beq_self_eq_true _
       have He := Lib.hid he
       clear he
       obtain ⟨r0, r1, r2⟩ := bk3 HX9.out
       have f0 := (HX9.out).frozen 0
       have f1 := (HX9.out).frozen 1
       have f2 := (HX9.out).frozen 2
       go_wp2_with fail
       clear y0 y1 y2
       clear r0 r1 r2 f0 f1 f2
       obtain ⟨wf, hwf⟩ : ∃ wf, wf = (((w9.setCell ⟨w.heap.size, 0, none⟩ (.int .i64 (3))).setCell ⟨w.heap.size, 1, none⟩ (.int .i64 (va))).setCell ⟨w.heap.size, 2, none⟩ (.int .i64 (vb))) := ⟨_, rfl⟩
       have hRf : Blk wf w.heap.size 26 #[.int .i64 (3), .int .i64 (va), .int .i64 (vb)] := by rw [hwf]; exact ((HX9.out.set_ 0 _).set_ 1 _).set_ 2 _
       have hBf : Below w.heap.size w wf := by rw [hwf]; exact (((HB9.out).setCell (Nat.le_refl _) _).setCell (Nat.le_refl _) _).setCell (Nat.le_refl _) _
       obtain ⟨s0, s1, s2⟩ := bk3 hRf
       rw [← hwf]
       refine bodyPost_ret (v := .tuple #[.agg #[.int .i64 (3), .int .i64 (va), .int .i64 (vb)], .bool true]) (by simp [results, Tryd.results13, go_sem, s0, s1, s2]) rfl ⟨?_, hBf⟩
       rw [HP.out, HQ.out, ← HT.out, He.out]
       simp
      ·have hc : (tx == l) = false := lb_no he
       have He := Lib.hid he
       clear he
       obtain ⟨r0, r1, r2⟩ := bk3 HX9.out
       have f0 := (HX9.out).frozen 0
       have f1 := (HX9.out).frozen 1
       have f2 := (HX9.out).frozen 2
       go_wp2_with fail
       clear y0 y1 y2
       clear r0 r1 r2 f0 f1 f2
       obtain ⟨wf, hwf⟩ : ∃ wf, wf = (((w9.setCell ⟨w.heap.size, 0, none⟩ (.int .i64 (0))).setCell ⟨w.heap.size, 1, none⟩ (.int .i64 (0))).setCell ⟨w.heap.size, 2, none⟩ (.int .i64 (0))) := ⟨_, rfl⟩
       have hRf : Blk wf w.heap.size 26 #[.int .i64 (0), .int .i64 (0), .int .i64 (0)] := by rw [hwf]; exact ((HX9.out.set_ 0 _).set_ 1 _).set_ 2 _
       have hBf : Below w.heap.size w wf := by rw [hwf]; exact (((HB9.out).setCell (Nat.le_refl _) _).setCell (Nat.le_refl _) _).setCell (Nat.le_refl _) _
       obtain ⟨s0, s1, s2⟩ := bk3 hRf
       rw [← hwf]
       refine bodyPost_ret (v := .tuple #[.agg #[.int .i64 (0), .int .i64 (0), .int .i64 (0)], .bool false]) (by simp [results, Tryd.results13, go_sem, s0, s1, s2]) rfl ⟨?_, hBf⟩
       rw [HP.out, HQ.out, ← HT.out, decide_eq_false He.out]
       rfl
    ·have n46 : ¬ s[q2] = 46 := fun e => h46 (by rw [e]; rfl)
     have Hrd := Lib.hid (show rdS l = some (2, tlS l, 0) by
      rw [HS0.out, E2.out, if_neg]
      rintro ⟨_, h⟩
      rw [List.getD_eq_getElem?_getD, G2.out] at h
      exact n46 h)
     have HE := Lib.hid Hl.out.symm
     clear n46
     go_wp2_with fail
     obtain ⟨W5, hW5⟩ : ∃ W5, W5 = wr.alloc (.cells #[.int .i64 (2), .int .i64 0, .int .i64 (0)] 26) := ⟨_, rfl⟩
     have HX5 := Lib.hid (show Blk W5 w.heap.size 26 #[.int .i64 0, .int .i64 0, .int .i64 0] by rw [hW5]; exact HXr.out.alloc _)
     have HO5 := Lib.hid (show Blk W5 go 26 #[.int .i64 (2), .int .i64 0, .int .i64 (0)] by rw [hW5, HGo.out]; exact Blk.new _ _ _)
     have HB5 := Lib.hid (show Below w.heap.size w W5 by rw [hW5]; exact HBr.out.alloc (by omega) _)
     rw [← hW5, ← HGo.out]
     clear hW5
     refine (s_l05Tail (s) Hs0.out W5).mono ?_
     rintro e w2 ⟨rfl, hb2⟩
     rw [HE.out]
     obtain ⟨va, hva⟩ : ∃ v, v = tlS (l) := ⟨_, rfl⟩
     have Hva := Lib.hid hva
     rw [← hva]
     have HX2 := Lib.hid (HX5.out.below hb2 HX5.out.lt)
     have HO2 := Lib.hid (HO5.out.below hb2 HO5.out.lt)
     have HB2 := Lib.hid (HB5.out.trans (hb2.mono HB5.out.size))
     have HP := Lib.hid (HR.out (2) va (0) (by rw [Hrd.out, Hva.out]))
     clear hb2 hva
     obtain ⟨W3, hW3⟩ : ∃ W3, W3 = w2.setCell ⟨go, 1, none⟩ (.int .i64 va) := ⟨_, rfl⟩
     have HX3 := Lib.hid (show Blk W3 w.heap.size 26 #[.int .i64 0, .int .i64 0, .int .i64 0] by rw [hW3]; exact HX2.out.far (p := ⟨go, 1, none⟩) (by show w.heap.size ≠ go; omega) _)
     have HO3 := Lib.hid (show Blk W3 go 26 #[.int .i64 (2), .int .i64 (va), .int .i64 (0)] by rw [hW3]; exact HO2.out.set_ 1 _)
     have HB3 := Lib.hid (show Below w.heap.size w W3 by rw [hW3]; exact HB2.out.setCell (by show w.heap.size ≤ go; omega) _)
     obtain ⟨o0, o1, o2⟩ := bk3 HO2.out
     have fo0 := (HO2.out).frozen 0
     have fo1 := (HO2.out).frozen 1
     have fo2 := (HO2.out).frozen 2
     obtain ⟨y0, y1, y2⟩ := bk3 HO3.out
     rw [hW3] at y0 y1 y2
     go_wp2_with fail
     rw [← hW3]
     clear hW3 y0 y1 y2 o0 o1 o2 fo0 fo1 fo2
     refine (s_OpText (2) (va) (0) W3).mono ?_
     rintro e w9 ⟨rfl, hb9⟩
     have HX9 := Lib.hid (HX3.out.below hb9 HX3.out.lt)
     have HO9 := Lib.hid (HO3.out.below hb9 HO3.out.lt)
     have HB9 := Lib.hid (HB3.out.trans (hb9.mono HB3.out.size))
     clear hb9
     cases hq : opB (2) (va) (0) 30 with
     | false =>
      have HQ := Lib.hid hq
      clear hq
      obtain ⟨r0, r1, r2⟩ := bk3 HX9.out
      have f0 := (HX9.out).frozen 0
      have f1 := (HX9.out).frozen 1
      have f2 := (HX9.out).frozen 2
      go_wp2_with fail
      clear r0 r1 r2 f0 f1 f2
      obtain ⟨wf, hwf⟩ : ∃ wf, wf = (((w9.setCell ⟨w.heap.size, 0, none⟩ (.int .i64 (0))).setCell ⟨w.heap.size, 1, none⟩ (.int .i64 (0))).setCell ⟨w.heap.size, 2, none⟩ (.int .i64 (0))) := ⟨_, rfl⟩
      have hRf : Blk wf w.heap.size 26 #[.int .i64 (0), .int .i64 (0), .int .i64 (0)] := by rw [hwf]; exact ((HX9.out.set_ 0 _).set_ 1 _).set_ 2 _
      have hBf : Below w.heap.size w wf := by rw [hwf]; exact (((HB9.out).setCell (Nat.le_refl _) _).setCell (Nat.le_refl _) _).setCell (Nat.le_refl _) _
      obtain ⟨s0, s1, s2⟩ := bk3 hRf
      rw [← hwf]
      refine bodyPost_ret (v := .tuple #[.agg #[.int .i64 (0), .int .i64 (0), .int .i64 (0)], .bool false]) (by simp [results, Tryd.results13, go_sem, s0, s1, s2]) rfl ⟨?_, hBf⟩
      rw [HP.out, HQ.out]
      rfl
     | true =>
      have HQ := Lib.hid hq
      have Htx := Lib.hid (show opTxR (2) (va) (0) = opTx (2) (va) (0) by unfold opTxR; rw [hq]; rfl)
      rw [Htx.out]
      obtain ⟨tx, htx⟩ : ∃ t, t = opTx (2) (va) (0) := ⟨_, rfl⟩
      rw [← htx]
      have HT := Lib.hid htx
      have ht : (⟨tx.toArray⟩ : ByteArray).toList = tx := by rw [tl_eq]
      clear hq htx
      obtain ⟨y0, y1, y2⟩ := bk3 HO9.out
      by_cases he : tx = l
      ·have hc : (tx == l) = true := by rw [he]; exact beq_self_eq_true _
       have He := Lib.hid he
       clear he
       obtain ⟨r0, r1, r2⟩ := bk3 HX9.out
       have f0 := (HX9.out).frozen 0
       have f1 := (HX9.out).frozen 1
       have f2 := (HX9.out).frozen 2
       go_wp2_with fail
       clear y0 y1 y2
       clear r0 r1 r2 f0 f1 f2
       obtain ⟨wf, hwf⟩ : ∃ wf, wf = (((w9.setCell ⟨w.heap.size, 0, none⟩ (.int .i64 (2))).setCell ⟨w.heap.size, 1, none⟩ (.int .i64 (va))).setCell ⟨w.heap.size, 2, none⟩ (.int .i64 (0))) := ⟨_, rfl⟩
       have hRf : Blk wf w.heap.size 26 #[.int .i64 (2), .int .i64 (va), .int .i64 (0)] := by rw [hwf]; exact ((HX9.out.set_ 0 _).set_ 1 _).set_ 2 _
       have hBf : Below w.heap.size w wf := by rw [hwf]; exact (((HB9.out).setCell (Nat.le_refl _) _).setCell (Nat.le_refl _) _).setCell (Nat.le_refl _) _
       obtain ⟨s0, s1, s2⟩ := bk3 hRf
       rw [← hwf]
       refine bodyPost_ret (v := .tuple #[.agg #[.int .i64 (2), .int .i64 (va), .int .i64 (0)], .bool true]) (by simp [results, Tryd.results13, go_sem, s0, s1, s2]) rfl ⟨?_, hBf⟩
       rw [HP.out, HQ.out, ← HT.out, He.out]
       simp
      ·have hc : (tx == l) = false := lb_no he
       have He := Lib.hid he
       clear he
       obtain ⟨r0, r1, r2⟩ := bk3 HX9.out
       have f0 := (HX9.out).frozen 0
       have f1 := (HX9.out).frozen 1
       have f2 := (HX9.out).frozen 2
       go_wp2_with fail
       clear y0 y1 y2
       clear r0 r1 r2 f0 f1 f2
       obtain ⟨wf, hwf⟩ : ∃ wf, wf = (((w9.setCell ⟨w.heap.size, 0, none⟩ (.int .i64 (0))).setCell ⟨w.heap.size, 1, none⟩ (.int .i64 (0))).setCell ⟨w.heap.size, 2, none⟩ (.int .i64 (0))) := ⟨_, rfl⟩
       have hRf : Blk wf w.heap.size 26 #[.int .i64 (0), .int .i64 (0), .int .i64 (0)] := by rw [hwf]; exact ((HX9.out.set_ 0 _).set_ 1 _).set_ 2 _
       have hBf : Below w.heap.size w wf := by rw [hwf]; exact (((HB9.out).setCell (Nat.le_refl _) _).setCell (Nat.le_refl _) _).setCell (Nat.le_refl _) _
       obtain ⟨s0, s1, s2⟩ := bk3 hRf
       rw [← hwf]
       refine bodyPost_ret (v := .tuple #[.agg #[.int .i64 (0), .int .i64 (0), .int .i64 (0)], .bool false]) (by simp [results, Tryd.results13, go_sem, s0, s1, s2]) rfl ⟨?_, hBf⟩
       rw [HP.out, HQ.out, ← HT.out, decide_eq_false He.out]
       rfl
   ·have hd2 : ¬ (3 : Int) < (s.size : Int) := by omega
    have Hrd := Lib.hid (show rdS l = some (2, tlS l, 0) by
     rw [HS0.out, if_neg]
     rintro ⟨h, _⟩
     rw [← Hsl.out] at h
     exact hd h)
    have HE := Lib.hid Hl.out.symm
    go_wp2_with fail
    obtain ⟨W5, hW5⟩ : ∃ W5, W5 = wr.alloc (.cells #[.int .i64 (2), .int .i64 0, .int .i64 (0)] 26) := ⟨_, rfl⟩
    have HX5 := Lib.hid (show Blk W5 w.heap.size 26 #[.int .i64 0, .int .i64 0, .int .i64 0] by rw [hW5]; exact HXr.out.alloc _)
    have HO5 := Lib.hid (show Blk W5 go 26 #[.int .i64 (2), .int .i64 0, .int .i64 (0)] by rw [hW5, HGo.out]; exact Blk.new _ _ _)
    have HB5 := Lib.hid (show Below w.heap.size w W5 by rw [hW5]; exact HBr.out.alloc (by omega) _)
    rw [← hW5, ← HGo.out]
    clear hW5
    refine (s_l05Tail (s) Hs0.out W5).mono ?_
    rintro e w2 ⟨rfl, hb2⟩
    rw [HE.out]
    obtain ⟨va, hva⟩ : ∃ v, v = tlS (l) := ⟨_, rfl⟩
    have Hva := Lib.hid hva
    rw [← hva]
    have HX2 := Lib.hid (HX5.out.below hb2 HX5.out.lt)
    have HO2 := Lib.hid (HO5.out.below hb2 HO5.out.lt)
    have HB2 := Lib.hid (HB5.out.trans (hb2.mono HB5.out.size))
    have HP := Lib.hid (HR.out (2) va (0) (by rw [Hrd.out, Hva.out]))
    clear hb2 hva
    obtain ⟨W3, hW3⟩ : ∃ W3, W3 = w2.setCell ⟨go, 1, none⟩ (.int .i64 va) := ⟨_, rfl⟩
    have HX3 := Lib.hid (show Blk W3 w.heap.size 26 #[.int .i64 0, .int .i64 0, .int .i64 0] by rw [hW3]; exact HX2.out.far (p := ⟨go, 1, none⟩) (by show w.heap.size ≠ go; omega) _)
    have HO3 := Lib.hid (show Blk W3 go 26 #[.int .i64 (2), .int .i64 (va), .int .i64 (0)] by rw [hW3]; exact HO2.out.set_ 1 _)
    have HB3 := Lib.hid (show Below w.heap.size w W3 by rw [hW3]; exact HB2.out.setCell (by show w.heap.size ≤ go; omega) _)
    obtain ⟨o0, o1, o2⟩ := bk3 HO2.out
    have fo0 := (HO2.out).frozen 0
    have fo1 := (HO2.out).frozen 1
    have fo2 := (HO2.out).frozen 2
    obtain ⟨y0, y1, y2⟩ := bk3 HO3.out
    rw [hW3] at y0 y1 y2
    go_wp2_with fail
    rw [← hW3]
    clear hW3 y0 y1 y2 o0 o1 o2 fo0 fo1 fo2
    refine (s_OpText (2) (va) (0) W3).mono ?_
    rintro e w9 ⟨rfl, hb9⟩
    have HX9 := Lib.hid (HX3.out.below hb9 HX3.out.lt)
    have HO9 := Lib.hid (HO3.out.below hb9 HO3.out.lt)
    have HB9 := Lib.hid (HB3.out.trans (hb9.mono HB3.out.size))
    clear hb9
    cases hq : opB (2) (va) (0) 30 with
    | false =>
     have HQ := Lib.hid hq
     clear hq
     obtain ⟨r0, r1, r2⟩ := bk3 HX9.out
     have f0 := (HX9.out).frozen 0
     have f1 := (HX9.out).frozen 1
     have f2 := (HX9.out).frozen 2
     go_wp2_with fail
     clear r0 r1 r2 f0 f1 f2
     obtain ⟨wf, hwf⟩ : ∃ wf, wf = (((w9.setCell ⟨w.heap.size, 0, none⟩ (.int .i64 (0))).setCell ⟨w.heap.size, 1, none⟩ (.int .i64 (0))).setCell ⟨w.heap.size, 2, none⟩ (.int .i64 (0))) := ⟨_, rfl⟩
     have hRf : Blk wf w.heap.size 26 #[.int .i64 (0), .int .i64 (0), .int .i64 (0)] := by rw [hwf]; exact ((HX9.out.set_ 0 _).set_ 1 _).set_ 2 _
     have hBf : Below w.heap.size w wf := by rw [hwf]; exact (((HB9.out).setCell (Nat.le_refl _) _).setCell (Nat.le_refl _) _).setCell (Nat.le_refl _) _
     obtain ⟨s0, s1, s2⟩ := bk3 hRf
     rw [← hwf]
     refine bodyPost_ret (v := .tuple #[.agg #[.int .i64 (0), .int .i64 (0), .int .i64 (0)], .bool false]) (by simp [results, Tryd.results13, go_sem, s0, s1, s2]) rfl ⟨?_, hBf⟩
     rw [HP.out, HQ.out]
     rfl
    | true =>
     have HQ := Lib.hid hq
     have Htx := Lib.hid (show opTxR (2) (va) (0) = opTx (2) (va) (0) by unfold opTxR; rw [hq]; rfl)
     rw [Htx.out]
     obtain ⟨tx, htx⟩ : ∃ t, t = opTx (2) (va) (0) := ⟨_, rfl⟩
     rw [← htx]
     have HT := Lib.hid htx
     have ht : (⟨tx.toArray⟩ : ByteArray).toList = tx := by rw [tl_eq]
     clear hq htx
     obtain ⟨y0, y1, y2⟩ := bk3 HO9.out
     by_cases he : tx = l
     ·have hc : (tx == l) = true := by rw [he]; exact beq_self_eq_true _
      have He := Lib.hid he
      clear he
      obtain ⟨r0, r1, r2⟩ := bk3 HX9.out
      have f0 := (HX9.out).frozen 0
      have f1 := (HX9.out).frozen 1
      have f2 := (HX9.out).frozen 2
      go_wp2_with fail
      clear y0 y1 y2
      clear r0 r1 r2 f0 f1 f2
      obtain ⟨wf, hwf⟩ : ∃ wf, wf = (((w9.setCell ⟨w.heap.size, 0, none⟩ (.int .i64 (2))).setCell ⟨w.heap.size, 1, none⟩ (.int .i64 (va))).setCell ⟨w.heap.size, 2, none⟩ (.int .i64 (0))) := ⟨_, rfl⟩
      have hRf : Blk wf w.heap.size 26 #[.int .i64 (2), .int .i64 (va), .int .i64 (0)] := by rw [hwf]; exact ((HX9.out.set_ 0 _).set_ 1 _).set_ 2 _
      have hBf : Below w.heap.size w wf := by rw [hwf]; exact (((HB9.out).setCell (Nat.le_refl _) _).setCell (Nat.le_refl _) _).setCell (Nat.le_refl _) _
      obtain ⟨s0, s1, s2⟩ := bk3 hRf
      rw [← hwf]
      refine bodyPost_ret (v := .tuple #[.agg #[.int .i64 (2), .int .i64 (va), .int .i64 (0)], .bool true]) (by simp [results, Tryd.results13, go_sem, s0, s1, s2]) rfl ⟨?_, hBf⟩
      rw [HP.out, HQ.out, ← HT.out, He.out]
      simp
     ·have hc : (tx == l) = false := lb_no he
      have He := Lib.hid he
      clear he
      obtain ⟨r0, r1, r2⟩ := bk3 HX9.out
      have f0 := (HX9.out).frozen 0
      have f1 := (HX9.out).frozen 1
      have f2 := (HX9.out).frozen 2
      go_wp2_with fail
      clear y0 y1 y2
      clear r0 r1 r2 f0 f1 f2
      obtain ⟨wf, hwf⟩ : ∃ wf, wf = (((w9.setCell ⟨w.heap.size, 0, none⟩ (.int .i64 (0))).setCell ⟨w.heap.size, 1, none⟩ (.int .i64 (0))).setCell ⟨w.heap.size, 2, none⟩ (.int .i64 (0))) := ⟨_, rfl⟩
      have hRf : Blk wf w.heap.size 26 #[.int .i64 (0), .int .i64 (0), .int .i64 (0)] := by rw [hwf]; exact ((HX9.out.set_ 0 _).set_ 1 _).set_ 2 _
      have hBf : Below w.heap.size w wf := by rw [hwf]; exact (((HB9.out).setCell (Nat.le_refl _) _).setCell (Nat.le_refl _) _).setCell (Nat.le_refl _) _
      obtain ⟨s0, s1, s2⟩ := bk3 hRf
      rw [← hwf]
      refine bodyPost_ret (v := .tuple #[.agg #[.int .i64 (0), .int .i64 (0), .int .i64 (0)], .bool false]) (by simp [results, Tryd.results13, go_sem, s0, s1, s2]) rfl ⟨?_, hBf⟩
      rw [HP.out, HQ.out, ← HT.out, decide_eq_false He.out]
      rfl
  ·have HS0 := Lib.hid (show rdS l = (match Tx.pu l with | some n => some (0, (n : Int), 0) | none => none) by unfold rdS; rw [if_neg h0]; cases Tx.pu l <;> rfl)
   by_cases hnil : s.size = 0
   ·have hn1 : ¬ (0 : Int) < (s.size : Int) := by omega
    have hn2 : (s.size : Int) ≤ 0 := by omega
    clear h0
    go_wp2_with fail
    rw [← HW1.out, ← HGo.out]
    refine (s_ParseUint s Hs0.out W1).mono ?_
    rintro e w2 ⟨rfl, hb2⟩
    have HX2 := Lib.hid (HX1.out.below hb2 HX1.out.lt)
    have HO2 := Lib.hid (HO1.out.below hb2 HO1.out.lt)
    have HB2 := Lib.hid (HB1.out.trans (hb2.mono HB1.out.size))
    clear hb2
    rw [← Hl.out]
    cases hp : Tx.pu l with
    | none =>
     have Hp := Lib.hid hp
     rw [puV_none hp]
     clear hp
     obtain ⟨r0, r1, r2⟩ := bk3 HX2.out
     have f0 := (HX2.out).frozen 0
     have f1 := (HX2.out).frozen 1
     have f2 := (HX2.out).frozen 2
     go_wp2_with fail
     clear r0 r1 r2 f0 f1 f2
     obtain ⟨wf, hwf⟩ : ∃ wf, wf = (((w2.setCell ⟨w.heap.size, 0, none⟩ (.int .i64 (0))).setCell ⟨w.heap.size, 1, none⟩ (.int .i64 (0))).setCell ⟨w.heap.size, 2, none⟩ (.int .i64 (0))) := ⟨_, rfl⟩
     have hRf : Blk wf w.heap.size 26 #[.int .i64 (0), .int .i64 (0), .int .i64 (0)] := by rw [hwf]; exact ((HX2.out.set_ 0 _).set_ 1 _).set_ 2 _
     have hBf : Below w.heap.size w wf := by rw [hwf]; exact (((HB2.out).setCell (Nat.le_refl _) _).setCell (Nat.le_refl _) _).setCell (Nat.le_refl _) _
     obtain ⟨s0, s1, s2⟩ := bk3 hRf
     rw [← hwf]
     refine bodyPost_ret (v := .tuple #[.agg #[.int .i64 (0), .int .i64 (0), .int .i64 (0)], .bool false]) (by simp [results, Tryd.results13, go_sem, s0, s1, s2]) rfl ⟨?_, hBf⟩
     rw [HRn.out (by rw [HS0.out, Hp.out])]
    | some n =>
     have HP := Lib.hid (HR.out 0 (n : Int) 0 (by rw [HS0.out, hp]))
     rw [puV_some hp]
     clear hp
     obtain ⟨W3, hW3⟩ : ∃ W3, W3 = w2.setCell ⟨go, 1, none⟩ (.int .i64 (n : Int)) := ⟨_, rfl⟩
     have HX3 := Lib.hid (show Blk W3 w.heap.size 26 #[.int .i64 0, .int .i64 0, .int .i64 0] by rw [hW3]; exact HX2.out.far (p := ⟨go, 1, none⟩) (by show w.heap.size ≠ go; omega) _)
     have HO3 := Lib.hid (show Blk W3 go 26 #[.int .i64 (0), .int .i64 ((n : Int)), .int .i64 (0)] by rw [hW3]; exact HO2.out.set_ 1 _)
     have HB3 := Lib.hid (show Below w.heap.size w W3 by rw [hW3]; exact HB2.out.setCell (by show w.heap.size ≤ go; omega) _)
     obtain ⟨o0, o1, o2⟩ := bk3 HO2.out
     have fo0 := (HO2.out).frozen 0
     have fo1 := (HO2.out).frozen 1
     have fo2 := (HO2.out).frozen 2
     obtain ⟨y0, y1, y2⟩ := bk3 HO3.out
     rw [hW3] at y0 y1 y2
     go_wp2_with fail
     rw [← hW3]
     clear hW3 y0 y1 y2 o0 o1 o2 fo0 fo1 fo2
     refine (s_OpText (0) ((n : Int)) (0) W3).mono ?_
     rintro e w9 ⟨rfl, hb9⟩
     have HX9 := Lib.hid (HX3.out.below hb9 HX3.out.lt)
     have HO9 := Lib.hid (HO3.out.below hb9 HO3.out.lt)
     have HB9 := Lib.hid (HB3.out.trans (hb9.mono HB3.out.size))
     clear hb9
     cases hq : opB (0) ((n : Int)) (0) 30 with
     | false =>
      have HQ := Lib.hid hq
      clear hq
      obtain ⟨r0, r1, r2⟩ := bk3 HX9.out
      have f0 := (HX9.out).frozen 0
      have f1 := (HX9.out).frozen 1
      have f2 := (HX9.out).frozen 2
      go_wp2_with fail
      clear r0 r1 r2 f0 f1 f2
      obtain ⟨wf, hwf⟩ : ∃ wf, wf = (((w9.setCell ⟨w.heap.size, 0, none⟩ (.int .i64 (0))).setCell ⟨w.heap.size, 1, none⟩ (.int .i64 (0))).setCell ⟨w.heap.size, 2, none⟩ (.int .i64 (0))) := ⟨_, rfl⟩
      have hRf : Blk wf w.heap.size 26 #[.int .i64 (0), .int .i64 (0), .int .i64 (0)] := by rw [hwf]; exact ((HX9.out.set_ 0 _).set_ 1 _).set_ 2 _
      have hBf : Below w.heap.size w wf := by rw [hwf]; exact (((HB9.out).setCell (Nat.le_refl _) _).setCell (Nat.le_refl _) _).setCell (Nat.le_refl _) _
      obtain ⟨s0, s1, s2⟩ := bk3 hRf
      rw [← hwf]
      refine bodyPost_ret (v := .tuple #[.agg #[.int .i64 (0), .int .i64 (0), .int .i64 (0)], .bool false]) (by simp [results, Tryd.results13, go_sem, s0, s1, s2]) rfl ⟨?_, hBf⟩
      rw [HP.out, HQ.out]
      rfl
     | true =>
      have HQ := Lib.hid hq
      have Htx := Lib.hid (show opTxR (0) ((n : Int)) (0) = opTx (0) ((n : Int)) (0) by unfold opTxR; rw [hq]; rfl)
      rw [Htx.out]
      obtain ⟨tx, htx⟩ : ∃ t, t = opTx (0) ((n : Int)) (0) := ⟨_, rfl⟩
      rw [← htx]
      have HT := Lib.hid htx
      have ht : (⟨tx.toArray⟩ : ByteArray).toList = tx := by rw [tl_eq]
      clear hq htx
      obtain ⟨y0, y1, y2⟩ := bk3 HO9.out
      by_cases he : tx = l
      ·have hc : (tx == l) = true := by rw [he]; exact beq_self_eq_true _
       have He := Lib.hid he
       clear he
       obtain ⟨r0, r1, r2⟩ := bk3 HX9.out
       have f0 := (HX9.out).frozen 0
       have f1 := (HX9.out).frozen 1
       have f2 := (HX9.out).frozen 2
       go_wp2_with fail
       clear y0 y1 y2
       clear r0 r1 r2 f0 f1 f2
       obtain ⟨wf, hwf⟩ : ∃ wf, wf = (((w9.setCell ⟨w.heap.size, 0, none⟩ (.int .i64 (0))).setCell ⟨w.heap.size, 1, none⟩ (.int .i64 ((n : Int)))).setCell ⟨w.heap.size, 2, none⟩ (.int .i64 (0))) := ⟨_, rfl⟩
       have hRf : Blk wf w.heap.size 26 #[.int .i64 (0), .int .i64 ((n : Int)), .int .i64 (0)] := by rw [hwf]; exact ((HX9.out.set_ 0 _).set_ 1 _).set_ 2 _
       have hBf : Below w.heap.size w wf := by rw [hwf]; exact (((HB9.out).setCell (Nat.le_refl _) _).setCell (Nat.le_refl _) _).setCell (Nat.le_refl _) _
       obtain ⟨s0, s1, s2⟩ := bk3 hRf
       rw [← hwf]
       refine bodyPost_ret (v := .tuple #[.agg #[.int .i64 (0), .int .i64 ((n : Int)), .int .i64 (0)], .bool true]) (by simp [results, Tryd.results13, go_sem, s0, s1, s2]) rfl ⟨?_, hBf⟩
       rw [HP.out, HQ.out, ← HT.out, He.out]
       simp
      ·have hc : (tx == l) = false := lb_no he
       have He := Lib.hid he
       clear he
       obtain ⟨r0, r1, r2⟩ := bk3 HX9.out
       have f0 := (HX9.out).frozen 0
       have f1 := (HX9.out).frozen 1
       have f2 := (HX9.out).frozen 2
       go_wp2_with fail
       clear y0 y1 y2
       clear r0 r1 r2 f0 f1 f2
       obtain ⟨wf, hwf⟩ : ∃ wf, wf = (((w9.setCell ⟨w.heap.size, 0, none⟩ (.int .i64 (0))).setCell ⟨w.heap.size, 1, none⟩ (.int .i64 (0))).setCell ⟨w.heap.size, 2, none⟩ (.int .i64 (0))) := ⟨_, rfl⟩
       have hRf : Blk wf w.heap.size 26 #[.int .i64 (0), .int .i64 (0), .int .i64 (0)] := by rw [hwf]; exact ((HX9.out.set_ 0 _).set_ 1 _).set_ 2 _
       have hBf : Below w.heap.size w wf := by rw [hwf]; exact (((HB9.out).setCell (Nat.le_refl _) _).setCell (Nat.le_refl _) _).setCell (Nat.le_refl _) _
       obtain ⟨s0, s1, s2⟩ := bk3 hRf
       rw [← hwf]
       refine bodyPost_ret (v := .tuple #[.agg #[.int .i64 (0), .int .i64 (0), .int .i64 (0)], .bool false]) (by simp [results, Tryd.results13, go_sem, s0, s1, s2]) rfl ⟨?_, hBf⟩
       rw [HP.out, HQ.out, ← HT.out, decide_eq_false He.out]
       rfl
   ·have hpos : 0 < s.size := by omega
    have hpos2 : (0 : Int) < (s.size : Int) := by omega
    have h115 : ¬ s[0].toNat = 115 := by
     intro hx
     have h1 := str_get (s := s) (l := l) (k := 0) Hl.out hpos
     have h2 : s[0] = 115 := UInt8.toNat_inj.1 (by rw [hx]; rfl)
     rw [h2] at h1
     apply h0
     rw [List.head?_eq_getElem?]
     exact h1
    clear h0
    go_wp2_with fail
    rw [← HW1.out, ← HGo.out]
    refine (s_ParseUint s Hs0.out W1).mono ?_
    rintro e w2 ⟨rfl, hb2⟩
    have HX2 := Lib.hid (HX1.out.below hb2 HX1.out.lt)
    have HO2 := Lib.hid (HO1.out.below hb2 HO1.out.lt)
    have HB2 := Lib.hid (HB1.out.trans (hb2.mono HB1.out.size))
    clear hb2
    rw [← Hl.out]
    cases hp : Tx.pu l with
    | none =>
     have Hp := Lib.hid hp
     rw [puV_none hp]
     clear hp
     obtain ⟨r0, r1, r2⟩ := bk3 HX2.out
     have f0 := (HX2.out).frozen 0
     have f1 := (HX2.out).frozen 1
     have f2 := (HX2.out).frozen 2
     go_wp2_with fail
     clear r0 r1 r2 f0 f1 f2
     obtain ⟨wf, hwf⟩ : ∃ wf, wf = (((w2.setCell ⟨w.heap.size, 0, none⟩ (.int .i64 (0))).setCell ⟨w.heap.size, 1, none⟩ (.int .i64 (0))).setCell ⟨w.heap.size, 2, none⟩ (.int .i64 (0))) := ⟨_, rfl⟩
     have hRf : Blk wf w.heap.size 26 #[.int .i64 (0), .int .i64 (0), .int .i64 (0)] := by rw [hwf]; exact ((HX2.out.set_ 0 _).set_ 1 _).set_ 2 _
     have hBf : Below w.heap.size w wf := by rw [hwf]; exact (((HB2.out).setCell (Nat.le_refl _) _).setCell (Nat.le_refl _) _).setCell (Nat.le_refl _) _
     obtain ⟨s0, s1, s2⟩ := bk3 hRf
     rw [← hwf]
     refine bodyPost_ret (v := .tuple #[.agg #[.int .i64 (0), .int .i64 (0), .int .i64 (0)], .bool false]) (by simp [results, Tryd.results13, go_sem, s0, s1, s2]) rfl ⟨?_, hBf⟩
     rw [HRn.out (by rw [HS0.out, Hp.out])]
    | some n =>
     have HP := Lib.hid (HR.out 0 (n : Int) 0 (by rw [HS0.out, hp]))
     rw [puV_some hp]
     clear hp
     obtain ⟨W3, hW3⟩ : ∃ W3, W3 = w2.setCell ⟨go, 1, none⟩ (.int .i64 (n : Int)) := ⟨_, rfl⟩
     have HX3 := Lib.hid (show Blk W3 w.heap.size 26 #[.int .i64 0, .int .i64 0, .int .i64 0] by rw [hW3]; exact HX2.out.far (p := ⟨go, 1, none⟩) (by show w.heap.size ≠ go; omega) _)
     have HO3 := Lib.hid (show Blk W3 go 26 #[.int .i64 (0), .int .i64 ((n : Int)), .int .i64 (0)] by rw [hW3]; exact HO2.out.set_ 1 _)
     have HB3 := Lib.hid (show Below w.heap.size w W3 by rw [hW3]; exact HB2.out.setCell (by show w.heap.size ≤ go; omega) _)
     obtain ⟨o0, o1, o2⟩ := bk3 HO2.out
     have fo0 := (HO2.out).frozen 0
     have fo1 := (HO2.out).frozen 1
     have fo2 := (HO2.out).frozen 2
     obtain ⟨y0, y1, y2⟩ := bk3 HO3.out
     rw [hW3] at y0 y1 y2
     go_wp2_with fail
     rw [← hW3]
     clear hW3 y0 y1 y2 o0 o1 o2 fo0 fo1 fo2
     refine (s_OpText (0) ((n : Int)) (0) W3).mono ?_
     rintro e w9 ⟨rfl, hb9⟩
     have HX9 := Lib.hid (HX3.out.below hb9 HX3.out.lt)
     have HO9 := Lib.hid (HO3.out.below hb9 HO3.out.lt)
     have HB9 := Lib.hid (HB3.out.trans (hb9.mono HB3.out.size))
     clear hb9
     cases hq : opB (0) ((n : Int)) (0) 30 with
     | false =>
      have HQ := Lib.hid hq
      clear hq
      obtain ⟨r0, r1, r2⟩ := bk3 HX9.out
      have f0 := (HX9.out).frozen 0
      have f1 := (HX9.out).frozen 1
      have f2 := (HX9.out).frozen 2
      go_wp2_with fail
      clear r0 r1 r2 f0 f1 f2
      obtain ⟨wf, hwf⟩ : ∃ wf, wf = (((w9.setCell ⟨w.heap.size, 0, none⟩ (.int .i64 (0))).setCell ⟨w.heap.size, 1, none⟩ (.int .i64 (0))).setCell ⟨w.heap.size, 2, none⟩ (.int .i64 (0))) := ⟨_, rfl⟩
      have hRf : Blk wf w.heap.size 26 #[.int .i64 (0), .int .i64 (0), .int .i64 (0)] := by rw [hwf]; exact ((HX9.out.set_ 0 _).set_ 1 _).set_ 2 _
      have hBf : Below w.heap.size w wf := by rw [hwf]; exact (((HB9.out).setCell (Nat.le_refl _) _).setCell (Nat.le_refl _) _).setCell (Nat.le_refl _) _
      obtain ⟨s0, s1, s2⟩ := bk3 hRf
      rw [← hwf]
      refine bodyPost_ret (v := .tuple #[.agg #[.int .i64 (0), .int .i64 (0), .int .i64 (0)], .bool false]) (by simp [results, Tryd.results13, go_sem, s0, s1, s2]) rfl ⟨?_, hBf⟩
      rw [HP.out, HQ.out]
      rfl
     | true =>
      have HQ := Lib.hid hq
      have Htx := Lib.hid (show opTxR (0) ((n : Int)) (0) = opTx (0) ((n : Int)) (0) by unfold opTxR; rw [hq]; rfl)
      rw [Htx.out]
      obtain ⟨tx, htx⟩ : ∃ t, t = opTx (0) ((n : Int)) (0) := ⟨_, rfl⟩
      rw [← htx]
      have HT := Lib.hid htx
      have ht : (⟨tx.toArray⟩ : ByteArray).toList = tx := by rw [tl_eq]
      clear hq htx
      obtain ⟨y0, y1, y2⟩ := bk3 HO9.out
      by_cases he : tx = l
      ·have hc : (tx == l) = true := by rw [he]; exact beq_self_eq_true _
       have He := Lib.hid he
       clear he
       obtain ⟨r0, r1, r2⟩ := bk3 HX9.out
       have f0 := (HX9.out).frozen 0
       have f1 := (HX9.out).frozen 1
       have f2 := (HX9.out).frozen 2
       go_wp2_with fail
       clear y0 y1 y2
       clear r0 r1 r2 f0 f1 f2
       obtain ⟨wf, hwf⟩ : ∃ wf, wf = (((w9.setCell ⟨w.heap.size, 0, none⟩ (.int .i64 (0))).setCell ⟨w.heap.size, 1, none⟩ (.int .i64 ((n : Int)))).setCell ⟨w.heap.size, 2, none⟩ (.int .i64 (0))) := ⟨_, rfl⟩
       have hRf : Blk wf w.heap.size 26 #[.int .i64 (0), .int .i64 ((n : Int)), .int .i64 (0)] := by rw [hwf]; exact ((HX9.out.set_ 0 _).set_ 1 _).set_ 2 _
       have hBf : Below w.heap.size w wf := by rw [hwf]; exact (((HB9.out).setCell (Nat.le_refl _) _).setCell (Nat.le_refl _) _).setCell (Nat.le_refl _) _
       obtain ⟨s0, s1, s2⟩ := bk3 hRf
       rw [← hwf]
       refine bodyPost_ret (v := .tuple #[.agg #[.int .i64 (0), .int .i64 ((n : Int)), .int .i64 (0)], .bool true]) (by simp [results, Tryd.results13, go_sem, s0, s1, s2]) rfl ⟨?_, hBf⟩
       rw [HP.out, HQ.out, ← HT.out, He.out]
       simp
      ·have hc : (tx == l) = false := lb_no he
       have He := Lib.hid he
       clear he
       obtain ⟨r0, r1, r2⟩ := bk3 HX9.out
       have f0 := (HX9.out).frozen 0
       have f1 := (HX9.out).frozen 1
       have f2 := (HX9.out).frozen 2
       go_wp2_with fail
       clear y0 y1 y2
       clear r0 r1 r2 f0 f1 f2
       obtain ⟨wf, hwf⟩ : ∃ wf, wf = (((w9.setCell ⟨w.heap.size, 0, none⟩ (.int .i64 (0))).setCell ⟨w.heap.size, 1, none⟩ (.int .i64 (0))).setCell ⟨w.heap.size, 2, none⟩ (.int .i64 (0))) := ⟨_, rfl⟩
       have hRf : Blk wf w.heap.size 26 #[.int .i64 (0), .int .i64 (0), .int .i64 (0)] := by rw [hwf]; exact ((HX9.out.set_ 0 _).set_ 1 _).set_ 2 _
       have hBf : Below w.heap.size w wf := by rw [hwf]; exact (((HB9.out).setCell (Nat.le_refl _) _).setCell (Nat.le_refl _) _).setCell (Nat.le_refl _) _
       obtain ⟨s0, s1, s2⟩ := bk3 hRf
       rw [← hwf]
       refine bodyPost_ret (v := .tuple #[.agg #[.int .i64 (0), .int .i64 (0), .int .i64 (0)], .bool false]) (by simp [results, Tryd.results13, go_sem, s0, s1, s2]) rfl ⟨?_, hBf⟩
       rw [HP.out, HQ.out, ← HT.out, decide_eq_false He.out]
       rfl
end Go.Proofs.YtkidchinoilgdaaDoor

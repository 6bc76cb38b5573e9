/- Law of shrunk tables: for every code the drawn table, shrunk, has the table's values and depends on all its inputs. Conditions: none. -/
import Derived.Test.YtbkgjgpoohlieaaFrame3
import Derived.Test.YtbkgjgpoohlieaaDrawT
import Derived.Test.YtbkgjgpoohlieaaShk
import Derived.Test.YtbkgjgpoohlieaaShrS
import Derived.Test.YtbkgjgpoohlieaaStructEq
import Derived.Outline
namespace Go.Proofs.Ytbkgjgpoohlieaa
open Go.ChangeShapes Go.WideShapes Go.ChangeAt Go.RowKit
attribute [local go_sem] i64_and1

set_option maxRecDepth 100000 in
set_option maxHeartbeats 1000000 in
theorem l_sameInts {w : World} {B B' : Nat} {A A' : Option Addr} {n m c c' : Nat} {l l' : List Int} (hn : n ≤ 1099511627776) (hm : m ≤ 1099511627776) (h : Reads w B 1 A n (ints l)) (h' : Reads w B' 1 A' m (ints l')) (hB : B ≤ w.heap.size) (hB' : B' ≤ w.heap.size) :
    Calls Try.prog 28 #[.slice A n c, .slice A' m c'] w fun e w' => e = .returned (.bool (decide (l = l'))) ∧ Below w.heap.size w w' := by
  have hl := h.len
  have hl' := h'.len
  by_cases hnm : n = m
  · subst hnm
    have Hl := Lib.hid hl
    have Hl' := Lib.hid hl'
    clear hl hl'
    go_enter Try.func28, Try.ntmps28
    go_wp2
    go_loopw [5] (fun i wr => ∃ k : Nat, k ≤ n ∧ i = .int .i64 k ∧ l.take k = l'.take k ∧ Below w.heap.size w wr) (fun i _ => n - (intOf i).toNat)
    case atStart => exact ⟨0, Nat.zero_le _, rfl, rfl, Below.refl _ _⟩
    case round =>
      obtain ⟨k, hk, rfl, heq, hb⟩ := hrel
      have Heq := Lib.hid heq
      have Hb := Lib.hid hb
      clear heq hb
      by_cases hlt : k < n
      · obtain ⟨ad, x, rfl, hab, hx, hc⟩ := h.int_at hlt
        obtain ⟨ad', x', rfl, hab', hx', hc'⟩ := h'.int_at hlt
        have e1 := (Hb.out.cell (p := ad.add k) (by rw [block_of_add]; omega)).trans hc
        have e2 := (Hb.out.cell (p := ad'.add k) (by rw [block_of_add]; omega)).trans hc'
        have Hx := Lib.hid hx
        have Hx' := Lib.hid hx'
        clear hc hc' hx hx'
        have g1 : (0 : Int) ≤ (k : Int) := by omega
        have g2 : (k : Int) < (n : Int) := by omega
        go_wp2_with fail
        refine wp_region_lex (by kernel_rfl) (by kernel_rfl) (Cls (fun x => x = wr.drew)) (Cls.mk' rfl) ?_
        have lexNE : Nonempty (Wd (fun x => x = wr.drew)) := ⟨⟨_, rfl⟩⟩
        have lexW : ∀ W : Wd (fun x => x = wr.drew), W.val = wr.drew := fun W => W.ok
        (repeat (first | (refine lex_read (by first | exact wanted_n rfl | exact wanted_g rfl rfl rfl rfl) (by exact rfl) (fun K hK => ?_); go_big_quiet_op; refine hK _ ?_; clear hK K) | (refine lex_skip' (by exact wanted_g rfl rfl rfl rfl) (fun K hK => ?_); go_simp; refine hK _ ?_; clear hK K)))
        (refine lex_nil ?_)
        clear lexNE lexW
        by_cases hxx : x = x'
        · subst hxx
          go_wp2_with fail
          go_roundw
          case rel =>
            refine ⟨k + 1, by omega, by go_num, ?_, Hb.out.drew⟩
            rw [List.take_add_one, List.take_add_one, Heq.out, Hx.out, Hx'.out]
          case measure => simp [intOf]; omega
        · have hne : (x != x') = true := by simpa using hxx
          go_wp2_with fail
          go_ret
          refine ⟨ret_bool ?_, Hb.out.drew⟩
          have : l ≠ l' := by
            rintro rfl
            have h1 := Hx.out
            rw [Hx'.out] at h1
            injection h1 with h1
            exact hxx h1.symm
          simp [this]
      · have hke : k = n := by omega
        subst hke
        go_wp2_with fail
        go_ret
        refine ⟨ret_bool ?_, Hb.out⟩
        have h1 := Heq.out
        have h2 := Hl.out
        have h3 := Hl'.out
        rw [List.take_of_length_le (by omega), List.take_of_length_le (by omega)] at h1
        simp [h1]
  · have hne : ((n : Int) != (m : Int)) = true := by simp; omega
    have hll : l ≠ l' := by rintro rfl; omega
    have Hll := Lib.hid hll
    clear hl hl' hll
    go_enter Try.func28, Try.ntmps28
    go_wp2
    go_ret
    exact ⟨ret_bool (by simp [Hll.out]), Below.refl _ _⟩

theorem wd_cell {B : Nat} {W0 : World} {g : Nat} {t : TypeId} {x y : Value} (hB : Blk W0 g t #[x, y]) (hg : g < B) :
    (∀ W : Wd (fun w => Below B W0 w), W.val.cell? ⟨g, 0, none⟩ = some x) ∧ (∀ W : Wd (fun w => Below B W0 w), W.val.cell? ⟨g, 1, none⟩ = some y) :=
  ⟨fun W => (W.ok.cell (p := ⟨g, 0, none⟩) hg).trans (hB.cell 0), fun W => (W.ok.cell (p := ⟨g, 1, none⟩) hg).trans (hB.cell 1)⟩
theorem blk2 {w : World} {g : Nat} {t : TypeId} {x y : Value} (h : Blk w g t #[x, y]) : w.cell? ⟨g, 0, none⟩ = some x ∧ w.cell? ⟨g, 1, none⟩ = some y := ⟨h.cell 0, h.cell 1⟩
/-- the step of the gathered index, as the code reckons it -/
theorem gat_step (l : List Nat) (i m : Nat) (hm : m ≤ 4) : wrap64 (((gat l i m : Nat) : Int) + wrap64 ((i : Int) / 2 ^ (l.getD m 0) % 2 * 2 ^ m)) = ((gat l i (m + 1) : Nat) : Int) :=
  tab_add (fun k => i.testBit (l.getD k 0)) (by omega) (bit_int i _)

set_option maxRecDepth 100000 in
set_option maxHeartbeats 8000000 in
theorem walk_FnShrunk (A : Option Addr) (n c : Nat) (l : List UInt8) (w : World) (hr : Reads w w.heap.size 1 A n (bys l)) : Calls Try.prog 5 #[.slice A n c] w fun e w' => e = .returned (.bool true) ∧ Below w.heap.size w w' := by
  by_cases hb : n ≤ 1048576
  · go_enter Try.func5, Try.ntmps5
    go_wp2_with (first | (go_at_call 12; go_in))
    refine (s_DrawTable hr hb).mono ?_
    rintro e w1 ⟨m, b0, i, rfl, hok, hi0, hi1, hb1⟩
    obtain ⟨hm, b, rfl, hbb⟩ := tOk_split hok
    have Hok := Lib.hid hok
    have Hb1 := Lib.hid (hb1.alloc hb1.size (.cells #[.int .i64 m, .int .i64 b] 31))
    have z1 := hb1.size
    have hm0 := (inR_iff.1 hm).1
    have hm1 := (inR_iff.1 hm).2
    have HT1 := Lib.hid (Blk.new w1 31 #[.int .i64 m, .int .i64 b])
    obtain ⟨len, hlen⟩ : ∃ len, len = (tSup m b).length := ⟨_, rfl⟩
    obtain ⟨sb, hsb⟩ : ∃ sb, sb = shrB m b := ⟨_, rfl⟩
    have hlen4 : len ≤ 4 := by rw [hlen]; exact sup_len m b 4
    have HL := Lib.hid hlen
    have HSN := Lib.hid (show (supN m b).length = len by rw [supN_len, hlen])
    have HSH := Lib.hid (show tShr m b = ((len : Int), (sb : Int)) by rw [tShr, if_pos hok, hlen, hsb])
    have HSOK := Lib.hid (show tOk (len : Int) (sb : Int) = true by have := shr_ok m b; rw [supN_len, ← hlen, ← hsb] at this; exact this)
    have HAG := Lib.hid (show (tSup (len : Int) (sb : Int)).length = len ∧ tShr (len : Int) (sb : Int) = ((len : Int), (sb : Int)) by have := shr_again hok; rw [supN_len, ← hlen, ← hsb] at this; exact this)
    have HEV := Lib.hid (fun i (hi : i < 2 ^ m.toNat) => (show tEv (len : Int) (sb : Int) ((gat (supN m b) i len : Nat) : Int) = tEv m b i by have := shr_evT hok hi; rw [supN_len, ← hlen, ← hsb] at this; exact this))
    clear hok hi1 hb1 hi0 hlen hsb hbb
    go_wp2_with fail
    refine (i_TableShrink _ _ _).mono ?_
    rw [HSH.out]
    rintro e w2 ⟨A2, c2, rfl, hown2, hb2⟩
    rw [← HL.out] at hown2 ⊢
    have HT2 := Lib.hid ((HT1.out.below hb2 HT1.out.lt).alloc (.cells #[.int .i64 (len : Int), .int .i64 (sb : Int)] 31))
    have HS2 := Lib.hid (Blk.new w2 31 #[.int .i64 (len : Int), .int .i64 (sb : Int)])
    have Hb2 := Lib.hid ((Hb1.out.trans (hb2.mono Hb1.out.size)).alloc (Nat.le_trans Hb1.out.size hb2.size) (.cells #[.int .i64 (len : Int), .int .i64 (sb : Int)] 31))
    have R2 := Lib.hid ((Reads.of_own hown2).alloc (Nat.le_refl _) (.cells #[.int .i64 (len : Int), .int .i64 (sb : Int)] 31))
    have z2 := hb2.size
    simp at z2
    clear hown2 hb2 HT1 Hb1
    obtain ⟨t0, t1⟩ := blk2 HT2.out
    obtain ⟨s0, s1⟩ := blk2 HS2.out
    go_wp2_with fail
    refine (i_TableOk _ _ _).mono ?_
    rw [HSOK.out]
    rintro e w3 ⟨rfl, hb3⟩
    have HT3 := Lib.hid (HT2.out.below hb3 HT2.out.lt)
    have HS3 := Lib.hid (HS2.out.below hb3 HS2.out.lt)
    have Hb3 := Lib.hid (Hb2.out.trans (hb3.mono Hb2.out.size))
    have R3 := Lib.hid (R2.out.below (hb3.mono (by simp)))
    have z3 := hb3.size
    simp at z3
    clear hb3 t0 t1 s0 s1
    obtain ⟨t0, t1⟩ := blk2 HT3.out
    go_wp2_with fail
    refine (i_TableSupport _ _ _).mono ?_
    rintro e w4 ⟨A4, c4, rfl, hown4, hb4⟩
    have HT4 := Lib.hid (HT3.out.below hb4 HT3.out.lt)
    have HS4 := Lib.hid (HS3.out.below hb4 HS3.out.lt)
    have Hb4 := Lib.hid (Hb3.out.trans (hb4.mono Hb3.out.size))
    have R4 := Lib.hid (R3.out.below (hb4.mono (by omega)))
    have z4 := hb4.size
    rw [← HL.out] at hown4 ⊢
    have Q4 := Lib.hid (Reads.of_own hown4)
    clear hb4 t0 t1 hown4
    go_wp2_with fail
    refine (l_sameInts (by omega) (by omega) R4.out Q4.out (by omega) (Nat.le_refl _)).mono ?_
    rintro e w5 ⟨rfl, hb5⟩
    have HT5 := Lib.hid (HT4.out.below hb5 HT4.out.lt)
    have HS5 := Lib.hid (HS4.out.below hb5 HS4.out.lt)
    have Hb5 := Lib.hid (Hb4.out.trans (hb5.mono Hb4.out.size))
    have R5 := Lib.hid (R4.out.below (hb5.mono (by omega)))
    have z5 := hb5.size
    clear hb5 HT2 HT3 HT4 HS2 HS3 HS4 Hb2 Hb3 Hb4 R2 R3 R4 Q4
    go_wp2_with fail
    have hp := pow_bd hm
    obtain ⟨hp1, hp2⟩ := hp
    obtain ⟨hw1, hw2⟩ := w64_pow hm
    obtain ⟨M, hM⟩ : ∃ M : Nat, M = 2 ^ m.toNat := ⟨_, rfl⟩
    have hpn := pow_nat m
    rw [← hM] at hpn
    rw [hpn] at hp1 hp2
    have HW1 := Lib.hid (show wrap64 ((2 : Int) ^ m.toNat) = (M : Int) by rw [hw1, hpn])
    have HM := Lib.hid hM
    clear hw1 hw2 hm hpn hM
    go_loopw [7, 8, 9] (fun iv _ _ wr => ∃ k : Nat, k ≤ M ∧ iv = .int .i64 k ∧ Blk wr w1.heap.size 31 #[.int .i64 m, .int .i64 b] ∧ Blk wr w2.heap.size 31 #[.int .i64 len, .int .i64 sb] ∧ Reads wr w2.heap.size 1 A2 len (ints (tSup m b)) ∧ Below w.heap.size w wr) (fun iv _ _ _ => 16 - (intOf iv).toNat)
    case atStart => exact ⟨0, by omega, rfl, HT5.out, HS5.out, R5.out, Hb5.out⟩
    case round =>
      obtain ⟨i, hi, rfl, hT, hS, hR, hbr⟩ := hrel
      have HT := Lib.hid hT
      have HS := Lib.hid hS
      have HR := Lib.hid hR
      have Hbr := Lib.hid hbr
      obtain ⟨t0, t1⟩ := blk2 hT
      obtain ⟨s0, s1⟩ := blk2 hS
      have l1 := hT.lt
      have l2 := hS.lt
      clear hT hS hR hbr HT5 HS5 R5 Hb5
      by_cases hlt : i < M
      · have hi15 : i ≤ 15 := by omega
        have hw1 := HW1.out
        go_wp2_with fail
        clear hw1
        go_loopw [8, 9] (fun j k wx => ∃ q : Nat, q ≤ len ∧ k = .int .i64 q ∧ j = .int .i64 (gat (supN m b) i q) ∧ ∃ r, wx = wr.drewN r) (fun _ k _ => len - (intOf k).toNat)
        case atStart => exact ⟨0, by omega, rfl, rfl, 0, rfl⟩
        case round =>
          obtain ⟨q, hq, rfl, rfl, r, rfl⟩ := hrel
          by_cases hql : q < len
          · obtain ⟨ad, x, rfl, hab, hx, hc⟩ := HR.out.int_at hql
            have hqs : q < (supN m b).length := by rw [HSN.out]; exact hql
            have hx' : x = (((supN m b).getD q 0 : Nat) : Int) := by
              rw [tSup_cast, List.getElem?_map, List.getElem?_eq_getElem hqs] at hx
              rw [Tb.getD_el hqs]
              injection hx with hx
              exact hx.symm
            have hg := supN_lt (n := m) (b := b) (k := (supN m b).getD q 0) (by rw [Tb.getD_el hqs]; exact List.getElem_mem _)
            have hst := gat_step (supN m b) i q (by omega)
            obtain ⟨p, hpp⟩ : ∃ p : Nat, p = (supN m b).getD q 0 := ⟨_, rfl⟩
            rw [← hpp] at hx' hg hst
            have HS0 := Lib.hid hst
            clear hst
            subst hx'
            have hg1 := hg.1
            have hg2 := hg.2
            have hg3 : (p : Int) < m := by omega
            have cx : wr.cell? (ad.add q) = some (.int .i64 p) := hc
            have g1 : (0 : Int) ≤ (q : Int) := by omega
            have m1 : min q 64 = q := by omega
            have m2 : min p 64 = p := by omega
            have g2 : (q : Int) < (len : Int) := by omega
            have g3 : (0 : Int) ≤ (p : Int) := by omega
            clear hpp hx hc hg hqs
            go_wp2_with fail
            refine wp_region_lex (by kernel_rfl) (by kernel_rfl) (Cls (fun x => x = wr.drewN (r + 1))) (Cls.mk' rfl) ?_
            have lexNE : Nonempty (Wd (fun x => x = wr.drewN (r + 1))) := ⟨⟨_, rfl⟩⟩
            have lexW : ∀ W : Wd (fun x => x = wr.drewN (r + 1)), W.val = wr.drewN (r + 1) := fun W => W.ok
            (repeat (first | (refine lex_read (by first | exact wanted_n rfl | exact wanted_g rfl rfl rfl rfl) (by exact rfl) (fun K hK => ?_); go_big_quiet_op; refine hK _ ?_; clear hK K) | (refine lex_skip' (by exact wanted_g rfl rfl rfl rfl) (fun K hK => ?_); go_simp; refine hK _ ?_; clear hK K)))
            (refine lex_nil ?_)
            clear lexNE lexW
            go_wp2_with fail
            go_roundw
            case rel => exact ⟨q + 1, by omega, by go_num, by rw [HS0.out], r + 1, rfl⟩
            case measure => simp [intOf]; omega
          · obtain rfl : q = len := by omega
            have hev := HEV.out i (by rw [← HM.out]; exact hlt)
            have HE := Lib.hid hev
            clear hev
            go_wp2_with fail
            refine wp_region_lexC (by kernel_rfl) (by kernel_rfl) (fun x => Below wr.heap.size wr x) ((below_drewN (Below.refl _ _) _).drew) (fun lexNE => ?_)
            have cT := wd_cell HT.out HT.out.lt
            have cS := wd_cell HS.out HS.out.lt
            obtain ⟨cT0, cT1⟩ := cT
            obtain ⟨cS0, cS1⟩ := cS
            (repeat (first | (refine lex_read (by first | exact wanted_n rfl | exact wanted_g rfl rfl rfl rfl) (by exact rfl) (fun K hK => ?_); go_big_quiet_op; refine hK _ ?_; clear hK K) | (refine lex_skip' (by exact wanted_g rfl rfl rfl rfl) (fun K hK => ?_); go_simp; refine hK _ ?_; clear hK K)))
            (refine lex_eff (by first | exact wanted_n rfl | exact wanted_g rfl rfl rfl rfl) (by exact rfl) (fun K hK => ?_); go_big_op)
            refine (i_TableEval _ _ _ _).mono ?_
            rw [HE.out]
            rintro e w6 ⟨rfl, hb6⟩
            have H6 := Lib.hid ((below_drewN (Below.refl wr.heap.size wr) (r + 1)).trans (hb6.mono (Nat.le_refl _)))
            clear hb6
            refine hK _ _ (Cls.mk' H6.out) ?_
            clear hK K
            (repeat (first | (refine lex_read (by first | exact wanted_n rfl | exact wanted_g rfl rfl rfl rfl) (by exact rfl) (fun K hK => ?_); go_big_quiet_op; refine hK _ ?_; clear hK K) | (refine lex_skip' (by exact wanted_g rfl rfl rfl rfl) (fun K hK => ?_); go_simp; refine hK _ ?_; clear hK K)))
            (refine lex_eff (by first | exact wanted_n rfl | exact wanted_g rfl rfl rfl rfl) (by exact rfl) (fun K hK => ?_); go_big_op)
            refine (i_TableEval _ _ _ _).mono ?_
            rintro e w7 ⟨rfl, hb7⟩
            have H7 := Lib.hid (H6.out.trans (hb7.mono H6.out.size))
            clear hb7
            refine hK _ _ (Cls.mk' H7.out) ?_
            clear hK K
            obtain ⟨X, hX⟩ : ∃ X, tEv m b i = X := ⟨_, rfl⟩
            rw [hX]
            clear hX
            (repeat (first | (refine lex_read (by first | exact wanted_n rfl | exact wanted_g rfl rfl rfl rfl) (by exact rfl) (fun K hK => ?_); go_big_quiet_op; refine hK _ ?_; clear hK K) | (refine lex_skip' (by exact wanted_g rfl rfl rfl rfl) (fun K hK => ?_); go_simp; refine hK _ ?_; clear hK K)))
            (refine lex_nil ?_)
            clear lexNE cT0 cT1 cS0 cS1
            go_wp2_with fail
            go_roundw
            case rel =>
              exact ⟨i + 1, by omega, by go_num, HT.out.below H7.out l1, HS.out.below H7.out l2, HR.out.below (H7.out.mono (by omega)), Hbr.out.trans (H7.out.mono Hbr.out.size)⟩
            case measure => simp [intOf]; omega
      · have hke : M ≤ i := by omega
        have hw1 := HW1.out
        go_wp2_with fail
        clear hw1
        refine (i_TableShrink _ _ _).mono ?_
        rw [HAG.out.2]
        rintro e w6 ⟨A6, c6, rfl, _, hb6⟩
        have hag := HAG.out.1
        rw [hag]
        have HS6 := Lib.hid ((HS.out.below hb6 l2).alloc (.cells #[.int .i64 (len : Int), .int .i64 (sb : Int)] 31))
        have HX6 := Lib.hid (Blk.new w6 31 #[.int .i64 (len : Int), .int .i64 (sb : Int)])
        have Hb6 := Lib.hid ((Hbr.out.trans (hb6.mono Hbr.out.size)).alloc (Nat.le_trans Hbr.out.size hb6.size) (.cells #[.int .i64 (len : Int), .int .i64 (sb : Int)] 31))
        clear hb6 t0 t1 s0 s1 hag
        obtain ⟨s0, s1⟩ := blk2 HS6.out
        obtain ⟨x0, x1⟩ := blk2 HX6.out
        go_wp2_with fail
        go_ret
        exact ⟨by simp, Hb6.out⟩
  · have hb2 : 1048576 < n := by omega
    go_enter Try.func5, Try.ntmps5
    go_wp2_with (first | (go_at_call 12; go_in))
    go_ret
    exact ⟨rfl, Below.refl _ _⟩
set_option maxRecDepth 100000 in
theorem lifted_FnShrunk (os : Os) (started : os.Started) (H : Type) (enc : TypeId × Value → H) :
    ReturnsInHanded {} Try.checked os 5 .any (Rows.fnShrunkSpec.pre6 enc Try.prog Try.f5 Rows.fnShrunkRow.domain false) (Rows.fnShrunkSpec.post enc Try.prog Try.f5 false true false false) := by
  refine lift (F := 5) (fn := Try.f5) (s := Rows.fnShrunkSpec) (conds := Rows.fnShrunkRow.domain) (by kernel_rfl) Try.func5 (by kernel_rfl) rfl (by kernel_rfl) ?_ ?_ os started H enc
    (ChangeSpec.witness6 (enc := enc) (C := Try.checked) false ⟨#[], #[.slice none 0 0], []⟩ 8 (by kernel_rfl) (by kernel_rfl) (by kernel_rfl) (by kernel_rfl))
  · intro H ds hl
    rw [Try.params5] at hl
    match ds, hl with
    | [d0], _ => exact ⟨rfl, rfl, rfl⟩
  · intro W base args H enc ds p hval hA hlt
    rw [Try.params5] at hA hval
    obtain ⟨v0, vs0, e0, es0, p0, q0, hargs, rfl, rfl, h0, r0⟩ := trodAll_cons hA
    obtain ⟨rfl, rfl, rfl⟩ := trodAll_nil r0
    obtain rfl : args = #[v0] := by cases args; simp_all
    obtain ⟨A0, n0, c0, l, rfl, w0⟩ := op_bytes Try.underlying22 Try.underlying5 (by kernel_rfl) (hval 0 22 v0 rfl rfl) h0 (fun x hx => hlt x (by simp [hx]))
    exact walk_FnShrunk A0 n0 c0 l W w0
theorem facts_FnShrunk : joinedFacts Try.pinned.checked.prog 5 Try.f5 Rows.fnShrunkSpec Rows.fnShrunkRow = true :=
  facts_of (P := Try.prog) mayE liftE makeE rfl rfl (by kernel_rfl) (by kernel_rfl) (by kernel_rfl) (by kernel_rfl) (by kernel_rfl) (by kernel_rfl) (by kernel_rfl) (by kernel_rfl) (by kernel_rfl) (by kernel_rfl) (by kernel_rfl) (by kernel_rfl) (by kernel_rfl) rfl rfl (by kernel_rfl) (by kernel_rfl) (by kernel_rfl) (by kernel_rfl) (by kernel_rfl) (by kernel_rfl) (by kernel_rfl) (by kernel_rfl) (by kernel_rfl) (by kernel_rfl) (by kernel_rfl) rfl rfl (by kernel_rfl) (by kernel_rfl) (by kernel_rfl)
theorem over_FnShrunk : Rows.fnShrunkRow.holds Try.pinned (OpenSpec.ofChange Rows.fnShrunkSpec) :=
  OpenClaim.holds_of_wide 5 Try.f5 rfl rfl rfl rfl rfl rfl rfl ⟨rfl, rfl, rfl, rfl, rfl⟩ rfl rfl rfl rfl rfl (by kernel_rfl) Try.func5 facts_FnShrunk
    (of_decide_eq_true (by kernel_rfl)) (by unfold Func.isWrapper; first | (rw [if_pos (by decide +kernel)]; kernel_rfl) | (rw [if_neg (by decide +kernel)]; exact ⟨rfl, rfl⟩))
    (fun os started H enc _ => lifted_FnShrunk os started H enc)
theorem FnShrunk_holds : Rows.FnShrunkSaid := over_FnShrunk
end Go.Proofs.Ytbkgjgpoohlieaa

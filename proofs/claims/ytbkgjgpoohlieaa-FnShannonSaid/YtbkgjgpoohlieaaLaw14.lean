/- Law of Shannon's expansion: for every code the drawn table is the disjunction of its two cofactors for each input. Conditions: none. -/
import Derived.Test.YtbkgjgpoohlieaaFrame3
import Derived.Test.YtbkgjgpoohlieaaDrawT
import Derived.Test.YtbkgjgpoohlieaaStructEq
import Derived.Outline
namespace Go.Proofs.Ytbkgjgpoohlieaa
open Go.ChangeShapes Go.WideShapes Go.ChangeAt Go.RowKit

attribute [local go_sem] i64_and1
theorem wd_cell {B : Nat} {W0 : World} {g : Nat} {t : TypeId} {x y : Value} (hB : Blk W0 g t #[x, y]) (hg : g < B) :
    (∀ W : Wd (fun w => Below B W0 w), W.val.cell? ⟨g, 0, none⟩ = some x) ∧ (∀ W : Wd (fun w => Below B W0 w), W.val.cell? ⟨g, 1, none⟩ = some y) :=
  ⟨fun W => (W.ok.cell (p := ⟨g, 0, none⟩) hg).trans (hB.cell 0), fun W => (W.ok.cell (p := ⟨g, 1, none⟩) hg).trans (hB.cell 1)⟩

set_option maxRecDepth 100000 in
set_option maxHeartbeats 8000000 in
theorem walk_FnShannon (A : Option Addr) (n c : Nat) (l : List UInt8) (w : World) (hr : Reads w w.heap.size 1 A n (bys l)) : Calls Try.prog 4 #[.slice A n c] w fun e w' => e = .returned (.bool true) ∧ Below w.heap.size w w' := by
  by_cases hb : n ≤ 1048576
  · go_enter Try.func4, Try.ntmps4
    go_wp2_with (first | (go_at_call 12; go_in))
    refine (s_DrawTable hr hb).mono ?_
    rintro e w1 ⟨m, b, i, rfl, hok, hi0, hi1, hb1⟩
    have Hok := Lib.hid hok
    have Hi := Lib.hid (And.intro hi0 hi1)
    have Hb1 := Lib.hid (hb1.alloc hb1.size (.cells #[.int .i64 m, .int .i64 b] 31))
    have z1 := hb1.size
    have hm := (tOk_split hok).1
    have hm0 := (inR_iff.1 hm).1
    have hm1 := (inR_iff.1 hm).2
    have HT1 := Lib.hid (Blk.new w1 31 #[.int .i64 m, .int .i64 b])
    have Hev := Lib.hid (ev_num hok hi0 hi1)
    have Hnn := Lib.hid (tNot_not hok)
    have hi2 : i ≤ 15 := by have := pow_bd hm; omega
    have mi : min i.toNat 64 = i.toNat := by omega
    clear hok hi1 hb1 hm
    go_wp2_with fail
    go_loopw [5, 6, 7, 8, 9] (fun kv _ _ _ _ wr => ∃ k : Int, 0 ≤ k ∧ k ≤ m ∧ kv = .int .i64 k ∧ Blk wr w1.heap.size 31 #[.int .i64 m, .int .i64 b] ∧ Below w.heap.size w wr ∧ w1.heap.size < wr.heap.size) (fun kv _ _ _ _ _ => (m - intOf kv).toNat)
    case atStart => exact ⟨0, by omega, by omega, rfl, HT1.out, Hb1.out, by simp⟩
    case round =>
      obtain ⟨k, hk0, hk1, rfl, hT, hbr, hsz⟩ := hrel
      have HT := Lib.hid hT
      have Hbr := Lib.hid hbr
      have t0 := hT.cell 0
      have t1 := hT.cell 1
      simp only [List.getElem?_toArray, List.getElem?_cons_zero, List.getElem?_cons_succ] at t0 t1
      clear hT hbr
      by_cases hlt : k < m
      · obtain ⟨v, hv, hov⟩ := tVar_ok (tOk_split Hok.out).1 hk0 hlt
        obtain ⟨a, ha, hoa⟩ := tCof_ok (v := false) Hok.out hk0 hlt
        obtain ⟨d, hd, hod⟩ := tCof_ok (v := true) Hok.out hk0 hlt
        obtain ⟨p, hp, hop⟩ := tAnd_ok hov hod
        obtain ⟨q, hq, hoq⟩ := tNot_ok hov
        obtain ⟨r, hrr, hor⟩ := tAnd_ok hoq hoa
        have hS := shannon Hok.out hk0 hlt hv ha hd hp hq hrr
        have hda := tDep_cof Hok.out hk0 hlt ha
        have hdd := tDep_cof Hok.out hk0 hlt hd
        have hec := ev_cof Hok.out hk0 hlt Hi.out.1 Hi.out.2 ha hd
        have Hv := Lib.hid hv
        have Ha := Lib.hid ha
        have Hd := Lib.hid hd
        have Hp := Lib.hid hp
        have Hq := Lib.hid hq
        have Hr := Lib.hid hrr
        have HS := Lib.hid hS
        have Hda := Lib.hid hda
        have Hdd := Lib.hid hdd
        have Hec := Lib.hid hec
        clear hv ha hd hp hq hrr hS hda hdd hec hov hoa hod hop hoq hor
        go_wp2_with fail
        refine (i_TableVar _ _ _).mono ?_
        rw [Hv.out]
        rintro e w2 ⟨rfl, hb2⟩
        have HT2 := Lib.hid ((HT.out.below hb2 HT.out.lt).alloc (.cells #[.int .i64 m, .int .i64 v] 31))
        have HV2 := Lib.hid (Blk.new w2 31 #[.int .i64 m, .int .i64 v])
        have Hb2 := Lib.hid ((Hbr.out.trans (hb2.mono Hbr.out.size)).alloc (Nat.le_trans Hbr.out.size hb2.size) (.cells #[.int .i64 m, .int .i64 v] 31))
        have z2 := hb2.size
        have t0 := HT2.out.cell 0
        have t1 := HT2.out.cell 1
        simp only [List.getElem?_toArray, List.getElem?_cons_zero, List.getElem?_cons_succ] at t0 t1
        clear hb2
        go_wp2_with fail
        refine (i_TableCofactor _ _ _ _ _).mono ?_
        rw [Ha.out]
        rintro e w3 ⟨rfl, hb3⟩
        have HT3 := Lib.hid ((HT2.out.below hb3 HT2.out.lt).alloc (.cells #[.int .i64 m, .int .i64 a] 31))
        have HV3 := Lib.hid ((HV2.out.below hb3 HV2.out.lt).alloc (.cells #[.int .i64 m, .int .i64 a] 31))
        have HA3 := Lib.hid (Blk.new w3 31 #[.int .i64 m, .int .i64 a])
        have Hb3 := Lib.hid ((Hb2.out.trans (hb3.mono Hb2.out.size)).alloc (Nat.le_trans Hb2.out.size hb3.size) (.cells #[.int .i64 m, .int .i64 a] 31))
        have z3 := hb3.size
        have t0 := HT3.out.cell 0
        have t1 := HT3.out.cell 1
        simp only [List.getElem?_toArray, List.getElem?_cons_zero, List.getElem?_cons_succ] at t0 t1
        simp at z3
        clear hb3
        go_wp2_with fail
        refine (i_TableCofactor _ _ _ _ _).mono ?_
        rw [Hd.out]
        rintro e w4 ⟨rfl, hb4⟩
        have HT4 := Lib.hid ((HT3.out.below hb4 HT3.out.lt).alloc (.cells #[.int .i64 m, .int .i64 d] 31))
        have HV4 := Lib.hid ((HV3.out.below hb4 HV3.out.lt).alloc (.cells #[.int .i64 m, .int .i64 d] 31))
        have HA4 := Lib.hid ((HA3.out.below hb4 HA3.out.lt).alloc (.cells #[.int .i64 m, .int .i64 d] 31))
        have HD4 := Lib.hid (Blk.new w4 31 #[.int .i64 m, .int .i64 d])
        have Hb4 := Lib.hid ((Hb3.out.trans (hb4.mono Hb3.out.size)).alloc (Nat.le_trans Hb3.out.size hb4.size) (.cells #[.int .i64 m, .int .i64 d] 31))
        have z4 := hb4.size
        simp at z4
        clear hb4 HT HT2 HT3 HV2 HV3 HA3 Hb2 Hb3 t0 t1
        go_wp2_with fail
        have lD : w4.heap.size < (w4.alloc (.cells #[.int .i64 m, .int .i64 d] 31)).heap.size := by simp
        generalize w4.alloc (.cells #[.int .i64 m, .int .i64 d] 31) = W5 at HT4 HV4 HA4 HD4 Hb4 lD ⊢
        refine wp_region_lexC (by kernel_rfl) (by kernel_rfl) (fun x => Below W5.heap.size W5 x) ((Below.refl _ _).drew) (fun lexNE => ?_)
        have cT := wd_cell HT4.out HT4.out.lt
        have cV := wd_cell HV4.out HV4.out.lt
        have cA := wd_cell HA4.out HA4.out.lt
        have cD := wd_cell HD4.out HD4.out.lt
        obtain ⟨cT0, cT1⟩ := cT
        obtain ⟨cV0, cV1⟩ := cV
        obtain ⟨cA0, cA1⟩ := cA
        obtain ⟨cD0, cD1⟩ := cD
        (repeat (first | (refine lex_read (by first | exact wanted_n rfl | exact wanted_g rfl rfl rfl rfl) (by exact rfl) (fun K hK => ?_); go_big_quiet_op; refine hK _ ?_; clear hK K) | (refine lex_skip' (by exact wanted_g rfl rfl rfl rfl) (fun K hK => ?_); go_simp; refine hK _ ?_; clear hK K)))
        (refine lex_eff (by first | exact wanted_n rfl | exact wanted_g rfl rfl rfl rfl) (by exact rfl) (fun K hK => ?_); go_big_op)
        refine (i_TableDepends _ _ _ _).mono ?_
        rintro e w6 ⟨rfl, hb6⟩
        rw [Hda.out]
        have H6 := Lib.hid ((Below.refl W5.heap.size W5).drew.trans hb6)
        clear hb6
        refine hK _ _ (Cls.mk' H6.out) ?_
        clear hK K
        (repeat (first | (refine lex_read (by first | exact wanted_n rfl | exact wanted_g rfl rfl rfl rfl) (by exact rfl) (fun K hK => ?_); go_big_quiet_op; refine hK _ ?_; clear hK K) | (refine lex_skip' (by exact wanted_g rfl rfl rfl rfl) (fun K hK => ?_); go_simp; refine hK _ ?_; clear hK K)))
        (refine lex_eff (by first | exact wanted_n rfl | exact wanted_g rfl rfl rfl rfl) (by exact rfl) (fun K hK => ?_); go_big_op)
        refine (i_TableDepends _ _ _ _).mono ?_
        rintro e w7 ⟨rfl, hb7⟩
        rw [Hdd.out]
        have H7 := Lib.hid (H6.out.trans (hb7.mono H6.out.size))
        clear hb7
        refine hK _ _ (Cls.mk' H7.out) ?_
        clear hK K
        (repeat (first | (refine lex_read (by first | exact wanted_n rfl | exact wanted_g rfl rfl rfl rfl) (by exact rfl) (fun K hK => ?_); go_big_quiet_op; refine hK _ ?_; clear hK K) | (refine lex_skip' (by exact wanted_g rfl rfl rfl rfl) (fun K hK => ?_); go_simp; refine hK _ ?_; clear hK K)))
        (refine lex_eff (by first | exact wanted_n rfl | exact wanted_g rfl rfl rfl rfl) (by exact rfl) (fun K hK => ?_); go_big_op)
        refine (i_TableAnd _ _ _ _ _).mono ?_
        rw [Hp.out]
        rintro e w8 ⟨rfl, hb8⟩
        have H8 := Lib.hid (H7.out.trans (hb8.mono H7.out.size))
        clear hb8
        refine hK _ _ (Cls.mk' H8.out) ?_
        clear hK K
        (repeat (first | (refine lex_read (by first | exact wanted_n rfl | exact wanted_g rfl rfl rfl rfl) (by exact rfl) (fun K hK => ?_); go_big_quiet_op; refine hK _ ?_; clear hK K) | (refine lex_skip' (by exact wanted_g rfl rfl rfl rfl) (fun K hK => ?_); go_simp; refine hK _ ?_; clear hK K)))
        (refine lex_eff (by first | exact wanted_n rfl | exact wanted_g rfl rfl rfl rfl) (by exact rfl) (fun K hK => ?_); go_big_op)
        refine (i_TableNot _ _ _).mono ?_
        rw [Hq.out]
        rintro e w9 ⟨rfl, hb9⟩
        have H9 := Lib.hid (H8.out.trans (hb9.mono H8.out.size))
        clear hb9
        refine hK _ _ (Cls.mk' H9.out) ?_
        clear hK K
        (repeat (first | (refine lex_read (by first | exact wanted_n rfl | exact wanted_g rfl rfl rfl rfl) (by exact rfl) (fun K hK => ?_); go_big_quiet_op; refine hK _ ?_; clear hK K) | (refine lex_skip' (by exact wanted_g rfl rfl rfl rfl) (fun K hK => ?_); go_simp; refine hK _ ?_; clear hK K)))
        (refine lex_eff (by first | exact wanted_n rfl | exact wanted_g rfl rfl rfl rfl) (by exact rfl) (fun K hK => ?_); go_big_op)
        refine (i_TableAnd _ _ _ _ _).mono ?_
        rw [Hr.out]
        rintro e w10 ⟨rfl, hb10⟩
        have H10 := Lib.hid (H9.out.trans (hb10.mono H9.out.size))
        clear hb10
        refine hK _ _ (Cls.mk' H10.out) ?_
        clear hK K
        (repeat (first | (refine lex_read (by first | exact wanted_n rfl | exact wanted_g rfl rfl rfl rfl) (by exact rfl) (fun K hK => ?_); go_big_quiet_op; refine hK _ ?_; clear hK K) | (refine lex_skip' (by exact wanted_g rfl rfl rfl rfl) (fun K hK => ?_); go_simp; refine hK _ ?_; clear hK K)))
        (refine lex_eff (by first | exact wanted_n rfl | exact wanted_g rfl rfl rfl rfl) (by exact rfl) (fun K hK => ?_); go_big_op)
        refine (i_TableXor _ _ _ _ _).mono ?_
        rw [HS.out]
        rintro e w11 ⟨rfl, hb11⟩
        have H11 := Lib.hid (H10.out.trans (hb11.mono H10.out.size))
        clear hb11
        refine hK _ _ (Cls.mk' H11.out) ?_
        clear hK K
        (repeat (first | (refine lex_read (by first | exact wanted_n rfl | exact wanted_g rfl rfl rfl rfl) (by exact rfl) (fun K hK => ?_); go_big_quiet_op; refine hK _ ?_; clear hK K) | (refine lex_skip' (by exact wanted_g rfl rfl rfl rfl) (fun K hK => ?_); go_simp; refine hK _ ?_; clear hK K)))
        (refine lex_nil ?_)
        clear lexNE cT0 cT1 cV0 cV1 cA0 cA1 cD0 cD1
        go_wp2_with fail
        obtain ⟨X, hX⟩ : ∃ X, tEv m b i = X := ⟨_, rfl⟩
        obtain ⟨Y, hY⟩ : ∃ Y, tEv m a i = Y := ⟨_, rfl⟩
        obtain ⟨Z, hZ⟩ : ∃ Z, tEv m d i = Z := ⟨_, rfl⟩
        have Hec2 := Lib.hid (show X = Y ∨ X = Z by rw [← hX, ← hY, ← hZ]; exact Hec.out)
        have HX := Lib.hid hX
        have HY := Lib.hid hY
        have HZ := Lib.hid hZ
        clear hX hY hZ
        refine wp_region_lexC (by kernel_rfl) (by kernel_rfl) (fun x => Below W5.heap.size W5 x) (H11.out.drew) (fun lexNE => ?_)
        have cT := wd_cell HT4.out HT4.out.lt
        have cA := wd_cell HA4.out HA4.out.lt
        have cD := wd_cell HD4.out HD4.out.lt
        obtain ⟨cT0, cT1⟩ := cT
        obtain ⟨cA0, cA1⟩ := cA
        obtain ⟨cD0, cD1⟩ := cD
        (repeat (first | (refine lex_read (by first | exact wanted_n rfl | exact wanted_g rfl rfl rfl rfl) (by exact rfl) (fun K hK => ?_); go_big_quiet_op; refine hK _ ?_; clear hK K) | (refine lex_skip' (by exact wanted_g rfl rfl rfl rfl) (fun K hK => ?_); go_simp; refine hK _ ?_; clear hK K)))
        (refine lex_eff (by first | exact wanted_n rfl | exact wanted_g rfl rfl rfl rfl) (by exact rfl) (fun K hK => ?_); go_big_op)
        refine (i_TableEval _ _ _ _).mono ?_
        rw [HX.out]
        rintro e w12 ⟨rfl, hb12⟩
        have H12 := Lib.hid (H11.out.drew.trans (hb12.mono (by simpa using H11.out.size)))
        clear hb12
        refine hK _ _ (Cls.mk' H12.out) ?_
        clear hK K
        (repeat (first | (refine lex_read (by first | exact wanted_n rfl | exact wanted_g rfl rfl rfl rfl) (by exact rfl) (fun K hK => ?_); go_big_quiet_op; refine hK _ ?_; clear hK K) | (refine lex_skip' (by exact wanted_g rfl rfl rfl rfl) (fun K hK => ?_); go_simp; refine hK _ ?_; clear hK K)))
        (refine lex_eff (by first | exact wanted_n rfl | exact wanted_g rfl rfl rfl rfl) (by exact rfl) (fun K hK => ?_); go_big_op)
        refine (i_TableEval _ _ _ _).mono ?_
        rw [HY.out]
        rintro e w13 ⟨rfl, hb13⟩
        have H13 := Lib.hid (H12.out.trans (hb13.mono H12.out.size))
        clear hb13
        refine hK _ _ (Cls.mk' H13.out) ?_
        clear hK K
        by_cases he : X = Y
        · subst he
          cases X
          all_goals
            (repeat (first | (refine lex_read (by first | exact wanted_n rfl | exact wanted_g rfl rfl rfl rfl) (by exact rfl) (fun K hK => ?_); go_big_quiet_op; refine hK _ ?_; clear hK K) | (refine lex_skip' (by exact wanted_g rfl rfl rfl rfl) (fun K hK => ?_); go_simp; refine hK _ ?_; clear hK K)))
            (refine lex_nil ?_)
            clear lexNE cT0 cT1 cA0 cA1 cD0 cD1
            go_wp2_with fail
            go_roundw
            case rel =>
              exact ⟨k + 1, by omega, by omega, rfl, HT4.out.below H13.out HT4.out.lt, Hb4.out.trans (H13.out.mono Hb4.out.size), Nat.lt_of_lt_of_le HT4.out.lt H13.out.size⟩
            case measure => simp [intOf]; omega
        · have heZ : X = Z := by
            rcases Hec2.out with h | h
            · exact absurd h he
            · exact h
          have HeZ := Lib.hid heZ
          clear heZ Hec2
          cases X <;> cases Y <;> first | exact absurd rfl he | skip
          all_goals
            clear he
            (repeat (first | (refine lex_read (by first | exact wanted_n rfl | exact wanted_g rfl rfl rfl rfl) (by exact rfl) (fun K hK => ?_); go_big_quiet_op; refine hK _ ?_; clear hK K) | (refine lex_skip' (by exact wanted_g rfl rfl rfl rfl) (fun K hK => ?_); go_simp; refine hK _ ?_; clear hK K)))
            (refine lex_eff (by first | exact wanted_n rfl | exact wanted_g rfl rfl rfl rfl) (by exact rfl) (fun K hK => ?_); go_big_op)
            refine (i_TableEval _ _ _ _).mono ?_
            rw [HX.out]
            rintro e w14 ⟨rfl, hb14⟩
            have H14 := Lib.hid (H13.out.trans (hb14.mono H13.out.size))
            clear hb14
            refine hK _ _ (Cls.mk' H14.out) ?_
            clear hK K
            (repeat (first | (refine lex_read (by first | exact wanted_n rfl | exact wanted_g rfl rfl rfl rfl) (by exact rfl) (fun K hK => ?_); go_big_quiet_op; refine hK _ ?_; clear hK K) | (refine lex_skip' (by exact wanted_g rfl rfl rfl rfl) (fun K hK => ?_); go_simp; refine hK _ ?_; clear hK K)))
            (refine lex_eff (by first | exact wanted_n rfl | exact wanted_g rfl rfl rfl rfl) (by exact rfl) (fun K hK => ?_); go_big_op)
            refine (i_TableEval _ _ _ _).mono ?_
            rw [HZ.out, ← HeZ.out]
            rintro e w15 ⟨rfl, hb15⟩
            have H15 := Lib.hid (H14.out.trans (hb15.mono H14.out.size))
            clear hb15
            refine hK _ _ (Cls.mk' H15.out) ?_
            clear hK K
            (repeat (first | (refine lex_read (by first | exact wanted_n rfl | exact wanted_g rfl rfl rfl rfl) (by exact rfl) (fun K hK => ?_); go_big_quiet_op; refine hK _ ?_; clear hK K) | (refine lex_skip' (by exact wanted_g rfl rfl rfl rfl) (fun K hK => ?_); go_simp; refine hK _ ?_; clear hK K)))
            (refine lex_nil ?_)
            clear lexNE cT0 cT1 cA0 cA1 cD0 cD1
            go_wp2_with fail
            go_roundw
            case rel =>
              exact ⟨k + 1, by omega, by omega, rfl, HT4.out.below H15.out HT4.out.lt, Hb4.out.trans (H15.out.mono Hb4.out.size), Nat.lt_of_lt_of_le HT4.out.lt H15.out.size⟩
            case measure => simp [intOf]; omega
      · have hke : m ≤ k := by omega
        go_wp2_with fail
        refine wp_region_lexC (by kernel_rfl) (by kernel_rfl) (fun x => Below wr.heap.size wr x) ((Below.refl _ _).drew) (fun lexNE => ?_)
        have cT := wd_cell HT.out HT.out.lt
        obtain ⟨cT0, cT1⟩ := cT
        (repeat (first | (refine lex_read (by first | exact wanted_n rfl | exact wanted_g rfl rfl rfl rfl) (by exact rfl) (fun K hK => ?_); go_big_quiet_op; refine hK _ ?_; clear hK K) | (refine lex_skip' (by exact wanted_g rfl rfl rfl rfl) (fun K hK => ?_); go_simp; refine hK _ ?_; clear hK K)))
        (refine lex_eff (by first | exact wanted_n rfl | exact wanted_g rfl rfl rfl rfl) (by exact rfl) (fun K hK => ?_); go_big_op)
        refine (i_TableOk _ _ _).mono ?_
        rintro e w2 ⟨rfl, hb2⟩
        rw [Hok.out]
        have H2 := Lib.hid ((Below.refl wr.heap.size wr).drew.trans hb2)
        clear hb2
        refine hK _ _ (Cls.mk' H2.out) ?_
        clear hK K
        (repeat (first | (refine lex_read (by first | exact wanted_n rfl | exact wanted_g rfl rfl rfl rfl) (by exact rfl) (fun K hK => ?_); go_big_quiet_op; refine hK _ ?_; clear hK K) | (refine lex_skip' (by exact wanted_g rfl rfl rfl rfl) (fun K hK => ?_); go_simp; refine hK _ ?_; clear hK K)))
        (refine lex_eff (by first | exact wanted_n rfl | exact wanted_g rfl rfl rfl rfl) (by exact rfl) (fun K hK => ?_); go_big_op)
        refine (i_TableNot _ _ _).mono ?_
        rintro e w3 ⟨rfl, hb3⟩
        have H3 := Lib.hid (H2.out.trans (hb3.mono H2.out.size))
        clear hb3
        refine hK _ _ (Cls.mk' H3.out) ?_
        clear hK K
        (repeat (first | (refine lex_read (by first | exact wanted_n rfl | exact wanted_g rfl rfl rfl rfl) (by exact rfl) (fun K hK => ?_); go_big_quiet_op; refine hK _ ?_; clear hK K) | (refine lex_skip' (by exact wanted_g rfl rfl rfl rfl) (fun K hK => ?_); go_simp; refine hK _ ?_; clear hK K)))
        (refine lex_eff (by first | exact wanted_n rfl | exact wanted_g rfl rfl rfl rfl) (by exact rfl) (fun K hK => ?_); go_big_op)
        refine (i_TableNot _ _ _).mono ?_
        rw [Hnn.out]
        rintro e w4 ⟨rfl, hb4⟩
        have H4 := Lib.hid (H3.out.trans (hb4.mono H3.out.size))
        clear hb4
        refine hK _ _ (Cls.mk' H4.out) ?_
        clear hK K
        (repeat (first | (refine lex_read (by first | exact wanted_n rfl | exact wanted_g rfl rfl rfl rfl) (by exact rfl) (fun K hK => ?_); go_big_quiet_op; refine hK _ ?_; clear hK K) | (refine lex_skip' (by exact wanted_g rfl rfl rfl rfl) (fun K hK => ?_); go_simp; refine hK _ ?_; clear hK K)))
        (refine lex_eff (by first | exact wanted_n rfl | exact wanted_g rfl rfl rfl rfl) (by exact rfl) (fun K hK => ?_); go_big_op)
        refine (i_TableEval _ _ _ _).mono ?_
        rw [Hev.out]
        rintro e w5 ⟨rfl, hb5⟩
        have H5 := Lib.hid (H4.out.trans (hb5.mono H4.out.size))
        clear hb5
        refine hK _ _ (Cls.mk' H5.out) ?_
        clear hK K
        (repeat (first | (refine lex_read (by first | exact wanted_n rfl | exact wanted_g rfl rfl rfl rfl) (by exact rfl) (fun K hK => ?_); go_big_quiet_op; refine hK _ ?_; clear hK K) | (refine lex_skip' (by exact wanted_g rfl rfl rfl rfl) (fun K hK => ?_); go_simp; refine hK _ ?_; clear hK K)))
        (refine lex_nil ?_)
        clear lexNE cT0 cT1
        go_wp2_with fail
        go_ret
        exact ⟨by simp, Hbr.out.trans (H5.out.mono Hbr.out.size)⟩
  · have hb2 : 1048576 < n := by omega
    go_enter Try.func4, Try.ntmps4
    go_wp2_with (first | (go_at_call 12; go_in))
    go_ret
    exact ⟨rfl, Below.refl _ _⟩
set_option maxRecDepth 100000 in
theorem lifted_FnShannon (os : Os) (started : os.Started) (H : Type) (enc : TypeId × Value → H) :
    ReturnsInHanded {} Try.checked os 4 .any (Rows.fnShannonSpec.pre6 enc Try.prog Try.f4 Rows.fnShannonRow.domain false) (Rows.fnShannonSpec.post enc Try.prog Try.f4 false true false false) := by
  refine lift (F := 4) (fn := Try.f4) (s := Rows.fnShannonSpec) (conds := Rows.fnShannonRow.domain) (by kernel_rfl) Try.func4 (by kernel_rfl) rfl (by kernel_rfl) ?_ ?_ os started H enc
    (ChangeSpec.witness6 (enc := enc) (C := Try.checked) false ⟨#[], #[.slice none 0 0], []⟩ 8 (by kernel_rfl) (by kernel_rfl) (by kernel_rfl) (by kernel_rfl))
  · intro H ds hl
    rw [Try.params4] at hl
    match ds, hl with
    | [d0], _ => exact ⟨rfl, rfl, rfl⟩
  · intro W base args H enc ds p hval hA hlt
    rw [Try.params4] at hA hval
    obtain ⟨v0, vs0, e0, es0, p0, q0, hargs, rfl, rfl, h0, r0⟩ := trodAll_cons hA
    obtain ⟨rfl, rfl, rfl⟩ := trodAll_nil r0
    obtain rfl : args = #[v0] := by cases args; simp_all
    obtain ⟨A0, n0, c0, l, rfl, w0⟩ := op_bytes Try.underlying22 Try.underlying5 (by kernel_rfl) (hval 0 22 v0 rfl rfl) h0 (fun x hx => hlt x (by simp [hx]))
    exact walk_FnShannon A0 n0 c0 l W w0
theorem facts_FnShannon : joinedFacts Try.pinned.checked.prog 4 Try.f4 Rows.fnShannonSpec Rows.fnShannonRow = true :=
  facts_of (P := Try.prog) mayE liftE makeE rfl rfl (by kernel_rfl) (by kernel_rfl) (by kernel_rfl) (by kernel_rfl) (by kernel_rfl) (by kernel_rfl) (by kernel_rfl) (by kernel_rfl) (by kernel_rfl) (by kernel_rfl) (by kernel_rfl) (by kernel_rfl) (by kernel_rfl) rfl rfl (by kernel_rfl) (by kernel_rfl) (by kernel_rfl) (by kernel_rfl) (by kernel_rfl) (by kernel_rfl) (by kernel_rfl) (by kernel_rfl) (by kernel_rfl) (by kernel_rfl) (by kernel_rfl) rfl rfl (by kernel_rfl) (by kernel_rfl) (by kernel_rfl)
theorem over_FnShannon : Rows.fnShannonRow.holds Try.pinned (OpenSpec.ofChange Rows.fnShannonSpec) :=
  OpenClaim.holds_of_wide 4 Try.f4 rfl rfl rfl rfl rfl rfl rfl ⟨rfl, rfl, rfl, rfl, rfl⟩ rfl rfl rfl rfl rfl (by kernel_rfl) Try.func4 facts_FnShannon
    (of_decide_eq_true (by kernel_rfl)) (by unfold Func.isWrapper; first | (rw [if_pos (by decide +kernel)]; kernel_rfl) | (rw [if_neg (by decide +kernel)]; exact ⟨rfl, rfl⟩))
    (fun os started H enc _ => lifted_FnShannon os started H enc)
theorem FnShannon_holds : Rows.FnShannonSaid := over_FnShannon
end Go.Proofs.Ytbkgjgpoohlieaa

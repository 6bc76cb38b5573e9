/- Law of a step: for every module, state and input the program's FlatStep returns the reference's next state and outputs, each in memory of its own. Conditions: none. -/
import Derived.Test.YtlkjdhjeecogjaaFrame9
import Derived.Test.YtlkjdhjeecogjaaStpC
import Derived.Test.YtlkjdhjeecogjaaStpD
import Derived.Test.YtlkjdhjeecogjaaGa
import Derived.Outline
namespace Go.Proofs.Ytlkjdhjeecogjaa
open Go.ChangeShapes Go.WideShapes Go.ChangeAt Go.RowKit

set_option maxRecDepth 100000 in
set_option maxHeartbeats 8000000 in
theorem walk_FnExactFlatStep (v0 : Value) (m : TModule) (v1 : Value) (st : TWordState) (v2 : Value) (ins : List TInt) (w : World) (h0 : RModule (w) (fun b => b < w.heap.size) (v0) m ∧ WfModule m) (h1 : RWordState (w) (fun b => b < w.heap.size) (v1) st ∧ WfWordState st) (h2 : Rep (w) (fun b => b < w.heap.size) (v2) (fIntS ins) ∧ Wf (fIntS ins)) :
  Calls Try.prog 3 #[v0, v1, v2] w fun e w' => e = .returned (.bool true) ∧ Below w.heap.size w w' := by
 obtain ⟨h0, wf0⟩ := h0
 have WF0 := Lib.hid wf0
 clear wf0
 obtain ⟨h1, wf1⟩ := h1
 have WF1 := Lib.hid wf1
 clear wf1
 obtain ⟨h2, wf2⟩ := h2
 have WF2 := Lib.hid wf2
 clear wf2
 obtain ⟨Aa0_0, na0_0, ca0_0, Aa0_1, na0_1, ca0_1, Aa0_2, na0_2, ca0_2, Aa0_3, na0_3, ca0_3, rfl⟩ := h0.form
 obtain ⟨Aa1_0, na1_0, ca1_0, Aa1_1, na1_1, ca1_1, rfl⟩ := h1.form
 obtain ⟨Aa2, na2, ca2, rfl⟩ := slv_of h2
 have HB0 := Lib.hid (Below.refl w.heap.size w)
 have HR0 := Lib.hid h0
 clear h0
 have HR1 := Lib.hid h1
 clear h1
 have HR2 := Lib.hid h2
 clear h2
 by_cases hlen2 : na2 ≤ 1048576
 rotate_left
 ·go_enter Try.func3, Try.ntmps3
  go_wp2_with fail
  go_ret
  exact ⟨rfl, bel_⟩
 have HZ2 := Lib.hid (show szL sInt ins ≤ 1048576 by have h1 := HR2.out.len; rw [List.length_map] at h1; unfold szL; rw [nuL_zero sInt (fun _ => rfl)]; omega)
 go_enter Try.func3, Try.ntmps3
 have H2 := Lib.hid (RModule.keep HR0.out (w' := (w.alloc (.cells #[.slice Aa0_0 na0_0 ca0_0, .slice Aa0_1 na0_1 ca0_1, .slice Aa0_2 na0_2 ca0_2, .slice Aa0_3 na0_3 ca0_3] 27))) (fun p hb => World.cell?_alloc_lt _ _ p (by have : _ < w.heap.size := hb; (try simp) <;> omega)))
 clear HR0
 have H3 := Lib.hid (RWordState.keep HR1.out (w' := (w.alloc (.cells #[.slice Aa0_0 na0_0 ca0_0, .slice Aa0_1 na0_1 ca0_1, .slice Aa0_2 na0_2 ca0_2, .slice Aa0_3 na0_3 ca0_3] 27))) (fun p hb => World.cell?_alloc_lt _ _ p (by have : _ < w.heap.size := hb; (try simp) <;> omega)))
 clear HR1
 have H4 := Lib.hid (Rep.keep HR2.out (w' := (w.alloc (.cells #[.slice Aa0_0 na0_0 ca0_0, .slice Aa0_1 na0_1 ca0_1, .slice Aa0_2 na0_2 ca0_2, .slice Aa0_3 na0_3 ca0_3] 27))) (fun p hb => World.cell?_alloc_lt _ _ p (by have : _ < w.heap.size := hb; (try simp) <;> omega)))
 clear HR2
 have HB5 := Lib.hid (HB0.out.alloc (by have := HB0.out.size; (try simp) <;> omega) (.cells #[.slice Aa0_0 na0_0 ca0_0, .slice Aa0_1 na0_1 ca0_1, .slice Aa0_2 na0_2 ca0_2, .slice Aa0_3 na0_3 ca0_3] 27))
 clear HB0
 have HX1 := Lib.hid (show Blk (w.alloc (.cells #[.slice Aa0_0 na0_0 ca0_0, .slice Aa0_1 na0_1 ca0_1, .slice Aa0_2 na0_2 ca0_2, .slice Aa0_3 na0_3 ca0_3] 27)) (w.heap.size) 27 #[.slice Aa0_0 na0_0 ca0_0, .slice Aa0_1 na0_1 ca0_1, .slice Aa0_2 na0_2 ca0_2, .slice Aa0_3 na0_3 ca0_3] from by have h := Blk.new (w) 27 #[.slice Aa0_0 na0_0 ca0_0, .slice Aa0_1 na0_1 ca0_1, .slice Aa0_2 na0_2 ca0_2, .slice Aa0_3 na0_3 ca0_3]; simpa using h)
 have H7 := Lib.hid (RModule.keep H2.out (w' := ((w.alloc (.cells #[.slice Aa0_0 na0_0 ca0_0, .slice Aa0_1 na0_1 ca0_1, .slice Aa0_2 na0_2 ca0_2, .slice Aa0_3 na0_3 ca0_3] 27)).alloc (.cells #[.slice Aa1_0 na1_0 ca1_0, .slice Aa1_1 na1_1 ca1_1] 30))) (fun p hb => World.cell?_alloc_lt _ _ p (by have : _ < w.heap.size := hb; (try simp) <;> omega)))
 clear H2
 have H8 := Lib.hid (RWordState.keep H3.out (w' := ((w.alloc (.cells #[.slice Aa0_0 na0_0 ca0_0, .slice Aa0_1 na0_1 ca0_1, .slice Aa0_2 na0_2 ca0_2, .slice Aa0_3 na0_3 ca0_3] 27)).alloc (.cells #[.slice Aa1_0 na1_0 ca1_0, .slice Aa1_1 na1_1 ca1_1] 30))) (fun p hb => World.cell?_alloc_lt _ _ p (by have : _ < w.heap.size := hb; (try simp) <;> omega)))
 clear H3
 have H9 := Lib.hid (Rep.keep H4.out (w' := ((w.alloc (.cells #[.slice Aa0_0 na0_0 ca0_0, .slice Aa0_1 na0_1 ca0_1, .slice Aa0_2 na0_2 ca0_2, .slice Aa0_3 na0_3 ca0_3] 27)).alloc (.cells #[.slice Aa1_0 na1_0 ca1_0, .slice Aa1_1 na1_1 ca1_1] 30))) (fun p hb => World.cell?_alloc_lt _ _ p (by have : _ < w.heap.size := hb; (try simp) <;> omega)))
 clear H4
 have H10 := Lib.hid (HX1.out.alloc (.cells #[.slice Aa1_0 na1_0 ca1_0, .slice Aa1_1 na1_1 ca1_1] 30))
 clear HX1
 have HB11 := Lib.hid (HB5.out.alloc (by have := HB5.out.size; (try simp) <;> omega) (.cells #[.slice Aa1_0 na1_0 ca1_0, .slice Aa1_1 na1_1 ca1_1] 30))
 clear HB5
 have HX6 := Lib.hid (show Blk ((w.alloc (.cells #[.slice Aa0_0 na0_0 ca0_0, .slice Aa0_1 na0_1 ca0_1, .slice Aa0_2 na0_2 ca0_2, .slice Aa0_3 na0_3 ca0_3] 27)).alloc (.cells #[.slice Aa1_0 na1_0 ca1_0, .slice Aa1_1 na1_1 ca1_1] 30)) (w.heap.size + 1) 30 #[.slice Aa1_0 na1_0 ca1_0, .slice Aa1_1 na1_1 ca1_1] from by have h := Blk.new ((w.alloc (.cells #[.slice Aa0_0 na0_0 ca0_0, .slice Aa0_1 na0_1 ca0_1, .slice Aa0_2 na0_2 ca0_2, .slice Aa0_3 na0_3 ca0_3] 27))) 30 #[.slice Aa1_0 na1_0 ca1_0, .slice Aa1_1 na1_1 ca1_1]; simpa using h)
 obtain ⟨yH10_0, yH10_1, yH10_2, yH10_3⟩ := blkS4 H10.out
 go_wp2_with fail
 refine (d_szModule (1048576) (by omega) H7.out (fun b hb => by have : _ < w.heap.size := hb; (try simp) <;> omega)).mono ?_
 rintro e w1 ⟨rfl, hb1⟩
 obtain ⟨cz0, hcz0⟩ : ∃ zz, zz = sModule m := ⟨_, rfl⟩
 rw [← hcz0]
 have zw1 := hb1.size
 try simp at zw1
 have H12 := Lib.hid (RModule.keep H7.out (w' := w1) (fun p hb => hb1.cell (by have : _ < w.heap.size := hb; (try simp) <;> omega)))
 clear H7
 have H13 := Lib.hid (RWordState.keep H8.out (w' := w1) (fun p hb => hb1.cell (by have : _ < w.heap.size := hb; (try simp) <;> omega)))
 clear H8
 have H14 := Lib.hid (Rep.keep H9.out (w' := w1) (fun p hb => hb1.cell (by have : _ < w.heap.size := hb; (try simp) <;> omega)))
 clear H9
 have H15 := Lib.hid (H10.out.below hb1 H10.out.lt)
 clear H10
 have H16 := Lib.hid (HX6.out.below hb1 HX6.out.lt)
 clear HX6
 have HB17 := Lib.hid (HB11.out.trans (hb1.mono (by have := HB11.out.size; (try simp) <;> omega)))
 clear HB11
 clear hb1
 by_cases bcz0 : cz0 ≤ 1048576
 rotate_left
 ·rw [leftD_no bcz0]
  clear hcz0
  go_wp2_with fail
  go_ret
  exact ⟨rfl, HB17.out⟩
 obtain ⟨lf0, hlf0⟩ : ∃ zz, zz = 1048576 - cz0 := ⟨_, rfl⟩
 rw [leftD_yes bcz0, ← hlf0]
 have HZ0 := Lib.hid (show sModule m ≤ 1048576 by rw [← hcz0]; omega)
 have hllf0 : lf0 ≤ 1048576 := by omega
 clear hcz0 bcz0 hlf0
 clear yH10_0 yH10_1 yH10_2 yH10_3
 obtain ⟨yH16_0, yH16_1⟩ := blkS2 H16.out
 go_wp2_with fail
 refine (d_szWordState (lf0) (by omega) H13.out (fun b hb => by have : _ < w.heap.size := hb; (try simp) <;> omega)).mono ?_
 rintro e w2 ⟨rfl, hb2⟩
 obtain ⟨cz1, hcz1⟩ : ∃ zz, zz = sWordState st := ⟨_, rfl⟩
 rw [← hcz1]
 have zw2 := hb2.size
 try simp at zw2
 have H18 := Lib.hid (RModule.keep H12.out (w' := w2) (fun p hb => hb2.cell (by have : _ < w.heap.size := hb; (try simp) <;> omega)))
 clear H12
 have H19 := Lib.hid (RWordState.keep H13.out (w' := w2) (fun p hb => hb2.cell (by have : _ < w.heap.size := hb; (try simp) <;> omega)))
 clear H13
 have H20 := Lib.hid (Rep.keep H14.out (w' := w2) (fun p hb => hb2.cell (by have : _ < w.heap.size := hb; (try simp) <;> omega)))
 clear H14
 have H21 := Lib.hid (H15.out.below hb2 H15.out.lt)
 clear H15
 have H22 := Lib.hid (H16.out.below hb2 H16.out.lt)
 clear H16
 have HB23 := Lib.hid (HB17.out.trans (hb2.mono (by have := HB17.out.size; (try simp) <;> omega)))
 clear HB17
 clear hb2
 by_cases bcz1 : cz1 ≤ lf0
 rotate_left
 ·rw [leftD_no bcz1]
  clear hcz1
  go_wp2_with fail
  go_ret
  exact ⟨rfl, HB23.out⟩
 obtain ⟨lf1, hlf1⟩ : ∃ zz, zz = lf0 - cz1 := ⟨_, rfl⟩
 rw [leftD_yes bcz1, ← hlf1]
 have HZ1 := Lib.hid (show sWordState st ≤ 1048576 by rw [← hcz1]; omega)
 have hllf1 : lf1 ≤ 1048576 := by omega
 clear hcz1 bcz1 hlf1
 clear yH16_0 yH16_1
 go_wp2_with fail
 go_cut [8, 9] from 43 (fun pv qv wc => ∃ (gx : Nat) (Az1_0 Az1_1 : Option Addr) (nz1_0 cz1_0 nz1_1 cz1_1 : Nat) (Ay : Option Addr) (ny cy : Nat) (T0 T1 : Nat → Prop), pv = .pointer (some ⟨gx, 0, none⟩) ∧ qv = .slice Ay ny cy ∧ (w2.heap.size ≤ gx ∧ gx < wc.heap.size) ∧ Blk wc gx 33 #[.slice Az1_0 nz1_0 cz1_0, .slice Az1_1 nz1_1 cz1_1] ∧ (∀ b, T0 b → (w2.heap.size ≤ b ∧ b < wc.heap.size) ∧ b ≠ gx) ∧ (∀ b, T1 b → (w2.heap.size ≤ b ∧ b < wc.heap.size) ∧ b ≠ gx) ∧ (∀ b, T0 b → T1 b → False) ∧ QWordState (wc) (T0) (.agg #[.slice Az1_0 nz1_0 cz1_0, .slice Az1_1 nz1_1 cz1_1]) (stpS m st ins) ∧ Sep (wc) (T1) (.slice Ay ny cy) (fIntS (stpO m st ins)) ∧ Below w2.heap.size w2 wc)
 case first =>
  refine wp_region_treeP (.node [] 1 10 (.node [0, 1] 3 10 (.node [2, 3] 5 10 (.node [4, 5] 6 10 (.leaf [6, 10, 7, 8, 9, 11, 12]) (.leaf [10, 6, 7, 8, 9, 11, 12])) (.leaf [10, 4, 5, 6, 7, 8, 9, 11, 12])) (.leaf [10, 2, 3, 4, 5, 6, 7, 8, 9, 11, 12])) (.leaf [10, 0, 1, 2, 3, 4, 5, 6, 7, 8, 9, 11, 12])) (by kernel_rfl) (by kernel_rfl) (fun x => Below w2.heap.size w2 x) ((Below.refl _ _).drew) (fun lexNE => ?_)
  simp only [LexT, ordOps, List.filterMap_cons, List.filterMap_nil, List.getElem?_cons_zero, List.getElem?_cons_succ]
  obtain ⟨cH21_0, cH21_1, cH21_2, cH21_3⟩ := bwS4 (B := w2.heap.size) H21.out H21.out.lt
  obtain ⟨cH22_0, cH22_1⟩ := bwS2 (B := w2.heap.size) H22.out H22.out.lt
  have HL24 := Lib.hid ((Below.refl w2.heap.size w2).drew)
  clear H21 H22
  have H25 := Lib.hid (RModule.keep H18.out (w' := w2.drew) (fun p hb => rfl))
  clear H18
  have H26 := Lib.hid (RWordState.keep H19.out (w' := w2.drew) (fun p hb => rfl))
  clear H19
  have H27 := Lib.hid (Rep.keep H20.out (w' := w2.drew) (fun p hb => rfl))
  clear H20
  (refine lex_nil ?_)
  refine ⟨Cls.mk' HL24.out, ?_, ?_⟩
  ·skip
   (repeat (first | (refine lex_r fun K hK => ?_; go_big_quiet_op; refine hK _ ?_; clear hK K) | (refine lex_k fun K hK => ?_; go_simp; refine hK _ ?_; clear hK K)))
   (refine lex_e fun K hK => ?_; go_big_op)
   refine (d_toModule HZ0.out H25.out (fun b hb => by have : _ < w.heap.size := hb; (try simp) <;> omega)).mono ?_
   rintro e w3 ⟨vw3, rfl, hqw3, hb3⟩
   obtain ⟨Aw3_0, nw3_0, cw3_0, Aw3_1, nw3_1, cw3_1, Aw3_2, nw3_2, cw3_2, Aw3_3, nw3_3, cw3_3, rfl⟩ := hqw3.r.form
   have HQw3 := Lib.hid (QModule.mono hqw3 (S' := Iv (w2.heap.size) (w3.heap.size)) (fun b hb => by have := hb; simp [New] at this; exact ⟨by omega, this.2⟩))
   clear hqw3
   have zw3 := hb3.size
   try simp at zw3
   clear H25
   have H28 := Lib.hid (RWordState.keep H26.out (w' := w3) (fun p hb => hb3.cell (by have : _ < w.heap.size := hb; (try simp) <;> omega)))
   clear H26
   have H29 := Lib.hid (Rep.keep H27.out (w' := w3) (fun p hb => hb3.cell (by have : _ < w.heap.size := hb; (try simp) <;> omega)))
   clear H27
   have HL30 := Lib.hid (HL24.out.trans (hb3.mono HL24.out.size))
   clear HL24
   refine hK _ _ (Cls.mk' HL30.out) ?_
   clear hK K hb3
   (refine lex_nil ?_)
   refine ⟨Cls.mk' HL30.out, ?_, ?_⟩
   ·skip
    (repeat (first | (refine lex_r fun K hK => ?_; go_big_quiet_op; refine hK _ ?_; clear hK K) | (refine lex_k fun K hK => ?_; go_simp; refine hK _ ?_; clear hK K)))
    (refine lex_e fun K hK => ?_; go_big_op)
    refine (d_toWordState HZ1.out H28.out (fun b hb => by have : _ < w.heap.size := hb; (try simp) <;> omega)).mono ?_
    rintro e w4 ⟨vw4, rfl, hqw4, hb4⟩
    obtain ⟨Aw4_0, nw4_0, cw4_0, Aw4_1, nw4_1, cw4_1, rfl⟩ := hqw4.r.form
    have HQw4 := Lib.hid (QWordState.mono hqw4 (S' := Iv (w3.heap.size) (w4.heap.size)) (fun b hb => by have := hb; simp [New] at this; exact ⟨by omega, this.2⟩))
    clear hqw4
    have zw4 := hb4.size
    try simp at zw4
    clear H28
    have H31 := Lib.hid (Rep.keep H29.out (w' := w4) (fun p hb => hb4.cell (by have : _ < w.heap.size := hb; (try simp) <;> omega)))
    clear H29
    have H32 := Lib.hid (QModule.keep HQw3.out (w' := w4) (fun b hb => hb4.block b (by have := hb; simp only [Iv] at this; (try simp) <;> omega)))
    clear HQw3
    have HL33 := Lib.hid (HL30.out.trans (hb4.mono HL30.out.size))
    clear HL30
    refine hK _ _ (Cls.mk' HL33.out) ?_
    clear hK K hb4
    (refine lex_nil ?_)
    refine ⟨Cls.mk' HL33.out, ?_, ?_⟩
    ·skip
     (repeat (first | (refine lex_r fun K hK => ?_; go_big_quiet_op; refine hK _ ?_; clear hK K) | (refine lex_k fun K hK => ?_; go_simp; refine hK _ ?_; clear hK K)))
     (refine lex_e fun K hK => ?_; go_big_op)
     refine (d_toIntS HZ2.out H31.out (fun b hb => by have : _ < w.heap.size := hb; (try simp) <;> omega)).mono ?_
     rintro e w5 ⟨vw5, rfl, hqw5, hb5⟩
     obtain ⟨Aw5, nw5, cw5, rfl⟩ := slv_of hqw5.rep
     have HQw5 := Lib.hid (Sep.mono hqw5 (S' := Iv (w4.heap.size) (w5.heap.size)) (fun b hb => by have := hb; simp [New] at this; exact ⟨by omega, this.2⟩))
     clear hqw5
     have zw5 := hb5.size
     try simp at zw5
     clear H31
     have H34 := Lib.hid (QModule.keep H32.out (w' := w5) (fun b hb => hb5.block b (by have := hb; simp only [Iv] at this; (try simp) <;> omega)))
     clear H32
     have H35 := Lib.hid (QWordState.keep HQw4.out (w' := w5) (fun b hb => hb5.block b (by have := hb; simp only [Iv] at this; (try simp) <;> omega)))
     clear HQw4
     have HL36 := Lib.hid (HL33.out.trans (hb5.mono HL33.out.size))
     clear HL33
     refine hK _ _ (Cls.mk' HL36.out) ?_
     clear hK K hb5
     (refine lex_nil ?_)
     refine ⟨Cls.mk' HL36.out, ?_, ?_⟩
     ·skip
      (repeat (first | (refine lex_r fun K hK => ?_; go_big_quiet_op; refine hK _ ?_; clear hK K) | (refine lex_k fun K hK => ?_; go_simp; refine hK _ ?_; clear hK K)))
      (refine lex_e fun K hK => ?_; go_big_op)
      refine (s_FlatStep HZ0.out H34.out.r (fun b hb => by have := hb; simp only [Iv] at this; (try simp) <;> omega) H35.out.r (fun b hb => by have := hb; simp only [Iv] at this; (try simp) <;> omega) HQw5.out.rep (fun b hb => by have := hb; simp only [Iv] at this; (try simp) <;> omega)).mono ?_
      rintro e w6 ⟨vw6_0, vw6_1, Tw6_0, Tw6_1, rfl, hsw6_0, hsw6_1, hdjw6, hqw6_0, hqw6_1, hb6⟩
      obtain ⟨Aw6_0_0, nw6_0_0, cw6_0_0, Aw6_0_1, nw6_0_1, cw6_0_1, rfl⟩ := hqw6_0.r.form
      have HQw6_0 := Lib.hid hqw6_0
      have HSw6_0 := Lib.hid (show ∀ b, Tw6_0 b → w5.heap.size ≤ b ∧ b < w6.heap.size from fun b hb => by have := hsw6_0 b hb; simp [New] at this; exact ⟨by omega, this.2⟩)
      clear hqw6_0 hsw6_0
      obtain ⟨Aw6_1, nw6_1, cw6_1, rfl⟩ := slv_of hqw6_1.rep
      have HQw6_1 := Lib.hid hqw6_1
      have HSw6_1 := Lib.hid (show ∀ b, Tw6_1 b → w5.heap.size ≤ b ∧ b < w6.heap.size from fun b hb => by have := hsw6_1 b hb; simp [New] at this; exact ⟨by omega, this.2⟩)
      clear hqw6_1 hsw6_1
      have HDw6 := Lib.hid hdjw6
      clear hdjw6
      have zw6 := hb6.size
      try simp at zw6
      clear H34 H35 HQw5
      have HL37 := Lib.hid (HL36.out.trans (hb6.mono HL36.out.size))
      clear HL36
      refine hK _ _ (Cls.mk' HL37.out) ?_
      clear hK K hb6
      (repeat (first | (refine lex_r fun K hK => ?_; go_big_quiet_op; refine hK _ ?_; clear hK K) | (refine lex_k fun K hK => ?_; go_simp; refine hK _ ?_; clear hK K)))
      (refine lex_e fun K hK => ?_; go_big_op)
      obtain ⟨wa38, hwa38⟩ : ∃ x, x = w6.alloc (.cells #[.slice none 0 0, .slice none 0 0] 33) := ⟨_, rfl⟩
      rw [← hwa38]
      have hbwa38 : Below w6.heap.size w6 wa38 := by rw [hwa38]; exact (Below.refl _ _).alloc (Nat.le_refl _) _
      have zwa38 : w6.heap.size + 1 ≤ wa38.heap.size := by rw [hwa38]; simp
      obtain ⟨gx, hgx⟩ : ∃ g, g = w6.heap.size := ⟨_, rfl⟩
      have HX39 := Lib.hid (show Blk wa38 gx 33 #[.slice none 0 0, .slice none 0 0] by rw [hwa38, hgx]; exact Blk.new _ _ _)
      rw [← hgx]
      have gxa : w6.heap.size ≤ gx := by omega
      have gxb : gx < wa38.heap.size := by omega
      clear hgx hwa38
      have H40 := Lib.hid (QWordState.keep HQw6_0.out (w' := wa38) (fun b hb => hbwa38.block b (by have := HSw6_0.out _ hb; (try simp) <;> omega)))
      clear HQw6_0
      have H41 := Lib.hid (Sep.keep HQw6_1.out (w' := wa38) (fun b hb => hbwa38.block b (by have := HSw6_1.out _ hb; (try simp) <;> omega)))
      clear HQw6_1
      have HL42 := Lib.hid (HL37.out.trans (hbwa38.mono HL37.out.size))
      clear HL37
      refine hK _ _ (Cls.mk' HL42.out) ?_
      clear hK K hbwa38
      obtain ⟨q_0, q_1⟩ := blkS2 HX39.out
      have f_0 := HX39.out.frozen 0
      have f_1 := HX39.out.frozen 1
      (repeat (first | (refine lex_r fun K hK => ?_; go_big_quiet_op; refine hK _ ?_; clear hK K) | (refine lex_k fun K hK => ?_; go_simp; refine hK _ ?_; clear hK K)))
      (refine lex_e fun K hK => ?_; go_big_op)
      obtain ⟨wf, hwf⟩ : ∃ x, x = ((wa38.setCell ⟨gx, 0, none⟩ (.slice Aw6_0_0 nw6_0_0 cw6_0_0)).setCell ⟨gx, 1, none⟩ (.slice Aw6_0_1 nw6_0_1 cw6_0_1)) := ⟨_, rfl⟩
      rw [← hwf]
      have hlf : Below w2.heap.size w2 wf := by rw [hwf]; exact ((HL42.out.setCell (by show w2.heap.size ≤ gx; omega) _).setCell (by show w2.heap.size ≤ gx; omega) _)
      refine hK _ _ (Cls.mk' hlf) ?_
      clear hK K q_0 f_0 q_1 f_1
      (repeat (first | (refine lex_r fun K hK => ?_; go_big_quiet_op; refine hK _ ?_; clear hK K) | (refine lex_k fun K hK => ?_; go_simp; refine hK _ ?_; clear hK K)))
      (refine lex_nil ?_)
      refine ⟨Cls.mk' hlf, ?_⟩
      clear lexNE cH21_0 cH21_1 cH21_2 cH21_3 cH22_0 cH22_1
      go_wp2_with fail
      go_meet
      case rel =>
       have hk2 : ∀ b, b ≠ gx → wf.heap[b]? = wa38.heap[b]? := fun b hb => by rw [hwf]; exact (Below.heap_setCell _ ⟨gx, 1, none⟩ _ b hb).trans (Below.heap_setCell _ ⟨gx, 0, none⟩ _ b hb)
       have hsf : wf.heap.size = wa38.heap.size := by rw [hwf]; simp [World.setCell]
       refine ⟨gx, Aw6_0_0, Aw6_0_1, nw6_0_0 , cw6_0_0, nw6_0_1 , cw6_0_1, _, _, _, Tw6_0, Tw6_1, rfl, rfl, ⟨by omega, by omega⟩, ?_, fun b hb => by have := HSw6_0.out _ hb; exact ⟨⟨by omega, by omega⟩, by omega⟩, fun b hb => by have := HSw6_1.out _ hb; exact ⟨⟨by omega, by omega⟩, by omega⟩, HDw6.out, ?_, ?_, hlf⟩
       ·rw [hwf]; exact blk_two HX39.out
       ·exact QWordState.keep H40.out (fun b hb => hk2 b (by have := HSw6_0.out _ hb; omega))
       ·exact Sep.keep H41.out (fun b hb => hk2 b (by have := HSw6_1.out _ hb; omega))
     ·skip
      (repeat (first | (refine lex_r fun K hK => ?_; go_big_quiet_op; refine hK _ ?_; clear hK K) | (refine lex_k fun K hK => ?_; go_simp; refine hK _ ?_; clear hK K)))
      (refine lex_e fun K hK => ?_; go_big_op)
      obtain ⟨wa43, hwa43⟩ : ∃ x, x = w5.alloc (.cells #[.slice none 0 0, .slice none 0 0] 33) := ⟨_, rfl⟩
      rw [← hwa43]
      have hbwa43 : Below w5.heap.size w5 wa43 := by rw [hwa43]; exact (Below.refl _ _).alloc (Nat.le_refl _) _
      have zwa43 : w5.heap.size + 1 ≤ wa43.heap.size := by rw [hwa43]; simp
      obtain ⟨gx, hgx⟩ : ∃ g, g = w5.heap.size := ⟨_, rfl⟩
      have HX44 := Lib.hid (show Blk wa43 gx 33 #[.slice none 0 0, .slice none 0 0] by rw [hwa43, hgx]; exact Blk.new _ _ _)
      rw [← hgx]
      have gxa : w5.heap.size ≤ gx := by omega
      have gxb : gx < wa43.heap.size := by omega
      clear hgx hwa43
      have H45 := Lib.hid (QModule.keep H34.out (w' := wa43) (fun b hb => hbwa43.block b (by have := hb; simp only [Iv] at this; (try simp) <;> omega)))
      clear H34
      have H46 := Lib.hid (QWordState.keep H35.out (w' := wa43) (fun b hb => hbwa43.block b (by have := hb; simp only [Iv] at this; (try simp) <;> omega)))
      clear H35
      have H47 := Lib.hid (Sep.keep HQw5.out (w' := wa43) (fun b hb => hbwa43.block b (by have := hb; simp only [Iv] at this; (try simp) <;> omega)))
      clear HQw5
      have HL48 := Lib.hid (HL36.out.trans (hbwa43.mono HL36.out.size))
      clear HL36
      refine hK _ _ (Cls.mk' HL48.out) ?_
      clear hK K hbwa43
      (repeat (first | (refine lex_r fun K hK => ?_; go_big_quiet_op; refine hK _ ?_; clear hK K) | (refine lex_k fun K hK => ?_; go_simp; refine hK _ ?_; clear hK K)))
      (refine lex_e fun K hK => ?_; go_big_op)
      refine (s_FlatStep HZ0.out H45.out.r (fun b hb => by have := hb; simp only [Iv] at this; (try simp) <;> omega) H46.out.r (fun b hb => by have := hb; simp only [Iv] at this; (try simp) <;> omega) H47.out.rep (fun b hb => by have := hb; simp only [Iv] at this; (try simp) <;> omega)).mono ?_
      rintro e w7 ⟨vw7_0, vw7_1, Tw7_0, Tw7_1, rfl, hsw7_0, hsw7_1, hdjw7, hqw7_0, hqw7_1, hb7⟩
      obtain ⟨Aw7_0_0, nw7_0_0, cw7_0_0, Aw7_0_1, nw7_0_1, cw7_0_1, rfl⟩ := hqw7_0.r.form
      have HQw7_0 := Lib.hid hqw7_0
      have HSw7_0 := Lib.hid (show ∀ b, Tw7_0 b → wa43.heap.size ≤ b ∧ b < w7.heap.size from fun b hb => by have := hsw7_0 b hb; simp [New] at this; exact ⟨by omega, this.2⟩)
      clear hqw7_0 hsw7_0
      obtain ⟨Aw7_1, nw7_1, cw7_1, rfl⟩ := slv_of hqw7_1.rep
      have HQw7_1 := Lib.hid hqw7_1
      have HSw7_1 := Lib.hid (show ∀ b, Tw7_1 b → wa43.heap.size ≤ b ∧ b < w7.heap.size from fun b hb => by have := hsw7_1 b hb; simp [New] at this; exact ⟨by omega, this.2⟩)
      clear hqw7_1 hsw7_1
      have HDw7 := Lib.hid hdjw7
      clear hdjw7
      have zw7 := hb7.size
      try simp at zw7
      clear H45 H46 H47
      have H49 := Lib.hid (HX44.out.below hb7 HX44.out.lt)
      clear HX44
      have HL50 := Lib.hid (HL48.out.trans (hb7.mono HL48.out.size))
      clear HL48
      refine hK _ _ (Cls.mk' HL50.out) ?_
      clear hK K hb7
      obtain ⟨q_0, q_1⟩ := blkS2 H49.out
      have f_0 := H49.out.frozen 0
      have f_1 := H49.out.frozen 1
      (repeat (first | (refine lex_r fun K hK => ?_; go_big_quiet_op; refine hK _ ?_; clear hK K) | (refine lex_k fun K hK => ?_; go_simp; refine hK _ ?_; clear hK K)))
      (refine lex_e fun K hK => ?_; go_big_op)
      obtain ⟨wf, hwf⟩ : ∃ x, x = ((w7.setCell ⟨gx, 0, none⟩ (.slice Aw7_0_0 nw7_0_0 cw7_0_0)).setCell ⟨gx, 1, none⟩ (.slice Aw7_0_1 nw7_0_1 cw7_0_1)) := ⟨_, rfl⟩
      rw [← hwf]
      have hlf : Below w2.heap.size w2 wf := by rw [hwf]; exact ((HL50.out.setCell (by show w2.heap.size ≤ gx; omega) _).setCell (by show w2.heap.size ≤ gx; omega) _)
      refine hK _ _ (Cls.mk' hlf) ?_
      clear hK K q_0 f_0 q_1 f_1
      (repeat (first | (refine lex_r fun K hK => ?_; go_big_quiet_op; refine hK _ ?_; clear hK K) | (refine lex_k fun K hK => ?_; go_simp; refine hK _ ?_; clear hK K)))
      (refine lex_nil ?_)
      refine ⟨Cls.mk' hlf, ?_⟩
      clear lexNE cH21_0 cH21_1 cH21_2 cH21_3 cH22_0 cH22_1
      go_wp2_with fail
      go_meet
      case rel =>
       have hk2 : ∀ b, b ≠ gx → wf.heap[b]? = w7.heap[b]? := fun b hb => by rw [hwf]; exact (Below.heap_setCell _ ⟨gx, 1, none⟩ _ b hb).trans (Below.heap_setCell _ ⟨gx, 0, none⟩ _ b hb)
       have hsf : wf.heap.size = w7.heap.size := by rw [hwf]; simp [World.setCell]
       refine ⟨gx, Aw7_0_0, Aw7_0_1, nw7_0_0 , cw7_0_0, nw7_0_1 , cw7_0_1, _, _, _, Tw7_0, Tw7_1, rfl, rfl, ⟨by omega, by omega⟩, ?_, fun b hb => by have := HSw7_0.out _ hb; exact ⟨⟨by omega, by omega⟩, by omega⟩, fun b hb => by have := HSw7_1.out _ hb; exact ⟨⟨by omega, by omega⟩, by omega⟩, HDw7.out, ?_, ?_, hlf⟩
       ·rw [hwf]; exact blk_two H49.out
       ·exact QWordState.keep HQw7_0.out (fun b hb => hk2 b (by have := HSw7_0.out _ hb; omega))
       ·exact Sep.keep HQw7_1.out (fun b hb => hk2 b (by have := HSw7_1.out _ hb; omega))
    ·skip
     (repeat (first | (refine lex_r fun K hK => ?_; go_big_quiet_op; refine hK _ ?_; clear hK K) | (refine lex_k fun K hK => ?_; go_simp; refine hK _ ?_; clear hK K)))
     (refine lex_e fun K hK => ?_; go_big_op)
     obtain ⟨wa51, hwa51⟩ : ∃ x, x = w4.alloc (.cells #[.slice none 0 0, .slice none 0 0] 33) := ⟨_, rfl⟩
     rw [← hwa51]
     have hbwa51 : Below w4.heap.size w4 wa51 := by rw [hwa51]; exact (Below.refl _ _).alloc (Nat.le_refl _) _
     have zwa51 : w4.heap.size + 1 ≤ wa51.heap.size := by rw [hwa51]; simp
     obtain ⟨gx, hgx⟩ : ∃ g, g = w4.heap.size := ⟨_, rfl⟩
     have HX52 := Lib.hid (show Blk wa51 gx 33 #[.slice none 0 0, .slice none 0 0] by rw [hwa51, hgx]; exact Blk.new _ _ _)
     rw [← hgx]
     have gxa : w4.heap.size ≤ gx := by omega
     have gxb : gx < wa51.heap.size := by omega
     clear hgx hwa51
     have H53 := Lib.hid (Rep.keep H31.out (w' := wa51) (fun p hb => hbwa51.cell (by have : _ < w.heap.size := hb; (try simp) <;> omega)))
     clear H31
     have H54 := Lib.hid (QModule.keep H32.out (w' := wa51) (fun b hb => hbwa51.block b (by have := hb; simp only [Iv] at this; (try simp) <;> omega)))
     clear H32
     have H55 := Lib.hid (QWordState.keep HQw4.out (w' := wa51) (fun b hb => hbwa51.block b (by have := hb; simp only [Iv] at this; (try simp) <;> omega)))
     clear HQw4
     have HL56 := Lib.hid (HL33.out.trans (hbwa51.mono HL33.out.size))
     clear HL33
     refine hK _ _ (Cls.mk' HL56.out) ?_
     clear hK K hbwa51
     (repeat (first | (refine lex_r fun K hK => ?_; go_big_quiet_op; refine hK _ ?_; clear hK K) | (refine lex_k fun K hK => ?_; go_simp; refine hK _ ?_; clear hK K)))
     (refine lex_e fun K hK => ?_; go_big_op)
     refine (d_toIntS HZ2.out H53.out (fun b hb => by have : _ < w.heap.size := hb; (try simp) <;> omega)).mono ?_
     rintro e w8 ⟨vw8, rfl, hqw8, hb8⟩
     obtain ⟨Aw8, nw8, cw8, rfl⟩ := slv_of hqw8.rep
     have HQw8 := Lib.hid (Sep.mono hqw8 (S' := Iv (wa51.heap.size) (w8.heap.size)) (fun b hb => by have := hb; simp [New] at this; exact ⟨by omega, this.2⟩))
     clear hqw8
     have zw8 := hb8.size
     try simp at zw8
     clear H53
     have H57 := Lib.hid (QModule.keep H54.out (w' := w8) (fun b hb => hb8.block b (by have := hb; simp only [Iv] at this; (try simp) <;> omega)))
     clear H54
     have H58 := Lib.hid (QWordState.keep H55.out (w' := w8) (fun b hb => hb8.block b (by have := hb; simp only [Iv] at this; (try simp) <;> omega)))
     clear H55
     have H59 := Lib.hid (HX52.out.below hb8 HX52.out.lt)
     clear HX52
     have HL60 := Lib.hid (HL56.out.trans (hb8.mono HL56.out.size))
     clear HL56
     refine hK _ _ (Cls.mk' HL60.out) ?_
     clear hK K hb8
     (repeat (first | (refine lex_r fun K hK => ?_; go_big_quiet_op; refine hK _ ?_; clear hK K) | (refine lex_k fun K hK => ?_; go_simp; refine hK _ ?_; clear hK K)))
     (refine lex_e fun K hK => ?_; go_big_op)
     refine (s_FlatStep HZ0.out H57.out.r (fun b hb => by have := hb; simp only [Iv] at this; (try simp) <;> omega) H58.out.r (fun b hb => by have := hb; simp only [Iv] at this; (try simp) <;> omega) HQw8.out.rep (fun b hb => by have := hb; simp only [Iv] at this; (try simp) <;> omega)).mono ?_
     rintro e w9 ⟨vw9_0, vw9_1, Tw9_0, Tw9_1, rfl, hsw9_0, hsw9_1, hdjw9, hqw9_0, hqw9_1, hb9⟩
     obtain ⟨Aw9_0_0, nw9_0_0, cw9_0_0, Aw9_0_1, nw9_0_1, cw9_0_1, rfl⟩ := hqw9_0.r.form
     have HQw9_0 := Lib.hid hqw9_0
     have HSw9_0 := Lib.hid (show ∀ b, Tw9_0 b → w8.heap.size ≤ b ∧ b < w9.heap.size from fun b hb => by have := hsw9_0 b hb; simp [New] at this; exact ⟨by omega, this.2⟩)
     clear hqw9_0 hsw9_0
     obtain ⟨Aw9_1, nw9_1, cw9_1, rfl⟩ := slv_of hqw9_1.rep
     have HQw9_1 := Lib.hid hqw9_1
     have HSw9_1 := Lib.hid (show ∀ b, Tw9_1 b → w8.heap.size ≤ b ∧ b < w9.heap.size from fun b hb => by have := hsw9_1 b hb; simp [New] at this; exact ⟨by omega, this.2⟩)
     clear hqw9_1 hsw9_1
     have HDw9 := Lib.hid hdjw9
     clear hdjw9
     have zw9 := hb9.size
     try simp at zw9
     clear H57 H58 HQw8
     have H61 := Lib.hid (H59.out.below hb9 H59.out.lt)
     clear H59
     have HL62 := Lib.hid (HL60.out.trans (hb9.mono HL60.out.size))
     clear HL60
     refine hK _ _ (Cls.mk' HL62.out) ?_
     clear hK K hb9
     obtain ⟨q_0, q_1⟩ := blkS2 H61.out
     have f_0 := H61.out.frozen 0
     have f_1 := H61.out.frozen 1
     (repeat (first | (refine lex_r fun K hK => ?_; go_big_quiet_op; refine hK _ ?_; clear hK K) | (refine lex_k fun K hK => ?_; go_simp; refine hK _ ?_; clear hK K)))
     (refine lex_e fun K hK => ?_; go_big_op)
     obtain ⟨wf, hwf⟩ : ∃ x, x = ((w9.setCell ⟨gx, 0, none⟩ (.slice Aw9_0_0 nw9_0_0 cw9_0_0)).setCell ⟨gx, 1, none⟩ (.slice Aw9_0_1 nw9_0_1 cw9_0_1)) := ⟨_, rfl⟩
     rw [← hwf]
     have hlf : Below w2.heap.size w2 wf := by rw [hwf]; exact ((HL62.out.setCell (by show w2.heap.size ≤ gx; omega) _).setCell (by show w2.heap.size ≤ gx; omega) _)
     refine hK _ _ (Cls.mk' hlf) ?_
     clear hK K q_0 f_0 q_1 f_1
     (repeat (first | (refine lex_r fun K hK => ?_; go_big_quiet_op; refine hK _ ?_; clear hK K) | (refine lex_k fun K hK => ?_; go_simp; refine hK _ ?_; clear hK K)))
     (refine lex_nil ?_)
     refine ⟨Cls.mk' hlf, ?_⟩
     clear lexNE cH21_0 cH21_1 cH21_2 cH21_3 cH22_0 cH22_1
     go_wp2_with fail
     go_meet
     case rel =>
      have hk2 : ∀ b, b ≠ gx → wf.heap[b]? = w9.heap[b]? := fun b hb => by rw [hwf]; exact (Below.heap_setCell _ ⟨gx, 1, none⟩ _ b hb).trans (Below.heap_setCell _ ⟨gx, 0, none⟩ _ b hb)
      have hsf : wf.heap.size = w9.heap.size := by rw [hwf]; simp [World.setCell]
      refine ⟨gx, Aw9_0_0, Aw9_0_1, nw9_0_0 , cw9_0_0, nw9_0_1 , cw9_0_1, _, _, _, Tw9_0, Tw9_1, rfl, rfl, ⟨by omega, by omega⟩, ?_, fun b hb => by have := HSw9_0.out _ hb; exact ⟨⟨by omega, by omega⟩, by omega⟩, fun b hb => by have := HSw9_1.out _ hb; exact ⟨⟨by omega, by omega⟩, by omega⟩, HDw9.out, ?_, ?_, hlf⟩
      ·rw [hwf]; exact blk_two H61.out
      ·exact QWordState.keep HQw9_0.out (fun b hb => hk2 b (by have := HSw9_0.out _ hb; omega))
      ·exact Sep.keep HQw9_1.out (fun b hb => hk2 b (by have := HSw9_1.out _ hb; omega))
   ·skip
    (repeat (first | (refine lex_r fun K hK => ?_; go_big_quiet_op; refine hK _ ?_; clear hK K) | (refine lex_k fun K hK => ?_; go_simp; refine hK _ ?_; clear hK K)))
    (refine lex_e fun K hK => ?_; go_big_op)
    obtain ⟨wa63, hwa63⟩ : ∃ x, x = w3.alloc (.cells #[.slice none 0 0, .slice none 0 0] 33) := ⟨_, rfl⟩
    rw [← hwa63]
    have hbwa63 : Below w3.heap.size w3 wa63 := by rw [hwa63]; exact (Below.refl _ _).alloc (Nat.le_refl _) _
    have zwa63 : w3.heap.size + 1 ≤ wa63.heap.size := by rw [hwa63]; simp
    obtain ⟨gx, hgx⟩ : ∃ g, g = w3.heap.size := ⟨_, rfl⟩
    have HX64 := Lib.hid (show Blk wa63 gx 33 #[.slice none 0 0, .slice none 0 0] by rw [hwa63, hgx]; exact Blk.new _ _ _)
    rw [← hgx]
    have gxa : w3.heap.size ≤ gx := by omega
    have gxb : gx < wa63.heap.size := by omega
    clear hgx hwa63
    have H65 := Lib.hid (RWordState.keep H28.out (w' := wa63) (fun p hb => hbwa63.cell (by have : _ < w.heap.size := hb; (try simp) <;> omega)))
    clear H28
    have H66 := Lib.hid (Rep.keep H29.out (w' := wa63) (fun p hb => hbwa63.cell (by have : _ < w.heap.size := hb; (try simp) <;> omega)))
    clear H29
    have H67 := Lib.hid (QModule.keep HQw3.out (w' := wa63) (fun b hb => hbwa63.block b (by have := hb; simp only [Iv] at this; (try simp) <;> omega)))
    clear HQw3
    have HL68 := Lib.hid (HL30.out.trans (hbwa63.mono HL30.out.size))
    clear HL30
    refine hK _ _ (Cls.mk' HL68.out) ?_
    clear hK K hbwa63
    (repeat (first | (refine lex_r fun K hK => ?_; go_big_quiet_op; refine hK _ ?_; clear hK K) | (refine lex_k fun K hK => ?_; go_simp; refine hK _ ?_; clear hK K)))
    (refine lex_e fun K hK => ?_; go_big_op)
    refine (d_toWordState HZ1.out H65.out (fun b hb => by have : _ < w.heap.size := hb; (try simp) <;> omega)).mono ?_
    rintro e w10 ⟨vw10, rfl, hqw10, hb10⟩
    obtain ⟨Aw10_0, nw10_0, cw10_0, Aw10_1, nw10_1, cw10_1, rfl⟩ := hqw10.r.form
    have HQw10 := Lib.hid (QWordState.mono hqw10 (S' := Iv (wa63.heap.size) (w10.heap.size)) (fun b hb => by have := hb; simp [New] at this; exact ⟨by omega, this.2⟩))
    clear hqw10
    have zw10 := hb10.size
    try simp at zw10
    clear H65
    have H69 := Lib.hid (Rep.keep H66.out (w' := w10) (fun p hb => hb10.cell (by have : _ < w.heap.size := hb; (try simp) <;> omega)))
    clear H66
    have H70 := Lib.hid (QModule.keep H67.out (w' := w10) (fun b hb => hb10.block b (by have := hb; simp only [Iv] at this; (try simp) <;> omega)))
    clear H67
    have H71 := Lib.hid (HX64.out.below hb10 HX64.out.lt)
    clear HX64
    have HL72 := Lib.hid (HL68.out.trans (hb10.mono HL68.out.size))
    clear HL68
    refine hK _ _ (Cls.mk' HL72.out) ?_
    clear hK K hb10
    (repeat (first | (refine lex_r fun K hK => ?_; go_big_quiet_op; refine hK _ ?_; clear hK K) | (refine lex_k fun K hK => ?_; go_simp; refine hK _ ?_; clear hK K)))
    (refine lex_e fun K hK => ?_; go_big_op)
    refine (d_toIntS HZ2.out H69.out (fun b hb => by have : _ < w.heap.size := hb; (try simp) <;> omega)).mono ?_
    rintro e w11 ⟨vw11, rfl, hqw11, hb11⟩
    obtain ⟨Aw11, nw11, cw11, rfl⟩ := slv_of hqw11.rep
    have HQw11 := Lib.hid (Sep.mono hqw11 (S' := Iv (w10.heap.size) (w11.heap.size)) (fun b hb => by have := hb; simp [New] at this; exact ⟨by omega, this.2⟩))
    clear hqw11
    have zw11 := hb11.size
    try simp at zw11
    clear H69
    have H73 := Lib.hid (QModule.keep H70.out (w' := w11) (fun b hb => hb11.block b (by have := hb; simp only [Iv] at this; (try simp) <;> omega)))
    clear H70
    have H74 := Lib.hid (H71.out.below hb11 H71.out.lt)
    clear H71
    have H75 := Lib.hid (QWordState.keep HQw10.out (w' := w11) (fun b hb => hb11.block b (by have := hb; simp only [Iv] at this; (try simp) <;> omega)))
    clear HQw10
    have HL76 := Lib.hid (HL72.out.trans (hb11.mono HL72.out.size))
    clear HL72
    refine hK _ _ (Cls.mk' HL76.out) ?_
    clear hK K hb11
    (repeat (first | (refine lex_r fun K hK => ?_; go_big_quiet_op; refine hK _ ?_; clear hK K) | (refine lex_k fun K hK => ?_; go_simp; refine hK _ ?_; clear hK K)))
    (refine lex_e fun K hK => ?_; go_big_op)
    refine (s_FlatStep HZ0.out H73.out.r (fun b hb => by have := hb; simp only [Iv] at this; (try simp) <;> omega) H75.out.r (fun b hb => by have := hb; simp only [Iv] at this; (try simp) <;> omega) HQw11.out.rep (fun b hb => by have := hb; simp only [Iv] at this; (try simp) <;> omega)).mono ?_
    rintro e w12 ⟨vw12_0, vw12_1, Tw12_0, Tw12_1, rfl, hsw12_0, hsw12_1, hdjw12, hqw12_0, hqw12_1, hb12⟩
    obtain ⟨Aw12_0_0, nw12_0_0, cw12_0_0, Aw12_0_1, nw12_0_1, cw12_0_1, rfl⟩ := hqw12_0.r.form
    have HQw12_0 := Lib.hid hqw12_0
    have HSw12_0 := Lib.hid (show ∀ b, Tw12_0 b → w11.heap.size ≤ b ∧ b < w12.heap.size from fun b hb => by have := hsw12_0 b hb; simp [New] at this; exact ⟨by omega, this.2⟩)
    clear hqw12_0 hsw12_0
    obtain ⟨Aw12_1, nw12_1, cw12_1, rfl⟩ := slv_of hqw12_1.rep
    have HQw12_1 := Lib.hid hqw12_1
    have HSw12_1 := Lib.hid (show ∀ b, Tw12_1 b → w11.heap.size ≤ b ∧ b < w12.heap.size from fun b hb => by have := hsw12_1 b hb; simp [New] at this; exact ⟨by omega, this.2⟩)
    clear hqw12_1 hsw12_1
    have HDw12 := Lib.hid hdjw12
    clear hdjw12
    have zw12 := hb12.size
    try simp at zw12
    clear H73 H75 HQw11
    have H77 := Lib.hid (H74.out.below hb12 H74.out.lt)
    clear H74
    have HL78 := Lib.hid (HL76.out.trans (hb12.mono HL76.out.size))
    clear HL76
    refine hK _ _ (Cls.mk' HL78.out) ?_
    clear hK K hb12
    obtain ⟨q_0, q_1⟩ := blkS2 H77.out
    have f_0 := H77.out.frozen 0
    have f_1 := H77.out.frozen 1
    (repeat (first | (refine lex_r fun K hK => ?_; go_big_quiet_op; refine hK _ ?_; clear hK K) | (refine lex_k fun K hK => ?_; go_simp; refine hK _ ?_; clear hK K)))
    (refine lex_e fun K hK => ?_; go_big_op)
    obtain ⟨wf, hwf⟩ : ∃ x, x = ((w12.setCell ⟨gx, 0, none⟩ (.slice Aw12_0_0 nw12_0_0 cw12_0_0)).setCell ⟨gx, 1, none⟩ (.slice Aw12_0_1 nw12_0_1 cw12_0_1)) := ⟨_, rfl⟩
    rw [← hwf]
    have hlf : Below w2.heap.size w2 wf := by rw [hwf]; exact ((HL78.out.setCell (by show w2.heap.size ≤ gx; omega) _).setCell (by show w2.heap.size ≤ gx; omega) _)
    refine hK _ _ (Cls.mk' hlf) ?_
    clear hK K q_0 f_0 q_1 f_1
    (repeat (first | (refine lex_r fun K hK => ?_; go_big_quiet_op; refine hK _ ?_; clear hK K) | (refine lex_k fun K hK => ?_; go_simp; refine hK _ ?_; clear hK K)))
    (refine lex_nil ?_)
    refine ⟨Cls.mk' hlf, ?_⟩
    clear lexNE cH21_0 cH21_1 cH21_2 cH21_3 cH22_0 cH22_1
    go_wp2_with fail
    go_meet
    case rel =>
     have hk2 : ∀ b, b ≠ gx → wf.heap[b]? = w12.heap[b]? := fun b hb => by rw [hwf]; exact (Below.heap_setCell _ ⟨gx, 1, none⟩ _ b hb).trans (Below.heap_setCell _ ⟨gx, 0, none⟩ _ b hb)
     have hsf : wf.heap.size = w12.heap.size := by rw [hwf]; simp [World.setCell]
     refine ⟨gx, Aw12_0_0, Aw12_0_1, nw12_0_0 , cw12_0_0, nw12_0_1 , cw12_0_1, _, _, _, Tw12_0, Tw12_1, rfl, rfl, ⟨by omega, by omega⟩, ?_, fun b hb => by have := HSw12_0.out _ hb; exact ⟨⟨by omega, by omega⟩, by omega⟩, fun b hb => by have := HSw12_1.out _ hb; exact ⟨⟨by omega, by omega⟩, by omega⟩, HDw12.out, ?_, ?_, hlf⟩
     ·rw [hwf]; exact blk_two H77.out
     ·exact QWordState.keep HQw12_0.out (fun b hb => hk2 b (by have := HSw12_0.out _ hb; omega))
     ·exact Sep.keep HQw12_1.out (fun b hb => hk2 b (by have := HSw12_1.out _ hb; omega))
  ·skip
   (repeat (first | (refine lex_r fun K hK => ?_; go_big_quiet_op; refine hK _ ?_; clear hK K) | (refine lex_k fun K hK => ?_; go_simp; refine hK _ ?_; clear hK K)))
   (refine lex_e fun K hK => ?_; go_big_op)
   obtain ⟨wa79, hwa79⟩ : ∃ x, x = (w2.alloc (.cells #[.slice none 0 0, .slice none 0 0] 33)).drew := ⟨_, rfl⟩
   rw [← hwa79]
   have hbwa79 : Below w2.heap.size w2 wa79 := by rw [hwa79]; exact ((Below.refl _ _).alloc (Nat.le_refl _) _).drew
   have zwa79 : w2.heap.size + 1 ≤ wa79.heap.size := by rw [hwa79]; simp
   obtain ⟨gx, hgx⟩ : ∃ g, g = w2.heap.size := ⟨_, rfl⟩
   have HX80 := Lib.hid (show Blk wa79 gx 33 #[.slice none 0 0, .slice none 0 0] by rw [hwa79, hgx]; exact (Blk.new _ _ _).drew)
   rw [← hgx]
   have gxa : w2.heap.size ≤ gx := by omega
   have gxb : gx < wa79.heap.size := by omega
   clear hgx hwa79
   have H81 := Lib.hid (RModule.keep H25.out (w' := wa79) (fun p hb => hbwa79.cell (by have : _ < w.heap.size := hb; (try simp) <;> omega)))
   clear H25
   have H82 := Lib.hid (RWordState.keep H26.out (w' := wa79) (fun p hb => hbwa79.cell (by have : _ < w.heap.size := hb; (try simp) <;> omega)))
   clear H26
   have H83 := Lib.hid (Rep.keep H27.out (w' := wa79) (fun p hb => hbwa79.cell (by have : _ < w.heap.size := hb; (try simp) <;> omega)))
   clear H27
   have HL84 := Lib.hid hbwa79
   clear HL24
   refine hK _ _ (Cls.mk' HL84.out) ?_
   clear hK K hbwa79
   (repeat (first | (refine lex_r fun K hK => ?_; go_big_quiet_op; refine hK _ ?_; clear hK K) | (refine lex_k fun K hK => ?_; go_simp; refine hK _ ?_; clear hK K)))
   (refine lex_e fun K hK => ?_; go_big_op)
   refine (d_toModule HZ0.out H81.out (fun b hb => by have : _ < w.heap.size := hb; (try simp) <;> omega)).mono ?_
   rintro e w13 ⟨vw13, rfl, hqw13, hb13⟩
   obtain ⟨Aw13_0, nw13_0, cw13_0, Aw13_1, nw13_1, cw13_1, Aw13_2, nw13_2, cw13_2, Aw13_3, nw13_3, cw13_3, rfl⟩ := hqw13.r.form
   have HQw13 := Lib.hid (QModule.mono hqw13 (S' := Iv (wa79.heap.size) (w13.heap.size)) (fun b hb => by have := hb; simp [New] at this; exact ⟨by omega, this.2⟩))
   clear hqw13
   have zw13 := hb13.size
   try simp at zw13
   clear H81
   have H85 := Lib.hid (RWordState.keep H82.out (w' := w13) (fun p hb => hb13.cell (by have : _ < w.heap.size := hb; (try simp) <;> omega)))
   clear H82
   have H86 := Lib.hid (Rep.keep H83.out (w' := w13) (fun p hb => hb13.cell (by have : _ < w.heap.size := hb; (try simp) <;> omega)))
   clear H83
   have H87 := Lib.hid (HX80.out.below hb13 HX80.out.lt)
   clear HX80
   have HL88 := Lib.hid (HL84.out.trans (hb13.mono HL84.out.size))
   clear HL84
   refine hK _ _ (Cls.mk' HL88.out) ?_
   clear hK K hb13
   (repeat (first | (refine lex_r fun K hK => ?_; go_big_quiet_op; refine hK _ ?_; clear hK K) | (refine lex_k fun K hK => ?_; go_simp; refine hK _ ?_; clear hK K)))
   (refine lex_e fun K hK => ?_; go_big_op)
   refine (d_toWordState HZ1.out H85.out (fun b hb => by have : _ < w.heap.size := hb; (try simp) <;> omega)).mono ?_
   rintro e w14 ⟨vw14, rfl, hqw14, hb14⟩
   obtain ⟨Aw14_0, nw14_0, cw14_0, Aw14_1, nw14_1, cw14_1, rfl⟩ := hqw14.r.form
   have HQw14 := Lib.hid (QWordState.mono hqw14 (S' := Iv (w13.heap.size) (w14.heap.size)) (fun b hb => by have := hb; simp [New] at this; exact ⟨by omega, this.2⟩))
   clear hqw14
   have zw14 := hb14.size
   try simp at zw14
   clear H85
   have H89 := Lib.hid (Rep.keep H86.out (w' := w14) (fun p hb => hb14.cell (by have : _ < w.heap.size := hb; (try simp) <;> omega)))
   clear H86
   have H90 := Lib.hid (H87.out.below hb14 H87.out.lt)
   clear H87
   have H91 := Lib.hid (QModule.keep HQw13.out (w' := w14) (fun b hb => hb14.block b (by have := hb; simp only [Iv] at this; (try simp) <;> omega)))
   clear HQw13
   have HL92 := Lib.hid (HL88.out.trans (hb14.mono HL88.out.size))
   clear HL88
   refine hK _ _ (Cls.mk' HL92.out) ?_
   clear hK K hb14
   (repeat (first | (refine lex_r fun K hK => ?_; go_big_quiet_op; refine hK _ ?_; clear hK K) | (refine lex_k fun K hK => ?_; go_simp; refine hK _ ?_; clear hK K)))
   (refine lex_e fun K hK => ?_; go_big_op)
   refine (d_toIntS HZ2.out H89.out (fun b hb => by have : _ < w.heap.size := hb; (try simp) <;> omega)).mono ?_
   rintro e w15 ⟨vw15, rfl, hqw15, hb15⟩
   obtain ⟨Aw15, nw15, cw15, rfl⟩ := slv_of hqw15.rep
   have HQw15 := Lib.hid (Sep.mono hqw15 (S' := Iv (w14.heap.size) (w15.heap.size)) (fun b hb => by have := hb; simp [New] at this; exact ⟨by omega, this.2⟩))
   clear hqw15
   have zw15 := hb15.size
   try simp at zw15
   clear H89
   have H93 := Lib.hid (H90.out.below hb15 H90.out.lt)
   clear H90
   have H94 := Lib.hid (QModule.keep H91.out (w' := w15) (fun b hb => hb15.block b (by have := hb; simp only [Iv] at this; (try simp) <;> omega)))
   clear H91
   have H95 := Lib.hid (QWordState.keep HQw14.out (w' := w15) (fun b hb => hb15.block b (by have := hb; simp only [Iv] at this; (try simp) <;> omega)))
   clear HQw14
   have HL96 := Lib.hid (HL92.out.trans (hb15.mono HL92.out.size))
   clear HL92
   refine hK _ _ (Cls.mk' HL96.out) ?_
   clear hK K hb15
   (repeat (first | (refine lex_r fun K hK => ?_; go_big_quiet_op; refine hK _ ?_; clear hK K) | (refine lex_k fun K hK => ?_; go_simp; refine hK _ ?_; clear hK K)))
   (refine lex_e fun K hK => ?_; go_big_op)
   refine (s_FlatStep HZ0.out H94.out.r (fun b hb => by have := hb; simp only [Iv] at this; (try simp) <;> omega) H95.out.r (fun b hb => by have := hb; simp only [Iv] at this; (try simp) <;> omega) HQw15.out.rep (fun b hb => by have := hb; simp only [Iv] at this; (try simp) <;> omega)).mono ?_
   rintro e w16 ⟨vw16_0, vw16_1, Tw16_0, Tw16_1, rfl, hsw16_0, hsw16_1, hdjw16, hqw16_0, hqw16_1, hb16⟩
   obtain ⟨Aw16_0_0, nw16_0_0, cw16_0_0, Aw16_0_1, nw16_0_1, cw16_0_1, rfl⟩ := hqw16_0.r.form
   have HQw16_0 := Lib.hid hqw16_0
   have HSw16_0 := Lib.hid (show ∀ b, Tw16_0 b → w15.heap.size ≤ b ∧ b < w16.heap.size from fun b hb => by have := hsw16_0 b hb; simp [New] at this; exact ⟨by omega, this.2⟩)
   clear hqw16_0 hsw16_0
   obtain ⟨Aw16_1, nw16_1, cw16_1, rfl⟩ := slv_of hqw16_1.rep
   have HQw16_1 := Lib.hid hqw16_1
   have HSw16_1 := Lib.hid (show ∀ b, Tw16_1 b → w15.heap.size ≤ b ∧ b < w16.heap.size from fun b hb => by have := hsw16_1 b hb; simp [New] at this; exact ⟨by omega, this.2⟩)
   clear hqw16_1 hsw16_1
   have HDw16 := Lib.hid hdjw16
   clear hdjw16
   have zw16 := hb16.size
   try simp at zw16
   clear H94 H95 HQw15
   have H97 := Lib.hid (H93.out.below hb16 H93.out.lt)
   clear H93
   have HL98 := Lib.hid (HL96.out.trans (hb16.mono HL96.out.size))
   clear HL96
   refine hK _ _ (Cls.mk' HL98.out) ?_
   clear hK K hb16
   obtain ⟨q_0, q_1⟩ := blkS2 H97.out
   have f_0 := H97.out.frozen 0
   have f_1 := H97.out.frozen 1
   (repeat (first | (refine lex_r fun K hK => ?_; go_big_quiet_op; refine hK _ ?_; clear hK K) | (refine lex_k fun K hK => ?_; go_simp; refine hK _ ?_; clear hK K)))
   (refine lex_e fun K hK => ?_; go_big_op)
   obtain ⟨wf, hwf⟩ : ∃ x, x = ((w16.setCell ⟨gx, 0, none⟩ (.slice Aw16_0_0 nw16_0_0 cw16_0_0)).setCell ⟨gx, 1, none⟩ (.slice Aw16_0_1 nw16_0_1 cw16_0_1)) := ⟨_, rfl⟩
   rw [← hwf]
   have hlf : Below w2.heap.size w2 wf := by rw [hwf]; exact ((HL98.out.setCell (by show w2.heap.size ≤ gx; omega) _).setCell (by show w2.heap.size ≤ gx; omega) _)
   refine hK _ _ (Cls.mk' hlf) ?_
   clear hK K q_0 f_0 q_1 f_1
   (repeat (first | (refine lex_r fun K hK => ?_; go_big_quiet_op; refine hK _ ?_; clear hK K) | (refine lex_k fun K hK => ?_; go_simp; refine hK _ ?_; clear hK K)))
   (refine lex_nil ?_)
   refine ⟨Cls.mk' hlf, ?_⟩
   clear lexNE cH21_0 cH21_1 cH21_2 cH21_3 cH22_0 cH22_1
   go_wp2_with fail
   go_meet
   case rel =>
    have hk2 : ∀ b, b ≠ gx → wf.heap[b]? = w16.heap[b]? := fun b hb => by rw [hwf]; exact (Below.heap_setCell _ ⟨gx, 1, none⟩ _ b hb).trans (Below.heap_setCell _ ⟨gx, 0, none⟩ _ b hb)
    have hsf : wf.heap.size = w16.heap.size := by rw [hwf]; simp [World.setCell]
    refine ⟨gx, Aw16_0_0, Aw16_0_1, nw16_0_0 , cw16_0_0, nw16_0_1 , cw16_0_1, _, _, _, Tw16_0, Tw16_1, rfl, rfl, ⟨by omega, by omega⟩, ?_, fun b hb => by have := HSw16_0.out _ hb; exact ⟨⟨by omega, by omega⟩, by omega⟩, fun b hb => by have := HSw16_1.out _ hb; exact ⟨⟨by omega, by omega⟩, by omega⟩, HDw16.out, ?_, ?_, hlf⟩
    ·rw [hwf]; exact blk_two H97.out
    ·exact QWordState.keep HQw16_0.out (fun b hb => hk2 b (by have := HSw16_0.out _ hb; omega))
    ·exact Sep.keep HQw16_1.out (fun b hb => hk2 b (by have := HSw16_1.out _ hb; omega))
 case rest =>
  obtain ⟨gxz1, Az1_0, Az1_1, nz1_0, cz1_0, nz1_1, cz1_1, Az1_y, nz1_y, cz1_y, Tz1_0, Tz1_1, rfl, rfl, ⟨gaz1, gbz1⟩, hbx, hs0, hs1, hdj, hq0, hq1, hbz⟩ := hcut
  obtain ⟨wqz1, hwq⟩ : ∃ x, x = wc := ⟨_, rfl⟩
  subst hwq
  have HSz1_0 := Lib.hid (show ∀ b, Tz1_0 b → w2.heap.size ≤ b ∧ b < wqz1.heap.size from fun b hb => (hs0 b hb).1)
  have HSz1_1 := Lib.hid (show ∀ b, Tz1_1 b → w2.heap.size ≤ b ∧ b < wqz1.heap.size from fun b hb => (hs1 b hb).1)
  have HDz1 := Lib.hid hdj
  have HQz1_0 := Lib.hid hq0
  have HQz1_1 := Lib.hid hq1
  have HXz1 := Lib.hid hbx
  have zz1 := hbz.size
  clear hs0 hs1 hdj hq0 hq1 hbx
  have H99 := Lib.hid (RModule.keep H18.out (w' := wqz1) (fun p hb => hbz.cell (by have : _ < w.heap.size := hb; (try simp) <;> omega)))
  clear H18
  have H100 := Lib.hid (RWordState.keep H19.out (w' := wqz1) (fun p hb => hbz.cell (by have : _ < w.heap.size := hb; (try simp) <;> omega)))
  clear H19
  have H101 := Lib.hid (Rep.keep H20.out (w' := wqz1) (fun p hb => hbz.cell (by have : _ < w.heap.size := hb; (try simp) <;> omega)))
  clear H20
  have H102 := Lib.hid (H21.out.below hbz H21.out.lt)
  clear H21
  have H103 := Lib.hid (H22.out.below hbz H22.out.lt)
  clear H22
  have HB104 := Lib.hid (HB23.out.trans (hbz.mono (by have := HB23.out.size; (try simp) <;> omega)))
  clear HB23
  clear hbz
  obtain ⟨yH102_0, yH102_1, yH102_2, yH102_3⟩ := blkS4 H102.out
  go_wp2_with fail
  refine (d_toModule HZ0.out H99.out (fun b hb => by have : _ < w.heap.size := hb; (try simp) <;> omega)).mono ?_
  rintro e w17 ⟨vw17, rfl, hqw17, hb17⟩
  obtain ⟨Aw17_0, nw17_0, cw17_0, Aw17_1, nw17_1, cw17_1, Aw17_2, nw17_2, cw17_2, Aw17_3, nw17_3, cw17_3, rfl⟩ := hqw17.r.form
  have HQw17 := Lib.hid (QModule.mono hqw17 (S' := Iv (wqz1.heap.size) (w17.heap.size)) (fun b hb => by have := hb; simp [New] at this; exact ⟨by omega, this.2⟩))
  clear hqw17
  have zw17 := hb17.size
  try simp at zw17
  have H105 := Lib.hid (RModule.keep H99.out (w' := w17) (fun p hb => hb17.cell (by have : _ < w.heap.size := hb; (try simp) <;> omega)))
  clear H99
  have H106 := Lib.hid (RWordState.keep H100.out (w' := w17) (fun p hb => hb17.cell (by have : _ < w.heap.size := hb; (try simp) <;> omega)))
  clear H100
  have H107 := Lib.hid (Rep.keep H101.out (w' := w17) (fun p hb => hb17.cell (by have : _ < w.heap.size := hb; (try simp) <;> omega)))
  clear H101
  have H108 := Lib.hid (H102.out.below hb17 H102.out.lt)
  clear H102
  have H109 := Lib.hid (H103.out.below hb17 H103.out.lt)
  clear H103
  have H110 := Lib.hid (QWordState.keep HQz1_0.out (w' := w17) (fun b hb => hb17.block b (by have := HSz1_0.out _ hb; (try simp) <;> omega)))
  clear HQz1_0
  have H111 := Lib.hid (Sep.keep HQz1_1.out (w' := w17) (fun b hb => hb17.block b (by have := HSz1_1.out _ hb; (try simp) <;> omega)))
  clear HQz1_1
  have H112 := Lib.hid (HXz1.out.below hb17 HXz1.out.lt)
  clear HXz1
  have HB113 := Lib.hid (HB104.out.trans (hb17.mono (by have := HB104.out.size; (try simp) <;> omega)))
  clear HB104
  clear hb17
  have H115 := Lib.hid (RModule.keep H105.out (w' := (w17.alloc (.cells #[.slice Aw17_0 nw17_0 cw17_0, .slice Aw17_1 nw17_1 cw17_1, .slice Aw17_2 nw17_2 cw17_2, .slice Aw17_3 nw17_3 cw17_3] 41))) (fun p hb => World.cell?_alloc_lt _ _ p (by have : _ < w.heap.size := hb; (try simp) <;> omega)))
  clear H105
  have H116 := Lib.hid (RWordState.keep H106.out (w' := (w17.alloc (.cells #[.slice Aw17_0 nw17_0 cw17_0, .slice Aw17_1 nw17_1 cw17_1, .slice Aw17_2 nw17_2 cw17_2, .slice Aw17_3 nw17_3 cw17_3] 41))) (fun p hb => World.cell?_alloc_lt _ _ p (by have : _ < w.heap.size := hb; (try simp) <;> omega)))
  clear H106
  have H117 := Lib.hid (Rep.keep H107.out (w' := (w17.alloc (.cells #[.slice Aw17_0 nw17_0 cw17_0, .slice Aw17_1 nw17_1 cw17_1, .slice Aw17_2 nw17_2 cw17_2, .slice Aw17_3 nw17_3 cw17_3] 41))) (fun p hb => World.cell?_alloc_lt _ _ p (by have : _ < w.heap.size := hb; (try simp) <;> omega)))
  clear H107
  have H118 := Lib.hid (H108.out.alloc (.cells #[.slice Aw17_0 nw17_0 cw17_0, .slice Aw17_1 nw17_1 cw17_1, .slice Aw17_2 nw17_2 cw17_2, .slice Aw17_3 nw17_3 cw17_3] 41))
  clear H108
  have H119 := Lib.hid (H109.out.alloc (.cells #[.slice Aw17_0 nw17_0 cw17_0, .slice Aw17_1 nw17_1 cw17_1, .slice Aw17_2 nw17_2 cw17_2, .slice Aw17_3 nw17_3 cw17_3] 41))
  clear H109
  have H120 := Lib.hid (QWordState.keep H110.out (w' := (w17.alloc (.cells #[.slice Aw17_0 nw17_0 cw17_0, .slice Aw17_1 nw17_1 cw17_1, .slice Aw17_2 nw17_2 cw17_2, .slice Aw17_3 nw17_3 cw17_3] 41))) (fun b hb => Below.heap_alloc _ _ b (by have := HSz1_0.out _ hb; (try simp) <;> omega)))
  clear H110
  have H121 := Lib.hid (Sep.keep H111.out (w' := (w17.alloc (.cells #[.slice Aw17_0 nw17_0 cw17_0, .slice Aw17_1 nw17_1 cw17_1, .slice Aw17_2 nw17_2 cw17_2, .slice Aw17_3 nw17_3 cw17_3] 41))) (fun b hb => Below.heap_alloc _ _ b (by have := HSz1_1.out _ hb; (try simp) <;> omega)))
  clear H111
  have H122 := Lib.hid (H112.out.alloc (.cells #[.slice Aw17_0 nw17_0 cw17_0, .slice Aw17_1 nw17_1 cw17_1, .slice Aw17_2 nw17_2 cw17_2, .slice Aw17_3 nw17_3 cw17_3] 41))
  clear H112
  have H123 := Lib.hid (QModule.keep HQw17.out (w' := (w17.alloc (.cells #[.slice Aw17_0 nw17_0 cw17_0, .slice Aw17_1 nw17_1 cw17_1, .slice Aw17_2 nw17_2 cw17_2, .slice Aw17_3 nw17_3 cw17_3] 41))) (fun b hb => Below.heap_alloc _ _ b (by have := hb; simp only [Iv] at this; (try simp) <;> omega)))
  clear HQw17
  have HB124 := Lib.hid (HB113.out.alloc (by have := HB113.out.size; (try simp) <;> omega) (.cells #[.slice Aw17_0 nw17_0 cw17_0, .slice Aw17_1 nw17_1 cw17_1, .slice Aw17_2 nw17_2 cw17_2, .slice Aw17_3 nw17_3 cw17_3] 41))
  clear HB113
  have HX114 := Lib.hid (show Blk (w17.alloc (.cells #[.slice Aw17_0 nw17_0 cw17_0, .slice Aw17_1 nw17_1 cw17_1, .slice Aw17_2 nw17_2 cw17_2, .slice Aw17_3 nw17_3 cw17_3] 41)) (w17.heap.size) 41 #[.slice Aw17_0 nw17_0 cw17_0, .slice Aw17_1 nw17_1 cw17_1, .slice Aw17_2 nw17_2 cw17_2, .slice Aw17_3 nw17_3 cw17_3] from by have h := Blk.new (w17) 41 #[.slice Aw17_0 nw17_0 cw17_0, .slice Aw17_1 nw17_1 cw17_1, .slice Aw17_2 nw17_2 cw17_2, .slice Aw17_3 nw17_3 cw17_3]; simpa using h)
  clear yH102_0 yH102_1 yH102_2 yH102_3
  obtain ⟨yH119_0, yH119_1⟩ := blkS2 H119.out
  go_wp2_with fail
  refine (d_toWordState HZ1.out H116.out (fun b hb => by have : _ < w.heap.size := hb; (try simp) <;> omega)).mono ?_
  rintro e w18 ⟨vw18, rfl, hqw18, hb18⟩
  obtain ⟨Aw18_0, nw18_0, cw18_0, Aw18_1, nw18_1, cw18_1, rfl⟩ := hqw18.r.form
  have HQw18 := Lib.hid (QWordState.mono hqw18 (S' := Iv (w17.heap.size + 1) (w18.heap.size)) (fun b hb => by have := hb; simp [New] at this; exact ⟨by omega, this.2⟩))
  clear hqw18
  have zw18 := hb18.size
  try simp at zw18
  have H125 := Lib.hid (RModule.keep H115.out (w' := w18) (fun p hb => hb18.cell (by have : _ < w.heap.size := hb; (try simp) <;> omega)))
  clear H115
  have H126 := Lib.hid (RWordState.keep H116.out (w' := w18) (fun p hb => hb18.cell (by have : _ < w.heap.size := hb; (try simp) <;> omega)))
  clear H116
  have H127 := Lib.hid (Rep.keep H117.out (w' := w18) (fun p hb => hb18.cell (by have : _ < w.heap.size := hb; (try simp) <;> omega)))
  clear H117
  have H128 := Lib.hid (H118.out.below hb18 H118.out.lt)
  clear H118
  have H129 := Lib.hid (H119.out.below hb18 H119.out.lt)
  clear H119
  have H130 := Lib.hid (QWordState.keep H120.out (w' := w18) (fun b hb => hb18.block b (by have := HSz1_0.out _ hb; (try simp) <;> omega)))
  clear H120
  have H131 := Lib.hid (Sep.keep H121.out (w' := w18) (fun b hb => hb18.block b (by have := HSz1_1.out _ hb; (try simp) <;> omega)))
  clear H121
  have H132 := Lib.hid (H122.out.below hb18 H122.out.lt)
  clear H122
  have H133 := Lib.hid (QModule.keep H123.out (w' := w18) (fun b hb => hb18.block b (by have := hb; simp only [Iv] at this; (try simp) <;> omega)))
  clear H123
  have H134 := Lib.hid (HX114.out.below hb18 HX114.out.lt)
  clear HX114
  have HB135 := Lib.hid (HB124.out.trans (hb18.mono (by have := HB124.out.size; (try simp) <;> omega)))
  clear HB124
  clear hb18
  have H137 := Lib.hid (RModule.keep H125.out (w' := (w18.alloc (.cells #[.slice Aw18_0 nw18_0 cw18_0, .slice Aw18_1 nw18_1 cw18_1] 33))) (fun p hb => World.cell?_alloc_lt _ _ p (by have : _ < w.heap.size := hb; (try simp) <;> omega)))
  clear H125
  have H138 := Lib.hid (RWordState.keep H126.out (w' := (w18.alloc (.cells #[.slice Aw18_0 nw18_0 cw18_0, .slice Aw18_1 nw18_1 cw18_1] 33))) (fun p hb => World.cell?_alloc_lt _ _ p (by have : _ < w.heap.size := hb; (try simp) <;> omega)))
  clear H126
  have H139 := Lib.hid (Rep.keep H127.out (w' := (w18.alloc (.cells #[.slice Aw18_0 nw18_0 cw18_0, .slice Aw18_1 nw18_1 cw18_1] 33))) (fun p hb => World.cell?_alloc_lt _ _ p (by have : _ < w.heap.size := hb; (try simp) <;> omega)))
  clear H127
  have H140 := Lib.hid (H128.out.alloc (.cells #[.slice Aw18_0 nw18_0 cw18_0, .slice Aw18_1 nw18_1 cw18_1] 33))
  clear H128
  have H141 := Lib.hid (H129.out.alloc (.cells #[.slice Aw18_0 nw18_0 cw18_0, .slice Aw18_1 nw18_1 cw18_1] 33))
  clear H129
  have H142 := Lib.hid (QWordState.keep H130.out (w' := (w18.alloc (.cells #[.slice Aw18_0 nw18_0 cw18_0, .slice Aw18_1 nw18_1 cw18_1] 33))) (fun b hb => Below.heap_alloc _ _ b (by have := HSz1_0.out _ hb; (try simp) <;> omega)))
  clear H130
  have H143 := Lib.hid (Sep.keep H131.out (w' := (w18.alloc (.cells #[.slice Aw18_0 nw18_0 cw18_0, .slice Aw18_1 nw18_1 cw18_1] 33))) (fun b hb => Below.heap_alloc _ _ b (by have := HSz1_1.out _ hb; (try simp) <;> omega)))
  clear H131
  have H144 := Lib.hid (H132.out.alloc (.cells #[.slice Aw18_0 nw18_0 cw18_0, .slice Aw18_1 nw18_1 cw18_1] 33))
  clear H132
  have H145 := Lib.hid (QModule.keep H133.out (w' := (w18.alloc (.cells #[.slice Aw18_0 nw18_0 cw18_0, .slice Aw18_1 nw18_1 cw18_1] 33))) (fun b hb => Below.heap_alloc _ _ b (by have := hb; simp only [Iv] at this; (try simp) <;> omega)))
  clear H133
  have H146 := Lib.hid (H134.out.alloc (.cells #[.slice Aw18_0 nw18_0 cw18_0, .slice Aw18_1 nw18_1 cw18_1] 33))
  clear H134
  have H147 := Lib.hid (QWordState.keep HQw18.out (w' := (w18.alloc (.cells #[.slice Aw18_0 nw18_0 cw18_0, .slice Aw18_1 nw18_1 cw18_1] 33))) (fun b hb => Below.heap_alloc _ _ b (by have := hb; simp only [Iv] at this; (try simp) <;> omega)))
  clear HQw18
  have HB148 := Lib.hid (HB135.out.alloc (by have := HB135.out.size; (try simp) <;> omega) (.cells #[.slice Aw18_0 nw18_0 cw18_0, .slice Aw18_1 nw18_1 cw18_1] 33))
  clear HB135
  have HX136 := Lib.hid (show Blk (w18.alloc (.cells #[.slice Aw18_0 nw18_0 cw18_0, .slice Aw18_1 nw18_1 cw18_1] 33)) (w18.heap.size) 33 #[.slice Aw18_0 nw18_0 cw18_0, .slice Aw18_1 nw18_1 cw18_1] from by have h := Blk.new (w18) 33 #[.slice Aw18_0 nw18_0 cw18_0, .slice Aw18_1 nw18_1 cw18_1]; simpa using h)
  clear yH119_0 yH119_1
  go_wp2_with fail
  refine (d_toIntS HZ2.out H139.out (fun b hb => by have : _ < w.heap.size := hb; (try simp) <;> omega)).mono ?_
  rintro e w19 ⟨vw19, rfl, hqw19, hb19⟩
  obtain ⟨Aw19, nw19, cw19, rfl⟩ := slv_of hqw19.rep
  have HQw19 := Lib.hid (Sep.mono hqw19 (S' := Iv (w18.heap.size + 1) (w19.heap.size)) (fun b hb => by have := hb; simp [New] at this; exact ⟨by omega, this.2⟩))
  clear hqw19
  have zw19 := hb19.size
  try simp at zw19
  have H149 := Lib.hid (RModule.keep H137.out (w' := w19) (fun p hb => hb19.cell (by have : _ < w.heap.size := hb; (try simp) <;> omega)))
  clear H137
  have H150 := Lib.hid (RWordState.keep H138.out (w' := w19) (fun p hb => hb19.cell (by have : _ < w.heap.size := hb; (try simp) <;> omega)))
  clear H138
  have H151 := Lib.hid (Rep.keep H139.out (w' := w19) (fun p hb => hb19.cell (by have : _ < w.heap.size := hb; (try simp) <;> omega)))
  clear H139
  have H152 := Lib.hid (H140.out.below hb19 H140.out.lt)
  clear H140
  have H153 := Lib.hid (H141.out.below hb19 H141.out.lt)
  clear H141
  have H154 := Lib.hid (QWordState.keep H142.out (w' := w19) (fun b hb => hb19.block b (by have := HSz1_0.out _ hb; (try simp) <;> omega)))
  clear H142
  have H155 := Lib.hid (Sep.keep H143.out (w' := w19) (fun b hb => hb19.block b (by have := HSz1_1.out _ hb; (try simp) <;> omega)))
  clear H143
  have H156 := Lib.hid (H144.out.below hb19 H144.out.lt)
  clear H144
  have H157 := Lib.hid (QModule.keep H145.out (w' := w19) (fun b hb => hb19.block b (by have := hb; simp only [Iv] at this; (try simp) <;> omega)))
  clear H145
  have H158 := Lib.hid (H146.out.below hb19 H146.out.lt)
  clear H146
  have H159 := Lib.hid (QWordState.keep H147.out (w' := w19) (fun b hb => hb19.block b (by have := hb; simp only [Iv] at this; (try simp) <;> omega)))
  clear H147
  have H160 := Lib.hid (HX136.out.below hb19 HX136.out.lt)
  clear HX136
  have HB161 := Lib.hid (HB148.out.trans (hb19.mono (by have := HB148.out.size; (try simp) <;> omega)))
  clear HB148
  clear hb19
  obtain ⟨yH158_0, yH158_1, yH158_2, yH158_3⟩ := blkS4 H158.out
  obtain ⟨yH160_0, yH160_1⟩ := blkS2 H160.out
  go_wp2_with fail
  refine (i_FlatStep HZ0.out H157.out.r (fun b hb => by have := hb; simp only [Iv] at this; (try simp) <;> omega) H159.out.r (fun b hb => by have := hb; simp only [Iv] at this; (try simp) <;> omega) HQw19.out.rep (fun b hb => by have := hb; simp only [Iv] at this; (try simp) <;> omega)).mono ?_
  rintro e w20 ⟨vw20_0, vw20_1, Tw20_0, Tw20_1, rfl, hsw20_0, hsw20_1, hdjw20, hqw20_0, hqw20_1, hb20⟩
  obtain ⟨Aw20_0_0, nw20_0_0, cw20_0_0, Aw20_0_1, nw20_0_1, cw20_0_1, rfl⟩ := hqw20_0.r.form
  have HQw20_0 := Lib.hid hqw20_0
  have HSw20_0 := Lib.hid (show ∀ b, Tw20_0 b → w19.heap.size ≤ b ∧ b < w20.heap.size from fun b hb => by have := hsw20_0 b hb; simp [New] at this; exact ⟨by omega, this.2⟩)
  clear hqw20_0 hsw20_0
  obtain ⟨Aw20_1, nw20_1, cw20_1, rfl⟩ := slv_of hqw20_1.rep
  have HQw20_1 := Lib.hid hqw20_1
  have HSw20_1 := Lib.hid (show ∀ b, Tw20_1 b → w19.heap.size ≤ b ∧ b < w20.heap.size from fun b hb => by have := hsw20_1 b hb; simp [New] at this; exact ⟨by omega, this.2⟩)
  clear hqw20_1 hsw20_1
  have HDw20 := Lib.hid hdjw20
  clear hdjw20
  have zw20 := hb20.size
  try simp at zw20
  have H162 := Lib.hid (RModule.keep H149.out (w' := w20) (fun p hb => hb20.cell (by have : _ < w.heap.size := hb; (try simp) <;> omega)))
  clear H149
  have H163 := Lib.hid (RWordState.keep H150.out (w' := w20) (fun p hb => hb20.cell (by have : _ < w.heap.size := hb; (try simp) <;> omega)))
  clear H150
  have H164 := Lib.hid (Rep.keep H151.out (w' := w20) (fun p hb => hb20.cell (by have : _ < w.heap.size := hb; (try simp) <;> omega)))
  clear H151
  have H165 := Lib.hid (H152.out.below hb20 H152.out.lt)
  clear H152
  have H166 := Lib.hid (H153.out.below hb20 H153.out.lt)
  clear H153
  have H167 := Lib.hid (QWordState.keep H154.out (w' := w20) (fun b hb => hb20.block b (by have := HSz1_0.out _ hb; (try simp) <;> omega)))
  clear H154
  have H168 := Lib.hid (Sep.keep H155.out (w' := w20) (fun b hb => hb20.block b (by have := HSz1_1.out _ hb; (try simp) <;> omega)))
  clear H155
  have H169 := Lib.hid (H156.out.below hb20 H156.out.lt)
  clear H156
  have H170 := Lib.hid (QModule.keep H157.out (w' := w20) (fun b hb => hb20.block b (by have := hb; simp only [Iv] at this; (try simp) <;> omega)))
  clear H157
  have H171 := Lib.hid (H158.out.below hb20 H158.out.lt)
  clear H158
  have H172 := Lib.hid (QWordState.keep H159.out (w' := w20) (fun b hb => hb20.block b (by have := hb; simp only [Iv] at this; (try simp) <;> omega)))
  clear H159
  have H173 := Lib.hid (H160.out.below hb20 H160.out.lt)
  clear H160
  have H174 := Lib.hid (Sep.keep HQw19.out (w' := w20) (fun b hb => hb20.block b (by have := hb; simp only [Iv] at this; (try simp) <;> omega)))
  clear HQw19
  have HB175 := Lib.hid (HB161.out.trans (hb20.mono (by have := HB161.out.size; (try simp) <;> omega)))
  clear HB161
  clear hb20
  have H177 := Lib.hid (RModule.keep H162.out (w' := (w20.alloc (.cells #[.slice Aw20_0_0 nw20_0_0 cw20_0_0, .slice Aw20_0_1 nw20_0_1 cw20_0_1] 33))) (fun p hb => World.cell?_alloc_lt _ _ p (by have : _ < w.heap.size := hb; (try simp) <;> omega)))
  clear H162
  have H178 := Lib.hid (RWordState.keep H163.out (w' := (w20.alloc (.cells #[.slice Aw20_0_0 nw20_0_0 cw20_0_0, .slice Aw20_0_1 nw20_0_1 cw20_0_1] 33))) (fun p hb => World.cell?_alloc_lt _ _ p (by have : _ < w.heap.size := hb; (try simp) <;> omega)))
  clear H163
  have H179 := Lib.hid (Rep.keep H164.out (w' := (w20.alloc (.cells #[.slice Aw20_0_0 nw20_0_0 cw20_0_0, .slice Aw20_0_1 nw20_0_1 cw20_0_1] 33))) (fun p hb => World.cell?_alloc_lt _ _ p (by have : _ < w.heap.size := hb; (try simp) <;> omega)))
  clear H164
  have H180 := Lib.hid (H165.out.alloc (.cells #[.slice Aw20_0_0 nw20_0_0 cw20_0_0, .slice Aw20_0_1 nw20_0_1 cw20_0_1] 33))
  clear H165
  have H181 := Lib.hid (H166.out.alloc (.cells #[.slice Aw20_0_0 nw20_0_0 cw20_0_0, .slice Aw20_0_1 nw20_0_1 cw20_0_1] 33))
  clear H166
  have H182 := Lib.hid (QWordState.keep H167.out (w' := (w20.alloc (.cells #[.slice Aw20_0_0 nw20_0_0 cw20_0_0, .slice Aw20_0_1 nw20_0_1 cw20_0_1] 33))) (fun b hb => Below.heap_alloc _ _ b (by have := HSz1_0.out _ hb; (try simp) <;> omega)))
  clear H167
  have H183 := Lib.hid (Sep.keep H168.out (w' := (w20.alloc (.cells #[.slice Aw20_0_0 nw20_0_0 cw20_0_0, .slice Aw20_0_1 nw20_0_1 cw20_0_1] 33))) (fun b hb => Below.heap_alloc _ _ b (by have := HSz1_1.out _ hb; (try simp) <;> omega)))
  clear H168
  have H184 := Lib.hid (H169.out.alloc (.cells #[.slice Aw20_0_0 nw20_0_0 cw20_0_0, .slice Aw20_0_1 nw20_0_1 cw20_0_1] 33))
  clear H169
  have H185 := Lib.hid (QModule.keep H170.out (w' := (w20.alloc (.cells #[.slice Aw20_0_0 nw20_0_0 cw20_0_0, .slice Aw20_0_1 nw20_0_1 cw20_0_1] 33))) (fun b hb => Below.heap_alloc _ _ b (by have := hb; simp only [Iv] at this; (try simp) <;> omega)))
  clear H170
  have H186 := Lib.hid (H171.out.alloc (.cells #[.slice Aw20_0_0 nw20_0_0 cw20_0_0, .slice Aw20_0_1 nw20_0_1 cw20_0_1] 33))
  clear H171
  have H187 := Lib.hid (QWordState.keep H172.out (w' := (w20.alloc (.cells #[.slice Aw20_0_0 nw20_0_0 cw20_0_0, .slice Aw20_0_1 nw20_0_1 cw20_0_1] 33))) (fun b hb => Below.heap_alloc _ _ b (by have := hb; simp only [Iv] at this; (try simp) <;> omega)))
  clear H172
  have H188 := Lib.hid (H173.out.alloc (.cells #[.slice Aw20_0_0 nw20_0_0 cw20_0_0, .slice Aw20_0_1 nw20_0_1 cw20_0_1] 33))
  clear H173
  have H189 := Lib.hid (Sep.keep H174.out (w' := (w20.alloc (.cells #[.slice Aw20_0_0 nw20_0_0 cw20_0_0, .slice Aw20_0_1 nw20_0_1 cw20_0_1] 33))) (fun b hb => Below.heap_alloc _ _ b (by have := hb; simp only [Iv] at this; (try simp) <;> omega)))
  clear H174
  have H190 := Lib.hid (QWordState.keep HQw20_0.out (w' := (w20.alloc (.cells #[.slice Aw20_0_0 nw20_0_0 cw20_0_0, .slice Aw20_0_1 nw20_0_1 cw20_0_1] 33))) (fun b hb => Below.heap_alloc _ _ b (by have := HSw20_0.out _ hb; (try simp) <;> omega)))
  clear HQw20_0
  have H191 := Lib.hid (Sep.keep HQw20_1.out (w' := (w20.alloc (.cells #[.slice Aw20_0_0 nw20_0_0 cw20_0_0, .slice Aw20_0_1 nw20_0_1 cw20_0_1] 33))) (fun b hb => Below.heap_alloc _ _ b (by have := HSw20_1.out _ hb; (try simp) <;> omega)))
  clear HQw20_1
  have HB192 := Lib.hid (HB175.out.alloc (by have := HB175.out.size; (try simp) <;> omega) (.cells #[.slice Aw20_0_0 nw20_0_0 cw20_0_0, .slice Aw20_0_1 nw20_0_1 cw20_0_1] 33))
  clear HB175
  have HX176 := Lib.hid (show Blk (w20.alloc (.cells #[.slice Aw20_0_0 nw20_0_0 cw20_0_0, .slice Aw20_0_1 nw20_0_1 cw20_0_1] 33)) (w20.heap.size) 33 #[.slice Aw20_0_0 nw20_0_0 cw20_0_0, .slice Aw20_0_1 nw20_0_1 cw20_0_1] from by have h := Blk.new (w20) 33 #[.slice Aw20_0_0 nw20_0_0 cw20_0_0, .slice Aw20_0_1 nw20_0_1 cw20_0_1]; simpa using h)
  clear yH158_0 yH158_1 yH158_2 yH158_3 yH160_0 yH160_1
  obtain ⟨yHX176_0, yHX176_1⟩ := blkS2 HX176.out
  obtain ⟨yH184_0, yH184_1⟩ := blkS2 H184.out
  go_wp2_with fail
  refine (d_eqWordState (stpS_sz m st ins) H190.out.r H182.out.r (fun b hb => by have := HSw20_0.out _ hb; (try simp) <;> omega) (fun b hb => by have := HSz1_0.out _ hb; (try simp) <;> omega)).mono ?_
  rintro e w21 ⟨rfl, hb21⟩
  have zw21 := hb21.size
  try simp at zw21
  have H193 := Lib.hid (RModule.keep H177.out (w' := w21) (fun p hb => hb21.cell (by have : _ < w.heap.size := hb; (try simp) <;> omega)))
  clear H177
  have H194 := Lib.hid (RWordState.keep H178.out (w' := w21) (fun p hb => hb21.cell (by have : _ < w.heap.size := hb; (try simp) <;> omega)))
  clear H178
  have H195 := Lib.hid (Rep.keep H179.out (w' := w21) (fun p hb => hb21.cell (by have : _ < w.heap.size := hb; (try simp) <;> omega)))
  clear H179
  have H196 := Lib.hid (H180.out.below hb21 H180.out.lt)
  clear H180
  have H197 := Lib.hid (H181.out.below hb21 H181.out.lt)
  clear H181
  have H198 := Lib.hid (QWordState.keep H182.out (w' := w21) (fun b hb => hb21.block b (by have := HSz1_0.out _ hb; (try simp) <;> omega)))
  clear H182
  have H199 := Lib.hid (Sep.keep H183.out (w' := w21) (fun b hb => hb21.block b (by have := HSz1_1.out _ hb; (try simp) <;> omega)))
  clear H183
  have H200 := Lib.hid (H184.out.below hb21 H184.out.lt)
  clear H184
  have H201 := Lib.hid (QModule.keep H185.out (w' := w21) (fun b hb => hb21.block b (by have := hb; simp only [Iv] at this; (try simp) <;> omega)))
  clear H185
  have H202 := Lib.hid (H186.out.below hb21 H186.out.lt)
  clear H186
  have H203 := Lib.hid (QWordState.keep H187.out (w' := w21) (fun b hb => hb21.block b (by have := hb; simp only [Iv] at this; (try simp) <;> omega)))
  clear H187
  have H204 := Lib.hid (H188.out.below hb21 H188.out.lt)
  clear H188
  have H205 := Lib.hid (Sep.keep H189.out (w' := w21) (fun b hb => hb21.block b (by have := hb; simp only [Iv] at this; (try simp) <;> omega)))
  clear H189
  have H206 := Lib.hid (QWordState.keep H190.out (w' := w21) (fun b hb => hb21.block b (by have := HSw20_0.out _ hb; (try simp) <;> omega)))
  clear H190
  have H207 := Lib.hid (Sep.keep H191.out (w' := w21) (fun b hb => hb21.block b (by have := HSw20_1.out _ hb; (try simp) <;> omega)))
  clear H191
  have H208 := Lib.hid (HX176.out.below hb21 HX176.out.lt)
  clear HX176
  have HB209 := Lib.hid (HB192.out.trans (hb21.mono (by have := HB192.out.size; (try simp) <;> omega)))
  clear HB192
  clear hb21
  clear yHX176_0 yHX176_1 yH184_0 yH184_1
  go_wp2_with fail
  refine (d_eqIntS (stpO_sz m st ins) H207.out.rep H199.out.rep (fun b hb => by have := HSw20_1.out _ hb; (try simp) <;> omega) (fun b hb => by have := HSz1_1.out _ hb; (try simp) <;> omega)).mono ?_
  rintro e w22 ⟨rfl, hb22⟩
  have zw22 := hb22.size
  try simp at zw22
  have H210 := Lib.hid (RModule.keep H193.out (w' := w22) (fun p hb => hb22.cell (by have : _ < w.heap.size := hb; (try simp) <;> omega)))
  clear H193
  have H211 := Lib.hid (RWordState.keep H194.out (w' := w22) (fun p hb => hb22.cell (by have : _ < w.heap.size := hb; (try simp) <;> omega)))
  clear H194
  have H212 := Lib.hid (Rep.keep H195.out (w' := w22) (fun p hb => hb22.cell (by have : _ < w.heap.size := hb; (try simp) <;> omega)))
  clear H195
  have H213 := Lib.hid (H196.out.below hb22 H196.out.lt)
  clear H196
  have H214 := Lib.hid (H197.out.below hb22 H197.out.lt)
  clear H197
  have H215 := Lib.hid (QWordState.keep H198.out (w' := w22) (fun b hb => hb22.block b (by have := HSz1_0.out _ hb; (try simp) <;> omega)))
  clear H198
  have H216 := Lib.hid (Sep.keep H199.out (w' := w22) (fun b hb => hb22.block b (by have := HSz1_1.out _ hb; (try simp) <;> omega)))
  clear H199
  have H217 := Lib.hid (H200.out.below hb22 H200.out.lt)
  clear H200
  have H218 := Lib.hid (QModule.keep H201.out (w' := w22) (fun b hb => hb22.block b (by have := hb; simp only [Iv] at this; (try simp) <;> omega)))
  clear H201
  have H219 := Lib.hid (H202.out.below hb22 H202.out.lt)
  clear H202
  have H220 := Lib.hid (QWordState.keep H203.out (w' := w22) (fun b hb => hb22.block b (by have := hb; simp only [Iv] at this; (try simp) <;> omega)))
  clear H203
  have H221 := Lib.hid (H204.out.below hb22 H204.out.lt)
  clear H204
  have H222 := Lib.hid (Sep.keep H205.out (w' := w22) (fun b hb => hb22.block b (by have := hb; simp only [Iv] at this; (try simp) <;> omega)))
  clear H205
  have H223 := Lib.hid (QWordState.keep H206.out (w' := w22) (fun b hb => hb22.block b (by have := HSw20_0.out _ hb; (try simp) <;> omega)))
  clear H206
  have H224 := Lib.hid (Sep.keep H207.out (w' := w22) (fun b hb => hb22.block b (by have := HSw20_1.out _ hb; (try simp) <;> omega)))
  clear H207
  have H225 := Lib.hid (H208.out.below hb22 H208.out.lt)
  clear H208
  have HB226 := Lib.hid (HB209.out.trans (hb22.mono (by have := HB209.out.size; (try simp) <;> omega)))
  clear HB209
  clear hb22
  go_wp2_with fail
  refine wp_region_lexC (by kernel_rfl) (by kernel_rfl) (fun x => Below w22.heap.size w22 x) ((Below.refl _ _).drew) (fun lexNE => ?_)
  obtain ⟨cH219_0, cH219_1, cH219_2, cH219_3⟩ := bwS4 (B := w22.heap.size) H219.out H219.out.lt
  obtain ⟨cH213_0, cH213_1, cH213_2, cH213_3⟩ := bwS4 (B := w22.heap.size) H213.out H213.out.lt
  have HL227 := Lib.hid ((Below.refl w22.heap.size w22).drew)
  have H228 := Lib.hid (RModule.keep H210.out (w' := w22.drew) (fun p hb => rfl))
  clear H210
  have H229 := Lib.hid (RWordState.keep H211.out (w' := w22.drew) (fun p hb => rfl))
  clear H211
  have H230 := Lib.hid (Rep.keep H212.out (w' := w22.drew) (fun p hb => rfl))
  clear H212
  have H231 := Lib.hid (H213.out.drew)
  clear H213
  have H232 := Lib.hid (H214.out.drew)
  clear H214
  have H233 := Lib.hid (QWordState.keep H215.out (w' := w22.drew) (fun b hb => rfl))
  clear H215
  have H234 := Lib.hid (Sep.keep H216.out (w' := w22.drew) (fun b hb => rfl))
  clear H216
  have H235 := Lib.hid (H217.out.drew)
  clear H217
  have H236 := Lib.hid (QModule.keep H218.out (w' := w22.drew) (fun b hb => rfl))
  clear H218
  have H237 := Lib.hid (H219.out.drew)
  clear H219
  have H238 := Lib.hid (QWordState.keep H220.out (w' := w22.drew) (fun b hb => rfl))
  clear H220
  have H239 := Lib.hid (H221.out.drew)
  clear H221
  have H240 := Lib.hid (Sep.keep H222.out (w' := w22.drew) (fun b hb => rfl))
  clear H222
  have H241 := Lib.hid (QWordState.keep H223.out (w' := w22.drew) (fun b hb => rfl))
  clear H223
  have H242 := Lib.hid (Sep.keep H224.out (w' := w22.drew) (fun b hb => rfl))
  clear H224
  have H243 := Lib.hid (H225.out.drew)
  clear H225
  have HB244 := Lib.hid (HB226.out.drew)
  clear HB226
  (repeat (first | (refine lex_r fun K hK => ?_; go_big_quiet_op; refine hK _ ?_; clear hK K) | (refine lex_k fun K hK => ?_; go_simp; refine hK _ ?_; clear hK K)))
  (refine lex_e fun K hK => ?_; go_big_op)
  refine (d_toModule HZ0.out H228.out (fun b hb => by have : _ < w.heap.size := hb; (try simp) <;> omega)).mono ?_
  rintro e w23 ⟨vw23, rfl, hqw23, hb23⟩
  obtain ⟨Aw23_0, nw23_0, cw23_0, Aw23_1, nw23_1, cw23_1, Aw23_2, nw23_2, cw23_2, Aw23_3, nw23_3, cw23_3, rfl⟩ := hqw23.r.form
  have HQw23 := Lib.hid (QModule.mono hqw23 (S' := Iv (w22.heap.size) (w23.heap.size)) (fun b hb => by have := hb; simp [New] at this; exact ⟨by omega, this.2⟩))
  clear hqw23
  have zw23 := hb23.size
  try simp at zw23
  have H245 := Lib.hid (RModule.keep H228.out (w' := w23) (fun p hb => hb23.cell (by have : _ < w.heap.size := hb; (try simp) <;> omega)))
  clear H228
  have H246 := Lib.hid (RWordState.keep H229.out (w' := w23) (fun p hb => hb23.cell (by have : _ < w.heap.size := hb; (try simp) <;> omega)))
  clear H229
  have H247 := Lib.hid (Rep.keep H230.out (w' := w23) (fun p hb => hb23.cell (by have : _ < w.heap.size := hb; (try simp) <;> omega)))
  clear H230
  have H248 := Lib.hid (H231.out.below hb23 H231.out.lt)
  clear H231
  have H249 := Lib.hid (H232.out.below hb23 H232.out.lt)
  clear H232
  have H250 := Lib.hid (QWordState.keep H233.out (w' := w23) (fun b hb => hb23.block b (by have := HSz1_0.out _ hb; (try simp) <;> omega)))
  clear H233
  have H251 := Lib.hid (Sep.keep H234.out (w' := w23) (fun b hb => hb23.block b (by have := HSz1_1.out _ hb; (try simp) <;> omega)))
  clear H234
  have H252 := Lib.hid (H235.out.below hb23 H235.out.lt)
  clear H235
  have H253 := Lib.hid (QModule.keep H236.out (w' := w23) (fun b hb => hb23.block b (by have := hb; simp only [Iv] at this; (try simp) <;> omega)))
  clear H236
  have H254 := Lib.hid (H237.out.below hb23 H237.out.lt)
  clear H237
  have H255 := Lib.hid (QWordState.keep H238.out (w' := w23) (fun b hb => hb23.block b (by have := hb; simp only [Iv] at this; (try simp) <;> omega)))
  clear H238
  have H256 := Lib.hid (H239.out.below hb23 H239.out.lt)
  clear H239
  have H257 := Lib.hid (Sep.keep H240.out (w' := w23) (fun b hb => hb23.block b (by have := hb; simp only [Iv] at this; (try simp) <;> omega)))
  clear H240
  have H258 := Lib.hid (QWordState.keep H241.out (w' := w23) (fun b hb => hb23.block b (by have := HSw20_0.out _ hb; (try simp) <;> omega)))
  clear H241
  have H259 := Lib.hid (Sep.keep H242.out (w' := w23) (fun b hb => hb23.block b (by have := HSw20_1.out _ hb; (try simp) <;> omega)))
  clear H242
  have H260 := Lib.hid (H243.out.below hb23 H243.out.lt)
  clear H243
  have HB261 := Lib.hid (HB244.out.trans (hb23.mono (by have := HB244.out.size; (try simp) <;> omega)))
  clear HB244
  have HL262 := Lib.hid (HL227.out.trans (hb23.mono HL227.out.size))
  clear HL227
  refine hK _ _ (Cls.mk' HL262.out) ?_
  clear hK K hb23
  (repeat (first | (refine lex_r fun K hK => ?_; go_big_quiet_op; refine hK _ ?_; clear hK K) | (refine lex_k fun K hK => ?_; go_simp; refine hK _ ?_; clear hK K)))
  (refine lex_e fun K hK => ?_; go_big_op)
  refine (d_eqModule HZ0.out H253.out.r HQw23.out.r (fun b hb => by have := hb; simp only [Iv] at this; (try simp) <;> omega) (fun b hb => by have := hb; simp only [Iv] at this; (try simp) <;> omega)).mono ?_
  rintro e w24 ⟨rfl, hb24⟩
  have zw24 := hb24.size
  try simp at zw24
  clear HQw23
  have H263 := Lib.hid (RModule.keep H245.out (w' := w24) (fun p hb => hb24.cell (by have : _ < w.heap.size := hb; (try simp) <;> omega)))
  clear H245
  have H264 := Lib.hid (RWordState.keep H246.out (w' := w24) (fun p hb => hb24.cell (by have : _ < w.heap.size := hb; (try simp) <;> omega)))
  clear H246
  have H265 := Lib.hid (Rep.keep H247.out (w' := w24) (fun p hb => hb24.cell (by have : _ < w.heap.size := hb; (try simp) <;> omega)))
  clear H247
  have H266 := Lib.hid (H248.out.below hb24 H248.out.lt)
  clear H248
  have H267 := Lib.hid (H249.out.below hb24 H249.out.lt)
  clear H249
  have H268 := Lib.hid (QWordState.keep H250.out (w' := w24) (fun b hb => hb24.block b (by have := HSz1_0.out _ hb; (try simp) <;> omega)))
  clear H250
  have H269 := Lib.hid (Sep.keep H251.out (w' := w24) (fun b hb => hb24.block b (by have := HSz1_1.out _ hb; (try simp) <;> omega)))
  clear H251
  have H270 := Lib.hid (H252.out.below hb24 H252.out.lt)
  clear H252
  have H271 := Lib.hid (QModule.keep H253.out (w' := w24) (fun b hb => hb24.block b (by have := hb; simp only [Iv] at this; (try simp) <;> omega)))
  clear H253
  have H272 := Lib.hid (H254.out.below hb24 H254.out.lt)
  clear H254
  have H273 := Lib.hid (QWordState.keep H255.out (w' := w24) (fun b hb => hb24.block b (by have := hb; simp only [Iv] at this; (try simp) <;> omega)))
  clear H255
  have H274 := Lib.hid (H256.out.below hb24 H256.out.lt)
  clear H256
  have H275 := Lib.hid (Sep.keep H257.out (w' := w24) (fun b hb => hb24.block b (by have := hb; simp only [Iv] at this; (try simp) <;> omega)))
  clear H257
  have H276 := Lib.hid (QWordState.keep H258.out (w' := w24) (fun b hb => hb24.block b (by have := HSw20_0.out _ hb; (try simp) <;> omega)))
  clear H258
  have H277 := Lib.hid (Sep.keep H259.out (w' := w24) (fun b hb => hb24.block b (by have := HSw20_1.out _ hb; (try simp) <;> omega)))
  clear H259
  have H278 := Lib.hid (H260.out.below hb24 H260.out.lt)
  clear H260
  have HB279 := Lib.hid (HB261.out.trans (hb24.mono (by have := HB261.out.size; (try simp) <;> omega)))
  clear HB261
  have HL280 := Lib.hid (HL262.out.trans (hb24.mono HL262.out.size))
  clear HL262
  refine hK _ _ (Cls.mk' HL280.out) ?_
  clear hK K hb24
  (repeat (first | (refine lex_r fun K hK => ?_; go_big_quiet_op; refine hK _ ?_; clear hK K) | (refine lex_k fun K hK => ?_; go_simp; refine hK _ ?_; clear hK K)))
  (refine lex_nil ?_)
  clear lexNE cH219_0 cH219_1 cH219_2 cH219_3 cH213_0 cH213_1 cH213_2 cH213_3
  go_wp2_with fail
  refine wp_region_lexC (by kernel_rfl) (by kernel_rfl) (fun x => Below w24.heap.size w24 x) ((Below.refl _ _).drew) (fun lexNE => ?_)
  obtain ⟨cH274_0, cH274_1⟩ := bwS2 (B := w24.heap.size) H274.out H274.out.lt
  obtain ⟨cH267_0, cH267_1⟩ := bwS2 (B := w24.heap.size) H267.out H267.out.lt
  have HL281 := Lib.hid ((Below.refl w24.heap.size w24).drew)
  have H282 := Lib.hid (RModule.keep H263.out (w' := w24.drew) (fun p hb => rfl))
  clear H263
  have H283 := Lib.hid (RWordState.keep H264.out (w' := w24.drew) (fun p hb => rfl))
  clear H264
  have H284 := Lib.hid (Rep.keep H265.out (w' := w24.drew) (fun p hb => rfl))
  clear H265
  have H285 := Lib.hid (H266.out.drew)
  clear H266
  have H286 := Lib.hid (H267.out.drew)
  clear H267
  have H287 := Lib.hid (QWordState.keep H268.out (w' := w24.drew) (fun b hb => rfl))
  clear H268
  have H288 := Lib.hid (Sep.keep H269.out (w' := w24.drew) (fun b hb => rfl))
  clear H269
  have H289 := Lib.hid (H270.out.drew)
  clear H270
  have H290 := Lib.hid (QModule.keep H271.out (w' := w24.drew) (fun b hb => rfl))
  clear H271
  have H291 := Lib.hid (H272.out.drew)
  clear H272
  have H292 := Lib.hid (QWordState.keep H273.out (w' := w24.drew) (fun b hb => rfl))
  clear H273
  have H293 := Lib.hid (H274.out.drew)
  clear H274
  have H294 := Lib.hid (Sep.keep H275.out (w' := w24.drew) (fun b hb => rfl))
  clear H275
  have H295 := Lib.hid (QWordState.keep H276.out (w' := w24.drew) (fun b hb => rfl))
  clear H276
  have H296 := Lib.hid (Sep.keep H277.out (w' := w24.drew) (fun b hb => rfl))
  clear H277
  have H297 := Lib.hid (H278.out.drew)
  clear H278
  have HB298 := Lib.hid (HB279.out.drew)
  clear HB279
  (repeat (first | (refine lex_r fun K hK => ?_; go_big_quiet_op; refine hK _ ?_; clear hK K) | (refine lex_k fun K hK => ?_; go_simp; refine hK _ ?_; clear hK K)))
  (refine lex_e fun K hK => ?_; go_big_op)
  refine (d_toWordState HZ1.out H283.out (fun b hb => by have : _ < w.heap.size := hb; (try simp) <;> omega)).mono ?_
  rintro e w25 ⟨vw25, rfl, hqw25, hb25⟩
  obtain ⟨Aw25_0, nw25_0, cw25_0, Aw25_1, nw25_1, cw25_1, rfl⟩ := hqw25.r.form
  have HQw25 := Lib.hid (QWordState.mono hqw25 (S' := Iv (w24.heap.size) (w25.heap.size)) (fun b hb => by have := hb; simp [New] at this; exact ⟨by omega, this.2⟩))
  clear hqw25
  have zw25 := hb25.size
  try simp at zw25
  have H299 := Lib.hid (RModule.keep H282.out (w' := w25) (fun p hb => hb25.cell (by have : _ < w.heap.size := hb; (try simp) <;> omega)))
  clear H282
  have H300 := Lib.hid (RWordState.keep H283.out (w' := w25) (fun p hb => hb25.cell (by have : _ < w.heap.size := hb; (try simp) <;> omega)))
  clear H283
  have H301 := Lib.hid (Rep.keep H284.out (w' := w25) (fun p hb => hb25.cell (by have : _ < w.heap.size := hb; (try simp) <;> omega)))
  clear H284
  have H302 := Lib.hid (H285.out.below hb25 H285.out.lt)
  clear H285
  have H303 := Lib.hid (H286.out.below hb25 H286.out.lt)
  clear H286
  have H304 := Lib.hid (QWordState.keep H287.out (w' := w25) (fun b hb => hb25.block b (by have := HSz1_0.out _ hb; (try simp) <;> omega)))
  clear H287
  have H305 := Lib.hid (Sep.keep H288.out (w' := w25) (fun b hb => hb25.block b (by have := HSz1_1.out _ hb; (try simp) <;> omega)))
  clear H288
  have H306 := Lib.hid (H289.out.below hb25 H289.out.lt)
  clear H289
  have H307 := Lib.hid (QModule.keep H290.out (w' := w25) (fun b hb => hb25.block b (by have := hb; simp only [Iv] at this; (try simp) <;> omega)))
  clear H290
  have H308 := Lib.hid (H291.out.below hb25 H291.out.lt)
  clear H291
  have H309 := Lib.hid (QWordState.keep H292.out (w' := w25) (fun b hb => hb25.block b (by have := hb; simp only [Iv] at this; (try simp) <;> omega)))
  clear H292
  have H310 := Lib.hid (H293.out.below hb25 H293.out.lt)
  clear H293
  have H311 := Lib.hid (Sep.keep H294.out (w' := w25) (fun b hb => hb25.block b (by have := hb; simp only [Iv] at this; (try simp) <;> omega)))
  clear H294
  have H312 := Lib.hid (QWordState.keep H295.out (w' := w25) (fun b hb => hb25.block b (by have := HSw20_0.out _ hb; (try simp) <;> omega)))
  clear H295
  have H313 := Lib.hid (Sep.keep H296.out (w' := w25) (fun b hb => hb25.block b (by have := HSw20_1.out _ hb; (try simp) <;> omega)))
  clear H296
  have H314 := Lib.hid (H297.out.below hb25 H297.out.lt)
  clear H297
  have HB315 := Lib.hid (HB298.out.trans (hb25.mono (by have := HB298.out.size; (try simp) <;> omega)))
  clear HB298
  have HL316 := Lib.hid (HL281.out.trans (hb25.mono HL281.out.size))
  clear HL281
  refine hK _ _ (Cls.mk' HL316.out) ?_
  clear hK K hb25
  (repeat (first | (refine lex_r fun K hK => ?_; go_big_quiet_op; refine hK _ ?_; clear hK K) | (refine lex_k fun K hK => ?_; go_simp; refine hK _ ?_; clear hK K)))
  (refine lex_e fun K hK => ?_; go_big_op)
  refine (d_eqWordState HZ1.out H309.out.r HQw25.out.r (fun b hb => by have := hb; simp only [Iv] at this; (try simp) <;> omega) (fun b hb => by have := hb; simp only [Iv] at this; (try simp) <;> omega)).mono ?_
  rintro e w26 ⟨rfl, hb26⟩
  have zw26 := hb26.size
  try simp at zw26
  clear HQw25
  have H317 := Lib.hid (RModule.keep H299.out (w' := w26) (fun p hb => hb26.cell (by have : _ < w.heap.size := hb; (try simp) <;> omega)))
  clear H299
  have H318 := Lib.hid (RWordState.keep H300.out (w' := w26) (fun p hb => hb26.cell (by have : _ < w.heap.size := hb; (try simp) <;> omega)))
  clear H300
  have H319 := Lib.hid (Rep.keep H301.out (w' := w26) (fun p hb => hb26.cell (by have : _ < w.heap.size := hb; (try simp) <;> omega)))
  clear H301
  have H320 := Lib.hid (H302.out.below hb26 H302.out.lt)
  clear H302
  have H321 := Lib.hid (H303.out.below hb26 H303.out.lt)
  clear H303
  have H322 := Lib.hid (QWordState.keep H304.out (w' := w26) (fun b hb => hb26.block b (by have := HSz1_0.out _ hb; (try simp) <;> omega)))
  clear H304
  have H323 := Lib.hid (Sep.keep H305.out (w' := w26) (fun b hb => hb26.block b (by have := HSz1_1.out _ hb; (try simp) <;> omega)))
  clear H305
  have H324 := Lib.hid (H306.out.below hb26 H306.out.lt)
  clear H306
  have H325 := Lib.hid (QModule.keep H307.out (w' := w26) (fun b hb => hb26.block b (by have := hb; simp only [Iv] at this; (try simp) <;> omega)))
  clear H307
  have H326 := Lib.hid (H308.out.below hb26 H308.out.lt)
  clear H308
  have H327 := Lib.hid (QWordState.keep H309.out (w' := w26) (fun b hb => hb26.block b (by have := hb; simp only [Iv] at this; (try simp) <;> omega)))
  clear H309
  have H328 := Lib.hid (H310.out.below hb26 H310.out.lt)
  clear H310
  have H329 := Lib.hid (Sep.keep H311.out (w' := w26) (fun b hb => hb26.block b (by have := hb; simp only [Iv] at this; (try simp) <;> omega)))
  clear H311
  have H330 := Lib.hid (QWordState.keep H312.out (w' := w26) (fun b hb => hb26.block b (by have := HSw20_0.out _ hb; (try simp) <;> omega)))
  clear H312
  have H331 := Lib.hid (Sep.keep H313.out (w' := w26) (fun b hb => hb26.block b (by have := HSw20_1.out _ hb; (try simp) <;> omega)))
  clear H313
  have H332 := Lib.hid (H314.out.below hb26 H314.out.lt)
  clear H314
  have HB333 := Lib.hid (HB315.out.trans (hb26.mono (by have := HB315.out.size; (try simp) <;> omega)))
  clear HB315
  have HL334 := Lib.hid (HL316.out.trans (hb26.mono HL316.out.size))
  clear HL316
  refine hK _ _ (Cls.mk' HL334.out) ?_
  clear hK K hb26
  (repeat (first | (refine lex_r fun K hK => ?_; go_big_quiet_op; refine hK _ ?_; clear hK K) | (refine lex_k fun K hK => ?_; go_simp; refine hK _ ?_; clear hK K)))
  (refine lex_nil ?_)
  clear lexNE cH274_0 cH274_1 cH267_0 cH267_1
  go_wp2_with fail
  refine (d_toIntS HZ2.out H319.out (fun b hb => by have : _ < w.heap.size := hb; (try simp) <;> omega)).mono ?_
  rintro e w27 ⟨vw27, rfl, hqw27, hb27⟩
  obtain ⟨Aw27, nw27, cw27, rfl⟩ := slv_of hqw27.rep
  have HQw27 := Lib.hid (Sep.mono hqw27 (S' := Iv (w26.heap.size) (w27.heap.size)) (fun b hb => by have := hb; simp [New] at this; exact ⟨by omega, this.2⟩))
  clear hqw27
  have zw27 := hb27.size
  try simp at zw27
  have H335 := Lib.hid (RModule.keep H317.out (w' := w27) (fun p hb => hb27.cell (by have : _ < w.heap.size := hb; (try simp) <;> omega)))
  clear H317
  have H336 := Lib.hid (RWordState.keep H318.out (w' := w27) (fun p hb => hb27.cell (by have : _ < w.heap.size := hb; (try simp) <;> omega)))
  clear H318
  have H337 := Lib.hid (Rep.keep H319.out (w' := w27) (fun p hb => hb27.cell (by have : _ < w.heap.size := hb; (try simp) <;> omega)))
  clear H319
  have H338 := Lib.hid (H320.out.below hb27 H320.out.lt)
  clear H320
  have H339 := Lib.hid (H321.out.below hb27 H321.out.lt)
  clear H321
  have H340 := Lib.hid (QWordState.keep H322.out (w' := w27) (fun b hb => hb27.block b (by have := HSz1_0.out _ hb; (try simp) <;> omega)))
  clear H322
  have H341 := Lib.hid (Sep.keep H323.out (w' := w27) (fun b hb => hb27.block b (by have := HSz1_1.out _ hb; (try simp) <;> omega)))
  clear H323
  have H342 := Lib.hid (H324.out.below hb27 H324.out.lt)
  clear H324
  have H343 := Lib.hid (QModule.keep H325.out (w' := w27) (fun b hb => hb27.block b (by have := hb; simp only [Iv] at this; (try simp) <;> omega)))
  clear H325
  have H344 := Lib.hid (H326.out.below hb27 H326.out.lt)
  clear H326
  have H345 := Lib.hid (QWordState.keep H327.out (w' := w27) (fun b hb => hb27.block b (by have := hb; simp only [Iv] at this; (try simp) <;> omega)))
  clear H327
  have H346 := Lib.hid (H328.out.below hb27 H328.out.lt)
  clear H328
  have H347 := Lib.hid (Sep.keep H329.out (w' := w27) (fun b hb => hb27.block b (by have := hb; simp only [Iv] at this; (try simp) <;> omega)))
  clear H329
  have H348 := Lib.hid (QWordState.keep H330.out (w' := w27) (fun b hb => hb27.block b (by have := HSw20_0.out _ hb; (try simp) <;> omega)))
  clear H330
  have H349 := Lib.hid (Sep.keep H331.out (w' := w27) (fun b hb => hb27.block b (by have := HSw20_1.out _ hb; (try simp) <;> omega)))
  clear H331
  have H350 := Lib.hid (H332.out.below hb27 H332.out.lt)
  clear H332
  have HB351 := Lib.hid (HB333.out.trans (hb27.mono (by have := HB333.out.size; (try simp) <;> omega)))
  clear HB333
  clear hb27
  go_wp2_with fail
  refine (d_eqIntS HZ2.out H347.out.rep HQw27.out.rep (fun b hb => by have := hb; simp only [Iv] at this; (try simp) <;> omega) (fun b hb => by have := hb; simp only [Iv] at this; (try simp) <;> omega)).mono ?_
  rintro e w28 ⟨rfl, hb28⟩
  have zw28 := hb28.size
  try simp at zw28
  clear HQw27
  have H352 := Lib.hid (RModule.keep H335.out (w' := w28) (fun p hb => hb28.cell (by have : _ < w.heap.size := hb; (try simp) <;> omega)))
  clear H335
  have H353 := Lib.hid (RWordState.keep H336.out (w' := w28) (fun p hb => hb28.cell (by have : _ < w.heap.size := hb; (try simp) <;> omega)))
  clear H336
  have H354 := Lib.hid (Rep.keep H337.out (w' := w28) (fun p hb => hb28.cell (by have : _ < w.heap.size := hb; (try simp) <;> omega)))
  clear H337
  have H355 := Lib.hid (H338.out.below hb28 H338.out.lt)
  clear H338
  have H356 := Lib.hid (H339.out.below hb28 H339.out.lt)
  clear H339
  have H357 := Lib.hid (QWordState.keep H340.out (w' := w28) (fun b hb => hb28.block b (by have := HSz1_0.out _ hb; (try simp) <;> omega)))
  clear H340
  have H358 := Lib.hid (Sep.keep H341.out (w' := w28) (fun b hb => hb28.block b (by have := HSz1_1.out _ hb; (try simp) <;> omega)))
  clear H341
  have H359 := Lib.hid (H342.out.below hb28 H342.out.lt)
  clear H342
  have H360 := Lib.hid (QModule.keep H343.out (w' := w28) (fun b hb => hb28.block b (by have := hb; simp only [Iv] at this; (try simp) <;> omega)))
  clear H343
  have H361 := Lib.hid (H344.out.below hb28 H344.out.lt)
  clear H344
  have H362 := Lib.hid (QWordState.keep H345.out (w' := w28) (fun b hb => hb28.block b (by have := hb; simp only [Iv] at this; (try simp) <;> omega)))
  clear H345
  have H363 := Lib.hid (H346.out.below hb28 H346.out.lt)
  clear H346
  have H364 := Lib.hid (Sep.keep H347.out (w' := w28) (fun b hb => hb28.block b (by have := hb; simp only [Iv] at this; (try simp) <;> omega)))
  clear H347
  have H365 := Lib.hid (QWordState.keep H348.out (w' := w28) (fun b hb => hb28.block b (by have := HSw20_0.out _ hb; (try simp) <;> omega)))
  clear H348
  have H366 := Lib.hid (Sep.keep H349.out (w' := w28) (fun b hb => hb28.block b (by have := HSw20_1.out _ hb; (try simp) <;> omega)))
  clear H349
  have H367 := Lib.hid (H350.out.below hb28 H350.out.lt)
  clear H350
  have HB368 := Lib.hid (HB351.out.trans (hb28.mono (by have := HB351.out.size; (try simp) <;> omega)))
  clear HB351
  clear hb28
  obtain ⟨yH361_0, yH361_1, yH361_2, yH361_3⟩ := blkS4 H361.out
  go_wp2_with fail
  have hmb369 : nModule m ≤ 8388608 := by have h1 := nModule_le m; have h2 : sModule m ≤ 1048576 := HZ0.out; omega
  refine (d_markModule (1) (by omega) H360.out (fun b hb => by have := hb; simp only [Iv] at this; (try simp) <;> omega)).mono ?_
  rintro e w29 ⟨rfl, hqw29, hb29⟩
  obtain ⟨mk370, hmk370⟩ : ∃ zz, zz = 1 + nModule m := ⟨_, rfl⟩
  rw [← hmk370]
  have hmk370b : mk370 ≤ 8388609 := by omega
  have HMmk370 := Lib.hid hmk370
  clear hmk370 hmb369
  clear H360
  have zw29 := hb29.size
  try simp at zw29
  clear H361
  have H371 := Lib.hid (RModule.keep H352.out (w' := w29) (fun p hb => hb29.cell (by have : _ < w.heap.size := hb; (try simp) <;> omega) (fun hc => by have := hb; simp only [Iv] at hc; omega)))
  clear H352
  have H372 := Lib.hid (RWordState.keep H353.out (w' := w29) (fun p hb => hb29.cell (by have : _ < w.heap.size := hb; (try simp) <;> omega) (fun hc => by have := hb; simp only [Iv] at hc; omega)))
  clear H353
  have H373 := Lib.hid (Rep.keep H354.out (w' := w29) (fun p hb => hb29.cell (by have : _ < w.heap.size := hb; (try simp) <;> omega) (fun hc => by have := hb; simp only [Iv] at hc; omega)))
  clear H354
  have H374 := Lib.hid (hb29.blk H355.out (fun hc => by simp only [Iv] at hc; (try simp at hc) <;> omega))
  clear H355
  have H375 := Lib.hid (hb29.blk H356.out (fun hc => by simp only [Iv] at hc; (try simp at hc) <;> omega))
  clear H356
  have H376 := Lib.hid (QWordState.keep H357.out (w' := w29) (fun b hb => hb29.block b (by have := HSz1_0.out _ hb; (try simp) <;> omega) (fun hc => by have hb1 := HSz1_0.out _ hb; have hc1 := hc; simp only [Iv] at hc1; omega)))
  clear H357
  have H377 := Lib.hid (Sep.keep H358.out (w' := w29) (fun b hb => hb29.block b (by have := HSz1_1.out _ hb; (try simp) <;> omega) (fun hc => by have hb1 := HSz1_1.out _ hb; have hc1 := hc; simp only [Iv] at hc1; omega)))
  clear H358
  have H378 := Lib.hid (hb29.blk H359.out (fun hc => by simp only [Iv] at hc; (try simp at hc) <;> omega))
  clear H359
  have H379 := Lib.hid (QWordState.keep H362.out (w' := w29) (fun b hb => hb29.block b (by have := hb; simp only [Iv] at this; (try simp) <;> omega) (fun hc => by have := hb; simp only [Iv] at this; simp only [Iv] at hc; omega)))
  clear H362
  have H380 := Lib.hid (hb29.blk H363.out (fun hc => by simp only [Iv] at hc; (try simp at hc) <;> omega))
  clear H363
  have H381 := Lib.hid (Sep.keep H364.out (w' := w29) (fun b hb => hb29.block b (by have := hb; simp only [Iv] at this; (try simp) <;> omega) (fun hc => by have := hb; simp only [Iv] at this; simp only [Iv] at hc; omega)))
  clear H364
  have H382 := Lib.hid (QWordState.keep H365.out (w' := w29) (fun b hb => hb29.block b (by have := HSw20_0.out _ hb; (try simp) <;> omega) (fun hc => by have hb1 := HSw20_0.out _ hb; have hc1 := hc; simp only [Iv] at hc1; omega)))
  clear H365
  have H383 := Lib.hid (Sep.keep H366.out (w' := w29) (fun b hb => hb29.block b (by have := HSw20_1.out _ hb; (try simp) <;> omega) (fun hc => by have hb1 := HSw20_1.out _ hb; have hc1 := hc; simp only [Iv] at hc1; omega)))
  clear H366
  have H384 := Lib.hid (hb29.blk H367.out (fun hc => by simp only [Iv] at hc; (try simp at hc) <;> omega))
  clear H367
  have HB385 := Lib.hid (HB368.out.trans (hb29.below (by have := HB368.out.size; (try simp) <;> omega) (fun b hb => by simp only [Iv] at hb; omega)))
  clear HB368
  clear hb29
  have HQw29 := Lib.hid hqw29
  clear hqw29
  clear yH361_0 yH361_1 yH361_2 yH361_3
  obtain ⟨yH380_0, yH380_1⟩ := blkS2 H380.out
  go_wp2_with fail
  have hmb386 : nWordState st ≤ 8388608 := by have h1 := nWordState_le st; have h2 : sWordState st ≤ 1048576 := HZ1.out; omega
  refine (d_markWordState (mk370) (by omega) H379.out (fun b hb => by have := hb; simp only [Iv] at this; (try simp) <;> omega)).mono ?_
  rintro e w30 ⟨rfl, hqw30, hb30⟩
  obtain ⟨mk387, hmk387⟩ : ∃ zz, zz = mk370 + nWordState st := ⟨_, rfl⟩
  rw [← hmk387]
  have hmk387b : mk387 ≤ 16777217 := by omega
  have HMmk387 := Lib.hid hmk387
  clear hmk387 hmb386
  clear H379
  have zw30 := hb30.size
  try simp at zw30
  clear H380 HQw29
  have H388 := Lib.hid (RModule.keep H371.out (w' := w30) (fun p hb => hb30.cell (by have : _ < w.heap.size := hb; (try simp) <;> omega) (fun hc => by have := hb; simp only [Iv] at hc; omega)))
  clear H371
  have H389 := Lib.hid (RWordState.keep H372.out (w' := w30) (fun p hb => hb30.cell (by have : _ < w.heap.size := hb; (try simp) <;> omega) (fun hc => by have := hb; simp only [Iv] at hc; omega)))
  clear H372
  have H390 := Lib.hid (Rep.keep H373.out (w' := w30) (fun p hb => hb30.cell (by have : _ < w.heap.size := hb; (try simp) <;> omega) (fun hc => by have := hb; simp only [Iv] at hc; omega)))
  clear H373
  have H391 := Lib.hid (hb30.blk H374.out (fun hc => by simp only [Iv] at hc; (try simp at hc) <;> omega))
  clear H374
  have H392 := Lib.hid (hb30.blk H375.out (fun hc => by simp only [Iv] at hc; (try simp at hc) <;> omega))
  clear H375
  have H393 := Lib.hid (QWordState.keep H376.out (w' := w30) (fun b hb => hb30.block b (by have := HSz1_0.out _ hb; (try simp) <;> omega) (fun hc => by have hb1 := HSz1_0.out _ hb; have hc1 := hc; simp only [Iv] at hc1; omega)))
  clear H376
  have H394 := Lib.hid (Sep.keep H377.out (w' := w30) (fun b hb => hb30.block b (by have := HSz1_1.out _ hb; (try simp) <;> omega) (fun hc => by have hb1 := HSz1_1.out _ hb; have hc1 := hc; simp only [Iv] at hc1; omega)))
  clear H377
  have H395 := Lib.hid (hb30.blk H378.out (fun hc => by simp only [Iv] at hc; (try simp at hc) <;> omega))
  clear H378
  have H396 := Lib.hid (Sep.keep H381.out (w' := w30) (fun b hb => hb30.block b (by have := hb; simp only [Iv] at this; (try simp) <;> omega) (fun hc => by have := hb; simp only [Iv] at this; simp only [Iv] at hc; omega)))
  clear H381
  have H397 := Lib.hid (QWordState.keep H382.out (w' := w30) (fun b hb => hb30.block b (by have := HSw20_0.out _ hb; (try simp) <;> omega) (fun hc => by have hb1 := HSw20_0.out _ hb; have hc1 := hc; simp only [Iv] at hc1; omega)))
  clear H382
  have H398 := Lib.hid (Sep.keep H383.out (w' := w30) (fun b hb => hb30.block b (by have := HSw20_1.out _ hb; (try simp) <;> omega) (fun hc => by have hb1 := HSw20_1.out _ hb; have hc1 := hc; simp only [Iv] at hc1; omega)))
  clear H383
  have H399 := Lib.hid (hb30.blk H384.out (fun hc => by simp only [Iv] at hc; (try simp at hc) <;> omega))
  clear H384
  have HB400 := Lib.hid (HB385.out.trans (hb30.below (by have := HB385.out.size; (try simp) <;> omega) (fun b hb => by simp only [Iv] at hb; omega)))
  clear HB385
  clear hb30
  have HQw30 := Lib.hid hqw30
  clear hqw30
  clear yH380_0 yH380_1
  go_wp2_with fail
  have hmb401 : nuL nInt ins ≤ 8388608 := by have h1 := nuL_Int_le ins; have h2 : szL sInt ins ≤ 1048576 := HZ2.out; omega
  refine (d_markIntS (mk387) (by omega) H396.out (fun b hb => by have := hb; simp only [Iv] at this; (try simp) <;> omega)).mono ?_
  rintro e w31 ⟨rfl, hqw31, hb31⟩
  obtain ⟨mk402, hmk402⟩ : ∃ zz, zz = mk387 + nuL nInt ins := ⟨_, rfl⟩
  rw [← hmk402]
  have hmk402b : mk402 ≤ 25165825 := by omega
  have HMmk402 := Lib.hid hmk402
  clear hmk402 hmb401
  clear H396
  have zw31 := hb31.size
  try simp at zw31
  clear HQw30
  have H403 := Lib.hid (RModule.keep H388.out (w' := w31) (fun p hb => hb31.cell (by have : _ < w.heap.size := hb; (try simp) <;> omega) (fun hc => by have := hb; simp only [Iv] at hc; omega)))
  clear H388
  have H404 := Lib.hid (RWordState.keep H389.out (w' := w31) (fun p hb => hb31.cell (by have : _ < w.heap.size := hb; (try simp) <;> omega) (fun hc => by have := hb; simp only [Iv] at hc; omega)))
  clear H389
  have H405 := Lib.hid (Rep.keep H390.out (w' := w31) (fun p hb => hb31.cell (by have : _ < w.heap.size := hb; (try simp) <;> omega) (fun hc => by have := hb; simp only [Iv] at hc; omega)))
  clear H390
  have H406 := Lib.hid (hb31.blk H391.out (fun hc => by simp only [Iv] at hc; (try simp at hc) <;> omega))
  clear H391
  have H407 := Lib.hid (hb31.blk H392.out (fun hc => by simp only [Iv] at hc; (try simp at hc) <;> omega))
  clear H392
  have H408 := Lib.hid (QWordState.keep H393.out (w' := w31) (fun b hb => hb31.block b (by have := HSz1_0.out _ hb; (try simp) <;> omega) (fun hc => by have hb1 := HSz1_0.out _ hb; have hc1 := hc; simp only [Iv] at hc1; omega)))
  clear H393
  have H409 := Lib.hid (Sep.keep H394.out (w' := w31) (fun b hb => hb31.block b (by have := HSz1_1.out _ hb; (try simp) <;> omega) (fun hc => by have hb1 := HSz1_1.out _ hb; have hc1 := hc; simp only [Iv] at hc1; omega)))
  clear H394
  have H410 := Lib.hid (hb31.blk H395.out (fun hc => by simp only [Iv] at hc; (try simp at hc) <;> omega))
  clear H395
  have H411 := Lib.hid (QWordState.keep H397.out (w' := w31) (fun b hb => hb31.block b (by have := HSw20_0.out _ hb; (try simp) <;> omega) (fun hc => by have hb1 := HSw20_0.out _ hb; have hc1 := hc; simp only [Iv] at hc1; omega)))
  clear H397
  have H412 := Lib.hid (Sep.keep H398.out (w' := w31) (fun b hb => hb31.block b (by have := HSw20_1.out _ hb; (try simp) <;> omega) (fun hc => by have hb1 := HSw20_1.out _ hb; have hc1 := hc; simp only [Iv] at hc1; omega)))
  clear H398
  have H413 := Lib.hid (hb31.blk H399.out (fun hc => by simp only [Iv] at hc; (try simp at hc) <;> omega))
  clear H399
  have HB414 := Lib.hid (HB400.out.trans (hb31.below (by have := HB400.out.size; (try simp) <;> omega) (fun b hb => by simp only [Iv] at hb; omega)))
  clear HB400
  clear hb31
  have HQw31 := Lib.hid hqw31
  clear hqw31
  obtain ⟨yH413_0, yH413_1⟩ := blkS2 H413.out
  obtain ⟨yH410_0, yH410_1⟩ := blkS2 H410.out
  go_wp2_with fail
  refine (d_eqWordState (stpS_sz m st ins) H411.out.r H408.out.r (fun b hb => by have := HSw20_0.out _ hb; (try simp) <;> omega) (fun b hb => by have := HSz1_0.out _ hb; (try simp) <;> omega)).mono ?_
  rintro e w32 ⟨rfl, hb32⟩
  have zw32 := hb32.size
  try simp at zw32
  clear HQw31
  have H415 := Lib.hid (RModule.keep H403.out (w' := w32) (fun p hb => hb32.cell (by have : _ < w.heap.size := hb; (try simp) <;> omega)))
  clear H403
  have H416 := Lib.hid (RWordState.keep H404.out (w' := w32) (fun p hb => hb32.cell (by have : _ < w.heap.size := hb; (try simp) <;> omega)))
  clear H404
  have H417 := Lib.hid (Rep.keep H405.out (w' := w32) (fun p hb => hb32.cell (by have : _ < w.heap.size := hb; (try simp) <;> omega)))
  clear H405
  have H418 := Lib.hid (H406.out.below hb32 H406.out.lt)
  clear H406
  have H419 := Lib.hid (H407.out.below hb32 H407.out.lt)
  clear H407
  have H420 := Lib.hid (QWordState.keep H408.out (w' := w32) (fun b hb => hb32.block b (by have := HSz1_0.out _ hb; (try simp) <;> omega)))
  clear H408
  have H421 := Lib.hid (Sep.keep H409.out (w' := w32) (fun b hb => hb32.block b (by have := HSz1_1.out _ hb; (try simp) <;> omega)))
  clear H409
  have H422 := Lib.hid (H410.out.below hb32 H410.out.lt)
  clear H410
  have H423 := Lib.hid (QWordState.keep H411.out (w' := w32) (fun b hb => hb32.block b (by have := HSw20_0.out _ hb; (try simp) <;> omega)))
  clear H411
  have H424 := Lib.hid (Sep.keep H412.out (w' := w32) (fun b hb => hb32.block b (by have := HSw20_1.out _ hb; (try simp) <;> omega)))
  clear H412
  have H425 := Lib.hid (H413.out.below hb32 H413.out.lt)
  clear H413
  have HB426 := Lib.hid (HB414.out.trans (hb32.mono (by have := HB414.out.size; (try simp) <;> omega)))
  clear HB414
  clear hb32
  clear yH413_0 yH413_1 yH410_0 yH410_1
  go_wp2_with fail
  refine (d_eqIntS (stpO_sz m st ins) H424.out.rep H421.out.rep (fun b hb => by have := HSw20_1.out _ hb; (try simp) <;> omega) (fun b hb => by have := HSz1_1.out _ hb; (try simp) <;> omega)).mono ?_
  rintro e w33 ⟨rfl, hb33⟩
  have zw33 := hb33.size
  try simp at zw33
  have H427 := Lib.hid (RModule.keep H415.out (w' := w33) (fun p hb => hb33.cell (by have : _ < w.heap.size := hb; (try simp) <;> omega)))
  clear H415
  have H428 := Lib.hid (RWordState.keep H416.out (w' := w33) (fun p hb => hb33.cell (by have : _ < w.heap.size := hb; (try simp) <;> omega)))
  clear H416
  have H429 := Lib.hid (Rep.keep H417.out (w' := w33) (fun p hb => hb33.cell (by have : _ < w.heap.size := hb; (try simp) <;> omega)))
  clear H417
  have H430 := Lib.hid (H418.out.below hb33 H418.out.lt)
  clear H418
  have H431 := Lib.hid (H419.out.below hb33 H419.out.lt)
  clear H419
  have H432 := Lib.hid (QWordState.keep H420.out (w' := w33) (fun b hb => hb33.block b (by have := HSz1_0.out _ hb; (try simp) <;> omega)))
  clear H420
  have H433 := Lib.hid (Sep.keep H421.out (w' := w33) (fun b hb => hb33.block b (by have := HSz1_1.out _ hb; (try simp) <;> omega)))
  clear H421
  have H434 := Lib.hid (H422.out.below hb33 H422.out.lt)
  clear H422
  have H435 := Lib.hid (QWordState.keep H423.out (w' := w33) (fun b hb => hb33.block b (by have := HSw20_0.out _ hb; (try simp) <;> omega)))
  clear H423
  have H436 := Lib.hid (Sep.keep H424.out (w' := w33) (fun b hb => hb33.block b (by have := HSw20_1.out _ hb; (try simp) <;> omega)))
  clear H424
  have H437 := Lib.hid (H425.out.below hb33 H425.out.lt)
  clear H425
  have HB438 := Lib.hid (HB426.out.trans (hb33.mono (by have := HB426.out.size; (try simp) <;> omega)))
  clear HB426
  clear hb33
  obtain ⟨yH437_0, yH437_1⟩ := blkS2 H437.out
  go_wp2_with fail
  have hmb439 : nWordState (stpS m st ins) ≤ 8388608 := by have h1 := nWordState_le (stpS m st ins); have h2 : sWordState (stpS m st ins) ≤ 1048576 := stpS_sz m st ins; omega
  refine (d_markWordState (1) (by omega) H435.out (fun b hb => by have := HSw20_0.out _ hb; (try simp) <;> omega)).mono ?_
  rintro e w34 ⟨rfl, hqw34, hb34⟩
  obtain ⟨mk440, hmk440⟩ : ∃ zz, zz = 1 + nWordState (stpS m st ins) := ⟨_, rfl⟩
  rw [← hmk440]
  have hmk440b : mk440 ≤ 33554433 := by omega
  have HMmk440 := Lib.hid hmk440
  clear hmk440 hmb439
  clear H435
  have zw34 := hb34.size
  try simp at zw34
  have H441 := Lib.hid (RModule.keep H427.out (w' := w34) (fun p hb => hb34.cell (by have : _ < w.heap.size := hb; (try simp) <;> omega) (fun hc => by have hb1 : _ < w.heap.size := hb; have hc1 := HSw20_0.out _ hc; omega)))
  clear H427
  have H442 := Lib.hid (RWordState.keep H428.out (w' := w34) (fun p hb => hb34.cell (by have : _ < w.heap.size := hb; (try simp) <;> omega) (fun hc => by have hb1 : _ < w.heap.size := hb; have hc1 := HSw20_0.out _ hc; omega)))
  clear H428
  have H443 := Lib.hid (Rep.keep H429.out (w' := w34) (fun p hb => hb34.cell (by have : _ < w.heap.size := hb; (try simp) <;> omega) (fun hc => by have hb1 : _ < w.heap.size := hb; have hc1 := HSw20_0.out _ hc; omega)))
  clear H429
  have H444 := Lib.hid (hb34.blk H430.out (fun hc => by have hc2 := HSw20_0.out _ hc; (try simp at hc2) <;> omega))
  clear H430
  have H445 := Lib.hid (hb34.blk H431.out (fun hc => by have hc2 := HSw20_0.out _ hc; (try simp at hc2) <;> omega))
  clear H431
  have H446 := Lib.hid (QWordState.keep H432.out (w' := w34) (fun b hb => hb34.block b (by have := HSz1_0.out _ hb; (try simp) <;> omega) (fun hc => by have hb1 := HSz1_0.out _ hb; have hc1 := HSw20_0.out _ hc; omega)))
  clear H432
  have H447 := Lib.hid (Sep.keep H433.out (w' := w34) (fun b hb => hb34.block b (by have := HSz1_1.out _ hb; (try simp) <;> omega) (fun hc => by have hb1 := HSz1_1.out _ hb; have hc1 := HSw20_0.out _ hc; omega)))
  clear H433
  have H448 := Lib.hid (hb34.blk H434.out (fun hc => by have hc2 := HSw20_0.out _ hc; (try simp at hc2) <;> omega))
  clear H434
  have H449 := Lib.hid (Sep.keep H436.out (w' := w34) (fun b hb => hb34.block b (by have := HSw20_1.out _ hb; (try simp) <;> omega) (fun hc => HDw20.out _ hc hb)))
  clear H436
  have H450 := Lib.hid (hb34.blk H437.out (fun hc => by have hc2 := HSw20_0.out _ hc; (try simp at hc2) <;> omega))
  clear H437
  have HB451 := Lib.hid (HB438.out.trans (hb34.below (by have := HB438.out.size; (try simp) <;> omega) (fun b hb => by have hb1 := HSw20_0.out _ hb; omega)))
  clear HB438
  clear hb34
  have HQw34 := Lib.hid hqw34
  clear hqw34
  clear yH437_0 yH437_1
  go_wp2_with fail
  have hmb452 : nuL nInt (stpO m st ins) ≤ 8388608 := by have h1 := nuL_Int_le (stpO m st ins); have h2 : szL sInt (stpO m st ins) ≤ 1048576 := stpO_sz m st ins; omega
  refine (d_markIntS (mk440) (by omega) H449.out (fun b hb => by have := HSw20_1.out _ hb; (try simp) <;> omega)).mono ?_
  rintro e w35 ⟨rfl, hqw35, hb35⟩
  obtain ⟨mk453, hmk453⟩ : ∃ zz, zz = mk440 + nuL nInt (stpO m st ins) := ⟨_, rfl⟩
  rw [← hmk453]
  have hmk453b : mk453 ≤ 41943041 := by omega
  have HMmk453 := Lib.hid hmk453
  clear hmk453 hmb452
  clear H449
  have zw35 := hb35.size
  try simp at zw35
  have H454 := Lib.hid (RModule.keep H441.out (w' := w35) (fun p hb => hb35.cell (by have : _ < w.heap.size := hb; (try simp) <;> omega) (fun hc => by have hb1 : _ < w.heap.size := hb; have hc1 := HSw20_1.out _ hc; omega)))
  clear H441
  have H455 := Lib.hid (RWordState.keep H442.out (w' := w35) (fun p hb => hb35.cell (by have : _ < w.heap.size := hb; (try simp) <;> omega) (fun hc => by have hb1 : _ < w.heap.size := hb; have hc1 := HSw20_1.out _ hc; omega)))
  clear H442
  have H456 := Lib.hid (Rep.keep H443.out (w' := w35) (fun p hb => hb35.cell (by have : _ < w.heap.size := hb; (try simp) <;> omega) (fun hc => by have hb1 : _ < w.heap.size := hb; have hc1 := HSw20_1.out _ hc; omega)))
  clear H443
  have H457 := Lib.hid (hb35.blk H444.out (fun hc => by have hc2 := HSw20_1.out _ hc; (try simp at hc2) <;> omega))
  clear H444
  have H458 := Lib.hid (hb35.blk H445.out (fun hc => by have hc2 := HSw20_1.out _ hc; (try simp at hc2) <;> omega))
  clear H445
  have H459 := Lib.hid (QWordState.keep H446.out (w' := w35) (fun b hb => hb35.block b (by have := HSz1_0.out _ hb; (try simp) <;> omega) (fun hc => by have hb1 := HSz1_0.out _ hb; have hc1 := HSw20_1.out _ hc; omega)))
  clear H446
  have H460 := Lib.hid (Sep.keep H447.out (w' := w35) (fun b hb => hb35.block b (by have := HSz1_1.out _ hb; (try simp) <;> omega) (fun hc => by have hb1 := HSz1_1.out _ hb; have hc1 := HSw20_1.out _ hc; omega)))
  clear H447
  have H461 := Lib.hid (hb35.blk H448.out (fun hc => by have hc2 := HSw20_1.out _ hc; (try simp at hc2) <;> omega))
  clear H448
  have H462 := Lib.hid (hb35.blk H450.out (fun hc => by have hc2 := HSw20_1.out _ hc; (try simp at hc2) <;> omega))
  clear H450
  have H463 := Lib.hid (QWordState.keep HQw34.out (w' := w35) (fun b hb => hb35.block b (by have := HSw20_0.out _ hb; (try simp) <;> omega) (fun hc => HDw20.out _ hb hc)))
  clear HQw34
  have HB464 := Lib.hid (HB451.out.trans (hb35.below (by have := HB451.out.size; (try simp) <;> omega) (fun b hb => by have hb1 := HSw20_1.out _ hb; omega)))
  clear HB451
  clear hb35
  have HQw35 := Lib.hid hqw35
  clear hqw35
  obtain ⟨yH462_0, yH462_1⟩ := blkS2 H462.out
  go_wp2_with fail
  have hmb465 : 1 + nWordState (stpS m st ins) ≤ 1099511627776 := by rw [← HMmk440.out]; omega
  refine (d_heldWordState (1) (by omega) H463.out.r (fun b hb => by have := HSw20_0.out _ hb; (try simp) <;> omega)).mono ?_
  rintro e w36 ⟨rfl, hb36⟩
  rw [← HMmk440.out]
  clear hmb465
  have zw36 := hb36.size
  try simp at zw36
  have H466 := Lib.hid (RModule.keep H454.out (w' := w36) (fun p hb => hb36.cell (by have : _ < w.heap.size := hb; (try simp) <;> omega)))
  clear H454
  have H467 := Lib.hid (RWordState.keep H455.out (w' := w36) (fun p hb => hb36.cell (by have : _ < w.heap.size := hb; (try simp) <;> omega)))
  clear H455
  have H468 := Lib.hid (Rep.keep H456.out (w' := w36) (fun p hb => hb36.cell (by have : _ < w.heap.size := hb; (try simp) <;> omega)))
  clear H456
  have H469 := Lib.hid (H457.out.below hb36 H457.out.lt)
  clear H457
  have H470 := Lib.hid (H458.out.below hb36 H458.out.lt)
  clear H458
  have H471 := Lib.hid (QWordState.keep H459.out (w' := w36) (fun b hb => hb36.block b (by have := HSz1_0.out _ hb; (try simp) <;> omega)))
  clear H459
  have H472 := Lib.hid (Sep.keep H460.out (w' := w36) (fun b hb => hb36.block b (by have := HSz1_1.out _ hb; (try simp) <;> omega)))
  clear H460
  have H473 := Lib.hid (H461.out.below hb36 H461.out.lt)
  clear H461
  have H474 := Lib.hid (H462.out.below hb36 H462.out.lt)
  clear H462
  have H475 := Lib.hid (QWordState.keep H463.out (w' := w36) (fun b hb => hb36.block b (by have := HSw20_0.out _ hb; (try simp) <;> omega)))
  clear H463
  have H476 := Lib.hid (Sep.keep HQw35.out (w' := w36) (fun b hb => hb36.block b (by have := HSw20_1.out _ hb; (try simp) <;> omega)))
  clear HQw35
  have HB477 := Lib.hid (HB464.out.trans (hb36.mono (by have := HB464.out.size; (try simp) <;> omega)))
  clear HB464
  clear hb36
  clear yH462_0 yH462_1
  go_wp2_with fail
  have hmb478 : mk440 + nuL nInt (stpO m st ins) ≤ 1099511627776 := by rw [← HMmk453.out]; omega
  refine (d_heldIntS (mk440) (by omega) H476.out.rep (fun b hb => by have := HSw20_1.out _ hb; (try simp) <;> omega)).mono ?_
  rintro e w37 ⟨rfl, hb37⟩
  rw [← HMmk453.out]
  clear hmb478
  have zw37 := hb37.size
  try simp at zw37
  have H479 := Lib.hid (RModule.keep H466.out (w' := w37) (fun p hb => hb37.cell (by have : _ < w.heap.size := hb; (try simp) <;> omega)))
  clear H466
  have H480 := Lib.hid (RWordState.keep H467.out (w' := w37) (fun p hb => hb37.cell (by have : _ < w.heap.size := hb; (try simp) <;> omega)))
  clear H467
  have H481 := Lib.hid (Rep.keep H468.out (w' := w37) (fun p hb => hb37.cell (by have : _ < w.heap.size := hb; (try simp) <;> omega)))
  clear H468
  have H482 := Lib.hid (H469.out.below hb37 H469.out.lt)
  clear H469
  have H483 := Lib.hid (H470.out.below hb37 H470.out.lt)
  clear H470
  have H484 := Lib.hid (QWordState.keep H471.out (w' := w37) (fun b hb => hb37.block b (by have := HSz1_0.out _ hb; (try simp) <;> omega)))
  clear H471
  have H485 := Lib.hid (Sep.keep H472.out (w' := w37) (fun b hb => hb37.block b (by have := HSz1_1.out _ hb; (try simp) <;> omega)))
  clear H472
  have H486 := Lib.hid (H473.out.below hb37 H473.out.lt)
  clear H473
  have H487 := Lib.hid (H474.out.below hb37 H474.out.lt)
  clear H474
  have H488 := Lib.hid (QWordState.keep H475.out (w' := w37) (fun b hb => hb37.block b (by have := HSw20_0.out _ hb; (try simp) <;> omega)))
  clear H475
  have H489 := Lib.hid (Sep.keep H476.out (w' := w37) (fun b hb => hb37.block b (by have := HSw20_1.out _ hb; (try simp) <;> omega)))
  clear H476
  have HB490 := Lib.hid (HB477.out.trans (hb37.mono (by have := HB477.out.size; (try simp) <;> omega)))
  clear HB477
  clear hb37
  go_wp2_with fail
  go_cut [18, 19] from 133 (fun pv qv wc => ∃ (gx : Nat) (Az2_0 Az2_1 : Option Addr) (nz2_0 cz2_0 nz2_1 cz2_1 : Nat) (Ay : Option Addr) (ny cy : Nat) (T0 T1 : Nat → Prop), pv = .pointer (some ⟨gx, 0, none⟩) ∧ qv = .slice Ay ny cy ∧ (w37.heap.size ≤ gx ∧ gx < wc.heap.size) ∧ Blk wc gx 33 #[.slice Az2_0 nz2_0 cz2_0, .slice Az2_1 nz2_1 cz2_1] ∧ (∀ b, T0 b → (w37.heap.size ≤ b ∧ b < wc.heap.size) ∧ b ≠ gx) ∧ (∀ b, T1 b → (w37.heap.size ≤ b ∧ b < wc.heap.size) ∧ b ≠ gx) ∧ (∀ b, T0 b → T1 b → False) ∧ QWordState (wc) (T0) (.agg #[.slice Az2_0 nz2_0 cz2_0, .slice Az2_1 nz2_1 cz2_1]) (stpS m st ins) ∧ Sep (wc) (T1) (.slice Ay ny cy) (fIntS (stpO m st ins)) ∧ Below w37.heap.size w37 wc)
  case first =>
   refine wp_region_treeP (.node [] 1 10 (.node [0, 1] 3 10 (.node [2, 3] 5 10 (.node [4, 5] 6 10 (.leaf [6, 10, 7, 8, 9, 11, 12]) (.leaf [10, 6, 7, 8, 9, 11, 12])) (.leaf [10, 4, 5, 6, 7, 8, 9, 11, 12])) (.leaf [10, 2, 3, 4, 5, 6, 7, 8, 9, 11, 12])) (.leaf [10, 0, 1, 2, 3, 4, 5, 6, 7, 8, 9, 11, 12])) (by kernel_rfl) (by kernel_rfl) (fun x => Below w37.heap.size w37 x) ((Below.refl _ _).drew) (fun lexNE => ?_)
   simp only [LexT, ordOps, List.filterMap_cons, List.filterMap_nil, List.getElem?_cons_zero, List.getElem?_cons_succ]
   obtain ⟨cH482_0, cH482_1, cH482_2, cH482_3⟩ := bwS4 (B := w37.heap.size) H482.out H482.out.lt
   obtain ⟨cH483_0, cH483_1⟩ := bwS2 (B := w37.heap.size) H483.out H483.out.lt
   have HL491 := Lib.hid ((Below.refl w37.heap.size w37).drew)
   clear H482 H483 H484 H485 H486 H487 H488 H489
   have H492 := Lib.hid (RModule.keep H479.out (w' := w37.drew) (fun p hb => rfl))
   clear H479
   have H493 := Lib.hid (RWordState.keep H480.out (w' := w37.drew) (fun p hb => rfl))
   clear H480
   have H494 := Lib.hid (Rep.keep H481.out (w' := w37.drew) (fun p hb => rfl))
   clear H481
   (refine lex_nil ?_)
   refine ⟨Cls.mk' HL491.out, ?_, ?_⟩
   ·skip
    (repeat (first | (refine lex_r fun K hK => ?_; go_big_quiet_op; refine hK _ ?_; clear hK K) | (refine lex_k fun K hK => ?_; go_simp; refine hK _ ?_; clear hK K)))
    (refine lex_e fun K hK => ?_; go_big_op)
    refine (d_toModule HZ0.out H492.out (fun b hb => by have : _ < w.heap.size := hb; (try simp) <;> omega)).mono ?_
    rintro e w38 ⟨vw38, rfl, hqw38, hb38⟩
    obtain ⟨Aw38_0, nw38_0, cw38_0, Aw38_1, nw38_1, cw38_1, Aw38_2, nw38_2, cw38_2, Aw38_3, nw38_3, cw38_3, rfl⟩ := hqw38.r.form
    have HQw38 := Lib.hid (QModule.mono hqw38 (S' := Iv (w37.heap.size) (w38.heap.size)) (fun b hb => by have := hb; simp [New] at this; exact ⟨by omega, this.2⟩))
    clear hqw38
    have zw38 := hb38.size
    try simp at zw38
    clear H492
    have H495 := Lib.hid (RWordState.keep H493.out (w' := w38) (fun p hb => hb38.cell (by have : _ < w.heap.size := hb; (try simp) <;> omega)))
    clear H493
    have H496 := Lib.hid (Rep.keep H494.out (w' := w38) (fun p hb => hb38.cell (by have : _ < w.heap.size := hb; (try simp) <;> omega)))
    clear H494
    have HL497 := Lib.hid (HL491.out.trans (hb38.mono HL491.out.size))
    clear HL491
    refine hK _ _ (Cls.mk' HL497.out) ?_
    clear hK K hb38
    (refine lex_nil ?_)
    refine ⟨Cls.mk' HL497.out, ?_, ?_⟩
    ·skip
     (repeat (first | (refine lex_r fun K hK => ?_; go_big_quiet_op; refine hK _ ?_; clear hK K) | (refine lex_k fun K hK => ?_; go_simp; refine hK _ ?_; clear hK K)))
     (refine lex_e fun K hK => ?_; go_big_op)
     refine (d_toWordState HZ1.out H495.out (fun b hb => by have : _ < w.heap.size := hb; (try simp) <;> omega)).mono ?_
     rintro e w39 ⟨vw39, rfl, hqw39, hb39⟩
     obtain ⟨Aw39_0, nw39_0, cw39_0, Aw39_1, nw39_1, cw39_1, rfl⟩ := hqw39.r.form
     have HQw39 := Lib.hid (QWordState.mono hqw39 (S' := Iv (w38.heap.size) (w39.heap.size)) (fun b hb => by have := hb; simp [New] at this; exact ⟨by omega, this.2⟩))
     clear hqw39
     have zw39 := hb39.size
     try simp at zw39
     clear H495
     have H498 := Lib.hid (Rep.keep H496.out (w' := w39) (fun p hb => hb39.cell (by have : _ < w.heap.size := hb; (try simp) <;> omega)))
     clear H496
     have H499 := Lib.hid (QModule.keep HQw38.out (w' := w39) (fun b hb => hb39.block b (by have := hb; simp only [Iv] at this; (try simp) <;> omega)))
     clear HQw38
     have HL500 := Lib.hid (HL497.out.trans (hb39.mono HL497.out.size))
     clear HL497
     refine hK _ _ (Cls.mk' HL500.out) ?_
     clear hK K hb39
     (refine lex_nil ?_)
     refine ⟨Cls.mk' HL500.out, ?_, ?_⟩
     ·skip
      (repeat (first | (refine lex_r fun K hK => ?_; go_big_quiet_op; refine hK _ ?_; clear hK K) | (refine lex_k fun K hK => ?_; go_simp; refine hK _ ?_; clear hK K)))
      (refine lex_e fun K hK => ?_; go_big_op)
      refine (d_toIntS HZ2.out H498.out (fun b hb => by have : _ < w.heap.size := hb; (try simp) <;> omega)).mono ?_
      rintro e w40 ⟨vw40, rfl, hqw40, hb40⟩
      obtain ⟨Aw40, nw40, cw40, rfl⟩ := slv_of hqw40.rep
      have HQw40 := Lib.hid (Sep.mono hqw40 (S' := Iv (w39.heap.size) (w40.heap.size)) (fun b hb => by have := hb; simp [New] at this; exact ⟨by omega, this.2⟩))
      clear hqw40
      have zw40 := hb40.size
      try simp at zw40
      clear H498
      have H501 := Lib.hid (QModule.keep H499.out (w' := w40) (fun b hb => hb40.block b (by have := hb; simp only [Iv] at this; (try simp) <;> omega)))
      clear H499
      have H502 := Lib.hid (QWordState.keep HQw39.out (w' := w40) (fun b hb => hb40.block b (by have := hb; simp only [Iv] at this; (try simp) <;> omega)))
      clear HQw39
      have HL503 := Lib.hid (HL500.out.trans (hb40.mono HL500.out.size))
      clear HL500
      refine hK _ _ (Cls.mk' HL503.out) ?_
      clear hK K hb40
      (refine lex_nil ?_)
      refine ⟨Cls.mk' HL503.out, ?_, ?_⟩
      ·skip
       (repeat (first | (refine lex_r fun K hK => ?_; go_big_quiet_op; refine hK _ ?_; clear hK K) | (refine lex_k fun K hK => ?_; go_simp; refine hK _ ?_; clear hK K)))
       (refine lex_e fun K hK => ?_; go_big_op)
       refine (i_FlatStep HZ0.out H501.out.r (fun b hb => by have := hb; simp only [Iv] at this; (try simp) <;> omega) H502.out.r (fun b hb => by have := hb; simp only [Iv] at this; (try simp) <;> omega) HQw40.out.rep (fun b hb => by have := hb; simp only [Iv] at this; (try simp) <;> omega)).mono ?_
       rintro e w41 ⟨vw41_0, vw41_1, Tw41_0, Tw41_1, rfl, hsw41_0, hsw41_1, hdjw41, hqw41_0, hqw41_1, hb41⟩
       obtain ⟨Aw41_0_0, nw41_0_0, cw41_0_0, Aw41_0_1, nw41_0_1, cw41_0_1, rfl⟩ := hqw41_0.r.form
       have HQw41_0 := Lib.hid hqw41_0
       have HSw41_0 := Lib.hid (show ∀ b, Tw41_0 b → w40.heap.size ≤ b ∧ b < w41.heap.size from fun b hb => by have := hsw41_0 b hb; simp [New] at this; exact ⟨by omega, this.2⟩)
       clear hqw41_0 hsw41_0
       obtain ⟨Aw41_1, nw41_1, cw41_1, rfl⟩ := slv_of hqw41_1.rep
       have HQw41_1 := Lib.hid hqw41_1
       have HSw41_1 := Lib.hid (show ∀ b, Tw41_1 b → w40.heap.size ≤ b ∧ b < w41.heap.size from fun b hb => by have := hsw41_1 b hb; simp [New] at this; exact ⟨by omega, this.2⟩)
       clear hqw41_1 hsw41_1
       have HDw41 := Lib.hid hdjw41
       clear hdjw41
       have zw41 := hb41.size
       try simp at zw41
       clear H501 H502 HQw40
       have HL504 := Lib.hid (HL503.out.trans (hb41.mono HL503.out.size))
       clear HL503
       refine hK _ _ (Cls.mk' HL504.out) ?_
       clear hK K hb41
       (repeat (first | (refine lex_r fun K hK => ?_; go_big_quiet_op; refine hK _ ?_; clear hK K) | (refine lex_k fun K hK => ?_; go_simp; refine hK _ ?_; clear hK K)))
       (refine lex_e fun K hK => ?_; go_big_op)
       obtain ⟨wa505, hwa505⟩ : ∃ x, x = w41.alloc (.cells #[.slice none 0 0, .slice none 0 0] 33) := ⟨_, rfl⟩
       rw [← hwa505]
       have hbwa505 : Below w41.heap.size w41 wa505 := by rw [hwa505]; exact (Below.refl _ _).alloc (Nat.le_refl _) _
       have zwa505 : w41.heap.size + 1 ≤ wa505.heap.size := by rw [hwa505]; simp
       obtain ⟨gx, hgx⟩ : ∃ g, g = w41.heap.size := ⟨_, rfl⟩
       have HX506 := Lib.hid (show Blk wa505 gx 33 #[.slice none 0 0, .slice none 0 0] by rw [hwa505, hgx]; exact Blk.new _ _ _)
       rw [← hgx]
       have gxa : w41.heap.size ≤ gx := by omega
       have gxb : gx < wa505.heap.size := by omega
       clear hgx hwa505
       have H507 := Lib.hid (QWordState.keep HQw41_0.out (w' := wa505) (fun b hb => hbwa505.block b (by have := HSw41_0.out _ hb; (try simp) <;> omega)))
       clear HQw41_0
       have H508 := Lib.hid (Sep.keep HQw41_1.out (w' := wa505) (fun b hb => hbwa505.block b (by have := HSw41_1.out _ hb; (try simp) <;> omega)))
       clear HQw41_1
       have HL509 := Lib.hid (HL504.out.trans (hbwa505.mono HL504.out.size))
       clear HL504
       refine hK _ _ (Cls.mk' HL509.out) ?_
       clear hK K hbwa505
       obtain ⟨q_0, q_1⟩ := blkS2 HX506.out
       have f_0 := HX506.out.frozen 0
       have f_1 := HX506.out.frozen 1
       (repeat (first | (refine lex_r fun K hK => ?_; go_big_quiet_op; refine hK _ ?_; clear hK K) | (refine lex_k fun K hK => ?_; go_simp; refine hK _ ?_; clear hK K)))
       (refine lex_e fun K hK => ?_; go_big_op)
       obtain ⟨wf, hwf⟩ : ∃ x, x = ((wa505.setCell ⟨gx, 0, none⟩ (.slice Aw41_0_0 nw41_0_0 cw41_0_0)).setCell ⟨gx, 1, none⟩ (.slice Aw41_0_1 nw41_0_1 cw41_0_1)) := ⟨_, rfl⟩
       rw [← hwf]
       have hlf : Below w37.heap.size w37 wf := by rw [hwf]; exact ((HL509.out.setCell (by show w37.heap.size ≤ gx; omega) _).setCell (by show w37.heap.size ≤ gx; omega) _)
       refine hK _ _ (Cls.mk' hlf) ?_
       clear hK K q_0 f_0 q_1 f_1
       (repeat (first | (refine lex_r fun K hK => ?_; go_big_quiet_op; refine hK _ ?_; clear hK K) | (refine lex_k fun K hK => ?_; go_simp; refine hK _ ?_; clear hK K)))
       (refine lex_nil ?_)
       refine ⟨Cls.mk' hlf, ?_⟩
       clear lexNE cH482_0 cH482_1 cH482_2 cH482_3 cH483_0 cH483_1
       go_wp2_with fail
       go_meet
       case rel =>
        have hk2 : ∀ b, b ≠ gx → wf.heap[b]? = wa505.heap[b]? := fun b hb => by rw [hwf]; exact (Below.heap_setCell _ ⟨gx, 1, none⟩ _ b hb).trans (Below.heap_setCell _ ⟨gx, 0, none⟩ _ b hb)
        have hsf : wf.heap.size = wa505.heap.size := by rw [hwf]; simp [World.setCell]
        refine ⟨gx, Aw41_0_0, Aw41_0_1, nw41_0_0 , cw41_0_0, nw41_0_1 , cw41_0_1, _, _, _, Tw41_0, Tw41_1, rfl, rfl, ⟨by omega, by omega⟩, ?_, fun b hb => by have := HSw41_0.out _ hb; exact ⟨⟨by omega, by omega⟩, by omega⟩, fun b hb => by have := HSw41_1.out _ hb; exact ⟨⟨by omega, by omega⟩, by omega⟩, HDw41.out, ?_, ?_, hlf⟩
        ·rw [hwf]; exact blk_two HX506.out
        ·exact QWordState.keep H507.out (fun b hb => hk2 b (by have := HSw41_0.out _ hb; omega))
        ·exact Sep.keep H508.out (fun b hb => hk2 b (by have := HSw41_1.out _ hb; omega))
      ·skip
       (repeat (first | (refine lex_r fun K hK => ?_; go_big_quiet_op; refine hK _ ?_; clear hK K) | (refine lex_k fun K hK => ?_; go_simp; refine hK _ ?_; clear hK K)))
       (refine lex_e fun K hK => ?_; go_big_op)
       obtain ⟨wa510, hwa510⟩ : ∃ x, x = w40.alloc (.cells #[.slice none 0 0, .slice none 0 0] 33) := ⟨_, rfl⟩
       rw [← hwa510]
       have hbwa510 : Below w40.heap.size w40 wa510 := by rw [hwa510]; exact (Below.refl _ _).alloc (Nat.le_refl _) _
       have zwa510 : w40.heap.size + 1 ≤ wa510.heap.size := by rw [hwa510]; simp
       obtain ⟨gx, hgx⟩ : ∃ g, g = w40.heap.size := ⟨_, rfl⟩
       have HX511 := Lib.hid (show Blk wa510 gx 33 #[.slice none 0 0, .slice none 0 0] by rw [hwa510, hgx]; exact Blk.new _ _ _)
       rw [← hgx]
       have gxa : w40.heap.size ≤ gx := by omega
       have gxb : gx < wa510.heap.size := by omega
       clear hgx hwa510
       have H512 := Lib.hid (QModule.keep H501.out (w' := wa510) (fun b hb => hbwa510.block b (by have := hb; simp only [Iv] at this; (try simp) <;> omega)))
       clear H501
       have H513 := Lib.hid (QWordState.keep H502.out (w' := wa510) (fun b hb => hbwa510.block b (by have := hb; simp only [Iv] at this; (try simp) <;> omega)))
       clear H502
       have H514 := Lib.hid (Sep.keep HQw40.out (w' := wa510) (fun b hb => hbwa510.block b (by have := hb; simp only [Iv] at this; (try simp) <;> omega)))
       clear HQw40
       have HL515 := Lib.hid (HL503.out.trans (hbwa510.mono HL503.out.size))
       clear HL503
       refine hK _ _ (Cls.mk' HL515.out) ?_
       clear hK K hbwa510
       (repeat (first | (refine lex_r fun K hK => ?_; go_big_quiet_op; refine hK _ ?_; clear hK K) | (refine lex_k fun K hK => ?_; go_simp; refine hK _ ?_; clear hK K)))
       (refine lex_e fun K hK => ?_; go_big_op)
       refine (i_FlatStep HZ0.out H512.out.r (fun b hb => by have := hb; simp only [Iv] at this; (try simp) <;> omega) H513.out.r (fun b hb => by have := hb; simp only [Iv] at this; (try simp) <;> omega) H514.out.rep (fun b hb => by have := hb; simp only [Iv] at this; (try simp) <;> omega)).mono ?_
       rintro e w42 ⟨vw42_0, vw42_1, Tw42_0, Tw42_1, rfl, hsw42_0, hsw42_1, hdjw42, hqw42_0, hqw42_1, hb42⟩
       obtain ⟨Aw42_0_0, nw42_0_0, cw42_0_0, Aw42_0_1, nw42_0_1, cw42_0_1, rfl⟩ := hqw42_0.r.form
       have HQw42_0 := Lib.hid hqw42_0
       have HSw42_0 := Lib.hid (show ∀ b, Tw42_0 b → wa510.heap.size ≤ b ∧ b < w42.heap.size from fun b hb => by have := hsw42_0 b hb; simp [New] at this; exact ⟨by omega, this.2⟩)
       clear hqw42_0 hsw42_0
       obtain ⟨Aw42_1, nw42_1, cw42_1, rfl⟩ := slv_of hqw42_1.rep
       have HQw42_1 := Lib.hid hqw42_1
       have HSw42_1 := Lib.hid (show ∀ b, Tw42_1 b → wa510.heap.size ≤ b ∧ b < w42.heap.size from fun b hb => by have := hsw42_1 b hb; simp [New] at this; exact ⟨by omega, this.2⟩)
       clear hqw42_1 hsw42_1
       have HDw42 := Lib.hid hdjw42
       clear hdjw42
       have zw42 := hb42.size
       try simp at zw42
       clear H512 H513 H514
       have H516 := Lib.hid (HX511.out.below hb42 HX511.out.lt)
       clear HX511
       have HL517 := Lib.hid (HL515.out.trans (hb42.mono HL515.out.size))
       clear HL515
       refine hK _ _ (Cls.mk' HL517.out) ?_
       clear hK K hb42
       obtain ⟨q_0, q_1⟩ := blkS2 H516.out
       have f_0 := H516.out.frozen 0
       have f_1 := H516.out.frozen 1
       (repeat (first | (refine lex_r fun K hK => ?_; go_big_quiet_op; refine hK _ ?_; clear hK K) | (refine lex_k fun K hK => ?_; go_simp; refine hK _ ?_; clear hK K)))
       (refine lex_e fun K hK => ?_; go_big_op)
       obtain ⟨wf, hwf⟩ : ∃ x, x = ((w42.setCell ⟨gx, 0, none⟩ (.slice Aw42_0_0 nw42_0_0 cw42_0_0)).setCell ⟨gx, 1, none⟩ (.slice Aw42_0_1 nw42_0_1 cw42_0_1)) := ⟨_, rfl⟩
       rw [← hwf]
       have hlf : Below w37.heap.size w37 wf := by rw [hwf]; exact ((HL517.out.setCell (by show w37.heap.size ≤ gx; omega) _).setCell (by show w37.heap.size ≤ gx; omega) _)
       refine hK _ _ (Cls.mk' hlf) ?_
       clear hK K q_0 f_0 q_1 f_1
       (repeat (first | (refine lex_r fun K hK => ?_; go_big_quiet_op; refine hK _ ?_; clear hK K) | (refine lex_k fun K hK => ?_; go_simp; refine hK _ ?_; clear hK K)))
       (refine lex_nil ?_)
       refine ⟨Cls.mk' hlf, ?_⟩
       clear lexNE cH482_0 cH482_1 cH482_2 cH482_3 cH483_0 cH483_1
       go_wp2_with fail
       go_meet
       case rel =>
        have hk2 : ∀ b, b ≠ gx → wf.heap[b]? = w42.heap[b]? := fun b hb => by rw [hwf]; exact (Below.heap_setCell _ ⟨gx, 1, none⟩ _ b hb).trans (Below.heap_setCell _ ⟨gx, 0, none⟩ _ b hb)
        have hsf : wf.heap.size = w42.heap.size := by rw [hwf]; simp [World.setCell]
        refine ⟨gx, Aw42_0_0, Aw42_0_1, nw42_0_0 , cw42_0_0, nw42_0_1 , cw42_0_1, _, _, _, Tw42_0, Tw42_1, rfl, rfl, ⟨by omega, by omega⟩, ?_, fun b hb => by have := HSw42_0.out _ hb; exact ⟨⟨by omega, by omega⟩, by omega⟩, fun b hb => by have := HSw42_1.out _ hb; exact ⟨⟨by omega, by omega⟩, by omega⟩, HDw42.out, ?_, ?_, hlf⟩
        ·rw [hwf]; exact blk_two H516.out
        ·exact QWordState.keep HQw42_0.out (fun b hb => hk2 b (by have := HSw42_0.out _ hb; omega))
        ·exact Sep.keep HQw42_1.out (fun b hb => hk2 b (by have := HSw42_1.out _ hb; omega))
     ·skip
      (repeat (first | (refine lex_r fun K hK => ?_; go_big_quiet_op; refine hK _ ?_; clear hK K) | (refine lex_k fun K hK => ?_; go_simp; refine hK _ ?_; clear hK K)))
      (refine lex_e fun K hK => ?_; go_big_op)
      obtain ⟨wa518, hwa518⟩ : ∃ x, x = w39.alloc (.cells #[.slice none 0 0, .slice none 0 0] 33) := ⟨_, rfl⟩
      rw [← hwa518]
      have hbwa518 : Below w39.heap.size w39 wa518 := by rw [hwa518]; exact (Below.refl _ _).alloc (Nat.le_refl _) _
      have zwa518 : w39.heap.size + 1 ≤ wa518.heap.size := by rw [hwa518]; simp
      obtain ⟨gx, hgx⟩ : ∃ g, g = w39.heap.size := ⟨_, rfl⟩
      have HX519 := Lib.hid (show Blk wa518 gx 33 #[.slice none 0 0, .slice none 0 0] by rw [hwa518, hgx]; exact Blk.new _ _ _)
      rw [← hgx]
      have gxa : w39.heap.size ≤ gx := by omega
      have gxb : gx < wa518.heap.size := by omega
      clear hgx hwa518
      have H520 := Lib.hid (Rep.keep H498.out (w' := wa518) (fun p hb => hbwa518.cell (by have : _ < w.heap.size := hb; (try simp) <;> omega)))
      clear H498
      have H521 := Lib.hid (QModule.keep H499.out (w' := wa518) (fun b hb => hbwa518.block b (by have := hb; simp only [Iv] at this; (try simp) <;> omega)))
      clear H499
      have H522 := Lib.hid (QWordState.keep HQw39.out (w' := wa518) (fun b hb => hbwa518.block b (by have := hb; simp only [Iv] at this; (try simp) <;> omega)))
      clear HQw39
      have HL523 := Lib.hid (HL500.out.trans (hbwa518.mono HL500.out.size))
      clear HL500
      refine hK _ _ (Cls.mk' HL523.out) ?_
      clear hK K hbwa518
      (repeat (first | (refine lex_r fun K hK => ?_; go_big_quiet_op; refine hK _ ?_; clear hK K) | (refine lex_k fun K hK => ?_; go_simp; refine hK _ ?_; clear hK K)))
      (refine lex_e fun K hK => ?_; go_big_op)
      refine (d_toIntS HZ2.out H520.out (fun b hb => by have : _ < w.heap.size := hb; (try simp) <;> omega)).mono ?_
      rintro e w43 ⟨vw43, rfl, hqw43, hb43⟩
      obtain ⟨Aw43, nw43, cw43, rfl⟩ := slv_of hqw43.rep
      have HQw43 := Lib.hid (Sep.mono hqw43 (S' := Iv (wa518.heap.size) (w43.heap.size)) (fun b hb => by have := hb; simp [New] at this; exact ⟨by omega, this.2⟩))
      clear hqw43
      have zw43 := hb43.size
      try simp at zw43
      clear H520
      have H524 := Lib.hid (QModule.keep H521.out (w' := w43) (fun b hb => hb43.block b (by have := hb; simp only [Iv] at this; (try simp) <;> omega)))
      clear H521
      have H525 := Lib.hid (QWordState.keep H522.out (w' := w43) (fun b hb => hb43.block b (by have := hb; simp only [Iv] at this; (try simp) <;> omega)))
      clear H522
      have H526 := Lib.hid (HX519.out.below hb43 HX519.out.lt)
      clear HX519
      have HL527 := Lib.hid (HL523.out.trans (hb43.mono HL523.out.size))
      clear HL523
      refine hK _ _ (Cls.mk' HL527.out) ?_
      clear hK K hb43
      (repeat (first | (refine lex_r fun K hK => ?_; go_big_quiet_op; refine hK _ ?_; clear hK K) | (refine lex_k fun K hK => ?_; go_simp; refine hK _ ?_; clear hK K)))
      (refine lex_e fun K hK => ?_; go_big_op)
      refine (i_FlatStep HZ0.out H524.out.r (fun b hb => by have := hb; simp only [Iv] at this; (try simp) <;> omega) H525.out.r (fun b hb => by have := hb; simp only [Iv] at this; (try simp) <;> omega) HQw43.out.rep (fun b hb => by have := hb; simp only [Iv] at this; (try simp) <;> omega)).mono ?_
      rintro e w44 ⟨vw44_0, vw44_1, Tw44_0, Tw44_1, rfl, hsw44_0, hsw44_1, hdjw44, hqw44_0, hqw44_1, hb44⟩
      obtain ⟨Aw44_0_0, nw44_0_0, cw44_0_0, Aw44_0_1, nw44_0_1, cw44_0_1, rfl⟩ := hqw44_0.r.form
      have HQw44_0 := Lib.hid hqw44_0
      have HSw44_0 := Lib.hid (show ∀ b, Tw44_0 b → w43.heap.size ≤ b ∧ b < w44.heap.size from fun b hb => by have := hsw44_0 b hb; simp [New] at this; exact ⟨by omega, this.2⟩)
      clear hqw44_0 hsw44_0
      obtain ⟨Aw44_1, nw44_1, cw44_1, rfl⟩ := slv_of hqw44_1.rep
      have HQw44_1 := Lib.hid hqw44_1
      have HSw44_1 := Lib.hid (show ∀ b, Tw44_1 b → w43.heap.size ≤ b ∧ b < w44.heap.size from fun b hb => by have := hsw44_1 b hb; simp [New] at this; exact ⟨by omega, this.2⟩)
      clear hqw44_1 hsw44_1
      have HDw44 := Lib.hid hdjw44
      clear hdjw44
      have zw44 := hb44.size
      try simp at zw44
      clear H524 H525 HQw43
      have H528 := Lib.hid (H526.out.below hb44 H526.out.lt)
      clear H526
      have HL529 := Lib.hid (HL527.out.trans (hb44.mono HL527.out.size))
      clear HL527
      refine hK _ _ (Cls.mk' HL529.out) ?_
      clear hK K hb44
      obtain ⟨q_0, q_1⟩ := blkS2 H528.out
      have f_0 := H528.out.frozen 0
      have f_1 := H528.out.frozen 1
      (repeat (first | (refine lex_r fun K hK => ?_; go_big_quiet_op; refine hK _ ?_; clear hK K) | (refine lex_k fun K hK => ?_; go_simp; refine hK _ ?_; clear hK K)))
      (refine lex_e fun K hK => ?_; go_big_op)
      obtain ⟨wf, hwf⟩ : ∃ x, x = ((w44.setCell ⟨gx, 0, none⟩ (.slice Aw44_0_0 nw44_0_0 cw44_0_0)).setCell ⟨gx, 1, none⟩ (.slice Aw44_0_1 nw44_0_1 cw44_0_1)) := ⟨_, rfl⟩
      rw [← hwf]
      have hlf : Below w37.heap.size w37 wf := by rw [hwf]; exact ((HL529.out.setCell (by show w37.heap.size ≤ gx; omega) _).setCell (by show w37.heap.size ≤ gx; omega) _)
      refine hK _ _ (Cls.mk' hlf) ?_
      clear hK K q_0 f_0 q_1 f_1
      (repeat (first | (refine lex_r fun K hK => ?_; go_big_quiet_op; refine hK _ ?_; clear hK K) | (refine lex_k fun K hK => ?_; go_simp; refine hK _ ?_; clear hK K)))
      (refine lex_nil ?_)
      refine ⟨Cls.mk' hlf, ?_⟩
      clear lexNE cH482_0 cH482_1 cH482_2 cH482_3 cH483_0 cH483_1
      go_wp2_with fail
      go_meet
      case rel =>
       have hk2 : ∀ b, b ≠ gx → wf.heap[b]? = w44.heap[b]? := fun b hb => by rw [hwf]; exact (Below.heap_setCell _ ⟨gx, 1, none⟩ _ b hb).trans (Below.heap_setCell _ ⟨gx, 0, none⟩ _ b hb)
       have hsf : wf.heap.size = w44.heap.size := by rw [hwf]; simp [World.setCell]
       refine ⟨gx, Aw44_0_0, Aw44_0_1, nw44_0_0 , cw44_0_0, nw44_0_1 , cw44_0_1, _, _, _, Tw44_0, Tw44_1, rfl, rfl, ⟨by omega, by omega⟩, ?_, fun b hb => by have := HSw44_0.out _ hb; exact ⟨⟨by omega, by omega⟩, by omega⟩, fun b hb => by have := HSw44_1.out _ hb; exact ⟨⟨by omega, by omega⟩, by omega⟩, HDw44.out, ?_, ?_, hlf⟩
       ·rw [hwf]; exact blk_two H528.out
       ·exact QWordState.keep HQw44_0.out (fun b hb => hk2 b (by have := HSw44_0.out _ hb; omega))
       ·exact Sep.keep HQw44_1.out (fun b hb => hk2 b (by have := HSw44_1.out _ hb; omega))
    ·skip
     (repeat (first | (refine lex_r fun K hK => ?_; go_big_quiet_op; refine hK _ ?_; clear hK K) | (refine lex_k fun K hK => ?_; go_simp; refine hK _ ?_; clear hK K)))
     (refine lex_e fun K hK => ?_; go_big_op)
     obtain ⟨wa530, hwa530⟩ : ∃ x, x = w38.alloc (.cells #[.slice none 0 0, .slice none 0 0] 33) := ⟨_, rfl⟩
     rw [← hwa530]
     have hbwa530 : Below w38.heap.size w38 wa530 := by rw [hwa530]; exact (Below.refl _ _).alloc (Nat.le_refl _) _
     have zwa530 : w38.heap.size + 1 ≤ wa530.heap.size := by rw [hwa530]; simp
     obtain ⟨gx, hgx⟩ : ∃ g, g = w38.heap.size := ⟨_, rfl⟩
     have HX531 := Lib.hid (show Blk wa530 gx 33 #[.slice none 0 0, .slice none 0 0] by rw [hwa530, hgx]; exact Blk.new _ _ _)
     rw [← hgx]
     have gxa : w38.heap.size ≤ gx := by omega
     have gxb : gx < wa530.heap.size := by omega
     clear hgx hwa530
     have H532 := Lib.hid (RWordState.keep H495.out (w' := wa530) (fun p hb => hbwa530.cell (by have : _ < w.heap.size := hb; (try simp) <;> omega)))
     clear H495
     have H533 := Lib.hid (Rep.keep H496.out (w' := wa530) (fun p hb => hbwa530.cell (by have : _ < w.heap.size := hb; (try simp) <;> omega)))
     clear H496
     have H534 := Lib.hid (QModule.keep HQw38.out (w' := wa530) (fun b hb => hbwa530.block b (by have := hb; simp only [Iv] at this; (try simp) <;> omega)))
     clear HQw38
     have HL535 := Lib.hid (HL497.out.trans (hbwa530.mono HL497.out.size))
     clear HL497
     refine hK _ _ (Cls.mk' HL535.out) ?_
     clear hK K hbwa530
     (repeat (first | (refine lex_r fun K hK => ?_; go_big_quiet_op; refine hK _ ?_; clear hK K) | (refine lex_k fun K hK => ?_; go_simp; refine hK _ ?_; clear hK K)))
     (refine lex_e fun K hK => ?_; go_big_op)
     refine (d_toWordState HZ1.out H532.out (fun b hb => by have : _ < w.heap.size := hb; (try simp) <;> omega)).mono ?_
     rintro e w45 ⟨vw45, rfl, hqw45, hb45⟩
     obtain ⟨Aw45_0, nw45_0, cw45_0, Aw45_1, nw45_1, cw45_1, rfl⟩ := hqw45.r.form
     have HQw45 := Lib.hid (QWordState.mono hqw45 (S' := Iv (wa530.heap.size) (w45.heap.size)) (fun b hb => by have := hb; simp [New] at this; exact ⟨by omega, this.2⟩))
     clear hqw45
     have zw45 := hb45.size
     try simp at zw45
     clear H532
     have H536 := Lib.hid (Rep.keep H533.out (w' := w45) (fun p hb => hb45.cell (by have : _ < w.heap.size := hb; (try simp) <;> omega)))
     clear H533
     have H537 := Lib.hid (QModule.keep H534.out (w' := w45) (fun b hb => hb45.block b (by have := hb; simp only [Iv] at this; (try simp) <;> omega)))
     clear H534
     have H538 := Lib.hid (HX531.out.below hb45 HX531.out.lt)
     clear HX531
     have HL539 := Lib.hid (HL535.out.trans (hb45.mono HL535.out.size))
     clear HL535
     refine hK _ _ (Cls.mk' HL539.out) ?_
     clear hK K hb45
     (repeat (first | (refine lex_r fun K hK => ?_; go_big_quiet_op; refine hK _ ?_; clear hK K) | (refine lex_k fun K hK => ?_; go_simp; refine hK _ ?_; clear hK K)))
     (refine lex_e fun K hK => ?_; go_big_op)
     refine (d_toIntS HZ2.out H536.out (fun b hb => by have : _ < w.heap.size := hb; (try simp) <;> omega)).mono ?_
     rintro e w46 ⟨vw46, rfl, hqw46, hb46⟩
     obtain ⟨Aw46, nw46, cw46, rfl⟩ := slv_of hqw46.rep
     have HQw46 := Lib.hid (Sep.mono hqw46 (S' := Iv (w45.heap.size) (w46.heap.size)) (fun b hb => by have := hb; simp [New] at this; exact ⟨by omega, this.2⟩))
     clear hqw46
     have zw46 := hb46.size
     try simp at zw46
     clear H536
     have H540 := Lib.hid (QModule.keep H537.out (w' := w46) (fun b hb => hb46.block b (by have := hb; simp only [Iv] at this; (try simp) <;> omega)))
     clear H537
     have H541 := Lib.hid (H538.out.below hb46 H538.out.lt)
     clear H538
     have H542 := Lib.hid (QWordState.keep HQw45.out (w' := w46) (fun b hb => hb46.block b (by have := hb; simp only [Iv] at this; (try simp) <;> omega)))
     clear HQw45
     have HL543 := Lib.hid (HL539.out.trans (hb46.mono HL539.out.size))
     clear HL539
     refine hK _ _ (Cls.mk' HL543.out) ?_
     clear hK K hb46
     (repeat (first | (refine lex_r fun K hK => ?_; go_big_quiet_op; refine hK _ ?_; clear hK K) | (refine lex_k fun K hK => ?_; go_simp; refine hK _ ?_; clear hK K)))
     (refine lex_e fun K hK => ?_; go_big_op)
     refine (i_FlatStep HZ0.out H540.out.r (fun b hb => by have := hb; simp only [Iv] at this; (try simp) <;> omega) H542.out.r (fun b hb => by have := hb; simp only [Iv] at this; (try simp) <;> omega) HQw46.out.rep (fun b hb => by have := hb; simp only [Iv] at this; (try simp) <;> omega)).mono ?_
     rintro e w47 ⟨vw47_0, vw47_1, Tw47_0, Tw47_1, rfl, hsw47_0, hsw47_1, hdjw47, hqw47_0, hqw47_1, hb47⟩
     obtain ⟨Aw47_0_0, nw47_0_0, cw47_0_0, Aw47_0_1, nw47_0_1, cw47_0_1, rfl⟩ := hqw47_0.r.form
     have HQw47_0 := Lib.hid hqw47_0
     have HSw47_0 := Lib.hid (show ∀ b, Tw47_0 b → w46.heap.size ≤ b ∧ b < w47.heap.size from fun b hb => by have := hsw47_0 b hb; simp [New] at this; exact ⟨by omega, this.2⟩)
     clear hqw47_0 hsw47_0
     obtain ⟨Aw47_1, nw47_1, cw47_1, rfl⟩ := slv_of hqw47_1.rep
     have HQw47_1 := Lib.hid hqw47_1
     have HSw47_1 := Lib.hid (show ∀ b, Tw47_1 b → w46.heap.size ≤ b ∧ b < w47.heap.size from fun b hb => by have := hsw47_1 b hb; simp [New] at this; exact ⟨by omega, this.2⟩)
     clear hqw47_1 hsw47_1
     have HDw47 := Lib.hid hdjw47
     clear hdjw47
     have zw47 := hb47.size
     try simp at zw47
     clear H540 H542 HQw46
     have H544 := Lib.hid (H541.out.below hb47 H541.out.lt)
     clear H541
     have HL545 := Lib.hid (HL543.out.trans (hb47.mono HL543.out.size))
     clear HL543
     refine hK _ _ (Cls.mk' HL545.out) ?_
     clear hK K hb47
     obtain ⟨q_0, q_1⟩ := blkS2 H544.out
     have f_0 := H544.out.frozen 0
     have f_1 := H544.out.frozen 1
     (repeat (first | (refine lex_r fun K hK => ?_; go_big_quiet_op; refine hK _ ?_; clear hK K) | (refine lex_k fun K hK => ?_; go_simp; refine hK _ ?_; clear hK K)))
     (refine lex_e fun K hK => ?_; go_big_op)
     obtain ⟨wf, hwf⟩ : ∃ x, x = ((w47.setCell ⟨gx, 0, none⟩ (.slice Aw47_0_0 nw47_0_0 cw47_0_0)).setCell ⟨gx, 1, none⟩ (.slice Aw47_0_1 nw47_0_1 cw47_0_1)) := ⟨_, rfl⟩
     rw [← hwf]
     have hlf : Below w37.heap.size w37 wf := by rw [hwf]; exact ((HL545.out.setCell (by show w37.heap.size ≤ gx; omega) _).setCell (by show w37.heap.size ≤ gx; omega) _)
     refine hK _ _ (Cls.mk' hlf) ?_
     clear hK K q_0 f_0 q_1 f_1
     (repeat (first | (refine lex_r fun K hK => ?_; go_big_quiet_op; refine hK _ ?_; clear hK K) | (refine lex_k fun K hK => ?_; go_simp; refine hK _ ?_; clear hK K)))
     (refine lex_nil ?_)
     refine ⟨Cls.mk' hlf, ?_⟩
     clear lexNE cH482_0 cH482_1 cH482_2 cH482_3 cH483_0 cH483_1
     go_wp2_with fail
     go_meet
     case rel =>
      have hk2 : ∀ b, b ≠ gx → wf.heap[b]? = w47.heap[b]? := fun b hb => by rw [hwf]; exact (Below.heap_setCell _ ⟨gx, 1, none⟩ _ b hb).trans (Below.heap_setCell _ ⟨gx, 0, none⟩ _ b hb)
      have hsf : wf.heap.size = w47.heap.size := by rw [hwf]; simp [World.setCell]
      refine ⟨gx, Aw47_0_0, Aw47_0_1, nw47_0_0 , cw47_0_0, nw47_0_1 , cw47_0_1, _, _, _, Tw47_0, Tw47_1, rfl, rfl, ⟨by omega, by omega⟩, ?_, fun b hb => by have := HSw47_0.out _ hb; exact ⟨⟨by omega, by omega⟩, by omega⟩, fun b hb => by have := HSw47_1.out _ hb; exact ⟨⟨by omega, by omega⟩, by omega⟩, HDw47.out, ?_, ?_, hlf⟩
      ·rw [hwf]; exact blk_two H544.out
      ·exact QWordState.keep HQw47_0.out (fun b hb => hk2 b (by have := HSw47_0.out _ hb; omega))
      ·exact Sep.keep HQw47_1.out (fun b hb => hk2 b (by have := HSw47_1.out _ hb; omega))
   ·skip
    (repeat (first | (refine lex_r fun K hK => ?_; go_big_quiet_op; refine hK _ ?_; clear hK K) | (refine lex_k fun K hK => ?_; go_simp; refine hK _ ?_; clear hK K)))
    (refine lex_e fun K hK => ?_; go_big_op)
    obtain ⟨wa546, hwa546⟩ : ∃ x, x = (w37.alloc (.cells #[.slice none 0 0, .slice none 0 0] 33)).drew := ⟨_, rfl⟩
    rw [← hwa546]
    have hbwa546 : Below w37.heap.size w37 wa546 := by rw [hwa546]; exact ((Below.refl _ _).alloc (Nat.le_refl _) _).drew
    have zwa546 : w37.heap.size + 1 ≤ wa546.heap.size := by rw [hwa546]; simp
    obtain ⟨gx, hgx⟩ : ∃ g, g = w37.heap.size := ⟨_, rfl⟩
    have HX547 := Lib.hid (show Blk wa546 gx 33 #[.slice none 0 0, .slice none 0 0] by rw [hwa546, hgx]; exact (Blk.new _ _ _).drew)
    rw [← hgx]
    have gxa : w37.heap.size ≤ gx := by omega
    have gxb : gx < wa546.heap.size := by omega
    clear hgx hwa546
    have H548 := Lib.hid (RModule.keep H492.out (w' := wa546) (fun p hb => hbwa546.cell (by have : _ < w.heap.size := hb; (try simp) <;> omega)))
    clear H492
    have H549 := Lib.hid (RWordState.keep H493.out (w' := wa546) (fun p hb => hbwa546.cell (by have : _ < w.heap.size := hb; (try simp) <;> omega)))
    clear H493
    have H550 := Lib.hid (Rep.keep H494.out (w' := wa546) (fun p hb => hbwa546.cell (by have : _ < w.heap.size := hb; (try simp) <;> omega)))
    clear H494
    have HL551 := Lib.hid hbwa546
    clear HL491
    refine hK _ _ (Cls.mk' HL551.out) ?_
    clear hK K hbwa546
    (repeat (first | (refine lex_r fun K hK => ?_; go_big_quiet_op; refine hK _ ?_; clear hK K) | (refine lex_k fun K hK => ?_; go_simp; refine hK _ ?_; clear hK K)))
    (refine lex_e fun K hK => ?_; go_big_op)
    refine (d_toModule HZ0.out H548.out (fun b hb => by have : _ < w.heap.size := hb; (try simp) <;> omega)).mono ?_
    rintro e w48 ⟨vw48, rfl, hqw48, hb48⟩
    obtain ⟨Aw48_0, nw48_0, cw48_0, Aw48_1, nw48_1, cw48_1, Aw48_2, nw48_2, cw48_2, Aw48_3, nw48_3, cw48_3, rfl⟩ := hqw48.r.form
    have HQw48 := Lib.hid (QModule.mono hqw48 (S' := Iv (wa546.heap.size) (w48.heap.size)) (fun b hb => by have := hb; simp [New] at this; exact ⟨by omega, this.2⟩))
    clear hqw48
    have zw48 := hb48.size
    try simp at zw48
    clear H548
    have H552 := Lib.hid (RWordState.keep H549.out (w' := w48) (fun p hb => hb48.cell (by have : _ < w.heap.size := hb; (try simp) <;> omega)))
    clear H549
    have H553 := Lib.hid (Rep.keep H550.out (w' := w48) (fun p hb => hb48.cell (by have : _ < w.heap.size := hb; (try simp) <;> omega)))
    clear H550
    have H554 := Lib.hid (HX547.out.below hb48 HX547.out.lt)
    clear HX547
    have HL555 := Lib.hid (HL551.out.trans (hb48.mono HL551.out.size))
    clear HL551
    refine hK _ _ (Cls.mk' HL555.out) ?_
    clear hK K hb48
    (repeat (first | (refine lex_r fun K hK => ?_; go_big_quiet_op; refine hK _ ?_; clear hK K) | (refine lex_k fun K hK => ?_; go_simp; refine hK _ ?_; clear hK K)))
    (refine lex_e fun K hK => ?_; go_big_op)
    refine (d_toWordState HZ1.out H552.out (fun b hb => by have : _ < w.heap.size := hb; (try simp) <;> omega)).mono ?_
    rintro e w49 ⟨vw49, rfl, hqw49, hb49⟩
    obtain ⟨Aw49_0, nw49_0, cw49_0, Aw49_1, nw49_1, cw49_1, rfl⟩ := hqw49.r.form
    have HQw49 := Lib.hid (QWordState.mono hqw49 (S' := Iv (w48.heap.size) (w49.heap.size)) (fun b hb => by have := hb; simp [New] at this; exact ⟨by omega, this.2⟩))
    clear hqw49
    have zw49 := hb49.size
    try simp at zw49
    clear H552
    have H556 := Lib.hid (Rep.keep H553.out (w' := w49) (fun p hb => hb49.cell (by have : _ < w.heap.size := hb; (try simp) <;> omega)))
    clear H553
    have H557 := Lib.hid (H554.out.below hb49 H554.out.lt)
    clear H554
    have H558 := Lib.hid (QModule.keep HQw48.out (w' := w49) (fun b hb => hb49.block b (by have := hb; simp only [Iv] at this; (try simp) <;> omega)))
    clear HQw48
    have HL559 := Lib.hid (HL555.out.trans (hb49.mono HL555.out.size))
    clear HL555
    refine hK _ _ (Cls.mk' HL559.out) ?_
    clear hK K hb49
    (repeat (first | (refine lex_r fun K hK => ?_; go_big_quiet_op; refine hK _ ?_; clear hK K) | (refine lex_k fun K hK => ?_; go_simp; refine hK _ ?_; clear hK K)))
    (refine lex_e fun K hK => ?_; go_big_op)
    refine (d_toIntS HZ2.out H556.out (fun b hb => by have : _ < w.heap.size := hb; (try simp) <;> omega)).mono ?_
    rintro e w50 ⟨vw50, rfl, hqw50, hb50⟩
    obtain ⟨Aw50, nw50, cw50, rfl⟩ := slv_of hqw50.rep
    have HQw50 := Lib.hid (Sep.mono hqw50 (S' := Iv (w49.heap.size) (w50.heap.size)) (fun b hb => by have := hb; simp [New] at this; exact ⟨by omega, this.2⟩))
    clear hqw50
    have zw50 := hb50.size
    try simp at zw50
    clear H556
    have H560 := Lib.hid (H557.out.below hb50 H557.out.lt)
    clear H557
    have H561 := Lib.hid (QModule.keep H558.out (w' := w50) (fun b hb => hb50.block b (by have := hb; simp only [Iv] at this; (try simp) <;> omega)))
    clear H558
    have H562 := Lib.hid (QWordState.keep HQw49.out (w' := w50) (fun b hb => hb50.block b (by have := hb; simp only [Iv] at this; (try simp) <;> omega)))
    clear HQw49
    have HL563 := Lib.hid (HL559.out.trans (hb50.mono HL559.out.size))
    clear HL559
    refine hK _ _ (Cls.mk' HL563.out) ?_
    clear hK K hb50
    (repeat (first | (refine lex_r fun K hK => ?_; go_big_quiet_op; refine hK _ ?_; clear hK K) | (refine lex_k fun K hK => ?_; go_simp; refine hK _ ?_; clear hK K)))
    (refine lex_e fun K hK => ?_; go_big_op)
    refine (i_FlatStep HZ0.out H561.out.r (fun b hb => by have := hb; simp only [Iv] at this; (try simp) <;> omega) H562.out.r (fun b hb => by have := hb; simp only [Iv] at this; (try simp) <;> omega) HQw50.out.rep (fun b hb => by have := hb; simp only [Iv] at this; (try simp) <;> omega)).mono ?_
    rintro e w51 ⟨vw51_0, vw51_1, Tw51_0, Tw51_1, rfl, hsw51_0, hsw51_1, hdjw51, hqw51_0, hqw51_1, hb51⟩
    obtain ⟨Aw51_0_0, nw51_0_0, cw51_0_0, Aw51_0_1, nw51_0_1, cw51_0_1, rfl⟩ := hqw51_0.r.form
    have HQw51_0 := Lib.hid hqw51_0
    have HSw51_0 := Lib.hid (show ∀ b, Tw51_0 b → w50.heap.size ≤ b ∧ b < w51.heap.size from fun b hb => by have := hsw51_0 b hb; simp [New] at this; exact ⟨by omega, this.2⟩)
    clear hqw51_0 hsw51_0
    obtain ⟨Aw51_1, nw51_1, cw51_1, rfl⟩ := slv_of hqw51_1.rep
    have HQw51_1 := Lib.hid hqw51_1
    have HSw51_1 := Lib.hid (show ∀ b, Tw51_1 b → w50.heap.size ≤ b ∧ b < w51.heap.size from fun b hb => by have := hsw51_1 b hb; simp [New] at this; exact ⟨by omega, this.2⟩)
    clear hqw51_1 hsw51_1
    have HDw51 := Lib.hid hdjw51
    clear hdjw51
    have zw51 := hb51.size
    try simp at zw51
    clear H561 H562 HQw50
    have H564 := Lib.hid (H560.out.below hb51 H560.out.lt)
    clear H560
    have HL565 := Lib.hid (HL563.out.trans (hb51.mono HL563.out.size))
    clear HL563
    refine hK _ _ (Cls.mk' HL565.out) ?_
    clear hK K hb51
    obtain ⟨q_0, q_1⟩ := blkS2 H564.out
    have f_0 := H564.out.frozen 0
    have f_1 := H564.out.frozen 1
    (repeat (first | (refine lex_r fun K hK => ?_; go_big_quiet_op; refine hK _ ?_; clear hK K) | (refine lex_k fun K hK => ?_; go_simp; refine hK _ ?_; clear hK K)))
    (refine lex_e fun K hK => ?_; go_big_op)
    obtain ⟨wf, hwf⟩ : ∃ x, x = ((w51.setCell ⟨gx, 0, none⟩ (.slice Aw51_0_0 nw51_0_0 cw51_0_0)).setCell ⟨gx, 1, none⟩ (.slice Aw51_0_1 nw51_0_1 cw51_0_1)) := ⟨_, rfl⟩
    rw [← hwf]
    have hlf : Below w37.heap.size w37 wf := by rw [hwf]; exact ((HL565.out.setCell (by show w37.heap.size ≤ gx; omega) _).setCell (by show w37.heap.size ≤ gx; omega) _)
    refine hK _ _ (Cls.mk' hlf) ?_
    clear hK K q_0 f_0 q_1 f_1
    (repeat (first | (refine lex_r fun K hK => ?_; go_big_quiet_op; refine hK _ ?_; clear hK K) | (refine lex_k fun K hK => ?_; go_simp; refine hK _ ?_; clear hK K)))
    (refine lex_nil ?_)
    refine ⟨Cls.mk' hlf, ?_⟩
    clear lexNE cH482_0 cH482_1 cH482_2 cH482_3 cH483_0 cH483_1
    go_wp2_with fail
    go_meet
    case rel =>
     have hk2 : ∀ b, b ≠ gx → wf.heap[b]? = w51.heap[b]? := fun b hb => by rw [hwf]; exact (Below.heap_setCell _ ⟨gx, 1, none⟩ _ b hb).trans (Below.heap_setCell _ ⟨gx, 0, none⟩ _ b hb)
     have hsf : wf.heap.size = w51.heap.size := by rw [hwf]; simp [World.setCell]
     refine ⟨gx, Aw51_0_0, Aw51_0_1, nw51_0_0 , cw51_0_0, nw51_0_1 , cw51_0_1, _, _, _, Tw51_0, Tw51_1, rfl, rfl, ⟨by omega, by omega⟩, ?_, fun b hb => by have := HSw51_0.out _ hb; exact ⟨⟨by omega, by omega⟩, by omega⟩, fun b hb => by have := HSw51_1.out _ hb; exact ⟨⟨by omega, by omega⟩, by omega⟩, HDw51.out, ?_, ?_, hlf⟩
     ·rw [hwf]; exact blk_two H564.out
     ·exact QWordState.keep HQw51_0.out (fun b hb => hk2 b (by have := HSw51_0.out _ hb; omega))
     ·exact Sep.keep HQw51_1.out (fun b hb => hk2 b (by have := HSw51_1.out _ hb; omega))
  case rest =>
   obtain ⟨gxz2, Az2_0, Az2_1, nz2_0, cz2_0, nz2_1, cz2_1, Az2_y, nz2_y, cz2_y, Tz2_0, Tz2_1, rfl, rfl, ⟨gaz2, gbz2⟩, hbx, hs0, hs1, hdj, hq0, hq1, hbz⟩ := hcut
   obtain ⟨wqz2, hwq⟩ : ∃ x, x = wc := ⟨_, rfl⟩
   subst hwq
   have HSz2_0 := Lib.hid (show ∀ b, Tz2_0 b → w37.heap.size ≤ b ∧ b < wqz2.heap.size from fun b hb => (hs0 b hb).1)
   have HSz2_1 := Lib.hid (show ∀ b, Tz2_1 b → w37.heap.size ≤ b ∧ b < wqz2.heap.size from fun b hb => (hs1 b hb).1)
   have HDz2 := Lib.hid hdj
   have HQz2_0 := Lib.hid hq0
   have HQz2_1 := Lib.hid hq1
   have HXz2 := Lib.hid hbx
   have zz2 := hbz.size
   clear hs0 hs1 hdj hq0 hq1 hbx
   clear H479 H480 H481 H482 H483
   have H566 := Lib.hid (QWordState.keep H484.out (w' := wqz2) (fun b hb => hbz.block b (by have := HSz1_0.out _ hb; (try simp) <;> omega)))
   clear H484
   have H567 := Lib.hid (Sep.keep H485.out (w' := wqz2) (fun b hb => hbz.block b (by have := HSz1_1.out _ hb; (try simp) <;> omega)))
   clear H485
   have H568 := Lib.hid (H486.out.below hbz H486.out.lt)
   clear H486
   have H569 := Lib.hid (H487.out.below hbz H487.out.lt)
   clear H487
   have H570 := Lib.hid (QWordState.keep H488.out (w' := wqz2) (fun b hb => hbz.block b (by have := HSw20_0.out _ hb; (try simp) <;> omega)))
   clear H488
   have H571 := Lib.hid (Sep.keep H489.out (w' := wqz2) (fun b hb => hbz.block b (by have := HSw20_1.out _ hb; (try simp) <;> omega)))
   clear H489
   have HB572 := Lib.hid (HB490.out.trans (hbz.mono (by have := HB490.out.size; (try simp) <;> omega)))
   clear HB490
   clear hbz
   obtain ⟨yHXz2_0, yHXz2_1⟩ := blkS2 HXz2.out
   obtain ⟨yH568_0, yH568_1⟩ := blkS2 H568.out
   go_wp2_with fail
   refine (d_eqWordState (stpS_sz m st ins) HQz2_0.out.r H566.out.r (fun b hb => by have := HSz2_0.out _ hb; (try simp) <;> omega) (fun b hb => by have := HSz1_0.out _ hb; (try simp) <;> omega)).mono ?_
   rintro e w52 ⟨rfl, hb52⟩
   have zw52 := hb52.size
   try simp at zw52
   clear H566 H568 HQz2_0 HXz2
   have H573 := Lib.hid (Sep.keep H567.out (w' := w52) (fun b hb => hb52.block b (by have := HSz1_1.out _ hb; (try simp) <;> omega)))
   clear H567
   have H574 := Lib.hid (H569.out.below hb52 H569.out.lt)
   clear H569
   have H575 := Lib.hid (QWordState.keep H570.out (w' := w52) (fun b hb => hb52.block b (by have := HSw20_0.out _ hb; (try simp) <;> omega)))
   clear H570
   have H576 := Lib.hid (Sep.keep H571.out (w' := w52) (fun b hb => hb52.block b (by have := HSw20_1.out _ hb; (try simp) <;> omega)))
   clear H571
   have H577 := Lib.hid (Sep.keep HQz2_1.out (w' := w52) (fun b hb => hb52.block b (by have := HSz2_1.out _ hb; (try simp) <;> omega)))
   clear HQz2_1
   have HB578 := Lib.hid (HB572.out.trans (hb52.mono (by have := HB572.out.size; (try simp) <;> omega)))
   clear HB572
   clear hb52
   clear yHXz2_0 yHXz2_1 yH568_0 yH568_1
   go_wp2_with fail
   refine (d_eqIntS (stpO_sz m st ins) H577.out.rep H573.out.rep (fun b hb => by have := HSz2_1.out _ hb; (try simp) <;> omega) (fun b hb => by have := HSz1_1.out _ hb; (try simp) <;> omega)).mono ?_
   rintro e w53 ⟨rfl, hb53⟩
   have zw53 := hb53.size
   try simp at zw53
   clear H573 H577
   have H579 := Lib.hid (H574.out.below hb53 H574.out.lt)
   clear H574
   have H580 := Lib.hid (QWordState.keep H575.out (w' := w53) (fun b hb => hb53.block b (by have := HSw20_0.out _ hb; (try simp) <;> omega)))
   clear H575
   have H581 := Lib.hid (Sep.keep H576.out (w' := w53) (fun b hb => hb53.block b (by have := HSw20_1.out _ hb; (try simp) <;> omega)))
   clear H576
   have HB582 := Lib.hid (HB578.out.trans (hb53.mono (by have := HB578.out.size; (try simp) <;> omega)))
   clear HB578
   clear hb53
   obtain ⟨yH579_0, yH579_1⟩ := blkS2 H579.out
   go_wp2_with fail
   have hmb583 : 1 + nWordState (stpS m st ins) ≤ 1099511627776 := by rw [← HMmk440.out]; omega
   refine (d_heldWordState (1) (by omega) H580.out.r (fun b hb => by have := HSw20_0.out _ hb; (try simp) <;> omega)).mono ?_
   rintro e w54 ⟨rfl, hb54⟩
   rw [← HMmk440.out]
   clear hmb583
   have zw54 := hb54.size
   try simp at zw54
   clear H579 H580
   have H584 := Lib.hid (Sep.keep H581.out (w' := w54) (fun b hb => hb54.block b (by have := HSw20_1.out _ hb; (try simp) <;> omega)))
   clear H581
   have HB585 := Lib.hid (HB582.out.trans (hb54.mono (by have := HB582.out.size; (try simp) <;> omega)))
   clear HB582
   clear hb54
   clear yH579_0 yH579_1
   go_wp2_with fail
   have hmb586 : mk440 + nuL nInt (stpO m st ins) ≤ 1099511627776 := by rw [← HMmk453.out]; omega
   refine (d_heldIntS (mk440) (by omega) H584.out.rep (fun b hb => by have := HSw20_1.out _ hb; (try simp) <;> omega)).mono ?_
   rintro e w55 ⟨rfl, hb55⟩
   rw [← HMmk453.out]
   clear hmb586
   have zw55 := hb55.size
   try simp at zw55
   clear H584
   have HB587 := Lib.hid (HB585.out.trans (hb55.mono (by have := HB585.out.size; (try simp) <;> omega)))
   clear HB585
   clear hb55
   go_wp2_with fail
   go_ret
   exact ⟨rfl, HB587.out⟩
set_option maxRecDepth 100000 in
theorem lifted_FnExactFlatStep (os : Os) (started : os.Started) (H : Type) (enc : TypeId × Value → H) :
  ReturnsInHanded {} Try.checked os 3 .any (Rows.fnExactFlatStepSpec.pre6 enc Try.prog Try.f3 Rows.fnExactFlatStepRow.domain false) (Rows.fnExactFlatStepSpec.post enc Try.prog Try.f3 false true false false) := by
 refine lift (F := 3) (fn := Try.f3) (s := Rows.fnExactFlatStepSpec) (conds := Rows.fnExactFlatStepRow.domain) (by kernel_rfl) Try.func3 (by kernel_rfl) rfl (by kernel_rfl) ?_ ?_ os started H enc
  (ChangeSpec.witness6 (enc := enc) (C := Try.checked) false ⟨#[], #[.agg #[.slice none 0 0, .slice none 0 0, .slice none 0 0, .slice none 0 0], .agg #[.slice none 0 0, .slice none 0 0], .slice none 0 0], []⟩ 8 (by kernel_rfl) (by kernel_rfl) (by kernel_rfl) (by kernel_rfl))
 ·intro H ds hl
  rw [Try.params3] at hl
  match ds, hl with
  | [d0, d1, d2], _ => exact ⟨rfl, rfl, rfl⟩
 ·intro W base args H enc ds p hval hA hlt
  rw [Try.params3] at hA hval
  obtain ⟨v0, vs0, e0, es0, p0, q0, hargs, rfl, rfl, h0, r0⟩ := trodAll_cons hA
  obtain ⟨v1, vs1, e1, es1, p1, q1, rfl, rfl, rfl, h1, r1⟩ := trodAll_cons r0
  obtain ⟨v2, vs2, e2, es2, p2, q2, rfl, rfl, rfl, h2, r2⟩ := trodAll_cons r1
  obtain ⟨rfl, rfl, rfl⟩ := trodAll_nil r2
  obtain rfl : args = #[v0, v1, v2] := by cases args; simp_all
  obtain ⟨x0, w0⟩ := op_Module (hval 0 27 v0 rfl rfl) h0 (fun x hx => hlt x (by simp [hx]))
  obtain ⟨x1, w1⟩ := op_WordState (hval 1 30 v1 rfl rfl) h1 (fun x hx => hlt x (by simp [hx]))
  obtain ⟨x2, w2⟩ := op_IntS (hval 2 28 v2 rfl rfl) h2 (fun x hx => hlt x (by simp [hx]))
  exact walk_FnExactFlatStep v0 x0 v1 x1 v2 x2 W w0 w1 w2
theorem facts_FnExactFlatStep : joinedFacts Try.pinned.checked.prog 3 Try.f3 Rows.fnExactFlatStepSpec Rows.fnExactFlatStepRow = true :=
 facts_of (P := Try.prog) mayE liftE makeE rfl rfl (by kernel_rfl) (by kernel_rfl) (by kernel_rfl) (by kernel_rfl) (by kernel_rfl) (by kernel_rfl) (by kernel_rfl) (by kernel_rfl) (by kernel_rfl) (by kernel_rfl) (by kernel_rfl) (by kernel_rfl) (by kernel_rfl) rfl rfl (by kernel_rfl) (by kernel_rfl) (by kernel_rfl) (by kernel_rfl) (by kernel_rfl) (by kernel_rfl) (by kernel_rfl) (by kernel_rfl) (by kernel_rfl) (by kernel_rfl) (by kernel_rfl) rfl rfl (by kernel_rfl) (by kernel_rfl) (by kernel_rfl)
theorem over_FnExactFlatStep : Rows.fnExactFlatStepRow.holds Try.pinned (OpenSpec.ofChange Rows.fnExactFlatStepSpec) :=
 OpenClaim.holds_of_wide 3 Try.f3 rfl rfl rfl rfl rfl rfl rfl ⟨rfl, rfl, rfl, rfl, rfl⟩ rfl rfl rfl rfl rfl (by kernel_rfl) Try.func3 facts_FnExactFlatStep
  (of_decide_eq_true (by kernel_rfl)) (by unfold Func.isWrapper; first | (rw [if_pos (by decide +kernel)]; kernel_rfl) | (rw [if_neg (by decide +kernel)]; exact ⟨rfl, rfl⟩))
  (fun os started H enc _ => lifted_FnExactFlatStep os started H enc)
theorem FnExactFlatStep_holds : Rows.FnExactFlatStepSaid := over_FnExactFlatStep
end Go.Proofs.Ytlkjdhjeecogjaa

/- Contracts: the first state of a flat module: the program's and the reference's functions. -/
import Derived.Test.YtjkdgedgfkgjdaaFst
import Derived.Outline
namespace Go.Proofs.Ytjkdgedgfkgjdaa
open Go.RowKit

theorem startS_sz (m : TModule) : sWordState (startS m) ≤ 1048576 := by
 unfold startS sWordState
 split
 ·rename_i h
  have h1 := okE_na (flat_ok h).1
  rw [szI, szI]
  simp only [startN, nI_len, startV, List.length_map, List.length_replicate]
  omega
 ·decide
theorem q_zero (w : World) (S : Nat → Prop) : QWordState w S (.agg #[.slice none 0 0, .slice none 0 0]) ([], []) :=
 ⟨_, _, fun _ _ => False, rfl, fun _ _ h => h.elim, fun _ _ _ h => h.elim, sep_nil _ _, sep_nil _ _⟩
set_option maxRecDepth 100000 in
set_option maxHeartbeats 8000000 in
theorem s_FlatStart {w : World} {S : Nat → Prop} {v : Value} {m : TModule} (hz : sModule m ≤ 1048576) (h : RModule w S v m) (hS : ∀ b, S b → b < w.heap.size) :
  Calls Try.prog 90 #[v] w fun e w' => ∃ v', e = .returned v' ∧ QWordState w' (New w w') v' (startS m) ∧ Below w.heap.size w w' := by
 obtain ⟨i0, hi, hz0, hz1, hz2⟩ := info_parts Try.infoIntC
 obtain ⟨A0, c0, A1, c1, A2, c2, A3, c3, rfl, hSg, hAs, -, hMe, hm0, hm1, hm2, hm3⟩ := mod_open h
 obtain ⟨ns, hns⟩ : ∃ ns, m.1.length = ns := ⟨_, rfl⟩
 obtain ⟨na, hna⟩ : ∃ na, m.2.1.length = na := ⟨_, rfl⟩
 obtain ⟨ni, hni⟩ : ∃ ni, m.2.2.1.length = ni := ⟨_, rfl⟩
 obtain ⟨nm, hnm⟩ : ∃ nm, m.2.2.2.length = nm := ⟨_, rfl⟩
 rw [hns, hna, hni, hnm] at h ⊢
 rw [hns] at hSg hm0
 rw [hna] at hAs hm1
 rw [hni] at hm2
 rw [hnm] at hMe hm3
 unfold maxLen at hm0 hm1 hm2 hm3
 have Hn := Lib.hid (And.intro hns (And.intro hna (And.intro hni hnm)))
 have H := Lib.hid h
 have HSg := Lib.hid hSg
 have HAs := Lib.hid hAs
 have HMe := Lib.hid hMe
 have HB0 := Lib.hid ((Below.refl w.heap.size w).alloc (Nat.le_refl _) (.cells #[.slice A0 ns c0, .slice A1 na c1, .slice A2 ni c2, .slice A3 nm c3] 41))
 have HX0 := Lib.hid (Blk.new w 41 #[.slice A0 ns c0, .slice A1 na c1, .slice A2 ni c2, .slice A3 nm c3])
 clear hns hna hnm hni h hSg hAs hMe
 obtain ⟨W0, hW0⟩ : ∃ W0, W0 = (w.alloc (.cells #[.slice A0 ns c0, .slice A1 na c1, .slice A2 ni c2, .slice A3 nm c3] 41)).alloc (.cells #[.slice none 0 0, .slice none 0 0] 33) := ⟨_, rfl⟩
 have hz0' : W0.heap.size = w.heap.size + 1 + 1 := by rw [hW0]; simp
 have HBW0 := Lib.hid (show Below w.heap.size w W0 by rw [hW0]; exact HB0.out.alloc (by simp) _)
 have HXM0 := Lib.hid (show Blk W0 w.heap.size 41 #[.slice A0 ns c0, .slice A1 na c1, .slice A2 ni c2, .slice A3 nm c3] by rw [hW0]; exact HX0.out.alloc _)
 have HXR0 := Lib.hid (show Blk W0 (w.heap.size + 1) 33 #[.slice none 0 0, .slice none 0 0] by rw [hW0]; exact blk_new_at (by simp))
 have HW0 := Lib.hid hW0
 have HZ0 := Lib.hid hz0'
 clear hW0 hz0'
 go_enter Try.func90, Try.ntmps90
 go_wp2_with fail
 rw [← HW0.out]
 refine (s_FlatOk hz (RModule.under H.out hS HBW0.out) (fun b hb => by have := hS b hb; have := HZ0.out; omega)).mono ?_
 rintro e w1 ⟨rfl, hb1⟩
 have HB1 := Lib.hid (HBW0.out.trans (hb1.mono (by have := HZ0.out; omega)))
 have HX1 := Lib.hid (HXM0.out.below hb1 HXM0.out.lt)
 have HR1 := Lib.hid (HXR0.out.below hb1 HXR0.out.lt)
 have z1 := hb1.size
 clear hb1
 cases hfl : flatB m with
 | false =>
  have Hfl := Lib.hid hfl
  clear hfl
  obtain ⟨r0, r1⟩ := blkS2 HR1.out
  have f0 := HR1.out.frozen 0
  have f1 := HR1.out.frozen 1
  go_wp2_with fail
  obtain ⟨wf, hwf⟩ : ∃ wf, wf = ((w1.setCell ⟨w.heap.size + 1, 0, none⟩ (.slice none 0 0)).setCell ⟨w.heap.size + 1, 1, none⟩ (.slice none 0 0)) := ⟨_, rfl⟩
  have hRf : Blk wf (w.heap.size + 1) 33 #[.slice none 0 0, .slice none 0 0] := by rw [hwf]; exact blk_two HR1.out
  have hBf : Below w.heap.size w wf := by rw [hwf]; exact (HB1.out.setCell (by simp) _).setCell (by simp) _
  obtain ⟨s0, s1⟩ := blkS2 hRf
  rw [← hwf]
  refine bodyPost_ret (v := .agg #[.slice none 0 0, .slice none 0 0]) (by simp [results, Try.results90, go_sem, s0, s1]) rfl ⟨_, rfl, ?_, hBf⟩
  unfold startS
  rw [Hfl.out]
  exact q_zero _ _
 | true =>
  have Hfl := Lib.hid hfl
  have hf := hfl
  have hok := (flat_ok hf).1
  obtain ⟨hn30, hna30, hnm2⟩ := okE_na hok
  rw [Hn.out.1] at hn30
  rw [Hn.out.2.2.2] at hnm2
  clear hfl
  have hcs : (Value.int .i64 0).cells = #[.int .i64 0] := rfl
  have hmk1 := fun W => run_make_rowN (P := Try.prog) 28 3 i0 (.int .i64 0) Try.underlying28 hi hz0 .i64 .i64 ns ns (Nat.le_refl _) (by rw [hz2]; omega) (by omega) W
  have hmk2 := fun W => run_make_rowN (P := Try.prog) 28 3 i0 (.int .i64 0) Try.underlying28 hi hz0 .i64 .i64 (4 * nm) (4 * nm) (Nat.le_refl _) (by rw [hz2]; omega) (by omega) W
  simp only [hz1, hcs, Nat.mul_one] at hmk1 hmk2
  rw [show ((4 * nm : Nat) : Int) = 4 * (nm : Int) by push_cast; rfl] at hmk2
  clear hcs
  have Z1 := Lib.hid z1
  clear z1
  go_wp2_with fail
  go_cut [3] from 9 (fun pv wc => ∃ gb g1 g2 : Nat, pv = .pointer (some ⟨gb, 0, none⟩) ∧ StartI w1 wc ns nm gb g1 g2)
  case first =>
   refine wp_region_tree (.node 3 8 (.node 3 10 (.node 8 10 (.leaf [0, 1, 2, 3, 4, 5, 6, 7, 8, 10, 9, 11]) (.leaf [0, 1, 2, 3, 10, 4, 5, 6, 7, 8, 9, 11])) (.leaf [10, 0, 1, 2, 3, 4, 5, 6, 7, 8, 9, 11])) (.node 3 10 (.leaf [4, 5, 6, 7, 8, 0, 1, 2, 3, 10, 9, 11]) (.node 8 10 (.leaf [4, 5, 6, 7, 8, 10, 0, 1, 2, 3, 9, 11]) (.leaf [10, 4, 5, 6, 7, 8, 0, 1, 2, 3, 9, 11])))) (by kernel_rfl) (by kernel_rfl) (fun x => Below w1.heap.size w1 x) ((Below.refl _ _).drew) (fun lexNE => ?_)
   simp only [OrdT.orders, List.cons_append, List.nil_append, AllL, ordOps, List.filterMap_cons, List.filterMap_nil, List.getElem?_cons_zero, List.getElem?_cons_succ, and_true]
   refine ⟨?_, ?_, ?_, ?_, ?_, ?_⟩
   all_goals obtain ⟨cm0, cm1, cm2, cm3⟩ := bwS4 HX1.out HX1.out.lt
   ·(repeat (first | (refine lex_r fun K hK => ?_; go_big_quiet_op; refine hK _ ?_; clear hK K) | (refine lex_k fun K hK => ?_; go_simp; refine hK _ ?_; clear hK K)))
    (refine lex_e fun K hK => ?_; go_big_op)
    (refine hK _ _ (Cls.mk' bel_) ?_; clear hK K)
    (repeat (first | (refine lex_r fun K hK => ?_; go_big_quiet_op; refine hK _ ?_; clear hK K) | (refine lex_k fun K hK => ?_; go_simp; refine hK _ ?_; clear hK K)))
    (refine lex_e fun K hK => ?_; go_big_op)
    (refine hK _ _ (Cls.mk' bel_) ?_; clear hK K)
    (repeat (first | (refine lex_r fun K hK => ?_; go_big_quiet_op; refine hK _ ?_; clear hK K) | (refine lex_k fun K hK => ?_; go_simp; refine hK _ ?_; clear hK K)))
    (refine lex_e fun K hK => ?_; go_big_op)
    (refine hK _ _ (Cls.mk' bel_) ?_; clear hK K)
    (repeat (first | (refine lex_r fun K hK => ?_; go_big_quiet_op; refine hK _ ?_; clear hK K) | (refine lex_k fun K hK => ?_; go_simp; refine hK _ ?_; clear hK K)))
    (refine lex_e fun K hK => ?_; go_big_op)
    (refine hK _ _ (Cls.mk' bel_) ?_; clear hK K)
    (refine lex_nil ?_)
    clear lexNE cm0 cm1 cm2 cm3
    refine ⟨Cls.mk' bel_, ?_⟩
    go_wp2_with fail
    go_meet
    case rel =>
     refine ⟨w1.heap.size + 1 + 1, w1.heap.size, w1.heap.size + 1, rfl, ?_, ?_, ?_, by omega, by omega, bel_⟩
     ·exact own_zeros (by unfold maxLen; omega) blk_
     ·exact own_zeros (by unfold maxLen; omega) blk_
     ·first
      | exact blk_
      | exact blk_two blk_
   ·(repeat (first | (refine lex_r fun K hK => ?_; go_big_quiet_op; refine hK _ ?_; clear hK K) | (refine lex_k fun K hK => ?_; go_simp; refine hK _ ?_; clear hK K)))
    (refine lex_e fun K hK => ?_; go_big_op)
    (refine hK _ _ (Cls.mk' bel_) ?_; clear hK K)
    (repeat (first | (refine lex_r fun K hK => ?_; go_big_quiet_op; refine hK _ ?_; clear hK K) | (refine lex_k fun K hK => ?_; go_simp; refine hK _ ?_; clear hK K)))
    (refine lex_e fun K hK => ?_; go_big_op)
    (refine hK _ _ (Cls.mk' bel_) ?_; clear hK K)
    (repeat (first | (refine lex_r fun K hK => ?_; go_big_quiet_op; refine hK _ ?_; clear hK K) | (refine lex_k fun K hK => ?_; go_simp; refine hK _ ?_; clear hK K)))
    (refine lex_e fun K hK => ?_; go_big_op)
    (refine hK _ _ (Cls.mk' bel_) ?_; clear hK K)
    (repeat (first | (refine lex_r fun K hK => ?_; go_big_quiet_op; refine hK _ ?_; clear hK K) | (refine lex_k fun K hK => ?_; go_simp; refine hK _ ?_; clear hK K)))
    (refine lex_e fun K hK => ?_; go_big_op)
    (refine hK _ _ (Cls.mk' bel_) ?_; clear hK K)
    (refine lex_nil ?_)
    clear lexNE cm0 cm1 cm2 cm3
    refine ⟨Cls.mk' bel_, ?_⟩
    go_wp2_with fail
    go_meet
    case rel =>
     refine ⟨w1.heap.size + 1, w1.heap.size, w1.heap.size + 1 + 1, rfl, ?_, ?_, ?_, by omega, by omega, bel_⟩
     ·exact own_zeros (by unfold maxLen; omega) blk_
     ·exact own_zeros (by unfold maxLen; omega) blk_
     ·first
      | exact blk_
      | exact blk_two blk_
   ·(repeat (first | (refine lex_r fun K hK => ?_; go_big_quiet_op; refine hK _ ?_; clear hK K) | (refine lex_k fun K hK => ?_; go_simp; refine hK _ ?_; clear hK K)))
    (refine lex_e fun K hK => ?_; go_big_op)
    (refine hK _ _ (Cls.mk' bel_) ?_; clear hK K)
    (repeat (first | (refine lex_r fun K hK => ?_; go_big_quiet_op; refine hK _ ?_; clear hK K) | (refine lex_k fun K hK => ?_; go_simp; refine hK _ ?_; clear hK K)))
    (refine lex_e fun K hK => ?_; go_big_op)
    (refine hK _ _ (Cls.mk' bel_) ?_; clear hK K)
    (repeat (first | (refine lex_r fun K hK => ?_; go_big_quiet_op; refine hK _ ?_; clear hK K) | (refine lex_k fun K hK => ?_; go_simp; refine hK _ ?_; clear hK K)))
    (refine lex_e fun K hK => ?_; go_big_op)
    (refine hK _ _ (Cls.mk' bel_) ?_; clear hK K)
    (repeat (first | (refine lex_r fun K hK => ?_; go_big_quiet_op; refine hK _ ?_; clear hK K) | (refine lex_k fun K hK => ?_; go_simp; refine hK _ ?_; clear hK K)))
    (refine lex_e fun K hK => ?_; go_big_op)
    (refine hK _ _ (Cls.mk' bel_) ?_; clear hK K)
    (refine lex_nil ?_)
    clear lexNE cm0 cm1 cm2 cm3
    refine ⟨Cls.mk' bel_, ?_⟩
    go_wp2_with fail
    go_meet
    case rel =>
     refine ⟨w1.heap.size, w1.heap.size + 1, w1.heap.size + 1 + 1, rfl, ?_, ?_, ?_, by omega, by omega, bel_⟩
     ·exact own_zeros (by unfold maxLen; omega) blk_
     ·exact own_zeros (by unfold maxLen; omega) blk_
     ·first
      | exact blk_
      | exact blk_two blk_
   ·(repeat (first | (refine lex_r fun K hK => ?_; go_big_quiet_op; refine hK _ ?_; clear hK K) | (refine lex_k fun K hK => ?_; go_simp; refine hK _ ?_; clear hK K)))
    (refine lex_e fun K hK => ?_; go_big_op)
    (refine hK _ _ (Cls.mk' bel_) ?_; clear hK K)
    (repeat (first | (refine lex_r fun K hK => ?_; go_big_quiet_op; refine hK _ ?_; clear hK K) | (refine lex_k fun K hK => ?_; go_simp; refine hK _ ?_; clear hK K)))
    (refine lex_e fun K hK => ?_; go_big_op)
    (refine hK _ _ (Cls.mk' bel_) ?_; clear hK K)
    (repeat (first | (refine lex_r fun K hK => ?_; go_big_quiet_op; refine hK _ ?_; clear hK K) | (refine lex_k fun K hK => ?_; go_simp; refine hK _ ?_; clear hK K)))
    (refine lex_e fun K hK => ?_; go_big_op)
    (refine hK _ _ (Cls.mk' bel_) ?_; clear hK K)
    (repeat (first | (refine lex_r fun K hK => ?_; go_big_quiet_op; refine hK _ ?_; clear hK K) | (refine lex_k fun K hK => ?_; go_simp; refine hK _ ?_; clear hK K)))
    (refine lex_e fun K hK => ?_; go_big_op)
    (refine hK _ _ (Cls.mk' bel_) ?_; clear hK K)
    (refine lex_nil ?_)
    clear lexNE cm0 cm1 cm2 cm3
    refine ⟨Cls.mk' bel_, ?_⟩
    go_wp2_with fail
    go_meet
    case rel =>
     refine ⟨w1.heap.size + 1 + 1, w1.heap.size + 1, w1.heap.size, rfl, ?_, ?_, ?_, by omega, by omega, bel_⟩
     ·exact own_zeros (by unfold maxLen; omega) blk_
     ·exact own_zeros (by unfold maxLen; omega) blk_
     ·first
      | exact blk_
      | exact blk_two blk_
   ·(repeat (first | (refine lex_r fun K hK => ?_; go_big_quiet_op; refine hK _ ?_; clear hK K) | (refine lex_k fun K hK => ?_; go_simp; refine hK _ ?_; clear hK K)))
    (refine lex_e fun K hK => ?_; go_big_op)
    (refine hK _ _ (Cls.mk' bel_) ?_; clear hK K)
    (repeat (first | (refine lex_r fun K hK => ?_; go_big_quiet_op; refine hK _ ?_; clear hK K) | (refine lex_k fun K hK => ?_; go_simp; refine hK _ ?_; clear hK K)))
    (refine lex_e fun K hK => ?_; go_big_op)
    (refine hK _ _ (Cls.mk' bel_) ?_; clear hK K)
    (repeat (first | (refine lex_r fun K hK => ?_; go_big_quiet_op; refine hK _ ?_; clear hK K) | (refine lex_k fun K hK => ?_; go_simp; refine hK _ ?_; clear hK K)))
    (refine lex_e fun K hK => ?_; go_big_op)
    (refine hK _ _ (Cls.mk' bel_) ?_; clear hK K)
    (repeat (first | (refine lex_r fun K hK => ?_; go_big_quiet_op; refine hK _ ?_; clear hK K) | (refine lex_k fun K hK => ?_; go_simp; refine hK _ ?_; clear hK K)))
    (refine lex_e fun K hK => ?_; go_big_op)
    (refine hK _ _ (Cls.mk' bel_) ?_; clear hK K)
    (refine lex_nil ?_)
    clear lexNE cm0 cm1 cm2 cm3
    refine ⟨Cls.mk' bel_, ?_⟩
    go_wp2_with fail
    go_meet
    case rel =>
     refine ⟨w1.heap.size + 1, w1.heap.size + 1 + 1, w1.heap.size, rfl, ?_, ?_, ?_, by omega, by omega, bel_⟩
     ·exact own_zeros (by unfold maxLen; omega) blk_
     ·exact own_zeros (by unfold maxLen; omega) blk_
     ·first
      | exact blk_
      | exact blk_two blk_
   ·(repeat (first | (refine lex_r fun K hK => ?_; go_big_quiet_op; refine hK _ ?_; clear hK K) | (refine lex_k fun K hK => ?_; go_simp; refine hK _ ?_; clear hK K)))
    (refine lex_e fun K hK => ?_; go_big_op)
    (refine hK _ _ (Cls.mk' bel_) ?_; clear hK K)
    (repeat (first | (refine lex_r fun K hK => ?_; go_big_quiet_op; refine hK _ ?_; clear hK K) | (refine lex_k fun K hK => ?_; go_simp; refine hK _ ?_; clear hK K)))
    (refine lex_e fun K hK => ?_; go_big_op)
    (refine hK _ _ (Cls.mk' bel_) ?_; clear hK K)
    (repeat (first | (refine lex_r fun K hK => ?_; go_big_quiet_op; refine hK _ ?_; clear hK K) | (refine lex_k fun K hK => ?_; go_simp; refine hK _ ?_; clear hK K)))
    (refine lex_e fun K hK => ?_; go_big_op)
    (refine hK _ _ (Cls.mk' bel_) ?_; clear hK K)
    (repeat (first | (refine lex_r fun K hK => ?_; go_big_quiet_op; refine hK _ ?_; clear hK K) | (refine lex_k fun K hK => ?_; go_simp; refine hK _ ?_; clear hK K)))
    (refine lex_e fun K hK => ?_; go_big_op)
    (refine hK _ _ (Cls.mk' bel_) ?_; clear hK K)
    (refine lex_nil ?_)
    clear lexNE cm0 cm1 cm2 cm3
    refine ⟨Cls.mk' bel_, ?_⟩
    go_wp2_with fail
    go_meet
    case rel =>
     refine ⟨w1.heap.size, w1.heap.size + 1 + 1, w1.heap.size + 1, rfl, ?_, ?_, ?_, by omega, by omega, bel_⟩
     ·exact own_zeros (by unfold maxLen; omega) blk_
     ·exact own_zeros (by unfold maxLen; omega) blk_
     ·first
      | exact blk_
      | exact blk_two blk_
  case rest =>
   obtain ⟨gb, g1, g2, rfl, ho1, ho2, hbk, ⟨hd1, hd2, hd3⟩, ⟨hl1, hl2, hl3⟩, hbc⟩ := hcut
   have z1 := Z1.out
   have HX0' := Lib.hid (HX1.out.below hbc HX1.out.lt)
   have HR0' := Lib.hid (HR1.out.below hbc HR1.out.lt)
   have HO2 := Lib.hid ho2
   have HBc := Lib.hid hbc
   have hsc := hbc.size
   clear hbc ho2
   go_wp2_with fail
   go_loopw [4] (fun iv wr => ∃ k : Nat, k ≤ ns ∧ iv = .int .i64 k ∧ wr.ownsRow 0 3 1 (.slice (some ⟨g1, 0, none⟩) ns ns) ns (ints (nI (startK m k))) ∧ Only (fun b => b = g1) wc wr) (fun iv _ => ns - (intOf iv).toNat)
   case atStart => exact ⟨0, Nat.zero_le _, rfl, by rw [startK_zero, Hn.out.1]; exact ho1, Only.refl _ _⟩
   case round =>
    obtain ⟨k, hk, rfl, hown, ho⟩ := hrel
    have Ho := Lib.hid ho
    have Hown := Lib.hid hown
    have hsz := ho.size
    have Hbr := Lib.hid (HBc.out.trans (ho.below (B := w1.heap.size) (by omega) (fun b hb => by omega)))
    have Hbw := Lib.hid (HB1.out.trans (Hbr.out.mono (by have := HZ0.out; omega)))
    have HXr := Lib.hid (Only.blk ho HX0'.out (by have := HZ0.out; omega))
    have HRr := Lib.hid (Only.blk ho HR0'.out (by have := HZ0.out; omega))
    have HBr := Lib.hid (Only.blk ho hbk (by omega))
    obtain ⟨y0, y1, y2, y3⟩ := blkS4 HXr.out
    have g1' : (0 : Int) ≤ (k : Int) := by omega
    clear ho hown
    by_cases hlt : k < ns
    ·obtain ⟨ad, x0, x1, x2, rfl, hab, hx, e0, e1, e2⟩ := fSignalS_row (HSg.out.under hS Hbw.out) hlt
     have g2' : (k : Int) < (ns : Int) := by omega
     have hw4 := flat_wid hf hx
     have hsg := okE_sig hok hx
     simp only at hw4 hsg
     obtain ⟨x2n, rfl⟩ := Int.eq_ofNat_of_zero_le hsg.2.2.1.1
     have hx15 := hsg.2.2.1.2
     have Hs := Lib.hid (startK_set hx)
     have Hiv := Lib.hid (show iniV (x0, x1, (x2n : Int)) = x2n &&& mskN x1 by
      unfold iniV
      split
      ·simp
      ·rename_i h3
       have := hsg.2.2.2 h3
       have : x2n = 0 := by omega
       rw [this]; simp)
     have hbs : ad.block < wr.heap.size := by have := hS _ hab; have := Hbw.out.size; omega
     obtain ⟨zo, hzo, hc⟩ := own_nat_at Hown.out hlt
     have hfz := Hown.out.frozenAt k
     clear hx hsg hzo
     go_wp2_with fail
     clear y0 y1 y2 y3
     rcases mski_cases hw4 with ⟨rfl, hM⟩ | ⟨rfl, hM⟩ | ⟨rfl, hM⟩ | ⟨rfl, hM⟩
     ·have hb : bits .and .i64 (x2n : Int) 1 = ((x2n &&& mskN 1 : Nat) : Int) := by rw [← hM]; exact and_i64 x2n _ (by omega) (by decide)
      refine wp_region_lexC (by kernel_rfl) (by kernel_rfl) (fun x => Below wr.heap.size wr x) ((Below.refl _ _).drew) (fun lexNE => ?_)
      obtain ⟨cm0, cm1, cm2, cm3⟩ := bwS4 HXr.out HXr.out.lt
      obtain ⟨cb0, cb1⟩ := bwS2 HBr.out HBr.out.lt
      have cw := wcell (B := wr.heap.size) e1 (by rw [nxt_block]; omega)
      have ci := wcell (B := wr.heap.size) e2 (by rw [nxt_block]; omega)
      (repeat (first | (refine lex_r fun K hK => ?_; go_big_quiet_op; refine hK _ ?_; clear hK K) | (refine lex_k fun K hK => ?_; go_simp; refine hK _ ?_; clear hK K)))
      (refine lex_l fun K hK => ?_; go_big_op)
      (refine hK _ _ ?_; clear hK K)
      clear lexNE cm0 cm1 cm2 cm3 cb0 cb1 cw ci
      go_wp2_with fail
      go_roundw
      case rel =>
       refine ⟨k + 1, by omega, by go_num, ?_, ?_⟩
       ·rw [← Hs.out, Hiv.out]
        have h1 := Hown.out.stored k (.int .i64 ((x2n &&& mskN 1 : Nat) : Int))
        rw [show ints (nI ((startK m k).set k (x2n &&& mskN 1))) = (ints (nI (startK m k))).set k (.int .i64 ((x2n &&& mskN 1 : Nat) : Int)) by rw [nI_lit, nI_lit, List.map_set]]
        exact own_drew h1.1
       ·exact (Ho.out.setCell (p := ⟨g1, k, none⟩) (.inl rfl) _).drew
      case measure => simp [intOf]; omega
     ·have hb : bits .and .i64 (x2n : Int) 3 = ((x2n &&& mskN 2 : Nat) : Int) := by rw [← hM]; exact and_i64 x2n _ (by omega) (by decide)
      refine wp_region_lexC (by kernel_rfl) (by kernel_rfl) (fun x => Below wr.heap.size wr x) ((Below.refl _ _).drew) (fun lexNE => ?_)
      obtain ⟨cm0, cm1, cm2, cm3⟩ := bwS4 HXr.out HXr.out.lt
      obtain ⟨cb0, cb1⟩ := bwS2 HBr.out HBr.out.lt
      have cw := wcell (B := wr.heap.size) e1 (by rw [nxt_block]; omega)
      have ci := wcell (B := wr.heap.size) e2 (by rw [nxt_block]; omega)
      (repeat (first | (refine lex_r fun K hK => ?_; go_big_quiet_op; refine hK _ ?_; clear hK K) | (refine lex_k fun K hK => ?_; go_simp; refine hK _ ?_; clear hK K)))
      (refine lex_l fun K hK => ?_; go_big_op)
      (refine hK _ _ ?_; clear hK K)
      clear lexNE cm0 cm1 cm2 cm3 cb0 cb1 cw ci
      go_wp2_with fail
      go_roundw
      case rel =>
       refine ⟨k + 1, by omega, by go_num, ?_, ?_⟩
       ·rw [← Hs.out, Hiv.out]
        have h1 := Hown.out.stored k (.int .i64 ((x2n &&& mskN 2 : Nat) : Int))
        rw [show ints (nI ((startK m k).set k (x2n &&& mskN 2))) = (ints (nI (startK m k))).set k (.int .i64 ((x2n &&& mskN 2 : Nat) : Int)) by rw [nI_lit, nI_lit, List.map_set]]
        exact own_drew h1.1
       ·exact (Ho.out.setCell (p := ⟨g1, k, none⟩) (.inl rfl) _).drew
      case measure => simp [intOf]; omega
     ·have hb : bits .and .i64 (x2n : Int) 7 = ((x2n &&& mskN 3 : Nat) : Int) := by rw [← hM]; exact and_i64 x2n _ (by omega) (by decide)
      refine wp_region_lexC (by kernel_rfl) (by kernel_rfl) (fun x => Below wr.heap.size wr x) ((Below.refl _ _).drew) (fun lexNE => ?_)
      obtain ⟨cm0, cm1, cm2, cm3⟩ := bwS4 HXr.out HXr.out.lt
      obtain ⟨cb0, cb1⟩ := bwS2 HBr.out HBr.out.lt
      have cw := wcell (B := wr.heap.size) e1 (by rw [nxt_block]; omega)
      have ci := wcell (B := wr.heap.size) e2 (by rw [nxt_block]; omega)
      (repeat (first | (refine lex_r fun K hK => ?_; go_big_quiet_op; refine hK _ ?_; clear hK K) | (refine lex_k fun K hK => ?_; go_simp; refine hK _ ?_; clear hK K)))
      (refine lex_l fun K hK => ?_; go_big_op)
      (refine hK _ _ ?_; clear hK K)
      clear lexNE cm0 cm1 cm2 cm3 cb0 cb1 cw ci
      go_wp2_with fail
      go_roundw
      case rel =>
       refine ⟨k + 1, by omega, by go_num, ?_, ?_⟩
       ·rw [← Hs.out, Hiv.out]
        have h1 := Hown.out.stored k (.int .i64 ((x2n &&& mskN 3 : Nat) : Int))
        rw [show ints (nI ((startK m k).set k (x2n &&& mskN 3))) = (ints (nI (startK m k))).set k (.int .i64 ((x2n &&& mskN 3 : Nat) : Int)) by rw [nI_lit, nI_lit, List.map_set]]
        exact own_drew h1.1
       ·exact (Ho.out.setCell (p := ⟨g1, k, none⟩) (.inl rfl) _).drew
      case measure => simp [intOf]; omega
     ·have hb : bits .and .i64 (x2n : Int) 15 = ((x2n &&& mskN 4 : Nat) : Int) := by rw [← hM]; exact and_i64 x2n _ (by omega) (by decide)
      refine wp_region_lexC (by kernel_rfl) (by kernel_rfl) (fun x => Below wr.heap.size wr x) ((Below.refl _ _).drew) (fun lexNE => ?_)
      obtain ⟨cm0, cm1, cm2, cm3⟩ := bwS4 HXr.out HXr.out.lt
      obtain ⟨cb0, cb1⟩ := bwS2 HBr.out HBr.out.lt
      have cw := wcell (B := wr.heap.size) e1 (by rw [nxt_block]; omega)
      have ci := wcell (B := wr.heap.size) e2 (by rw [nxt_block]; omega)
      (repeat (first | (refine lex_r fun K hK => ?_; go_big_quiet_op; refine hK _ ?_; clear hK K) | (refine lex_k fun K hK => ?_; go_simp; refine hK _ ?_; clear hK K)))
      (refine lex_l fun K hK => ?_; go_big_op)
      (refine hK _ _ ?_; clear hK K)
      clear lexNE cm0 cm1 cm2 cm3 cb0 cb1 cw ci
      go_wp2_with fail
      go_roundw
      case rel =>
       refine ⟨k + 1, by omega, by go_num, ?_, ?_⟩
       ·rw [← Hs.out, Hiv.out]
        have h1 := Hown.out.stored k (.int .i64 ((x2n &&& mskN 4 : Nat) : Int))
        rw [show ints (nI ((startK m k).set k (x2n &&& mskN 4))) = (ints (nI (startK m k))).set k (.int .i64 ((x2n &&& mskN 4 : Nat) : Int)) by rw [nI_lit, nI_lit, List.map_set]]
        exact own_drew h1.1
       ·exact (Ho.out.setCell (p := ⟨g1, k, none⟩) (.inl rfl) _).drew
      case measure => simp [intOf]; omega
    ·have hge : (ns : Int) ≤ (k : Int) := by omega
     have hkn : k = ns := by omega
     have HE := Lib.hid (show wr.ownsRow 0 3 1 (.slice (some ⟨g1, 0, none⟩) ns ns) ns (ints (nI (startV m))) by have h1 := Hown.out; rw [hkn, ← Hn.out.1, startK_end, Hn.out.1] at h1; exact h1)
     have HO2r := Lib.hid (own_keep HO2.out (fun g hg => Ho.out.block g (by exact (HO2.out.lt g hg).2) (fun hc => by have hg : g2 = g := (by injection hg); have hc : g = g1 := hc; omega)))
     obtain ⟨r0, r1⟩ := blkS2 HRr.out
     obtain ⟨z0, z1⟩ := blkS2 HBr.out
     have f0 := HRr.out.frozen 0
     have f1 := HRr.out.frozen 1
     have HST := Lib.hid (show startS m = startN m by unfold startS; rw [Hfl.out]; rfl)
     clear hkn
     go_wp2_with fail
     rw [HST.out]
     obtain ⟨wf, hwf⟩ : ∃ wf, wf = ((wr.setCell ⟨w.heap.size + 1, 0, none⟩ (.slice (some ⟨g1, 0, none⟩) ns ns)).setCell ⟨w.heap.size + 1, 1, none⟩ (.slice (some ⟨g2, 0, none⟩) (4 * nm) (4 * nm))) := ⟨_, rfl⟩
     have hne1 : g1 ≠ w.heap.size + 1 := by have := HZ0.out; omega
     have hne2 : g2 ≠ w.heap.size + 1 := by have := HZ0.out; omega
     have hRf : Blk wf (w.heap.size + 1) 33 #[.slice (some ⟨g1, 0, none⟩) ns ns, .slice (some ⟨g2, 0, none⟩) (4 * nm) (4 * nm)] := by rw [hwf]; exact blk_two HRr.out
     have hk2 : ∀ b, b ≠ w.heap.size + 1 → wf.heap[b]? = wr.heap[b]? := fun b hb => by
      rw [hwf]
      exact (Below.heap_setCell _ ⟨w.heap.size + 1, 1, none⟩ _ b hb).trans (Below.heap_setCell _ ⟨w.heap.size + 1, 0, none⟩ _ b hb)
     have hO1 := own_keep HE.out (w' := wf) (fun g hg => hk2 g (by have hg : g1 = g := (by injection hg); omega))
     have hO2 := own_keep HO2r.out (w' := wf) (fun g hg => hk2 g (by have hg : g2 = g := (by injection hg); omega))
     have hsf : wr.heap.size ≤ wf.heap.size := by rw [hwf]; simp
     have hBf : Below w.heap.size w wf := by rw [hwf]; exact (Hbw.out.setCell (by simp) _).setCell (by simp) _
     have l1 := (HE.out.lt g1 rfl).2
     have l2 := (HO2r.out.lt g2 rfl).2
     obtain ⟨s0, s1⟩ := blkS2 hRf
     rw [← hwf]
     refine bodyPost_ret (v := .agg #[.slice (some ⟨g1, 0, none⟩) ns ns, .slice (some ⟨g2, 0, none⟩) (4 * nm) (4 * nm)]) (by simp [results, Try.results90, go_sem, s0, s1]) rfl ⟨_, rfl, ⟨_, _, fun j b => (j = 0 ∧ b = g1) ∨ (j = 1 ∧ b = g2), rfl, ?_, ?_, ?_, ?_⟩, hBf⟩
     ·rintro j b (⟨_, rfl⟩ | ⟨_, rfl⟩)
      ·exact ⟨by have := HZ0.out; omega, by omega⟩
      ·exact ⟨by have := HZ0.out; omega, by omega⟩
     ·rintro i j b (⟨rfl, rfl⟩ | ⟨rfl, rfl⟩) (⟨rfl, h2⟩ | ⟨rfl, h2⟩)
      ·rfl
      ·exact absurd h2 hd1
      ·exact absurd h2.symm hd1
      ·rfl
     ·exact sep_ints (by unfold maxLen; omega) hO1 (fun g hg => .inl ⟨rfl, by have hg : g1 = g := (by injection hg); exact hg.symm⟩)
     ·rw [show (startN m).2 = List.replicate (4 * nm) 0 by unfold startN; rw [Hn.out.2.2.2]]
      exact sep_ints (by unfold maxLen; omega) hO2 (fun g hg => .inr ⟨rfl, by have hg : g2 = g := (by injection hg); exact hg.symm⟩)
end Go.Proofs.Ytjkdgedgfkgjdaa

/- Contracts: the copy of a module: the reference's function. -/
import Derived.Test.YtlkjdhjeecogjaaCpyA
import Derived.Test.YtlkjdhjeecogjaaOrd
import Derived.Test.YtlkjdhjeecogjaaGa
import Derived.Deep.Cut
import Derived.Outline
namespace Go.Proofs.Ytlkjdhjeecogjaa
open Go.RowKit

theorem s_l06CopyOps {w : World} {S : Nat → Prop} {A : Option Addr} {n c : Nat} {os : List TOp} (h : Rep w S (.slice A n c) (fOpS os)) (hS : ∀ b, S b → b < w.heap.size) (hn : n ≤ 1048576) :
  Calls Try.prog 133 #[.slice A n c] w fun e w' => ∃ g c' : Nat, e = .returned (.slice (some ⟨g, 0, none⟩) n c') ∧ w'.ownsRow w.heap.size 74 3 (.slice (some ⟨g, 0, none⟩) n c') n (recs eOp os) ∧ Below w.heap.size w w' := by
 obtain ⟨i0, hi, hz0, hz1, hz2⟩ := info_parts Try.infOpC
 have hl := h.len
 rw [List.length_map] at hl
 have hr := (Rep.to_reads eOp_len (by decide) (show Rep _ S _ (frecs eOp os) from h) hS).alloc (Nat.le_refl _) (.cells #[] 74)
 have HO := World.ownsRow_made (base := w.heap.size) (size := 3) (e := 74) w #[] 0 (Nat.le_refl _) (by unfold maxLen; omega) rfl
 have HB := Lib.hid ((Below.refl w.heap.size w).alloc (Nat.le_refl _) (.cells #[] 74))
 go_enter Try.func133, Try.ntmps133
 go_wp2_with (at_builtin; refine wpList_append_any _ rfl _ _ 69 rfl (w.heap.size) 74 i0 (.agg #[.int .i64 0, .int .i64 0, .int .i64 0]) 3 24 Try.underlying69 hi hz0 hz1 hz2 rfl (by decide) _ _ _ rfl HO _ _ n c (recs eOp os) rfl hr (recs_one _) (by unfold maxLen; omega) (by omega) (by simp) ?_; intro v7 w7 hown7 hgrow7 hblk7; refine stopX ?_)
 refine stopped ?_
 have hb7 := Lib.hid (HB.out.trans (below_of_grown hgrow7 (by simp) (fun g hg => (HO.lt g hg).1)))
 rw [Nat.zero_add, List.nil_append] at hown7
 obtain ⟨g7, c7, rfl⟩ := slice_form hown7 hblk7.symm ⟨_, rfl⟩
 have Hown7 := Lib.hid hown7
 clear hown7 hgrow7 hblk7 HO hr h
 go_wp2_with fail
 go_ret
 exact ⟨_, _, rfl, Hown7.out, hb7.out⟩
set_option maxRecDepth 100000 in
set_option maxHeartbeats 32000000 in
theorem s_l06Copy {w : World} {S : Nat → Prop} {v : Value} {m : TModule} (hz : sModule m ≤ 1048576) (h : RModule w S v m) (hS : ∀ b, S b → b < w.heap.size) :
  Calls Try.prog 77 #[v] w fun e w' => ∃ v', e = .returned v' ∧ QModule w' (New w w') v' m ∧ Below w.heap.size w w' := by
 obtain ⟨is, his, hs0, hs1, hs2⟩ := info_parts Try.infSignalC
 obtain ⟨im, him, hm0', hm1', hm2'⟩ := info_parts Try.infMemC
 obtain ⟨A0, c0, A1, c1, A2, c2, A3, c3, rfl, hSg, hAs, hIn, hMe, hm0, hm1, hm2, hm3⟩ := mod_open h
 have hzl : m.1.length ≤ 1048576 ∧ m.2.1.length ≤ 1048576 ∧ m.2.2.1.length ≤ 1048576 ∧ m.2.2.2.length ≤ 1048576 := by
  unfold sModule szL at hz
  omega
 obtain ⟨ns, hns⟩ : ∃ ns, m.1.length = ns := ⟨_, rfl⟩
 obtain ⟨na, hna⟩ : ∃ na, m.2.1.length = na := ⟨_, rfl⟩
 obtain ⟨ni, hni⟩ : ∃ ni, m.2.2.1.length = ni := ⟨_, rfl⟩
 obtain ⟨nm, hnm⟩ : ∃ nm, m.2.2.2.length = nm := ⟨_, rfl⟩
 rw [hns, hna, hni, hnm] at h hzl ⊢
 rw [hns] at hSg hm0
 rw [hna] at hAs hm1
 rw [hni] at hIn hm2
 rw [hnm] at hMe hm3
 obtain ⟨hy0, hy1, hy2, hy3⟩ := hzl
 have Hn := Lib.hid (And.intro hns (And.intro hna (And.intro hni hnm)))
 have HSg := Lib.hid hSg
 have HAs := Lib.hid hAs
 have HIn := Lib.hid hIn
 have HMe := Lib.hid hMe
 obtain ⟨U0, hU0⟩ : ∃ U0, U0 = (w.alloc (.cells #[.slice A0 ns c0, .slice A1 na c1, .slice A2 ni c2, .slice A3 nm c3] 41)).alloc (.cells #[.slice none 0 0, .slice none 0 0, .slice none 0 0, .slice none 0 0] 41) := ⟨_, rfl⟩
 have hu0 : w.heap.size + 1 < U0.heap.size := by rw [hU0]; simp
 have HBU := Lib.hid (show Below w.heap.size w U0 by rw [hU0]; exact ((Below.refl _ _).alloc (Nat.le_refl _) _).alloc (by simp) _)
 have HXM := Lib.hid (show Blk U0 w.heap.size 41 #[.slice A0 ns c0, .slice A1 na c1, .slice A2 ni c2, .slice A3 nm c3] by rw [hU0]; exact (Blk.new _ _ _).alloc _)
 have HXR := Lib.hid (show Blk U0 (w.heap.size + 1) 41 #[.slice none 0 0, .slice none 0 0, .slice none 0 0, .slice none 0 0] by rw [hU0]; exact blk_new_at (by simp))
 have HU0 := Lib.hid hU0
 clear hns hna hnm hni h hSg hAs hIn hMe hU0 hm0 hm1 hm2 hm3
 go_enter Try.func77, Try.ntmps77
 go_wp2_with fail
 rw [← HU0.out]
 go_cut [3] from 16 (fun pv wc => ∃ gb h0 k0 h1 k1 : Nat, pv = .pointer (some ⟨gb, 0, none⟩) ∧ CopyI U0 wc m.1 m.2.2.2 ns nm gb h0 k0 h1 k1)
 case first =>
  refine wp_region_tree (.node 0 4 (.node 0 9 (.node 3 4 (.node 3 9 (.node 4 9 (.node 7 9 (.leaf [0, 1, 2, 3, 4, 5, 6, 7, 9, 8, 10]) (.leaf [0, 1, 2, 3, 4, 9, 5, 6, 7, 8, 10])) (.leaf [0, 1, 2, 3, 9, 4, 5, 6, 7, 8, 10])) (.leaf [0, 9, 1, 2, 3, 4, 5, 6, 7, 8, 10])) (.node 3 9 (.node 7 9 (.leaf [0, 4, 1, 2, 3, 5, 6, 7, 9, 8, 10]) (.leaf [0, 4, 1, 2, 3, 9, 5, 6, 7, 8, 10])) (.node 4 9 (.leaf [0, 4, 9, 1, 2, 3, 5, 6, 7, 8, 10]) (.leaf [0, 9, 4, 1, 2, 3, 5, 6, 7, 8, 10])))) (.node 3 4 (.leaf [9, 0, 1, 2, 3, 4, 5, 6, 7, 8, 10]) (.leaf [9, 0, 4, 1, 2, 3, 5, 6, 7, 8, 10]))) (.node 0 9 (.node 3 9 (.node 7 9 (.leaf [4, 0, 1, 2, 3, 5, 6, 7, 9, 8, 10]) (.leaf [4, 0, 1, 2, 3, 9, 5, 6, 7, 8, 10])) (.leaf [4, 0, 9, 1, 2, 3, 5, 6, 7, 8, 10])) (.node 4 9 (.leaf [4, 9, 0, 1, 2, 3, 5, 6, 7, 8, 10]) (.leaf [9, 4, 0, 1, 2, 3, 5, 6, 7, 8, 10])))) (by kernel_rfl) (by kernel_rfl) (fun x => Below U0.heap.size U0 x) ((Below.refl _ _).drew) (fun lexNE => ?_)
  simp only [OrdT.orders, List.cons_append, List.nil_append, AllL, ordOps, List.filterMap_cons, List.filterMap_nil, List.getElem?_cons_zero, List.getElem?_cons_succ, and_true]
  refine ⟨?_, ?_, ?_, ?_, ?_, ?_, ?_, ?_, ?_, ?_, ?_, ?_, ?_, ?_, ?_⟩
  all_goals
   obtain ⟨cm0, cm1, cm2, cm3⟩ := bwS4 (B := U0.heap.size) HXM.out HXM.out.lt
   obtain ⟨D, hD⟩ : ∃ D, D = U0.drew := ⟨_, rfl⟩
   rw [← hD]
   have zD : U0.heap.size ≤ D.heap.size := by rw [hD]; exact Nat.le_refl _
   have HA := Lib.hid (show Below U0.heap.size U0 D by rw [hD]; exact (Below.refl _ _).drew)
   clear hD
  ·(repeat (first | (refine lex_r fun K hK => ?_; go_big_quiet_op; refine hK _ ?_; clear hK K) | (refine lex_k fun K hK => ?_; go_simp; refine hK _ ?_; clear hK K)))
   (refine lex_e fun K hK => ?_; go_big_op)
   obtain ⟨D1, hD1⟩ : ∃ x, x = D.alloc (.cells #[] 99) := ⟨_, rfl⟩
   rw [← hD1]
   have bD1 : Below D.heap.size D D1 := by rw [hD1]; exact (Below.refl _ _).alloc (Nat.le_refl _) _
   have zD1 : D.heap.size + 1 ≤ D1.heap.size := by rw [hD1]; simp
   have HA := Lib.hid (HA.out.trans (bD1.mono (by omega)))
   (try have FA := Lib.hid (own_below FA.out bD1 (Nat.le_refl _)))
   (try have FB := Lib.hid (own_below FB.out bD1 (Nat.le_refl _)))
   (try have FC := Lib.hid (own_below FC.out bD1 (Nat.le_refl _)))
   (try have FD := Lib.hid (own_below FD.out bD1 (Nat.le_refl _)))
   (try have FM := Lib.hid (FM.out.below bD1 FM.out.lt))
   obtain ⟨ga, hg⟩ : ∃ g, g = D.heap.size := ⟨_, rfl⟩
   have FA := Lib.hid (show D1.ownsRow U0.heap.size 99 3 (.slice (some ⟨ga, 0, none⟩) 0 0) 0 [] by rw [hD1, hg]; exact own_up' (World.ownsRow_made (base := D.heap.size) (size := 3) (e := 99) D #[] 0 (Nat.le_refl _) (by unfold maxLen; omega) rfl) (fun g hg => by have hg : D.heap.size = g := (by injection hg); omega))
   rw [← hg]
   have lgaa : D.heap.size ≤ ga := by omega
   have lgab : ga < D1.heap.size := by omega
   clear hg
   refine hK _ _ (Cls.mk' HA.out) ?_
   clear hK K hD1 bD1
   (repeat (first | (refine lex_r fun K hK => ?_; go_big_quiet_op; refine hK _ ?_; clear hK K) | (refine lex_k fun K hK => ?_; go_simp; refine hK _ ?_; clear hK K)))
   refine lex_e fun K hK => ?_
   have hrd := Rep.to_reads eSg_len (by decide) (show Rep _ S _ (frecs eSg m.1) from (HSg.out.under hS (HBU.out.trans (HA.out.mono (by omega))))) (B := D1.heap.size) (fun b hb => by have := hS b hb; omega)
   refine wp_append_any _ _ _ 36 (by rfl) U0.heap.size 99 is (.agg #[.int .i64 0, .int .i64 0, .int .i64 0]) 3 24 Try.underlying36 his hs0 hs1 hs2 rfl (by decide) _ _ _ (by rfl) FA.out _ _ _ _ (recs eSg m.1) (by rfl) hrd (recs_one _) (by unfold maxLen; omega) (by omega) (by omega) ?_
   intro v7 D2 hown7 hgrow7 hblk7
   go_simp
   rw [Nat.zero_add, List.nil_append] at hown7
   obtain ⟨gh, k0, rfl⟩ := slice_form hown7 hblk7.symm ⟨_, rfl⟩
   have hd7 : gh = ga ∨ gh = D1.heap.size := by
    rcases hblk7 with h1 | h1
    ·exact .inl (by injection h1)
    ·exact .inr (by injection h1)
   have zD2 : D1.heap.size ≤ D2.heap.size := hgrow7.size
   have lgh := (hown7.lt gh rfl).2
   have dgh : (gh = ga ∨ D1.heap.size ≤ gh) := by omega
   clear hd7
   have hkp : ∀ b, b < D1.heap.size → b ≠ ga → D2.heap[b]? = D1.heap[b]? := fun b h1 h2 => hgrow7.block b h1 (fun e => h2 (by injection e))
   have HA := Lib.hid (HA.out.trans (below_of_grown hgrow7 (by omega) (fun g hg => by have hg : ga = g := (by injection hg); omega)))
   (try have FC := Lib.hid (own_keep FC.out (fun g hg => hkp g (by have := (FC.out.lt g hg).2; omega) (by have hg : gc = g := (by injection hg); omega))))
   (try have FD := Lib.hid (own_keep FD.out (fun g hg => hkp g (by have := (FD.out.lt g hg).2; omega) (by have hg : gk = g := (by injection hg); omega))))
   (try have FM := Lib.hid (show Blk D2 gb 41 #[.slice none 0 0, .slice none 0 0, .slice none 0 0, .slice none 0 0] from (hkp gb FM.out.lt (by omega)).trans FM.out))
   have FB := Lib.hid hown7
   refine hK _ _ (Cls.mk' HA.out) ?_
   clear hK K hown7 hgrow7 hblk7 hrd hkp
   (repeat (first | (refine lex_r fun K hK => ?_; go_big_quiet_op; refine hK _ ?_; clear hK K) | (refine lex_k fun K hK => ?_; go_simp; refine hK _ ?_; clear hK K)))
   (refine lex_e fun K hK => ?_; go_big_op)
   obtain ⟨D3, hD3⟩ : ∃ x, x = D2.alloc (.cells #[] 103) := ⟨_, rfl⟩
   rw [← hD3]
   have bD3 : Below D2.heap.size D2 D3 := by rw [hD3]; exact (Below.refl _ _).alloc (Nat.le_refl _) _
   have zD3 : D2.heap.size + 1 ≤ D3.heap.size := by rw [hD3]; simp
   have HA := Lib.hid (HA.out.trans (bD3.mono (by omega)))
   (try have FA := Lib.hid (own_below FA.out bD3 (Nat.le_refl _)))
   (try have FB := Lib.hid (own_below FB.out bD3 (Nat.le_refl _)))
   (try have FC := Lib.hid (own_below FC.out bD3 (Nat.le_refl _)))
   (try have FD := Lib.hid (own_below FD.out bD3 (Nat.le_refl _)))
   (try have FM := Lib.hid (FM.out.below bD3 FM.out.lt))
   obtain ⟨gc, hg⟩ : ∃ g, g = D2.heap.size := ⟨_, rfl⟩
   have FC := Lib.hid (show D3.ownsRow U0.heap.size 103 4 (.slice (some ⟨gc, 0, none⟩) 0 0) 0 [] by rw [hD3, hg]; exact own_up' (World.ownsRow_made (base := D2.heap.size) (size := 4) (e := 103) D2 #[] 0 (Nat.le_refl _) (by unfold maxLen; omega) rfl) (fun g hg => by have hg : D2.heap.size = g := (by injection hg); omega))
   rw [← hg]
   have lgca : D2.heap.size ≤ gc := by omega
   have lgcb : gc < D3.heap.size := by omega
   clear hg
   refine hK _ _ (Cls.mk' HA.out) ?_
   clear hK K hD3 bD3
   (repeat (first | (refine lex_r fun K hK => ?_; go_big_quiet_op; refine hK _ ?_; clear hK K) | (refine lex_k fun K hK => ?_; go_simp; refine hK _ ?_; clear hK K)))
   refine lex_e fun K hK => ?_
   have hrd := Rep.to_reads eMm_len (by decide) (show Rep _ S _ (frecs eMm m.2.2.2) from (HMe.out.under hS (HBU.out.trans (HA.out.mono (by omega))))) (B := D3.heap.size) (fun b hb => by have := hS b hb; omega)
   refine wp_append_any _ _ _ 39 (by rfl) U0.heap.size 103 im (.agg #[.int .i64 0, .int .i64 0, .int .i64 0, .int .i64 0]) 4 32 Try.underlying39 him hm0' hm1' hm2' rfl (by decide) _ _ _ (by rfl) FC.out _ _ _ _ (recs eMm m.2.2.2) (by rfl) hrd (recs_one _) (by unfold maxLen; omega) (by omega) (by omega) ?_
   intro v7 D4 hown7 hgrow7 hblk7
   go_simp
   rw [Nat.zero_add, List.nil_append] at hown7
   obtain ⟨gk, k1, rfl⟩ := slice_form hown7 hblk7.symm ⟨_, rfl⟩
   have hd7 : gk = gc ∨ gk = D3.heap.size := by
    rcases hblk7 with h1 | h1
    ·exact .inl (by injection h1)
    ·exact .inr (by injection h1)
   have zD4 : D3.heap.size ≤ D4.heap.size := hgrow7.size
   have lgk := (hown7.lt gk rfl).2
   have dgk : (gk = gc ∨ D3.heap.size ≤ gk) := by omega
   clear hd7
   have hkp : ∀ b, b < D3.heap.size → b ≠ gc → D4.heap[b]? = D3.heap[b]? := fun b h1 h2 => hgrow7.block b h1 (fun e => h2 (by injection e))
   have HA := Lib.hid (HA.out.trans (below_of_grown hgrow7 (by omega) (fun g hg => by have hg : gc = g := (by injection hg); omega)))
   (try have FA := Lib.hid (own_keep FA.out (fun g hg => hkp g (by have := (FA.out.lt g hg).2; omega) (by have hg : ga = g := (by injection hg); omega))))
   (try have FB := Lib.hid (own_keep FB.out (fun g hg => hkp g (by have := (FB.out.lt g hg).2; omega) (by have hg : gh = g := (by injection hg); omega))))
   (try have FM := Lib.hid (show Blk D4 gb 41 #[.slice none 0 0, .slice none 0 0, .slice none 0 0, .slice none 0 0] from (hkp gb FM.out.lt (by omega)).trans FM.out))
   have FD := Lib.hid hown7
   refine hK _ _ (Cls.mk' HA.out) ?_
   clear hK K hown7 hgrow7 hblk7 hrd hkp
   (repeat (first | (refine lex_r fun K hK => ?_; go_big_quiet_op; refine hK _ ?_; clear hK K) | (refine lex_k fun K hK => ?_; go_simp; refine hK _ ?_; clear hK K)))
   (refine lex_e fun K hK => ?_; go_big_op)
   obtain ⟨D5, hD5⟩ : ∃ x, x = D4.alloc (.cells #[.slice none 0 0, .slice none 0 0, .slice none 0 0, .slice none 0 0] 41) := ⟨_, rfl⟩
   rw [← hD5]
   have bD5 : Below D4.heap.size D4 D5 := by rw [hD5]; exact (Below.refl _ _).alloc (Nat.le_refl _) _
   have zD5 : D4.heap.size + 1 ≤ D5.heap.size := by rw [hD5]; simp
   have HA := Lib.hid (HA.out.trans (bD5.mono (by omega)))
   (try have FA := Lib.hid (own_below FA.out bD5 (Nat.le_refl _)))
   (try have FB := Lib.hid (own_below FB.out bD5 (Nat.le_refl _)))
   (try have FC := Lib.hid (own_below FC.out bD5 (Nat.le_refl _)))
   (try have FD := Lib.hid (own_below FD.out bD5 (Nat.le_refl _)))
   (try have FM := Lib.hid (FM.out.below bD5 FM.out.lt))
   obtain ⟨gb, hg⟩ : ∃ g, g = D4.heap.size := ⟨_, rfl⟩
   have FM := Lib.hid (show Blk D5 gb 41 #[.slice none 0 0, .slice none 0 0, .slice none 0 0, .slice none 0 0] by rw [hD5, hg]; exact Blk.new _ _ _)
   rw [← hg]
   have lgba : D4.heap.size ≤ gb := by omega
   have lgbb : gb < D5.heap.size := by omega
   clear hg
   refine hK _ _ (Cls.mk' HA.out) ?_
   clear hK K hD5 bD5
   obtain ⟨q0, q1, q2, q3⟩ := blkS4 FM.out
   have f0 := FM.out.frozen 0
   have f1 := FM.out.frozen 1
   have f2 := FM.out.frozen 2
   have f3 := FM.out.frozen 3
   (repeat (first | (refine lex_r fun K hK => ?_; go_big_quiet_op; refine hK _ ?_; clear hK K) | (refine lex_k fun K hK => ?_; go_simp; refine hK _ ?_; clear hK K)))
   (refine lex_e fun K hK => ?_; go_big_op)
   obtain ⟨wx, hwx⟩ : ∃ x, x = ((((D5.setCell ⟨gb, 0, none⟩ (.slice (some ⟨gh, 0, none⟩) ns k0)).setCell ⟨gb, 1, none⟩ (.slice none 0 0)).setCell ⟨gb, 2, none⟩ (.slice none 0 0)).setCell ⟨gb, 3, none⟩ (.slice (some ⟨gk, 0, none⟩) nm k1)) := ⟨_, rfl⟩
   rw [← hwx]
   have hgU : U0.heap.size ≤ gb := by omega
   have HA := Lib.hid (show Below U0.heap.size U0 wx by rw [hwx]; exact (((HA.out.setCell hgU _).setCell hgU _).setCell hgU _).setCell hgU _)
   refine hK _ _ (Cls.mk' HA.out) ?_
   clear hK K q0 q1 q2 q3 f0 f1 f2 f3
   (repeat (first | (refine lex_r fun K hK => ?_; go_big_quiet_op; refine hK _ ?_; clear hK K) | (refine lex_k fun K hK => ?_; go_simp; refine hK _ ?_; clear hK K)))
   (refine lex_nil ?_)
   refine ⟨Cls.mk' HA.out, ?_⟩
   clear lexNE cm0 cm1 cm2 cm3
   go_wp2_with fail
   go_meet
   case rel =>
    have hk2 : ∀ b, b ≠ gb → wx.heap[b]? = D5.heap[b]? := fun b hb => by
     rw [hwx]
     exact (Below.heap_setCell _ ⟨gb, 3, none⟩ _ b hb).trans ((Below.heap_setCell _ ⟨gb, 2, none⟩ _ b hb).trans ((Below.heap_setCell _ ⟨gb, 1, none⟩ _ b hb).trans (Below.heap_setCell _ ⟨gb, 0, none⟩ _ b hb)))
    refine ⟨gb, gh, k0, gk, k1, rfl, ?_, ?_, ?_, ⟨by omega, by omega, by omega⟩, ⟨by omega, by omega, by omega⟩, HA.out⟩
    ·exact own_keep FB.out (fun g hg => hk2 g (by have hg : gh = g := (by injection hg); omega))
    ·exact own_keep FD.out (fun g hg => hk2 g (by have hg : gk = g := (by injection hg); omega))
    ·rw [hwx]
     exact blk_four FM.out
  ·(repeat (first | (refine lex_r fun K hK => ?_; go_big_quiet_op; refine hK _ ?_; clear hK K) | (refine lex_k fun K hK => ?_; go_simp; refine hK _ ?_; clear hK K)))
   (refine lex_e fun K hK => ?_; go_big_op)
   obtain ⟨D1, hD1⟩ : ∃ x, x = D.alloc (.cells #[] 99) := ⟨_, rfl⟩
   rw [← hD1]
   have bD1 : Below D.heap.size D D1 := by rw [hD1]; exact (Below.refl _ _).alloc (Nat.le_refl _) _
   have zD1 : D.heap.size + 1 ≤ D1.heap.size := by rw [hD1]; simp
   have HA := Lib.hid (HA.out.trans (bD1.mono (by omega)))
   (try have FA := Lib.hid (own_below FA.out bD1 (Nat.le_refl _)))
   (try have FB := Lib.hid (own_below FB.out bD1 (Nat.le_refl _)))
   (try have FC := Lib.hid (own_below FC.out bD1 (Nat.le_refl _)))
   (try have FD := Lib.hid (own_below FD.out bD1 (Nat.le_refl _)))
   (try have FM := Lib.hid (FM.out.below bD1 FM.out.lt))
   obtain ⟨ga, hg⟩ : ∃ g, g = D.heap.size := ⟨_, rfl⟩
   have FA := Lib.hid (show D1.ownsRow U0.heap.size 99 3 (.slice (some ⟨ga, 0, none⟩) 0 0) 0 [] by rw [hD1, hg]; exact own_up' (World.ownsRow_made (base := D.heap.size) (size := 3) (e := 99) D #[] 0 (Nat.le_refl _) (by unfold maxLen; omega) rfl) (fun g hg => by have hg : D.heap.size = g := (by injection hg); omega))
   rw [← hg]
   have lgaa : D.heap.size ≤ ga := by omega
   have lgab : ga < D1.heap.size := by omega
   clear hg
   refine hK _ _ (Cls.mk' HA.out) ?_
   clear hK K hD1 bD1
   (repeat (first | (refine lex_r fun K hK => ?_; go_big_quiet_op; refine hK _ ?_; clear hK K) | (refine lex_k fun K hK => ?_; go_simp; refine hK _ ?_; clear hK K)))
   refine lex_e fun K hK => ?_
   have hrd := Rep.to_reads eSg_len (by decide) (show Rep _ S _ (frecs eSg m.1) from (HSg.out.under hS (HBU.out.trans (HA.out.mono (by omega))))) (B := D1.heap.size) (fun b hb => by have := hS b hb; omega)
   refine wp_append_any _ _ _ 36 (by rfl) U0.heap.size 99 is (.agg #[.int .i64 0, .int .i64 0, .int .i64 0]) 3 24 Try.underlying36 his hs0 hs1 hs2 rfl (by decide) _ _ _ (by rfl) FA.out _ _ _ _ (recs eSg m.1) (by rfl) hrd (recs_one _) (by unfold maxLen; omega) (by omega) (by omega) ?_
   intro v7 D2 hown7 hgrow7 hblk7
   go_simp
   rw [Nat.zero_add, List.nil_append] at hown7
   obtain ⟨gh, k0, rfl⟩ := slice_form hown7 hblk7.symm ⟨_, rfl⟩
   have hd7 : gh = ga ∨ gh = D1.heap.size := by
    rcases hblk7 with h1 | h1
    ·exact .inl (by injection h1)
    ·exact .inr (by injection h1)
   have zD2 : D1.heap.size ≤ D2.heap.size := hgrow7.size
   have lgh := (hown7.lt gh rfl).2
   have dgh : (gh = ga ∨ D1.heap.size ≤ gh) := by omega
   clear hd7
   have hkp : ∀ b, b < D1.heap.size → b ≠ ga → D2.heap[b]? = D1.heap[b]? := fun b h1 h2 => hgrow7.block b h1 (fun e => h2 (by injection e))
   have HA := Lib.hid (HA.out.trans (below_of_grown hgrow7 (by omega) (fun g hg => by have hg : ga = g := (by injection hg); omega)))
   (try have FC := Lib.hid (own_keep FC.out (fun g hg => hkp g (by have := (FC.out.lt g hg).2; omega) (by have hg : gc = g := (by injection hg); omega))))
   (try have FD := Lib.hid (own_keep FD.out (fun g hg => hkp g (by have := (FD.out.lt g hg).2; omega) (by have hg : gk = g := (by injection hg); omega))))
   (try have FM := Lib.hid (show Blk D2 gb 41 #[.slice none 0 0, .slice none 0 0, .slice none 0 0, .slice none 0 0] from (hkp gb FM.out.lt (by omega)).trans FM.out))
   have FB := Lib.hid hown7
   refine hK _ _ (Cls.mk' HA.out) ?_
   clear hK K hown7 hgrow7 hblk7 hrd hkp
   (repeat (first | (refine lex_r fun K hK => ?_; go_big_quiet_op; refine hK _ ?_; clear hK K) | (refine lex_k fun K hK => ?_; go_simp; refine hK _ ?_; clear hK K)))
   (refine lex_e fun K hK => ?_; go_big_op)
   obtain ⟨D3, hD3⟩ : ∃ x, x = D2.alloc (.cells #[] 103) := ⟨_, rfl⟩
   rw [← hD3]
   have bD3 : Below D2.heap.size D2 D3 := by rw [hD3]; exact (Below.refl _ _).alloc (Nat.le_refl _) _
   have zD3 : D2.heap.size + 1 ≤ D3.heap.size := by rw [hD3]; simp
   have HA := Lib.hid (HA.out.trans (bD3.mono (by omega)))
   (try have FA := Lib.hid (own_below FA.out bD3 (Nat.le_refl _)))
   (try have FB := Lib.hid (own_below FB.out bD3 (Nat.le_refl _)))
   (try have FC := Lib.hid (own_below FC.out bD3 (Nat.le_refl _)))
   (try have FD := Lib.hid (own_below FD.out bD3 (Nat.le_refl _)))
   (try have FM := Lib.hid (FM.out.below bD3 FM.out.lt))
   obtain ⟨gc, hg⟩ : ∃ g, g = D2.heap.size := ⟨_, rfl⟩
   have FC := Lib.hid (show D3.ownsRow U0.heap.size 103 4 (.slice (some ⟨gc, 0, none⟩) 0 0) 0 [] by rw [hD3, hg]; exact own_up' (World.ownsRow_made (base := D2.heap.size) (size := 4) (e := 103) D2 #[] 0 (Nat.le_refl _) (by unfold maxLen; omega) rfl) (fun g hg => by have hg : D2.heap.size = g := (by injection hg); omega))
   rw [← hg]
   have lgca : D2.heap.size ≤ gc := by omega
   have lgcb : gc < D3.heap.size := by omega
   clear hg
   refine hK _ _ (Cls.mk' HA.out) ?_
   clear hK K hD3 bD3
   (repeat (first | (refine lex_r fun K hK => ?_; go_big_quiet_op; refine hK _ ?_; clear hK K) | (refine lex_k fun K hK => ?_; go_simp; refine hK _ ?_; clear hK K)))
   (refine lex_e fun K hK => ?_; go_big_op)
   obtain ⟨D4, hD4⟩ : ∃ x, x = D3.alloc (.cells #[.slice none 0 0, .slice none 0 0, .slice none 0 0, .slice none 0 0] 41) := ⟨_, rfl⟩
   rw [← hD4]
   have bD4 : Below D3.heap.size D3 D4 := by rw [hD4]; exact (Below.refl _ _).alloc (Nat.le_refl _) _
   have zD4 : D3.heap.size + 1 ≤ D4.heap.size := by rw [hD4]; simp
   have HA := Lib.hid (HA.out.trans (bD4.mono (by omega)))
   (try have FA := Lib.hid (own_below FA.out bD4 (Nat.le_refl _)))
   (try have FB := Lib.hid (own_below FB.out bD4 (Nat.le_refl _)))
   (try have FC := Lib.hid (own_below FC.out bD4 (Nat.le_refl _)))
   (try have FD := Lib.hid (own_below FD.out bD4 (Nat.le_refl _)))
   (try have FM := Lib.hid (FM.out.below bD4 FM.out.lt))
   obtain ⟨gb, hg⟩ : ∃ g, g = D3.heap.size := ⟨_, rfl⟩
   have FM := Lib.hid (show Blk D4 gb 41 #[.slice none 0 0, .slice none 0 0, .slice none 0 0, .slice none 0 0] by rw [hD4, hg]; exact Blk.new _ _ _)
   rw [← hg]
   have lgba : D3.heap.size ≤ gb := by omega
   have lgbb : gb < D4.heap.size := by omega
   clear hg
   refine hK _ _ (Cls.mk' HA.out) ?_
   clear hK K hD4 bD4
   (repeat (first | (refine lex_r fun K hK => ?_; go_big_quiet_op; refine hK _ ?_; clear hK K) | (refine lex_k fun K hK => ?_; go_simp; refine hK _ ?_; clear hK K)))
   refine lex_e fun K hK => ?_
   have hrd := Rep.to_reads eMm_len (by decide) (show Rep _ S _ (frecs eMm m.2.2.2) from (HMe.out.under hS (HBU.out.trans (HA.out.mono (by omega))))) (B := D4.heap.size) (fun b hb => by have := hS b hb; omega)
   refine wp_append_any _ _ _ 39 (by rfl) U0.heap.size 103 im (.agg #[.int .i64 0, .int .i64 0, .int .i64 0, .int .i64 0]) 4 32 Try.underlying39 him hm0' hm1' hm2' rfl (by decide) _ _ _ (by rfl) FC.out _ _ _ _ (recs eMm m.2.2.2) (by rfl) hrd (recs_one _) (by unfold maxLen; omega) (by omega) (by omega) ?_
   intro v7 D5 hown7 hgrow7 hblk7
   go_simp
   rw [Nat.zero_add, List.nil_append] at hown7
   obtain ⟨gk, k1, rfl⟩ := slice_form hown7 hblk7.symm ⟨_, rfl⟩
   have hd7 : gk = gc ∨ gk = D4.heap.size := by
    rcases hblk7 with h1 | h1
    ·exact .inl (by injection h1)
    ·exact .inr (by injection h1)
   have zD5 : D4.heap.size ≤ D5.heap.size := hgrow7.size
   have lgk := (hown7.lt gk rfl).2
   have dgk : (gk = gc ∨ D4.heap.size ≤ gk) := by omega
   clear hd7
   have hkp : ∀ b, b < D4.heap.size → b ≠ gc → D5.heap[b]? = D4.heap[b]? := fun b h1 h2 => hgrow7.block b h1 (fun e => h2 (by injection e))
   have HA := Lib.hid (HA.out.trans (below_of_grown hgrow7 (by omega) (fun g hg => by have hg : gc = g := (by injection hg); omega)))
   (try have FA := Lib.hid (own_keep FA.out (fun g hg => hkp g (by have := (FA.out.lt g hg).2; omega) (by have hg : ga = g := (by injection hg); omega))))
   (try have FB := Lib.hid (own_keep FB.out (fun g hg => hkp g (by have := (FB.out.lt g hg).2; omega) (by have hg : gh = g := (by injection hg); omega))))
   (try have FM := Lib.hid (show Blk D5 gb 41 #[.slice none 0 0, .slice none 0 0, .slice none 0 0, .slice none 0 0] from (hkp gb FM.out.lt (by omega)).trans FM.out))
   have FD := Lib.hid hown7
   refine hK _ _ (Cls.mk' HA.out) ?_
   clear hK K hown7 hgrow7 hblk7 hrd hkp
   obtain ⟨q0, q1, q2, q3⟩ := blkS4 FM.out
   have f0 := FM.out.frozen 0
   have f1 := FM.out.frozen 1
   have f2 := FM.out.frozen 2
   have f3 := FM.out.frozen 3
   (repeat (first | (refine lex_r fun K hK => ?_; go_big_quiet_op; refine hK _ ?_; clear hK K) | (refine lex_k fun K hK => ?_; go_simp; refine hK _ ?_; clear hK K)))
   (refine lex_e fun K hK => ?_; go_big_op)
   obtain ⟨wx, hwx⟩ : ∃ x, x = ((((D5.setCell ⟨gb, 0, none⟩ (.slice (some ⟨gh, 0, none⟩) ns k0)).setCell ⟨gb, 1, none⟩ (.slice none 0 0)).setCell ⟨gb, 2, none⟩ (.slice none 0 0)).setCell ⟨gb, 3, none⟩ (.slice (some ⟨gk, 0, none⟩) nm k1)) := ⟨_, rfl⟩
   rw [← hwx]
   have hgU : U0.heap.size ≤ gb := by omega
   have HA := Lib.hid (show Below U0.heap.size U0 wx by rw [hwx]; exact (((HA.out.setCell hgU _).setCell hgU _).setCell hgU _).setCell hgU _)
   refine hK _ _ (Cls.mk' HA.out) ?_
   clear hK K q0 q1 q2 q3 f0 f1 f2 f3
   (repeat (first | (refine lex_r fun K hK => ?_; go_big_quiet_op; refine hK _ ?_; clear hK K) | (refine lex_k fun K hK => ?_; go_simp; refine hK _ ?_; clear hK K)))
   (refine lex_nil ?_)
   refine ⟨Cls.mk' HA.out, ?_⟩
   clear lexNE cm0 cm1 cm2 cm3
   go_wp2_with fail
   go_meet
   case rel =>
    have hk2 : ∀ b, b ≠ gb → wx.heap[b]? = D5.heap[b]? := fun b hb => by
     rw [hwx]
     exact (Below.heap_setCell _ ⟨gb, 3, none⟩ _ b hb).trans ((Below.heap_setCell _ ⟨gb, 2, none⟩ _ b hb).trans ((Below.heap_setCell _ ⟨gb, 1, none⟩ _ b hb).trans (Below.heap_setCell _ ⟨gb, 0, none⟩ _ b hb)))
    refine ⟨gb, gh, k0, gk, k1, rfl, ?_, ?_, ?_, ⟨by omega, by omega, by omega⟩, ⟨by omega, by omega, by omega⟩, HA.out⟩
    ·exact own_keep FB.out (fun g hg => hk2 g (by have hg : gh = g := (by injection hg); omega))
    ·exact own_keep FD.out (fun g hg => hk2 g (by have hg : gk = g := (by injection hg); omega))
    ·rw [hwx]
     exact blk_four FM.out
  ·(repeat (first | (refine lex_r fun K hK => ?_; go_big_quiet_op; refine hK _ ?_; clear hK K) | (refine lex_k fun K hK => ?_; go_simp; refine hK _ ?_; clear hK K)))
   (refine lex_e fun K hK => ?_; go_big_op)
   obtain ⟨D1, hD1⟩ : ∃ x, x = D.alloc (.cells #[] 99) := ⟨_, rfl⟩
   rw [← hD1]
   have bD1 : Below D.heap.size D D1 := by rw [hD1]; exact (Below.refl _ _).alloc (Nat.le_refl _) _
   have zD1 : D.heap.size + 1 ≤ D1.heap.size := by rw [hD1]; simp
   have HA := Lib.hid (HA.out.trans (bD1.mono (by omega)))
   (try have FA := Lib.hid (own_below FA.out bD1 (Nat.le_refl _)))
   (try have FB := Lib.hid (own_below FB.out bD1 (Nat.le_refl _)))
   (try have FC := Lib.hid (own_below FC.out bD1 (Nat.le_refl _)))
   (try have FD := Lib.hid (own_below FD.out bD1 (Nat.le_refl _)))
   (try have FM := Lib.hid (FM.out.below bD1 FM.out.lt))
   obtain ⟨ga, hg⟩ : ∃ g, g = D.heap.size := ⟨_, rfl⟩
   have FA := Lib.hid (show D1.ownsRow U0.heap.size 99 3 (.slice (some ⟨ga, 0, none⟩) 0 0) 0 [] by rw [hD1, hg]; exact own_up' (World.ownsRow_made (base := D.heap.size) (size := 3) (e := 99) D #[] 0 (Nat.le_refl _) (by unfold maxLen; omega) rfl) (fun g hg => by have hg : D.heap.size = g := (by injection hg); omega))
   rw [← hg]
   have lgaa : D.heap.size ≤ ga := by omega
   have lgab : ga < D1.heap.size := by omega
   clear hg
   refine hK _ _ (Cls.mk' HA.out) ?_
   clear hK K hD1 bD1
   (repeat (first | (refine lex_r fun K hK => ?_; go_big_quiet_op; refine hK _ ?_; clear hK K) | (refine lex_k fun K hK => ?_; go_simp; refine hK _ ?_; clear hK K)))
   refine lex_e fun K hK => ?_
   have hrd := Rep.to_reads eSg_len (by decide) (show Rep _ S _ (frecs eSg m.1) from (HSg.out.under hS (HBU.out.trans (HA.out.mono (by omega))))) (B := D1.heap.size) (fun b hb => by have := hS b hb; omega)
   refine wp_append_any _ _ _ 36 (by rfl) U0.heap.size 99 is (.agg #[.int .i64 0, .int .i64 0, .int .i64 0]) 3 24 Try.underlying36 his hs0 hs1 hs2 rfl (by decide) _ _ _ (by rfl) FA.out _ _ _ _ (recs eSg m.1) (by rfl) hrd (recs_one _) (by unfold maxLen; omega) (by omega) (by omega) ?_
   intro v7 D2 hown7 hgrow7 hblk7
   go_simp
   rw [Nat.zero_add, List.nil_append] at hown7
   obtain ⟨gh, k0, rfl⟩ := slice_form hown7 hblk7.symm ⟨_, rfl⟩
   have hd7 : gh = ga ∨ gh = D1.heap.size := by
    rcases hblk7 with h1 | h1
    ·exact .inl (by injection h1)
    ·exact .inr (by injection h1)
   have zD2 : D1.heap.size ≤ D2.heap.size := hgrow7.size
   have lgh := (hown7.lt gh rfl).2
   have dgh : (gh = ga ∨ D1.heap.size ≤ gh) := by omega
   clear hd7
   have hkp : ∀ b, b < D1.heap.size → b ≠ ga → D2.heap[b]? = D1.heap[b]? := fun b h1 h2 => hgrow7.block b h1 (fun e => h2 (by injection e))
   have HA := Lib.hid (HA.out.trans (below_of_grown hgrow7 (by omega) (fun g hg => by have hg : ga = g := (by injection hg); omega)))
   (try have FC := Lib.hid (own_keep FC.out (fun g hg => hkp g (by have := (FC.out.lt g hg).2; omega) (by have hg : gc = g := (by injection hg); omega))))
   (try have FD := Lib.hid (own_keep FD.out (fun g hg => hkp g (by have := (FD.out.lt g hg).2; omega) (by have hg : gk = g := (by injection hg); omega))))
   (try have FM := Lib.hid (show Blk D2 gb 41 #[.slice none 0 0, .slice none 0 0, .slice none 0 0, .slice none 0 0] from (hkp gb FM.out.lt (by omega)).trans FM.out))
   have FB := Lib.hid hown7
   refine hK _ _ (Cls.mk' HA.out) ?_
   clear hK K hown7 hgrow7 hblk7 hrd hkp
   (repeat (first | (refine lex_r fun K hK => ?_; go_big_quiet_op; refine hK _ ?_; clear hK K) | (refine lex_k fun K hK => ?_; go_simp; refine hK _ ?_; clear hK K)))
   (refine lex_e fun K hK => ?_; go_big_op)
   obtain ⟨D3, hD3⟩ : ∃ x, x = D2.alloc (.cells #[.slice none 0 0, .slice none 0 0, .slice none 0 0, .slice none 0 0] 41) := ⟨_, rfl⟩
   rw [← hD3]
   have bD3 : Below D2.heap.size D2 D3 := by rw [hD3]; exact (Below.refl _ _).alloc (Nat.le_refl _) _
   have zD3 : D2.heap.size + 1 ≤ D3.heap.size := by rw [hD3]; simp
   have HA := Lib.hid (HA.out.trans (bD3.mono (by omega)))
   (try have FA := Lib.hid (own_below FA.out bD3 (Nat.le_refl _)))
   (try have FB := Lib.hid (own_below FB.out bD3 (Nat.le_refl _)))
   (try have FC := Lib.hid (own_below FC.out bD3 (Nat.le_refl _)))
   (try have FD := Lib.hid (own_below FD.out bD3 (Nat.le_refl _)))
   (try have FM := Lib.hid (FM.out.below bD3 FM.out.lt))
   obtain ⟨gb, hg⟩ : ∃ g, g = D2.heap.size := ⟨_, rfl⟩
   have FM := Lib.hid (show Blk D3 gb 41 #[.slice none 0 0, .slice none 0 0, .slice none 0 0, .slice none 0 0] by rw [hD3, hg]; exact Blk.new _ _ _)
   rw [← hg]
   have lgba : D2.heap.size ≤ gb := by omega
   have lgbb : gb < D3.heap.size := by omega
   clear hg
   refine hK _ _ (Cls.mk' HA.out) ?_
   clear hK K hD3 bD3
   (repeat (first | (refine lex_r fun K hK => ?_; go_big_quiet_op; refine hK _ ?_; clear hK K) | (refine lex_k fun K hK => ?_; go_simp; refine hK _ ?_; clear hK K)))
   (refine lex_e fun K hK => ?_; go_big_op)
   obtain ⟨D4, hD4⟩ : ∃ x, x = D3.alloc (.cells #[] 103) := ⟨_, rfl⟩
   rw [← hD4]
   have bD4 : Below D3.heap.size D3 D4 := by rw [hD4]; exact (Below.refl _ _).alloc (Nat.le_refl _) _
   have zD4 : D3.heap.size + 1 ≤ D4.heap.size := by rw [hD4]; simp
   have HA := Lib.hid (HA.out.trans (bD4.mono (by omega)))
   (try have FA := Lib.hid (own_below FA.out bD4 (Nat.le_refl _)))
   (try have FB := Lib.hid (own_below FB.out bD4 (Nat.le_refl _)))
   (try have FC := Lib.hid (own_below FC.out bD4 (Nat.le_refl _)))
   (try have FD := Lib.hid (own_below FD.out bD4 (Nat.le_refl _)))
   (try have FM := Lib.hid (FM.out.below bD4 FM.out.lt))
   obtain ⟨gc, hg⟩ : ∃ g, g = D3.heap.size := ⟨_, rfl⟩
   have FC := Lib.hid (show D4.ownsRow U0.heap.size 103 4 (.slice (some ⟨gc, 0, none⟩) 0 0) 0 [] by rw [hD4, hg]; exact own_up' (World.ownsRow_made (base := D3.heap.size) (size := 4) (e := 103) D3 #[] 0 (Nat.le_refl _) (by unfold maxLen; omega) rfl) (fun g hg => by have hg : D3.heap.size = g := (by injection hg); omega))
   rw [← hg]
   have lgca : D3.heap.size ≤ gc := by omega
   have lgcb : gc < D4.heap.size := by omega
   clear hg
   refine hK _ _ (Cls.mk' HA.out) ?_
   clear hK K hD4 bD4
   (repeat (first | (refine lex_r fun K hK => ?_; go_big_quiet_op; refine hK _ ?_; clear hK K) | (refine lex_k fun K hK => ?_; go_simp; refine hK _ ?_; clear hK K)))
   refine lex_e fun K hK => ?_
   have hrd := Rep.to_reads eMm_len (by decide) (show Rep _ S _ (frecs eMm m.2.2.2) from (HMe.out.under hS (HBU.out.trans (HA.out.mono (by omega))))) (B := D4.heap.size) (fun b hb => by have := hS b hb; omega)
   refine wp_append_any _ _ _ 39 (by rfl) U0.heap.size 103 im (.agg #[.int .i64 0, .int .i64 0, .int .i64 0, .int .i64 0]) 4 32 Try.underlying39 him hm0' hm1' hm2' rfl (by decide) _ _ _ (by rfl) FC.out _ _ _ _ (recs eMm m.2.2.2) (by rfl) hrd (recs_one _) (by unfold maxLen; omega) (by omega) (by omega) ?_
   intro v7 D5 hown7 hgrow7 hblk7
   go_simp
   rw [Nat.zero_add, List.nil_append] at hown7
   obtain ⟨gk, k1, rfl⟩ := slice_form hown7 hblk7.symm ⟨_, rfl⟩
   have hd7 : gk = gc ∨ gk = D4.heap.size := by
    rcases hblk7 with h1 | h1
    ·exact .inl (by injection h1)
    ·exact .inr (by injection h1)
   have zD5 : D4.heap.size ≤ D5.heap.size := hgrow7.size
   have lgk := (hown7.lt gk rfl).2
   have dgk : (gk = gc ∨ D4.heap.size ≤ gk) := by omega
   clear hd7
   have hkp : ∀ b, b < D4.heap.size → b ≠ gc → D5.heap[b]? = D4.heap[b]? := fun b h1 h2 => hgrow7.block b h1 (fun e => h2 (by injection e))
   have HA := Lib.hid (HA.out.trans (below_of_grown hgrow7 (by omega) (fun g hg => by have hg : gc = g := (by injection hg); omega)))
   (try have FA := Lib.hid (own_keep FA.out (fun g hg => hkp g (by have := (FA.out.lt g hg).2; omega) (by have hg : ga = g := (by injection hg); omega))))
   (try have FB := Lib.hid (own_keep FB.out (fun g hg => hkp g (by have := (FB.out.lt g hg).2; omega) (by have hg : gh = g := (by injection hg); omega))))
   (try have FM := Lib.hid (show Blk D5 gb 41 #[.slice none 0 0, .slice none 0 0, .slice none 0 0, .slice none 0 0] from (hkp gb FM.out.lt (by omega)).trans FM.out))
   have FD := Lib.hid hown7
   refine hK _ _ (Cls.mk' HA.out) ?_
   clear hK K hown7 hgrow7 hblk7 hrd hkp
   obtain ⟨q0, q1, q2, q3⟩ := blkS4 FM.out
   have f0 := FM.out.frozen 0
   have f1 := FM.out.frozen 1
   have f2 := FM.out.frozen 2
   have f3 := FM.out.frozen 3
   (repeat (first | (refine lex_r fun K hK => ?_; go_big_quiet_op; refine hK _ ?_; clear hK K) | (refine lex_k fun K hK => ?_; go_simp; refine hK _ ?_; clear hK K)))
   (refine lex_e fun K hK => ?_; go_big_op)
   obtain ⟨wx, hwx⟩ : ∃ x, x = ((((D5.setCell ⟨gb, 0, none⟩ (.slice (some ⟨gh, 0, none⟩) ns k0)).setCell ⟨gb, 1, none⟩ (.slice none 0 0)).setCell ⟨gb, 2, none⟩ (.slice none 0 0)).setCell ⟨gb, 3, none⟩ (.slice (some ⟨gk, 0, none⟩) nm k1)) := ⟨_, rfl⟩
   rw [← hwx]
   have hgU : U0.heap.size ≤ gb := by omega
   have HA := Lib.hid (show Below U0.heap.size U0 wx by rw [hwx]; exact (((HA.out.setCell hgU _).setCell hgU _).setCell hgU _).setCell hgU _)
   refine hK _ _ (Cls.mk' HA.out) ?_
   clear hK K q0 q1 q2 q3 f0 f1 f2 f3
   (repeat (first | (refine lex_r fun K hK => ?_; go_big_quiet_op; refine hK _ ?_; clear hK K) | (refine lex_k fun K hK => ?_; go_simp; refine hK _ ?_; clear hK K)))
   (refine lex_nil ?_)
   refine ⟨Cls.mk' HA.out, ?_⟩
   clear lexNE cm0 cm1 cm2 cm3
   go_wp2_with fail
   go_meet
   case rel =>
    have hk2 : ∀ b, b ≠ gb → wx.heap[b]? = D5.heap[b]? := fun b hb => by
     rw [hwx]
     exact (Below.heap_setCell _ ⟨gb, 3, none⟩ _ b hb).trans ((Below.heap_setCell _ ⟨gb, 2, none⟩ _ b hb).trans ((Below.heap_setCell _ ⟨gb, 1, none⟩ _ b hb).trans (Below.heap_setCell _ ⟨gb, 0, none⟩ _ b hb)))
    refine ⟨gb, gh, k0, gk, k1, rfl, ?_, ?_, ?_, ⟨by omega, by omega, by omega⟩, ⟨by omega, by omega, by omega⟩, HA.out⟩
    ·exact own_keep FB.out (fun g hg => hk2 g (by have hg : gh = g := (by injection hg); omega))
    ·exact own_keep FD.out (fun g hg => hk2 g (by have hg : gk = g := (by injection hg); omega))
    ·rw [hwx]
     exact blk_four FM.out
  ·(repeat (first | (refine lex_r fun K hK => ?_; go_big_quiet_op; refine hK _ ?_; clear hK K) | (refine lex_k fun K hK => ?_; go_simp; refine hK _ ?_; clear hK K)))
   (refine lex_e fun K hK => ?_; go_big_op)
   obtain ⟨D1, hD1⟩ : ∃ x, x = D.alloc (.cells #[] 99) := ⟨_, rfl⟩
   rw [← hD1]
   have bD1 : Below D.heap.size D D1 := by rw [hD1]; exact (Below.refl _ _).alloc (Nat.le_refl _) _
   have zD1 : D.heap.size + 1 ≤ D1.heap.size := by rw [hD1]; simp
   have HA := Lib.hid (HA.out.trans (bD1.mono (by omega)))
   (try have FA := Lib.hid (own_below FA.out bD1 (Nat.le_refl _)))
   (try have FB := Lib.hid (own_below FB.out bD1 (Nat.le_refl _)))
   (try have FC := Lib.hid (own_below FC.out bD1 (Nat.le_refl _)))
   (try have FD := Lib.hid (own_below FD.out bD1 (Nat.le_refl _)))
   (try have FM := Lib.hid (FM.out.below bD1 FM.out.lt))
   obtain ⟨ga, hg⟩ : ∃ g, g = D.heap.size := ⟨_, rfl⟩
   have FA := Lib.hid (show D1.ownsRow U0.heap.size 99 3 (.slice (some ⟨ga, 0, none⟩) 0 0) 0 [] by rw [hD1, hg]; exact own_up' (World.ownsRow_made (base := D.heap.size) (size := 3) (e := 99) D #[] 0 (Nat.le_refl _) (by unfold maxLen; omega) rfl) (fun g hg => by have hg : D.heap.size = g := (by injection hg); omega))
   rw [← hg]
   have lgaa : D.heap.size ≤ ga := by omega
   have lgab : ga < D1.heap.size := by omega
   clear hg
   refine hK _ _ (Cls.mk' HA.out) ?_
   clear hK K hD1 bD1
   (repeat (first | (refine lex_r fun K hK => ?_; go_big_quiet_op; refine hK _ ?_; clear hK K) | (refine lex_k fun K hK => ?_; go_simp; refine hK _ ?_; clear hK K)))
   (refine lex_e fun K hK => ?_; go_big_op)
   obtain ⟨D2, hD2⟩ : ∃ x, x = D1.alloc (.cells #[.slice none 0 0, .slice none 0 0, .slice none 0 0, .slice none 0 0] 41) := ⟨_, rfl⟩
   rw [← hD2]
   have bD2 : Below D1.heap.size D1 D2 := by rw [hD2]; exact (Below.refl _ _).alloc (Nat.le_refl _) _
   have zD2 : D1.heap.size + 1 ≤ D2.heap.size := by rw [hD2]; simp
   have HA := Lib.hid (HA.out.trans (bD2.mono (by omega)))
   (try have FA := Lib.hid (own_below FA.out bD2 (Nat.le_refl _)))
   (try have FB := Lib.hid (own_below FB.out bD2 (Nat.le_refl _)))
   (try have FC := Lib.hid (own_below FC.out bD2 (Nat.le_refl _)))
   (try have FD := Lib.hid (own_below FD.out bD2 (Nat.le_refl _)))
   (try have FM := Lib.hid (FM.out.below bD2 FM.out.lt))
   obtain ⟨gb, hg⟩ : ∃ g, g = D1.heap.size := ⟨_, rfl⟩
   have FM := Lib.hid (show Blk D2 gb 41 #[.slice none 0 0, .slice none 0 0, .slice none 0 0, .slice none 0 0] by rw [hD2, hg]; exact Blk.new _ _ _)
   rw [← hg]
   have lgba : D1.heap.size ≤ gb := by omega
   have lgbb : gb < D2.heap.size := by omega
   clear hg
   refine hK _ _ (Cls.mk' HA.out) ?_
   clear hK K hD2 bD2
   (repeat (first | (refine lex_r fun K hK => ?_; go_big_quiet_op; refine hK _ ?_; clear hK K) | (refine lex_k fun K hK => ?_; go_simp; refine hK _ ?_; clear hK K)))
   refine lex_e fun K hK => ?_
   have hrd := Rep.to_reads eSg_len (by decide) (show Rep _ S _ (frecs eSg m.1) from (HSg.out.under hS (HBU.out.trans (HA.out.mono (by omega))))) (B := D2.heap.size) (fun b hb => by have := hS b hb; omega)
   refine wp_append_any _ _ _ 36 (by rfl) U0.heap.size 99 is (.agg #[.int .i64 0, .int .i64 0, .int .i64 0]) 3 24 Try.underlying36 his hs0 hs1 hs2 rfl (by decide) _ _ _ (by rfl) FA.out _ _ _ _ (recs eSg m.1) (by rfl) hrd (recs_one _) (by unfold maxLen; omega) (by omega) (by omega) ?_
   intro v7 D3 hown7 hgrow7 hblk7
   go_simp
   rw [Nat.zero_add, List.nil_append] at hown7
   obtain ⟨gh, k0, rfl⟩ := slice_form hown7 hblk7.symm ⟨_, rfl⟩
   have hd7 : gh = ga ∨ gh = D2.heap.size := by
    rcases hblk7 with h1 | h1
    ·exact .inl (by injection h1)
    ·exact .inr (by injection h1)
   have zD3 : D2.heap.size ≤ D3.heap.size := hgrow7.size
   have lgh := (hown7.lt gh rfl).2
   have dgh : (gh = ga ∨ D2.heap.size ≤ gh) := by omega
   clear hd7
   have hkp : ∀ b, b < D2.heap.size → b ≠ ga → D3.heap[b]? = D2.heap[b]? := fun b h1 h2 => hgrow7.block b h1 (fun e => h2 (by injection e))
   have HA := Lib.hid (HA.out.trans (below_of_grown hgrow7 (by omega) (fun g hg => by have hg : ga = g := (by injection hg); omega)))
   (try have FC := Lib.hid (own_keep FC.out (fun g hg => hkp g (by have := (FC.out.lt g hg).2; omega) (by have hg : gc = g := (by injection hg); omega))))
   (try have FD := Lib.hid (own_keep FD.out (fun g hg => hkp g (by have := (FD.out.lt g hg).2; omega) (by have hg : gk = g := (by injection hg); omega))))
   (try have FM := Lib.hid (show Blk D3 gb 41 #[.slice none 0 0, .slice none 0 0, .slice none 0 0, .slice none 0 0] from (hkp gb FM.out.lt (by omega)).trans FM.out))
   have FB := Lib.hid hown7
   refine hK _ _ (Cls.mk' HA.out) ?_
   clear hK K hown7 hgrow7 hblk7 hrd hkp
   (repeat (first | (refine lex_r fun K hK => ?_; go_big_quiet_op; refine hK _ ?_; clear hK K) | (refine lex_k fun K hK => ?_; go_simp; refine hK _ ?_; clear hK K)))
   (refine lex_e fun K hK => ?_; go_big_op)
   obtain ⟨D4, hD4⟩ : ∃ x, x = D3.alloc (.cells #[] 103) := ⟨_, rfl⟩
   rw [← hD4]
   have bD4 : Below D3.heap.size D3 D4 := by rw [hD4]; exact (Below.refl _ _).alloc (Nat.le_refl _) _
   have zD4 : D3.heap.size + 1 ≤ D4.heap.size := by rw [hD4]; simp
   have HA := Lib.hid (HA.out.trans (bD4.mono (by omega)))
   (try have FA := Lib.hid (own_below FA.out bD4 (Nat.le_refl _)))
   (try have FB := Lib.hid (own_below FB.out bD4 (Nat.le_refl _)))
   (try have FC := Lib.hid (own_below FC.out bD4 (Nat.le_refl _)))
   (try have FD := Lib.hid (own_below FD.out bD4 (Nat.le_refl _)))
   (try have FM := Lib.hid (FM.out.below bD4 FM.out.lt))
   obtain ⟨gc, hg⟩ : ∃ g, g = D3.heap.size := ⟨_, rfl⟩
   have FC := Lib.hid (show D4.ownsRow U0.heap.size 103 4 (.slice (some ⟨gc, 0, none⟩) 0 0) 0 [] by rw [hD4, hg]; exact own_up' (World.ownsRow_made (base := D3.heap.size) (size := 4) (e := 103) D3 #[] 0 (Nat.le_refl _) (by unfold maxLen; omega) rfl) (fun g hg => by have hg : D3.heap.size = g := (by injection hg); omega))
   rw [← hg]
   have lgca : D3.heap.size ≤ gc := by omega
   have lgcb : gc < D4.heap.size := by omega
   clear hg
   refine hK _ _ (Cls.mk' HA.out) ?_
   clear hK K hD4 bD4
   (repeat (first | (refine lex_r fun K hK => ?_; go_big_quiet_op; refine hK _ ?_; clear hK K) | (refine lex_k fun K hK => ?_; go_simp; refine hK _ ?_; clear hK K)))
   refine lex_e fun K hK => ?_
   have hrd := Rep.to_reads eMm_len (by decide) (show Rep _ S _ (frecs eMm m.2.2.2) from (HMe.out.under hS (HBU.out.trans (HA.out.mono (by omega))))) (B := D4.heap.size) (fun b hb => by have := hS b hb; omega)
   refine wp_append_any _ _ _ 39 (by rfl) U0.heap.size 103 im (.agg #[.int .i64 0, .int .i64 0, .int .i64 0, .int .i64 0]) 4 32 Try.underlying39 him hm0' hm1' hm2' rfl (by decide) _ _ _ (by rfl) FC.out _ _ _ _ (recs eMm m.2.2.2) (by rfl) hrd (recs_one _) (by unfold maxLen; omega) (by omega) (by omega) ?_
   intro v7 D5 hown7 hgrow7 hblk7
   go_simp
   rw [Nat.zero_add, List.nil_append] at hown7
   obtain ⟨gk, k1, rfl⟩ := slice_form hown7 hblk7.symm ⟨_, rfl⟩
   have hd7 : gk = gc ∨ gk = D4.heap.size := by
    rcases hblk7 with h1 | h1
    ·exact .inl (by injection h1)
    ·exact .inr (by injection h1)
   have zD5 : D4.heap.size ≤ D5.heap.size := hgrow7.size
   have lgk := (hown7.lt gk rfl).2
   have dgk : (gk = gc ∨ D4.heap.size ≤ gk) := by omega
   clear hd7
   have hkp : ∀ b, b < D4.heap.size → b ≠ gc → D5.heap[b]? = D4.heap[b]? := fun b h1 h2 => hgrow7.block b h1 (fun e => h2 (by injection e))
   have HA := Lib.hid (HA.out.trans (below_of_grown hgrow7 (by omega) (fun g hg => by have hg : gc = g := (by injection hg); omega)))
   (try have FA := Lib.hid (own_keep FA.out (fun g hg => hkp g (by have := (FA.out.lt g hg).2; omega) (by have hg : ga = g := (by injection hg); omega))))
   (try have FB := Lib.hid (own_keep FB.out (fun g hg => hkp g (by have := (FB.out.lt g hg).2; omega) (by have hg : gh = g := (by injection hg); omega))))
   (try have FM := Lib.hid (show Blk D5 gb 41 #[.slice none 0 0, .slice none 0 0, .slice none 0 0, .slice none 0 0] from (hkp gb FM.out.lt (by omega)).trans FM.out))
   have FD := Lib.hid hown7
   refine hK _ _ (Cls.mk' HA.out) ?_
   clear hK K hown7 hgrow7 hblk7 hrd hkp
   obtain ⟨q0, q1, q2, q3⟩ := blkS4 FM.out
   have f0 := FM.out.frozen 0
   have f1 := FM.out.frozen 1
   have f2 := FM.out.frozen 2
   have f3 := FM.out.frozen 3
   (repeat (first | (refine lex_r fun K hK => ?_; go_big_quiet_op; refine hK _ ?_; clear hK K) | (refine lex_k fun K hK => ?_; go_simp; refine hK _ ?_; clear hK K)))
   (refine lex_e fun K hK => ?_; go_big_op)
   obtain ⟨wx, hwx⟩ : ∃ x, x = ((((D5.setCell ⟨gb, 0, none⟩ (.slice (some ⟨gh, 0, none⟩) ns k0)).setCell ⟨gb, 1, none⟩ (.slice none 0 0)).setCell ⟨gb, 2, none⟩ (.slice none 0 0)).setCell ⟨gb, 3, none⟩ (.slice (some ⟨gk, 0, none⟩) nm k1)) := ⟨_, rfl⟩
   rw [← hwx]
   have hgU : U0.heap.size ≤ gb := by omega
   have HA := Lib.hid (show Below U0.heap.size U0 wx by rw [hwx]; exact (((HA.out.setCell hgU _).setCell hgU _).setCell hgU _).setCell hgU _)
   refine hK _ _ (Cls.mk' HA.out) ?_
   clear hK K q0 q1 q2 q3 f0 f1 f2 f3
   (repeat (first | (refine lex_r fun K hK => ?_; go_big_quiet_op; refine hK _ ?_; clear hK K) | (refine lex_k fun K hK => ?_; go_simp; refine hK _ ?_; clear hK K)))
   (refine lex_nil ?_)
   refine ⟨Cls.mk' HA.out, ?_⟩
   clear lexNE cm0 cm1 cm2 cm3
   go_wp2_with fail
   go_meet
   case rel =>
    have hk2 : ∀ b, b ≠ gb → wx.heap[b]? = D5.heap[b]? := fun b hb => by
     rw [hwx]
     exact (Below.heap_setCell _ ⟨gb, 3, none⟩ _ b hb).trans ((Below.heap_setCell _ ⟨gb, 2, none⟩ _ b hb).trans ((Below.heap_setCell _ ⟨gb, 1, none⟩ _ b hb).trans (Below.heap_setCell _ ⟨gb, 0, none⟩ _ b hb)))
    refine ⟨gb, gh, k0, gk, k1, rfl, ?_, ?_, ?_, ⟨by omega, by omega, by omega⟩, ⟨by omega, by omega, by omega⟩, HA.out⟩
    ·exact own_keep FB.out (fun g hg => hk2 g (by have hg : gh = g := (by injection hg); omega))
    ·exact own_keep FD.out (fun g hg => hk2 g (by have hg : gk = g := (by injection hg); omega))
    ·rw [hwx]
     exact blk_four FM.out
  ·(repeat (first | (refine lex_r fun K hK => ?_; go_big_quiet_op; refine hK _ ?_; clear hK K) | (refine lex_k fun K hK => ?_; go_simp; refine hK _ ?_; clear hK K)))
   (refine lex_e fun K hK => ?_; go_big_op)
   obtain ⟨D1, hD1⟩ : ∃ x, x = D.alloc (.cells #[] 99) := ⟨_, rfl⟩
   rw [← hD1]
   have bD1 : Below D.heap.size D D1 := by rw [hD1]; exact (Below.refl _ _).alloc (Nat.le_refl _) _
   have zD1 : D.heap.size + 1 ≤ D1.heap.size := by rw [hD1]; simp
   have HA := Lib.hid (HA.out.trans (bD1.mono (by omega)))
   (try have FA := Lib.hid (own_below FA.out bD1 (Nat.le_refl _)))
   (try have FB := Lib.hid (own_below FB.out bD1 (Nat.le_refl _)))
   (try have FC := Lib.hid (own_below FC.out bD1 (Nat.le_refl _)))
   (try have FD := Lib.hid (own_below FD.out bD1 (Nat.le_refl _)))
   (try have FM := Lib.hid (FM.out.below bD1 FM.out.lt))
   obtain ⟨ga, hg⟩ : ∃ g, g = D.heap.size := ⟨_, rfl⟩
   have FA := Lib.hid (show D1.ownsRow U0.heap.size 99 3 (.slice (some ⟨ga, 0, none⟩) 0 0) 0 [] by rw [hD1, hg]; exact own_up' (World.ownsRow_made (base := D.heap.size) (size := 3) (e := 99) D #[] 0 (Nat.le_refl _) (by unfold maxLen; omega) rfl) (fun g hg => by have hg : D.heap.size = g := (by injection hg); omega))
   rw [← hg]
   have lgaa : D.heap.size ≤ ga := by omega
   have lgab : ga < D1.heap.size := by omega
   clear hg
   refine hK _ _ (Cls.mk' HA.out) ?_
   clear hK K hD1 bD1
   (repeat (first | (refine lex_r fun K hK => ?_; go_big_quiet_op; refine hK _ ?_; clear hK K) | (refine lex_k fun K hK => ?_; go_simp; refine hK _ ?_; clear hK K)))
   (refine lex_e fun K hK => ?_; go_big_op)
   obtain ⟨D2, hD2⟩ : ∃ x, x = D1.alloc (.cells #[] 103) := ⟨_, rfl⟩
   rw [← hD2]
   have bD2 : Below D1.heap.size D1 D2 := by rw [hD2]; exact (Below.refl _ _).alloc (Nat.le_refl _) _
   have zD2 : D1.heap.size + 1 ≤ D2.heap.size := by rw [hD2]; simp
   have HA := Lib.hid (HA.out.trans (bD2.mono (by omega)))
   (try have FA := Lib.hid (own_below FA.out bD2 (Nat.le_refl _)))
   (try have FB := Lib.hid (own_below FB.out bD2 (Nat.le_refl _)))
   (try have FC := Lib.hid (own_below FC.out bD2 (Nat.le_refl _)))
   (try have FD := Lib.hid (own_below FD.out bD2 (Nat.le_refl _)))
   (try have FM := Lib.hid (FM.out.below bD2 FM.out.lt))
   obtain ⟨gc, hg⟩ : ∃ g, g = D1.heap.size := ⟨_, rfl⟩
   have FC := Lib.hid (show D2.ownsRow U0.heap.size 103 4 (.slice (some ⟨gc, 0, none⟩) 0 0) 0 [] by rw [hD2, hg]; exact own_up' (World.ownsRow_made (base := D1.heap.size) (size := 4) (e := 103) D1 #[] 0 (Nat.le_refl _) (by unfold maxLen; omega) rfl) (fun g hg => by have hg : D1.heap.size = g := (by injection hg); omega))
   rw [← hg]
   have lgca : D1.heap.size ≤ gc := by omega
   have lgcb : gc < D2.heap.size := by omega
   clear hg
   refine hK _ _ (Cls.mk' HA.out) ?_
   clear hK K hD2 bD2
   (repeat (first | (refine lex_r fun K hK => ?_; go_big_quiet_op; refine hK _ ?_; clear hK K) | (refine lex_k fun K hK => ?_; go_simp; refine hK _ ?_; clear hK K)))
   refine lex_e fun K hK => ?_
   have hrd := Rep.to_reads eSg_len (by decide) (show Rep _ S _ (frecs eSg m.1) from (HSg.out.under hS (HBU.out.trans (HA.out.mono (by omega))))) (B := D2.heap.size) (fun b hb => by have := hS b hb; omega)
   refine wp_append_any _ _ _ 36 (by rfl) U0.heap.size 99 is (.agg #[.int .i64 0, .int .i64 0, .int .i64 0]) 3 24 Try.underlying36 his hs0 hs1 hs2 rfl (by decide) _ _ _ (by rfl) FA.out _ _ _ _ (recs eSg m.1) (by rfl) hrd (recs_one _) (by unfold maxLen; omega) (by omega) (by omega) ?_
   intro v7 D3 hown7 hgrow7 hblk7
   go_simp
   rw [Nat.zero_add, List.nil_append] at hown7
   obtain ⟨gh, k0, rfl⟩ := slice_form hown7 hblk7.symm ⟨_, rfl⟩
   have hd7 : gh = ga ∨ gh = D2.heap.size := by
    rcases hblk7 with h1 | h1
    ·exact .inl (by injection h1)
    ·exact .inr (by injection h1)
   have zD3 : D2.heap.size ≤ D3.heap.size := hgrow7.size
   have lgh := (hown7.lt gh rfl).2
   have dgh : (gh = ga ∨ D2.heap.size ≤ gh) := by omega
   clear hd7
   have hkp : ∀ b, b < D2.heap.size → b ≠ ga → D3.heap[b]? = D2.heap[b]? := fun b h1 h2 => hgrow7.block b h1 (fun e => h2 (by injection e))
   have HA := Lib.hid (HA.out.trans (below_of_grown hgrow7 (by omega) (fun g hg => by have hg : ga = g := (by injection hg); omega)))
   (try have FC := Lib.hid (own_keep FC.out (fun g hg => hkp g (by have := (FC.out.lt g hg).2; omega) (by have hg : gc = g := (by injection hg); omega))))
   (try have FD := Lib.hid (own_keep FD.out (fun g hg => hkp g (by have := (FD.out.lt g hg).2; omega) (by have hg : gk = g := (by injection hg); omega))))
   (try have FM := Lib.hid (show Blk D3 gb 41 #[.slice none 0 0, .slice none 0 0, .slice none 0 0, .slice none 0 0] from (hkp gb FM.out.lt (by omega)).trans FM.out))
   have FB := Lib.hid hown7
   refine hK _ _ (Cls.mk' HA.out) ?_
   clear hK K hown7 hgrow7 hblk7 hrd hkp
   (repeat (first | (refine lex_r fun K hK => ?_; go_big_quiet_op; refine hK _ ?_; clear hK K) | (refine lex_k fun K hK => ?_; go_simp; refine hK _ ?_; clear hK K)))
   refine lex_e fun K hK => ?_
   have hrd := Rep.to_reads eMm_len (by decide) (show Rep _ S _ (frecs eMm m.2.2.2) from (HMe.out.under hS (HBU.out.trans (HA.out.mono (by omega))))) (B := D3.heap.size) (fun b hb => by have := hS b hb; omega)
   refine wp_append_any _ _ _ 39 (by rfl) U0.heap.size 103 im (.agg #[.int .i64 0, .int .i64 0, .int .i64 0, .int .i64 0]) 4 32 Try.underlying39 him hm0' hm1' hm2' rfl (by decide) _ _ _ (by rfl) FC.out _ _ _ _ (recs eMm m.2.2.2) (by rfl) hrd (recs_one _) (by unfold maxLen; omega) (by omega) (by omega) ?_
   intro v7 D4 hown7 hgrow7 hblk7
   go_simp
   rw [Nat.zero_add, List.nil_append] at hown7
   obtain ⟨gk, k1, rfl⟩ := slice_form hown7 hblk7.symm ⟨_, rfl⟩
   have hd7 : gk = gc ∨ gk = D3.heap.size := by
    rcases hblk7 with h1 | h1
    ·exact .inl (by injection h1)
    ·exact .inr (by injection h1)
   have zD4 : D3.heap.size ≤ D4.heap.size := hgrow7.size
   have lgk := (hown7.lt gk rfl).2
   have dgk : (gk = gc ∨ D3.heap.size ≤ gk) := by omega
   clear hd7
   have hkp : ∀ b, b < D3.heap.size → b ≠ gc → D4.heap[b]? = D3.heap[b]? := fun b h1 h2 => hgrow7.block b h1 (fun e => h2 (by injection e))
   have HA := Lib.hid (HA.out.trans (below_of_grown hgrow7 (by omega) (fun g hg => by have hg : gc = g := (by injection hg); omega)))
   (try have FA := Lib.hid (own_keep FA.out (fun g hg => hkp g (by have := (FA.out.lt g hg).2; omega) (by have hg : ga = g := (by injection hg); omega))))
   (try have FB := Lib.hid (own_keep FB.out (fun g hg => hkp g (by have := (FB.out.lt g hg).2; omega) (by have hg : gh = g := (by injection hg); omega))))
   (try have FM := Lib.hid (show Blk D4 gb 41 #[.slice none 0 0, .slice none 0 0, .slice none 0 0, .slice none 0 0] from (hkp gb FM.out.lt (by omega)).trans FM.out))
   have FD := Lib.hid hown7
   refine hK _ _ (Cls.mk' HA.out) ?_
   clear hK K hown7 hgrow7 hblk7 hrd hkp
   (repeat (first | (refine lex_r fun K hK => ?_; go_big_quiet_op; refine hK _ ?_; clear hK K) | (refine lex_k fun K hK => ?_; go_simp; refine hK _ ?_; clear hK K)))
   (refine lex_e fun K hK => ?_; go_big_op)
   obtain ⟨D5, hD5⟩ : ∃ x, x = D4.alloc (.cells #[.slice none 0 0, .slice none 0 0, .slice none 0 0, .slice none 0 0] 41) := ⟨_, rfl⟩
   rw [← hD5]
   have bD5 : Below D4.heap.size D4 D5 := by rw [hD5]; exact (Below.refl _ _).alloc (Nat.le_refl _) _
   have zD5 : D4.heap.size + 1 ≤ D5.heap.size := by rw [hD5]; simp
   have HA := Lib.hid (HA.out.trans (bD5.mono (by omega)))
   (try have FA := Lib.hid (own_below FA.out bD5 (Nat.le_refl _)))
   (try have FB := Lib.hid (own_below FB.out bD5 (Nat.le_refl _)))
   (try have FC := Lib.hid (own_below FC.out bD5 (Nat.le_refl _)))
   (try have FD := Lib.hid (own_below FD.out bD5 (Nat.le_refl _)))
   (try have FM := Lib.hid (FM.out.below bD5 FM.out.lt))
   obtain ⟨gb, hg⟩ : ∃ g, g = D4.heap.size := ⟨_, rfl⟩
   have FM := Lib.hid (show Blk D5 gb 41 #[.slice none 0 0, .slice none 0 0, .slice none 0 0, .slice none 0 0] by rw [hD5, hg]; exact Blk.new _ _ _)
   rw [← hg]
   have lgba : D4.heap.size ≤ gb := by omega
   have lgbb : gb < D5.heap.size := by omega
   clear hg
   refine hK _ _ (Cls.mk' HA.out) ?_
   clear hK K hD5 bD5
   obtain ⟨q0, q1, q2, q3⟩ := blkS4 FM.out
   have f0 := FM.out.frozen 0
   have f1 := FM.out.frozen 1
   have f2 := FM.out.frozen 2
   have f3 := FM.out.frozen 3
   (repeat (first | (refine lex_r fun K hK => ?_; go_big_quiet_op; refine hK _ ?_; clear hK K) | (refine lex_k fun K hK => ?_; go_simp; refine hK _ ?_; clear hK K)))
   (refine lex_e fun K hK => ?_; go_big_op)
   obtain ⟨wx, hwx⟩ : ∃ x, x = ((((D5.setCell ⟨gb, 0, none⟩ (.slice (some ⟨gh, 0, none⟩) ns k0)).setCell ⟨gb, 1, none⟩ (.slice none 0 0)).setCell ⟨gb, 2, none⟩ (.slice none 0 0)).setCell ⟨gb, 3, none⟩ (.slice (some ⟨gk, 0, none⟩) nm k1)) := ⟨_, rfl⟩
   rw [← hwx]
   have hgU : U0.heap.size ≤ gb := by omega
   have HA := Lib.hid (show Below U0.heap.size U0 wx by rw [hwx]; exact (((HA.out.setCell hgU _).setCell hgU _).setCell hgU _).setCell hgU _)
   refine hK _ _ (Cls.mk' HA.out) ?_
   clear hK K q0 q1 q2 q3 f0 f1 f2 f3
   (repeat (first | (refine lex_r fun K hK => ?_; go_big_quiet_op; refine hK _ ?_; clear hK K) | (refine lex_k fun K hK => ?_; go_simp; refine hK _ ?_; clear hK K)))
   (refine lex_nil ?_)
   refine ⟨Cls.mk' HA.out, ?_⟩
   clear lexNE cm0 cm1 cm2 cm3
   go_wp2_with fail
   go_meet
   case rel =>
    have hk2 : ∀ b, b ≠ gb → wx.heap[b]? = D5.heap[b]? := fun b hb => by
     rw [hwx]
     exact (Below.heap_setCell _ ⟨gb, 3, none⟩ _ b hb).trans ((Below.heap_setCell _ ⟨gb, 2, none⟩ _ b hb).trans ((Below.heap_setCell _ ⟨gb, 1, none⟩ _ b hb).trans (Below.heap_setCell _ ⟨gb, 0, none⟩ _ b hb)))
    refine ⟨gb, gh, k0, gk, k1, rfl, ?_, ?_, ?_, ⟨by omega, by omega, by omega⟩, ⟨by omega, by omega, by omega⟩, HA.out⟩
    ·exact own_keep FB.out (fun g hg => hk2 g (by have hg : gh = g := (by injection hg); omega))
    ·exact own_keep FD.out (fun g hg => hk2 g (by have hg : gk = g := (by injection hg); omega))
    ·rw [hwx]
     exact blk_four FM.out
  ·(repeat (first | (refine lex_r fun K hK => ?_; go_big_quiet_op; refine hK _ ?_; clear hK K) | (refine lex_k fun K hK => ?_; go_simp; refine hK _ ?_; clear hK K)))
   (refine lex_e fun K hK => ?_; go_big_op)
   obtain ⟨D1, hD1⟩ : ∃ x, x = D.alloc (.cells #[] 99) := ⟨_, rfl⟩
   rw [← hD1]
   have bD1 : Below D.heap.size D D1 := by rw [hD1]; exact (Below.refl _ _).alloc (Nat.le_refl _) _
   have zD1 : D.heap.size + 1 ≤ D1.heap.size := by rw [hD1]; simp
   have HA := Lib.hid (HA.out.trans (bD1.mono (by omega)))
   (try have FA := Lib.hid (own_below FA.out bD1 (Nat.le_refl _)))
   (try have FB := Lib.hid (own_below FB.out bD1 (Nat.le_refl _)))
   (try have FC := Lib.hid (own_below FC.out bD1 (Nat.le_refl _)))
   (try have FD := Lib.hid (own_below FD.out bD1 (Nat.le_refl _)))
   (try have FM := Lib.hid (FM.out.below bD1 FM.out.lt))
   obtain ⟨ga, hg⟩ : ∃ g, g = D.heap.size := ⟨_, rfl⟩
   have FA := Lib.hid (show D1.ownsRow U0.heap.size 99 3 (.slice (some ⟨ga, 0, none⟩) 0 0) 0 [] by rw [hD1, hg]; exact own_up' (World.ownsRow_made (base := D.heap.size) (size := 3) (e := 99) D #[] 0 (Nat.le_refl _) (by unfold maxLen; omega) rfl) (fun g hg => by have hg : D.heap.size = g := (by injection hg); omega))
   rw [← hg]
   have lgaa : D.heap.size ≤ ga := by omega
   have lgab : ga < D1.heap.size := by omega
   clear hg
   refine hK _ _ (Cls.mk' HA.out) ?_
   clear hK K hD1 bD1
   (repeat (first | (refine lex_r fun K hK => ?_; go_big_quiet_op; refine hK _ ?_; clear hK K) | (refine lex_k fun K hK => ?_; go_simp; refine hK _ ?_; clear hK K)))
   (refine lex_e fun K hK => ?_; go_big_op)
   obtain ⟨D2, hD2⟩ : ∃ x, x = D1.alloc (.cells #[] 103) := ⟨_, rfl⟩
   rw [← hD2]
   have bD2 : Below D1.heap.size D1 D2 := by rw [hD2]; exact (Below.refl _ _).alloc (Nat.le_refl _) _
   have zD2 : D1.heap.size + 1 ≤ D2.heap.size := by rw [hD2]; simp
   have HA := Lib.hid (HA.out.trans (bD2.mono (by omega)))
   (try have FA := Lib.hid (own_below FA.out bD2 (Nat.le_refl _)))
   (try have FB := Lib.hid (own_below FB.out bD2 (Nat.le_refl _)))
   (try have FC := Lib.hid (own_below FC.out bD2 (Nat.le_refl _)))
   (try have FD := Lib.hid (own_below FD.out bD2 (Nat.le_refl _)))
   (try have FM := Lib.hid (FM.out.below bD2 FM.out.lt))
   obtain ⟨gc, hg⟩ : ∃ g, g = D1.heap.size := ⟨_, rfl⟩
   have FC := Lib.hid (show D2.ownsRow U0.heap.size 103 4 (.slice (some ⟨gc, 0, none⟩) 0 0) 0 [] by rw [hD2, hg]; exact own_up' (World.ownsRow_made (base := D1.heap.size) (size := 4) (e := 103) D1 #[] 0 (Nat.le_refl _) (by unfold maxLen; omega) rfl) (fun g hg => by have hg : D1.heap.size = g := (by injection hg); omega))
   rw [← hg]
   have lgca : D1.heap.size ≤ gc := by omega
   have lgcb : gc < D2.heap.size := by omega
   clear hg
   refine hK _ _ (Cls.mk' HA.out) ?_
   clear hK K hD2 bD2
   (repeat (first | (refine lex_r fun K hK => ?_; go_big_quiet_op; refine hK _ ?_; clear hK K) | (refine lex_k fun K hK => ?_; go_simp; refine hK _ ?_; clear hK K)))
   refine lex_e fun K hK => ?_
   have hrd := Rep.to_reads eSg_len (by decide) (show Rep _ S _ (frecs eSg m.1) from (HSg.out.under hS (HBU.out.trans (HA.out.mono (by omega))))) (B := D2.heap.size) (fun b hb => by have := hS b hb; omega)
   refine wp_append_any _ _ _ 36 (by rfl) U0.heap.size 99 is (.agg #[.int .i64 0, .int .i64 0, .int .i64 0]) 3 24 Try.underlying36 his hs0 hs1 hs2 rfl (by decide) _ _ _ (by rfl) FA.out _ _ _ _ (recs eSg m.1) (by rfl) hrd (recs_one _) (by unfold maxLen; omega) (by omega) (by omega) ?_
   intro v7 D3 hown7 hgrow7 hblk7
   go_simp
   rw [Nat.zero_add, List.nil_append] at hown7
   obtain ⟨gh, k0, rfl⟩ := slice_form hown7 hblk7.symm ⟨_, rfl⟩
   have hd7 : gh = ga ∨ gh = D2.heap.size := by
    rcases hblk7 with h1 | h1
    ·exact .inl (by injection h1)
    ·exact .inr (by injection h1)
   have zD3 : D2.heap.size ≤ D3.heap.size := hgrow7.size
   have lgh := (hown7.lt gh rfl).2
   have dgh : (gh = ga ∨ D2.heap.size ≤ gh) := by omega
   clear hd7
   have hkp : ∀ b, b < D2.heap.size → b ≠ ga → D3.heap[b]? = D2.heap[b]? := fun b h1 h2 => hgrow7.block b h1 (fun e => h2 (by injection e))
   have HA := Lib.hid (HA.out.trans (below_of_grown hgrow7 (by omega) (fun g hg => by have hg : ga = g := (by injection hg); omega)))
   (try have FC := Lib.hid (own_keep FC.out (fun g hg => hkp g (by have := (FC.out.lt g hg).2; omega) (by have hg : gc = g := (by injection hg); omega))))
   (try have FD := Lib.hid (own_keep FD.out (fun g hg => hkp g (by have := (FD.out.lt g hg).2; omega) (by have hg : gk = g := (by injection hg); omega))))
   (try have FM := Lib.hid (show Blk D3 gb 41 #[.slice none 0 0, .slice none 0 0, .slice none 0 0, .slice none 0 0] from (hkp gb FM.out.lt (by omega)).trans FM.out))
   have FB := Lib.hid hown7
   refine hK _ _ (Cls.mk' HA.out) ?_
   clear hK K hown7 hgrow7 hblk7 hrd hkp
   (repeat (first | (refine lex_r fun K hK => ?_; go_big_quiet_op; refine hK _ ?_; clear hK K) | (refine lex_k fun K hK => ?_; go_simp; refine hK _ ?_; clear hK K)))
   (refine lex_e fun K hK => ?_; go_big_op)
   obtain ⟨D4, hD4⟩ : ∃ x, x = D3.alloc (.cells #[.slice none 0 0, .slice none 0 0, .slice none 0 0, .slice none 0 0] 41) := ⟨_, rfl⟩
   rw [← hD4]
   have bD4 : Below D3.heap.size D3 D4 := by rw [hD4]; exact (Below.refl _ _).alloc (Nat.le_refl _) _
   have zD4 : D3.heap.size + 1 ≤ D4.heap.size := by rw [hD4]; simp
   have HA := Lib.hid (HA.out.trans (bD4.mono (by omega)))
   (try have FA := Lib.hid (own_below FA.out bD4 (Nat.le_refl _)))
   (try have FB := Lib.hid (own_below FB.out bD4 (Nat.le_refl _)))
   (try have FC := Lib.hid (own_below FC.out bD4 (Nat.le_refl _)))
   (try have FD := Lib.hid (own_below FD.out bD4 (Nat.le_refl _)))
   (try have FM := Lib.hid (FM.out.below bD4 FM.out.lt))
   obtain ⟨gb, hg⟩ : ∃ g, g = D3.heap.size := ⟨_, rfl⟩
   have FM := Lib.hid (show Blk D4 gb 41 #[.slice none 0 0, .slice none 0 0, .slice none 0 0, .slice none 0 0] by rw [hD4, hg]; exact Blk.new _ _ _)
   rw [← hg]
   have lgba : D3.heap.size ≤ gb := by omega
   have lgbb : gb < D4.heap.size := by omega
   clear hg
   refine hK _ _ (Cls.mk' HA.out) ?_
   clear hK K hD4 bD4
   (repeat (first | (refine lex_r fun K hK => ?_; go_big_quiet_op; refine hK _ ?_; clear hK K) | (refine lex_k fun K hK => ?_; go_simp; refine hK _ ?_; clear hK K)))
   refine lex_e fun K hK => ?_
   have hrd := Rep.to_reads eMm_len (by decide) (show Rep _ S _ (frecs eMm m.2.2.2) from (HMe.out.under hS (HBU.out.trans (HA.out.mono (by omega))))) (B := D4.heap.size) (fun b hb => by have := hS b hb; omega)
   refine wp_append_any _ _ _ 39 (by rfl) U0.heap.size 103 im (.agg #[.int .i64 0, .int .i64 0, .int .i64 0, .int .i64 0]) 4 32 Try.underlying39 him hm0' hm1' hm2' rfl (by decide) _ _ _ (by rfl) FC.out _ _ _ _ (recs eMm m.2.2.2) (by rfl) hrd (recs_one _) (by unfold maxLen; omega) (by omega) (by omega) ?_
   intro v7 D5 hown7 hgrow7 hblk7
   go_simp
   rw [Nat.zero_add, List.nil_append] at hown7
   obtain ⟨gk, k1, rfl⟩ := slice_form hown7 hblk7.symm ⟨_, rfl⟩
   have hd7 : gk = gc ∨ gk = D4.heap.size := by
    rcases hblk7 with h1 | h1
    ·exact .inl (by injection h1)
    ·exact .inr (by injection h1)
   have zD5 : D4.heap.size ≤ D5.heap.size := hgrow7.size
   have lgk := (hown7.lt gk rfl).2
   have dgk : (gk = gc ∨ D4.heap.size ≤ gk) := by omega
   clear hd7
   have hkp : ∀ b, b < D4.heap.size → b ≠ gc → D5.heap[b]? = D4.heap[b]? := fun b h1 h2 => hgrow7.block b h1 (fun e => h2 (by injection e))
   have HA := Lib.hid (HA.out.trans (below_of_grown hgrow7 (by omega) (fun g hg => by have hg : gc = g := (by injection hg); omega)))
   (try have FA := Lib.hid (own_keep FA.out (fun g hg => hkp g (by have := (FA.out.lt g hg).2; omega) (by have hg : ga = g := (by injection hg); omega))))
   (try have FB := Lib.hid (own_keep FB.out (fun g hg => hkp g (by have := (FB.out.lt g hg).2; omega) (by have hg : gh = g := (by injection hg); omega))))
   (try have FM := Lib.hid (show Blk D5 gb 41 #[.slice none 0 0, .slice none 0 0, .slice none 0 0, .slice none 0 0] from (hkp gb FM.out.lt (by omega)).trans FM.out))
   have FD := Lib.hid hown7
   refine hK _ _ (Cls.mk' HA.out) ?_
   clear hK K hown7 hgrow7 hblk7 hrd hkp
   obtain ⟨q0, q1, q2, q3⟩ := blkS4 FM.out
   have f0 := FM.out.frozen 0
   have f1 := FM.out.frozen 1
   have f2 := FM.out.frozen 2
   have f3 := FM.out.frozen 3
   (repeat (first | (refine lex_r fun K hK => ?_; go_big_quiet_op; refine hK _ ?_; clear hK K) | (refine lex_k fun K hK => ?_; go_simp; refine hK _ ?_; clear hK K)))
   (refine lex_e fun K hK => ?_; go_big_op)
   obtain ⟨wx, hwx⟩ : ∃ x, x = ((((D5.setCell ⟨gb, 0, none⟩ (.slice (some ⟨gh, 0, none⟩) ns k0)).setCell ⟨gb, 1, none⟩ (.slice none 0 0)).setCell ⟨gb, 2, none⟩ (.slice none 0 0)).setCell ⟨gb, 3, none⟩ (.slice (some ⟨gk, 0, none⟩) nm k1)) := ⟨_, rfl⟩
   rw [← hwx]
   have hgU : U0.heap.size ≤ gb := by omega
   have HA := Lib.hid (show Below U0.heap.size U0 wx by rw [hwx]; exact (((HA.out.setCell hgU _).setCell hgU _).setCell hgU _).setCell hgU _)
   refine hK _ _ (Cls.mk' HA.out) ?_
   clear hK K q0 q1 q2 q3 f0 f1 f2 f3
   (repeat (first | (refine lex_r fun K hK => ?_; go_big_quiet_op; refine hK _ ?_; clear hK K) | (refine lex_k fun K hK => ?_; go_simp; refine hK _ ?_; clear hK K)))
   (refine lex_nil ?_)
   refine ⟨Cls.mk' HA.out, ?_⟩
   clear lexNE cm0 cm1 cm2 cm3
   go_wp2_with fail
   go_meet
   case rel =>
    have hk2 : ∀ b, b ≠ gb → wx.heap[b]? = D5.heap[b]? := fun b hb => by
     rw [hwx]
     exact (Below.heap_setCell _ ⟨gb, 3, none⟩ _ b hb).trans ((Below.heap_setCell _ ⟨gb, 2, none⟩ _ b hb).trans ((Below.heap_setCell _ ⟨gb, 1, none⟩ _ b hb).trans (Below.heap_setCell _ ⟨gb, 0, none⟩ _ b hb)))
    refine ⟨gb, gh, k0, gk, k1, rfl, ?_, ?_, ?_, ⟨by omega, by omega, by omega⟩, ⟨by omega, by omega, by omega⟩, HA.out⟩
    ·exact own_keep FB.out (fun g hg => hk2 g (by have hg : gh = g := (by injection hg); omega))
    ·exact own_keep FD.out (fun g hg => hk2 g (by have hg : gk = g := (by injection hg); omega))
    ·rw [hwx]
     exact blk_four FM.out
  ·(repeat (first | (refine lex_r fun K hK => ?_; go_big_quiet_op; refine hK _ ?_; clear hK K) | (refine lex_k fun K hK => ?_; go_simp; refine hK _ ?_; clear hK K)))
   (refine lex_e fun K hK => ?_; go_big_op)
   obtain ⟨D1, hD1⟩ : ∃ x, x = D.alloc (.cells #[] 99) := ⟨_, rfl⟩
   rw [← hD1]
   have bD1 : Below D.heap.size D D1 := by rw [hD1]; exact (Below.refl _ _).alloc (Nat.le_refl _) _
   have zD1 : D.heap.size + 1 ≤ D1.heap.size := by rw [hD1]; simp
   have HA := Lib.hid (HA.out.trans (bD1.mono (by omega)))
   (try have FA := Lib.hid (own_below FA.out bD1 (Nat.le_refl _)))
   (try have FB := Lib.hid (own_below FB.out bD1 (Nat.le_refl _)))
   (try have FC := Lib.hid (own_below FC.out bD1 (Nat.le_refl _)))
   (try have FD := Lib.hid (own_below FD.out bD1 (Nat.le_refl _)))
   (try have FM := Lib.hid (FM.out.below bD1 FM.out.lt))
   obtain ⟨ga, hg⟩ : ∃ g, g = D.heap.size := ⟨_, rfl⟩
   have FA := Lib.hid (show D1.ownsRow U0.heap.size 99 3 (.slice (some ⟨ga, 0, none⟩) 0 0) 0 [] by rw [hD1, hg]; exact own_up' (World.ownsRow_made (base := D.heap.size) (size := 3) (e := 99) D #[] 0 (Nat.le_refl _) (by unfold maxLen; omega) rfl) (fun g hg => by have hg : D.heap.size = g := (by injection hg); omega))
   rw [← hg]
   have lgaa : D.heap.size ≤ ga := by omega
   have lgab : ga < D1.heap.size := by omega
   clear hg
   refine hK _ _ (Cls.mk' HA.out) ?_
   clear hK K hD1 bD1
   (repeat (first | (refine lex_r fun K hK => ?_; go_big_quiet_op; refine hK _ ?_; clear hK K) | (refine lex_k fun K hK => ?_; go_simp; refine hK _ ?_; clear hK K)))
   (refine lex_e fun K hK => ?_; go_big_op)
   obtain ⟨D2, hD2⟩ : ∃ x, x = D1.alloc (.cells #[] 103) := ⟨_, rfl⟩
   rw [← hD2]
   have bD2 : Below D1.heap.size D1 D2 := by rw [hD2]; exact (Below.refl _ _).alloc (Nat.le_refl _) _
   have zD2 : D1.heap.size + 1 ≤ D2.heap.size := by rw [hD2]; simp
   have HA := Lib.hid (HA.out.trans (bD2.mono (by omega)))
   (try have FA := Lib.hid (own_below FA.out bD2 (Nat.le_refl _)))
   (try have FB := Lib.hid (own_below FB.out bD2 (Nat.le_refl _)))
   (try have FC := Lib.hid (own_below FC.out bD2 (Nat.le_refl _)))
   (try have FD := Lib.hid (own_below FD.out bD2 (Nat.le_refl _)))
   (try have FM := Lib.hid (FM.out.below bD2 FM.out.lt))
   obtain ⟨gc, hg⟩ : ∃ g, g = D1.heap.size := ⟨_, rfl⟩
   have FC := Lib.hid (show D2.ownsRow U0.heap.size 103 4 (.slice (some ⟨gc, 0, none⟩) 0 0) 0 [] by rw [hD2, hg]; exact own_up' (World.ownsRow_made (base := D1.heap.size) (size := 4) (e := 103) D1 #[] 0 (Nat.le_refl _) (by unfold maxLen; omega) rfl) (fun g hg => by have hg : D1.heap.size = g := (by injection hg); omega))
   rw [← hg]
   have lgca : D1.heap.size ≤ gc := by omega
   have lgcb : gc < D2.heap.size := by omega
   clear hg
   refine hK _ _ (Cls.mk' HA.out) ?_
   clear hK K hD2 bD2
   (repeat (first | (refine lex_r fun K hK => ?_; go_big_quiet_op; refine hK _ ?_; clear hK K) | (refine lex_k fun K hK => ?_; go_simp; refine hK _ ?_; clear hK K)))
   (refine lex_e fun K hK => ?_; go_big_op)
   obtain ⟨D3, hD3⟩ : ∃ x, x = D2.alloc (.cells #[.slice none 0 0, .slice none 0 0, .slice none 0 0, .slice none 0 0] 41) := ⟨_, rfl⟩
   rw [← hD3]
   have bD3 : Below D2.heap.size D2 D3 := by rw [hD3]; exact (Below.refl _ _).alloc (Nat.le_refl _) _
   have zD3 : D2.heap.size + 1 ≤ D3.heap.size := by rw [hD3]; simp
   have HA := Lib.hid (HA.out.trans (bD3.mono (by omega)))
   (try have FA := Lib.hid (own_below FA.out bD3 (Nat.le_refl _)))
   (try have FB := Lib.hid (own_below FB.out bD3 (Nat.le_refl _)))
   (try have FC := Lib.hid (own_below FC.out bD3 (Nat.le_refl _)))
   (try have FD := Lib.hid (own_below FD.out bD3 (Nat.le_refl _)))
   (try have FM := Lib.hid (FM.out.below bD3 FM.out.lt))
   obtain ⟨gb, hg⟩ : ∃ g, g = D2.heap.size := ⟨_, rfl⟩
   have FM := Lib.hid (show Blk D3 gb 41 #[.slice none 0 0, .slice none 0 0, .slice none 0 0, .slice none 0 0] by rw [hD3, hg]; exact Blk.new _ _ _)
   rw [← hg]
   have lgba : D2.heap.size ≤ gb := by omega
   have lgbb : gb < D3.heap.size := by omega
   clear hg
   refine hK _ _ (Cls.mk' HA.out) ?_
   clear hK K hD3 bD3
   (repeat (first | (refine lex_r fun K hK => ?_; go_big_quiet_op; refine hK _ ?_; clear hK K) | (refine lex_k fun K hK => ?_; go_simp; refine hK _ ?_; clear hK K)))
   refine lex_e fun K hK => ?_
   have hrd := Rep.to_reads eSg_len (by decide) (show Rep _ S _ (frecs eSg m.1) from (HSg.out.under hS (HBU.out.trans (HA.out.mono (by omega))))) (B := D3.heap.size) (fun b hb => by have := hS b hb; omega)
   refine wp_append_any _ _ _ 36 (by rfl) U0.heap.size 99 is (.agg #[.int .i64 0, .int .i64 0, .int .i64 0]) 3 24 Try.underlying36 his hs0 hs1 hs2 rfl (by decide) _ _ _ (by rfl) FA.out _ _ _ _ (recs eSg m.1) (by rfl) hrd (recs_one _) (by unfold maxLen; omega) (by omega) (by omega) ?_
   intro v7 D4 hown7 hgrow7 hblk7
   go_simp
   rw [Nat.zero_add, List.nil_append] at hown7
   obtain ⟨gh, k0, rfl⟩ := slice_form hown7 hblk7.symm ⟨_, rfl⟩
   have hd7 : gh = ga ∨ gh = D3.heap.size := by
    rcases hblk7 with h1 | h1
    ·exact .inl (by injection h1)
    ·exact .inr (by injection h1)
   have zD4 : D3.heap.size ≤ D4.heap.size := hgrow7.size
   have lgh := (hown7.lt gh rfl).2
   have dgh : (gh = ga ∨ D3.heap.size ≤ gh) := by omega
   clear hd7
   have hkp : ∀ b, b < D3.heap.size → b ≠ ga → D4.heap[b]? = D3.heap[b]? := fun b h1 h2 => hgrow7.block b h1 (fun e => h2 (by injection e))
   have HA := Lib.hid (HA.out.trans (below_of_grown hgrow7 (by omega) (fun g hg => by have hg : ga = g := (by injection hg); omega)))
   (try have FC := Lib.hid (own_keep FC.out (fun g hg => hkp g (by have := (FC.out.lt g hg).2; omega) (by have hg : gc = g := (by injection hg); omega))))
   (try have FD := Lib.hid (own_keep FD.out (fun g hg => hkp g (by have := (FD.out.lt g hg).2; omega) (by have hg : gk = g := (by injection hg); omega))))
   (try have FM := Lib.hid (show Blk D4 gb 41 #[.slice none 0 0, .slice none 0 0, .slice none 0 0, .slice none 0 0] from (hkp gb FM.out.lt (by omega)).trans FM.out))
   have FB := Lib.hid hown7
   refine hK _ _ (Cls.mk' HA.out) ?_
   clear hK K hown7 hgrow7 hblk7 hrd hkp
   (repeat (first | (refine lex_r fun K hK => ?_; go_big_quiet_op; refine hK _ ?_; clear hK K) | (refine lex_k fun K hK => ?_; go_simp; refine hK _ ?_; clear hK K)))
   refine lex_e fun K hK => ?_
   have hrd := Rep.to_reads eMm_len (by decide) (show Rep _ S _ (frecs eMm m.2.2.2) from (HMe.out.under hS (HBU.out.trans (HA.out.mono (by omega))))) (B := D4.heap.size) (fun b hb => by have := hS b hb; omega)
   refine wp_append_any _ _ _ 39 (by rfl) U0.heap.size 103 im (.agg #[.int .i64 0, .int .i64 0, .int .i64 0, .int .i64 0]) 4 32 Try.underlying39 him hm0' hm1' hm2' rfl (by decide) _ _ _ (by rfl) FC.out _ _ _ _ (recs eMm m.2.2.2) (by rfl) hrd (recs_one _) (by unfold maxLen; omega) (by omega) (by omega) ?_
   intro v7 D5 hown7 hgrow7 hblk7
   go_simp
   rw [Nat.zero_add, List.nil_append] at hown7
   obtain ⟨gk, k1, rfl⟩ := slice_form hown7 hblk7.symm ⟨_, rfl⟩
   have hd7 : gk = gc ∨ gk = D4.heap.size := by
    rcases hblk7 with h1 | h1
    ·exact .inl (by injection h1)
    ·exact .inr (by injection h1)
   have zD5 : D4.heap.size ≤ D5.heap.size := hgrow7.size
   have lgk := (hown7.lt gk rfl).2
   have dgk : (gk = gc ∨ D4.heap.size ≤ gk) := by omega
   clear hd7
   have hkp : ∀ b, b < D4.heap.size → b ≠ gc → D5.heap[b]? = D4.heap[b]? := fun b h1 h2 => hgrow7.block b h1 (fun e => h2 (by injection e))
   have HA := Lib.hid (HA.out.trans (below_of_grown hgrow7 (by omega) (fun g hg => by have hg : gc = g := (by injection hg); omega)))
   (try have FA := Lib.hid (own_keep FA.out (fun g hg => hkp g (by have := (FA.out.lt g hg).2; omega) (by have hg : ga = g := (by injection hg); omega))))
   (try have FB := Lib.hid (own_keep FB.out (fun g hg => hkp g (by have := (FB.out.lt g hg).2; omega) (by have hg : gh = g := (by injection hg); omega))))
   (try have FM := Lib.hid (show Blk D5 gb 41 #[.slice none 0 0, .slice none 0 0, .slice none 0 0, .slice none 0 0] from (hkp gb FM.out.lt (by omega)).trans FM.out))
   have FD := Lib.hid hown7
   refine hK _ _ (Cls.mk' HA.out) ?_
   clear hK K hown7 hgrow7 hblk7 hrd hkp
   obtain ⟨q0, q1, q2, q3⟩ := blkS4 FM.out
   have f0 := FM.out.frozen 0
   have f1 := FM.out.frozen 1
   have f2 := FM.out.frozen 2
   have f3 := FM.out.frozen 3
   (repeat (first | (refine lex_r fun K hK => ?_; go_big_quiet_op; refine hK _ ?_; clear hK K) | (refine lex_k fun K hK => ?_; go_simp; refine hK _ ?_; clear hK K)))
   (refine lex_e fun K hK => ?_; go_big_op)
   obtain ⟨wx, hwx⟩ : ∃ x, x = ((((D5.setCell ⟨gb, 0, none⟩ (.slice (some ⟨gh, 0, none⟩) ns k0)).setCell ⟨gb, 1, none⟩ (.slice none 0 0)).setCell ⟨gb, 2, none⟩ (.slice none 0 0)).setCell ⟨gb, 3, none⟩ (.slice (some ⟨gk, 0, none⟩) nm k1)) := ⟨_, rfl⟩
   rw [← hwx]
   have hgU : U0.heap.size ≤ gb := by omega
   have HA := Lib.hid (show Below U0.heap.size U0 wx by rw [hwx]; exact (((HA.out.setCell hgU _).setCell hgU _).setCell hgU _).setCell hgU _)
   refine hK _ _ (Cls.mk' HA.out) ?_
   clear hK K q0 q1 q2 q3 f0 f1 f2 f3
   (repeat (first | (refine lex_r fun K hK => ?_; go_big_quiet_op; refine hK _ ?_; clear hK K) | (refine lex_k fun K hK => ?_; go_simp; refine hK _ ?_; clear hK K)))
   (refine lex_nil ?_)
   refine ⟨Cls.mk' HA.out, ?_⟩
   clear lexNE cm0 cm1 cm2 cm3
   go_wp2_with fail
   go_meet
   case rel =>
    have hk2 : ∀ b, b ≠ gb → wx.heap[b]? = D5.heap[b]? := fun b hb => by
     rw [hwx]
     exact (Below.heap_setCell _ ⟨gb, 3, none⟩ _ b hb).trans ((Below.heap_setCell _ ⟨gb, 2, none⟩ _ b hb).trans ((Below.heap_setCell _ ⟨gb, 1, none⟩ _ b hb).trans (Below.heap_setCell _ ⟨gb, 0, none⟩ _ b hb)))
    refine ⟨gb, gh, k0, gk, k1, rfl, ?_, ?_, ?_, ⟨by omega, by omega, by omega⟩, ⟨by omega, by omega, by omega⟩, HA.out⟩
    ·exact own_keep FB.out (fun g hg => hk2 g (by have hg : gh = g := (by injection hg); omega))
    ·exact own_keep FD.out (fun g hg => hk2 g (by have hg : gk = g := (by injection hg); omega))
    ·rw [hwx]
     exact blk_four FM.out
  ·(repeat (first | (refine lex_r fun K hK => ?_; go_big_quiet_op; refine hK _ ?_; clear hK K) | (refine lex_k fun K hK => ?_; go_simp; refine hK _ ?_; clear hK K)))
   (refine lex_e fun K hK => ?_; go_big_op)
   obtain ⟨D1, hD1⟩ : ∃ x, x = D.alloc (.cells #[] 99) := ⟨_, rfl⟩
   rw [← hD1]
   have bD1 : Below D.heap.size D D1 := by rw [hD1]; exact (Below.refl _ _).alloc (Nat.le_refl _) _
   have zD1 : D.heap.size + 1 ≤ D1.heap.size := by rw [hD1]; simp
   have HA := Lib.hid (HA.out.trans (bD1.mono (by omega)))
   (try have FA := Lib.hid (own_below FA.out bD1 (Nat.le_refl _)))
   (try have FB := Lib.hid (own_below FB.out bD1 (Nat.le_refl _)))
   (try have FC := Lib.hid (own_below FC.out bD1 (Nat.le_refl _)))
   (try have FD := Lib.hid (own_below FD.out bD1 (Nat.le_refl _)))
   (try have FM := Lib.hid (FM.out.below bD1 FM.out.lt))
   obtain ⟨ga, hg⟩ : ∃ g, g = D.heap.size := ⟨_, rfl⟩
   have FA := Lib.hid (show D1.ownsRow U0.heap.size 99 3 (.slice (some ⟨ga, 0, none⟩) 0 0) 0 [] by rw [hD1, hg]; exact own_up' (World.ownsRow_made (base := D.heap.size) (size := 3) (e := 99) D #[] 0 (Nat.le_refl _) (by unfold maxLen; omega) rfl) (fun g hg => by have hg : D.heap.size = g := (by injection hg); omega))
   rw [← hg]
   have lgaa : D.heap.size ≤ ga := by omega
   have lgab : ga < D1.heap.size := by omega
   clear hg
   refine hK _ _ (Cls.mk' HA.out) ?_
   clear hK K hD1 bD1
   (repeat (first | (refine lex_r fun K hK => ?_; go_big_quiet_op; refine hK _ ?_; clear hK K) | (refine lex_k fun K hK => ?_; go_simp; refine hK _ ?_; clear hK K)))
   (refine lex_e fun K hK => ?_; go_big_op)
   obtain ⟨D2, hD2⟩ : ∃ x, x = D1.alloc (.cells #[.slice none 0 0, .slice none 0 0, .slice none 0 0, .slice none 0 0] 41) := ⟨_, rfl⟩
   rw [← hD2]
   have bD2 : Below D1.heap.size D1 D2 := by rw [hD2]; exact (Below.refl _ _).alloc (Nat.le_refl _) _
   have zD2 : D1.heap.size + 1 ≤ D2.heap.size := by rw [hD2]; simp
   have HA := Lib.hid (HA.out.trans (bD2.mono (by omega)))
   (try have FA := Lib.hid (own_below FA.out bD2 (Nat.le_refl _)))
   (try have FB := Lib.hid (own_below FB.out bD2 (Nat.le_refl _)))
   (try have FC := Lib.hid (own_below FC.out bD2 (Nat.le_refl _)))
   (try have FD := Lib.hid (own_below FD.out bD2 (Nat.le_refl _)))
   (try have FM := Lib.hid (FM.out.below bD2 FM.out.lt))
   obtain ⟨gb, hg⟩ : ∃ g, g = D1.heap.size := ⟨_, rfl⟩
   have FM := Lib.hid (show Blk D2 gb 41 #[.slice none 0 0, .slice none 0 0, .slice none 0 0, .slice none 0 0] by rw [hD2, hg]; exact Blk.new _ _ _)
   rw [← hg]
   have lgba : D1.heap.size ≤ gb := by omega
   have lgbb : gb < D2.heap.size := by omega
   clear hg
   refine hK _ _ (Cls.mk' HA.out) ?_
   clear hK K hD2 bD2
   (repeat (first | (refine lex_r fun K hK => ?_; go_big_quiet_op; refine hK _ ?_; clear hK K) | (refine lex_k fun K hK => ?_; go_simp; refine hK _ ?_; clear hK K)))
   (refine lex_e fun K hK => ?_; go_big_op)
   obtain ⟨D3, hD3⟩ : ∃ x, x = D2.alloc (.cells #[] 103) := ⟨_, rfl⟩
   rw [← hD3]
   have bD3 : Below D2.heap.size D2 D3 := by rw [hD3]; exact (Below.refl _ _).alloc (Nat.le_refl _) _
   have zD3 : D2.heap.size + 1 ≤ D3.heap.size := by rw [hD3]; simp
   have HA := Lib.hid (HA.out.trans (bD3.mono (by omega)))
   (try have FA := Lib.hid (own_below FA.out bD3 (Nat.le_refl _)))
   (try have FB := Lib.hid (own_below FB.out bD3 (Nat.le_refl _)))
   (try have FC := Lib.hid (own_below FC.out bD3 (Nat.le_refl _)))
   (try have FD := Lib.hid (own_below FD.out bD3 (Nat.le_refl _)))
   (try have FM := Lib.hid (FM.out.below bD3 FM.out.lt))
   obtain ⟨gc, hg⟩ : ∃ g, g = D2.heap.size := ⟨_, rfl⟩
   have FC := Lib.hid (show D3.ownsRow U0.heap.size 103 4 (.slice (some ⟨gc, 0, none⟩) 0 0) 0 [] by rw [hD3, hg]; exact own_up' (World.ownsRow_made (base := D2.heap.size) (size := 4) (e := 103) D2 #[] 0 (Nat.le_refl _) (by unfold maxLen; omega) rfl) (fun g hg => by have hg : D2.heap.size = g := (by injection hg); omega))
   rw [← hg]
   have lgca : D2.heap.size ≤ gc := by omega
   have lgcb : gc < D3.heap.size := by omega
   clear hg
   refine hK _ _ (Cls.mk' HA.out) ?_
   clear hK K hD3 bD3
   (repeat (first | (refine lex_r fun K hK => ?_; go_big_quiet_op; refine hK _ ?_; clear hK K) | (refine lex_k fun K hK => ?_; go_simp; refine hK _ ?_; clear hK K)))
   refine lex_e fun K hK => ?_
   have hrd := Rep.to_reads eSg_len (by decide) (show Rep _ S _ (frecs eSg m.1) from (HSg.out.under hS (HBU.out.trans (HA.out.mono (by omega))))) (B := D3.heap.size) (fun b hb => by have := hS b hb; omega)
   refine wp_append_any _ _ _ 36 (by rfl) U0.heap.size 99 is (.agg #[.int .i64 0, .int .i64 0, .int .i64 0]) 3 24 Try.underlying36 his hs0 hs1 hs2 rfl (by decide) _ _ _ (by rfl) FA.out _ _ _ _ (recs eSg m.1) (by rfl) hrd (recs_one _) (by unfold maxLen; omega) (by omega) (by omega) ?_
   intro v7 D4 hown7 hgrow7 hblk7
   go_simp
   rw [Nat.zero_add, List.nil_append] at hown7
   obtain ⟨gh, k0, rfl⟩ := slice_form hown7 hblk7.symm ⟨_, rfl⟩
   have hd7 : gh = ga ∨ gh = D3.heap.size := by
    rcases hblk7 with h1 | h1
    ·exact .inl (by injection h1)
    ·exact .inr (by injection h1)
   have zD4 : D3.heap.size ≤ D4.heap.size := hgrow7.size
   have lgh := (hown7.lt gh rfl).2
   have dgh : (gh = ga ∨ D3.heap.size ≤ gh) := by omega
   clear hd7
   have hkp : ∀ b, b < D3.heap.size → b ≠ ga → D4.heap[b]? = D3.heap[b]? := fun b h1 h2 => hgrow7.block b h1 (fun e => h2 (by injection e))
   have HA := Lib.hid (HA.out.trans (below_of_grown hgrow7 (by omega) (fun g hg => by have hg : ga = g := (by injection hg); omega)))
   (try have FC := Lib.hid (own_keep FC.out (fun g hg => hkp g (by have := (FC.out.lt g hg).2; omega) (by have hg : gc = g := (by injection hg); omega))))
   (try have FD := Lib.hid (own_keep FD.out (fun g hg => hkp g (by have := (FD.out.lt g hg).2; omega) (by have hg : gk = g := (by injection hg); omega))))
   (try have FM := Lib.hid (show Blk D4 gb 41 #[.slice none 0 0, .slice none 0 0, .slice none 0 0, .slice none 0 0] from (hkp gb FM.out.lt (by omega)).trans FM.out))
   have FB := Lib.hid hown7
   refine hK _ _ (Cls.mk' HA.out) ?_
   clear hK K hown7 hgrow7 hblk7 hrd hkp
   (repeat (first | (refine lex_r fun K hK => ?_; go_big_quiet_op; refine hK _ ?_; clear hK K) | (refine lex_k fun K hK => ?_; go_simp; refine hK _ ?_; clear hK K)))
   refine lex_e fun K hK => ?_
   have hrd := Rep.to_reads eMm_len (by decide) (show Rep _ S _ (frecs eMm m.2.2.2) from (HMe.out.under hS (HBU.out.trans (HA.out.mono (by omega))))) (B := D4.heap.size) (fun b hb => by have := hS b hb; omega)
   refine wp_append_any _ _ _ 39 (by rfl) U0.heap.size 103 im (.agg #[.int .i64 0, .int .i64 0, .int .i64 0, .int .i64 0]) 4 32 Try.underlying39 him hm0' hm1' hm2' rfl (by decide) _ _ _ (by rfl) FC.out _ _ _ _ (recs eMm m.2.2.2) (by rfl) hrd (recs_one _) (by unfold maxLen; omega) (by omega) (by omega) ?_
   intro v7 D5 hown7 hgrow7 hblk7
   go_simp
   rw [Nat.zero_add, List.nil_append] at hown7
   obtain ⟨gk, k1, rfl⟩ := slice_form hown7 hblk7.symm ⟨_, rfl⟩
   have hd7 : gk = gc ∨ gk = D4.heap.size := by
    rcases hblk7 with h1 | h1
    ·exact .inl (by injection h1)
    ·exact .inr (by injection h1)
   have zD5 : D4.heap.size ≤ D5.heap.size := hgrow7.size
   have lgk := (hown7.lt gk rfl).2
   have dgk : (gk = gc ∨ D4.heap.size ≤ gk) := by omega
   clear hd7
   have hkp : ∀ b, b < D4.heap.size → b ≠ gc → D5.heap[b]? = D4.heap[b]? := fun b h1 h2 => hgrow7.block b h1 (fun e => h2 (by injection e))
   have HA := Lib.hid (HA.out.trans (below_of_grown hgrow7 (by omega) (fun g hg => by have hg : gc = g := (by injection hg); omega)))
   (try have FA := Lib.hid (own_keep FA.out (fun g hg => hkp g (by have := (FA.out.lt g hg).2; omega) (by have hg : ga = g := (by injection hg); omega))))
   (try have FB := Lib.hid (own_keep FB.out (fun g hg => hkp g (by have := (FB.out.lt g hg).2; omega) (by have hg : gh = g := (by injection hg); omega))))
   (try have FM := Lib.hid (show Blk D5 gb 41 #[.slice none 0 0, .slice none 0 0, .slice none 0 0, .slice none 0 0] from (hkp gb FM.out.lt (by omega)).trans FM.out))
   have FD := Lib.hid hown7
   refine hK _ _ (Cls.mk' HA.out) ?_
   clear hK K hown7 hgrow7 hblk7 hrd hkp
   obtain ⟨q0, q1, q2, q3⟩ := blkS4 FM.out
   have f0 := FM.out.frozen 0
   have f1 := FM.out.frozen 1
   have f2 := FM.out.frozen 2
   have f3 := FM.out.frozen 3
   (repeat (first | (refine lex_r fun K hK => ?_; go_big_quiet_op; refine hK _ ?_; clear hK K) | (refine lex_k fun K hK => ?_; go_simp; refine hK _ ?_; clear hK K)))
   (refine lex_e fun K hK => ?_; go_big_op)
   obtain ⟨wx, hwx⟩ : ∃ x, x = ((((D5.setCell ⟨gb, 0, none⟩ (.slice (some ⟨gh, 0, none⟩) ns k0)).setCell ⟨gb, 1, none⟩ (.slice none 0 0)).setCell ⟨gb, 2, none⟩ (.slice none 0 0)).setCell ⟨gb, 3, none⟩ (.slice (some ⟨gk, 0, none⟩) nm k1)) := ⟨_, rfl⟩
   rw [← hwx]
   have hgU : U0.heap.size ≤ gb := by omega
   have HA := Lib.hid (show Below U0.heap.size U0 wx by rw [hwx]; exact (((HA.out.setCell hgU _).setCell hgU _).setCell hgU _).setCell hgU _)
   refine hK _ _ (Cls.mk' HA.out) ?_
   clear hK K q0 q1 q2 q3 f0 f1 f2 f3
   (repeat (first | (refine lex_r fun K hK => ?_; go_big_quiet_op; refine hK _ ?_; clear hK K) | (refine lex_k fun K hK => ?_; go_simp; refine hK _ ?_; clear hK K)))
   (refine lex_nil ?_)
   refine ⟨Cls.mk' HA.out, ?_⟩
   clear lexNE cm0 cm1 cm2 cm3
   go_wp2_with fail
   go_meet
   case rel =>
    have hk2 : ∀ b, b ≠ gb → wx.heap[b]? = D5.heap[b]? := fun b hb => by
     rw [hwx]
     exact (Below.heap_setCell _ ⟨gb, 3, none⟩ _ b hb).trans ((Below.heap_setCell _ ⟨gb, 2, none⟩ _ b hb).trans ((Below.heap_setCell _ ⟨gb, 1, none⟩ _ b hb).trans (Below.heap_setCell _ ⟨gb, 0, none⟩ _ b hb)))
    refine ⟨gb, gh, k0, gk, k1, rfl, ?_, ?_, ?_, ⟨by omega, by omega, by omega⟩, ⟨by omega, by omega, by omega⟩, HA.out⟩
    ·exact own_keep FB.out (fun g hg => hk2 g (by have hg : gh = g := (by injection hg); omega))
    ·exact own_keep FD.out (fun g hg => hk2 g (by have hg : gk = g := (by injection hg); omega))
    ·rw [hwx]
     exact blk_four FM.out
  ·(repeat (first | (refine lex_r fun K hK => ?_; go_big_quiet_op; refine hK _ ?_; clear hK K) | (refine lex_k fun K hK => ?_; go_simp; refine hK _ ?_; clear hK K)))
   (refine lex_e fun K hK => ?_; go_big_op)
   obtain ⟨D1, hD1⟩ : ∃ x, x = D.alloc (.cells #[.slice none 0 0, .slice none 0 0, .slice none 0 0, .slice none 0 0] 41) := ⟨_, rfl⟩
   rw [← hD1]
   have bD1 : Below D.heap.size D D1 := by rw [hD1]; exact (Below.refl _ _).alloc (Nat.le_refl _) _
   have zD1 : D.heap.size + 1 ≤ D1.heap.size := by rw [hD1]; simp
   have HA := Lib.hid (HA.out.trans (bD1.mono (by omega)))
   (try have FA := Lib.hid (own_below FA.out bD1 (Nat.le_refl _)))
   (try have FB := Lib.hid (own_below FB.out bD1 (Nat.le_refl _)))
   (try have FC := Lib.hid (own_below FC.out bD1 (Nat.le_refl _)))
   (try have FD := Lib.hid (own_below FD.out bD1 (Nat.le_refl _)))
   (try have FM := Lib.hid (FM.out.below bD1 FM.out.lt))
   obtain ⟨gb, hg⟩ : ∃ g, g = D.heap.size := ⟨_, rfl⟩
   have FM := Lib.hid (show Blk D1 gb 41 #[.slice none 0 0, .slice none 0 0, .slice none 0 0, .slice none 0 0] by rw [hD1, hg]; exact Blk.new _ _ _)
   rw [← hg]
   have lgba : D.heap.size ≤ gb := by omega
   have lgbb : gb < D1.heap.size := by omega
   clear hg
   refine hK _ _ (Cls.mk' HA.out) ?_
   clear hK K hD1 bD1
   (repeat (first | (refine lex_r fun K hK => ?_; go_big_quiet_op; refine hK _ ?_; clear hK K) | (refine lex_k fun K hK => ?_; go_simp; refine hK _ ?_; clear hK K)))
   (refine lex_e fun K hK => ?_; go_big_op)
   obtain ⟨D2, hD2⟩ : ∃ x, x = D1.alloc (.cells #[] 99) := ⟨_, rfl⟩
   rw [← hD2]
   have bD2 : Below D1.heap.size D1 D2 := by rw [hD2]; exact (Below.refl _ _).alloc (Nat.le_refl _) _
   have zD2 : D1.heap.size + 1 ≤ D2.heap.size := by rw [hD2]; simp
   have HA := Lib.hid (HA.out.trans (bD2.mono (by omega)))
   (try have FA := Lib.hid (own_below FA.out bD2 (Nat.le_refl _)))
   (try have FB := Lib.hid (own_below FB.out bD2 (Nat.le_refl _)))
   (try have FC := Lib.hid (own_below FC.out bD2 (Nat.le_refl _)))
   (try have FD := Lib.hid (own_below FD.out bD2 (Nat.le_refl _)))
   (try have FM := Lib.hid (FM.out.below bD2 FM.out.lt))
   obtain ⟨ga, hg⟩ : ∃ g, g = D1.heap.size := ⟨_, rfl⟩
   have FA := Lib.hid (show D2.ownsRow U0.heap.size 99 3 (.slice (some ⟨ga, 0, none⟩) 0 0) 0 [] by rw [hD2, hg]; exact own_up' (World.ownsRow_made (base := D1.heap.size) (size := 3) (e := 99) D1 #[] 0 (Nat.le_refl _) (by unfold maxLen; omega) rfl) (fun g hg => by have hg : D1.heap.size = g := (by injection hg); omega))
   rw [← hg]
   have lgaa : D1.heap.size ≤ ga := by omega
   have lgab : ga < D2.heap.size := by omega
   clear hg
   refine hK _ _ (Cls.mk' HA.out) ?_
   clear hK K hD2 bD2
   (repeat (first | (refine lex_r fun K hK => ?_; go_big_quiet_op; refine hK _ ?_; clear hK K) | (refine lex_k fun K hK => ?_; go_simp; refine hK _ ?_; clear hK K)))
   refine lex_e fun K hK => ?_
   have hrd := Rep.to_reads eSg_len (by decide) (show Rep _ S _ (frecs eSg m.1) from (HSg.out.under hS (HBU.out.trans (HA.out.mono (by omega))))) (B := D2.heap.size) (fun b hb => by have := hS b hb; omega)
   refine wp_append_any _ _ _ 36 (by rfl) U0.heap.size 99 is (.agg #[.int .i64 0, .int .i64 0, .int .i64 0]) 3 24 Try.underlying36 his hs0 hs1 hs2 rfl (by decide) _ _ _ (by rfl) FA.out _ _ _ _ (recs eSg m.1) (by rfl) hrd (recs_one _) (by unfold maxLen; omega) (by omega) (by omega) ?_
   intro v7 D3 hown7 hgrow7 hblk7
   go_simp
   rw [Nat.zero_add, List.nil_append] at hown7
   obtain ⟨gh, k0, rfl⟩ := slice_form hown7 hblk7.symm ⟨_, rfl⟩
   have hd7 : gh = ga ∨ gh = D2.heap.size := by
    rcases hblk7 with h1 | h1
    ·exact .inl (by injection h1)
    ·exact .inr (by injection h1)
   have zD3 : D2.heap.size ≤ D3.heap.size := hgrow7.size
   have lgh := (hown7.lt gh rfl).2
   have dgh : (gh = ga ∨ D2.heap.size ≤ gh) := by omega
   clear hd7
   have hkp : ∀ b, b < D2.heap.size → b ≠ ga → D3.heap[b]? = D2.heap[b]? := fun b h1 h2 => hgrow7.block b h1 (fun e => h2 (by injection e))
   have HA := Lib.hid (HA.out.trans (below_of_grown hgrow7 (by omega) (fun g hg => by have hg : ga = g := (by injection hg); omega)))
   (try have FC := Lib.hid (own_keep FC.out (fun g hg => hkp g (by have := (FC.out.lt g hg).2; omega) (by have hg : gc = g := (by injection hg); omega))))
   (try have FD := Lib.hid (own_keep FD.out (fun g hg => hkp g (by have := (FD.out.lt g hg).2; omega) (by have hg : gk = g := (by injection hg); omega))))
   (try have FM := Lib.hid (show Blk D3 gb 41 #[.slice none 0 0, .slice none 0 0, .slice none 0 0, .slice none 0 0] from (hkp gb FM.out.lt (by omega)).trans FM.out))
   have FB := Lib.hid hown7
   refine hK _ _ (Cls.mk' HA.out) ?_
   clear hK K hown7 hgrow7 hblk7 hrd hkp
   (repeat (first | (refine lex_r fun K hK => ?_; go_big_quiet_op; refine hK _ ?_; clear hK K) | (refine lex_k fun K hK => ?_; go_simp; refine hK _ ?_; clear hK K)))
   (refine lex_e fun K hK => ?_; go_big_op)
   obtain ⟨D4, hD4⟩ : ∃ x, x = D3.alloc (.cells #[] 103) := ⟨_, rfl⟩
   rw [← hD4]
   have bD4 : Below D3.heap.size D3 D4 := by rw [hD4]; exact (Below.refl _ _).alloc (Nat.le_refl _) _
   have zD4 : D3.heap.size + 1 ≤ D4.heap.size := by rw [hD4]; simp
   have HA := Lib.hid (HA.out.trans (bD4.mono (by omega)))
   (try have FA := Lib.hid (own_below FA.out bD4 (Nat.le_refl _)))
   (try have FB := Lib.hid (own_below FB.out bD4 (Nat.le_refl _)))
   (try have FC := Lib.hid (own_below FC.out bD4 (Nat.le_refl _)))
   (try have FD := Lib.hid (own_below FD.out bD4 (Nat.le_refl _)))
   (try have FM := Lib.hid (FM.out.below bD4 FM.out.lt))
   obtain ⟨gc, hg⟩ : ∃ g, g = D3.heap.size := ⟨_, rfl⟩
   have FC := Lib.hid (show D4.ownsRow U0.heap.size 103 4 (.slice (some ⟨gc, 0, none⟩) 0 0) 0 [] by rw [hD4, hg]; exact own_up' (World.ownsRow_made (base := D3.heap.size) (size := 4) (e := 103) D3 #[] 0 (Nat.le_refl _) (by unfold maxLen; omega) rfl) (fun g hg => by have hg : D3.heap.size = g := (by injection hg); omega))
   rw [← hg]
   have lgca : D3.heap.size ≤ gc := by omega
   have lgcb : gc < D4.heap.size := by omega
   clear hg
   refine hK _ _ (Cls.mk' HA.out) ?_
   clear hK K hD4 bD4
   (repeat (first | (refine lex_r fun K hK => ?_; go_big_quiet_op; refine hK _ ?_; clear hK K) | (refine lex_k fun K hK => ?_; go_simp; refine hK _ ?_; clear hK K)))
   refine lex_e fun K hK => ?_
   have hrd := Rep.to_reads eMm_len (by decide) (show Rep _ S _ (frecs eMm m.2.2.2) from (HMe.out.under hS (HBU.out.trans (HA.out.mono (by omega))))) (B := D4.heap.size) (fun b hb => by have := hS b hb; omega)
   refine wp_append_any _ _ _ 39 (by rfl) U0.heap.size 103 im (.agg #[.int .i64 0, .int .i64 0, .int .i64 0, .int .i64 0]) 4 32 Try.underlying39 him hm0' hm1' hm2' rfl (by decide) _ _ _ (by rfl) FC.out _ _ _ _ (recs eMm m.2.2.2) (by rfl) hrd (recs_one _) (by unfold maxLen; omega) (by omega) (by omega) ?_
   intro v7 D5 hown7 hgrow7 hblk7
   go_simp
   rw [Nat.zero_add, List.nil_append] at hown7
   obtain ⟨gk, k1, rfl⟩ := slice_form hown7 hblk7.symm ⟨_, rfl⟩
   have hd7 : gk = gc ∨ gk = D4.heap.size := by
    rcases hblk7 with h1 | h1
    ·exact .inl (by injection h1)
    ·exact .inr (by injection h1)
   have zD5 : D4.heap.size ≤ D5.heap.size := hgrow7.size
   have lgk := (hown7.lt gk rfl).2
   have dgk : (gk = gc ∨ D4.heap.size ≤ gk) := by omega
   clear hd7
   have hkp : ∀ b, b < D4.heap.size → b ≠ gc → D5.heap[b]? = D4.heap[b]? := fun b h1 h2 => hgrow7.block b h1 (fun e => h2 (by injection e))
   have HA := Lib.hid (HA.out.trans (below_of_grown hgrow7 (by omega) (fun g hg => by have hg : gc = g := (by injection hg); omega)))
   (try have FA := Lib.hid (own_keep FA.out (fun g hg => hkp g (by have := (FA.out.lt g hg).2; omega) (by have hg : ga = g := (by injection hg); omega))))
   (try have FB := Lib.hid (own_keep FB.out (fun g hg => hkp g (by have := (FB.out.lt g hg).2; omega) (by have hg : gh = g := (by injection hg); omega))))
   (try have FM := Lib.hid (show Blk D5 gb 41 #[.slice none 0 0, .slice none 0 0, .slice none 0 0, .slice none 0 0] from (hkp gb FM.out.lt (by omega)).trans FM.out))
   have FD := Lib.hid hown7
   refine hK _ _ (Cls.mk' HA.out) ?_
   clear hK K hown7 hgrow7 hblk7 hrd hkp
   obtain ⟨q0, q1, q2, q3⟩ := blkS4 FM.out
   have f0 := FM.out.frozen 0
   have f1 := FM.out.frozen 1
   have f2 := FM.out.frozen 2
   have f3 := FM.out.frozen 3
   (repeat (first | (refine lex_r fun K hK => ?_; go_big_quiet_op; refine hK _ ?_; clear hK K) | (refine lex_k fun K hK => ?_; go_simp; refine hK _ ?_; clear hK K)))
   (refine lex_e fun K hK => ?_; go_big_op)
   obtain ⟨wx, hwx⟩ : ∃ x, x = ((((D5.setCell ⟨gb, 0, none⟩ (.slice (some ⟨gh, 0, none⟩) ns k0)).setCell ⟨gb, 1, none⟩ (.slice none 0 0)).setCell ⟨gb, 2, none⟩ (.slice none 0 0)).setCell ⟨gb, 3, none⟩ (.slice (some ⟨gk, 0, none⟩) nm k1)) := ⟨_, rfl⟩
   rw [← hwx]
   have hgU : U0.heap.size ≤ gb := by omega
   have HA := Lib.hid (show Below U0.heap.size U0 wx by rw [hwx]; exact (((HA.out.setCell hgU _).setCell hgU _).setCell hgU _).setCell hgU _)
   refine hK _ _ (Cls.mk' HA.out) ?_
   clear hK K q0 q1 q2 q3 f0 f1 f2 f3
   (repeat (first | (refine lex_r fun K hK => ?_; go_big_quiet_op; refine hK _ ?_; clear hK K) | (refine lex_k fun K hK => ?_; go_simp; refine hK _ ?_; clear hK K)))
   (refine lex_nil ?_)
   refine ⟨Cls.mk' HA.out, ?_⟩
   clear lexNE cm0 cm1 cm2 cm3
   go_wp2_with fail
   go_meet
   case rel =>
    have hk2 : ∀ b, b ≠ gb → wx.heap[b]? = D5.heap[b]? := fun b hb => by
     rw [hwx]
     exact (Below.heap_setCell _ ⟨gb, 3, none⟩ _ b hb).trans ((Below.heap_setCell _ ⟨gb, 2, none⟩ _ b hb).trans ((Below.heap_setCell _ ⟨gb, 1, none⟩ _ b hb).trans (Below.heap_setCell _ ⟨gb, 0, none⟩ _ b hb)))
    refine ⟨gb, gh, k0, gk, k1, rfl, ?_, ?_, ?_, ⟨by omega, by omega, by omega⟩, ⟨by omega, by omega, by omega⟩, HA.out⟩
    ·exact own_keep FB.out (fun g hg => hk2 g (by have hg : gh = g := (by injection hg); omega))
    ·exact own_keep FD.out (fun g hg => hk2 g (by have hg : gk = g := (by injection hg); omega))
    ·rw [hwx]
     exact blk_four FM.out
  ·(repeat (first | (refine lex_r fun K hK => ?_; go_big_quiet_op; refine hK _ ?_; clear hK K) | (refine lex_k fun K hK => ?_; go_simp; refine hK _ ?_; clear hK K)))
   (refine lex_e fun K hK => ?_; go_big_op)
   obtain ⟨D1, hD1⟩ : ∃ x, x = D.alloc (.cells #[.slice none 0 0, .slice none 0 0, .slice none 0 0, .slice none 0 0] 41) := ⟨_, rfl⟩
   rw [← hD1]
   have bD1 : Below D.heap.size D D1 := by rw [hD1]; exact (Below.refl _ _).alloc (Nat.le_refl _) _
   have zD1 : D.heap.size + 1 ≤ D1.heap.size := by rw [hD1]; simp
   have HA := Lib.hid (HA.out.trans (bD1.mono (by omega)))
   (try have FA := Lib.hid (own_below FA.out bD1 (Nat.le_refl _)))
   (try have FB := Lib.hid (own_below FB.out bD1 (Nat.le_refl _)))
   (try have FC := Lib.hid (own_below FC.out bD1 (Nat.le_refl _)))
   (try have FD := Lib.hid (own_below FD.out bD1 (Nat.le_refl _)))
   (try have FM := Lib.hid (FM.out.below bD1 FM.out.lt))
   obtain ⟨gb, hg⟩ : ∃ g, g = D.heap.size := ⟨_, rfl⟩
   have FM := Lib.hid (show Blk D1 gb 41 #[.slice none 0 0, .slice none 0 0, .slice none 0 0, .slice none 0 0] by rw [hD1, hg]; exact Blk.new _ _ _)
   rw [← hg]
   have lgba : D.heap.size ≤ gb := by omega
   have lgbb : gb < D1.heap.size := by omega
   clear hg
   refine hK _ _ (Cls.mk' HA.out) ?_
   clear hK K hD1 bD1
   (repeat (first | (refine lex_r fun K hK => ?_; go_big_quiet_op; refine hK _ ?_; clear hK K) | (refine lex_k fun K hK => ?_; go_simp; refine hK _ ?_; clear hK K)))
   (refine lex_e fun K hK => ?_; go_big_op)
   obtain ⟨D2, hD2⟩ : ∃ x, x = D1.alloc (.cells #[] 99) := ⟨_, rfl⟩
   rw [← hD2]
   have bD2 : Below D1.heap.size D1 D2 := by rw [hD2]; exact (Below.refl _ _).alloc (Nat.le_refl _) _
   have zD2 : D1.heap.size + 1 ≤ D2.heap.size := by rw [hD2]; simp
   have HA := Lib.hid (HA.out.trans (bD2.mono (by omega)))
   (try have FA := Lib.hid (own_below FA.out bD2 (Nat.le_refl _)))
   (try have FB := Lib.hid (own_below FB.out bD2 (Nat.le_refl _)))
   (try have FC := Lib.hid (own_below FC.out bD2 (Nat.le_refl _)))
   (try have FD := Lib.hid (own_below FD.out bD2 (Nat.le_refl _)))
   (try have FM := Lib.hid (FM.out.below bD2 FM.out.lt))
   obtain ⟨ga, hg⟩ : ∃ g, g = D1.heap.size := ⟨_, rfl⟩
   have FA := Lib.hid (show D2.ownsRow U0.heap.size 99 3 (.slice (some ⟨ga, 0, none⟩) 0 0) 0 [] by rw [hD2, hg]; exact own_up' (World.ownsRow_made (base := D1.heap.size) (size := 3) (e := 99) D1 #[] 0 (Nat.le_refl _) (by unfold maxLen; omega) rfl) (fun g hg => by have hg : D1.heap.size = g := (by injection hg); omega))
   rw [← hg]
   have lgaa : D1.heap.size ≤ ga := by omega
   have lgab : ga < D2.heap.size := by omega
   clear hg
   refine hK _ _ (Cls.mk' HA.out) ?_
   clear hK K hD2 bD2
   (repeat (first | (refine lex_r fun K hK => ?_; go_big_quiet_op; refine hK _ ?_; clear hK K) | (refine lex_k fun K hK => ?_; go_simp; refine hK _ ?_; clear hK K)))
   (refine lex_e fun K hK => ?_; go_big_op)
   obtain ⟨D3, hD3⟩ : ∃ x, x = D2.alloc (.cells #[] 103) := ⟨_, rfl⟩
   rw [← hD3]
   have bD3 : Below D2.heap.size D2 D3 := by rw [hD3]; exact (Below.refl _ _).alloc (Nat.le_refl _) _
   have zD3 : D2.heap.size + 1 ≤ D3.heap.size := by rw [hD3]; simp
   have HA := Lib.hid (HA.out.trans (bD3.mono (by omega)))
   (try have FA := Lib.hid (own_below FA.out bD3 (Nat.le_refl _)))
   (try have FB := Lib.hid (own_below FB.out bD3 (Nat.le_refl _)))
   (try have FC := Lib.hid (own_below FC.out bD3 (Nat.le_refl _)))
   (try have FD := Lib.hid (own_below FD.out bD3 (Nat.le_refl _)))
   (try have FM := Lib.hid (FM.out.below bD3 FM.out.lt))
   obtain ⟨gc, hg⟩ : ∃ g, g = D2.heap.size := ⟨_, rfl⟩
   have FC := Lib.hid (show D3.ownsRow U0.heap.size 103 4 (.slice (some ⟨gc, 0, none⟩) 0 0) 0 [] by rw [hD3, hg]; exact own_up' (World.ownsRow_made (base := D2.heap.size) (size := 4) (e := 103) D2 #[] 0 (Nat.le_refl _) (by unfold maxLen; omega) rfl) (fun g hg => by have hg : D2.heap.size = g := (by injection hg); omega))
   rw [← hg]
   have lgca : D2.heap.size ≤ gc := by omega
   have lgcb : gc < D3.heap.size := by omega
   clear hg
   refine hK _ _ (Cls.mk' HA.out) ?_
   clear hK K hD3 bD3
   (repeat (first | (refine lex_r fun K hK => ?_; go_big_quiet_op; refine hK _ ?_; clear hK K) | (refine lex_k fun K hK => ?_; go_simp; refine hK _ ?_; clear hK K)))
   refine lex_e fun K hK => ?_
   have hrd := Rep.to_reads eSg_len (by decide) (show Rep _ S _ (frecs eSg m.1) from (HSg.out.under hS (HBU.out.trans (HA.out.mono (by omega))))) (B := D3.heap.size) (fun b hb => by have := hS b hb; omega)
   refine wp_append_any _ _ _ 36 (by rfl) U0.heap.size 99 is (.agg #[.int .i64 0, .int .i64 0, .int .i64 0]) 3 24 Try.underlying36 his hs0 hs1 hs2 rfl (by decide) _ _ _ (by rfl) FA.out _ _ _ _ (recs eSg m.1) (by rfl) hrd (recs_one _) (by unfold maxLen; omega) (by omega) (by omega) ?_
   intro v7 D4 hown7 hgrow7 hblk7
   go_simp
   rw [Nat.zero_add, List.nil_append] at hown7
   obtain ⟨gh, k0, rfl⟩ := slice_form hown7 hblk7.symm ⟨_, rfl⟩
   have hd7 : gh = ga ∨ gh = D3.heap.size := by
    rcases hblk7 with h1 | h1
    ·exact .inl (by injection h1)
    ·exact .inr (by injection h1)
   have zD4 : D3.heap.size ≤ D4.heap.size := hgrow7.size
   have lgh := (hown7.lt gh rfl).2
   have dgh : (gh = ga ∨ D3.heap.size ≤ gh) := by omega
   clear hd7
   have hkp : ∀ b, b < D3.heap.size → b ≠ ga → D4.heap[b]? = D3.heap[b]? := fun b h1 h2 => hgrow7.block b h1 (fun e => h2 (by injection e))
   have HA := Lib.hid (HA.out.trans (below_of_grown hgrow7 (by omega) (fun g hg => by have hg : ga = g := (by injection hg); omega)))
   (try have FC := Lib.hid (own_keep FC.out (fun g hg => hkp g (by have := (FC.out.lt g hg).2; omega) (by have hg : gc = g := (by injection hg); omega))))
   (try have FD := Lib.hid (own_keep FD.out (fun g hg => hkp g (by have := (FD.out.lt g hg).2; omega) (by have hg : gk = g := (by injection hg); omega))))
   (try have FM := Lib.hid (show Blk D4 gb 41 #[.slice none 0 0, .slice none 0 0, .slice none 0 0, .slice none 0 0] from (hkp gb FM.out.lt (by omega)).trans FM.out))
   have FB := Lib.hid hown7
   refine hK _ _ (Cls.mk' HA.out) ?_
   clear hK K hown7 hgrow7 hblk7 hrd hkp
   (repeat (first | (refine lex_r fun K hK => ?_; go_big_quiet_op; refine hK _ ?_; clear hK K) | (refine lex_k fun K hK => ?_; go_simp; refine hK _ ?_; clear hK K)))
   refine lex_e fun K hK => ?_
   have hrd := Rep.to_reads eMm_len (by decide) (show Rep _ S _ (frecs eMm m.2.2.2) from (HMe.out.under hS (HBU.out.trans (HA.out.mono (by omega))))) (B := D4.heap.size) (fun b hb => by have := hS b hb; omega)
   refine wp_append_any _ _ _ 39 (by rfl) U0.heap.size 103 im (.agg #[.int .i64 0, .int .i64 0, .int .i64 0, .int .i64 0]) 4 32 Try.underlying39 him hm0' hm1' hm2' rfl (by decide) _ _ _ (by rfl) FC.out _ _ _ _ (recs eMm m.2.2.2) (by rfl) hrd (recs_one _) (by unfold maxLen; omega) (by omega) (by omega) ?_
   intro v7 D5 hown7 hgrow7 hblk7
   go_simp
   rw [Nat.zero_add, List.nil_append] at hown7
   obtain ⟨gk, k1, rfl⟩ := slice_form hown7 hblk7.symm ⟨_, rfl⟩
   have hd7 : gk = gc ∨ gk = D4.heap.size := by
    rcases hblk7 with h1 | h1
    ·exact .inl (by injection h1)
    ·exact .inr (by injection h1)
   have zD5 : D4.heap.size ≤ D5.heap.size := hgrow7.size
   have lgk := (hown7.lt gk rfl).2
   have dgk : (gk = gc ∨ D4.heap.size ≤ gk) := by omega
   clear hd7
   have hkp : ∀ b, b < D4.heap.size → b ≠ gc → D5.heap[b]? = D4.heap[b]? := fun b h1 h2 => hgrow7.block b h1 (fun e => h2 (by injection e))
   have HA := Lib.hid (HA.out.trans (below_of_grown hgrow7 (by omega) (fun g hg => by have hg : gc = g := (by injection hg); omega)))
   (try have FA := Lib.hid (own_keep FA.out (fun g hg => hkp g (by have := (FA.out.lt g hg).2; omega) (by have hg : ga = g := (by injection hg); omega))))
   (try have FB := Lib.hid (own_keep FB.out (fun g hg => hkp g (by have := (FB.out.lt g hg).2; omega) (by have hg : gh = g := (by injection hg); omega))))
   (try have FM := Lib.hid (show Blk D5 gb 41 #[.slice none 0 0, .slice none 0 0, .slice none 0 0, .slice none 0 0] from (hkp gb FM.out.lt (by omega)).trans FM.out))
   have FD := Lib.hid hown7
   refine hK _ _ (Cls.mk' HA.out) ?_
   clear hK K hown7 hgrow7 hblk7 hrd hkp
   obtain ⟨q0, q1, q2, q3⟩ := blkS4 FM.out
   have f0 := FM.out.frozen 0
   have f1 := FM.out.frozen 1
   have f2 := FM.out.frozen 2
   have f3 := FM.out.frozen 3
   (repeat (first | (refine lex_r fun K hK => ?_; go_big_quiet_op; refine hK _ ?_; clear hK K) | (refine lex_k fun K hK => ?_; go_simp; refine hK _ ?_; clear hK K)))
   (refine lex_e fun K hK => ?_; go_big_op)
   obtain ⟨wx, hwx⟩ : ∃ x, x = ((((D5.setCell ⟨gb, 0, none⟩ (.slice (some ⟨gh, 0, none⟩) ns k0)).setCell ⟨gb, 1, none⟩ (.slice none 0 0)).setCell ⟨gb, 2, none⟩ (.slice none 0 0)).setCell ⟨gb, 3, none⟩ (.slice (some ⟨gk, 0, none⟩) nm k1)) := ⟨_, rfl⟩
   rw [← hwx]
   have hgU : U0.heap.size ≤ gb := by omega
   have HA := Lib.hid (show Below U0.heap.size U0 wx by rw [hwx]; exact (((HA.out.setCell hgU _).setCell hgU _).setCell hgU _).setCell hgU _)
   refine hK _ _ (Cls.mk' HA.out) ?_
   clear hK K q0 q1 q2 q3 f0 f1 f2 f3
   (repeat (first | (refine lex_r fun K hK => ?_; go_big_quiet_op; refine hK _ ?_; clear hK K) | (refine lex_k fun K hK => ?_; go_simp; refine hK _ ?_; clear hK K)))
   (refine lex_nil ?_)
   refine ⟨Cls.mk' HA.out, ?_⟩
   clear lexNE cm0 cm1 cm2 cm3
   go_wp2_with fail
   go_meet
   case rel =>
    have hk2 : ∀ b, b ≠ gb → wx.heap[b]? = D5.heap[b]? := fun b hb => by
     rw [hwx]
     exact (Below.heap_setCell _ ⟨gb, 3, none⟩ _ b hb).trans ((Below.heap_setCell _ ⟨gb, 2, none⟩ _ b hb).trans ((Below.heap_setCell _ ⟨gb, 1, none⟩ _ b hb).trans (Below.heap_setCell _ ⟨gb, 0, none⟩ _ b hb)))
    refine ⟨gb, gh, k0, gk, k1, rfl, ?_, ?_, ?_, ⟨by omega, by omega, by omega⟩, ⟨by omega, by omega, by omega⟩, HA.out⟩
    ·exact own_keep FB.out (fun g hg => hk2 g (by have hg : gh = g := (by injection hg); omega))
    ·exact own_keep FD.out (fun g hg => hk2 g (by have hg : gk = g := (by injection hg); omega))
    ·rw [hwx]
     exact blk_four FM.out
  ·(repeat (first | (refine lex_r fun K hK => ?_; go_big_quiet_op; refine hK _ ?_; clear hK K) | (refine lex_k fun K hK => ?_; go_simp; refine hK _ ?_; clear hK K)))
   (refine lex_e fun K hK => ?_; go_big_op)
   obtain ⟨D1, hD1⟩ : ∃ x, x = D.alloc (.cells #[] 103) := ⟨_, rfl⟩
   rw [← hD1]
   have bD1 : Below D.heap.size D D1 := by rw [hD1]; exact (Below.refl _ _).alloc (Nat.le_refl _) _
   have zD1 : D.heap.size + 1 ≤ D1.heap.size := by rw [hD1]; simp
   have HA := Lib.hid (HA.out.trans (bD1.mono (by omega)))
   (try have FA := Lib.hid (own_below FA.out bD1 (Nat.le_refl _)))
   (try have FB := Lib.hid (own_below FB.out bD1 (Nat.le_refl _)))
   (try have FC := Lib.hid (own_below FC.out bD1 (Nat.le_refl _)))
   (try have FD := Lib.hid (own_below FD.out bD1 (Nat.le_refl _)))
   (try have FM := Lib.hid (FM.out.below bD1 FM.out.lt))
   obtain ⟨gc, hg⟩ : ∃ g, g = D.heap.size := ⟨_, rfl⟩
   have FC := Lib.hid (show D1.ownsRow U0.heap.size 103 4 (.slice (some ⟨gc, 0, none⟩) 0 0) 0 [] by rw [hD1, hg]; exact own_up' (World.ownsRow_made (base := D.heap.size) (size := 4) (e := 103) D #[] 0 (Nat.le_refl _) (by unfold maxLen; omega) rfl) (fun g hg => by have hg : D.heap.size = g := (by injection hg); omega))
   rw [← hg]
   have lgca : D.heap.size ≤ gc := by omega
   have lgcb : gc < D1.heap.size := by omega
   clear hg
   refine hK _ _ (Cls.mk' HA.out) ?_
   clear hK K hD1 bD1
   (repeat (first | (refine lex_r fun K hK => ?_; go_big_quiet_op; refine hK _ ?_; clear hK K) | (refine lex_k fun K hK => ?_; go_simp; refine hK _ ?_; clear hK K)))
   (refine lex_e fun K hK => ?_; go_big_op)
   obtain ⟨D2, hD2⟩ : ∃ x, x = D1.alloc (.cells #[] 99) := ⟨_, rfl⟩
   rw [← hD2]
   have bD2 : Below D1.heap.size D1 D2 := by rw [hD2]; exact (Below.refl _ _).alloc (Nat.le_refl _) _
   have zD2 : D1.heap.size + 1 ≤ D2.heap.size := by rw [hD2]; simp
   have HA := Lib.hid (HA.out.trans (bD2.mono (by omega)))
   (try have FA := Lib.hid (own_below FA.out bD2 (Nat.le_refl _)))
   (try have FB := Lib.hid (own_below FB.out bD2 (Nat.le_refl _)))
   (try have FC := Lib.hid (own_below FC.out bD2 (Nat.le_refl _)))
   (try have FD := Lib.hid (own_below FD.out bD2 (Nat.le_refl _)))
   (try have FM := Lib.hid (FM.out.below bD2 FM.out.lt))
   obtain ⟨ga, hg⟩ : ∃ g, g = D1.heap.size := ⟨_, rfl⟩
   have FA := Lib.hid (show D2.ownsRow U0.heap.size 99 3 (.slice (some ⟨ga, 0, none⟩) 0 0) 0 [] by rw [hD2, hg]; exact own_up' (World.ownsRow_made (base := D1.heap.size) (size := 3) (e := 99) D1 #[] 0 (Nat.le_refl _) (by unfold maxLen; omega) rfl) (fun g hg => by have hg : D1.heap.size = g := (by injection hg); omega))
   rw [← hg]
   have lgaa : D1.heap.size ≤ ga := by omega
   have lgab : ga < D2.heap.size := by omega
   clear hg
   refine hK _ _ (Cls.mk' HA.out) ?_
   clear hK K hD2 bD2
   (repeat (first | (refine lex_r fun K hK => ?_; go_big_quiet_op; refine hK _ ?_; clear hK K) | (refine lex_k fun K hK => ?_; go_simp; refine hK _ ?_; clear hK K)))
   refine lex_e fun K hK => ?_
   have hrd := Rep.to_reads eSg_len (by decide) (show Rep _ S _ (frecs eSg m.1) from (HSg.out.under hS (HBU.out.trans (HA.out.mono (by omega))))) (B := D2.heap.size) (fun b hb => by have := hS b hb; omega)
   refine wp_append_any _ _ _ 36 (by rfl) U0.heap.size 99 is (.agg #[.int .i64 0, .int .i64 0, .int .i64 0]) 3 24 Try.underlying36 his hs0 hs1 hs2 rfl (by decide) _ _ _ (by rfl) FA.out _ _ _ _ (recs eSg m.1) (by rfl) hrd (recs_one _) (by unfold maxLen; omega) (by omega) (by omega) ?_
   intro v7 D3 hown7 hgrow7 hblk7
   go_simp
   rw [Nat.zero_add, List.nil_append] at hown7
   obtain ⟨gh, k0, rfl⟩ := slice_form hown7 hblk7.symm ⟨_, rfl⟩
   have hd7 : gh = ga ∨ gh = D2.heap.size := by
    rcases hblk7 with h1 | h1
    ·exact .inl (by injection h1)
    ·exact .inr (by injection h1)
   have zD3 : D2.heap.size ≤ D3.heap.size := hgrow7.size
   have lgh := (hown7.lt gh rfl).2
   have dgh : (gh = ga ∨ D2.heap.size ≤ gh) := by omega
   clear hd7
   have hkp : ∀ b, b < D2.heap.size → b ≠ ga → D3.heap[b]? = D2.heap[b]? := fun b h1 h2 => hgrow7.block b h1 (fun e => h2 (by injection e))
   have HA := Lib.hid (HA.out.trans (below_of_grown hgrow7 (by omega) (fun g hg => by have hg : ga = g := (by injection hg); omega)))
   (try have FC := Lib.hid (own_keep FC.out (fun g hg => hkp g (by have := (FC.out.lt g hg).2; omega) (by have hg : gc = g := (by injection hg); omega))))
   (try have FD := Lib.hid (own_keep FD.out (fun g hg => hkp g (by have := (FD.out.lt g hg).2; omega) (by have hg : gk = g := (by injection hg); omega))))
   (try have FM := Lib.hid (show Blk D3 gb 41 #[.slice none 0 0, .slice none 0 0, .slice none 0 0, .slice none 0 0] from (hkp gb FM.out.lt (by omega)).trans FM.out))
   have FB := Lib.hid hown7
   refine hK _ _ (Cls.mk' HA.out) ?_
   clear hK K hown7 hgrow7 hblk7 hrd hkp
   (repeat (first | (refine lex_r fun K hK => ?_; go_big_quiet_op; refine hK _ ?_; clear hK K) | (refine lex_k fun K hK => ?_; go_simp; refine hK _ ?_; clear hK K)))
   refine lex_e fun K hK => ?_
   have hrd := Rep.to_reads eMm_len (by decide) (show Rep _ S _ (frecs eMm m.2.2.2) from (HMe.out.under hS (HBU.out.trans (HA.out.mono (by omega))))) (B := D3.heap.size) (fun b hb => by have := hS b hb; omega)
   refine wp_append_any _ _ _ 39 (by rfl) U0.heap.size 103 im (.agg #[.int .i64 0, .int .i64 0, .int .i64 0, .int .i64 0]) 4 32 Try.underlying39 him hm0' hm1' hm2' rfl (by decide) _ _ _ (by rfl) FC.out _ _ _ _ (recs eMm m.2.2.2) (by rfl) hrd (recs_one _) (by unfold maxLen; omega) (by omega) (by omega) ?_
   intro v7 D4 hown7 hgrow7 hblk7
   go_simp
   rw [Nat.zero_add, List.nil_append] at hown7
   obtain ⟨gk, k1, rfl⟩ := slice_form hown7 hblk7.symm ⟨_, rfl⟩
   have hd7 : gk = gc ∨ gk = D3.heap.size := by
    rcases hblk7 with h1 | h1
    ·exact .inl (by injection h1)
    ·exact .inr (by injection h1)
   have zD4 : D3.heap.size ≤ D4.heap.size := hgrow7.size
   have lgk := (hown7.lt gk rfl).2
   have dgk : (gk = gc ∨ D3.heap.size ≤ gk) := by omega
   clear hd7
   have hkp : ∀ b, b < D3.heap.size → b ≠ gc → D4.heap[b]? = D3.heap[b]? := fun b h1 h2 => hgrow7.block b h1 (fun e => h2 (by injection e))
   have HA := Lib.hid (HA.out.trans (below_of_grown hgrow7 (by omega) (fun g hg => by have hg : gc = g := (by injection hg); omega)))
   (try have FA := Lib.hid (own_keep FA.out (fun g hg => hkp g (by have := (FA.out.lt g hg).2; omega) (by have hg : ga = g := (by injection hg); omega))))
   (try have FB := Lib.hid (own_keep FB.out (fun g hg => hkp g (by have := (FB.out.lt g hg).2; omega) (by have hg : gh = g := (by injection hg); omega))))
   (try have FM := Lib.hid (show Blk D4 gb 41 #[.slice none 0 0, .slice none 0 0, .slice none 0 0, .slice none 0 0] from (hkp gb FM.out.lt (by omega)).trans FM.out))
   have FD := Lib.hid hown7
   refine hK _ _ (Cls.mk' HA.out) ?_
   clear hK K hown7 hgrow7 hblk7 hrd hkp
   (repeat (first | (refine lex_r fun K hK => ?_; go_big_quiet_op; refine hK _ ?_; clear hK K) | (refine lex_k fun K hK => ?_; go_simp; refine hK _ ?_; clear hK K)))
   (refine lex_e fun K hK => ?_; go_big_op)
   obtain ⟨D5, hD5⟩ : ∃ x, x = D4.alloc (.cells #[.slice none 0 0, .slice none 0 0, .slice none 0 0, .slice none 0 0] 41) := ⟨_, rfl⟩
   rw [← hD5]
   have bD5 : Below D4.heap.size D4 D5 := by rw [hD5]; exact (Below.refl _ _).alloc (Nat.le_refl _) _
   have zD5 : D4.heap.size + 1 ≤ D5.heap.size := by rw [hD5]; simp
   have HA := Lib.hid (HA.out.trans (bD5.mono (by omega)))
   (try have FA := Lib.hid (own_below FA.out bD5 (Nat.le_refl _)))
   (try have FB := Lib.hid (own_below FB.out bD5 (Nat.le_refl _)))
   (try have FC := Lib.hid (own_below FC.out bD5 (Nat.le_refl _)))
   (try have FD := Lib.hid (own_below FD.out bD5 (Nat.le_refl _)))
   (try have FM := Lib.hid (FM.out.below bD5 FM.out.lt))
   obtain ⟨gb, hg⟩ : ∃ g, g = D4.heap.size := ⟨_, rfl⟩
   have FM := Lib.hid (show Blk D5 gb 41 #[.slice none 0 0, .slice none 0 0, .slice none 0 0, .slice none 0 0] by rw [hD5, hg]; exact Blk.new _ _ _)
   rw [← hg]
   have lgba : D4.heap.size ≤ gb := by omega
   have lgbb : gb < D5.heap.size := by omega
   clear hg
   refine hK _ _ (Cls.mk' HA.out) ?_
   clear hK K hD5 bD5
   obtain ⟨q0, q1, q2, q3⟩ := blkS4 FM.out
   have f0 := FM.out.frozen 0
   have f1 := FM.out.frozen 1
   have f2 := FM.out.frozen 2
   have f3 := FM.out.frozen 3
   (repeat (first | (refine lex_r fun K hK => ?_; go_big_quiet_op; refine hK _ ?_; clear hK K) | (refine lex_k fun K hK => ?_; go_simp; refine hK _ ?_; clear hK K)))
   (refine lex_e fun K hK => ?_; go_big_op)
   obtain ⟨wx, hwx⟩ : ∃ x, x = ((((D5.setCell ⟨gb, 0, none⟩ (.slice (some ⟨gh, 0, none⟩) ns k0)).setCell ⟨gb, 1, none⟩ (.slice none 0 0)).setCell ⟨gb, 2, none⟩ (.slice none 0 0)).setCell ⟨gb, 3, none⟩ (.slice (some ⟨gk, 0, none⟩) nm k1)) := ⟨_, rfl⟩
   rw [← hwx]
   have hgU : U0.heap.size ≤ gb := by omega
   have HA := Lib.hid (show Below U0.heap.size U0 wx by rw [hwx]; exact (((HA.out.setCell hgU _).setCell hgU _).setCell hgU _).setCell hgU _)
   refine hK _ _ (Cls.mk' HA.out) ?_
   clear hK K q0 q1 q2 q3 f0 f1 f2 f3
   (repeat (first | (refine lex_r fun K hK => ?_; go_big_quiet_op; refine hK _ ?_; clear hK K) | (refine lex_k fun K hK => ?_; go_simp; refine hK _ ?_; clear hK K)))
   (refine lex_nil ?_)
   refine ⟨Cls.mk' HA.out, ?_⟩
   clear lexNE cm0 cm1 cm2 cm3
   go_wp2_with fail
   go_meet
   case rel =>
    have hk2 : ∀ b, b ≠ gb → wx.heap[b]? = D5.heap[b]? := fun b hb => by
     rw [hwx]
     exact (Below.heap_setCell _ ⟨gb, 3, none⟩ _ b hb).trans ((Below.heap_setCell _ ⟨gb, 2, none⟩ _ b hb).trans ((Below.heap_setCell _ ⟨gb, 1, none⟩ _ b hb).trans (Below.heap_setCell _ ⟨gb, 0, none⟩ _ b hb)))
    refine ⟨gb, gh, k0, gk, k1, rfl, ?_, ?_, ?_, ⟨by omega, by omega, by omega⟩, ⟨by omega, by omega, by omega⟩, HA.out⟩
    ·exact own_keep FB.out (fun g hg => hk2 g (by have hg : gh = g := (by injection hg); omega))
    ·exact own_keep FD.out (fun g hg => hk2 g (by have hg : gk = g := (by injection hg); omega))
    ·rw [hwx]
     exact blk_four FM.out
  ·(repeat (first | (refine lex_r fun K hK => ?_; go_big_quiet_op; refine hK _ ?_; clear hK K) | (refine lex_k fun K hK => ?_; go_simp; refine hK _ ?_; clear hK K)))
   (refine lex_e fun K hK => ?_; go_big_op)
   obtain ⟨D1, hD1⟩ : ∃ x, x = D.alloc (.cells #[] 103) := ⟨_, rfl⟩
   rw [← hD1]
   have bD1 : Below D.heap.size D D1 := by rw [hD1]; exact (Below.refl _ _).alloc (Nat.le_refl _) _
   have zD1 : D.heap.size + 1 ≤ D1.heap.size := by rw [hD1]; simp
   have HA := Lib.hid (HA.out.trans (bD1.mono (by omega)))
   (try have FA := Lib.hid (own_below FA.out bD1 (Nat.le_refl _)))
   (try have FB := Lib.hid (own_below FB.out bD1 (Nat.le_refl _)))
   (try have FC := Lib.hid (own_below FC.out bD1 (Nat.le_refl _)))
   (try have FD := Lib.hid (own_below FD.out bD1 (Nat.le_refl _)))
   (try have FM := Lib.hid (FM.out.below bD1 FM.out.lt))
   obtain ⟨gc, hg⟩ : ∃ g, g = D.heap.size := ⟨_, rfl⟩
   have FC := Lib.hid (show D1.ownsRow U0.heap.size 103 4 (.slice (some ⟨gc, 0, none⟩) 0 0) 0 [] by rw [hD1, hg]; exact own_up' (World.ownsRow_made (base := D.heap.size) (size := 4) (e := 103) D #[] 0 (Nat.le_refl _) (by unfold maxLen; omega) rfl) (fun g hg => by have hg : D.heap.size = g := (by injection hg); omega))
   rw [← hg]
   have lgca : D.heap.size ≤ gc := by omega
   have lgcb : gc < D1.heap.size := by omega
   clear hg
   refine hK _ _ (Cls.mk' HA.out) ?_
   clear hK K hD1 bD1
   (repeat (first | (refine lex_r fun K hK => ?_; go_big_quiet_op; refine hK _ ?_; clear hK K) | (refine lex_k fun K hK => ?_; go_simp; refine hK _ ?_; clear hK K)))
   (refine lex_e fun K hK => ?_; go_big_op)
   obtain ⟨D2, hD2⟩ : ∃ x, x = D1.alloc (.cells #[] 99) := ⟨_, rfl⟩
   rw [← hD2]
   have bD2 : Below D1.heap.size D1 D2 := by rw [hD2]; exact (Below.refl _ _).alloc (Nat.le_refl _) _
   have zD2 : D1.heap.size + 1 ≤ D2.heap.size := by rw [hD2]; simp
   have HA := Lib.hid (HA.out.trans (bD2.mono (by omega)))
   (try have FA := Lib.hid (own_below FA.out bD2 (Nat.le_refl _)))
   (try have FB := Lib.hid (own_below FB.out bD2 (Nat.le_refl _)))
   (try have FC := Lib.hid (own_below FC.out bD2 (Nat.le_refl _)))
   (try have FD := Lib.hid (own_below FD.out bD2 (Nat.le_refl _)))
   (try have FM := Lib.hid (FM.out.below bD2 FM.out.lt))
   obtain ⟨ga, hg⟩ : ∃ g, g = D1.heap.size := ⟨_, rfl⟩
   have FA := Lib.hid (show D2.ownsRow U0.heap.size 99 3 (.slice (some ⟨ga, 0, none⟩) 0 0) 0 [] by rw [hD2, hg]; exact own_up' (World.ownsRow_made (base := D1.heap.size) (size := 3) (e := 99) D1 #[] 0 (Nat.le_refl _) (by unfold maxLen; omega) rfl) (fun g hg => by have hg : D1.heap.size = g := (by injection hg); omega))
   rw [← hg]
   have lgaa : D1.heap.size ≤ ga := by omega
   have lgab : ga < D2.heap.size := by omega
   clear hg
   refine hK _ _ (Cls.mk' HA.out) ?_
   clear hK K hD2 bD2
   (repeat (first | (refine lex_r fun K hK => ?_; go_big_quiet_op; refine hK _ ?_; clear hK K) | (refine lex_k fun K hK => ?_; go_simp; refine hK _ ?_; clear hK K)))
   refine lex_e fun K hK => ?_
   have hrd := Rep.to_reads eSg_len (by decide) (show Rep _ S _ (frecs eSg m.1) from (HSg.out.under hS (HBU.out.trans (HA.out.mono (by omega))))) (B := D2.heap.size) (fun b hb => by have := hS b hb; omega)
   refine wp_append_any _ _ _ 36 (by rfl) U0.heap.size 99 is (.agg #[.int .i64 0, .int .i64 0, .int .i64 0]) 3 24 Try.underlying36 his hs0 hs1 hs2 rfl (by decide) _ _ _ (by rfl) FA.out _ _ _ _ (recs eSg m.1) (by rfl) hrd (recs_one _) (by unfold maxLen; omega) (by omega) (by omega) ?_
   intro v7 D3 hown7 hgrow7 hblk7
   go_simp
   rw [Nat.zero_add, List.nil_append] at hown7
   obtain ⟨gh, k0, rfl⟩ := slice_form hown7 hblk7.symm ⟨_, rfl⟩
   have hd7 : gh = ga ∨ gh = D2.heap.size := by
    rcases hblk7 with h1 | h1
    ·exact .inl (by injection h1)
    ·exact .inr (by injection h1)
   have zD3 : D2.heap.size ≤ D3.heap.size := hgrow7.size
   have lgh := (hown7.lt gh rfl).2
   have dgh : (gh = ga ∨ D2.heap.size ≤ gh) := by omega
   clear hd7
   have hkp : ∀ b, b < D2.heap.size → b ≠ ga → D3.heap[b]? = D2.heap[b]? := fun b h1 h2 => hgrow7.block b h1 (fun e => h2 (by injection e))
   have HA := Lib.hid (HA.out.trans (below_of_grown hgrow7 (by omega) (fun g hg => by have hg : ga = g := (by injection hg); omega)))
   (try have FC := Lib.hid (own_keep FC.out (fun g hg => hkp g (by have := (FC.out.lt g hg).2; omega) (by have hg : gc = g := (by injection hg); omega))))
   (try have FD := Lib.hid (own_keep FD.out (fun g hg => hkp g (by have := (FD.out.lt g hg).2; omega) (by have hg : gk = g := (by injection hg); omega))))
   (try have FM := Lib.hid (show Blk D3 gb 41 #[.slice none 0 0, .slice none 0 0, .slice none 0 0, .slice none 0 0] from (hkp gb FM.out.lt (by omega)).trans FM.out))
   have FB := Lib.hid hown7
   refine hK _ _ (Cls.mk' HA.out) ?_
   clear hK K hown7 hgrow7 hblk7 hrd hkp
   (repeat (first | (refine lex_r fun K hK => ?_; go_big_quiet_op; refine hK _ ?_; clear hK K) | (refine lex_k fun K hK => ?_; go_simp; refine hK _ ?_; clear hK K)))
   (refine lex_e fun K hK => ?_; go_big_op)
   obtain ⟨D4, hD4⟩ : ∃ x, x = D3.alloc (.cells #[.slice none 0 0, .slice none 0 0, .slice none 0 0, .slice none 0 0] 41) := ⟨_, rfl⟩
   rw [← hD4]
   have bD4 : Below D3.heap.size D3 D4 := by rw [hD4]; exact (Below.refl _ _).alloc (Nat.le_refl _) _
   have zD4 : D3.heap.size + 1 ≤ D4.heap.size := by rw [hD4]; simp
   have HA := Lib.hid (HA.out.trans (bD4.mono (by omega)))
   (try have FA := Lib.hid (own_below FA.out bD4 (Nat.le_refl _)))
   (try have FB := Lib.hid (own_below FB.out bD4 (Nat.le_refl _)))
   (try have FC := Lib.hid (own_below FC.out bD4 (Nat.le_refl _)))
   (try have FD := Lib.hid (own_below FD.out bD4 (Nat.le_refl _)))
   (try have FM := Lib.hid (FM.out.below bD4 FM.out.lt))
   obtain ⟨gb, hg⟩ : ∃ g, g = D3.heap.size := ⟨_, rfl⟩
   have FM := Lib.hid (show Blk D4 gb 41 #[.slice none 0 0, .slice none 0 0, .slice none 0 0, .slice none 0 0] by rw [hD4, hg]; exact Blk.new _ _ _)
   rw [← hg]
   have lgba : D3.heap.size ≤ gb := by omega
   have lgbb : gb < D4.heap.size := by omega
   clear hg
   refine hK _ _ (Cls.mk' HA.out) ?_
   clear hK K hD4 bD4
   (repeat (first | (refine lex_r fun K hK => ?_; go_big_quiet_op; refine hK _ ?_; clear hK K) | (refine lex_k fun K hK => ?_; go_simp; refine hK _ ?_; clear hK K)))
   refine lex_e fun K hK => ?_
   have hrd := Rep.to_reads eMm_len (by decide) (show Rep _ S _ (frecs eMm m.2.2.2) from (HMe.out.under hS (HBU.out.trans (HA.out.mono (by omega))))) (B := D4.heap.size) (fun b hb => by have := hS b hb; omega)
   refine wp_append_any _ _ _ 39 (by rfl) U0.heap.size 103 im (.agg #[.int .i64 0, .int .i64 0, .int .i64 0, .int .i64 0]) 4 32 Try.underlying39 him hm0' hm1' hm2' rfl (by decide) _ _ _ (by rfl) FC.out _ _ _ _ (recs eMm m.2.2.2) (by rfl) hrd (recs_one _) (by unfold maxLen; omega) (by omega) (by omega) ?_
   intro v7 D5 hown7 hgrow7 hblk7
   go_simp
   rw [Nat.zero_add, List.nil_append] at hown7
   obtain ⟨gk, k1, rfl⟩ := slice_form hown7 hblk7.symm ⟨_, rfl⟩
   have hd7 : gk = gc ∨ gk = D4.heap.size := by
    rcases hblk7 with h1 | h1
    ·exact .inl (by injection h1)
    ·exact .inr (by injection h1)
   have zD5 : D4.heap.size ≤ D5.heap.size := hgrow7.size
   have lgk := (hown7.lt gk rfl).2
   have dgk : (gk = gc ∨ D4.heap.size ≤ gk) := by omega
   clear hd7
   have hkp : ∀ b, b < D4.heap.size → b ≠ gc → D5.heap[b]? = D4.heap[b]? := fun b h1 h2 => hgrow7.block b h1 (fun e => h2 (by injection e))
   have HA := Lib.hid (HA.out.trans (below_of_grown hgrow7 (by omega) (fun g hg => by have hg : gc = g := (by injection hg); omega)))
   (try have FA := Lib.hid (own_keep FA.out (fun g hg => hkp g (by have := (FA.out.lt g hg).2; omega) (by have hg : ga = g := (by injection hg); omega))))
   (try have FB := Lib.hid (own_keep FB.out (fun g hg => hkp g (by have := (FB.out.lt g hg).2; omega) (by have hg : gh = g := (by injection hg); omega))))
   (try have FM := Lib.hid (show Blk D5 gb 41 #[.slice none 0 0, .slice none 0 0, .slice none 0 0, .slice none 0 0] from (hkp gb FM.out.lt (by omega)).trans FM.out))
   have FD := Lib.hid hown7
   refine hK _ _ (Cls.mk' HA.out) ?_
   clear hK K hown7 hgrow7 hblk7 hrd hkp
   obtain ⟨q0, q1, q2, q3⟩ := blkS4 FM.out
   have f0 := FM.out.frozen 0
   have f1 := FM.out.frozen 1
   have f2 := FM.out.frozen 2
   have f3 := FM.out.frozen 3
   (repeat (first | (refine lex_r fun K hK => ?_; go_big_quiet_op; refine hK _ ?_; clear hK K) | (refine lex_k fun K hK => ?_; go_simp; refine hK _ ?_; clear hK K)))
   (refine lex_e fun K hK => ?_; go_big_op)
   obtain ⟨wx, hwx⟩ : ∃ x, x = ((((D5.setCell ⟨gb, 0, none⟩ (.slice (some ⟨gh, 0, none⟩) ns k0)).setCell ⟨gb, 1, none⟩ (.slice none 0 0)).setCell ⟨gb, 2, none⟩ (.slice none 0 0)).setCell ⟨gb, 3, none⟩ (.slice (some ⟨gk, 0, none⟩) nm k1)) := ⟨_, rfl⟩
   rw [← hwx]
   have hgU : U0.heap.size ≤ gb := by omega
   have HA := Lib.hid (show Below U0.heap.size U0 wx by rw [hwx]; exact (((HA.out.setCell hgU _).setCell hgU _).setCell hgU _).setCell hgU _)
   refine hK _ _ (Cls.mk' HA.out) ?_
   clear hK K q0 q1 q2 q3 f0 f1 f2 f3
   (repeat (first | (refine lex_r fun K hK => ?_; go_big_quiet_op; refine hK _ ?_; clear hK K) | (refine lex_k fun K hK => ?_; go_simp; refine hK _ ?_; clear hK K)))
   (refine lex_nil ?_)
   refine ⟨Cls.mk' HA.out, ?_⟩
   clear lexNE cm0 cm1 cm2 cm3
   go_wp2_with fail
   go_meet
   case rel =>
    have hk2 : ∀ b, b ≠ gb → wx.heap[b]? = D5.heap[b]? := fun b hb => by
     rw [hwx]
     exact (Below.heap_setCell _ ⟨gb, 3, none⟩ _ b hb).trans ((Below.heap_setCell _ ⟨gb, 2, none⟩ _ b hb).trans ((Below.heap_setCell _ ⟨gb, 1, none⟩ _ b hb).trans (Below.heap_setCell _ ⟨gb, 0, none⟩ _ b hb)))
    refine ⟨gb, gh, k0, gk, k1, rfl, ?_, ?_, ?_, ⟨by omega, by omega, by omega⟩, ⟨by omega, by omega, by omega⟩, HA.out⟩
    ·exact own_keep FB.out (fun g hg => hk2 g (by have hg : gh = g := (by injection hg); omega))
    ·exact own_keep FD.out (fun g hg => hk2 g (by have hg : gk = g := (by injection hg); omega))
    ·rw [hwx]
     exact blk_four FM.out
  ·(repeat (first | (refine lex_r fun K hK => ?_; go_big_quiet_op; refine hK _ ?_; clear hK K) | (refine lex_k fun K hK => ?_; go_simp; refine hK _ ?_; clear hK K)))
   (refine lex_e fun K hK => ?_; go_big_op)
   obtain ⟨D1, hD1⟩ : ∃ x, x = D.alloc (.cells #[] 103) := ⟨_, rfl⟩
   rw [← hD1]
   have bD1 : Below D.heap.size D D1 := by rw [hD1]; exact (Below.refl _ _).alloc (Nat.le_refl _) _
   have zD1 : D.heap.size + 1 ≤ D1.heap.size := by rw [hD1]; simp
   have HA := Lib.hid (HA.out.trans (bD1.mono (by omega)))
   (try have FA := Lib.hid (own_below FA.out bD1 (Nat.le_refl _)))
   (try have FB := Lib.hid (own_below FB.out bD1 (Nat.le_refl _)))
   (try have FC := Lib.hid (own_below FC.out bD1 (Nat.le_refl _)))
   (try have FD := Lib.hid (own_below FD.out bD1 (Nat.le_refl _)))
   (try have FM := Lib.hid (FM.out.below bD1 FM.out.lt))
   obtain ⟨gc, hg⟩ : ∃ g, g = D.heap.size := ⟨_, rfl⟩
   have FC := Lib.hid (show D1.ownsRow U0.heap.size 103 4 (.slice (some ⟨gc, 0, none⟩) 0 0) 0 [] by rw [hD1, hg]; exact own_up' (World.ownsRow_made (base := D.heap.size) (size := 4) (e := 103) D #[] 0 (Nat.le_refl _) (by unfold maxLen; omega) rfl) (fun g hg => by have hg : D.heap.size = g := (by injection hg); omega))
   rw [← hg]
   have lgca : D.heap.size ≤ gc := by omega
   have lgcb : gc < D1.heap.size := by omega
   clear hg
   refine hK _ _ (Cls.mk' HA.out) ?_
   clear hK K hD1 bD1
   (repeat (first | (refine lex_r fun K hK => ?_; go_big_quiet_op; refine hK _ ?_; clear hK K) | (refine lex_k fun K hK => ?_; go_simp; refine hK _ ?_; clear hK K)))
   (refine lex_e fun K hK => ?_; go_big_op)
   obtain ⟨D2, hD2⟩ : ∃ x, x = D1.alloc (.cells #[] 99) := ⟨_, rfl⟩
   rw [← hD2]
   have bD2 : Below D1.heap.size D1 D2 := by rw [hD2]; exact (Below.refl _ _).alloc (Nat.le_refl _) _
   have zD2 : D1.heap.size + 1 ≤ D2.heap.size := by rw [hD2]; simp
   have HA := Lib.hid (HA.out.trans (bD2.mono (by omega)))
   (try have FA := Lib.hid (own_below FA.out bD2 (Nat.le_refl _)))
   (try have FB := Lib.hid (own_below FB.out bD2 (Nat.le_refl _)))
   (try have FC := Lib.hid (own_below FC.out bD2 (Nat.le_refl _)))
   (try have FD := Lib.hid (own_below FD.out bD2 (Nat.le_refl _)))
   (try have FM := Lib.hid (FM.out.below bD2 FM.out.lt))
   obtain ⟨ga, hg⟩ : ∃ g, g = D1.heap.size := ⟨_, rfl⟩
   have FA := Lib.hid (show D2.ownsRow U0.heap.size 99 3 (.slice (some ⟨ga, 0, none⟩) 0 0) 0 [] by rw [hD2, hg]; exact own_up' (World.ownsRow_made (base := D1.heap.size) (size := 3) (e := 99) D1 #[] 0 (Nat.le_refl _) (by unfold maxLen; omega) rfl) (fun g hg => by have hg : D1.heap.size = g := (by injection hg); omega))
   rw [← hg]
   have lgaa : D1.heap.size ≤ ga := by omega
   have lgab : ga < D2.heap.size := by omega
   clear hg
   refine hK _ _ (Cls.mk' HA.out) ?_
   clear hK K hD2 bD2
   (repeat (first | (refine lex_r fun K hK => ?_; go_big_quiet_op; refine hK _ ?_; clear hK K) | (refine lex_k fun K hK => ?_; go_simp; refine hK _ ?_; clear hK K)))
   (refine lex_e fun K hK => ?_; go_big_op)
   obtain ⟨D3, hD3⟩ : ∃ x, x = D2.alloc (.cells #[.slice none 0 0, .slice none 0 0, .slice none 0 0, .slice none 0 0] 41) := ⟨_, rfl⟩
   rw [← hD3]
   have bD3 : Below D2.heap.size D2 D3 := by rw [hD3]; exact (Below.refl _ _).alloc (Nat.le_refl _) _
   have zD3 : D2.heap.size + 1 ≤ D3.heap.size := by rw [hD3]; simp
   have HA := Lib.hid (HA.out.trans (bD3.mono (by omega)))
   (try have FA := Lib.hid (own_below FA.out bD3 (Nat.le_refl _)))
   (try have FB := Lib.hid (own_below FB.out bD3 (Nat.le_refl _)))
   (try have FC := Lib.hid (own_below FC.out bD3 (Nat.le_refl _)))
   (try have FD := Lib.hid (own_below FD.out bD3 (Nat.le_refl _)))
   (try have FM := Lib.hid (FM.out.below bD3 FM.out.lt))
   obtain ⟨gb, hg⟩ : ∃ g, g = D2.heap.size := ⟨_, rfl⟩
   have FM := Lib.hid (show Blk D3 gb 41 #[.slice none 0 0, .slice none 0 0, .slice none 0 0, .slice none 0 0] by rw [hD3, hg]; exact Blk.new _ _ _)
   rw [← hg]
   have lgba : D2.heap.size ≤ gb := by omega
   have lgbb : gb < D3.heap.size := by omega
   clear hg
   refine hK _ _ (Cls.mk' HA.out) ?_
   clear hK K hD3 bD3
   (repeat (first | (refine lex_r fun K hK => ?_; go_big_quiet_op; refine hK _ ?_; clear hK K) | (refine lex_k fun K hK => ?_; go_simp; refine hK _ ?_; clear hK K)))
   refine lex_e fun K hK => ?_
   have hrd := Rep.to_reads eSg_len (by decide) (show Rep _ S _ (frecs eSg m.1) from (HSg.out.under hS (HBU.out.trans (HA.out.mono (by omega))))) (B := D3.heap.size) (fun b hb => by have := hS b hb; omega)
   refine wp_append_any _ _ _ 36 (by rfl) U0.heap.size 99 is (.agg #[.int .i64 0, .int .i64 0, .int .i64 0]) 3 24 Try.underlying36 his hs0 hs1 hs2 rfl (by decide) _ _ _ (by rfl) FA.out _ _ _ _ (recs eSg m.1) (by rfl) hrd (recs_one _) (by unfold maxLen; omega) (by omega) (by omega) ?_
   intro v7 D4 hown7 hgrow7 hblk7
   go_simp
   rw [Nat.zero_add, List.nil_append] at hown7
   obtain ⟨gh, k0, rfl⟩ := slice_form hown7 hblk7.symm ⟨_, rfl⟩
   have hd7 : gh = ga ∨ gh = D3.heap.size := by
    rcases hblk7 with h1 | h1
    ·exact .inl (by injection h1)
    ·exact .inr (by injection h1)
   have zD4 : D3.heap.size ≤ D4.heap.size := hgrow7.size
   have lgh := (hown7.lt gh rfl).2
   have dgh : (gh = ga ∨ D3.heap.size ≤ gh) := by omega
   clear hd7
   have hkp : ∀ b, b < D3.heap.size → b ≠ ga → D4.heap[b]? = D3.heap[b]? := fun b h1 h2 => hgrow7.block b h1 (fun e => h2 (by injection e))
   have HA := Lib.hid (HA.out.trans (below_of_grown hgrow7 (by omega) (fun g hg => by have hg : ga = g := (by injection hg); omega)))
   (try have FC := Lib.hid (own_keep FC.out (fun g hg => hkp g (by have := (FC.out.lt g hg).2; omega) (by have hg : gc = g := (by injection hg); omega))))
   (try have FD := Lib.hid (own_keep FD.out (fun g hg => hkp g (by have := (FD.out.lt g hg).2; omega) (by have hg : gk = g := (by injection hg); omega))))
   (try have FM := Lib.hid (show Blk D4 gb 41 #[.slice none 0 0, .slice none 0 0, .slice none 0 0, .slice none 0 0] from (hkp gb FM.out.lt (by omega)).trans FM.out))
   have FB := Lib.hid hown7
   refine hK _ _ (Cls.mk' HA.out) ?_
   clear hK K hown7 hgrow7 hblk7 hrd hkp
   (repeat (first | (refine lex_r fun K hK => ?_; go_big_quiet_op; refine hK _ ?_; clear hK K) | (refine lex_k fun K hK => ?_; go_simp; refine hK _ ?_; clear hK K)))
   refine lex_e fun K hK => ?_
   have hrd := Rep.to_reads eMm_len (by decide) (show Rep _ S _ (frecs eMm m.2.2.2) from (HMe.out.under hS (HBU.out.trans (HA.out.mono (by omega))))) (B := D4.heap.size) (fun b hb => by have := hS b hb; omega)
   refine wp_append_any _ _ _ 39 (by rfl) U0.heap.size 103 im (.agg #[.int .i64 0, .int .i64 0, .int .i64 0, .int .i64 0]) 4 32 Try.underlying39 him hm0' hm1' hm2' rfl (by decide) _ _ _ (by rfl) FC.out _ _ _ _ (recs eMm m.2.2.2) (by rfl) hrd (recs_one _) (by unfold maxLen; omega) (by omega) (by omega) ?_
   intro v7 D5 hown7 hgrow7 hblk7
   go_simp
   rw [Nat.zero_add, List.nil_append] at hown7
   obtain ⟨gk, k1, rfl⟩ := slice_form hown7 hblk7.symm ⟨_, rfl⟩
   have hd7 : gk = gc ∨ gk = D4.heap.size := by
    rcases hblk7 with h1 | h1
    ·exact .inl (by injection h1)
    ·exact .inr (by injection h1)
   have zD5 : D4.heap.size ≤ D5.heap.size := hgrow7.size
   have lgk := (hown7.lt gk rfl).2
   have dgk : (gk = gc ∨ D4.heap.size ≤ gk) := by omega
   clear hd7
   have hkp : ∀ b, b < D4.heap.size → b ≠ gc → D5.heap[b]? = D4.heap[b]? := fun b h1 h2 => hgrow7.block b h1 (fun e => h2 (by injection e))
   have HA := Lib.hid (HA.out.trans (below_of_grown hgrow7 (by omega) (fun g hg => by have hg : gc = g := (by injection hg); omega)))
   (try have FA := Lib.hid (own_keep FA.out (fun g hg => hkp g (by have := (FA.out.lt g hg).2; omega) (by have hg : ga = g := (by injection hg); omega))))
   (try have FB := Lib.hid (own_keep FB.out (fun g hg => hkp g (by have := (FB.out.lt g hg).2; omega) (by have hg : gh = g := (by injection hg); omega))))
   (try have FM := Lib.hid (show Blk D5 gb 41 #[.slice none 0 0, .slice none 0 0, .slice none 0 0, .slice none 0 0] from (hkp gb FM.out.lt (by omega)).trans FM.out))
   have FD := Lib.hid hown7
   refine hK _ _ (Cls.mk' HA.out) ?_
   clear hK K hown7 hgrow7 hblk7 hrd hkp
   obtain ⟨q0, q1, q2, q3⟩ := blkS4 FM.out
   have f0 := FM.out.frozen 0
   have f1 := FM.out.frozen 1
   have f2 := FM.out.frozen 2
   have f3 := FM.out.frozen 3
   (repeat (first | (refine lex_r fun K hK => ?_; go_big_quiet_op; refine hK _ ?_; clear hK K) | (refine lex_k fun K hK => ?_; go_simp; refine hK _ ?_; clear hK K)))
   (refine lex_e fun K hK => ?_; go_big_op)
   obtain ⟨wx, hwx⟩ : ∃ x, x = ((((D5.setCell ⟨gb, 0, none⟩ (.slice (some ⟨gh, 0, none⟩) ns k0)).setCell ⟨gb, 1, none⟩ (.slice none 0 0)).setCell ⟨gb, 2, none⟩ (.slice none 0 0)).setCell ⟨gb, 3, none⟩ (.slice (some ⟨gk, 0, none⟩) nm k1)) := ⟨_, rfl⟩
   rw [← hwx]
   have hgU : U0.heap.size ≤ gb := by omega
   have HA := Lib.hid (show Below U0.heap.size U0 wx by rw [hwx]; exact (((HA.out.setCell hgU _).setCell hgU _).setCell hgU _).setCell hgU _)
   refine hK _ _ (Cls.mk' HA.out) ?_
   clear hK K q0 q1 q2 q3 f0 f1 f2 f3
   (repeat (first | (refine lex_r fun K hK => ?_; go_big_quiet_op; refine hK _ ?_; clear hK K) | (refine lex_k fun K hK => ?_; go_simp; refine hK _ ?_; clear hK K)))
   (refine lex_nil ?_)
   refine ⟨Cls.mk' HA.out, ?_⟩
   clear lexNE cm0 cm1 cm2 cm3
   go_wp2_with fail
   go_meet
   case rel =>
    have hk2 : ∀ b, b ≠ gb → wx.heap[b]? = D5.heap[b]? := fun b hb => by
     rw [hwx]
     exact (Below.heap_setCell _ ⟨gb, 3, none⟩ _ b hb).trans ((Below.heap_setCell _ ⟨gb, 2, none⟩ _ b hb).trans ((Below.heap_setCell _ ⟨gb, 1, none⟩ _ b hb).trans (Below.heap_setCell _ ⟨gb, 0, none⟩ _ b hb)))
    refine ⟨gb, gh, k0, gk, k1, rfl, ?_, ?_, ?_, ⟨by omega, by omega, by omega⟩, ⟨by omega, by omega, by omega⟩, HA.out⟩
    ·exact own_keep FB.out (fun g hg => hk2 g (by have hg : gh = g := (by injection hg); omega))
    ·exact own_keep FD.out (fun g hg => hk2 g (by have hg : gk = g := (by injection hg); omega))
    ·rw [hwx]
     exact blk_four FM.out
  ·(repeat (first | (refine lex_r fun K hK => ?_; go_big_quiet_op; refine hK _ ?_; clear hK K) | (refine lex_k fun K hK => ?_; go_simp; refine hK _ ?_; clear hK K)))
   (refine lex_e fun K hK => ?_; go_big_op)
   obtain ⟨D1, hD1⟩ : ∃ x, x = D.alloc (.cells #[] 103) := ⟨_, rfl⟩
   rw [← hD1]
   have bD1 : Below D.heap.size D D1 := by rw [hD1]; exact (Below.refl _ _).alloc (Nat.le_refl _) _
   have zD1 : D.heap.size + 1 ≤ D1.heap.size := by rw [hD1]; simp
   have HA := Lib.hid (HA.out.trans (bD1.mono (by omega)))
   (try have FA := Lib.hid (own_below FA.out bD1 (Nat.le_refl _)))
   (try have FB := Lib.hid (own_below FB.out bD1 (Nat.le_refl _)))
   (try have FC := Lib.hid (own_below FC.out bD1 (Nat.le_refl _)))
   (try have FD := Lib.hid (own_below FD.out bD1 (Nat.le_refl _)))
   (try have FM := Lib.hid (FM.out.below bD1 FM.out.lt))
   obtain ⟨gc, hg⟩ : ∃ g, g = D.heap.size := ⟨_, rfl⟩
   have FC := Lib.hid (show D1.ownsRow U0.heap.size 103 4 (.slice (some ⟨gc, 0, none⟩) 0 0) 0 [] by rw [hD1, hg]; exact own_up' (World.ownsRow_made (base := D.heap.size) (size := 4) (e := 103) D #[] 0 (Nat.le_refl _) (by unfold maxLen; omega) rfl) (fun g hg => by have hg : D.heap.size = g := (by injection hg); omega))
   rw [← hg]
   have lgca : D.heap.size ≤ gc := by omega
   have lgcb : gc < D1.heap.size := by omega
   clear hg
   refine hK _ _ (Cls.mk' HA.out) ?_
   clear hK K hD1 bD1
   (repeat (first | (refine lex_r fun K hK => ?_; go_big_quiet_op; refine hK _ ?_; clear hK K) | (refine lex_k fun K hK => ?_; go_simp; refine hK _ ?_; clear hK K)))
   (refine lex_e fun K hK => ?_; go_big_op)
   obtain ⟨D2, hD2⟩ : ∃ x, x = D1.alloc (.cells #[.slice none 0 0, .slice none 0 0, .slice none 0 0, .slice none 0 0] 41) := ⟨_, rfl⟩
   rw [← hD2]
   have bD2 : Below D1.heap.size D1 D2 := by rw [hD2]; exact (Below.refl _ _).alloc (Nat.le_refl _) _
   have zD2 : D1.heap.size + 1 ≤ D2.heap.size := by rw [hD2]; simp
   have HA := Lib.hid (HA.out.trans (bD2.mono (by omega)))
   (try have FA := Lib.hid (own_below FA.out bD2 (Nat.le_refl _)))
   (try have FB := Lib.hid (own_below FB.out bD2 (Nat.le_refl _)))
   (try have FC := Lib.hid (own_below FC.out bD2 (Nat.le_refl _)))
   (try have FD := Lib.hid (own_below FD.out bD2 (Nat.le_refl _)))
   (try have FM := Lib.hid (FM.out.below bD2 FM.out.lt))
   obtain ⟨gb, hg⟩ : ∃ g, g = D1.heap.size := ⟨_, rfl⟩
   have FM := Lib.hid (show Blk D2 gb 41 #[.slice none 0 0, .slice none 0 0, .slice none 0 0, .slice none 0 0] by rw [hD2, hg]; exact Blk.new _ _ _)
   rw [← hg]
   have lgba : D1.heap.size ≤ gb := by omega
   have lgbb : gb < D2.heap.size := by omega
   clear hg
   refine hK _ _ (Cls.mk' HA.out) ?_
   clear hK K hD2 bD2
   (repeat (first | (refine lex_r fun K hK => ?_; go_big_quiet_op; refine hK _ ?_; clear hK K) | (refine lex_k fun K hK => ?_; go_simp; refine hK _ ?_; clear hK K)))
   (refine lex_e fun K hK => ?_; go_big_op)
   obtain ⟨D3, hD3⟩ : ∃ x, x = D2.alloc (.cells #[] 99) := ⟨_, rfl⟩
   rw [← hD3]
   have bD3 : Below D2.heap.size D2 D3 := by rw [hD3]; exact (Below.refl _ _).alloc (Nat.le_refl _) _
   have zD3 : D2.heap.size + 1 ≤ D3.heap.size := by rw [hD3]; simp
   have HA := Lib.hid (HA.out.trans (bD3.mono (by omega)))
   (try have FA := Lib.hid (own_below FA.out bD3 (Nat.le_refl _)))
   (try have FB := Lib.hid (own_below FB.out bD3 (Nat.le_refl _)))
   (try have FC := Lib.hid (own_below FC.out bD3 (Nat.le_refl _)))
   (try have FD := Lib.hid (own_below FD.out bD3 (Nat.le_refl _)))
   (try have FM := Lib.hid (FM.out.below bD3 FM.out.lt))
   obtain ⟨ga, hg⟩ : ∃ g, g = D2.heap.size := ⟨_, rfl⟩
   have FA := Lib.hid (show D3.ownsRow U0.heap.size 99 3 (.slice (some ⟨ga, 0, none⟩) 0 0) 0 [] by rw [hD3, hg]; exact own_up' (World.ownsRow_made (base := D2.heap.size) (size := 3) (e := 99) D2 #[] 0 (Nat.le_refl _) (by unfold maxLen; omega) rfl) (fun g hg => by have hg : D2.heap.size = g := (by injection hg); omega))
   rw [← hg]
   have lgaa : D2.heap.size ≤ ga := by omega
   have lgab : ga < D3.heap.size := by omega
   clear hg
   refine hK _ _ (Cls.mk' HA.out) ?_
   clear hK K hD3 bD3
   (repeat (first | (refine lex_r fun K hK => ?_; go_big_quiet_op; refine hK _ ?_; clear hK K) | (refine lex_k fun K hK => ?_; go_simp; refine hK _ ?_; clear hK K)))
   refine lex_e fun K hK => ?_
   have hrd := Rep.to_reads eSg_len (by decide) (show Rep _ S _ (frecs eSg m.1) from (HSg.out.under hS (HBU.out.trans (HA.out.mono (by omega))))) (B := D3.heap.size) (fun b hb => by have := hS b hb; omega)
   refine wp_append_any _ _ _ 36 (by rfl) U0.heap.size 99 is (.agg #[.int .i64 0, .int .i64 0, .int .i64 0]) 3 24 Try.underlying36 his hs0 hs1 hs2 rfl (by decide) _ _ _ (by rfl) FA.out _ _ _ _ (recs eSg m.1) (by rfl) hrd (recs_one _) (by unfold maxLen; omega) (by omega) (by omega) ?_
   intro v7 D4 hown7 hgrow7 hblk7
   go_simp
   rw [Nat.zero_add, List.nil_append] at hown7
   obtain ⟨gh, k0, rfl⟩ := slice_form hown7 hblk7.symm ⟨_, rfl⟩
   have hd7 : gh = ga ∨ gh = D3.heap.size := by
    rcases hblk7 with h1 | h1
    ·exact .inl (by injection h1)
    ·exact .inr (by injection h1)
   have zD4 : D3.heap.size ≤ D4.heap.size := hgrow7.size
   have lgh := (hown7.lt gh rfl).2
   have dgh : (gh = ga ∨ D3.heap.size ≤ gh) := by omega
   clear hd7
   have hkp : ∀ b, b < D3.heap.size → b ≠ ga → D4.heap[b]? = D3.heap[b]? := fun b h1 h2 => hgrow7.block b h1 (fun e => h2 (by injection e))
   have HA := Lib.hid (HA.out.trans (below_of_grown hgrow7 (by omega) (fun g hg => by have hg : ga = g := (by injection hg); omega)))
   (try have FC := Lib.hid (own_keep FC.out (fun g hg => hkp g (by have := (FC.out.lt g hg).2; omega) (by have hg : gc = g := (by injection hg); omega))))
   (try have FD := Lib.hid (own_keep FD.out (fun g hg => hkp g (by have := (FD.out.lt g hg).2; omega) (by have hg : gk = g := (by injection hg); omega))))
   (try have FM := Lib.hid (show Blk D4 gb 41 #[.slice none 0 0, .slice none 0 0, .slice none 0 0, .slice none 0 0] from (hkp gb FM.out.lt (by omega)).trans FM.out))
   have FB := Lib.hid hown7
   refine hK _ _ (Cls.mk' HA.out) ?_
   clear hK K hown7 hgrow7 hblk7 hrd hkp
   (repeat (first | (refine lex_r fun K hK => ?_; go_big_quiet_op; refine hK _ ?_; clear hK K) | (refine lex_k fun K hK => ?_; go_simp; refine hK _ ?_; clear hK K)))
   refine lex_e fun K hK => ?_
   have hrd := Rep.to_reads eMm_len (by decide) (show Rep _ S _ (frecs eMm m.2.2.2) from (HMe.out.under hS (HBU.out.trans (HA.out.mono (by omega))))) (B := D4.heap.size) (fun b hb => by have := hS b hb; omega)
   refine wp_append_any _ _ _ 39 (by rfl) U0.heap.size 103 im (.agg #[.int .i64 0, .int .i64 0, .int .i64 0, .int .i64 0]) 4 32 Try.underlying39 him hm0' hm1' hm2' rfl (by decide) _ _ _ (by rfl) FC.out _ _ _ _ (recs eMm m.2.2.2) (by rfl) hrd (recs_one _) (by unfold maxLen; omega) (by omega) (by omega) ?_
   intro v7 D5 hown7 hgrow7 hblk7
   go_simp
   rw [Nat.zero_add, List.nil_append] at hown7
   obtain ⟨gk, k1, rfl⟩ := slice_form hown7 hblk7.symm ⟨_, rfl⟩
   have hd7 : gk = gc ∨ gk = D4.heap.size := by
    rcases hblk7 with h1 | h1
    ·exact .inl (by injection h1)
    ·exact .inr (by injection h1)
   have zD5 : D4.heap.size ≤ D5.heap.size := hgrow7.size
   have lgk := (hown7.lt gk rfl).2
   have dgk : (gk = gc ∨ D4.heap.size ≤ gk) := by omega
   clear hd7
   have hkp : ∀ b, b < D4.heap.size → b ≠ gc → D5.heap[b]? = D4.heap[b]? := fun b h1 h2 => hgrow7.block b h1 (fun e => h2 (by injection e))
   have HA := Lib.hid (HA.out.trans (below_of_grown hgrow7 (by omega) (fun g hg => by have hg : gc = g := (by injection hg); omega)))
   (try have FA := Lib.hid (own_keep FA.out (fun g hg => hkp g (by have := (FA.out.lt g hg).2; omega) (by have hg : ga = g := (by injection hg); omega))))
   (try have FB := Lib.hid (own_keep FB.out (fun g hg => hkp g (by have := (FB.out.lt g hg).2; omega) (by have hg : gh = g := (by injection hg); omega))))
   (try have FM := Lib.hid (show Blk D5 gb 41 #[.slice none 0 0, .slice none 0 0, .slice none 0 0, .slice none 0 0] from (hkp gb FM.out.lt (by omega)).trans FM.out))
   have FD := Lib.hid hown7
   refine hK _ _ (Cls.mk' HA.out) ?_
   clear hK K hown7 hgrow7 hblk7 hrd hkp
   obtain ⟨q0, q1, q2, q3⟩ := blkS4 FM.out
   have f0 := FM.out.frozen 0
   have f1 := FM.out.frozen 1
   have f2 := FM.out.frozen 2
   have f3 := FM.out.frozen 3
   (repeat (first | (refine lex_r fun K hK => ?_; go_big_quiet_op; refine hK _ ?_; clear hK K) | (refine lex_k fun K hK => ?_; go_simp; refine hK _ ?_; clear hK K)))
   (refine lex_e fun K hK => ?_; go_big_op)
   obtain ⟨wx, hwx⟩ : ∃ x, x = ((((D5.setCell ⟨gb, 0, none⟩ (.slice (some ⟨gh, 0, none⟩) ns k0)).setCell ⟨gb, 1, none⟩ (.slice none 0 0)).setCell ⟨gb, 2, none⟩ (.slice none 0 0)).setCell ⟨gb, 3, none⟩ (.slice (some ⟨gk, 0, none⟩) nm k1)) := ⟨_, rfl⟩
   rw [← hwx]
   have hgU : U0.heap.size ≤ gb := by omega
   have HA := Lib.hid (show Below U0.heap.size U0 wx by rw [hwx]; exact (((HA.out.setCell hgU _).setCell hgU _).setCell hgU _).setCell hgU _)
   refine hK _ _ (Cls.mk' HA.out) ?_
   clear hK K q0 q1 q2 q3 f0 f1 f2 f3
   (repeat (first | (refine lex_r fun K hK => ?_; go_big_quiet_op; refine hK _ ?_; clear hK K) | (refine lex_k fun K hK => ?_; go_simp; refine hK _ ?_; clear hK K)))
   (refine lex_nil ?_)
   refine ⟨Cls.mk' HA.out, ?_⟩
   clear lexNE cm0 cm1 cm2 cm3
   go_wp2_with fail
   go_meet
   case rel =>
    have hk2 : ∀ b, b ≠ gb → wx.heap[b]? = D5.heap[b]? := fun b hb => by
     rw [hwx]
     exact (Below.heap_setCell _ ⟨gb, 3, none⟩ _ b hb).trans ((Below.heap_setCell _ ⟨gb, 2, none⟩ _ b hb).trans ((Below.heap_setCell _ ⟨gb, 1, none⟩ _ b hb).trans (Below.heap_setCell _ ⟨gb, 0, none⟩ _ b hb)))
    refine ⟨gb, gh, k0, gk, k1, rfl, ?_, ?_, ?_, ⟨by omega, by omega, by omega⟩, ⟨by omega, by omega, by omega⟩, HA.out⟩
    ·exact own_keep FB.out (fun g hg => hk2 g (by have hg : gh = g := (by injection hg); omega))
    ·exact own_keep FD.out (fun g hg => hk2 g (by have hg : gk = g := (by injection hg); omega))
    ·rw [hwx]
     exact blk_four FM.out
  ·(repeat (first | (refine lex_r fun K hK => ?_; go_big_quiet_op; refine hK _ ?_; clear hK K) | (refine lex_k fun K hK => ?_; go_simp; refine hK _ ?_; clear hK K)))
   (refine lex_e fun K hK => ?_; go_big_op)
   obtain ⟨D1, hD1⟩ : ∃ x, x = D.alloc (.cells #[.slice none 0 0, .slice none 0 0, .slice none 0 0, .slice none 0 0] 41) := ⟨_, rfl⟩
   rw [← hD1]
   have bD1 : Below D.heap.size D D1 := by rw [hD1]; exact (Below.refl _ _).alloc (Nat.le_refl _) _
   have zD1 : D.heap.size + 1 ≤ D1.heap.size := by rw [hD1]; simp
   have HA := Lib.hid (HA.out.trans (bD1.mono (by omega)))
   (try have FA := Lib.hid (own_below FA.out bD1 (Nat.le_refl _)))
   (try have FB := Lib.hid (own_below FB.out bD1 (Nat.le_refl _)))
   (try have FC := Lib.hid (own_below FC.out bD1 (Nat.le_refl _)))
   (try have FD := Lib.hid (own_below FD.out bD1 (Nat.le_refl _)))
   (try have FM := Lib.hid (FM.out.below bD1 FM.out.lt))
   obtain ⟨gb, hg⟩ : ∃ g, g = D.heap.size := ⟨_, rfl⟩
   have FM := Lib.hid (show Blk D1 gb 41 #[.slice none 0 0, .slice none 0 0, .slice none 0 0, .slice none 0 0] by rw [hD1, hg]; exact Blk.new _ _ _)
   rw [← hg]
   have lgba : D.heap.size ≤ gb := by omega
   have lgbb : gb < D1.heap.size := by omega
   clear hg
   refine hK _ _ (Cls.mk' HA.out) ?_
   clear hK K hD1 bD1
   (repeat (first | (refine lex_r fun K hK => ?_; go_big_quiet_op; refine hK _ ?_; clear hK K) | (refine lex_k fun K hK => ?_; go_simp; refine hK _ ?_; clear hK K)))
   (refine lex_e fun K hK => ?_; go_big_op)
   obtain ⟨D2, hD2⟩ : ∃ x, x = D1.alloc (.cells #[] 103) := ⟨_, rfl⟩
   rw [← hD2]
   have bD2 : Below D1.heap.size D1 D2 := by rw [hD2]; exact (Below.refl _ _).alloc (Nat.le_refl _) _
   have zD2 : D1.heap.size + 1 ≤ D2.heap.size := by rw [hD2]; simp
   have HA := Lib.hid (HA.out.trans (bD2.mono (by omega)))
   (try have FA := Lib.hid (own_below FA.out bD2 (Nat.le_refl _)))
   (try have FB := Lib.hid (own_below FB.out bD2 (Nat.le_refl _)))
   (try have FC := Lib.hid (own_below FC.out bD2 (Nat.le_refl _)))
   (try have FD := Lib.hid (own_below FD.out bD2 (Nat.le_refl _)))
   (try have FM := Lib.hid (FM.out.below bD2 FM.out.lt))
   obtain ⟨gc, hg⟩ : ∃ g, g = D1.heap.size := ⟨_, rfl⟩
   have FC := Lib.hid (show D2.ownsRow U0.heap.size 103 4 (.slice (some ⟨gc, 0, none⟩) 0 0) 0 [] by rw [hD2, hg]; exact own_up' (World.ownsRow_made (base := D1.heap.size) (size := 4) (e := 103) D1 #[] 0 (Nat.le_refl _) (by unfold maxLen; omega) rfl) (fun g hg => by have hg : D1.heap.size = g := (by injection hg); omega))
   rw [← hg]
   have lgca : D1.heap.size ≤ gc := by omega
   have lgcb : gc < D2.heap.size := by omega
   clear hg
   refine hK _ _ (Cls.mk' HA.out) ?_
   clear hK K hD2 bD2
   (repeat (first | (refine lex_r fun K hK => ?_; go_big_quiet_op; refine hK _ ?_; clear hK K) | (refine lex_k fun K hK => ?_; go_simp; refine hK _ ?_; clear hK K)))
   (refine lex_e fun K hK => ?_; go_big_op)
   obtain ⟨D3, hD3⟩ : ∃ x, x = D2.alloc (.cells #[] 99) := ⟨_, rfl⟩
   rw [← hD3]
   have bD3 : Below D2.heap.size D2 D3 := by rw [hD3]; exact (Below.refl _ _).alloc (Nat.le_refl _) _
   have zD3 : D2.heap.size + 1 ≤ D3.heap.size := by rw [hD3]; simp
   have HA := Lib.hid (HA.out.trans (bD3.mono (by omega)))
   (try have FA := Lib.hid (own_below FA.out bD3 (Nat.le_refl _)))
   (try have FB := Lib.hid (own_below FB.out bD3 (Nat.le_refl _)))
   (try have FC := Lib.hid (own_below FC.out bD3 (Nat.le_refl _)))
   (try have FD := Lib.hid (own_below FD.out bD3 (Nat.le_refl _)))
   (try have FM := Lib.hid (FM.out.below bD3 FM.out.lt))
   obtain ⟨ga, hg⟩ : ∃ g, g = D2.heap.size := ⟨_, rfl⟩
   have FA := Lib.hid (show D3.ownsRow U0.heap.size 99 3 (.slice (some ⟨ga, 0, none⟩) 0 0) 0 [] by rw [hD3, hg]; exact own_up' (World.ownsRow_made (base := D2.heap.size) (size := 3) (e := 99) D2 #[] 0 (Nat.le_refl _) (by unfold maxLen; omega) rfl) (fun g hg => by have hg : D2.heap.size = g := (by injection hg); omega))
   rw [← hg]
   have lgaa : D2.heap.size ≤ ga := by omega
   have lgab : ga < D3.heap.size := by omega
   clear hg
   refine hK _ _ (Cls.mk' HA.out) ?_
   clear hK K hD3 bD3
   (repeat (first | (refine lex_r fun K hK => ?_; go_big_quiet_op; refine hK _ ?_; clear hK K) | (refine lex_k fun K hK => ?_; go_simp; refine hK _ ?_; clear hK K)))
   refine lex_e fun K hK => ?_
   have hrd := Rep.to_reads eSg_len (by decide) (show Rep _ S _ (frecs eSg m.1) from (HSg.out.under hS (HBU.out.trans (HA.out.mono (by omega))))) (B := D3.heap.size) (fun b hb => by have := hS b hb; omega)
   refine wp_append_any _ _ _ 36 (by rfl) U0.heap.size 99 is (.agg #[.int .i64 0, .int .i64 0, .int .i64 0]) 3 24 Try.underlying36 his hs0 hs1 hs2 rfl (by decide) _ _ _ (by rfl) FA.out _ _ _ _ (recs eSg m.1) (by rfl) hrd (recs_one _) (by unfold maxLen; omega) (by omega) (by omega) ?_
   intro v7 D4 hown7 hgrow7 hblk7
   go_simp
   rw [Nat.zero_add, List.nil_append] at hown7
   obtain ⟨gh, k0, rfl⟩ := slice_form hown7 hblk7.symm ⟨_, rfl⟩
   have hd7 : gh = ga ∨ gh = D3.heap.size := by
    rcases hblk7 with h1 | h1
    ·exact .inl (by injection h1)
    ·exact .inr (by injection h1)
   have zD4 : D3.heap.size ≤ D4.heap.size := hgrow7.size
   have lgh := (hown7.lt gh rfl).2
   have dgh : (gh = ga ∨ D3.heap.size ≤ gh) := by omega
   clear hd7
   have hkp : ∀ b, b < D3.heap.size → b ≠ ga → D4.heap[b]? = D3.heap[b]? := fun b h1 h2 => hgrow7.block b h1 (fun e => h2 (by injection e))
   have HA := Lib.hid (HA.out.trans (below_of_grown hgrow7 (by omega) (fun g hg => by have hg : ga = g := (by injection hg); omega)))
   (try have FC := Lib.hid (own_keep FC.out (fun g hg => hkp g (by have := (FC.out.lt g hg).2; omega) (by have hg : gc = g := (by injection hg); omega))))
   (try have FD := Lib.hid (own_keep FD.out (fun g hg => hkp g (by have := (FD.out.lt g hg).2; omega) (by have hg : gk = g := (by injection hg); omega))))
   (try have FM := Lib.hid (show Blk D4 gb 41 #[.slice none 0 0, .slice none 0 0, .slice none 0 0, .slice none 0 0] from (hkp gb FM.out.lt (by omega)).trans FM.out))
   have FB := Lib.hid hown7
   refine hK _ _ (Cls.mk' HA.out) ?_
   clear hK K hown7 hgrow7 hblk7 hrd hkp
   (repeat (first | (refine lex_r fun K hK => ?_; go_big_quiet_op; refine hK _ ?_; clear hK K) | (refine lex_k fun K hK => ?_; go_simp; refine hK _ ?_; clear hK K)))
   refine lex_e fun K hK => ?_
   have hrd := Rep.to_reads eMm_len (by decide) (show Rep _ S _ (frecs eMm m.2.2.2) from (HMe.out.under hS (HBU.out.trans (HA.out.mono (by omega))))) (B := D4.heap.size) (fun b hb => by have := hS b hb; omega)
   refine wp_append_any _ _ _ 39 (by rfl) U0.heap.size 103 im (.agg #[.int .i64 0, .int .i64 0, .int .i64 0, .int .i64 0]) 4 32 Try.underlying39 him hm0' hm1' hm2' rfl (by decide) _ _ _ (by rfl) FC.out _ _ _ _ (recs eMm m.2.2.2) (by rfl) hrd (recs_one _) (by unfold maxLen; omega) (by omega) (by omega) ?_
   intro v7 D5 hown7 hgrow7 hblk7
   go_simp
   rw [Nat.zero_add, List.nil_append] at hown7
   obtain ⟨gk, k1, rfl⟩ := slice_form hown7 hblk7.symm ⟨_, rfl⟩
   have hd7 : gk = gc ∨ gk = D4.heap.size := by
    rcases hblk7 with h1 | h1
    ·exact .inl (by injection h1)
    ·exact .inr (by injection h1)
   have zD5 : D4.heap.size ≤ D5.heap.size := hgrow7.size
   have lgk := (hown7.lt gk rfl).2
   have dgk : (gk = gc ∨ D4.heap.size ≤ gk) := by omega
   clear hd7
   have hkp : ∀ b, b < D4.heap.size → b ≠ gc → D5.heap[b]? = D4.heap[b]? := fun b h1 h2 => hgrow7.block b h1 (fun e => h2 (by injection e))
   have HA := Lib.hid (HA.out.trans (below_of_grown hgrow7 (by omega) (fun g hg => by have hg : gc = g := (by injection hg); omega)))
   (try have FA := Lib.hid (own_keep FA.out (fun g hg => hkp g (by have := (FA.out.lt g hg).2; omega) (by have hg : ga = g := (by injection hg); omega))))
   (try have FB := Lib.hid (own_keep FB.out (fun g hg => hkp g (by have := (FB.out.lt g hg).2; omega) (by have hg : gh = g := (by injection hg); omega))))
   (try have FM := Lib.hid (show Blk D5 gb 41 #[.slice none 0 0, .slice none 0 0, .slice none 0 0, .slice none 0 0] from (hkp gb FM.out.lt (by omega)).trans FM.out))
   have FD := Lib.hid hown7
   refine hK _ _ (Cls.mk' HA.out) ?_
   clear hK K hown7 hgrow7 hblk7 hrd hkp
   obtain ⟨q0, q1, q2, q3⟩ := blkS4 FM.out
   have f0 := FM.out.frozen 0
   have f1 := FM.out.frozen 1
   have f2 := FM.out.frozen 2
   have f3 := FM.out.frozen 3
   (repeat (first | (refine lex_r fun K hK => ?_; go_big_quiet_op; refine hK _ ?_; clear hK K) | (refine lex_k fun K hK => ?_; go_simp; refine hK _ ?_; clear hK K)))
   (refine lex_e fun K hK => ?_; go_big_op)
   obtain ⟨wx, hwx⟩ : ∃ x, x = ((((D5.setCell ⟨gb, 0, none⟩ (.slice (some ⟨gh, 0, none⟩) ns k0)).setCell ⟨gb, 1, none⟩ (.slice none 0 0)).setCell ⟨gb, 2, none⟩ (.slice none 0 0)).setCell ⟨gb, 3, none⟩ (.slice (some ⟨gk, 0, none⟩) nm k1)) := ⟨_, rfl⟩
   rw [← hwx]
   have hgU : U0.heap.size ≤ gb := by omega
   have HA := Lib.hid (show Below U0.heap.size U0 wx by rw [hwx]; exact (((HA.out.setCell hgU _).setCell hgU _).setCell hgU _).setCell hgU _)
   refine hK _ _ (Cls.mk' HA.out) ?_
   clear hK K q0 q1 q2 q3 f0 f1 f2 f3
   (repeat (first | (refine lex_r fun K hK => ?_; go_big_quiet_op; refine hK _ ?_; clear hK K) | (refine lex_k fun K hK => ?_; go_simp; refine hK _ ?_; clear hK K)))
   (refine lex_nil ?_)
   refine ⟨Cls.mk' HA.out, ?_⟩
   clear lexNE cm0 cm1 cm2 cm3
   go_wp2_with fail
   go_meet
   case rel =>
    have hk2 : ∀ b, b ≠ gb → wx.heap[b]? = D5.heap[b]? := fun b hb => by
     rw [hwx]
     exact (Below.heap_setCell _ ⟨gb, 3, none⟩ _ b hb).trans ((Below.heap_setCell _ ⟨gb, 2, none⟩ _ b hb).trans ((Below.heap_setCell _ ⟨gb, 1, none⟩ _ b hb).trans (Below.heap_setCell _ ⟨gb, 0, none⟩ _ b hb)))
    refine ⟨gb, gh, k0, gk, k1, rfl, ?_, ?_, ?_, ⟨by omega, by omega, by omega⟩, ⟨by omega, by omega, by omega⟩, HA.out⟩
    ·exact own_keep FB.out (fun g hg => hk2 g (by have hg : gh = g := (by injection hg); omega))
    ·exact own_keep FD.out (fun g hg => hk2 g (by have hg : gk = g := (by injection hg); omega))
    ·rw [hwx]
     exact blk_four FM.out
 case rest =>
  obtain ⟨gb, gh, k0, gk, k1, rfl, ho0, ho1, hbk, ⟨hd1, hd2, hd3⟩, ⟨hl1, hl2, hl3⟩, hbc⟩ := hcut
  have HX' := Lib.hid (HXM.out.below hbc HXM.out.lt)
  have HR' := Lib.hid (HXR.out.below hbc HXR.out.lt)
  have HO0 := Lib.hid ho0
  have HO1 := Lib.hid ho1
  have HBK := Lib.hid hbk
  have HBc := Lib.hid hbc
  have hsc := hbc.size
  have hlb := hbk.lt
  have hll0 := (ho0.lt gh rfl).2
  have hll1 := (ho1.lt gk rfl).2
  clear hbc ho0 ho1 hbk
  obtain ⟨io, hio, ho0, ho1, ho2⟩ := info_parts Try.infOpC
  obtain ⟨i0, hi, hz0, hz1, hz2⟩ := info_parts Try.infAssignC
  obtain ⟨y0, y1, y2, y3⟩ := blkS4 HX'.out
  go_wp2_with fail
  clear y0 y1 y2 y3
  go_loopw [4] (fun iv wr => ∃ (k : Nat) (ov : Value) (xs : List Value), k ≤ na ∧ iv = .int .i64 k ∧ Blk wr gb 41 #[.slice (some ⟨gh, 0, none⟩) ns k0, ov, .slice none 0 0, .slice (some ⟨gk, 0, none⟩) nm k1] ∧ Grow wr wc.heap.size 97 2 ov ((m.2.1.take k).map rAssign) xs ∧ Only (fun b => b = gb) wc wr) (fun iv _ => na - (intOf iv).toNat)
  case atStart => exact ⟨0, _, [], Nat.zero_le _, rfl, HBK.out, Grow.nil _ _ _ _, Only.refl _ _⟩
  case round =>
   obtain ⟨k, ov, xs, hk, rfl, hbk, hgr, ho⟩ := hrel
   have Ho := Lib.hid ho
   have hsz := ho.size
   have Hbr := Lib.hid (HBc.out.trans (ho.below (B := U0.heap.size) (by omega) (fun b hb => by omega)))
   have Hbw := Lib.hid (HBU.out.trans (Hbr.out.mono (by omega)))
   have HXr := Lib.hid (HXM.out.below Hbr.out HXM.out.lt)
   have HKr := Lib.hid hbk
   have gx : (0 : Int) ≤ (k : Int) := by omega
   have hklt := hbk.lt
   clear ho hbk
   obtain ⟨L, hL⟩ : ∃ L, L = (m.2.1.take k).map rAssign := ⟨_, rfl⟩
   have hLl : L.length = k := by rw [hL, List.length_map, List.length_take]; have := Hn.out; omega
   rw [← hL] at hgr
   have HL := Lib.hid hL
   have HG := Lib.hid hgr
   have hown := hgr.own
   rw [hLl] at hown
   obtain ⟨Ao, co, rfl, _, _, _⟩ := own_form hown
   have Hown := Lib.hid hown
   have HgA := Lib.hid (show ∀ g, (Value.slice Ao k co).ownBlock = some g → wc.heap.size ≤ g ∧ g < wr.heap.size from fun g hg => hown.lt g hg)
   clear hgr hL hown
   by_cases hlt : k < na
   ·obtain ⟨ad2, a, os, A1', c1', rfl, hab2, hx, hro, hom, t0, t1⟩ := asg_row (HAs.out.under hS Hbw.out) hlt
    have g2 : (k : Int) < (na : Int) := by omega
    have HTS := Lib.hid (show (m.2.1.take (k + 1)).map rAssign = L ++ [rAssign (a, os)] by rw [List.take_add_one, hx, List.map_append, ← HL.out]; rfl)
    have hol := asg_len hz hx
    have Hro := Lib.hid hro
    have HW1 := Lib.hid (Below.refl wr.heap.size wr)
    have HK1 := HKr
    obtain ⟨y0, y1, y2, y3⟩ := blkS4 HXr.out
    clear hx hro
    go_wp2_with fail
    clear y0 y1 y2 y3
    refine wp_region_lexC (by kernel_rfl) (by kernel_rfl) (fun x => Only (fun b => (Value.slice Ao k co).ownBlock = some b) wr x) ((Only.refl _ _).drew) (fun lexNE => ?_)
    obtain ⟨db0, db1, db2, db3⟩ := blkS4 HK1.out
    have nb : ¬ (Value.slice Ao k co).ownBlock = some gb := fun h1 => by have := HgA.out _ h1; omega
    have cb0 := ocel (S := fun b => (Value.slice Ao k co).ownBlock = some b) db0 HK1.out.lt nb
    have cb1 := ocel (S := fun b => (Value.slice Ao k co).ownBlock = some b) db1 HK1.out.lt nb
    have cb2 := ocel (S := fun b => (Value.slice Ao k co).ownBlock = some b) db2 HK1.out.lt nb
    have cb3 := ocel (S := fun b => (Value.slice Ao k co).ownBlock = some b) db3 HK1.out.lt nb
    clear db0 db1 db2 db3 nb
    obtain ⟨dm0, dm1, dm2, dm3⟩ := blkS4 HXr.out
    have hab3 := hS _ hab2
    have nm0 : ¬ (Value.slice Ao k co).ownBlock = some w.heap.size := fun h1 => by have := HgA.out _ h1; omega
    have nm1 : ¬ (Value.slice Ao k co).ownBlock = some ad2.block := fun h1 => by have := HgA.out _ h1; omega
    have cm1 := ocel (S := fun b => (Value.slice Ao k co).ownBlock = some b) dm1 HXr.out.lt nm0
    have cx0 := ocel (S := fun b => (Value.slice Ao k co).ownBlock = some b) t0 (by rw [block_of_add]; omega) (by rw [block_of_add]; exact nm1)
    have cx1 := ocel (S := fun b => (Value.slice Ao k co).ownBlock = some b) t1 (by rw [nxt_block]; omega) (by rw [nxt_block]; exact nm1)
    clear dm0 dm1 dm2 dm3 nm0 nm1 t0 t1
    (repeat (first | (refine lex_r fun K hK => ?_; go_big_quiet_op; refine hK _ ?_; clear hK K) | (refine lex_k fun K hK => ?_; go_simp; refine hK _ ?_; clear hK K)))
    (refine lex_e fun K hK => ?_; go_big_op)
    refine (s_l06CopyOps Hro.out.drew (fun b hb => by have := hS b hb; show b < wr.heap.size; omega) hol).mono ?_
    rintro e D2 ⟨gq, kq, rfl, hoq, hbq⟩
    have HP := Lib.hid (show D2.ownsRow wr.heap.size 74 3 (.slice (some ⟨gq, 0, none⟩) os.length kq) os.length (recs eOp os) from hoq)
    have HD2 := Lib.hid ((Below.refl wr.heap.size wr).drew.trans hbq)
    refine hK _ _ (Cls.mk' (Only.of_below HD2.out _)) ?_
    clear hK K hoq hbq
    have zD2 := HD2.out.size
    (repeat (first | (refine lex_r fun K hK => ?_; go_big_quiet_op; refine hK _ ?_; clear hK K) | (refine lex_k fun K hK => ?_; go_simp; refine hK _ ?_; clear hK K)))
    (refine lex_e fun K hK => ?_; go_big_op)
    refine hK _ _ (Cls.mk' ((Only.of_below HD2.out _).alloc _)) ?_
    clear hK K
    have HO2 := Lib.hid (own_below Hown.out (HW1.out.trans (HD2.out.mono (by omega))) (Nat.le_refl _))
    refine lex_e fun K hK => ?_
    refine wp_append_any _ _ _ 37 (by rfl) (wc.heap.size) 97 i0 (.agg #[.int .i64 0, .slice none 0 0]) 2 32 Try.underlying37 hi hz0 hz1 hz2 rfl (by decide) _ _ _ (by rfl) (HO2.out.alloc _) _ _ 1 1 _ (by rfl) (reads_new _ _ 1 2 rfl) (by intro u hu; simp at hu; first | (subst hu; rfl) | (rcases hu with rfl | rfl <;> rfl) | (rcases hu with rfl | rfl | rfl <;> rfl)) (by unfold maxLen; omega) (by omega) (by (try simp) <;> (try omega)) ?_
    intro v8 w8 hown8 hgrow8 hblk8
    go_simp
    refine hK _ _ (Cls.mk' (Only.grown2 ((Only.of_below HD2.out (fun b => (Value.slice Ao k co).ownBlock = some b)).alloc _) hgrow8 (fun g hg => .inl hg))) ?_
    clear hK K
    obtain ⟨A8, c8, rfl, _, _, _⟩ := own_form hown8
    have zD2 := HD2.out.size
    have HWB := Lib.hid (HW1.out.trans (HD2.out.mono (by omega)))
    have z8 := hgrow8.size
    try simp at z8
    have hg8 : ∀ b, b < wr.heap.size → (Value.slice Ao k co).ownBlock ≠ some b → w8.heap[b]? = wr.heap[b]? := fun b h1 h2 => (hgrow8.block b (by simp; omega) (fun e => h2 e.symm)).trans ((Below.heap_alloc _ _ b (by omega)).trans (HWB.out.block b h1))
    have HK8 := Lib.hid (show Blk w8 gb 41 #[.slice (some ⟨gh, 0, none⟩) ns k0, .slice Ao k co, .slice none 0 0, .slice (some ⟨gk, 0, none⟩) nm k1] from (hg8 gb hklt (fun h1 => by have := HgA.out _ h1; omega)).trans HKr.out)
    have HG8 := Lib.hid (show Grow w8 wc.heap.size 97 2 (.slice A8 (k + 1) c8) (L ++ [rAssign (a, os)]) (xs ++ [.int .i64 a, .slice (some ⟨gq, 0, none⟩) os.length kq]) from
     Grow.push (Q := fun j b => j = 1 ∧ (Value.slice (some ⟨gq, 0, none⟩) os.length kq).ownBlock = some b) HG.out (HWB.out.alloc (by omega) _) (Nat.le_refl _) (by omega) (by rw [hLl]; exact hown8) hgrow8 hblk8 rfl (fun j b hb => by have h1 := HP.out.lt b hb.2; simp; omega) (fun j j' b h1 h2 => h1.1.trans h2.1.symm) (row_assign (sep_recs eOp_len (by decide) (by unfold maxLen; omega) (HP.out.alloc _) (fun g hg => ⟨rfl, hg⟩))))
    have HO8 := Lib.hid (show Only (fun b => b = gb) wc w8 from Only.grown2 ((Ho.out.trans (Only.of_below HWB.out _)).alloc _) hgrow8 (fun g hg => .inr (HgA.out g hg).1))
    clear hown8 hgrow8 hblk8 hg8
    (repeat (first | (refine lex_r fun K hK => ?_; go_big_quiet_op; refine hK _ ?_; clear hK K) | (refine lex_k fun K hK => ?_; go_simp; refine hK _ ?_; clear hK K)))
    obtain ⟨q0, q1, q2, q3⟩ := blkS4 HK8.out
    have f1 := HK8.out.frozen 1
    (refine lex_l fun K hK => ?_; go_big_op)
    (refine hK _ _ ?_; clear hK K)
    clear lexNE q0 q1 q2 q3 f1
    clear cb0 cb1 cb2 cb3 cx0 cx1 cm1
    obtain ⟨wf, hwf⟩ : ∃ wf, wf = (w8.setCell ⟨gb, 1, none⟩ (.slice A8 (k + 1) c8)) := ⟨_, rfl⟩
    have hk2 : ∀ b, b ≠ gb → wf.heap[b]? = w8.heap[b]? := fun b hb => by rw [hwf]; exact Below.heap_setCell _ ⟨gb, 1, none⟩ _ b hb
    have hsf : wf.heap.size = w8.heap.size := by rw [hwf]; simp [World.setCell]
    have HKf := Lib.hid (show Blk wf gb 41 #[.slice (some ⟨gh, 0, none⟩) ns k0, (.slice A8 (k + 1) c8), .slice none 0 0, .slice (some ⟨gk, 0, none⟩) nm k1] by rw [hwf]; exact HK8.out.set_ 1 _)
    have HOf := Lib.hid (show Only (fun b => b = gb) wc wf by rw [hwf]; exact HO8.out.setCell (.inl rfl) _)
    have HGf := Lib.hid (HG8.out.keep (w' := wf) (fun b h1 _ => hk2 b (by omega)) (by omega))
    rw [← hwf]
    clear hwf hk2 hsf
    go_wp2_with fail
    go_roundw
    case rel => exact ⟨k + 1, (.slice A8 (k + 1) c8), _, by omega, by go_num, HKf.out, by rw [HTS.out]; exact HGf.out, HOf.out⟩
    case measure => simp [intOf]; omega
   ·have hkn : k = na := by omega
    obtain ⟨wl, hwl⟩ : ∃ wl, wl = wr := ⟨_, rfl⟩
    subst hwl
    obtain ⟨Aa, qa, ca, hva⟩ : ∃ (Aa : Option Addr) (qa ca : Nat), Value.slice Aa qa ca = .slice Ao k co := ⟨_, _, _, rfl⟩
    have HVa := Lib.hid (show Sep wl (fun b => wc.heap.size ≤ b ∧ b < wl.heap.size) (.slice Aa qa ca) (fAssignS m.2.1) by
     have h1 := HG.out.sep hLl (by unfold maxLen; omega)
     rw [hva]
     rw [HL.out, List.take_of_length_le (by have := Hn.out; omega)] at h1
     exact h1)
    have HKl := Lib.hid (show Blk wl gb 41 #[.slice (some ⟨gh, 0, none⟩) ns k0, (.slice Aa qa ca), .slice none 0 0, .slice (some ⟨gk, 0, none⟩) nm k1] by rw [hva]; exact HKr.out)
    have HBl := Lib.hid Hbr.out
    have HOl0 := Lib.hid (own_keep HO0.out (fun g hg => Ho.out.block g (HO0.out.lt g hg).2 (fun hc => by have hg : gh = g := (by injection hg); have hc : g = gb := hc; omega)))
    have HOl1 := Lib.hid (own_keep HO1.out (fun g hg => Ho.out.block g (HO1.out.lt g hg).2 (fun hc => by have hg : gk = g := (by injection hg); have hc : g = gb := hc; omega)))
    have hgbl : gb < wl.heap.size := HKr.out.lt
    obtain ⟨y0, y1, y2, y3⟩ := blkS4 HXr.out
    have hge : (na : Int) ≤ (k : Int) := by omega
    clear hva
    go_wp2_with fail
    clear y0 y1 y2 y3 hge hkn HG HL hLl Hown HgA HKr Ho Hbr Hbw HXr gx hi hz0 hz1 hz2
    obtain ⟨i0, hi, hz0, hz1, hz2⟩ := info_parts Try.infInstC
    obtain ⟨io, hio, ho0, ho1, ho2⟩ := info_parts Try.infoIntC
    go_loopw [5, 6] (fun iv _ wr => ∃ (k : Nat) (ov : Value) (xs : List Value), k ≤ ni ∧ iv = .int .i64 k ∧ Blk wr gb 41 #[.slice (some ⟨gh, 0, none⟩) ns k0, (.slice Aa qa ca), ov, .slice (some ⟨gk, 0, none⟩) nm k1] ∧ Grow wr wl.heap.size 155 3 ov ((m.2.2.1.take k).map rInst) xs ∧ Only (fun b => b = gb) wl wr) (fun iv _ _ => ni - (intOf iv).toNat)
    case atStart => exact ⟨0, _, [], Nat.zero_le _, rfl, HKl.out, Grow.nil _ _ _ _, Only.refl _ _⟩
    case round =>
     have hszl := hsz
     clear hsz hklt
     obtain ⟨k, ov, xs, hk, rfl, hbk, hgr, ho⟩ := hrel
     have Ho := Lib.hid ho
     have hsz := ho.size
     have Hbr := Lib.hid (HBl.out.trans (ho.below (B := U0.heap.size) (by omega) (fun b hb => by omega)))
     have Hbw := Lib.hid (HBU.out.trans (Hbr.out.mono (by omega)))
     have HXr := Lib.hid (HXM.out.below Hbr.out HXM.out.lt)
     have HKr := Lib.hid hbk
     have gx : (0 : Int) ≤ (k : Int) := by omega
     have hklt := hbk.lt
     clear ho hbk
     obtain ⟨L, hL⟩ : ∃ L, L = (m.2.2.1.take k).map rInst := ⟨_, rfl⟩
     have hLl : L.length = k := by rw [hL, List.length_map, List.length_take]; have := Hn.out; omega
     rw [← hL] at hgr
     have HL := Lib.hid hL
     have HG := Lib.hid hgr
     have hown := hgr.own
     rw [hLl] at hown
     obtain ⟨Ao, co, rfl, _, _, _⟩ := own_form hown
     have Hown := Lib.hid hown
     have HgA := Lib.hid (show ∀ g, (Value.slice Ao k co).ownBlock = some g → wl.heap.size ≤ g ∧ g < wr.heap.size from fun g hg => hown.lt g hg)
     clear hgr hL hown
     by_cases hlt : k < ni
     ·obtain ⟨ad2, a, b, ps, A2', c2', rfl, hab2, hx, hro, hom, t0, t1, t2⟩ := ins_row (HIn.out.under hS Hbw.out) hlt
      have g2 : (k : Int) < (ni : Int) := by omega
      have HTS := Lib.hid (show (m.2.2.1.take (k + 1)).map rInst = L ++ [rInst (a, b, ps)] by rw [List.take_add_one, hx, List.map_append, ← HL.out]; rfl)
      have hol := ins_len hz hx
      obtain ⟨y0, y1, y2, y3⟩ := blkS4 HXr.out
      have Hro := Lib.hid hro
      obtain ⟨W1, hW1⟩ : ∃ W1, W1 = wr.alloc (.cells #[.int .i64 a, .int .i64 b, .slice A2' ps.length c2'] 155) := ⟨_, rfl⟩
      have HW1 := Lib.hid (show Below wr.heap.size wr W1 by rw [hW1]; exact (Below.refl _ _).alloc (Nat.le_refl _) _)
      have HK1 := Lib.hid (HKr.out.below HW1.out hklt)
      have HX1 := Lib.hid (show Blk W1 wr.heap.size 155 #[.int .i64 a, .int .i64 b, .slice A2' ps.length c2'] by rw [hW1]; exact Blk.new _ _ _)
      have zW1 : wr.heap.size < W1.heap.size := HX1.out.lt
      clear hx hro
      go_wp2_with fail
      rw [← hW1]
      clear hW1 t0 t1 t2 y0 y1 y2 y3
      refine wp_region_lexC (by kernel_rfl) (by kernel_rfl) (fun x => Only (fun b => (Value.slice Ao k co).ownBlock = some b) W1 x) ((Only.refl _ _).drew) (fun lexNE => ?_)
      obtain ⟨db0, db1, db2, db3⟩ := blkS4 HK1.out
      have nb : ¬ (Value.slice Ao k co).ownBlock = some gb := fun h1 => by have := HgA.out _ h1; omega
      have cb0 := ocel (S := fun b => (Value.slice Ao k co).ownBlock = some b) db0 HK1.out.lt nb
      have cb1 := ocel (S := fun b => (Value.slice Ao k co).ownBlock = some b) db1 HK1.out.lt nb
      have cb2 := ocel (S := fun b => (Value.slice Ao k co).ownBlock = some b) db2 HK1.out.lt nb
      have cb3 := ocel (S := fun b => (Value.slice Ao k co).ownBlock = some b) db3 HK1.out.lt nb
      clear db0 db1 db2 db3 nb
      obtain ⟨dx0, dx1, dx2⟩ := blkS3 HX1.out
      have nx : ¬ (Value.slice Ao k co).ownBlock = some wr.heap.size := fun h1 => by have := HgA.out _ h1; omega
      have cx0 := ocel (S := fun b => (Value.slice Ao k co).ownBlock = some b) dx0 HX1.out.lt nx
      have cx1 := ocel (S := fun b => (Value.slice Ao k co).ownBlock = some b) dx1 HX1.out.lt nx
      have cx2 := ocel (S := fun b => (Value.slice Ao k co).ownBlock = some b) dx2 HX1.out.lt nx
      clear dx0 dx1 dx2 nx
      (repeat (first | (refine lex_r fun K hK => ?_; go_big_quiet_op; refine hK _ ?_; clear hK K) | (refine lex_k fun K hK => ?_; go_simp; refine hK _ ?_; clear hK K)))
      (refine lex_e fun K hK => ?_; go_big_op)
      obtain ⟨D1, hD1⟩ : ∃ x, x = (W1.alloc (.cells #[] 3)).drew := ⟨_, rfl⟩
      rw [← hD1]
      have HD1 := Lib.hid (show Below W1.heap.size W1 D1 by rw [hD1]; exact ((Below.refl _ _).alloc (Nat.le_refl _) _).drew)
      have FQ := Lib.hid (show D1.ownsRow W1.heap.size 3 1 (.slice (some ⟨W1.heap.size, 0, none⟩) 0 0) 0 [] by rw [hD1]; exact own_drew (World.ownsRow_made (base := W1.heap.size) (size := 1) (e := 3) W1 #[] 0 (Nat.le_refl _) (by unfold maxLen; omega) rfl))
      refine hK _ _ (Cls.mk' (Only.of_below HD1.out _)) ?_
      clear hK K hD1
      have zD1 := HD1.out.size
      (repeat (first | (refine lex_r fun K hK => ?_; go_big_quiet_op; refine hK _ ?_; clear hK K) | (refine lex_k fun K hK => ?_; go_simp; refine hK _ ?_; clear hK K)))
      refine lex_e fun K hK => ?_
      have hrd := rep_reads2 (Hro.out.under (B := wr.heap.size) (fun b hb => by have := hS b hb; omega) (HW1.out.trans (HD1.out.mono (by omega)))) (B := D1.heap.size) (fun b hb => by have := hS b hb; omega)
      refine wp_append_any _ _ _ 28 (by rfl) W1.heap.size 3 io (.int .i64 0) 1 8 Try.underlying28 hio ho0 ho1 ho2 rfl (by decide) _ _ _ (by rfl) FQ.out _ _ _ _ (ints ps) (by rfl) hrd (ints_one _) (by unfold maxLen; omega) (by omega) (by omega) ?_
      intro v7 D2 hown7 hgrow7 hblk7
      go_simp
      rw [Nat.zero_add, List.nil_append] at hown7
      obtain ⟨gq, kq, rfl⟩ := slice_form hown7 hblk7.symm ⟨_, rfl⟩
      have HP := Lib.hid hown7
      have HD2 := Lib.hid (HD1.out.trans (below_of_grown hgrow7 HD1.out.size (fun g hg => by have hg : W1.heap.size = g := (by injection hg); omega)))
      refine hK _ _ (Cls.mk' (Only.of_below HD2.out _)) ?_
      clear hK K hown7 hgrow7 hblk7 hrd
      have zD2 := HD2.out.size
      (repeat (first | (refine lex_r fun K hK => ?_; go_big_quiet_op; refine hK _ ?_; clear hK K) | (refine lex_k fun K hK => ?_; go_simp; refine hK _ ?_; clear hK K)))
      (refine lex_e fun K hK => ?_; go_big_op)
      refine hK _ _ (Cls.mk' ((Only.of_below HD2.out _).alloc _)) ?_
      clear hK K
      have HO2 := Lib.hid (own_below Hown.out (HW1.out.trans (HD2.out.mono (by omega))) (Nat.le_refl _))
      refine lex_e fun K hK => ?_
      refine wp_append_any _ _ _ 38 (by rfl) (wl.heap.size) 155 i0 (.agg #[.int .i64 0, .int .i64 0, .slice none 0 0]) 3 40 Try.underlying38 hi hz0 hz1 hz2 rfl (by decide) _ _ _ (by rfl) (HO2.out.alloc _) _ _ 1 1 _ (by rfl) (reads_new _ _ 1 3 rfl) (by intro u hu; simp at hu; first | (subst hu; rfl) | (rcases hu with rfl | rfl <;> rfl) | (rcases hu with rfl | rfl | rfl <;> rfl)) (by unfold maxLen; omega) (by omega) (by (try simp) <;> (try omega)) ?_
      intro v8 w8 hown8 hgrow8 hblk8
      go_simp
      refine hK _ _ (Cls.mk' (Only.grown2 ((Only.of_below HD2.out (fun b => (Value.slice Ao k co).ownBlock = some b)).alloc _) hgrow8 (fun g hg => .inl hg))) ?_
      clear hK K
      obtain ⟨A8, c8, rfl, _, _, _⟩ := own_form hown8
      have zD2 := HD2.out.size
      have HWB := Lib.hid (HW1.out.trans (HD2.out.mono (by omega)))
      have z8 := hgrow8.size
      try simp at z8
      have hg8 : ∀ b, b < wr.heap.size → (Value.slice Ao k co).ownBlock ≠ some b → w8.heap[b]? = wr.heap[b]? := fun b h1 h2 => (hgrow8.block b (by simp; omega) (fun e => h2 e.symm)).trans ((Below.heap_alloc _ _ b (by omega)).trans (HWB.out.block b h1))
      have HK8 := Lib.hid (show Blk w8 gb 41 #[.slice (some ⟨gh, 0, none⟩) ns k0, (.slice Aa qa ca), .slice Ao k co, .slice (some ⟨gk, 0, none⟩) nm k1] from (hg8 gb hklt (fun h1 => by have := HgA.out _ h1; omega)).trans HKr.out)
      have HG8 := Lib.hid (show Grow w8 wl.heap.size 155 3 (.slice A8 (k + 1) c8) (L ++ [rInst (a, b, ps)]) (xs ++ [.int .i64 a, .int .i64 b, .slice (some ⟨gq, 0, none⟩) ps.length kq]) from
       Grow.push (Q := fun j b => j = 2 ∧ (Value.slice (some ⟨gq, 0, none⟩) ps.length kq).ownBlock = some b) HG.out (HWB.out.alloc (by omega) _) (Nat.le_refl _) (by omega) (by rw [hLl]; exact hown8) hgrow8 hblk8 rfl (fun j b hb => by have h1 := HP.out.lt b hb.2; simp; omega) (fun j j' b h1 h2 => h1.1.trans h2.1.symm) (row_inst (sep_ints (by unfold maxLen; omega) (HP.out.alloc _) (fun g hg => ⟨rfl, hg⟩))))
      have HO8 := Lib.hid (show Only (fun b => b = gb) wl w8 from Only.grown2 ((Ho.out.trans (Only.of_below HWB.out _)).alloc _) hgrow8 (fun g hg => .inr (HgA.out g hg).1))
      clear hown8 hgrow8 hblk8 hg8
      (repeat (first | (refine lex_r fun K hK => ?_; go_big_quiet_op; refine hK _ ?_; clear hK K) | (refine lex_k fun K hK => ?_; go_simp; refine hK _ ?_; clear hK K)))
      obtain ⟨q0, q1, q2, q3⟩ := blkS4 HK8.out
      have f1 := HK8.out.frozen 2
      (refine lex_l fun K hK => ?_; go_big_op)
      (refine hK _ _ ?_; clear hK K)
      clear lexNE q0 q1 q2 q3 f1
      clear cb0 cb1 cb2 cb3 cx0 cx1 cx2
      obtain ⟨wf, hwf⟩ : ∃ wf, wf = (w8.setCell ⟨gb, 2, none⟩ (.slice A8 (k + 1) c8)) := ⟨_, rfl⟩
      have hk2 : ∀ b, b ≠ gb → wf.heap[b]? = w8.heap[b]? := fun b hb => by rw [hwf]; exact Below.heap_setCell _ ⟨gb, 2, none⟩ _ b hb
      have hsf : wf.heap.size = w8.heap.size := by rw [hwf]; simp [World.setCell]
      have HKf := Lib.hid (show Blk wf gb 41 #[.slice (some ⟨gh, 0, none⟩) ns k0, (.slice Aa qa ca), (.slice A8 (k + 1) c8), .slice (some ⟨gk, 0, none⟩) nm k1] by rw [hwf]; exact HK8.out.set_ 2 _)
      have HOf := Lib.hid (show Only (fun b => b = gb) wl wf by rw [hwf]; exact HO8.out.setCell (.inl rfl) _)
      have HGf := Lib.hid (HG8.out.keep (w' := wf) (fun b h1 _ => hk2 b (by omega)) (by omega))
      rw [← hwf]
      clear hwf hk2 hsf
      go_wp2_with fail
      go_roundw
      case rel => exact ⟨k + 1, (.slice A8 (k + 1) c8), _, by omega, by go_num, HKf.out, by rw [HTS.out]; exact HGf.out, HOf.out⟩
      case measure => simp [intOf]; omega
     ·have hkn : k = ni := by omega
      have hge : (ni : Int) ≤ (k : Int) := by omega
      have HVi := Lib.hid (show Sep wr (fun b => wl.heap.size ≤ b ∧ b < wr.heap.size) (.slice Ao k co) (fInstS m.2.2.1) by
       have h1 := HG.out.sep hLl (by unfold maxLen; omega)
       rw [HL.out, List.take_of_length_le (by have := Hn.out; omega)] at h1
       exact h1)
      have HRr := Lib.hid (HXR.out.below Hbr.out HXR.out.lt)
      obtain ⟨y0, y1, y2, y3⟩ := blkS4 HXr.out
      obtain ⟨z0, z1, z2, z3⟩ := blkS4 HKr.out
      obtain ⟨r0, r1, r2, r3⟩ := blkS4 HRr.out
      have f0 := HRr.out.frozen 0
      have f1 := HRr.out.frozen 1
      have f2 := HRr.out.frozen 2
      have f3 := HRr.out.frozen 3
      clear hkn
      go_wp2_with fail
      obtain ⟨wf, hwf⟩ : ∃ wf, wf = ((((wr.setCell ⟨w.heap.size + 1, 0, none⟩ (.slice (some ⟨gh, 0, none⟩) ns k0)).setCell ⟨w.heap.size + 1, 1, none⟩ (.slice Aa qa ca)).setCell ⟨w.heap.size + 1, 2, none⟩ (.slice Ao k co)).setCell ⟨w.heap.size + 1, 3, none⟩ (.slice (some ⟨gk, 0, none⟩) nm k1)) := ⟨_, rfl⟩
      have hRf : Blk wf (w.heap.size + 1) 41 #[.slice (some ⟨gh, 0, none⟩) ns k0, (.slice Aa qa ca), .slice Ao k co, .slice (some ⟨gk, 0, none⟩) nm k1] := by rw [hwf]; exact blk_four HRr.out
      have hk2 : ∀ b, b ≠ w.heap.size + 1 → wf.heap[b]? = wr.heap[b]? := fun b hb => by
       rw [hwf]
       exact (Below.heap_setCell _ ⟨w.heap.size + 1, 3, none⟩ _ b hb).trans ((Below.heap_setCell _ ⟨w.heap.size + 1, 2, none⟩ _ b hb).trans ((Below.heap_setCell _ ⟨w.heap.size + 1, 1, none⟩ _ b hb).trans (Below.heap_setCell _ ⟨w.heap.size + 1, 0, none⟩ _ b hb)))
      have hsf : wf.heap.size = wr.heap.size := by rw [hwf]; simp [World.setCell]
      have hw1 : w.heap.size ≤ w.heap.size + 1 := Nat.le_succ _
      have hBf : Below w.heap.size w wf := by rw [hwf]; exact (((Hbw.out.setCell hw1 _).setCell hw1 _).setCell hw1 _).setCell hw1 _
      have hOr0 := own_keep HOl0.out (w' := wr) (fun g hg => Ho.out.block g (HOl0.out.lt g hg).2 (fun hc => by have hg : gh = g := (by injection hg); have hc : g = gb := hc; exact hd2 (hc.symm.trans hg.symm)))
      have hOr1 := own_keep HOl1.out (w' := wr) (fun g hg => Ho.out.block g (HOl1.out.lt g hg).2 (fun hc => by have hg : gk = g := (by injection hg); have hc : g = gb := hc; exact hd3 (hc.symm.trans hg.symm)))
      obtain ⟨s0, s1, s2, s3⟩ := blkS4 hRf
      rw [← hwf]
      refine bodyPost_ret (v := .agg #[.slice (some ⟨gh, 0, none⟩) ns k0, (.slice Aa qa ca), .slice Ao k co, .slice (some ⟨gk, 0, none⟩) nm k1]) (by simp [results, Try.results77, go_sem, s0, s1, s2, s3]) rfl ⟨_, rfl, ⟨_, _, _, _, fun j b => (j = 0 ∧ b = gh) ∨ (j = 1 ∧ wc.heap.size ≤ b ∧ b < wl.heap.size) ∨ (j = 2 ∧ wl.heap.size ≤ b ∧ b < wr.heap.size) ∨ (j = 3 ∧ b = gk), rfl, ?_, ?_, ?_, ?_, ?_, ?_⟩, hBf⟩
      ·rintro j b (⟨rfl, rfl⟩ | ⟨rfl, p1, p2⟩ | ⟨rfl, p1, p2⟩ | ⟨rfl, rfl⟩)
       ·exact ⟨by omega, by omega⟩
       ·exact ⟨by omega, by omega⟩
       ·exact ⟨by omega, by omega⟩
       ·exact ⟨by omega, by omega⟩
      ·rintro i j b (⟨rfl, rfl⟩ | ⟨rfl, p1, p2⟩ | ⟨rfl, p1, p2⟩ | ⟨rfl, rfl⟩) (⟨rfl, q1⟩ | ⟨rfl, q1, q2⟩ | ⟨rfl, q1, q2⟩ | ⟨rfl, q1⟩) <;> first | rfl | (exfalso; clear hse; omega) | (exfalso; omega)
      ·exact sep_recs eSg_len (by decide) (by unfold maxLen; omega) (own_keep hOr0 (w' := wf) (fun g hg => hk2 g (by have hg : gh = g := (by injection hg); omega))) (fun g hg => .inl ⟨rfl, by have hg : gh = g := (by injection hg); exact hg.symm⟩)
      ·exact ((HVa.out.keep (w' := wr) (fun b hb => Ho.out.block b hb.2 (fun hc => by have hc : b = gb := hc; omega))).keep (w' := wf) (fun b hb => hk2 b (by omega))).mono (fun b hb => .inr (.inl ⟨rfl, hb⟩))
      ·exact (HVi.out.keep (w' := wf) (fun b hb => hk2 b (by omega))).mono (fun b hb => .inr (.inr (.inl ⟨rfl, hb⟩)))
      ·exact sep_recs eMm_len (by decide) (by unfold maxLen; omega) (own_keep hOr1 (w' := wf) (fun g hg => hk2 g (by have hg : gk = g := (by injection hg); omega))) (fun g hg => .inr (.inr (.inr ⟨rfl, by have hg : gk = g := (by injection hg); exact hg.symm⟩)))
end Go.Proofs.Ytlkjdhjeecogjaa

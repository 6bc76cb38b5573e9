/- Contracts: the next state: the program's inner function. -/
import Derived.Test.YtlkjdhjeecogjaaStpP
import Derived.Test.YtlkjdhjeecogjaaSigB
import Derived.Test.YtlkjdhjeecogjaaFst
import Derived.Test.YtlkjdhjeecogjaaOrdP
import Derived.Deep.Cut
import Derived.Outline
namespace Go.Proofs.Ytlkjdhjeecogjaa
open Go.RowKit

theorem own_up {w : World} {base base' size n : Nat} {e : TypeId} {v : Value} {xs : List Value} (h : w.ownsRow base e size v n xs) (hb : ∀ g, v.ownBlock = some g → base' ≤ g) : w.ownsRow base' e size v n xs := by
 refine ⟨h.1, h.2.imp id ?_⟩
 rintro ⟨g, cap, cur, hv, hl, r⟩
 exact ⟨g, cap, cur, hv, hb g (by rw [hv]; rfl), r⟩
theorem ints_set (l : List Int) (k : Nat) (x : Int) : ints (l.set k x) = (ints l).set k (.int .i64 x) := by
 unfold ints
 rw [List.map_set]
theorem own_int_at {w : World} {base g n c k : Nat} {e : TypeId} {l : List Int} (h : w.ownsRow base e 1 (.slice (some ⟨g, 0, none⟩) n c) n (ints l)) (hk : k < n) : ∃ x : Int, l[k]? = some x ∧ w.cell? ⟨g, k, none⟩ = some (.int .i64 x) := by
 have h1 := h.cellAt k (by omega)
 have hl : l.length = n := by have h2 := h.1; simp [ints] at h2; exact h2
 have h3 : l[k]? = some l[k] := List.getElem?_eq_getElem (by omega)
 exact ⟨_, h3, by rw [h1]; unfold ints; rw [List.getElem?_map, h3]; rfl⟩
/-- behind the makes: a row of zeros, a copy of the words, the state's block -/
def StepI (W0 wc : World) (ns nw c2 gb g1 g2 : Nat) (ws : List Int) : Prop :=
 wc.ownsRow W0.heap.size 3 1 (.slice (some ⟨g1, 0, none⟩) ns ns) ns (ints (List.replicate ns 0)) ∧ wc.ownsRow W0.heap.size 3 1 (.slice (some ⟨g2, 0, none⟩) nw c2) nw (ints ws) ∧
 Blk wc gb 33 #[.slice (some ⟨g1, 0, none⟩) ns ns, .slice (some ⟨g2, 0, none⟩) nw c2] ∧ (g1 ≠ g2 ∧ gb ≠ g1 ∧ gb ≠ g2) ∧ (W0.heap.size ≤ gb ∧ W0.heap.size ≤ g1 ∧ W0.heap.size ≤ g2) ∧ Below W0.heap.size W0 wc
set_option maxRecDepth 100000 in
set_option maxHeartbeats 16000000 in
theorem i_nextState {w : World} {S S2 S4 : Nat → Prop} {v v2 : Value} {Av : Option Addr} {cv : Nat} {m : TModule} {st : TWordState} {VS : List Nat} (hws : wsB m st = true) (hvl : VS.length = m.1.length) (hwb : WB m VS)
  (h : RModule w S v m) (hS : ∀ b, S b → b < w.heap.size) (h2 : RWordState w S2 v2 st) (hS2 : ∀ b, S2 b → b < w.heap.size) (hin : Rep w S4 (.slice Av VS.length cv) (fIntS (nI VS))) (hS4 : ∀ b, S4 b → b < w.heap.size) :
  Calls Try.prog 65 #[v, v2, .slice Av VS.length cv] w fun e w' => ∃ v', e = .returned v' ∧ QWordState w' (New w w') v' (nextN m st.2 VS) ∧ Below w.heap.size w w' := by
 obtain ⟨i0, hi, hz0', hz1, hz2⟩ := info_parts Try.infoIntC
 obtain ⟨hf, -, hwl, _, _⟩ := wsB_iff hws
 have hok := (flat_ok hf).1
 obtain ⟨hn30, hna30, hnm2⟩ := okE_na hok
 have HF := Lib.hid hf
 have HOK := Lib.hid hok
 have Hin := Lib.hid hin
 have Hwb := Lib.hid hwb
 have Hvl := Lib.hid hvl
 clear hok hf hwb hin hws
 obtain ⟨A0, c0, A1, c1, A2, c2, A3, c3, rfl, hSg, hAs, -, hMe, hm0, hm1, hm2, hm3⟩ := mod_open h
 obtain ⟨ns, hns⟩ : ∃ ns, m.1.length = ns := ⟨_, rfl⟩
 obtain ⟨na, hna⟩ : ∃ na, m.2.1.length = na := ⟨_, rfl⟩
 obtain ⟨ni, hni⟩ : ∃ ni, m.2.2.1.length = ni := ⟨_, rfl⟩
 obtain ⟨nm, hnm⟩ : ∃ nm, m.2.2.2.length = nm := ⟨_, rfl⟩
 rw [hns, hna, hni, hnm] at h ⊢
 rw [hns] at hSg hm0
 rw [hna] at hAs hm1
 rw [hni] at hm2
 rw [hnm] at hMe hm3
 unfold maxLen at hm0 hm1 hm2 hm3
 have Hn := Lib.hid (And.intro hns (And.intro hna (And.intro hni hnm)))
 have H := Lib.hid h
 have HSg := Lib.hid hSg
 have HAs := Lib.hid hAs
 have HMe := Lib.hid hMe
 have HB0 := Lib.hid ((Below.refl w.heap.size w).alloc (Nat.le_refl _) (.cells #[.slice A0 ns c0, .slice A1 na c1, .slice A2 ni c2, .slice A3 nm c3] 41))
 have HX0 := Lib.hid (Blk.new w 41 #[.slice A0 ns c0, .slice A1 na c1, .slice A2 ni c2, .slice A3 nm c3])
 clear hns hna hnm hni h hSg hAs hMe
 rw [Hn.out.1] at hn30 hvl
 rw [Hn.out.2.1] at hna30
 rw [Hn.out.2.2.2] at hnm2
 obtain ⟨V0, d0, V1, d1, rfl, hV0, hV1, hvm0, hvm1⟩ := wst_open h2
 obtain ⟨nv, hnv⟩ : ∃ nv, st.1.length = nv := ⟨_, rfl⟩
 obtain ⟨nw, hnw⟩ : ∃ nw, st.2.length = nw := ⟨_, rfl⟩
 rw [hnv] at hV0 hvm0 ⊢
 rw [hnw] at hV1 hvm1 ⊢
 unfold maxLen at hvm0 hvm1
 have HNV := Lib.hid (And.intro hnv hnw)
 have HV0 := Lib.hid hV0
 have HV1 := Lib.hid hV1
 clear hnv hnw hV0 hV1 h2
 obtain ⟨W0, hW0⟩ : ∃ W0, W0 = (w.alloc (.cells #[.slice A0 ns c0, .slice A1 na c1, .slice A2 ni c2, .slice A3 nm c3] 41)).alloc (.cells #[.slice V0 nv d0, .slice V1 nw d1] 33) := ⟨_, rfl⟩
 have hz0 : W0.heap.size = w.heap.size + 1 + 1 := by rw [hW0]; simp
 have HBW0 := Lib.hid (show Below w.heap.size w W0 by rw [hW0]; exact HB0.out.alloc (by simp) _)
 have HXM0 := Lib.hid (show Blk W0 w.heap.size 41 #[.slice A0 ns c0, .slice A1 na c1, .slice A2 ni c2, .slice A3 nm c3] by rw [hW0]; exact HX0.out.alloc _)
 have HXS0 := Lib.hid (show Blk W0 (w.heap.size + 1) 33 #[.slice V0 nv d0, .slice V1 nw d1] by rw [hW0]; exact blk_new_at (by simp))
 have HW0 := Lib.hid hW0
 clear hW0
 rw [HNV.out.2, Hn.out.2.2.2] at hwl
 rw [hvl] at Hin ⊢
 have hnw8 : nw ≤ 8 := by omega
 have Hwl := Lib.hid hwl
 clear hvl hwl
 have hcs : (Value.int .i64 0).cells = #[.int .i64 0] := rfl
 have hmk1 := fun W => run_make_rowN (P := Try.prog) 28 3 i0 (.int .i64 0) Try.underlying28 hi hz0' .i64 .i64 ns ns (Nat.le_refl _) (by rw [hz2]; omega) (by omega) W
 simp only [hz1, hcs, Nat.mul_one] at hmk1
 clear hcs
 obtain ⟨U0, hU0⟩ : ∃ U0, U0 = W0.alloc (.cells #[.slice none 0 0, .slice none 0 0] 33) := ⟨_, rfl⟩
 have hu0 : U0.heap.size = w.heap.size + 1 + 1 + 1 := by rw [hU0]; simp [hz0]
 have HBU0 := Lib.hid (show Below w.heap.size w U0 by rw [hU0]; exact HBW0.out.alloc (by omega) _)
 have HXM := Lib.hid (show Blk U0 w.heap.size 41 #[.slice A0 ns c0, .slice A1 na c1, .slice A2 ni c2, .slice A3 nm c3] by rw [hU0]; exact HXM0.out.alloc _)
 have HXS := Lib.hid (show Blk U0 (w.heap.size + 1) 33 #[.slice V0 nv d0, .slice V1 nw d1] by rw [hU0]; exact HXS0.out.alloc _)
 have HXR := Lib.hid (show Blk U0 (w.heap.size + 1 + 1) 33 #[.slice none 0 0, .slice none 0 0] by rw [hU0]; exact blk_new_at (by simp [hz0]))
 have HU0 := Lib.hid hU0
 have HZ := Lib.hid hu0
 clear hU0 hu0 hz0
 go_enter Try.func65, Try.ntmps65
 go_wp2_with fail
 rw [← HW0.out, ← HU0.out]
 go_cut [7] from 21 (fun pv wc => ∃ gb g1 g2 c2' : Nat, pv = .pointer (some ⟨gb, 0, none⟩) ∧ StepI U0 wc ns nw c2' gb g1 g2 st.2)
 case first =>
  refine wp_region_treeP (.node [] 3 6 (.node [] 3 8 (.node [] 6 8 (.leaf [0, 1, 2, 3, 4, 5, 6, 8, 7, 9]) (.leaf [0, 1, 2, 3, 8, 4, 5, 6, 7, 9])) (.leaf [8, 0, 1, 2, 3, 4, 5, 6, 7, 9])) (.node [] 6 8 (.node [4, 5, 6] 3 8 (.leaf [0, 1, 2, 3, 8, 7, 9]) (.leaf [8, 0, 1, 2, 3, 7, 9])) (.leaf [8, 4, 5, 6, 0, 1, 2, 3, 7, 9]))) (by kernel_rfl) (by kernel_rfl) (fun x => Below U0.heap.size U0 x) ((Below.refl _ _).drew) (fun lexNE => ?_)
  simp only [LexT, ordOps, List.filterMap_cons, List.filterMap_nil, List.getElem?_cons_zero, List.getElem?_cons_succ]
  obtain ⟨cm0, cm1, cm2, cm3⟩ := bwS4 HXM.out HXM.out.lt
  obtain ⟨cs0, cs1⟩ := bwS2 HXS.out HXS.out.lt
  have hbu := HBU0.out
  have hzl : w.heap.size ≤ U0.heap.size := by have := HZ.out; omega
  (refine lex_nil ?_)
  refine ⟨Cls.mk' bel_, ?_, ?_⟩
  ·(refine lex_nil ?_)
   refine ⟨Cls.mk' bel_, ?_, ?_⟩
   ·(refine lex_nil ?_)
    refine ⟨Cls.mk' bel_, ?_, ?_⟩
    ·(repeat (first | (refine lex_r fun K hK => ?_; go_big_quiet_op; refine hK _ ?_; clear hK K) | (refine lex_k fun K hK => ?_; go_simp; refine hK _ ?_; clear hK K)))
     (refine lex_e fun K hK => ?_; go_big_op)
     (refine hK _ _ (Cls.mk' bel_) ?_; clear hK K)
     (repeat (first | (refine lex_r fun K hK => ?_; go_big_quiet_op; refine hK _ ?_; clear hK K) | (refine lex_k fun K hK => ?_; go_simp; refine hK _ ?_; clear hK K)))
     (refine lex_e fun K hK => ?_; go_big_op)
     refine (i_copyInts (HV1.out.under hS2 bel_) (fun b hb => by have := hS2 b hb; (try simp) <;> omega) (by omega)).mono ?_
     rintro e w5 ⟨g2, c2', rfl, ho5, hb5⟩
     have hl5 := ho5.lt g2 rfl
     have hz5 := hb5.size
     try simp at hl5
     try simp at hz5
     (refine hK _ _ (Cls.mk' bel_) ?_; clear hK K)
     (repeat (first | (refine lex_r fun K hK => ?_; go_big_quiet_op; refine hK _ ?_; clear hK K) | (refine lex_k fun K hK => ?_; go_simp; refine hK _ ?_; clear hK K)))
     (refine lex_e fun K hK => ?_; go_big_op)
     (refine hK _ _ (Cls.mk' bel_) ?_; clear hK K)
     (repeat (first | (refine lex_r fun K hK => ?_; go_big_quiet_op; refine hK _ ?_; clear hK K) | (refine lex_k fun K hK => ?_; go_simp; refine hK _ ?_; clear hK K)))
     (refine lex_e fun K hK => ?_; go_big_op)
     (refine hK _ _ (Cls.mk' bel_) ?_; clear hK K)
     (refine lex_nil ?_)
     clear lexNE cm0 cm1 cm2 cm3 cs0 cs1
     refine ⟨Cls.mk' bel_, ?_⟩
     go_wp2_with fail
     go_meet
     case rel =>
      have hzu := HZ.out
      refine ⟨w5.heap.size, U0.heap.size, g2, c2', rfl, ?_, ?_, ?_, by omega, by omega, bel_⟩
      ·exact own_up (own_zeros (by unfold maxLen; omega) blk_) (fun g hg => by have hg : U0.heap.size = g := (by injection hg); omega)
      ·first
       | exact own_up (own_keep ho5 (fun g hg => (Below.heap_setCell _ ⟨w5.heap.size, 1, none⟩ _ g (by have hg : g2 = g := (by injection hg); show g ≠ w5.heap.size; omega)).trans (Below.heap_setCell _ ⟨w5.heap.size, 0, none⟩ _ g (by have hg : g2 = g := (by injection hg); show g ≠ w5.heap.size; omega)))) (fun g hg => by have hg : g2 = g := (by injection hg); omega)
       | exact own_up (own_keep (ho5.alloc _) (fun g hg => (Below.heap_setCell _ ⟨w5.heap.size, 1, none⟩ _ g (by have hg : g2 = g := (by injection hg); show g ≠ w5.heap.size; omega)).trans (Below.heap_setCell _ ⟨w5.heap.size, 0, none⟩ _ g (by have hg : g2 = g := (by injection hg); show g ≠ w5.heap.size; omega)))) (fun g hg => by have hg : g2 = g := (by injection hg); omega)
       | exact own_up (own_below ho5 bel_ (Nat.le_refl _)) (fun g hg => by have hg : g2 = g := (by injection hg); omega)
      ·first
       | exact blk_two hbc.out
       | exact blk_
       | exact blk_two blk_
    ·(repeat (first | (refine lex_r fun K hK => ?_; go_big_quiet_op; refine hK _ ?_; clear hK K) | (refine lex_k fun K hK => ?_; go_simp; refine hK _ ?_; clear hK K)))
     (refine lex_e fun K hK => ?_; go_big_op)
     (refine hK _ _ (Cls.mk' bel_) ?_; clear hK K)
     (repeat (first | (refine lex_r fun K hK => ?_; go_big_quiet_op; refine hK _ ?_; clear hK K) | (refine lex_k fun K hK => ?_; go_simp; refine hK _ ?_; clear hK K)))
     (refine lex_e fun K hK => ?_; go_big_op)
     (refine hK _ _ (Cls.mk' bel_) ?_; clear hK K)
     (repeat (first | (refine lex_r fun K hK => ?_; go_big_quiet_op; refine hK _ ?_; clear hK K) | (refine lex_k fun K hK => ?_; go_simp; refine hK _ ?_; clear hK K)))
     (refine lex_e fun K hK => ?_; go_big_op)
     refine (i_copyInts (HV1.out.under hS2 bel_) (fun b hb => by have := hS2 b hb; (try simp) <;> omega) (by omega)).mono ?_
     rintro e w5 ⟨g2, c2', rfl, ho5, hb5⟩
     have hl5 := ho5.lt g2 rfl
     have hz5 := hb5.size
     try simp at hl5
     try simp at hz5
     (refine hK _ _ (Cls.mk' bel_) ?_; clear hK K)
     have hbc := Lib.hid (show Blk (w5) (U0.heap.size + 1) 33 #[.slice none 0 0, .slice none 0 0] from blk_)
     obtain ⟨z0, z1⟩ := blkS2 hbc.out
     have f0 := hbc.out.frozen 0
     have f1 := hbc.out.frozen 1
     (repeat (first | (refine lex_r fun K hK => ?_; go_big_quiet_op; refine hK _ ?_; clear hK K) | (refine lex_k fun K hK => ?_; go_simp; refine hK _ ?_; clear hK K)))
     (refine lex_e fun K hK => ?_; go_big_op)
     (refine hK _ _ (Cls.mk' bel_) ?_; clear hK K)
     (refine lex_nil ?_)
     clear lexNE cm0 cm1 cm2 cm3 cs0 cs1
     refine ⟨Cls.mk' bel_, ?_⟩
     go_wp2_with fail
     go_meet
     case rel =>
      have hzu := HZ.out
      refine ⟨U0.heap.size + 1, U0.heap.size, g2, c2', rfl, ?_, ?_, ?_, by omega, by omega, bel_⟩
      ·exact own_up (own_zeros (by unfold maxLen; omega) blk_) (fun g hg => by have hg : U0.heap.size = g := (by injection hg); omega)
      ·first
       | exact own_up (own_keep ho5 (fun g hg => (Below.heap_setCell _ ⟨U0.heap.size + 1, 1, none⟩ _ g (by have hg : g2 = g := (by injection hg); show g ≠ U0.heap.size + 1; omega)).trans (Below.heap_setCell _ ⟨U0.heap.size + 1, 0, none⟩ _ g (by have hg : g2 = g := (by injection hg); show g ≠ U0.heap.size + 1; omega)))) (fun g hg => by have hg : g2 = g := (by injection hg); omega)
       | exact own_up (own_keep (ho5.alloc _) (fun g hg => (Below.heap_setCell _ ⟨U0.heap.size + 1, 1, none⟩ _ g (by have hg : g2 = g := (by injection hg); show g ≠ U0.heap.size + 1; omega)).trans (Below.heap_setCell _ ⟨U0.heap.size + 1, 0, none⟩ _ g (by have hg : g2 = g := (by injection hg); show g ≠ U0.heap.size + 1; omega)))) (fun g hg => by have hg : g2 = g := (by injection hg); omega)
       | exact own_up (own_below ho5 bel_ (Nat.le_refl _)) (fun g hg => by have hg : g2 = g := (by injection hg); omega)
      ·first
       | exact blk_two hbc.out
       | exact blk_
       | exact blk_two blk_
   ·(repeat (first | (refine lex_r fun K hK => ?_; go_big_quiet_op; refine hK _ ?_; clear hK K) | (refine lex_k fun K hK => ?_; go_simp; refine hK _ ?_; clear hK K)))
    (refine lex_e fun K hK => ?_; go_big_op)
    (refine hK _ _ (Cls.mk' bel_) ?_; clear hK K)
    (repeat (first | (refine lex_r fun K hK => ?_; go_big_quiet_op; refine hK _ ?_; clear hK K) | (refine lex_k fun K hK => ?_; go_simp; refine hK _ ?_; clear hK K)))
    (refine lex_e fun K hK => ?_; go_big_op)
    (refine hK _ _ (Cls.mk' bel_) ?_; clear hK K)
    (repeat (first | (refine lex_r fun K hK => ?_; go_big_quiet_op; refine hK _ ?_; clear hK K) | (refine lex_k fun K hK => ?_; go_simp; refine hK _ ?_; clear hK K)))
    (refine lex_e fun K hK => ?_; go_big_op)
    refine (i_copyInts (HV1.out.under hS2 bel_) (fun b hb => by have := hS2 b hb; (try simp) <;> omega) (by omega)).mono ?_
    rintro e w5 ⟨g2, c2', rfl, ho5, hb5⟩
    have hl5 := ho5.lt g2 rfl
    have hz5 := hb5.size
    try simp at hl5
    try simp at hz5
    (refine hK _ _ (Cls.mk' bel_) ?_; clear hK K)
    have hbc := Lib.hid (show Blk (w5) (U0.heap.size) 33 #[.slice none 0 0, .slice none 0 0] from blk_)
    obtain ⟨z0, z1⟩ := blkS2 hbc.out
    have f0 := hbc.out.frozen 0
    have f1 := hbc.out.frozen 1
    (repeat (first | (refine lex_r fun K hK => ?_; go_big_quiet_op; refine hK _ ?_; clear hK K) | (refine lex_k fun K hK => ?_; go_simp; refine hK _ ?_; clear hK K)))
    (refine lex_e fun K hK => ?_; go_big_op)
    (refine hK _ _ (Cls.mk' bel_) ?_; clear hK K)
    (refine lex_nil ?_)
    clear lexNE cm0 cm1 cm2 cm3 cs0 cs1
    refine ⟨Cls.mk' bel_, ?_⟩
    go_wp2_with fail
    go_meet
    case rel =>
     have hzu := HZ.out
     refine ⟨U0.heap.size, U0.heap.size + 1, g2, c2', rfl, ?_, ?_, ?_, by omega, by omega, bel_⟩
     ·exact own_up (own_zeros (by unfold maxLen; omega) blk_) (fun g hg => by have hg : U0.heap.size + 1 = g := (by injection hg); omega)
     ·first
      | exact own_up (own_keep ho5 (fun g hg => (Below.heap_setCell _ ⟨U0.heap.size, 1, none⟩ _ g (by have hg : g2 = g := (by injection hg); show g ≠ U0.heap.size; omega)).trans (Below.heap_setCell _ ⟨U0.heap.size, 0, none⟩ _ g (by have hg : g2 = g := (by injection hg); show g ≠ U0.heap.size; omega)))) (fun g hg => by have hg : g2 = g := (by injection hg); omega)
      | exact own_up (own_keep (ho5.alloc _) (fun g hg => (Below.heap_setCell _ ⟨U0.heap.size, 1, none⟩ _ g (by have hg : g2 = g := (by injection hg); show g ≠ U0.heap.size; omega)).trans (Below.heap_setCell _ ⟨U0.heap.size, 0, none⟩ _ g (by have hg : g2 = g := (by injection hg); show g ≠ U0.heap.size; omega)))) (fun g hg => by have hg : g2 = g := (by injection hg); omega)
      | exact own_up (own_below ho5 bel_ (Nat.le_refl _)) (fun g hg => by have hg : g2 = g := (by injection hg); omega)
     ·first
      | exact blk_two hbc.out
      | exact blk_
      | exact blk_two blk_
  ·(refine lex_nil ?_)
   refine ⟨Cls.mk' bel_, ?_, ?_⟩
   ·(repeat (first | (refine lex_r fun K hK => ?_; go_big_quiet_op; refine hK _ ?_; clear hK K) | (refine lex_k fun K hK => ?_; go_simp; refine hK _ ?_; clear hK K)))
    (refine lex_e fun K hK => ?_; go_big_op)
    refine (i_copyInts (HV1.out.under hS2 bel_) (fun b hb => by have := hS2 b hb; (try simp) <;> omega) (by omega)).mono ?_
    rintro e w5 ⟨g2, c2', rfl, ho5, hb5⟩
    have hl5 := ho5.lt g2 rfl
    have hz5 := hb5.size
    try simp at hl5
    try simp at hz5
    (refine hK _ _ (Cls.mk' bel_) ?_; clear hK K)
    (refine lex_nil ?_)
    refine ⟨Cls.mk' bel_, ?_, ?_⟩
    ·(repeat (first | (refine lex_r fun K hK => ?_; go_big_quiet_op; refine hK _ ?_; clear hK K) | (refine lex_k fun K hK => ?_; go_simp; refine hK _ ?_; clear hK K)))
     (refine lex_e fun K hK => ?_; go_big_op)
     (refine hK _ _ (Cls.mk' bel_) ?_; clear hK K)
     (repeat (first | (refine lex_r fun K hK => ?_; go_big_quiet_op; refine hK _ ?_; clear hK K) | (refine lex_k fun K hK => ?_; go_simp; refine hK _ ?_; clear hK K)))
     (refine lex_e fun K hK => ?_; go_big_op)
     (refine hK _ _ (Cls.mk' bel_) ?_; clear hK K)
     (repeat (first | (refine lex_r fun K hK => ?_; go_big_quiet_op; refine hK _ ?_; clear hK K) | (refine lex_k fun K hK => ?_; go_simp; refine hK _ ?_; clear hK K)))
     (refine lex_e fun K hK => ?_; go_big_op)
     (refine hK _ _ (Cls.mk' bel_) ?_; clear hK K)
     (refine lex_nil ?_)
     clear lexNE cm0 cm1 cm2 cm3 cs0 cs1
     refine ⟨Cls.mk' bel_, ?_⟩
     go_wp2_with fail
     go_meet
     case rel =>
      have hzu := HZ.out
      refine ⟨w5.heap.size + 1, w5.heap.size, g2, c2', rfl, ?_, ?_, ?_, by omega, by omega, bel_⟩
      ·exact own_up (own_zeros (by unfold maxLen; omega) blk_) (fun g hg => by have hg : w5.heap.size = g := (by injection hg); omega)
      ·first
       | exact own_up (own_keep ho5 (fun g hg => (Below.heap_setCell _ ⟨w5.heap.size + 1, 1, none⟩ _ g (by have hg : g2 = g := (by injection hg); show g ≠ w5.heap.size + 1; omega)).trans (Below.heap_setCell _ ⟨w5.heap.size + 1, 0, none⟩ _ g (by have hg : g2 = g := (by injection hg); show g ≠ w5.heap.size + 1; omega)))) (fun g hg => by have hg : g2 = g := (by injection hg); omega)
       | exact own_up (own_keep (ho5.alloc _) (fun g hg => (Below.heap_setCell _ ⟨w5.heap.size + 1, 1, none⟩ _ g (by have hg : g2 = g := (by injection hg); show g ≠ w5.heap.size + 1; omega)).trans (Below.heap_setCell _ ⟨w5.heap.size + 1, 0, none⟩ _ g (by have hg : g2 = g := (by injection hg); show g ≠ w5.heap.size + 1; omega)))) (fun g hg => by have hg : g2 = g := (by injection hg); omega)
       | exact own_up (own_below ho5 bel_ (Nat.le_refl _)) (fun g hg => by have hg : g2 = g := (by injection hg); omega)
      ·first
       | exact blk_two hbc.out
       | exact blk_
       | exact blk_two blk_
    ·(repeat (first | (refine lex_r fun K hK => ?_; go_big_quiet_op; refine hK _ ?_; clear hK K) | (refine lex_k fun K hK => ?_; go_simp; refine hK _ ?_; clear hK K)))
     (refine lex_e fun K hK => ?_; go_big_op)
     (refine hK _ _ (Cls.mk' bel_) ?_; clear hK K)
     (repeat (first | (refine lex_r fun K hK => ?_; go_big_quiet_op; refine hK _ ?_; clear hK K) | (refine lex_k fun K hK => ?_; go_simp; refine hK _ ?_; clear hK K)))
     (refine lex_e fun K hK => ?_; go_big_op)
     (refine hK _ _ (Cls.mk' bel_) ?_; clear hK K)
     (repeat (first | (refine lex_r fun K hK => ?_; go_big_quiet_op; refine hK _ ?_; clear hK K) | (refine lex_k fun K hK => ?_; go_simp; refine hK _ ?_; clear hK K)))
     (refine lex_e fun K hK => ?_; go_big_op)
     (refine hK _ _ (Cls.mk' bel_) ?_; clear hK K)
     (refine lex_nil ?_)
     clear lexNE cm0 cm1 cm2 cm3 cs0 cs1
     refine ⟨Cls.mk' bel_, ?_⟩
     go_wp2_with fail
     go_meet
     case rel =>
      have hzu := HZ.out
      refine ⟨w5.heap.size, w5.heap.size + 1, g2, c2', rfl, ?_, ?_, ?_, by omega, by omega, bel_⟩
      ·exact own_up (own_zeros (by unfold maxLen; omega) blk_) (fun g hg => by have hg : w5.heap.size + 1 = g := (by injection hg); omega)
      ·first
       | exact own_up (own_keep ho5 (fun g hg => (Below.heap_setCell _ ⟨w5.heap.size, 1, none⟩ _ g (by have hg : g2 = g := (by injection hg); show g ≠ w5.heap.size; omega)).trans (Below.heap_setCell _ ⟨w5.heap.size, 0, none⟩ _ g (by have hg : g2 = g := (by injection hg); show g ≠ w5.heap.size; omega)))) (fun g hg => by have hg : g2 = g := (by injection hg); omega)
       | exact own_up (own_keep (ho5.alloc _) (fun g hg => (Below.heap_setCell _ ⟨w5.heap.size, 1, none⟩ _ g (by have hg : g2 = g := (by injection hg); show g ≠ w5.heap.size; omega)).trans (Below.heap_setCell _ ⟨w5.heap.size, 0, none⟩ _ g (by have hg : g2 = g := (by injection hg); show g ≠ w5.heap.size; omega)))) (fun g hg => by have hg : g2 = g := (by injection hg); omega)
       | exact own_up (own_below ho5 bel_ (Nat.le_refl _)) (fun g hg => by have hg : g2 = g := (by injection hg); omega)
      ·first
       | exact blk_two hbc.out
       | exact blk_
       | exact blk_two blk_
   ·(repeat (first | (refine lex_r fun K hK => ?_; go_big_quiet_op; refine hK _ ?_; clear hK K) | (refine lex_k fun K hK => ?_; go_simp; refine hK _ ?_; clear hK K)))
    (refine lex_e fun K hK => ?_; go_big_op)
    (refine hK _ _ (Cls.mk' bel_) ?_; clear hK K)
    (repeat (first | (refine lex_r fun K hK => ?_; go_big_quiet_op; refine hK _ ?_; clear hK K) | (refine lex_k fun K hK => ?_; go_simp; refine hK _ ?_; clear hK K)))
    (refine lex_e fun K hK => ?_; go_big_op)
    refine (i_copyInts (HV1.out.under hS2 bel_) (fun b hb => by have := hS2 b hb; (try simp) <;> omega) (by omega)).mono ?_
    rintro e w5 ⟨g2, c2', rfl, ho5, hb5⟩
    have hl5 := ho5.lt g2 rfl
    have hz5 := hb5.size
    try simp at hl5
    try simp at hz5
    (refine hK _ _ (Cls.mk' bel_) ?_; clear hK K)
    (repeat (first | (refine lex_r fun K hK => ?_; go_big_quiet_op; refine hK _ ?_; clear hK K) | (refine lex_k fun K hK => ?_; go_simp; refine hK _ ?_; clear hK K)))
    (refine lex_e fun K hK => ?_; go_big_op)
    (refine hK _ _ (Cls.mk' bel_) ?_; clear hK K)
    have hbc := Lib.hid (show Blk (w5.alloc (.cells (madeCells #[.int .i64 0] ns) 3)) (U0.heap.size) 33 #[.slice none 0 0, .slice none 0 0] from blk_)
    obtain ⟨z0, z1⟩ := blkS2 hbc.out
    have f0 := hbc.out.frozen 0
    have f1 := hbc.out.frozen 1
    (repeat (first | (refine lex_r fun K hK => ?_; go_big_quiet_op; refine hK _ ?_; clear hK K) | (refine lex_k fun K hK => ?_; go_simp; refine hK _ ?_; clear hK K)))
    (refine lex_e fun K hK => ?_; go_big_op)
    (refine hK _ _ (Cls.mk' bel_) ?_; clear hK K)
    (refine lex_nil ?_)
    clear lexNE cm0 cm1 cm2 cm3 cs0 cs1
    refine ⟨Cls.mk' bel_, ?_⟩
    go_wp2_with fail
    go_meet
    case rel =>
     have hzu := HZ.out
     refine ⟨U0.heap.size, w5.heap.size, g2, c2', rfl, ?_, ?_, ?_, by omega, by omega, bel_⟩
     ·exact own_up (own_zeros (by unfold maxLen; omega) blk_) (fun g hg => by have hg : w5.heap.size = g := (by injection hg); omega)
     ·first
      | exact own_up (own_keep ho5 (fun g hg => (Below.heap_setCell _ ⟨U0.heap.size, 1, none⟩ _ g (by have hg : g2 = g := (by injection hg); show g ≠ U0.heap.size; omega)).trans (Below.heap_setCell _ ⟨U0.heap.size, 0, none⟩ _ g (by have hg : g2 = g := (by injection hg); show g ≠ U0.heap.size; omega)))) (fun g hg => by have hg : g2 = g := (by injection hg); omega)
      | exact own_up (own_keep (ho5.alloc _) (fun g hg => (Below.heap_setCell _ ⟨U0.heap.size, 1, none⟩ _ g (by have hg : g2 = g := (by injection hg); show g ≠ U0.heap.size; omega)).trans (Below.heap_setCell _ ⟨U0.heap.size, 0, none⟩ _ g (by have hg : g2 = g := (by injection hg); show g ≠ U0.heap.size; omega)))) (fun g hg => by have hg : g2 = g := (by injection hg); omega)
      | exact own_up (own_below ho5 bel_ (Nat.le_refl _)) (fun g hg => by have hg : g2 = g := (by injection hg); omega)
     ·first
      | exact blk_two hbc.out
      | exact blk_
      | exact blk_two blk_
 case rest =>
  obtain ⟨gb, g1, g2, c2', rfl, ho1, ho2, hbk, ⟨hd1, hd2, hd3⟩, ⟨hl1, hl2, hl3⟩, hbc⟩ := hcut
  have HX0' := Lib.hid (HXM.out.below hbc HXM.out.lt)
  have HS0' := Lib.hid (HXS.out.below hbc HXS.out.lt)
  have HR0' := Lib.hid (HXR.out.below hbc HXR.out.lt)
  have HO1 := Lib.hid ho1
  have HO2 := Lib.hid ho2
  have HBK := Lib.hid hbk
  have HBc := Lib.hid hbc
  have hsc := hbc.size
  have hlt1 := (ho1.lt g1 rfl).2
  have hlt2 := (ho2.lt g2 rfl).2
  have hltb := hbk.lt
  have hzl : w.heap.size + 1 + 1 < U0.heap.size := by have := HZ.out; omega
  obtain ⟨y0, y1, y2, y3⟩ := blkS4 HX0'.out
  clear hbc ho1 ho2 hbk
  go_wp2_with fail
  clear y0 y1 y2 y3
  go_loopw [9, 24] (fun _ iv wr => ∃ k : Nat, k ≤ na ∧ iv = .int .i64 k ∧ wr.ownsRow U0.heap.size 3 1 (.slice (some ⟨g1, 0, none⟩) ns ns) ns (ints (regK m VS k)) ∧ Only (fun b => b = g1) wc wr) (fun _ iv _ => na - (intOf iv).toNat)
  case atStart => exact ⟨0, Nat.zero_le _, rfl, by have h1 := HO1.out; unfold regK; rw [Hn.out.1]; exact h1, Only.refl _ _⟩
  case round =>
   obtain ⟨k, hk, rfl, hown, ho⟩ := hrel
   have Ho := Lib.hid ho
   have Hown := Lib.hid hown
   have hsz := ho.size
   have Hbr := Lib.hid (HBc.out.trans (ho.below (B := U0.heap.size) (by omega) (fun b hb => by omega)))
   have Hbw := Lib.hid (HBU0.out.trans (Hbr.out.mono (by omega)))
   have HXr := Lib.hid (Only.blk ho HX0'.out (by omega))
   have HSr := Lib.hid (Only.blk ho HS0'.out (by omega))
   have HRr := Lib.hid (Only.blk ho HR0'.out (by omega))
   have HBr := Lib.hid (Only.blk ho HBK.out (by omega))
   obtain ⟨y0, y1, y2, y3⟩ := blkS4 HXr.out
   have gk : (0 : Int) ≤ (k : Int) := by omega
   clear ho hown
   by_cases hlt : k < na
   ·obtain ⟨ad2, a, os, A1', c1', rfl, hab2, hx, hro, hom, t0, t1⟩ := asg_row (HAs.out.under hS Hbw.out) hlt
    obtain ⟨s, x, rfl, hxs, hw4a, hw4b⟩ := tgt_wid HF.out hx
    have hsn : s < ns := by have := (List.getElem?_eq_some_iff.1 hxs).1; have := Hn.out.1; omega
    obtain ⟨W1, hW1⟩ : ∃ W1, W1 = wr.alloc (.cells #[.int .i64 (s : Int), .slice A1' os.length c1'] 97) := ⟨_, rfl⟩
    have hW1b := Lib.hid (show Below wr.heap.size wr W1 by rw [hW1]; exact (Below.refl _ _).alloc (Nat.le_refl _) _)
    obtain ⟨ad, x0, x1, x2, rfl, hab, hxs', e0, e1, e2⟩ := fSignalS_row (HSg.out.under hS (Hbw.out.trans (hW1b.out.mono (by omega)))) hsn
    obtain rfl : (x0, x1, x2) = x := by rw [hxs] at hxs'; injection hxs' with h1; exact h1.symm
    simp only at hw4a hw4b
    have HOw1 := Lib.hid (show W1.ownsRow U0.heap.size 3 1 (.slice (some ⟨g1, 0, none⟩) ns ns) ns (ints (regK m VS k)) by rw [hW1]; exact Hown.out.alloc _)
    have Ho1 := Lib.hid (show Only (fun b => b = g1) wc W1 by rw [hW1]; exact Ho.out.alloc _)
    have HXb := Lib.hid (show Blk W1 wr.heap.size 97 #[.int .i64 (s : Int), .slice A1' os.length c1'] by rw [hW1]; exact Blk.new _ _ _)
    have HXm1 := Lib.hid (HXr.out.below hW1b.out (by omega))
    have HBr1 := Lib.hid (HBr.out.below hW1b.out (by omega))
    have gs0 : (0 : Int) ≤ (s : Int) := by omega
    have gs1 : (s : Int) < (ns : Int) := by omega
    have gk2 : (k : Int) < (na : Int) := by omega
    have hsz1 := hW1b.out.size
    have e0' := e0
    rw [hW1] at e0'
    obtain ⟨q0, q1, q2, q3⟩ := blkS4 (HXr.out.alloc (.cells #[.int .i64 (s : Int), .slice A1' os.length c1'] 97))
    by_cases h3 : x0 = 3
    ·subst h3
     have Hs := Lib.hid (show regK m VS (k + 1) = (regK m VS k).set s ((evF os VS (mskN x1) : Nat) : Int) by
      rw [regK_succ VS hx]
      unfold regA
      rw [if_pos (kindAt_get hxs), widAt_get hxs]
      simp)
     have hVb : ∀ y ∈ VS, y ≤ 15 := by
      intro y hy
      obtain ⟨i, hi⟩ := List.mem_iff_getElem?.1 hy
      have hi' : i < m.1.length := by have := (List.getElem?_eq_some_iff.1 hi).1; have := Hvl.out; omega
      have h1 := Hwb.out i hi'
      rw [List.getD_eq_getElem?_getD, hi] at h1
      have hg : m.1[i]? = some m.1[i] := List.getElem?_eq_getElem hi'
      rw [widAt_get hg] at h1
      have h2 := (mask_le (mskN_is (flat_wid HF.out hg))).2
      simp only [Option.getD_some] at h1
      omega
     obtain ⟨hob, hev⟩ := ev_asg HF.out hx VS (mskN x1)
     rw [← Hvl.out] at hob
     have hbs : ad.block < W1.heap.size := by have := hS _ hab; have := Hbw.out.size; omega
     have hops : RepB W1.drew W1.drew.heap.size (.slice A1' os.length c1') (fOpS os) := (hro.under (B := wr.heap.size) (fun b hb => by have := hS b hb; have := Hbw.out.size; omega) hW1b.out).drew.mono (fun b hb => by have := hS b hb; have := Hbw.out.size; show b < W1.heap.size; omega)
     have hvals : RepB W1.drew W1.drew.heap.size (.slice Av ns cv) (fIntS (nI VS)) := (Hin.out.under hS4 (Hbw.out.trans (hW1b.out.mono (by omega)))).drew.mono (fun b hb => by have := hS4 b hb; have := Hbw.out.size; show b < W1.heap.size; omega)
     have hvals' : RepB W1.drew W1.drew.heap.size (.slice Av VS.length cv) (fIntS (nI VS)) := by rw [Hvl.out, Hn.out.1]; exact hvals
     have HC := Lib.hid (i_exprAt ⟨hw4a, hw4b⟩ hob hVb hev _ _ _ _ _ _ _ hops hvals)
     obtain ⟨ve, hve⟩ : ∃ ve, ve = evF os VS (mskN x1) := ⟨_, rfl⟩
     rw [← hve] at HC Hs
     clear hx hxs hxs' hro hom hVb hob hev hops hvals hvals' hve
     go_wp2_with fail
     rw [← hW1]
     clear hW1 y0 y1 y2 y3 q0 q1 q2 q3 t0 t1 e0 e0' e2
     have hgw : g1 < W1.heap.size := (HOw1.out.lt g1 rfl).2
     have hne0 : w.heap.size ≠ g1 := by omega
     have hne1 : wr.heap.size ≠ g1 := by have := (Hown.out.lt g1 rfl).2; omega
     have hne2 : ad.block ≠ g1 := by have := hS _ hab; omega
     refine wp_region_lexC (by kernel_rfl) (by kernel_rfl) (fun x => Only (fun b => b = g1) W1 x) ((Only.refl _ _).drew) (fun lexNE => ?_)
     obtain ⟨dm0, dm1, dm2, dm3⟩ := blkS4 HXm1.out
     obtain ⟨dx0, dx1⟩ := blkS2 HXb.out
     obtain ⟨db0, db1⟩ := blkS2 HBr1.out
     have cm0 := ocell (S := fun b => b = g1) dm0 HXm1.out.lt hne0
     have cx0 := ocell (S := fun b => b = g1) dx0 HXb.out.lt hne1
     have cx1 := ocell (S := fun b => b = g1) dx1 HXb.out.lt hne1
     have cb0 := ocell (S := fun b => b = g1) db0 HBr1.out.lt hd2
     have cw := ocell (S := fun b => b = g1) e1 (by rw [nxt_block]; exact hbs) (by rw [nxt_block]; exact hne2)
     clear dm0 dm1 dm2 dm3 dx0 dx1 db0 db1
     (repeat (first | (refine lex_r fun K hK => ?_; go_big_quiet_op; refine hK _ ?_; clear hK K) | (refine lex_k fun K hK => ?_; go_simp; refine hK _ ?_; clear hK K)))
     (refine lex_e fun K hK => ?_; go_big_op)
     refine (HC.out).mono ?_
     rintro e w8 ⟨rfl, hb8⟩
     have H8 := Lib.hid ((Below.refl W1.heap.size W1).drew.trans hb8)
     have HOw8 := Lib.hid (own_below HOw1.out H8.out (Nat.le_refl _))
     obtain ⟨zo, hzo, hc⟩ := own_int_at HOw8.out hsn
     have hfz := HOw8.out.frozenAt s
     refine hK _ _ (Cls.mk' (Only.of_below H8.out _)) ?_
     clear hK K hb8 hzo
     (repeat (first | (refine lex_r fun K hK => ?_; go_big_quiet_op; refine hK _ ?_; clear hK K) | (refine lex_k fun K hK => ?_; go_simp; refine hK _ ?_; clear hK K)))
     (refine lex_e fun K hK => ?_; go_big_op)
     refine hK _ _ (Cls.mk' ((Only.of_below H8.out (fun b => b = g1)).setCell (p := ⟨g1, s, none⟩) (.inl rfl) _)) ?_
     clear hK K
     (repeat (first | (refine lex_r fun K hK => ?_; go_big_quiet_op; refine hK _ ?_; clear hK K) | (refine lex_k fun K hK => ?_; go_simp; refine hK _ ?_; clear hK K)))
     (refine lex_nil ?_)
     clear lexNE cm0 cx0 cx1 cb0 cw
     go_wp2_with fail
     go_roundw
     case rel =>
      refine ⟨k + 1, by omega, by go_num, ?_, ?_⟩
      ·rw [Hs.out, ints_set]
       exact (HOw8.out.stored s (.int .i64 (ve : Int))).1
      ·exact (Ho1.out.trans (Only.of_below H8.out (fun b => b = g1))).setCell (p := ⟨g1, s, none⟩) (.inl rfl) _
     case measure => simp [intOf]; omega
    ·have q3 : (x0 == 3) = false := by simpa using h3
     have Hs := Lib.hid (show regK m VS (k + 1) = regK m VS k by
      rw [regK_succ VS hx]
      unfold regA
      rw [if_neg (by rw [kindAt_get hxs]; exact h3)])
     clear h3 hx hxs hxs' hro hom
     go_wp2_with fail
     rw [← hW1]
     go_roundw
     case rel => exact ⟨k + 1, by omega, by go_num, by rw [Hs.out]; exact HOw1.out, Ho1.out⟩
     case measure => simp [intOf]; omega
   ·have hge : (na : Int) ≤ (k : Int) := by omega
    have hkn : k = na := by omega
    have HE := Lib.hid (show wr.ownsRow U0.heap.size 3 1 (.slice (some ⟨g1, 0, none⟩) ns ns) ns (ints (mvK m VS st.2 0)) by
     have h1 := Hown.out
     rw [hkn, ← Hn.out.2.1] at h1
     exact h1)
    have HE2 := Lib.hid (show wr.ownsRow U0.heap.size 3 1 (.slice (some ⟨g2, 0, none⟩) nw c2') nw (ints (mwK m VS st.2 0)) from own_keep HO2.out (fun g hg => Ho.out.block g (by exact (HO2.out.lt g hg).2) (fun hc => by have hg : g2 = g := (by injection hg); have hc : g = g1 := hc; omega)))
    have Ho2 := Lib.hid (Ho.out.more (S' := fun b => b = g1 ∨ b = g2) (fun b hb => .inl hb))
    clear hkn
    go_wp2_with fail
    clear y0 y1 y2 y3 hge
    go_loopw [10, 11, 12, 59] (fun _ _ _ iv wr => ∃ k : Nat, k ≤ nm ∧ iv = .int .i64 k ∧ wr.ownsRow U0.heap.size 3 1 (.slice (some ⟨g1, 0, none⟩) ns ns) ns (ints (mvK m VS st.2 k)) ∧ wr.ownsRow U0.heap.size 3 1 (.slice (some ⟨g2, 0, none⟩) nw c2') nw (ints (mwK m VS st.2 k)) ∧ Only (fun b => b = g1 ∨ b = g2) wc wr) (fun _ _ _ iv _ => nm - (intOf iv).toNat)
    case atStart => exact ⟨0, Nat.zero_le _, rfl, HE.out, HE2.out, Ho2.out⟩
    case round =>
     clear HE HE2 Ho2 Ho Hown hsz Hbr Hbw HXr HSr HRr HBr gk
     obtain ⟨k, hk, rfl, hown, hown2, ho⟩ := hrel
     have Ho := Lib.hid ho
     have Hown := Lib.hid hown
     have Hown2 := Lib.hid hown2
     have hsz := ho.size
     have Hbr := Lib.hid (HBc.out.trans (ho.below (B := U0.heap.size) (by omega) (fun b hb => by omega)))
     have Hbw := Lib.hid (HBU0.out.trans (Hbr.out.mono (by omega)))
     have HXr := Lib.hid (Only.blk ho HX0'.out (by omega))
     have HSr := Lib.hid (Only.blk ho HS0'.out (by omega))
     have HRr := Lib.hid (Only.blk ho HR0'.out (by omega))
     have HBr := Lib.hid (Only.blk ho HBK.out (by omega))
     obtain ⟨y0, y1, y2, y3⟩ := blkS4 HXr.out
     have gk : (0 : Int) ≤ (k : Int) := by omega
     clear ho hown hown2
     by_cases hlt : k < nm
     ·obtain ⟨ad2, m0, m1, m2, m3, rfl, hab2, hx, t0, t1, t2, t3⟩ := fMemS_row (HMe.out.under hS Hbw.out) hlt
      obtain ⟨p, q, r, s, ⟨rfl, rfl, rfl, rfl⟩, ⟨hp, hq, hr, hs⟩, vp, vq, vr, ⟨hvp, hvq, hvr⟩, hp3, hcell⟩ := mem_facts HF.out hx Hvl.out Hwb.out
      rw [Hn.out.1] at hp hq hr hs
      obtain ⟨W1, hW1⟩ : ∃ W1, W1 = wr.alloc (.cells #[.int .i64 (p : Int), .int .i64 (q : Int), .int .i64 (r : Int), .int .i64 (s : Int)] 103) := ⟨_, rfl⟩
      have hW1b := Lib.hid (show Below wr.heap.size wr W1 by rw [hW1]; exact (Below.refl _ _).alloc (Nat.le_refl _) _)
      have hBw1 := Lib.hid (Hbw.out.trans (hW1b.out.mono (by omega)))
      obtain ⟨adv, xp, rfl, habv, hxp, ep⟩ := rep_nat_at (Hin.out.under hS4 hBw1.out) hp
      obtain ⟨adv', xq, hA, _, hxq, eq⟩ := rep_nat_at (Hin.out.under hS4 hBw1.out) hq
      obtain rfl : adv = adv' := by injection hA
      obtain ⟨adv', xr, hA, _, hxr, er⟩ := rep_nat_at (Hin.out.under hS4 hBw1.out) hr
      obtain rfl : adv = adv' := by injection hA
      obtain rfl : vp = xp := by rw [hxp] at hvp; injection hvp with h1; exact h1.symm
      obtain rfl : vq = xq := by rw [hxq] at hvq; injection hvq with h1; exact h1.symm
      obtain rfl : vr = xr := by rw [hxr] at hvr; injection hvr with h1; exact h1.symm
      obtain ⟨cn, hcn⟩ : ∃ cn, cn = 4 * k + vp := ⟨_, rfl⟩
      have hcnw : cn < nw := by have := Hwl.out; omega
      obtain ⟨adw, xw, rfl, habw, hxw, ew⟩ := fIntS_row (HV1.out.under hS2 hBw1.out) hcnw
      have hcn' : 4 * (k : Int) + (vp : Int) = (cn : Int) := by omega
      have Hmv := Lib.hid (show mvK m VS st.2 (k + 1) = (mvK m VS st.2 k).set s xw by
       rw [mvK_succ]
       unfold mvA
       rw [memAt_get hx, hcell, ← hcn]
       simp [List.getD, hxw])
      have Hmw := Lib.hid (show mwK m VS st.2 (k + 1) = if vr = 1 then (mwK m VS st.2 k).set cn (vq : Int) else mwK m VS st.2 k by
       rw [mwK_succ]
       unfold mwA
       rw [memAt_get hx, hcell, ← hcn]
       simp [List.getD, hxr, hxq])
      have HOa := Lib.hid (show W1.ownsRow U0.heap.size 3 1 (.slice (some ⟨g1, 0, none⟩) ns ns) ns (ints (mvK m VS st.2 k)) by rw [hW1]; exact Hown.out.alloc _)
      have HOb := Lib.hid (show W1.ownsRow U0.heap.size 3 1 (.slice (some ⟨g2, 0, none⟩) nw c2') nw (ints (mwK m VS st.2 k)) by rw [hW1]; exact Hown2.out.alloc _)
      have Ho1 := Lib.hid (show Only (fun b => b = g1 ∨ b = g2) wc W1 by rw [hW1]; exact Ho.out.alloc _)
      have HXb := Lib.hid (show Blk W1 wr.heap.size 103 #[.int .i64 (p : Int), .int .i64 (q : Int), .int .i64 (r : Int), .int .i64 (s : Int)] by rw [hW1]; exact Blk.new _ _ _)
      have HSr1 := Lib.hid (HSr.out.below hW1b.out (by omega))
      have HBr1 := Lib.hid (HBr.out.below hW1b.out (by omega))
      have g1w : g1 < wr.heap.size := (Hown.out.lt g1 rfl).2
      have g2w : g2 < wr.heap.size := (Hown2.out.lt g2 rfl).2
      have hsz1 := hW1b.out.size
      have hbv : adv.block < U0.heap.size := by have := hS4 _ habv; omega
      have hbw : adw.block < U0.heap.size := by have := hS2 _ habw; omega
      have ep' := ep
      rw [hW1] at ep'
      have i1 : (0 : Int) ≤ (p : Int) := by omega
      have i2 : (p : Int) < (ns : Int) := by omega
      have i3 : (0 : Int) ≤ (s : Int) := by omega
      have i4 : (s : Int) < (ns : Int) := by omega
      have i5 : (0 : Int) ≤ (r : Int) := by omega
      have i6 : (r : Int) < (ns : Int) := by omega
      have i7 : (0 : Int) ≤ (q : Int) := by omega
      have i8 : (q : Int) < (ns : Int) := by omega
      have j1 : (0 : Int) ≤ (cn : Int) := by omega
      have j2 : (cn : Int) < (nw : Int) := by omega
      have gk2 : (k : Int) < (nm : Int) := by omega
      have Hcn := Lib.hid hcn
      clear hx hxp hxq hxr hxw hvp hvq hvr hcell hA hcn
      go_wp2_with fail
      rw [← hW1]
      clear hW1 y0 y1 y2 y3 t0 t1 t2 t3 ep ep' hcn'
      obtain ⟨zo, hzo, hc⟩ := own_int_at HOa.out hs
      have hfz := HOa.out.frozenAt s
      refine wp_region_lexC (by kernel_rfl) (by kernel_rfl) (fun x => Below W1.heap.size W1 x) ((Below.refl _ _).drew) (fun lexNE => ?_)
      obtain ⟨cb0, cb1⟩ := bwS2 HBr1.out HBr1.out.lt
      obtain ⟨cs0, cs1⟩ := bwS2 HSr1.out HSr1.out.lt
      obtain ⟨cx0, cx1, cx2, cx3⟩ := bwS4 HXb.out HXb.out.lt
      have cw := wcell (B := W1.heap.size) ew (by rw [block_of_add]; omega)
      (repeat (first | (refine lex_r fun K hK => ?_; go_big_quiet_op; refine hK _ ?_; clear hK K) | (refine lex_k fun K hK => ?_; go_simp; refine hK _ ?_; clear hK K)))
      (refine lex_l fun K hK => ?_; go_big_op)
      (refine hK _ _ ?_; clear hK K)
      clear lexNE cb0 cb1 cs0 cs1 cx0 cx1 cx2 cx3 cw hzo hc hfz
      obtain ⟨W2, hW2⟩ : ∃ W2, W2 = (W1.setCell ⟨g1, s, none⟩ (.int .i64 xw)).drew := ⟨_, rfl⟩
      have hOn := Lib.hid (show Only (fun b => b = g1) W1 W2 by rw [hW2]; exact ((Only.refl (fun b => b = g1) _).setCell (p := ⟨g1, s, none⟩) (.inl rfl) _).drew)
      have HOa2 := Lib.hid (show W2.ownsRow U0.heap.size 3 1 (.slice (some ⟨g1, 0, none⟩) ns ns) ns (ints (mvK m VS st.2 (k + 1))) by rw [hW2, Hmv.out, ints_set]; exact own_drew (HOa.out.stored s (.int .i64 xw)).1)
      have HOb2 := Lib.hid (show W2.ownsRow U0.heap.size 3 1 (.slice (some ⟨g2, 0, none⟩) nw c2') nw (ints (mwK m VS st.2 k)) from own_keep HOb.out (fun g hg => hOn.out.block g (HOb.out.lt g hg).2 (fun hc => by have hg : g2 = g := (by injection hg); have hc : g = g1 := hc; omega)))
      have Ho2 := Lib.hid (Ho1.out.trans (hOn.out.more (S' := fun b => b = g1 ∨ b = g2) (fun b hb => .inl hb)))
      have HXb2 := Lib.hid (Only.blk hOn.out HXb.out (by omega))
      have HBr2 := Lib.hid (Only.blk hOn.out HBr1.out (by omega))
      have hsz2 := hOn.out.size
      have er2 := (hOn.out.cell (p := adv.add r) (by rw [block_of_add]; omega) (by rw [block_of_add]; omega)).trans er
      have eq2 := (hOn.out.cell (p := adv.add q) (by rw [block_of_add]; omega) (by rw [block_of_add]; omega)).trans eq
      rw [← hW2]
      clear hW2 er eq ew
      obtain ⟨u0, u1, u2, u3⟩ := blkS4 HXb2.out
      by_cases hv1 : vr = 1
      ·subst hv1
       have er3 : W2.cell? (adv.add r) = some (.int .i64 1) := er2
       clear er2
       go_wp2_with fail
       clear u0 u1 u2 u3 er3
       obtain ⟨zo, hzo, hc⟩ := own_int_at HOb2.out hcnw
       have hfz := HOb2.out.frozenAt cn
       refine wp_region_lexC (by kernel_rfl) (by kernel_rfl) (fun x => Below W2.heap.size W2 x) ((Below.refl _ _).drew) (fun lexNE => ?_)
       obtain ⟨cb0, cb1⟩ := bwS2 HBr2.out HBr2.out.lt
       obtain ⟨cx0, cx1, cx2, cx3⟩ := bwS4 HXb2.out HXb2.out.lt
       have cw := wcell (B := W2.heap.size) eq2 (by rw [block_of_add]; omega)
       (repeat (first | (refine lex_r fun K hK => ?_; go_big_quiet_op; refine hK _ ?_; clear hK K) | (refine lex_k fun K hK => ?_; go_simp; refine hK _ ?_; clear hK K)))
       (refine lex_l fun K hK => ?_; go_big_op)
       (refine hK _ _ ?_; clear hK K)
       clear lexNE cb0 cb1 cx0 cx1 cx2 cx3 cw hzo hc hfz
       go_wp2_with fail
       go_roundw
       case rel =>
        refine ⟨k + 1, by omega, by go_num, ?_, ?_, (Ho2.out.setCell (p := ⟨g2, cn, none⟩) (.inl (.inr rfl)) _).drew⟩
        ·exact own_drew (own_keep HOa2.out (fun g hg => Below.heap_setCell _ ⟨g2, cn, none⟩ _ g (by have hg : g1 = g := (by injection hg); show g ≠ g2; omega)))
        ·rw [Hmw.out, if_pos trivial, ints_set]
         exact own_drew (HOb2.out.stored cn (.int .i64 (vq : Int))).1
       case measure => simp [intOf]; omega
      ·have q1 : ((vr : Int) == 1) = false := by simpa using (fun h => hv1 (by omega))
       have Hm2 := Lib.hid (show mwK m VS st.2 (k + 1) = mwK m VS st.2 k by rw [Hmw.out, if_neg hv1])
       clear hv1
       go_wp2_with fail
       go_roundw
       case rel => exact ⟨k + 1, by omega, by go_num, HOa2.out, by rw [Hm2.out]; exact HOb2.out, Ho2.out⟩
       case measure => simp [intOf]; omega
     ·have hge : (nm : Int) ≤ (k : Int) := by omega
      have hkn : k = nm := by omega
      have HEa := Lib.hid (show wr.ownsRow U0.heap.size 3 1 (.slice (some ⟨g1, 0, none⟩) ns ns) ns (ints (nextN m st.2 VS).1) by have h1 := Hown.out; rw [hkn, ← Hn.out.2.2.2] at h1; exact h1)
      have HEb := Lib.hid (show wr.ownsRow U0.heap.size 3 1 (.slice (some ⟨g2, 0, none⟩) nw c2') nw (ints (nextN m st.2 VS).2) by have h1 := Hown2.out; rw [hkn, ← Hn.out.2.2.2] at h1; exact h1)
      obtain ⟨r0, r1⟩ := blkS2 HRr.out
      obtain ⟨z0, z1⟩ := blkS2 HBr.out
      have f0 := HRr.out.frozen 0
      have f1 := HRr.out.frozen 1
      clear hkn
      go_wp2_with fail
      obtain ⟨wf, hwf⟩ : ∃ wf, wf = ((wr.setCell ⟨w.heap.size + 1 + 1, 0, none⟩ (.slice (some ⟨g1, 0, none⟩) ns ns)).setCell ⟨w.heap.size + 1 + 1, 1, none⟩ (.slice (some ⟨g2, 0, none⟩) nw c2')) := ⟨_, rfl⟩
      have hRf : Blk wf (w.heap.size + 1 + 1) 33 #[.slice (some ⟨g1, 0, none⟩) ns ns, .slice (some ⟨g2, 0, none⟩) nw c2'] := by rw [hwf]; exact blk_two HRr.out
      have hk2 : ∀ b, b ≠ w.heap.size + 1 + 1 → wf.heap[b]? = wr.heap[b]? := fun b hb => by
       rw [hwf]
       exact (Below.heap_setCell _ ⟨w.heap.size + 1 + 1, 1, none⟩ _ b hb).trans (Below.heap_setCell _ ⟨w.heap.size + 1 + 1, 0, none⟩ _ b hb)
      have hO1 := own_keep HEa.out (w' := wf) (fun g hg => hk2 g (by have hg : g1 = g := (by injection hg); omega))
      have hO2 := own_keep HEb.out (w' := wf) (fun g hg => hk2 g (by have hg : g2 = g := (by injection hg); omega))
      have hsf : wr.heap.size ≤ wf.heap.size := by rw [hwf]; simp
      have hBf : Below w.heap.size w wf := by rw [hwf]; exact (Hbw.out.setCell (by simp; omega) _).setCell (by simp; omega) _
      have l1 := (HEa.out.lt g1 rfl).2
      have l2 := (HEb.out.lt g2 rfl).2
      obtain ⟨s0, s1⟩ := blkS2 hRf
      rw [← hwf]
      refine bodyPost_ret (v := .agg #[.slice (some ⟨g1, 0, none⟩) ns ns, .slice (some ⟨g2, 0, none⟩) nw c2']) (by simp [results, Try.results65, go_sem, s0, s1]) rfl ⟨_, rfl, ⟨_, _, fun j b => (j = 0 ∧ b = g1) ∨ (j = 1 ∧ b = g2), rfl, ?_, ?_, ?_, ?_⟩, hBf⟩
      ·rintro j b (⟨_, rfl⟩ | ⟨_, rfl⟩)
       ·exact ⟨by omega, by omega⟩
       ·exact ⟨by omega, by omega⟩
      ·rintro i j b (⟨rfl, rfl⟩ | ⟨rfl, rfl⟩) (⟨rfl, h2⟩ | ⟨rfl, h2⟩)
       ·rfl
       ·exact absurd h2 hd1
       ·exact absurd h2.symm hd1
       ·rfl
      ·exact sep_ints (by unfold maxLen; omega) hO1 (fun g hg => .inl ⟨rfl, by have hg : g1 = g := (by injection hg); exact hg.symm⟩)
      ·exact sep_ints (by unfold maxLen; omega) hO2 (fun g hg => .inr ⟨rfl, by have hg : g2 = g := (by injection hg); exact hg.symm⟩)
end Go.Proofs.Ytlkjdhjeecogjaa

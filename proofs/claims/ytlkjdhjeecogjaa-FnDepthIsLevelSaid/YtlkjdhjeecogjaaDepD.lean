/- Contracts: levels, depth, cones and reached nodes of a valid net. -/
import Derived.Test.YtlkjdhjeecogjaaDepC
import Derived.Outline
namespace Go.Proofs.Ytlkjdhjeecogjaa
open Go.RowKit

theorem netG_of {inp : Int} {ss : List Seq3} {ands : List (Int × Int)} {outs : List Int} (h : netB inp ss ands outs = true) (hB : NetB ss ands outs) (hrl : (rootsL outs ss).length ≤ 1000) : NetG inp (1 + inp + ss.length).toNat ss ands outs := by
 have h0 := h
 unfold netB at h
 simp only [Bool.and_eq_true, decide_eq_true_eq] at h
 obtain ⟨h1, h2, h3, h4⟩ := h
 have hn : inR inp 0 20 = true ∧ ss.length ≤ 12 ∧ ands.length ≤ 300 := by
  cases hc : (inR inp 0 20 && (decide (ss.length ≤ 12) && (decide (ands.length ≤ 300) && decide (outs.length ≤ 16)))) with
  | false => exact absurd (by unfold ndc; rw [hc]; rfl) h1
  | true =>
   simp only [Bool.and_eq_true, decide_eq_true_eq] at hc
   exact ⟨hc.1, hc.2.1, hc.2.2.1⟩
 have hnd : ndc inp ss.length ands.length outs.length = 1 + inp + ss.length + ands.length := by
  unfold ndc
  split
  ·rfl
  ·rename_i hc
   exact absurd (by unfold ndc; rw [if_neg hc]) h1
 obtain ⟨hi, h12, h300⟩ := hn
 obtain ⟨hi0, hi20⟩ := inR_iff.1 hi
 refine ⟨by omega, hi0, hi20, h12, h300, fun i x hx => ?_, fun r hr => ?_, hrl, hB, h0⟩
 ·have h5 := List.all_eq_true.1 h4 (x, i) (List.mem_of_getElem? (by rw [List.getElem?_zipIdx, hx]; simp))
  unfold andG at h5
  simp only [Bool.and_eq_true] at h5
  have h6 := inR_iff.1 h5.1
  have h7 := inR_iff.1 h5.2
  omega
 ·have h5 := inR_iff.1 (List.all_eq_true.1 h3 r hr)
  rw [hnd] at h5
  omega
set_option maxRecDepth 100000 in
set_option maxHeartbeats 4000000 in
theorem i_Levels {inp : Int} {F : Nat} {ss : List Seq3} {ands : List (Int × Int)} {outs : List Int} (G : NetG inp F ss ands outs) {w : World} {S : Nat → Prop} {As Aa Ao : Option Addr} {ns cs na ca no co : Nat} (h : NetR w S As ns cs ss Aa na ca ands Ao no co outs) (hS : ∀ b, S b → b < w.heap.size) :
  Calls Try.prog 38 #[.agg #[.int .i64 inp, .slice As ns cs, .slice Aa na ca, .slice Ao no co]] w (OwnI (lvL F ands) w) := by
 have HG := Lib.hid G
 have hS1 : ∀ b, S b → b < w.heap.size + 1 := fun b hb => by have := hS b hb; omega
 have HSg := Lib.hid hS
 obtain ⟨U, hU⟩ : ∃ U, U = w.alloc (.cells #[.int .i64 inp, .slice As ns cs, .slice Aa na ca, .slice Ao no co] 78) := ⟨_, rfl⟩
 have HU := Lib.hid hU
 have HX := Lib.hid (show Blk U w.heap.size 78 #[.int .i64 inp, .slice As ns cs, .slice Aa na ca, .slice Ao no co] by rw [hU]; exact Blk.new _ _ _)
 have HB0 := Lib.hid (show Below w.heap.size w U by rw [hU]; exact (Below.refl _ _).alloc (Nat.le_refl _) _)
 have hzu : w.heap.size < U.heap.size := HX.out.lt
 have HN := Lib.hid (h.under hS HB0.out)
 clear hU h
 go_enter Try.func38, Try.ntmps38
 obtain ⟨y0, y1, y2, y3⟩ := bk4 HX.out
 go_wp2_with fail
 rw [← HU.out]
 go_wp2_with fail
 refine (i_NetOk inp HG.out.hB HN.out (fun b hb => by have := HSg.out b hb; omega)).mono ?_
 rintro e w1 ⟨rfl, hb1⟩
 rw [HG.out.hnet]
 have HB1 := Lib.hid (HB0.out.trans (hb1.mono (by omega)))
 have HN1 := Lib.hid (HN.out.under (fun b hb => HSg.out b hb) (hb1.mono (by omega)))
 have HX1 := Lib.hid (HX.out.below hb1 HX.out.lt)
 have z1 := HB1.out.size
 have zu1 := hb1.size
 clear y0 y1 y2 y3 hb1
 obtain ⟨y0, y1, y2, y3⟩ := bk4 HX1.out
 go_wp2_with fail
 refine (i_levels HG.out HN1.out (fun b hb => by have := HSg.out b hb; omega)).mono ?_
 rintro e w2 ⟨A2, c2, rfl, ho2, hb2⟩
 clear y0 y1 y2 y3
 go_wp2_with fail
 go_ret
 exact ⟨A2, c2, rfl, own_mono ho2 z1, HB1.out.trans (hb2.mono z1)⟩
set_option maxRecDepth 100000 in
set_option maxHeartbeats 4000000 in
theorem i_Roots {inp : Int} {F : Nat} {ss : List Seq3} {ands : List (Int × Int)} {outs : List Int} (G : NetG inp F ss ands outs) {w : World} {S : Nat → Prop} {As Aa Ao : Option Addr} {ns cs na ca no co : Nat} (h : NetR w S As ns cs ss Aa na ca ands Ao no co outs) (hS : ∀ b, S b → b < w.heap.size) :
  Calls Try.prog 40 #[.agg #[.int .i64 inp, .slice As ns cs, .slice Aa na ca, .slice Ao no co]] w (OwnI (rootsL outs ss) w) := by
 have HG := Lib.hid G
 have hS1 : ∀ b, S b → b < w.heap.size + 1 := fun b hb => by have := hS b hb; omega
 have HSg := Lib.hid hS
 obtain ⟨U, hU⟩ : ∃ U, U = w.alloc (.cells #[.int .i64 inp, .slice As ns cs, .slice Aa na ca, .slice Ao no co] 78) := ⟨_, rfl⟩
 have HU := Lib.hid hU
 have HX := Lib.hid (show Blk U w.heap.size 78 #[.int .i64 inp, .slice As ns cs, .slice Aa na ca, .slice Ao no co] by rw [hU]; exact Blk.new _ _ _)
 have HB0 := Lib.hid (show Below w.heap.size w U by rw [hU]; exact (Below.refl _ _).alloc (Nat.le_refl _) _)
 have hzu : w.heap.size < U.heap.size := HX.out.lt
 have HN := Lib.hid (h.under hS HB0.out)
 clear hU h
 go_enter Try.func40, Try.ntmps40
 obtain ⟨y0, y1, y2, y3⟩ := bk4 HX.out
 go_wp2_with fail
 rw [← HU.out]
 go_wp2_with fail
 refine (i_NetOk inp HG.out.hB HN.out (fun b hb => by have := HSg.out b hb; omega)).mono ?_
 rintro e w1 ⟨rfl, hb1⟩
 rw [HG.out.hnet]
 have HB1 := Lib.hid (HB0.out.trans (hb1.mono (by omega)))
 have HN1 := Lib.hid (HN.out.under (fun b hb => HSg.out b hb) (hb1.mono (by omega)))
 have HX1 := Lib.hid (HX.out.below hb1 HX.out.lt)
 have z1 := HB1.out.size
 have zu1 := hb1.size
 clear y0 y1 y2 y3 hb1
 obtain ⟨y0, y1, y2, y3⟩ := bk4 HX1.out
 go_wp2_with fail
 refine (i_roots inp HG.out.hB HN1.out (fun b hb => by have := HSg.out b hb; omega)).mono ?_
 rintro e w2 ⟨A2, c2, rfl, ho2, hb2⟩
 clear y0 y1 y2 y3
 go_wp2_with fail
 go_ret
 exact ⟨A2, c2, rfl, own_mono ho2 z1, HB1.out.trans (hb2.mono z1)⟩
set_option maxRecDepth 100000 in
set_option maxHeartbeats 4000000 in
theorem s_Roots {inp : Int} {F : Nat} {ss : List Seq3} {ands : List (Int × Int)} {outs : List Int} (G : NetG inp F ss ands outs) {w : World} {S : Nat → Prop} {As Aa Ao : Option Addr} {ns cs na ca no co : Nat} (h : NetR w S As ns cs ss Aa na ca ands Ao no co outs) (hS : ∀ b, S b → b < w.heap.size) :
  Calls Try.prog 45 #[.agg #[.int .i64 inp, .slice As ns cs, .slice Aa na ca, .slice Ao no co]] w (OwnI (rootsL outs ss) w) := by
 have HG := Lib.hid G
 have hS1 : ∀ b, S b → b < w.heap.size + 1 := fun b hb => by have := hS b hb; omega
 have HSg := Lib.hid hS
 obtain ⟨U, hU⟩ : ∃ U, U = w.alloc (.cells #[.int .i64 inp, .slice As ns cs, .slice Aa na ca, .slice Ao no co] 78) := ⟨_, rfl⟩
 have HU := Lib.hid hU
 have HX := Lib.hid (show Blk U w.heap.size 78 #[.int .i64 inp, .slice As ns cs, .slice Aa na ca, .slice Ao no co] by rw [hU]; exact Blk.new _ _ _)
 have HB0 := Lib.hid (show Below w.heap.size w U by rw [hU]; exact (Below.refl _ _).alloc (Nat.le_refl _) _)
 have hzu : w.heap.size < U.heap.size := HX.out.lt
 have HN := Lib.hid (h.under hS HB0.out)
 clear hU h
 go_enter Try.func45, Try.ntmps45
 obtain ⟨y0, y1, y2, y3⟩ := bk4 HX.out
 go_wp2_with fail
 rw [← HU.out]
 go_wp2_with fail
 refine (s_NetOk inp HG.out.hB HN.out (fun b hb => by have := HSg.out b hb; omega) (fun x hx => by have h1 := HG.out.hro x hx; have h2 := HG.out.hF; have := HG.out.hna; have := HG.out.hns; have := HG.out.h20; omega) (fun x hx => by obtain ⟨i, hi⟩ := List.getElem?_of_mem hx; have h1 := HG.out.hok i x hi; have h2 := HG.out.hF; have h3 := (List.getElem?_eq_some_iff.1 hi).1; have := HG.out.hna; have := HG.out.hns; have := HG.out.h20; omega)).mono ?_
 rintro e w1 ⟨rfl, hb1⟩
 rw [HG.out.hnet]
 have HB1 := Lib.hid (HB0.out.trans (hb1.mono (by omega)))
 have HN1 := Lib.hid (HN.out.under (fun b hb => HSg.out b hb) (hb1.mono (by omega)))
 have HX1 := Lib.hid (HX.out.below hb1 HX.out.lt)
 have z1 := HB1.out.size
 have zu1 := hb1.size
 clear y0 y1 y2 y3 hb1
 obtain ⟨y0, y1, y2, y3⟩ := bk4 HX1.out
 go_wp2_with fail
 refine (s_l08Roots inp HG.out.hB HN1.out (fun b hb => by have := HSg.out b hb; omega)).mono ?_
 rintro e w2 ⟨A2, c2, rfl, ho2, hb2⟩
 clear y0 y1 y2 y3
 go_wp2_with fail
 go_ret
 exact ⟨A2, c2, rfl, own_mono ho2 z1, HB1.out.trans (hb2.mono z1)⟩
set_option maxRecDepth 100000 in
set_option maxHeartbeats 4000000 in
theorem i_Reached {inp : Int} {F : Nat} {ss : List Seq3} {ands : List (Int × Int)} {outs : List Int} (G : NetG inp F ss ands outs) {w : World} {S : Nat → Prop} {As Aa Ao : Option Addr} {ns cs na ca no co : Nat} (h : NetR w S As ns cs ss Aa na ca ands Ao no co outs) (hS : ∀ b, S b → b < w.heap.size) :
  Calls Try.prog 39 #[.agg #[.int .i64 inp, .slice As ns cs, .slice Aa na ca, .slice Ao no co]] w fun e w' => ∃ (s : List Bool) (A : Option Addr) (c : Nat), e = .returned (.slice A s.length c) ∧ w'.ownsRow w.heap.size 4 1 (.slice A s.length c) s.length (bols s) ∧ Below w.heap.size w w' ∧ s.length = F + ands.length ∧ RootsTo F ands (rootsL outs ss) s := by
 have HG := Lib.hid G
 have hS1 : ∀ b, S b → b < w.heap.size + 1 := fun b hb => by have := hS b hb; omega
 have HSg := Lib.hid hS
 obtain ⟨U, hU⟩ : ∃ U, U = w.alloc (.cells #[.int .i64 inp, .slice As ns cs, .slice Aa na ca, .slice Ao no co] 78) := ⟨_, rfl⟩
 have HU := Lib.hid hU
 have HX := Lib.hid (show Blk U w.heap.size 78 #[.int .i64 inp, .slice As ns cs, .slice Aa na ca, .slice Ao no co] by rw [hU]; exact Blk.new _ _ _)
 have HB0 := Lib.hid (show Below w.heap.size w U by rw [hU]; exact (Below.refl _ _).alloc (Nat.le_refl _) _)
 have hzu : w.heap.size < U.heap.size := HX.out.lt
 have HN := Lib.hid (h.under hS HB0.out)
 clear hU h
 go_enter Try.func39, Try.ntmps39
 obtain ⟨y0, y1, y2, y3⟩ := bk4 HX.out
 go_wp2_with fail
 rw [← HU.out]
 go_wp2_with fail
 refine (i_NetOk inp HG.out.hB HN.out (fun b hb => by have := HSg.out b hb; omega)).mono ?_
 rintro e w1 ⟨rfl, hb1⟩
 rw [HG.out.hnet]
 have HB1 := Lib.hid (HB0.out.trans (hb1.mono (by omega)))
 have HN1 := Lib.hid (HN.out.under (fun b hb => HSg.out b hb) (hb1.mono (by omega)))
 have HX1 := Lib.hid (HX.out.below hb1 HX.out.lt)
 have z1 := HB1.out.size
 have zu1 := hb1.size
 clear y0 y1 y2 y3 hb1
 obtain ⟨y0, y1, y2, y3⟩ := bk4 HX1.out
 go_wp2_with fail
 refine (i_reached HG.out HN1.out (fun b hb => by have := HSg.out b hb; omega)).mono ?_
 rintro e w2 ⟨s, A2, c2, rfl, ho2, hb2, hl, hr⟩
 have Hl := Lib.hid hl
 clear hl y0 y1 y2 y3
 go_wp2_with fail
 go_ret
 exact ⟨s, A2, c2, rfl, own_mono ho2 z1, HB1.out.trans (hb2.mono z1), Hl.out, hr⟩
set_option maxRecDepth 100000 in
set_option maxHeartbeats 4000000 in
theorem i_Cone {inp : Int} {F : Nat} {ss : List Seq3} {ands : List (Int × Int)} {outs : List Int} (G : NetG inp F ss ands outs) {w : World} {S : Nat → Prop} {As Aa Ao : Option Addr} {ns cs na ca no co : Nat} (h : NetR w S As ns cs ss Aa na ca ands Ao no co outs) (hS : ∀ b, S b → b < w.heap.size) (v : Nat) (hv : v < F + ands.length) :
  Calls Try.prog 46 #[.agg #[.int .i64 inp, .slice As ns cs, .slice Aa na ca, .slice Ao no co], .int .i64 (v : Int)] w fun e w' => ∃ l : List Int, OwnI l w e w' ∧ l.length ≤ 400 ∧ ∀ x, x ∈ l ↔ ∃ j : Nat, x = (j : Int) ∧ j < F + ands.length ∧ Rch F ands v j := by
 have hl := h.lens
 have hi0 := G.h0
 have hi20 := G.h20
 have hns := G.hns
 have hna := G.hna
 have hF := G.hF
 rw [hl.1] at hns hF
 rw [hl.2.1] at hna
 have HI := Lib.hid (show inR (v : Int) 0 (1 + inp + ns + na - 1) = true from inR_iff.2 (by rw [hl.2.1] at hv; omega))
 clear hl hF
 have HG := Lib.hid G
 have hS1 : ∀ b, S b → b < w.heap.size + 1 := fun b hb => by have := hS b hb; omega
 have HSg := Lib.hid hS
 obtain ⟨U, hU⟩ : ∃ U, U = w.alloc (.cells #[.int .i64 inp, .slice As ns cs, .slice Aa na ca, .slice Ao no co] 78) := ⟨_, rfl⟩
 have HU := Lib.hid hU
 have HX := Lib.hid (show Blk U w.heap.size 78 #[.int .i64 inp, .slice As ns cs, .slice Aa na ca, .slice Ao no co] by rw [hU]; exact Blk.new _ _ _)
 have HB0 := Lib.hid (show Below w.heap.size w U by rw [hU]; exact (Below.refl _ _).alloc (Nat.le_refl _) _)
 have hzu : w.heap.size < U.heap.size := HX.out.lt
 have HN := Lib.hid (h.under hS HB0.out)
 clear hU h
 go_enter Try.func46, Try.ntmps46
 obtain ⟨y0, y1, y2, y3⟩ := bk4 HX.out
 go_wp2_with fail
 rw [← HU.out]
 go_wp2_with fail
 refine (i_NetOk inp HG.out.hB HN.out (fun b hb => by have := HSg.out b hb; omega)).mono ?_
 rintro e w1 ⟨rfl, hb1⟩
 rw [HG.out.hnet]
 have HB1 := Lib.hid (HB0.out.trans (hb1.mono (by omega)))
 have HN1 := Lib.hid (HN.out.under (fun b hb => HSg.out b hb) (hb1.mono (by omega)))
 have HX1 := Lib.hid (HX.out.below hb1 HX.out.lt)
 have z1 := HB1.out.size
 have zu1 := hb1.size
 clear y0 y1 y2 y3 hb1
 obtain ⟨y0, y1, y2, y3⟩ := bk4 HX1.out
 go_wp2_with fail
 refine (i_nodeCount inp hi0 hi20 As Aa Ao ns cs na ca no co hns hna _).mono ?_
 rintro e w2 ⟨rfl, hb2⟩
 have HB2 := Lib.hid (HB1.out.trans (hb2.mono z1))
 have HN2 := Lib.hid (HN1.out.under (fun b hb => HSg.out b hb) (hb2.mono z1))
 have HX2 := Lib.hid (HX1.out.below hb2 HX1.out.lt)
 have z2 := hb2.size
 clear y0 y1 y2 y3 hb2
 obtain ⟨y0, y1, y2, y3⟩ := bk4 HX2.out
 go_wp2_with fail
 refine (i_inRange (v : Int) 0 (1 + inp + ns + na - 1) _).mono ?_
 rintro e w9 ⟨rfl, rfl⟩
 rw [HI.out]
 go_wp2_with fail
 refine (i_cone HG.out HN2.out (fun b hb => by have := HSg.out b hb; omega) v hv).mono ?_
 rintro e w3 ⟨l, ⟨A2, c2, rfl, ho2, hb3⟩, hl, hr⟩
 clear y0 y1 y2 y3
 go_wp2_with fail
 go_ret
 exact ⟨l, ⟨A2, c2, rfl, own_mono ho2 (by omega), HB2.out.trans (hb3.mono (by omega))⟩, hl, hr⟩
set_option maxRecDepth 100000 in
set_option maxHeartbeats 4000000 in
theorem i_Depth {inp : Int} {F : Nat} {ss : List Seq3} {ands : List (Int × Int)} {outs : List Int} (G : NetG inp F ss ands outs) {w : World} {S : Nat → Prop} {As Aa Ao : Option Addr} {ns cs na ca no co : Nat} (h : NetR w S As ns cs ss Aa na ca ands Ao no co outs) (hS : ∀ b, S b → b < w.heap.size) :
  Calls Try.prog 47 #[.agg #[.int .i64 inp, .slice As ns cs, .slice Aa na ca, .slice Ao no co]] w fun e w' => e = .returned (.int .i64 (bestL (lvL F ands) (rootsL outs ss))) ∧ Below w.heap.size w w' := by
 have HG := Lib.hid G
 have hS1 : ∀ b, S b → b < w.heap.size + 1 := fun b hb => by have := hS b hb; omega
 have HSg := Lib.hid hS
 obtain ⟨U, hU⟩ : ∃ U, U = w.alloc (.cells #[.int .i64 inp, .slice As ns cs, .slice Aa na ca, .slice Ao no co] 78) := ⟨_, rfl⟩
 have HU := Lib.hid hU
 have HX := Lib.hid (show Blk U w.heap.size 78 #[.int .i64 inp, .slice As ns cs, .slice Aa na ca, .slice Ao no co] by rw [hU]; exact Blk.new _ _ _)
 have HB0 := Lib.hid (show Below w.heap.size w U by rw [hU]; exact (Below.refl _ _).alloc (Nat.le_refl _) _)
 have hzu : w.heap.size < U.heap.size := HX.out.lt
 have HN := Lib.hid (h.under hS HB0.out)
 clear hU h
 go_enter Try.func47, Try.ntmps47
 obtain ⟨y0, y1, y2, y3⟩ := bk4 HX.out
 go_wp2_with fail
 rw [← HU.out]
 go_wp2_with fail
 refine (i_NetOk inp HG.out.hB HN.out (fun b hb => by have := HSg.out b hb; omega)).mono ?_
 rintro e w1 ⟨rfl, hb1⟩
 rw [HG.out.hnet]
 have HB1 := Lib.hid (HB0.out.trans (hb1.mono (by omega)))
 have HN1 := Lib.hid (HN.out.under (fun b hb => HSg.out b hb) (hb1.mono (by omega)))
 have HX1 := Lib.hid (HX.out.below hb1 HX.out.lt)
 have z1 := HB1.out.size
 have zu1 := hb1.size
 clear y0 y1 y2 y3 hb1
 obtain ⟨y0, y1, y2, y3⟩ := bk4 HX1.out
 go_wp2_with fail
 refine (i_levels HG.out HN1.out (fun b hb => by have := HSg.out b hb; omega)).mono ?_
 rintro e w2 ⟨A2, c2, rfl, ho2, hb2⟩
 have HLb := Lib.hid (lvL_bd F ands)
 have HLl := Lib.hid (lvL_len F ands)
 obtain ⟨L, hL⟩ : ∃ L, L = lvL F ands := ⟨_, rfl⟩
 rw [← hL] at ho2 HLb HLl ⊢
 obtain ⟨nl, hnl⟩ : ∃ n, n = L.length := ⟨_, rfl⟩
 rw [← hnl] at ho2 HLl ⊢
 have HL2 := Lib.hid (Reads.of_own ho2)
 have Hnl := Lib.hid hnl
 have HB2 := Lib.hid (HB1.out.trans (hb2.mono z1))
 have HN2 := Lib.hid (HN1.out.under (fun b hb => HSg.out b hb) (hb2.mono z1))
 have HX2 := Lib.hid (HX1.out.below hb2 HX1.out.lt)
 have z2 := hb2.size
 have HLe := Lib.hid hL
 clear y0 y1 y2 y3 hb2 ho2 hL hnl
 obtain ⟨y0, y1, y2, y3⟩ := bk4 HX2.out
 go_wp2_with fail
 refine (i_roots inp HG.out.hB HN2.out (fun b hb => by have := HSg.out b hb; omega)).mono ?_
 rintro e w3 ⟨A3, c3, rfl, ho3, hb3⟩
 have Hro := Lib.hid G.hro
 have hrl := G.hrl
 obtain ⟨R, hR⟩ : ∃ R, R = rootsL outs ss := ⟨_, rfl⟩
 rw [← hR] at ho3 hrl Hro ⊢
 obtain ⟨nr, hnr⟩ : ∃ n, n = R.length := ⟨_, rfl⟩
 rw [← hnr] at ho3 hrl ⊢
 have Hnr := Lib.hid hnr
 have HR3 := Lib.hid (Reads.of_own ho3)
 have HL3 := Lib.hid (HL2.out.below hb3)
 have HB3 := Lib.hid (HB2.out.trans (hb3.mono HB2.out.size))
 have z3 := hb3.size
 have h300 := HG.out.hna
 have HRe := Lib.hid hR
 clear y0 y1 y2 y3 hb3 ho3 hnr hR
 have Hb0 := Lib.hid (Below.refl w3.heap.size w3)
 go_wp2_with fail
 go_loopw [4, 6, 15] (fun bv _ iv wr => ∃ k : Nat, k ≤ nr ∧ iv = .int .i64 k ∧ bv = .int .i64 (bestL L (R.take k)) ∧ Below w3.heap.size w3 wr) (fun _ _ iv _ => nr - (intOf iv).toNat)
 case atStart => exact ⟨0, Nat.zero_le _, rfl, rfl, Hb0.out⟩
 case round =>
  obtain ⟨k, hk, rfl, rfl, hb⟩ := hrel
  have Hb := Lib.hid hb
  have zr := hb.size
  clear hb
  have hbd := bestL_bd (lv := L) (m := 300) (by omega) (fun v hv => by have := HLb.out v hv; omega) (R.take k)
  by_cases hlt : k < nr
  ·obtain ⟨ad, r, rfl, hab, hx, hc⟩ := HR3.out.int_at' hlt
   have d0 := (Hb.out.cell (p := ad.add k) (by rw [block_of_add]; omega)).trans hc
   have hrr := Hro.out r (List.mem_of_getElem? hx)
   have hcr := hf_cast hrr.1
   have hrN : hf r < nl := by have := HLl.out; omega
   have Hst := Lib.hid (bestL_take (lv := L) hx)
   obtain ⟨p, hp⟩ : ∃ p, p = hf r := ⟨_, rfl⟩
   rw [← hp] at hcr hrN
   obtain ⟨ad2, v, rfl, hab2, hv, hc2⟩ := HL3.out.int_at' hrN
   have d1 := (Hb.out.cell (p := ad2.add p) (by rw [block_of_add]; omega)).trans hc2
   have hvb := HLb.out v (List.mem_of_getElem? hv)
   have Hst2 := Lib.hid (show bestL L (R.take (k + 1)) = max (bestL L (R.take k)) v by rw [Hst.out, ← hp, List.getD_eq_getElem?_getD, hv]; rfl)
   obtain ⟨bb, hbb⟩ : ∃ b, b = bestL L (R.take k) := ⟨_, rfl⟩
   rw [← hbb] at Hst2 hbd ⊢
   have g1 : (0 : Int) ≤ (k : Int) := by omega
   have g2 : (k : Int) < (nr : Int) := by omega
   have g3 : (p : Int) < (nl : Int) := by omega
   have g4 : (0 : Int) ≤ (p : Int) := by omega
   have hr0 := hrr.1
   have hr1 : r ≤ 10000 := by have h2 := hrr.2; have h3 := HG.out.hF; have h4 := HG.out.hns; have h5 := HG.out.h20; omega
   obtain ⟨vm, hvm⟩ : ∃ m, m = (if bb < v then v else bb) := ⟨_, rfl⟩
   have Hvm := Lib.hid (show bestL L (R.take (k + 1)) = vm by rw [hvm, Hst2.out]; split <;> omega)
   have Hvm2 := Lib.hid hvm
   clear hc hc2 hx hv hp hbb hrr hvm
   go_wp2_with fail
   rw [← Hvm2.out]
   go_roundw
   case rel => exact ⟨k + 1, by omega, by go_num, by rw [Hvm.out], Hb.out⟩
   case measure => simp [intOf]; omega
  ·obtain rfl : k = nr := by omega
   have g2 : (k : Int) ≤ (k : Int) := Int.le_refl _
   go_wp2_with fail
   go_ret
   refine ⟨?_, HB3.out.trans (Hb.out.mono (by have := HB3.out.size; omega))⟩
   rw [List.take_of_length_le (by rw [← Hnr.out]; exact Nat.le_refl _), HLe.out, HRe.out]
   rfl
end Go.Proofs.Ytlkjdhjeecogjaa

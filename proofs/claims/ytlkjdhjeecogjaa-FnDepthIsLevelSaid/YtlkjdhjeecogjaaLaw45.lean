/- Law of levels: for every code the depth of the drawn net is the greatest level of a root, levels rise along the edges, and exactly the nodes in cones of roots are reached. Conditions: none. -/
import Derived.Test.YtlkjdhjeecogjaaFrame3
import Derived.Test.YtlkjdhjeecogjaaDnt
import Derived.Outline
namespace Go.Proofs.Ytlkjdhjeecogjaa
open Go.ChangeShapes Go.WideShapes Go.ChangeAt Go.RowKit

theorem reads_only {w w' : World} {B n size : Nat} {A : Option Addr} {xs : List Value} {T : Nat → Prop} (h : Reads w B size A n xs) (ho : Only T w w') (hB : B ≤ w.heap.size) (hT : ∀ b, T b → B ≤ b) : Reads w' B size A n xs :=
 h.keep fun p hp => ho.cell (by omega) (fun ht => by have := hT _ ht; omega)
theorem reads_int_val {w : World} {B n : Nat} {ad : Addr} {l : List Int} (h : Reads w B 1 (some ad) n (ints l)) {j : Nat} {x : Int} (hx : l[j]? = some x) : ad.block < B ∧ w.cell? (ad.add j) = some (.int .i64 x) := by
 have hj : j < n := by have h1 := h.1; rw [ints_len] at h1; have := (List.getElem?_eq_some_iff.1 hx).1; omega
 obtain ⟨ad', x', hA, hb, hx', hc⟩ := h.int_at' hj
 injection hA with hA
 subst hA
 obtain rfl : x = x' := Option.some.inj (hx.symm.trans hx')
 exact ⟨hb, hc⟩
theorem wanted_u {l : List Oper} {tl : List Value} {ds : List Deferred} {o : Oper} {j d : Nat} {want : Bool} (hg : o.guard = some (j, want)) (hj : (l[j]?).bind (·.dst) = some d) (hv : tl[d]? = some undef) :
  Region.wanted o (yielded l.toArray (Act.mk tl.toArray ds).tmps) = false := by
 unfold Region.wanted
 rw [hg]
 simp only [yielded, List.getElem?_toArray, hj, Option.bind_some, hv]
 rfl
section
variable {P : Program} {ops : Array Oper} {C : World → Prop}
theorem lex_u {Q : Act → World → Prop} {o : Oper} {rest : List Oper} {a : Act} {w : World} (h : ∀ K : Act → Prop, (∀ a, LexE P ops C Q rest a w → K a) → K (a.put o.dst undef))
  (hw : Region.wanted o (yielded ops a.tmps) = false := by exact wanted_u rfl rfl rfl) : LexE P ops C Q (o :: rest) a w := lex_skip' hw h
end
theorem ndc_of {inp : Int} {F : Nat} {ss : List Seq3} {ands : List (Int × Int)} {outs : List Int} (G : NetG inp F ss ands outs) : ndc inp ss.length ands.length outs.length = (F : Int) + ands.length := by
 have h := G.hnet
 unfold netB at h
 simp only [Bool.and_eq_true, decide_eq_true_eq] at h
 have h1 := h.1
 have hF := G.hF
 unfold ndc at h1 ⊢
 split
 ·omega
 ·rename_i hc
  exact absurd (if_neg hc) h1
-- behind a call with Below hb: $1 the old world's number, $2 the new one's
set_option maxRecDepth 100000 in
set_option maxHeartbeats 16000000 in
theorem walk_FnDepthIsLevel (A : Option Addr) (n c : Nat) (l : List UInt8) (w : World) (hr : Reads w w.heap.size 1 A n (bys l)) : Calls Try.prog 7 #[.slice A n c] w fun e w' => e = .returned (.bool true) ∧ Below w.heap.size w w' := by
 by_cases hb : n ≤ 1048576
 rotate_left
 ·go_enter Try.func7, Try.ntmps7
  go_wp2_with (first | (go_at_call 33; go_in))
  go_ret
  exact ⟨rfl, Below.refl _ _⟩
 obtain ⟨ib, hib, hbz0, hbz1, hbz2⟩ := info_parts Try.infoBoolD
 go_enter Try.func7, Try.ntmps7
 go_wp2_with (first | (go_at_call 33; go_in))
 refine (s_DrawNet hr hb).mono ?_
 rintro e w1 ⟨inp, F, ss, ands, outs, As, Aa, Ao, ns, cs, na, ca, no, co, rfl, hnr, hG, hb1⟩
 have G := Lib.hid hG
 obtain ⟨l1, l2, l3, m1, m2, m3⟩ := hnr.lens
 have Hl1 := Lib.hid l1
 have Hl2 := Lib.hid l2
 have Hl3 := Lib.hid l3
 obtain ⟨S, hSd⟩ : ∃ S : Nat → Prop, S = fun b => w.heap.size ≤ b ∧ b < w1.heap.size := ⟨_, rfl⟩
 rw [← hSd] at hnr
 have HS := Lib.hid (show ∀ b, S b → b < w1.heap.size by rw [hSd]; exact fun b hb => hb.2)
 have HN1 := Lib.hid hnr
 have HB1 := Lib.hid hb1
 clear l1 l2 l3 m1 m2 m3 hSd hnr hb1 hG hr
 obtain ⟨W2, hW2⟩ : ∃ W2, W2 = w1.alloc (.cells #[.int .i64 inp, .slice As ns cs, .slice Aa na ca, .slice Ao no co] 78) := ⟨_, rfl⟩
 obtain ⟨gm, hgm⟩ : ∃ g, g = w1.heap.size := ⟨_, rfl⟩
 have HW2 := Lib.hid hW2
 have Hgm := Lib.hid hgm
 have HX2 := Lib.hid (show Blk W2 gm 78 #[.int .i64 inp, .slice As ns cs, .slice Aa na ca, .slice Ao no co] by rw [hW2, hgm]; exact Blk.new _ _ _)
 have HB2 := Lib.hid (show Below w.heap.size w W2 by rw [hW2]; exact HB1.out.alloc HB1.out.size _)
 have HN2 := Lib.hid (show NetR W2 S As ns cs ss Aa na ca ands Ao no co outs by rw [hW2]; exact HN1.out.under HS.out ((Below.refl _ _).alloc (Nat.le_refl _) _))
 have HZ2 := Lib.hid (show w1.heap.size ≤ W2.heap.size by rw [hW2]; simp)
 obtain ⟨y0, y1, y2, y3⟩ := bk4 HX2.out
 rw [hW2, hgm] at y0 y1 y2 y3
 clear hW2 hgm
 go_wp2_with fail
 rw [← HW2.out]
 try rw [← Hgm.out]
 refine (i_Levels G.out HN2.out (fun b hb => by have := HS.out b hb; have := HZ2.out; omega)).mono ?_
 rintro e w3 ⟨A3, c3, rfl, ho, hb⟩
 have HLb := Lib.hid (lvL_bd F ands)
 have HLl := Lib.hid (lvL_len F ands)
 have HLa := Lib.hid (fun i x => lvL_at (i := i) (x := x) G.out.hok)
 obtain ⟨L, hL⟩ : ∃ L, L = lvL F ands := ⟨_, rfl⟩
 rw [← hL] at ho HLb HLl HLa ⊢
 have HLe := Lib.hid hL
 obtain ⟨N, hN⟩ : ∃ n, n = L.length := ⟨_, rfl⟩
 rw [← hN] at ho HLl ⊢
 have HNl := Lib.hid hN
 have HL := Lib.hid ((Reads.of_own ho))
 have HLz := Lib.hid (Nat.le_refl w3.heap.size)
 have HN3 := Lib.hid (HN2.out.under HS.out (hb.mono HZ2.out))
 have HX3 := Lib.hid (HX2.out.below hb HX2.out.lt)
 have HB3 := Lib.hid (HB2.out.trans (hb.mono HB2.out.size))
 have HZ3 := Lib.hid (Nat.le_trans HZ2.out hb.size)
 clear hb ho hL hN y0 y1 y2 y3
 obtain ⟨y0, y1, y2, y3⟩ := bk4 HX3.out
 go_wp2_with fail
 refine (i_Reached G.out HN3.out (fun b hb => by have := HS.out b hb; have := HZ3.out; omega)).mono ?_
 rintro e w4 ⟨sr, A4, c4, rfl, ho, hb, hlr, hrt⟩
 rw [show sr.length = N by rw [hlr, ← HLl.out]] at ho ⊢
 have Hlr := Lib.hid (show sr.length = N by rw [hlr, ← HLl.out])
 have Hrt := Lib.hid hrt
 have HC := Lib.hid (Reads.of_own ho)
 have HCz := Lib.hid (Nat.le_refl w4.heap.size)
 have HN4 := Lib.hid (HN3.out.under HS.out (hb.mono HZ3.out))
 have HX4 := Lib.hid (HX3.out.below hb HX3.out.lt)
 have HB4 := Lib.hid (HB3.out.trans (hb.mono HB3.out.size))
 have HZ4 := Lib.hid (Nat.le_trans HZ3.out hb.size)
 have HL := Lib.hid (HL.out.below (hb.mono HLz.out))
 have HLz := Lib.hid (Nat.le_trans HLz.out hb.size)
 clear hb ho hlr hrt y0 y1 y2 y3
 obtain ⟨y0, y1, y2, y3⟩ := bk4 HX4.out
 go_wp2_with fail
 refine (i_Roots G.out HN4.out (fun b hb => by have := HS.out b hb; have := HZ4.out; omega)).mono ?_
 rintro e w5 ⟨A5, c5, rfl, ho, hb⟩
 have Hro := Lib.hid G.out.hro
 have hrl := G.out.hrl
 obtain ⟨R, hR⟩ : ∃ R, R = rootsL outs ss := ⟨_, rfl⟩
 rw [← hR] at ho hrl Hro Hrt ⊢
 have HRe := Lib.hid hR
 obtain ⟨nr, hnr⟩ : ∃ n, n = R.length := ⟨_, rfl⟩
 rw [← hnr] at ho hrl ⊢
 have Hnr := Lib.hid hnr
 have HR := Lib.hid (Reads.of_own ho)
 have HRz := Lib.hid (Nat.le_refl w5.heap.size)
 have HN5 := Lib.hid (HN4.out.under HS.out (hb.mono HZ4.out))
 have HX5 := Lib.hid (HX4.out.below hb HX4.out.lt)
 have HB5 := Lib.hid (HB4.out.trans (hb.mono HB4.out.size))
 have HZ5 := Lib.hid (Nat.le_trans HZ4.out hb.size)
 have HL := Lib.hid (HL.out.below (hb.mono HLz.out))
 have HLz := Lib.hid (Nat.le_trans HLz.out hb.size)
 have HC := Lib.hid (HC.out.below (hb.mono HCz.out))
 have HCz := Lib.hid (Nat.le_trans HCz.out hb.size)
 clear hb ho hR hnr y0 y1 y2 y3
 obtain ⟨y0, y1, y2, y3⟩ := bk4 HX5.out
 have hNF : (N : Int) - (na : Int) = (F : Int) := by have h1 := HLl.out; rw [Hl2.out] at h1; omega
 have hN400 : N ≤ 400 := by have h1 := HLl.out; have h2 := G.out.hna; have h3 := G.out.hF; have h4 := G.out.hns; have h5 := G.out.h20; omega
 have hna300 : na ≤ 300 := by have h2 := G.out.hna; rw [Hl2.out] at h2; exact h2
 have hF1 : 1 ≤ F := by have h3 := G.out.hF; have h5 := G.out.h0; omega
 have hFN : F + na = N := by omega
 have HFN := Lib.hid hFN
 have hFN1 : F + na ≤ N := by omega
 clear hFN
 go_wp2_with fail
 clear hNF
 refine (i_NetOk inp G.out.hB HN5.out (fun b hb => by have := HS.out b hb; have := HZ5.out; omega)).mono ?_
 rintro e w6 ⟨rfl, hb⟩
 rw [G.out.hnet]
 have HN6 := Lib.hid (HN5.out.under HS.out (hb.mono HZ5.out))
 have HX6 := Lib.hid (HX5.out.below hb HX5.out.lt)
 have HB6 := Lib.hid (HB5.out.trans (hb.mono HB5.out.size))
 have HZ6 := Lib.hid (Nat.le_trans HZ5.out hb.size)
 try have HL := Lib.hid (HL.out.below (hb.mono HLz.out))
 try have HLz := Lib.hid (Nat.le_trans HLz.out hb.size)
 try have HC := Lib.hid (HC.out.below (hb.mono HCz.out))
 try have HCz := Lib.hid (Nat.le_trans HCz.out hb.size)
 try have HR := Lib.hid (HR.out.below (hb.mono HRz.out))
 try have HRz := Lib.hid (Nat.le_trans HRz.out hb.size)
 clear hb y0 y1 y2 y3
 obtain ⟨y0, y1, y2, y3⟩ := bk4 HX6.out
 go_wp2_with fail
 refine (s_NodeCount inp As Aa Ao ns cs na ca no co _).mono ?_
 rintro e w7 ⟨rfl, hb⟩
 have Hnd := Lib.hid (show ndc inp ns na no = (N : Int) by have h1 := ndc_of G.out; rw [Hl1.out, Hl2.out, Hl3.out] at h1; rw [h1]; have := HFN.out; omega)
 rw [Hnd.out]
 have HN7 := Lib.hid (HN6.out.under HS.out (hb.mono HZ6.out))
 have HX7 := Lib.hid (HX6.out.below hb HX6.out.lt)
 have HB7 := Lib.hid (HB6.out.trans (hb.mono HB6.out.size))
 have HZ7 := Lib.hid (Nat.le_trans HZ6.out hb.size)
 try have HL := Lib.hid (HL.out.below (hb.mono HLz.out))
 try have HLz := Lib.hid (Nat.le_trans HLz.out hb.size)
 try have HC := Lib.hid (HC.out.below (hb.mono HCz.out))
 try have HCz := Lib.hid (Nat.le_trans HCz.out hb.size)
 try have HR := Lib.hid (HR.out.below (hb.mono HRz.out))
 try have HRz := Lib.hid (Nat.le_trans HRz.out hb.size)
 clear hb y0 y1 y2 y3
 obtain ⟨y0, y1, y2, y3⟩ := bk4 HX7.out
 go_wp2_with fail
 refine (i_NodeCount inp As Aa Ao ns cs na ca no co _).mono ?_
 rintro e w8 ⟨rfl, hb⟩
 rw [Hnd.out]
 have HN8 := Lib.hid (HN7.out.under HS.out (hb.mono HZ7.out))
 have HX8 := Lib.hid (HX7.out.below hb HX7.out.lt)
 have HB8 := Lib.hid (HB7.out.trans (hb.mono HB7.out.size))
 have HZ8 := Lib.hid (Nat.le_trans HZ7.out hb.size)
 try have HL := Lib.hid (HL.out.below (hb.mono HLz.out))
 try have HLz := Lib.hid (Nat.le_trans HLz.out hb.size)
 try have HC := Lib.hid (HC.out.below (hb.mono HCz.out))
 try have HCz := Lib.hid (Nat.le_trans HCz.out hb.size)
 try have HR := Lib.hid (HR.out.below (hb.mono HRz.out))
 try have HRz := Lib.hid (Nat.le_trans HRz.out hb.size)
 clear hb y0 y1 y2 y3
 obtain ⟨y0, y1, y2, y3⟩ := bk4 HX8.out
 go_wp2_with fail
 refine (s_Roots G.out HN8.out (fun b hb => by have := HS.out b hb; have := HZ8.out; omega)).mono ?_
 rintro e w9 ⟨A9, c9, rfl, ho, hb⟩
 rw [← HRe.out, ← Hnr.out] at ho ⊢
 have HRs := Lib.hid (Reads.of_own ho)
 clear ho
 have HN9 := Lib.hid (HN8.out.under HS.out (hb.mono HZ8.out))
 have HX9 := Lib.hid (HX8.out.below hb HX8.out.lt)
 have HB9 := Lib.hid (HB8.out.trans (hb.mono HB8.out.size))
 have HZ9 := Lib.hid (Nat.le_trans HZ8.out hb.size)
 try have HL := Lib.hid (HL.out.below (hb.mono HLz.out))
 try have HLz := Lib.hid (Nat.le_trans HLz.out hb.size)
 try have HC := Lib.hid (HC.out.below (hb.mono HCz.out))
 try have HCz := Lib.hid (Nat.le_trans HCz.out hb.size)
 try have HR := Lib.hid (HR.out.below (hb.mono HRz.out))
 try have HRz := Lib.hid (Nat.le_trans HRz.out hb.size)
 clear hb y0 y1 y2 y3
 obtain ⟨y0, y1, y2, y3⟩ := bk4 HX9.out
 go_wp2_with fail
 refine (l_sameInts (by omega) HR.out HRs.out HRz.out (Nat.le_refl _)).mono ?_
 rintro e w10 ⟨rfl, hb⟩
 have HN10 := Lib.hid (HN9.out.under HS.out (hb.mono HZ9.out))
 have HX10 := Lib.hid (HX9.out.below hb HX9.out.lt)
 have HB10 := Lib.hid (HB9.out.trans (hb.mono HB9.out.size))
 have HZ10 := Lib.hid (Nat.le_trans HZ9.out hb.size)
 try have HL := Lib.hid (HL.out.below (hb.mono HLz.out))
 try have HLz := Lib.hid (Nat.le_trans HLz.out hb.size)
 try have HC := Lib.hid (HC.out.below (hb.mono HCz.out))
 try have HCz := Lib.hid (Nat.le_trans HCz.out hb.size)
 try have HR := Lib.hid (HR.out.below (hb.mono HRz.out))
 try have HRz := Lib.hid (Nat.le_trans HRz.out hb.size)
 clear hb y0 y1 y2 y3
 obtain ⟨y0, y1, y2, y3⟩ := bk4 HX10.out
 have hg1 : ¬ (F : Int) < 1 := by omega
 have hmk := run_make_rowN (P := Try.prog) 81 4 ib (.bool false) Try.underlying81 hib hbz0 .i64 .i64 N N (Nat.le_refl _) (by rw [hbz2]; omega) (by omega) w10
 rw [hbz1] at hmk
 have hcs : (Value.bool false).cells = #[.bool false] := rfl
 rw [hcs, Nat.mul_one] at hmk
 clear hcs
 go_wp2_with fail
 clear hmk y0 y1 y2 y3
 obtain ⟨W3, hW3⟩ : ∃ W3, W3 = w10.alloc (.cells (madeCells #[.bool false] N) 4) := ⟨_, rfl⟩
 obtain ⟨gb, hgb⟩ : ∃ g, g = w10.heap.size := ⟨_, rfl⟩
 have HM3 := Lib.hid (show W3.ownsRow gb 4 1 (.slice (some ⟨gb, 0, none⟩) N N) N (bols (List.replicate N false)) by rw [hW3, hgb]; exact own_falses (by unfold maxLen; omega))
 have hb : Below w10.heap.size w10 W3 := by rw [hW3]; exact (Below.refl _ _).alloc (Nat.le_refl _) _
 have hgb3 : gb < W3.heap.size := by rw [hW3, hgb]; simp
 have HCb := Lib.hid (show w5.heap.size ≤ gb by have := HRz.out; omega)
 have HCc := Lib.hid (show w4.heap.size ≤ gb by have := HCz.out; omega)
 have HCl := Lib.hid (show w3.heap.size ≤ gb by have := HLz.out; omega)
 have HCx := Lib.hid (show gm < gb by have := HX10.out.lt; omega)
 have HCs := Lib.hid (show w1.heap.size ≤ gb by have := HZ10.out; omega)
 have HCw := Lib.hid (show w.heap.size ≤ gb by have := HB10.out.size; omega)
 have y0 := 0
 have y1 := 0
 have y2 := 0
 have y3 := 0
 rw [← hW3, ← hgb]
 clear hW3 hgb
 have HN11 := Lib.hid (HN10.out.under HS.out (hb.mono HZ10.out))
 have HX11 := Lib.hid (HX10.out.below hb HX10.out.lt)
 have HB11 := Lib.hid (HB10.out.trans (hb.mono HB10.out.size))
 have HZ11 := Lib.hid (Nat.le_trans HZ10.out hb.size)
 try have HL := Lib.hid (HL.out.below (hb.mono HLz.out))
 try have HLz := Lib.hid (Nat.le_trans HLz.out hb.size)
 try have HC := Lib.hid (HC.out.below (hb.mono HCz.out))
 try have HCz := Lib.hid (Nat.le_trans HCz.out hb.size)
 try have HR := Lib.hid (HR.out.below (hb.mono HRz.out))
 try have HRz := Lib.hid (Nat.le_trans HRz.out hb.size)
 clear hb y0 y1 y2 y3
 obtain ⟨y0, y1, y2, y3⟩ := bk4 HX11.out
 clear y0 y1 y2 y3
 go_loopw [2, 8, 10, 11, 12] (fun _ bv iv _ _ wr => ∃ (k : Nat) (s : List Bool), k ≤ nr ∧ iv = .int .i64 k ∧ bv = .int .i64 (bestL L (R.take k)) ∧ wr.ownsRow gb 4 1 (.slice (some ⟨gb, 0, none⟩) N N) N (bols s) ∧ s.length = N ∧ RootsTo F ands (R.take k) s ∧ Only (fun b => b = gb) W3 wr) (fun _ _ iv _ _ _ => nr - (intOf iv).toNat)
 case atStart => exact ⟨0, List.replicate N false, Nat.zero_le _, rfl, rfl, HM3.out, List.length_replicate, RootsTo.nil N, Only.refl _ _⟩
 case round =>
  obtain ⟨wa, hwa⟩ : ∃ x, x = wr := ⟨_, rfl⟩
  subst hwa
  obtain ⟨k, s, hk, rfl, rfl, hown, hsl, hrt, ho⟩ := hrel
  have Hown := Lib.hid hown
  have Hsl := Lib.hid hsl
  have Hrts := Lib.hid hrt
  have Ho := Lib.hid ho
  have za := ho.size
  have HXa := Lib.hid (ho.blk HX11.out (by have := HCx.out; show gm ≠ gb; omega))
  have HNa := Lib.hid (HN11.out.only (fun b hb => by have := HS.out b hb; have := HZ11.out; omega) ho (fun b hb => by have := HS.out b hb; have := HCs.out; omega))
  have HLr := Lib.hid (reads_only HL.out ho HLz.out (fun b hb => by have := HCl.out; omega))
  have HRr := Lib.hid (reads_only HR.out ho HRz.out (fun b hb => by have := HCb.out; omega))
  have hbd := bestL_bd (lv := L) (m := 300) (by omega) (fun v hv => by have h1 := HLb.out v hv; have h2 := G.out.hna; omega) (R.take k)
  clear hown hsl hrt ho
  by_cases hlt : k < nr
  ·obtain ⟨ad, r, rfl, hab, hx, d0⟩ := HRr.out.int_at' hlt
   have hrr := Hro.out r (List.mem_of_getElem? hx)
   have Hcr := Lib.hid (hf_cast hrr.1)
   have hrN : hf r < N := by have h1 := HFN.out; have h2 := hrr.2; have h3 := Hl2.out; unfold hf; omega
   have Hst := Lib.hid (bestL_take (lv := L) hx)
   have Hx := Lib.hid hx
   obtain ⟨p, hp⟩ : ∃ p, p = hf r := ⟨_, rfl⟩
   rw [← hp] at Hcr hrN Hst
   have Hp := Lib.hid hp
   have hcr := Hcr.out
   obtain ⟨ad2, v, hA3, hab2, hv, d1⟩ := HLr.out.int_at' hrN
   subst hA3
   have hvb := HLb.out v (List.mem_of_getElem? hv)
   have Hst2 := Lib.hid (show bestL L (R.take (k + 1)) = max (bestL L (R.take k)) v by rw [Hst.out, List.getD_eq_getElem?_getD, hv]; rfl)
   obtain ⟨bb, hbb⟩ : ∃ b, b = bestL L (R.take k) := ⟨_, rfl⟩
   rw [← hbb] at Hst2 hbd ⊢
   have g1 : (0 : Int) ≤ (k : Int) := by omega
   have g2 : (k : Int) < (nr : Int) := by omega
   have g3 : (p : Int) < (N : Int) := by omega
   have g4 : (0 : Int) ≤ (p : Int) := by omega
   have hr0 := hrr.1
   have hr1 : r ≤ 10000 := by have h2 := hrr.2; have h3 := Hl2.out; omega
   obtain ⟨vm, hvm⟩ : ∃ m, m = (if bb < v then v else bb) := ⟨_, rfl⟩
   have Hvm := Lib.hid (show bestL L (R.take (k + 1)) = vm by rw [hvm, Hst2.out]; split <;> omega)
   have hvm2 := hvm.symm
   clear hx hv hp hbb hrr hvm
   go_wp2_with fail
   clear hvm2
   refine wp_region_lexC (by kernel_rfl) (by kernel_rfl) (fun x => Below wa.heap.size wa x) ((Below.refl _ _).drew) (fun lexNE => ?_)
   obtain ⟨c0, c1, c2, c3⟩ := bw4 (B := wa.heap.size) HXa.out HXa.out.lt
   have e0 := wcq (B := wa.heap.size) d0 (by rw [block_of_add]; have := HRz.out; omega)
   (repeat (first | (refine lex_r fun K hK => ?_; go_big_quiet_op; refine hK _ ?_; clear hK K) | (refine lex_k fun K hK => ?_; go_simp; refine hK _ ?_; clear hK K)))
   (refine lex_e fun K hK => ?_; go_big_op)
   refine (i_Cone G.out (w := wa.drew) (HNa.out.keep (fun _ _ => rfl) (fun _ h => h)) (fun b hb => by have := HS.out b hb; have := HZ11.out; show b < wa.heap.size; omega) p (by rw [Hl2.out]; have := HFN.out; omega)).mono ?_
   rintro e w6 ⟨lc, ⟨A6, c6, rfl, ho6, hb6⟩, hlc, hcone⟩
   obtain ⟨nc, hnc⟩ : ∃ n, n = lc.length := ⟨_, rfl⟩
   rw [← hnc] at ho6 hlc ⊢
   have Hnc := Lib.hid hnc
   have Ho6 := Lib.hid ho6
   have Hb6 := Lib.hid ((Below.refl wa.heap.size wa).drew.trans hb6)
   have Hcone := Lib.hid hcone
   have z6 := Hb6.out.size
   have HM6 := Lib.hid (own_below Hown.out Hb6.out (Nat.le_refl _))
   have hgb6 : gb < wa.heap.size := (Hown.out.lt gb rfl).2
   refine hK _ _ (Cls.mk' Hb6.out) ?_
   clear hK K ho6 hb6 hcone hnc
   (repeat (first | (refine lex_r fun K hK => ?_; go_big_quiet_op; refine hK _ ?_; clear hK K) | (refine lex_k fun K hK => ?_; go_simp; refine hK _ ?_; clear hK K)))
   (refine lex_nil ?_)
   clear lexNE c0 c1 c2 c3 e0 d0 d1
   go_wp2_with fail
   go_loopw [2, 12] (fun _ iv wr => ∃ (q : Nat) (s2 : List Bool), q ≤ nc ∧ iv = .int .i64 q ∧ wr.ownsRow gb 4 1 (.slice (some ⟨gb, 0, none⟩) N N) N (bols s2) ∧ AddTo (lc.take q) s s2 ∧ Only (fun b => b = gb) w6 wr) (fun _ iv _ => nc - (intOf iv).toNat)
   case atStart => exact ⟨0, s, Nat.zero_le _, rfl, HM6.out, AddTo.nil s, Only.refl _ _⟩
   case round =>
    obtain ⟨wb, hwb⟩ : ∃ x, x = wr := ⟨_, rfl⟩
    subst hwb
    obtain ⟨q, s2, hq, rfl, hown2, hadd, ho2⟩ := hrel
    have Hown2 := Lib.hid hown2
    have Hadd := Lib.hid hadd
    have Ho2 := Lib.hid ho2
    have HCo := Lib.hid (Reads.of_own (own_only Ho6.out ho2 (fun b hb => by have : wa.drew.heap.size = wa.heap.size := rfl; omega)))
    clear hown2 hadd ho2
    by_cases hlt2 : q < nc
    ·obtain ⟨ad3, x, hA6, hab3, hx3, e1⟩ := HCo.out.int_at' hlt2
     subst hA6
     obtain ⟨j, rfl, hjN, hrch⟩ := (Hcone.out x).1 (List.mem_of_getElem? hx3)
     have hjN2 : j < N := by have h1 := HFN.out; have h2 := Hl2.out; omega
     have Hx3 := Lib.hid hx3
     obtain ⟨ob, _, hob⟩ := own_bool_at' Hown2.out hjN2
     have fob := Hown2.out.frozenAt j
     have k1 : (0 : Int) ≤ (q : Int) := by omega
     have k2 : (q : Int) < (nc : Int) := by omega
     have k3 : (0 : Int) ≤ (j : Int) := by omega
     have k4 : (j : Int) < (N : Int) := by omega
     have k5 : ¬ (j : Int) < 0 := by omega
     have k6 : ¬ (N : Int) ≤ (j : Int) := by omega
     clear hx3 hrch hjN
     go_wp2_with fail
     go_roundw
     case rel => exact ⟨q + 1, s2.set j true, by omega, by go_num, by rw [← bols_set]; exact (Hown2.out.stored j (.bool true)).1, Hadd.out.step Hx3.out, Ho2.out.setCell (p := ⟨gb, j, none⟩) (.inl rfl) _⟩
     case measure => simp [intOf]; omega
    ·obtain rfl : q = nc := by omega
     have k2 : (q : Int) ≤ (q : Int) := Int.le_refl _
     have Hadd2 := Lib.hid (show AddTo lc s s2 by have h1 := Hadd.out; rwa [List.take_of_length_le (by rw [← Hnc.out]; exact Nat.le_refl _)] at h1)
     have Hmark := Lib.hid (Hadd2.out.mark (F := F) (xs := ands) (v := hf r) (fun j hj => by
      rw [Hcone.out]
      constructor
      ·rintro ⟨j', h1, _, h2⟩
       have : j = j' := by omega
       rw [this, ← Hp.out]
       exact h2
      ·intro h1
       exact ⟨j, rfl, by rw [Hsl.out] at hj; have h1 := HFN.out; have h2 := Hl2.out; omega, by rw [Hp.out]; exact h1⟩))
     go_wp2_with fail
     go_roundw
     case rel => exact ⟨k + 1, s2, by omega, by go_num, by rw [Hvm.out], Hown2.out, Hmark.out.1.trans Hsl.out, Hrts.out.step Hx.out Hmark.out, Ho.out.trans ((Only.of_below Hb6.out _).trans Ho2.out)⟩
     case measure => simp [intOf]; omega
  ·obtain rfl : k = nr := by omega
   have g2 : (k : Int) ≤ (k : Int) := Int.le_refl _
   have Hbest := Lib.hid (show bestL L (R.take k) = bestL (lvL F ands) (rootsL outs ss) by rw [List.take_of_length_le (by rw [← Hnr.out]; exact Nat.le_refl _), HLe.out, HRe.out])
   have Hrt2 := Lib.hid (show RootsTo F ands R s by have h1 := Hrts.out; rwa [List.take_of_length_le (by rw [← Hnr.out]; exact Nat.le_refl _)] at h1)
   have Hsame := Lib.hid (Hrt2.out.same Hrt.out (by rw [Hsl.out, Hlr.out]))
   obtain ⟨bb, hbb⟩ : ∃ b, b = bestL L (R.take k) := ⟨_, rfl⟩
   rw [← hbb] at Hbest ⊢
   clear hbb
   have HCr := Lib.hid (reads_only HC.out Ho.out HCz.out (fun b hb => by have := HCc.out; omega))
   have HMr := Lib.hid (Reads.of_own Hown.out)
   have hza : w1.heap.size ≤ wa.heap.size := by have := HZ11.out; omega
   have HB0 := Lib.hid (Below.refl wa.heap.size wa)
   obtain ⟨y0, y1, y2, y3⟩ := bk4 HXa.out
   go_wp2_with fail
   go_loopw [2, 13, 14] (fun _ iv _ wr => ∃ i : Nat, i ≤ na ∧ iv = .int .i64 i ∧ Below wa.heap.size wa wr) (fun _ iv _ _ => na - (intOf iv).toNat)
   case atStart => exact ⟨0, Nat.zero_le _, rfl, HB0.out⟩
   case round =>
    obtain ⟨wb, hwb⟩ : ∃ x, x = wr := ⟨_, rfl⟩
    subst hwb
    obtain ⟨i, hi, rfl, hb⟩ := hrel
    have Hb := Lib.hid hb
    have zb := hb.size
    have HXb := Lib.hid (HXa.out.below hb HXa.out.lt)
    have HNb := Lib.hid (HNa.out.under (fun b hb => by have := HS.out b hb; omega) (hb.mono (Nat.le_refl _)))
    clear hb y0 y1 y2 y3
    obtain ⟨y0, y1, y2, y3⟩ := bk4 HXb.out
    by_cases hlt : i < na
    ·obtain ⟨ad4, a, b, rfl, hab, hSb, hx, t0, t1⟩ := and_row HNb.out HS.out hlt
     have hv := G.out.hok i (a, b) hx
     have hl := G.out.hok.lt hx
     have ea := hf_cast hv.1
     have eb := hf_cast hv.2.2.1
     have Hlv := Lib.hid (HLa.out i (a, b) hx)
     have hcl := Hrt2.out.closed G.out.hok (F + i) (by rw [Hsl.out]; omega)
     simp only [show F + i - F = i by omega] at hcl
     have Hcl := Lib.hid (fun h => hcl h (by omega) (a, b) hx)
     obtain ⟨pa, hpa⟩ : ∃ p, p = hf a := ⟨_, rfl⟩
     obtain ⟨pb, hpb⟩ : ∃ p, p = hf b := ⟨_, rfl⟩
     simp only [← hpa, ← hpb] at hl ea eb Hlv Hcl
     have hl1 := hl.1
     have hl2 := hl.2
     have hin : F + i < N := by omega
     have ha0 := hv.1
     have ha1 : a ≤ 1000 := by have := hv.2.1; omega
     have hb0 := hv.2.2.1
     have hb1 : b ≤ 1000 := by have := hv.2.2.2; omega
     simp only at ha0 hb0
     obtain ⟨va, hva⟩ : ∃ v, v = L.getD pa 0 := ⟨_, rfl⟩
     obtain ⟨vb, hvb⟩ : ∃ v, v = L.getD pb 0 := ⟨_, rfl⟩
     have hxa : L[pa]? = some va := by rw [hva, List.getD_eq_getElem?_getD, List.getElem?_eq_getElem (by rw [← HNl.out]; omega)]; rfl
     have hxb : L[pb]? = some vb := by rw [hvb, List.getD_eq_getElem?_getD, List.getElem?_eq_getElem (by rw [← HNl.out]; omega)]; rfl
     have hva3 := HLb.out va (List.mem_of_getElem? hxa)
     have hvb3 := HLb.out vb (List.mem_of_getElem? hxb)
     have hna3 := G.out.hna
     obtain ⟨vm, hvm⟩ : ∃ m, m = (if va < vb then vb else va) := ⟨_, rfl⟩
     have hvm0 : 0 ≤ vm ∧ vm ≤ 300 := by rw [hvm]; split <;> omega
     obtain ⟨hvm1, hvm3⟩ := hvm0
     simp only [← hva, ← hvb] at Hlv
     have hxm : L[F + i]? = some (1 + vm) := by rw [Hlv.out, ← ifmax, ← hvm]
     have hRb := HLr.out.below (Hb.out.mono (by have := HLz.out; omega))
     obtain ⟨adl, hAl⟩ : ∃ ad, A3 = some ad := by obtain ⟨ad, _, h1, _⟩ := hRb.int_at' hin; exact ⟨ad, h1⟩
     subst hAl
     obtain ⟨hlb, e0⟩ := reads_int_val hRb hxm
     obtain ⟨_, e1⟩ := reads_int_val hRb hxa
     obtain ⟨_, e2⟩ := reads_int_val hRb hxb
     have Hob := Lib.hid (own_below Hown.out Hb.out (Nat.le_refl _))
     obtain ⟨m0, hm0, f0⟩ := own_bool_at' Hob.out hin
     obtain ⟨ma, hma, f1⟩ := own_bool_at' Hob.out (show pa < N by omega)
     obtain ⟨mb, hmb, f2⟩ := own_bool_at' Hob.out (show pb < N by omega)
     have hgbb : gb < wb.heap.size := (Hob.out.lt gb rfl).2
     have g1 : (0 : Int) ≤ (i : Int) := by omega
     have g2 : (i : Int) < (na : Int) := by omega
     have g3 : (F : Int) + (i : Int) < (N : Int) := by omega
     have g4 : (0 : Int) ≤ (F : Int) + (i : Int) := by omega
     have g5 : (pa : Int) < (N : Int) := by omega
     have g6 : (pb : Int) < (N : Int) := by omega
     have Hm := Lib.hid (show m0 = true → ma = true ∧ mb = true from fun h => by
      have h1 := Hcl.out (by rw [hm0, h])
      rw [hma, hmb] at h1
      exact ⟨by injection h1.1, by injection h1.2⟩)
     obtain ⟨W4, hW4⟩ : ∃ W4, W4 = wb.alloc (.cells #[.int .i64 a, .int .i64 b] 87) := ⟨_, rfl⟩
     have HB4 := Lib.hid (show Below wb.heap.size wb W4 by rw [hW4]; exact (Below.refl _ _).alloc (Nat.le_refl _) _)
     have HV4 := Lib.hid (show Blk W4 wb.heap.size 87 #[.int .i64 a, .int .i64 b] by rw [hW4]; exact Blk.new _ _ _)
     have z4 : wb.heap.size < W4.heap.size := HV4.out.lt
     have hvm2 := hvm.symm
     have hlbb : adl.block < wb.heap.size := by have := HLz.out; omega
     clear hpa hpb hva hvb hx hv hl hxa hxb hxm hvm hm0 hma hmb hcl
     go_wp2_with fail
     rw [← hW4]
     clear hW4 y0 y1 y2 y3 t0 t1
     have e0' := wcq (B := W4.heap.size) ((HB4.out.cell (p := adl.add (F + i)) (by rw [block_of_add]; omega)).trans e0) (by rw [block_of_add]; omega)
     have e1' := wcq (B := W4.heap.size) ((HB4.out.cell (p := adl.add pa) (by rw [block_of_add]; omega)).trans e1) (by rw [block_of_add]; omega)
     have e2' := wcq (B := W4.heap.size) ((HB4.out.cell (p := adl.add pb) (by rw [block_of_add]; omega)).trans e2) (by rw [block_of_add]; omega)
     have f0' := wcq (B := W4.heap.size) ((HB4.out.cell (p := ⟨gb, F + i, none⟩) (by show gb < wb.heap.size; omega)).trans f0) (by show gb < W4.heap.size; omega)
     have f1' := wcq (B := W4.heap.size) ((HB4.out.cell (p := ⟨gb, pa, none⟩) (by show gb < wb.heap.size; omega)).trans f1) (by show gb < W4.heap.size; omega)
     have f2' := wcq (B := W4.heap.size) ((HB4.out.cell (p := ⟨gb, pb, none⟩) (by show gb < wb.heap.size; omega)).trans f2) (by show gb < W4.heap.size; omega)
     obtain ⟨d0, d1⟩ := bwS2 (B := W4.heap.size) HV4.out HV4.out.lt
     clear e0 e1 e2 f0 f1 f2
     have HBn := Lib.hid (show Below wa.heap.size wa W4.drew from (Hb.out.trans (HB4.out.mono zb)).drew)
     cases m0 with
     | false =>
      refine wp_region_lexC (by kernel_rfl) (by kernel_rfl) (fun x => Below W4.heap.size W4 x) ((Below.refl _ _).drew) (fun lexNE => ?_)
      (repeat (first | (refine lex_r fun K hK => ?_; go_big_quiet_op; refine hK _ ?_; clear hK K) | (refine lex_k fun K hK => ?_; go_simp; refine hK _ ?_; clear hK K)))
      repeat (refine lex_u fun K hK => ?_; go_simp; refine hK _ ?_; clear hK K)
      (repeat (first | (refine lex_r fun K hK => ?_; go_big_quiet_op; refine hK _ ?_; clear hK K) | (refine lex_k fun K hK => ?_; go_simp; refine hK _ ?_; clear hK K)))
      repeat (refine lex_u fun K hK => ?_; go_simp; refine hK _ ?_; clear hK K)
      (repeat (first | (refine lex_r fun K hK => ?_; go_big_quiet_op; refine hK _ ?_; clear hK K) | (refine lex_k fun K hK => ?_; go_simp; refine hK _ ?_; clear hK K)))
      (refine lex_nil ?_)
      clear lexNE d0 d1 e0' e1' e2' f0' f1' f2'
      go_wp2_with fail
      go_roundw
      case rel => exact ⟨i + 1, by omega, by go_num, HBn.out⟩
      case measure => simp [intOf]; omega
     | true =>
      obtain ⟨rfl, rfl⟩ := Hm.out rfl
      refine wp_region_lexC (by kernel_rfl) (by kernel_rfl) (fun x => Below W4.heap.size W4 x) ((Below.refl _ _).drew) (fun lexNE => ?_)
      (repeat (first | (refine lex_r fun K hK => ?_; go_big_quiet_op; refine hK _ ?_; clear hK K) | (refine lex_k fun K hK => ?_; go_simp; refine hK _ ?_; clear hK K)))
      (refine lex_nil ?_)
      clear lexNE d0 d1 e0' e1' e2' f0' f1' f2'
      go_wp2_with fail
      go_roundw
      case rel => exact ⟨i + 1, by omega, by go_num, HBn.out⟩
      case measure => simp [intOf]; omega
    ·obtain rfl : i = na := by omega
     have k2 : (i : Int) ≤ (i : Int) := Int.le_refl _
     go_wp2_with fail
     refine (i_Depth G.out HNb.out (fun b hb => by have := HS.out b hb; omega)).mono ?_
     rintro e w6 ⟨rfl, hb6⟩
     rw [← Hbest.out]
     have HMs := Lib.hid ((HMr.out.below Hb.out).below (hb6.mono zb))
     have HCs2 := Lib.hid (show Reads w6 w4.heap.size 1 A4 N (bols s) by rw [Hsame.out]; exact (HCr.out.below (Hb.out.mono (by have := HCc.out; have := (Hown.out.lt gb rfl).2; omega))).below (hb6.mono (by have := HCc.out; have := (Hown.out.lt gb rfl).2; omega)))
     have z6 := hb6.size
     have HBe := Lib.hid (HB11.out.trans ((Ho.out.below (B := gb) (by omega) (fun b hb => by omega)).mono HCw.out |>.trans ((Hb.out.trans (hb6.mono zb)).mono (by have := HCw.out; have := (Hown.out.lt gb rfl).2; omega))))
     clear hb6 y0 y1 y2 y3
     go_wp2_with fail
     refine (l_sameBools (by omega) HMs.out HCs2.out (by omega) (by have := HCc.out; have := (Hown.out.lt gb rfl).2; omega)).mono ?_
     rintro e w7 ⟨rfl, hb7⟩
     have HBf := Lib.hid (HBe.out.trans (hb7.mono HBe.out.size))
     clear hb7
     go_wp2_with fail
     go_ret
     exact ⟨rfl, HBf.out⟩
set_option maxRecDepth 100000 in
theorem lifted_FnDepthIsLevel (os : Os) (started : os.Started) (H : Type) (enc : TypeId × Value → H) :
  ReturnsInHanded {} Try.checked os 7 .any (Rows.fnDepthIsLevelSpec.pre6 enc Try.prog Try.f7 Rows.fnDepthIsLevelRow.domain false) (Rows.fnDepthIsLevelSpec.post enc Try.prog Try.f7 false true false false) := by
 refine lift (F := 7) (fn := Try.f7) (s := Rows.fnDepthIsLevelSpec) (conds := Rows.fnDepthIsLevelRow.domain) (by kernel_rfl) Try.func7 (by kernel_rfl) rfl (by kernel_rfl) ?_ ?_ os started H enc
  (ChangeSpec.witness6 (enc := enc) (C := Try.checked) false ⟨#[], #[.slice none 0 0], []⟩ 8 (by kernel_rfl) (by kernel_rfl) (by kernel_rfl) (by kernel_rfl))
 ·intro H ds hl
  rw [Try.params7] at hl
  match ds, hl with
  | [d0], _ => exact ⟨rfl, rfl, rfl⟩
 ·intro W base args H enc ds p hval hA hlt
  rw [Try.params7] at hA hval
  obtain ⟨v0, vs0, e0, es0, p0, q0, hargs, rfl, rfl, h0, r0⟩ := trodAll_cons hA
  obtain ⟨rfl, rfl, rfl⟩ := trodAll_nil r0
  obtain rfl : args = #[v0] := by cases args; simp_all
  obtain ⟨A0, n0, c0, l, rfl, w0⟩ := op_bytes Try.underlying67 Try.underlying5 (by kernel_rfl) (hval 0 67 v0 rfl rfl) h0 (fun x hx => hlt x (by simp [hx]))
  exact walk_FnDepthIsLevel A0 n0 c0 l W w0
theorem facts_FnDepthIsLevel : joinedFacts Try.pinned.checked.prog 7 Try.f7 Rows.fnDepthIsLevelSpec Rows.fnDepthIsLevelRow = true :=
 facts_of (P := Try.prog) mayE liftE makeE rfl rfl (by kernel_rfl) (by kernel_rfl) (by kernel_rfl) (by kernel_rfl) (by kernel_rfl) (by kernel_rfl) (by kernel_rfl) (by kernel_rfl) (by kernel_rfl) (by kernel_rfl) (by kernel_rfl) (by kernel_rfl) (by kernel_rfl) rfl rfl (by kernel_rfl) (by kernel_rfl) (by kernel_rfl) (by kernel_rfl) (by kernel_rfl) (by kernel_rfl) (by kernel_rfl) (by kernel_rfl) (by kernel_rfl) (by kernel_rfl) (by kernel_rfl) rfl rfl (by kernel_rfl) (by kernel_rfl) (by kernel_rfl)
theorem over_FnDepthIsLevel : Rows.fnDepthIsLevelRow.holds Try.pinned (OpenSpec.ofChange Rows.fnDepthIsLevelSpec) :=
 OpenClaim.holds_of_wide 7 Try.f7 rfl rfl rfl rfl rfl rfl rfl ⟨rfl, rfl, rfl, rfl, rfl⟩ rfl rfl rfl rfl rfl (by kernel_rfl) Try.func7 facts_FnDepthIsLevel
  (of_decide_eq_true (by kernel_rfl)) (by unfold Func.isWrapper; first | (rw [if_pos (by decide +kernel)]; kernel_rfl) | (rw [if_neg (by decide +kernel)]; exact ⟨rfl, rfl⟩))
  (fun os started H enc _ => lifted_FnDepthIsLevel os started H enc)
theorem FnDepthIsLevel_holds : Rows.FnDepthIsLevelSaid := over_FnDepthIsLevel
end Go.Proofs.Ytlkjdhjeecogjaa

/- Contracts: cones marked: markCone, cone, reached. -/
import Derived.Test.YtlkjdhjeecogjaaDepB
import Derived.Outline
namespace Go.Proofs.Ytlkjdhjeecogjaa
open Go.RowKit

theorem own_bool_at' {w : World} {lo g n c : Nat} {l : List Bool} {e : TypeId} (h : w.ownsRow lo e 1 (.slice (some ⟨g, 0, none⟩) n c) n (bols l)) {k : Nat} (hk : k < n) : ∃ x : Bool, l[k]? = some x ∧ w.cell? ⟨g, k, none⟩ = some (.bool x) := by
 have hl : l.length = n := by have h1 := h.1; rw [bols_len] at h1; omega
 have hx : l[k]? = some l[k] := List.getElem?_eq_getElem (by omega)
 exact ⟨_, hx, by rw [h.cellAt k (by omega), bols_get, hx]; rfl⟩
theorem ocl {S : Nat → Prop} {W0 : World} {p : Addr} {u : Value} (h : W0.cell? p = some u) (hp : p.block < W0.heap.size) (hs : ¬ S p.block) : ∀ W : Wd (fun w => Only S W0 w), W.val.cell? p = some u := fun W => (W.ok.cell hp hs).trans h
theorem ow4 {S : Nat → Prop} {W0 : World} {g : Nat} {t : TypeId} {a b c d : Value} (h : Blk W0 g t #[a, b, c, d]) (hs : ¬ S g) :
  (∀ W : Wd (fun w => Only S W0 w), W.val.cell? ⟨g, 0, none⟩ = some a) ∧ (∀ W : Wd (fun w => Only S W0 w), W.val.cell? ⟨g, 1, none⟩ = some b) ∧ (∀ W : Wd (fun w => Only S W0 w), W.val.cell? ⟨g, 2, none⟩ = some c) ∧ (∀ W : Wd (fun w => Only S W0 w), W.val.cell? ⟨g, 3, none⟩ = some d) :=
 ⟨ocl (p := ⟨g, 0, none⟩) (h.cell 0) h.lt hs, ocl (p := ⟨g, 1, none⟩) (h.cell 1) h.lt hs, ocl (p := ⟨g, 2, none⟩) (h.cell 2) h.lt hs, ocl (p := ⟨g, 3, none⟩) (h.cell 3) h.lt hs⟩
theorem NetR.only {w w' : World} {S T : Nat → Prop} {As Aa Ao : Option Addr} {ns cs na ca no co : Nat} {ss : List Seq3} {ands : List (Int × Int)} {outs : List Int} (h : NetR w S As ns cs ss Aa na ca ands Ao no co outs) (hS : ∀ b, S b → b < w.heap.size) (ho : Only T w w') (hd : ∀ b, S b → ¬ T b) : NetR w' S As ns cs ss Aa na ca ands Ao no co outs :=
 h.keep (fun _p hp => ho.cell (hS _ hp) (hd _ hp)) (fun _ h => h)
theorem and_row {w : World} {B : Nat} {S : Nat → Prop} {As Aa Ao : Option Addr} {ns cs na ca no co k : Nat} {ss : List Seq3} {ands : List (Int × Int)} {outs : List Int} (h : NetR w S As ns cs ss Aa na ca ands Ao no co outs) (hS : ∀ b, S b → b < B) (hk : k < na) :
  ∃ (ad : Addr) (a b : Int), Aa = some ad ∧ ad.block < B ∧ S ad.block ∧ ands[k]? = some (a, b) ∧ w.cell? (ad.add (k * 2)) = some (.int .i64 a) ∧ w.cell? (nxt (ad.add (k * 2)) 1) = some (.int .i64 b) := by
 obtain ⟨ad, a, b, hA, hab, hx, t0, t1⟩ := (Rep.to_reads (B := B) eAnd_len (by decide) h.2.1 hS).atAnd hk
 refine ⟨ad, a, b, hA, hab, ?_, hx, t0, t1⟩
 obtain ⟨ad', _, hA', hS', _⟩ := Rep.row (rows := ands.map (frow eAnd)) h.2.1 hk
 rw [hA] at hA'
 injection hA' with hA'
 subst hA'
 exact hS'
set_option maxRecDepth 100000 in
set_option maxHeartbeats 8000000 in
theorem i_markCone {inp : Int} {F : Nat} {ss : List Seq3} {ands : List (Int × Int)} {outs : List Int} (G : NetG inp F ss ands outs) {lo gs N cN : Nat} {As Aa Ao : Option Addr} {ns cs na ca no co : Nat} (_hgs : lo ≤ gs) (hNF : N = F + ands.length) :
  ∀ (v : Nat), v < N → ∀ {w : World} {S : Nat → Prop} {s : List Bool}, NetR w S As ns cs ss Aa na ca ands Ao no co outs → (∀ b, S b → b < w.heap.size) → (∀ b, S b → b ≠ gs) → w.ownsRow lo 4 1 (.slice (some ⟨gs, 0, none⟩) N cN) N (bols s) → ClosedB F ands (v + 1) s →
  Calls Try.prog 144 #[.agg #[.int .i64 inp, .slice As ns cs, .slice Aa na ca, .slice Ao no co], .int .i64 (v : Int), .slice (some ⟨gs, 0, none⟩) N cN] w fun e w' => ∃ s', e = .returned (.tuple #[]) ∧ w'.ownsRow lo 4 1 (.slice (some ⟨gs, 0, none⟩) N cN) N (bols s') ∧ MarkTo F ands s s' v ∧ Only (fun b => b = gs) w w' := by
 intro v
 induction v using Nat.strongRecOn with
 | _ v IH =>
 intro hvN w S s h hS hSg hown hcl
 have Hi := Lib.hid IH
 have HG := Lib.hid G
 have hls : s.length = N := by have h1 := hown.1; rw [bols_len] at h1; omega
 obtain ⟨l1, l2, l3, m1, m2, m3⟩ := h.lens
 have hi0 := G.h0
 have hi20 := G.h20
 have hns := G.hns
 have hF := G.hF
 rw [l1] at hns hF
 have Hl2 := Lib.hid l2
 have HNF := Lib.hid hNF
 have HFI := Lib.hid hF.symm
 have hNa : N ≤ F + na := by omega
 have hna3 : na ≤ 300 := by have := G.hna; omega
 have hF3 : F ≤ 33 := by omega
 have hNa2 : F + na ≤ N := by omega
 have hgl := (hown.lt gs rfl).2
 have Hls := Lib.hid hls
 have Hown := Lib.hid hown
 have Hcl := Lib.hid hcl
 obtain ⟨x, hx, hc⟩ := own_bool_at' hown hvN
 have Hx := Lib.hid hx
 obtain ⟨U, hU⟩ : ∃ U, U = w.alloc (.cells #[.int .i64 inp, .slice As ns cs, .slice Aa na ca, .slice Ao no co] 78) := ⟨_, rfl⟩
 have HU := Lib.hid hU
 have HX := Lib.hid (show Blk U w.heap.size 78 #[.int .i64 inp, .slice As ns cs, .slice Aa na ca, .slice Ao no co] by rw [hU]; exact Blk.new _ _ _)
 have HO0 := Lib.hid (show Only (fun b => b = gs) w U by rw [hU]; exact (Only.refl _ _).alloc _)
 have hzu : w.heap.size < U.heap.size := HX.out.lt
 have Hh := Lib.hid h
 have HSg := Lib.hid hSg
 have HS := Lib.hid hS
 have HwU := Lib.hid (show U.ownsRow lo 4 1 (.slice (some ⟨gs, 0, none⟩) N cN) N (bols s) by rw [hU]; exact hown.alloc _)
 have hfz : U.frozen? ⟨gs, v, none⟩ = false := HwU.out.frozenAt v
 have hcU : U.cell? ⟨gs, v, none⟩ = some (.bool x) := by rw [hU]; rw [World.cell?_alloc_lt _ _ _ (by exact hgl)]; exact hc
 have g1 : (0 : Int) ≤ (v : Int) := by omega
 have g2 : (v : Int) < (N : Int) := by omega
 clear hU hcl hown hx hc hF hNF hls l1 l2 l3 m1 m2 m3 IH h hSg hS G
 rw [HU.out] at hcU hfz
 go_enter Try.func144, Try.ntmps144
 cases x with
 | true =>
  go_wp2_with fail
  refine bodyPost_ret (results_none rfl _ _ _) rfl ?_
  rw [← HU.out]
  exact ⟨s, rfl, HwU.out, mark_there HG.out.hok Hcl.out Hx.out, HO0.out⟩
 | false =>
 obtain ⟨W1, hW1⟩ : ∃ W1, W1 = (w.setCell ⟨gs, v, none⟩ (.bool true)).alloc (.cells #[.int .i64 inp, .slice As ns cs, .slice Aa na ca, .slice Ao no co] 78) := ⟨_, rfl⟩
 have HW1 := Lib.hid hW1
 have HX1 := Lib.hid (show Blk W1 w.heap.size 78 #[.int .i64 inp, .slice As ns cs, .slice Aa na ca, .slice Ao no co] by rw [hW1]; exact blk_new_at (by simp [World.setCell]))
 have HO1 := Lib.hid (show Only (fun b => b = gs) w W1 by rw [hW1]; exact ((Only.refl (fun b => b = gs) _).setCell (p := ⟨gs, v, none⟩) (.inl rfl) _).alloc _)
 have Hw1 := Lib.hid (show W1.ownsRow lo 4 1 (.slice (some ⟨gs, 0, none⟩) N cN) N (bols (s.set v true)) by rw [hW1, ← bols_set]; exact (Hown.out.stored v (.bool true)).1.alloc _)
 have hz1 : w.heap.size < W1.heap.size := HX1.out.lt
 obtain ⟨y0, y1, y2, y3⟩ := bk4 HX1.out
 rw [hW1] at y0 y1 y2 y3
 clear hW1
 go_wp2_with fail
 rw [← HW1.out]
 clear hfz hcU
 refine (i_firstAnd inp hi0 hi20 As Aa Ao ns cs na ca no co hns _).mono ?_
 rintro e w2 ⟨rfl, hb2⟩
 rw [HFI.out]
 have HO2 := Lib.hid (HO1.out.trans (Only.of_below hb2 _))
 have HX2 := Lib.hid (HX1.out.below hb2 HX1.out.lt)
 have Hw2 := Lib.hid (own_below Hw1.out hb2 (Nat.le_refl _))
 have hz2 := hb2.size
 clear hb2 y0 y1 y2 y3
 by_cases hvF : v < F
 ·have g3 : (v : Int) - (F : Int) < 0 := by omega
  have g4 : ¬ (0 : Int) ≤ (v : Int) - (F : Int) := by omega
  go_wp2_with fail
  first | go_end0 | ((try simp only [Exit.inBlock, Exit.then]); refine bodyPost_ret (results_none rfl _ _ _) rfl ?_)
  exact ⟨s.set v true, rfl, Hw2.out, mark_leaf hvF, HO2.out⟩
 ·obtain ⟨i, hi⟩ : ∃ i : Nat, (v : Int) - (F : Int) = (i : Int) := ⟨v - F, by omega⟩
  have Hiv := Lib.hid (show v - F = i by omega)
  have hina : i < na := by omega
  have HN2 := Lib.hid (Hh.out.only HS.out HO2.out HSg.out)
  obtain ⟨ad, a, b, rfl, hab, hSb, hx, t0, t1⟩ := and_row HN2.out HS.out hina
  have hv := HG.out.hok i (a, b) hx
  have hl := child_lt HG.out.hok (u := v) (x := (a, b)) (by omega) (by rw [Hiv.out]; exact hx)
  have Ha := Lib.hid (hf_cast hv.1)
  have Hb := Lib.hid (hf_cast hv.2.2.1)
  have Hxx := Lib.hid hx
  have HSb := Lib.hid hSb
  simp only at hl
  have g3 : (0 : Int) ≤ (i : Int) := by omega
  have g4 : (i : Int) < (na : Int) := by omega
  have g5 : (i : Int) ≤ 300 := by omega
  have ha0 := hv.1
  have ha1 : a ≤ 1000 := by have := hv.2.1; omega
  have hb0 := hv.2.2.1
  have hb1 : b ≤ 1000 := by have := hv.2.2.2; omega
  simp only at ha0 hb0
  clear hx hv hSb
  obtain ⟨y0, y1, y2, y3⟩ := bk4 HX2.out
  go_wp2_with fail
  clear y0 y1 y2 y3
  have HCa := Lib.hid (((Hcl.out.less (k' := hf a + 1) (by omega)).set_ (v := v) (by omega) HG.out.hok (by rw [Hls.out]; exact hvN)))
  have HCb := Lib.hid (((Hcl.out.less (k' := hf b + 1) (by omega)).set_ (v := v) (by omega) HG.out.hok (by rw [Hls.out]; exact hvN)))
  refine wp_region_lexC (by kernel_rfl) (by kernel_rfl) (fun x => Only (fun b => b = gs) w2 x) ((Only.refl _ _).drew) (fun lexNE => ?_)
  obtain ⟨c0, c1, c2, c3⟩ := ow4 HX2.out (S := fun b => b = gs) (by show w.heap.size ≠ gs; omega)
  have ea := ocl (S := fun b => b = gs) t0 (by rw [block_of_add]; omega) (by rw [block_of_add]; exact HSg.out _ HSb.out)
  (repeat (first | (refine lex_r fun K hK => ?_; go_big_quiet_op; refine hK _ ?_; clear hK K) | (refine lex_k fun K hK => ?_; go_simp; refine hK _ ?_; clear hK K)))
  (refine lex_e fun K hK => ?_; go_big_op)
  rw [Ha.out]
  refine (Hi.out (hf a) hl.1 (by omega) (w := w2.drew) (HN2.out.keep (fun _ _ => rfl) (fun _ h => h)) (fun b hb => by have := HS.out b hb; show b < w2.heap.size; omega) HSg.out Hw2.out HCa.out).mono ?_
  rintro e w3 ⟨s3, rfl, ho3, hm3, honly3⟩
  have Ho3 := Lib.hid ho3
  have Hm3 := Lib.hid hm3
  have HO3 := Lib.hid (show Only (fun b => b = gs) w2 w3 from (Only.refl (fun b => b = gs) w2).drew.trans honly3)
  have hl3 := hm3.1
  have HX3 := Lib.hid (HO3.out.blk HX2.out (by show w.heap.size ≠ gs; omega))
  have HN3 := Lib.hid (HN2.out.only (fun b hb => by have := HS.out b hb; omega) HO3.out HSg.out)
  have HCc := Lib.hid (HCb.out.mark HG.out.hok hm3 (by rw [List.length_set, Hls.out]; omega))
  have u1 := (HO3.out.cell (p := nxt (ad.add (i * 2)) 1) (by rw [nxt_block]; omega) (by rw [nxt_block]; exact HSg.out _ (HSb.out))).trans t1
  have z3 := HO3.out.size
  clear ho3 hm3 honly3
  refine hK _ _ (Cls.mk' HO3.out) ?_
  clear hK K
  (refine lex_nil ?_)
  clear lexNE c0 c1 c2 c3 ea t0 t1
  obtain ⟨y0, y1, y2, y3⟩ := bk4 HX3.out
  go_wp2_with fail
  clear y0 y1 y2 y3
  refine wp_region_lexC (by kernel_rfl) (by kernel_rfl) (fun x => Only (fun b => b = gs) w3 x) ((Only.refl _ _).drew) (fun lexNE => ?_)
  obtain ⟨c0, c1, c2, c3⟩ := ow4 HX3.out (S := fun b => b = gs) (by show w.heap.size ≠ gs; omega)
  have ea := ocl (S := fun b => b = gs) u1 (by rw [nxt_block]; omega) (by rw [nxt_block]; exact HSg.out _ HSb.out)
  (repeat (first | (refine lex_r fun K hK => ?_; go_big_quiet_op; refine hK _ ?_; clear hK K) | (refine lex_k fun K hK => ?_; go_simp; refine hK _ ?_; clear hK K)))
  (refine lex_e fun K hK => ?_; go_big_op)
  rw [Hb.out]
  refine (Hi.out (hf b) hl.2 (by omega) (w := w3.drew) (HN3.out.keep (fun _ _ => rfl) (fun _ h => h)) (fun b hb => by have := HS.out b hb; show b < w3.heap.size; omega) HSg.out Ho3.out HCc.out).mono ?_
  rintro e w4 ⟨s4, rfl, ho4, hm4, honly4⟩
  have Ho4 := Lib.hid ho4
  have Hm4 := Lib.hid hm4
  have HO4 := Lib.hid (show Only (fun b => b = gs) w3 w4 from (Only.refl (fun b => b = gs) w3).drew.trans honly4)
  clear ho4 hm4 honly4
  refine hK _ _ (Cls.mk' HO4.out) ?_
  clear hK K
  (refine lex_nil ?_)
  clear lexNE c0 c1 c2 c3 ea u1
  go_wp2_with fail
  go_end0
  exact ⟨s4, rfl, Ho4.out, mark_step (by omega) (by rw [Hiv.out]; exact Hxx.out) Hm3.out Hm4.out, HO2.out.trans (HO3.out.trans HO4.out)⟩
theorem Try.infoBoolD : (Try.prog.info? 4).map (fun i => (i.zero, i.size, i.bytes)) = some (some (.bool false), 1, 1) := by kernel_rfl
theorem own_falses {w : World} {n : Nat} (hn : n ≤ maxLen) : (w.alloc (.cells (madeCells #[.bool false] n) 4)).ownsRow w.heap.size 4 1 (.slice (some ⟨w.heap.size, 0, none⟩) n n) n (bols (List.replicate n false)) := by
 have h1 : (madeCells #[.bool false] n).toList = bols (List.replicate n false) := by
  simp only [madeCells, bols, Array.toList_map, Array.toList_range, List.map_replicate]
  rw [List.eq_replicate_iff]
  refine ⟨by simp, fun b hb => ?_⟩
  obtain ⟨i, _, rfl⟩ := List.mem_map.1 hb
  show (#[Value.bool false])[i % 1]! = _
  rw [Nat.mod_one]
  rfl
 exact ⟨by simp [bols], .inr ⟨w.heap.size, n, madeCells #[.bool false] n, rfl, Nat.le_refl _, heap_alloc_new w _, Nat.le_refl _, hn, by simp [size_madeCells], by rw [h1]; simp [bols]⟩⟩
theorem closed_falses {F : Nat} {xs : List (Int × Int)} {k n : Nat} : ClosedB F xs k (List.replicate n false) := by
 intro u _ hs
 rw [List.getElem?_replicate] at hs
 split at hs <;> simp at hs
set_option maxRecDepth 100000 in
set_option maxHeartbeats 4000000 in
theorem i_cone {inp : Int} {F : Nat} {ss : List Seq3} {ands : List (Int × Int)} {outs : List Int} (G : NetG inp F ss ands outs) {w : World} {S : Nat → Prop} {As Aa Ao : Option Addr} {ns cs na ca no co : Nat} (h : NetR w S As ns cs ss Aa na ca ands Ao no co outs) (hS : ∀ b, S b → b < w.heap.size) (v : Nat) (hv : v < F + ands.length) :
  Calls Try.prog 111 #[.agg #[.int .i64 inp, .slice As ns cs, .slice Aa na ca, .slice Ao no co], .int .i64 (v : Int)] w fun e w' => ∃ l : List Int, OwnI l w e w' ∧ l.length ≤ 400 ∧ ∀ x, x ∈ l ↔ ∃ j : Nat, x = (j : Int) ∧ j < F + ands.length ∧ Rch F ands v j := by
 obtain ⟨ib, hib, hbz0, hbz1, hbz2⟩ := info_parts Try.infoBoolD
 have HG := Lib.hid G
 obtain ⟨l1, l2, l3, m1, m2, m3⟩ := h.lens
 have hF := G.hF
 have hi0 := G.h0
 have hi20 := G.h20
 have hns := G.hns
 have hna := G.hna
 rw [l1] at hF hns
 rw [l2] at hna
 have Hl1 := Lib.hid l1
 have Hl2 := Lib.hid l2
 have Hl3 := Lib.hid l3
 have Hok := Lib.hid G.hok
 have hS1 : ∀ b, S b → b < w.heap.size + 1 := fun b hb => by have := hS b hb; omega
 obtain ⟨U, hU⟩ : ∃ U, U = w.alloc (.cells #[.int .i64 inp, .slice As ns cs, .slice Aa na ca, .slice Ao no co] 78) := ⟨_, rfl⟩
 have HU := Lib.hid hU
 have HX := Lib.hid (show Blk U w.heap.size 78 #[.int .i64 inp, .slice As ns cs, .slice Aa na ca, .slice Ao no co] by rw [hU]; exact Blk.new _ _ _)
 have HB0 := Lib.hid (show Below w.heap.size w U by rw [hU]; exact (Below.refl _ _).alloc (Nat.le_refl _) _)
 have hzU : U.heap.size = w.heap.size + 1 := by rw [hU]; simp
 have HN := Lib.hid (h.under hS HB0.out)
 have HA := Lib.hid (Rep.to_reads (B := w.heap.size + 1) eAnd_len (by decide) HN.out.2.1 hS1)
 obtain ⟨N, hN⟩ : ∃ N, N = F + na := ⟨_, rfl⟩
 have hN400 : N ≤ 400 := by omega
 have HN2 := Lib.hid hN
 have HF := Lib.hid hF
 have HZU := Lib.hid hzU
 have HNI := Lib.hid (show 1 + inp + (ns : Int) + (na : Int) = (N : Int) by omega)
 have HFI := Lib.hid (show 1 + inp + (ns : Int) = (F : Int) by omega)
 have hFN : F + na ≤ N := by omega
 have hF1 : 1 ≤ F := by omega
 have hzu : w.heap.size + 1 ≤ U.heap.size := by omega
 have hzu2 : U.heap.size ≤ w.heap.size + 1 := by omega
 clear l1 l2 l3 m1 m2 m3 hU h hN hF hzU
 have HSg := Lib.hid hS
 have HNe := Lib.hid (show N = F + ands.length by rw [Hl2.out]; exact HN2.out)
 rw [← HNe.out] at hv ⊢
 go_enter Try.func111, Try.ntmps111
 obtain ⟨y0, y1, y2, y3⟩ := bk4 HX.out
 go_wp2_with fail
 rw [← HU.out]
 go_wp2_with fail
 refine (i_nodeCount inp hi0 hi20 As Aa Ao ns cs na ca no co hns hna _).mono ?_
 rintro e w1 ⟨rfl, hb1⟩
 rw [HNI.out]
 have z1 := hb1.size
 have Hb1 := Lib.hid hb1
 have HX1 := Lib.hid (HX.out.below hb1 (by omega))
 clear hb1 y0 y1 y2 y3
 obtain ⟨y0, y1, y2, y3⟩ := bk4 HX1.out
 have hmk := run_make_rowN (P := Try.prog) 81 4 ib (.bool false) Try.underlying81 hib hbz0 .i64 .i64 N N (Nat.le_refl _) (by rw [hbz2]; omega) (by omega) w1
 rw [hbz1] at hmk
 have hcs : (Value.bool false).cells = #[.bool false] := rfl
 rw [hcs, Nat.mul_one] at hmk
 clear hcs
 obtain ⟨x0, x1, x2, x3⟩ := bk4 (HX1.out.alloc (.cells (madeCells #[.bool false] N) 4))
 go_wp2_with fail
 clear hmk x0 x1 x2 x3
 obtain ⟨W2, hW2⟩ : ∃ W2, W2 = w1.alloc (.cells (madeCells #[.bool false] N) 4) := ⟨_, rfl⟩
 have HO2 := Lib.hid (show W2.ownsRow w1.heap.size 4 1 (.slice (some ⟨w1.heap.size, 0, none⟩) N N) N (bols (List.replicate N false)) by rw [hW2]; exact own_falses (by unfold maxLen; omega))
 have HB2 := Lib.hid (show Below (w.heap.size + 1) U W2 by rw [hW2]; exact (Hb1.out.mono (by omega)).alloc (by omega) _)
 obtain ⟨gl, hgl⟩ : ∃ g, g = w1.heap.size := ⟨_, rfl⟩
 have hgl1 : w.heap.size + 1 ≤ gl := by omega
 have hgl2 : gl < W2.heap.size := by rw [hgl, hW2]; simp
 rw [← hW2, ← hgl]
 rw [← hgl] at HO2
 clear hW2 hgl
 have HN3 := Lib.hid (HN.out.under hS1 HB2.out)
 have HXw := Lib.hid (HX.out.below HB2.out (by omega))
 clear y0 y1 y2 y3
 obtain ⟨y0, y1, y2, y3⟩ := bk4 HXw.out
 refine (i_markCone HG.out (gs := gl) (lo := w.heap.size + 1) hgl1 HNe.out v hv HN3.out (fun b hb => by have := HSg.out b hb; omega) (fun b hb => by have := HSg.out b hb; omega) (own_mono HO2.out (by omega)) closed_falses).mono ?_
 rintro e w3 ⟨s3, rfl, ho3, hm3, honly3⟩
 have HB3 := Lib.hid (HB2.out.trans (honly3.below (B := w.heap.size + 1) (by omega) (fun b hb => by omega)))
 have Ho3 := Lib.hid ho3
 have Hm3 := Lib.hid hm3
 have hl3 : s3.length = N := by have h1 := hm3.1; rw [List.length_replicate] at h1; exact h1
 have z3 := HB3.out.size
 clear ho3 hm3 honly3 y0 y1 y2 y3
 go_wp2_with fail
 refine (i_marked (by omega) hl3 (Reads.of_own Ho3.out) (Nat.le_refl _)).mono ?_
 rintro e w4 ⟨A4, c4, rfl, ho4, hb4⟩
 have Ho4 := Lib.hid ho4
 have HB4 := Lib.hid (HB0.out.trans ((HB3.out.mono (by omega)).trans (hb4.mono (by omega))))
 have hml := markedL_len s3 N
 have Hl3 := Lib.hid hl3
 clear ho4 hb4 hl3
 obtain ⟨L, hL⟩ : ∃ L, L = markedL s3 N := ⟨_, rfl⟩
 rw [← hL] at Ho4 hml ⊢
 have HL := Lib.hid hL
 clear hL
 go_wp2_with fail
 go_ret
 refine ⟨L, ⟨A4, c4, rfl, own_mono Ho4.out (by omega), HB4.out⟩, by omega, fun x => ?_⟩
 rw [HL.out, show N = s3.length from Hl3.out.symm, markedL_mem]
 constructor
 ·rintro ⟨j, rfl, hj⟩
  have hj2 := (List.getElem?_eq_some_iff.1 hj).1
  refine ⟨j, rfl, hj2, ?_⟩
  have h1 := (Hm3.out.2 j (by rw [List.length_replicate, ← Hl3.out]; exact hj2)).1 hj
  rcases h1 with h1 | h1
  ·rw [List.getElem?_replicate] at h1; split at h1 <;> simp at h1
  ·exact h1
 ·rintro ⟨j, rfl, hj, hr⟩
  exact ⟨j, rfl, (Hm3.out.2 j (by rw [List.length_replicate, ← Hm3.out.1.trans List.length_replicate]; exact hj)).2 (.inr hr)⟩
set_option maxRecDepth 100000 in
set_option maxHeartbeats 4000000 in
theorem i_reached {inp : Int} {F : Nat} {ss : List Seq3} {ands : List (Int × Int)} {outs : List Int} (G : NetG inp F ss ands outs) {w : World} {S : Nat → Prop} {As Aa Ao : Option Addr} {ns cs na ca no co : Nat} (h : NetR w S As ns cs ss Aa na ca ands Ao no co outs) (hS : ∀ b, S b → b < w.heap.size) :
  Calls Try.prog 104 #[.agg #[.int .i64 inp, .slice As ns cs, .slice Aa na ca, .slice Ao no co]] w fun e w' => ∃ (s : List Bool) (A : Option Addr) (c : Nat), e = .returned (.slice A s.length c) ∧ w'.ownsRow w.heap.size 4 1 (.slice A s.length c) s.length (bols s) ∧ Below w.heap.size w w' ∧ s.length = F + ands.length ∧ RootsTo F ands (rootsL outs ss) s := by
 obtain ⟨ib, hib, hbz0, hbz1, hbz2⟩ := info_parts Try.infoBoolD
 have HG := Lib.hid G
 obtain ⟨l1, l2, l3, m1, m2, m3⟩ := h.lens
 have hF := G.hF
 have hi0 := G.h0
 have hi20 := G.h20
 have hns := G.hns
 have hna := G.hna
 rw [l1] at hF hns
 rw [l2] at hna
 have Hl1 := Lib.hid l1
 have Hl2 := Lib.hid l2
 have Hl3 := Lib.hid l3
 have Hok := Lib.hid G.hok
 have hS1 : ∀ b, S b → b < w.heap.size + 1 := fun b hb => by have := hS b hb; omega
 obtain ⟨U, hU⟩ : ∃ U, U = w.alloc (.cells #[.int .i64 inp, .slice As ns cs, .slice Aa na ca, .slice Ao no co] 78) := ⟨_, rfl⟩
 have HU := Lib.hid hU
 have HX := Lib.hid (show Blk U w.heap.size 78 #[.int .i64 inp, .slice As ns cs, .slice Aa na ca, .slice Ao no co] by rw [hU]; exact Blk.new _ _ _)
 have HB0 := Lib.hid (show Below w.heap.size w U by rw [hU]; exact (Below.refl _ _).alloc (Nat.le_refl _) _)
 have hzU : U.heap.size = w.heap.size + 1 := by rw [hU]; simp
 have HN := Lib.hid (h.under hS HB0.out)
 have HA := Lib.hid (Rep.to_reads (B := w.heap.size + 1) eAnd_len (by decide) HN.out.2.1 hS1)
 obtain ⟨N, hN⟩ : ∃ N, N = F + na := ⟨_, rfl⟩
 have hN400 : N ≤ 400 := by omega
 have HN2 := Lib.hid hN
 have HF := Lib.hid hF
 have HZU := Lib.hid hzU
 have HNI := Lib.hid (show 1 + inp + (ns : Int) + (na : Int) = (N : Int) by omega)
 have HFI := Lib.hid (show 1 + inp + (ns : Int) = (F : Int) by omega)
 have hFN : F + na ≤ N := by omega
 have hF1 : 1 ≤ F := by omega
 have hzu : w.heap.size + 1 ≤ U.heap.size := by omega
 have hzu2 : U.heap.size ≤ w.heap.size + 1 := by omega
 clear l1 l2 l3 m1 m2 m3 hU h hN hF hzU
 have HSg := Lib.hid hS
 have HNe := Lib.hid (show N = F + ands.length by rw [Hl2.out]; exact HN2.out)
 go_enter Try.func104, Try.ntmps104
 obtain ⟨y0, y1, y2, y3⟩ := bk4 HX.out
 go_wp2_with fail
 rw [← HU.out]
 go_wp2_with fail
 refine (i_nodeCount inp hi0 hi20 As Aa Ao ns cs na ca no co hns hna _).mono ?_
 rintro e w1 ⟨rfl, hb1⟩
 rw [HNI.out]
 have z1 := hb1.size
 have Hb1 := Lib.hid hb1
 have HX1 := Lib.hid (HX.out.below hb1 (by omega))
 clear hb1 y0 y1 y2 y3
 obtain ⟨y0, y1, y2, y3⟩ := bk4 HX1.out
 have hmk := run_make_rowN (P := Try.prog) 81 4 ib (.bool false) Try.underlying81 hib hbz0 .i64 .i64 N N (Nat.le_refl _) (by rw [hbz2]; omega) (by omega) w1
 rw [hbz1] at hmk
 have hcs : (Value.bool false).cells = #[.bool false] := rfl
 rw [hcs, Nat.mul_one] at hmk
 clear hcs
 obtain ⟨x0, x1, x2, x3⟩ := bk4 (HX1.out.alloc (.cells (madeCells #[.bool false] N) 4))
 go_wp2_with fail
 clear hmk x0 x1 x2 x3
 obtain ⟨W2, hW2⟩ : ∃ W2, W2 = w1.alloc (.cells (madeCells #[.bool false] N) 4) := ⟨_, rfl⟩
 have HO2 := Lib.hid (show W2.ownsRow w1.heap.size 4 1 (.slice (some ⟨w1.heap.size, 0, none⟩) N N) N (bols (List.replicate N false)) by rw [hW2]; exact own_falses (by unfold maxLen; omega))
 have HB2 := Lib.hid (show Below (w.heap.size + 1) U W2 by rw [hW2]; exact (Hb1.out.mono (by omega)).alloc (by omega) _)
 obtain ⟨gl, hgl⟩ : ∃ g, g = w1.heap.size := ⟨_, rfl⟩
 have hgl1 : w.heap.size + 1 ≤ gl := by omega
 have hgl2 : gl < W2.heap.size := by rw [hgl, hW2]; simp
 rw [← hW2, ← hgl]
 rw [← hgl] at HO2
 clear hW2 hgl
 have HN3 := Lib.hid (HN.out.under hS1 HB2.out)
 have HXw := Lib.hid (HX.out.below HB2.out (by omega))
 clear y0 y1 y2 y3
 obtain ⟨y0, y1, y2, y3⟩ := bk4 HXw.out
 refine (i_roots inp HG.out.hB HN3.out (fun b hb => by have := HSg.out b hb; omega)).mono ?_
 rintro e w3 ⟨A3, c3, rfl, ho3, hb3⟩
 have Hlen3 := HG.out.hrl
 obtain ⟨R, hR⟩ : ∃ R, R = rootsL outs ss := ⟨_, rfl⟩
 rw [← hR] at ho3 Hlen3 ⊢
 have HR := Lib.hid hR
 obtain ⟨nr, hnr⟩ : ∃ n, n = R.length := ⟨_, rfl⟩
 rw [← hnr] at ho3 Hlen3 ⊢
 have Hnr := Lib.hid hnr
 have Hrr := Lib.hid (Reads.of_own ho3)
 have hbr : ∀ ad, A3 = some ad → W2.heap.size ≤ ad.block := fun ad h => by
  cases A3 with
  | none => cases h
  | some x =>
   injection h with h
   subst h
   obtain ⟨_, _, hv, _, _, h6⟩ := own_form ho3
   injection hv with hA hN hC
   by_cases h0 : 0 < nr
   ·obtain ⟨q, hq, hq1, _⟩ := h6 h0
    rw [hq] at hA
    injection hA with hA
    subst hA
    exact hq1
   ·rcases ho3.2 with ⟨h7, _⟩ | ⟨q, cap, cur, h7, h8, _⟩
    ·injection h7 with h7; cases h7
    ·injection h7 with h7; injection h7 with h7; subst h7; exact h8
 have Hbr := Lib.hid hbr
 have Hs3 := Lib.hid (own_below HO2.out hb3 (Nat.le_refl _))
 have HX3 := Lib.hid (HXw.out.below hb3 (by omega))
 have HB3 := Lib.hid (HB2.out.trans (hb3.mono (by omega)))
 have z3 := hb3.size
 clear ho3 hb3 hR hnr hbr y0 y1 y2 y3
 have HNr := Lib.hid (HN.out.under hS1 HB3.out)
 go_wp2_with fail
 go_loopw [5, 12] (fun _ iv wr => ∃ (k : Nat) (s : List Bool), k ≤ nr ∧ iv = .int .i64 k ∧ wr.ownsRow (w.heap.size + 1) 4 1 (.slice (some ⟨gl, 0, none⟩) N N) N (bols s) ∧ s.length = N ∧ RootsTo F ands (R.take k) s ∧ Only (fun b => b = gl) w3 wr) (fun _ iv _ => nr - (intOf iv).toNat)
 case atStart => exact ⟨0, List.replicate N false, Nat.zero_le _, rfl, own_mono Hs3.out (by omega), List.length_replicate, RootsTo.nil N, Only.refl _ _⟩
 case round =>
  obtain ⟨k, s, hk, rfl, hown, hls, hrt, ho⟩ := hrel
  have Hown := Lib.hid hown
  have Hls := Lib.hid hls
  have Hrt := Lib.hid hrt
  have Ho := Lib.hid ho
  have zr := ho.size
  have HXr := Lib.hid (ho.blk HX3.out (by show w.heap.size ≠ gl; omega))
  have HNk := Lib.hid (HNr.out.only (fun b hb => by have := HSg.out b hb; omega) ho (fun b hb => by have := HSg.out b hb; omega))
  clear hown hls hrt ho
  obtain ⟨y0, y1, y2, y3⟩ := bk4 HXr.out
  by_cases hlt : k < nr
  ·obtain ⟨ad, r, rfl, hab, hx, hc⟩ := Hrr.out.int_at' hlt
   have hbk := Hbr.out ad rfl
   have d0 := (Ho.out.cell (p := ad.add k) (by rw [block_of_add]; omega) (by rw [block_of_add]; omega)).trans hc
   have hrr := HG.out.hro r (by rw [← HR.out]; exact List.mem_of_getElem? hx)
   have Hx := Lib.hid hx
   have hcr := hf_cast hrr.1
   have hrN : hf r < N := by have := HNe.out; omega
   have HRn := Lib.hid hcr
   have g1 : (0 : Int) ≤ (k : Int) := by omega
   have g2 : (k : Int) < (nr : Int) := by omega
   have HCl := Lib.hid ((Hrt.out.closed HG.out.hok).less (k' := hf r + 1) (by rw [Hls.out]; omega))
   have hr0 := hrr.1
   have hr1 : r ≤ 10000 := by have h1 := HG.out.hna; have h2 := hrr.2; have h3 := hcr; omega
   clear hc hx hrr hcr
   go_wp2_with fail
   rw [HRn.out]
   refine (i_markCone HG.out (gs := gl) (lo := w.heap.size + 1) hgl1 HNe.out (hf r) hrN HNk.out (fun b hb => by have := HSg.out b hb; omega) (fun b hb => by have := HSg.out b hb; omega) Hown.out HCl.out).mono ?_
   rintro e w4 ⟨s4, rfl, ho4, hm4, honly4⟩
   have Ho4 := Lib.hid ho4
   have Hm4 := Lib.hid (show RootsTo F ands (R.take (k + 1)) s4 from Hrt.out.step Hx.out hm4)
   have Hl4 := Lib.hid (hm4.1.trans Hls.out)
   have HO4 := Lib.hid (Ho.out.trans honly4)
   clear ho4 hm4 honly4 y0 y1 y2 y3
   go_wp2_with fail
   go_roundw
   case rel => exact ⟨k + 1, s4, by omega, by go_num, Ho4.out, Hl4.out, Hm4.out, HO4.out⟩
   case measure => simp [intOf]; omega
  ·obtain rfl : k = nr := by omega
   have g2 : (k : Int) ≤ (k : Int) := Int.le_refl _
   go_wp2_with fail
   go_ret
   refine ⟨s, some ⟨gl, 0, none⟩, N, by rw [Hls.out]; rfl, by rw [Hls.out]; exact own_mono Hown.out (by omega), HB0.out.trans ((HB3.out.trans (Ho.out.below (by omega) (fun b hb => by omega))).mono (by omega)), by rw [Hls.out]; exact HNe.out, ?_⟩
   have h1 := Hrt.out
   rw [List.take_of_length_le (by rw [← Hnr.out]; exact Nat.le_refl _), HR.out] at h1
   exact h1
end Go.Proofs.Ytlkjdhjeecogjaa

/- Contracts: a module made the top module: the program's function. -/
import Derived.Test.YtlkjdhjeecogjaaIns
import Derived.Outline
namespace Go.Proofs.Ytlkjdhjeecogjaa
open Go.RowKit

set_option maxRecDepth 100000 in
set_option maxHeartbeats 16000000 in
theorem i_InstanceOf {w : World} {S : Nat → Prop} {v : Value} {d : TDesign} (kk : Int) (hz : sDesign d ≤ 1048576) (h : QDesign w S v d) (hS : ∀ b, S b → b < w.heap.size) :
  Calls Try.prog 26 #[v, .int .i64 kk] w fun e w' => ∃ v', e = .returned (.tuple #[v', .bool (insO d kk)]) ∧ QDesign w' (New w w') v' (insD d kk) ∧ Below w.heap.size w w' := by
 obtain ⟨i0, hi, hz0, hz1, hz2⟩ := info_parts Try.infModuleC
 obtain ⟨A, c, rfl, hr, hm, hcap⟩ := dsnq_open h
 have h := h.r
 obtain ⟨n, hl⟩ : ∃ n, d.length = n := ⟨_, rfl⟩
 rw [hl] at hr hm h hcap ⊢
 unfold maxLen at hm
 have Hl := Lib.hid hl
 have Hr := Lib.hid hr
 have H := Lib.hid h
 obtain ⟨U0, hU0⟩ : ∃ U0, U0 = (w.alloc (.cells #[.slice A n c] 58)).alloc (.cells #[.slice none 0 0] 58) := ⟨_, rfl⟩
 have hu0 : w.heap.size + 1 < U0.heap.size := by rw [hU0]; simp
 have HB0 := Lib.hid (show Below w.heap.size w U0 by rw [hU0]; exact ((Below.refl _ _).alloc (Nat.le_refl _) _).alloc (by simp) _)
 have HXD := Lib.hid (show Blk U0 w.heap.size 58 #[.slice A n c] by rw [hU0]; exact (Blk.new _ _ _).alloc _)
 have HXR := Lib.hid (show Blk U0 (w.heap.size + 1) 58 #[.slice none 0 0] by rw [hU0]; exact blk_new_at (by simp))
 have HU0 := Lib.hid hU0
 clear hl hr h hU0
 go_enter Try.func26, Try.ntmps26
 go_wp2_with fail
 rw [← HU0.out]
 refine (i_DesignOk (by omega) (RDesign.under H.out hS HB0.out) (fun b hb => by have := hS b hb; omega)).mono ?_
 rintro e w1 ⟨rfl, hb1⟩
 have HB1 := Lib.hid hb1
 have HD1 := Lib.hid (HXD.out.below hb1 HXD.out.lt)
 have HR1 := Lib.hid (HXR.out.below hb1 HXR.out.lt)
 have HBw := Lib.hid (HB0.out.trans (hb1.mono (by omega)))
 have zz1 := hb1.size
 clear hb1
 cases hd : designB d with
 | false =>
  have HO := Lib.hid (show insO d kk = false by unfold insO; rw [hd]; rfl)
  clear hd
  have r0 := blkS1 HR1.out
  have f0 := HR1.out.frozen 0
  go_wp2_with fail
  obtain ⟨wf, hwf⟩ : ∃ wf, wf = (w1.setCell ⟨w.heap.size + 1, 0, none⟩ (.slice none 0 0)) := ⟨_, rfl⟩
  have hRf : Blk wf (w.heap.size + 1) 58 #[.slice none 0 0] := by rw [hwf]; exact HR1.out.set_ 0 _
  have hBf : Below w.heap.size w wf := by rw [hwf]; exact HBw.out.setCell (Nat.le_succ _) _
  have s0 := blkS1 hRf
  rw [← hwf]
  refine bodyPost_ret (v := .tuple #[.agg #[.slice none 0 0], .bool false]) (by simp [results, Try.results26, go_sem, s0]) rfl ⟨_, ret_tup2 HO.out, ?_, hBf⟩
  rw [insD_no HO.out]
  exact ⟨_, fun _ _ => False, rfl, fun _ _ h => h.elim, fun _ _ _ h => h.elim, (RowsOf.nil wf (fun _ => False) 4 []).sep (S' := fun _ => False) (e := 41) rfl (Nat.zero_le _) (fun _ h => by simp at h) (World.ownsRow_nil wf 0 41 4) (fun g hg => by simp [Value.ownBlock] at hg) (fun _ h => h.elim)⟩
 | true =>
 have HDk := Lib.hid hd
 have hn4 : n ≤ 4 := by have h1 := dsn_le4 hd; rw [Hl.out] at h1; exact h1
 have hw : wrap64 ((n : Int) - 1) = (n : Int) - 1 := IntWalk.wrap64_in _ (by omega)
 have y0 := blkS1 HD1.out
 go_wp2_with fail
 refine (i_inRange kk 0 ((n : Int) - 1) w1).mono ?_
 rintro e w2 ⟨rfl, rfl⟩
 clear y0
 cases hr : inR kk 0 ((n : Int) - 1) with
 | false =>
  have HO := Lib.hid (show insO d kk = false by unfold insO; rw [HDk.out, Hl.out, hr]; rfl)
  clear hd hr hw
  have r0 := blkS1 HR1.out
  have f0 := HR1.out.frozen 0
  go_wp2_with fail
  obtain ⟨wf, hwf⟩ : ∃ wf, wf = (w1.setCell ⟨w.heap.size + 1, 0, none⟩ (.slice none 0 0)) := ⟨_, rfl⟩
  have hRf : Blk wf (w.heap.size + 1) 58 #[.slice none 0 0] := by rw [hwf]; exact HR1.out.set_ 0 _
  have hBf : Below w.heap.size w wf := by rw [hwf]; exact HBw.out.setCell (Nat.le_succ _) _
  have s0 := blkS1 hRf
  rw [← hwf]
  refine bodyPost_ret (v := .tuple #[.agg #[.slice none 0 0], .bool false]) (by simp [results, Try.results26, go_sem, s0]) rfl ⟨_, ret_tup2 HO.out, ?_, hBf⟩
  rw [insD_no HO.out]
  exact ⟨_, fun _ _ => False, rfl, fun _ _ h => h.elim, fun _ _ _ h => h.elim, (RowsOf.nil wf (fun _ => False) 4 []).sep (S' := fun _ => False) (e := 41) rfl (Nat.zero_le _) (fun _ h => by simp at h) (World.ownsRow_nil wf 0 41 4) (fun g hg => by simp [Value.ownBlock] at hg) (fun _ h => h.elim)⟩
 | true =>
 have HO := Lib.hid (show insO d kk = true by unfold insO; rw [HDk.out, Hl.out, hr]; rfl)
 obtain ⟨hk0, hk1⟩ := inR_iff.1 hr
 clear hw hr
 obtain ⟨kn, hkn⟩ : ∃ kn : Nat, kk = (kn : Int) := ⟨kk.toNat, by omega⟩
 subst hkn
 have hkn : kn < n := by omega
 have hw3 : (0 : Int) ≤ (kn : Int) + 1 := by omega
 have hw4 : (kn : Int) + 1 ≤ (c : Int) := by omega
 obtain ⟨U2, hU2⟩ : ∃ U2, U2 = w1.alloc (.cells #[.slice none 0 0] 58) := ⟨_, rfl⟩
 obtain ⟨gd, hgd⟩ : ∃ gd, gd = w1.heap.size := ⟨_, rfl⟩
 have HU2 := Lib.hid hU2
 have HG2 := Lib.hid hgd
 have HW2 := Lib.hid (show Below w1.heap.size w1 U2 by rw [hU2]; exact (Below.refl _ _).alloc (Nat.le_refl _) _)
 have HK2 := Lib.hid (show Blk U2 gd 58 #[.slice none 0 0] by rw [hU2, hgd]; exact Blk.new _ _ _)
 have HB2 := Lib.hid (HB1.out.trans (HW2.out.mono (by omega)))
 have hgd1 : U0.heap.size ≤ gd := by omega
 have hgd2 : gd < U2.heap.size := HK2.out.lt
 have y0 := blkS1 (HD1.out.alloc (.cells #[.slice none 0 0] 58))
 have hw2 : wrap64 ((kn : Int) + 1) = (kn : Int) + 1 := IntWalk.wrap64_in _ (by omega)
 clear hd hU2 hgd
 go_wp2_with fail
 clear hw2
 rw [← HU2.out, ← HG2.out]
 clear y0
 go_loopw [8, 28] (fun _ iv wr => ∃ (k : Nat) (ov : Value) (xs : List Value), k ≤ kn + 1 ∧ iv = .int .i64 k ∧ Blk wr gd 58 #[ov] ∧ Grow wr U2.heap.size 41 4 ov ((d.take k).map rModule) xs ∧ Only (fun b => b = gd) U2 wr) (fun _ iv _ => kn + 1 - (intOf iv).toNat)
 case atStart => exact ⟨0, _, [], Nat.zero_le _, rfl, HK2.out, Grow.nil _ _ _ _, Only.refl _ _⟩
 case round =>
  obtain ⟨k, ov, xs, hk, rfl, hbk, hgr, ho⟩ := hrel
  have Ho := Lib.hid ho
  have hsz := ho.size
  have Hbr := Lib.hid (HB2.out.trans (ho.below (B := U0.heap.size) (by omega) (fun b hb => by omega)))
  have Hbw := Lib.hid (HB0.out.trans (Hbr.out.mono (by omega)))
  have HXr := Lib.hid (HXD.out.below Hbr.out HXD.out.lt)
  have HKr := Lib.hid hbk
  have gx : (0 : Int) ≤ (k : Int) := by omega
  have hklt := hbk.lt
  obtain ⟨L, hL⟩ : ∃ L, L = (d.take k).map rModule := ⟨_, rfl⟩
  have hLl : L.length = k := by rw [hL, List.length_map, List.length_take]; have := Hl.out; omega
  rw [← hL] at hgr
  have HL := Lib.hid hL
  have HG := Lib.hid hgr
  have hown := hgr.own
  rw [hLl] at hown
  obtain ⟨Ao, co, rfl, _, _, _⟩ := own_form hown
  have Hown := Lib.hid hown
  have HgA := Lib.hid (show ∀ g, (Value.slice Ao k co).ownBlock = some g → U2.heap.size ≤ g ∧ g < wr.heap.size from fun g hg => hown.lt g hg)
  clear ho hbk hgr hL hown
  by_cases hlt : k < kn + 1
  ·obtain ⟨ad, x, E0, k0, E1, k1, E2, k2, E3, k3, rfl, hab, hx, hro, -, t0, t1, t2, t3⟩ := mod_row (Hr.out.under hS Hbw.out) (show k < n by omega)
   have g2 : (k : Int) < (kn : Int) + 1 := by omega
   have HTS := Lib.hid (show (d.take (k + 1)).map rModule = L ++ [rModule x] by rw [List.take_add_one, hx, List.map_append, ← HL.out]; rfl)
   have hms := mod_sz hz hx
   have Hro := Lib.hid hro
   obtain ⟨W1, hW1⟩ : ∃ W1, W1 = wr.alloc (.cells #[.slice E0 x.1.length k0, .slice E1 x.2.1.length k1, .slice E2 x.2.2.1.length k2, .slice E3 x.2.2.2.length k3] 41) := ⟨_, rfl⟩
   have HW1 := Lib.hid (show Below wr.heap.size wr W1 by rw [hW1]; exact (Below.refl _ _).alloc (Nat.le_refl _) _)
   have HK1 := Lib.hid (HKr.out.below HW1.out hklt)
   have HX1 := Lib.hid (show Blk W1 wr.heap.size 41 #[.slice E0 x.1.length k0, .slice E1 x.2.1.length k1, .slice E2 x.2.2.1.length k2, .slice E3 x.2.2.2.length k3] by rw [hW1]; exact Blk.new _ _ _)
   have zW1 : wr.heap.size < W1.heap.size := HX1.out.lt
   clear hx hro
   go_wp2_with fail
   rw [← hW1]
   clear hW1 t0 t1 t2 t3
   refine wp_region_lexC (by kernel_rfl) (by kernel_rfl) (fun x => Only (fun b => (Value.slice Ao k co).ownBlock = some b) W1 x) ((Only.refl _ _).drew) (fun lexNE => ?_)
   have db0 := blkS1 HK1.out
   have nb : ¬ (Value.slice Ao k co).ownBlock = some gd := fun h1 => by have := HgA.out _ h1; omega
   have cb0 := ocel (S := fun b => (Value.slice Ao k co).ownBlock = some b) db0 HK1.out.lt nb
   obtain ⟨dx0, dx1, dx2, dx3⟩ := blkS4 HX1.out
   have nx : ¬ (Value.slice Ao k co).ownBlock = some wr.heap.size := fun h1 => by have := HgA.out _ h1; omega
   have cx0 := ocel (S := fun b => (Value.slice Ao k co).ownBlock = some b) dx0 HX1.out.lt nx
   have cx1 := ocel (S := fun b => (Value.slice Ao k co).ownBlock = some b) dx1 HX1.out.lt nx
   have cx2 := ocel (S := fun b => (Value.slice Ao k co).ownBlock = some b) dx2 HX1.out.lt nx
   have cx3 := ocel (S := fun b => (Value.slice Ao k co).ownBlock = some b) dx3 HX1.out.lt nx
   clear dx0 dx1 dx2 dx3 nx db0 nb
   (repeat (first | (refine lex_r fun K hK => ?_; go_big_quiet_op; refine hK _ ?_; clear hK K) | (refine lex_k fun K hK => ?_; go_simp; refine hK _ ?_; clear hK K)))
   (refine lex_e fun K hK => ?_; go_big_op)
   refine (i_copyModule hms (RModule.under Hro.out (B := wr.heap.size) (fun b hb => by have := hS b hb; omega) HW1.out.drew) (fun b hb => by have := hS b hb; show b < W1.heap.size; omega)).mono ?_
   rintro e D2 ⟨vq, rfl, hq2, hbq⟩
   have HD2 := Lib.hid ((Below.refl W1.heap.size W1).drew.trans hbq)
   clear hbq
   obtain ⟨v0, v1, v2, v3, P, rfl, hP, hd, sp0, sp1, sp2, sp3⟩ := hq2
   obtain ⟨B0, b0, e0, rfl⟩ := slv_of sp0.rep
   obtain ⟨B1, b1, e1, rfl⟩ := slv_of sp1.rep
   obtain ⟨B2, b2, e2, rfl⟩ := slv_of sp2.rep
   obtain ⟨B3, b3, e3, rfl⟩ := slv_of sp3.rep
   have HP := Lib.hid hP
   have Hd := Lib.hid hd
   have Hs0 := Lib.hid sp0
   have Hs1 := Lib.hid sp1
   have Hs2 := Lib.hid sp2
   have Hs3 := Lib.hid sp3
   have zD2 := HD2.out.size
   refine hK _ _ (Cls.mk' (Only.of_below HD2.out _)) ?_
   clear hK K hP hd sp0 sp1 sp2 sp3
   (repeat (first | (refine lex_r fun K hK => ?_; go_big_quiet_op; refine hK _ ?_; clear hK K) | (refine lex_k fun K hK => ?_; go_simp; refine hK _ ?_; clear hK K)))
   (refine lex_e fun K hK => ?_; go_big_op)
   refine hK _ _ (Cls.mk' ((Only.of_below HD2.out _).alloc _)) ?_
   clear hK K
   have HWB := Lib.hid (HW1.out.trans (HD2.out.mono (by omega)))
   have HO2 := Lib.hid (own_below Hown.out HWB.out (Nat.le_refl _))
   refine lex_e fun K hK => ?_
   refine wp_append_any _ _ _ 56 (by rfl) (U2.heap.size) 41 i0 (.agg #[.slice none 0 0, .slice none 0 0, .slice none 0 0, .slice none 0 0]) 4 96 Try.underlying56 hi hz0 hz1 hz2 rfl (by decide) _ _ _ (by rfl) (HO2.out.alloc _) _ _ 1 1 _ (by rfl) (reads_new _ _ 1 4 rfl) (by intro u hu; simp at hu; first | (subst hu; rfl) | (rcases hu with rfl | rfl <;> rfl) | (rcases hu with rfl | rfl | rfl <;> rfl) | (rcases hu with rfl | rfl | rfl | rfl <;> rfl)) (by unfold maxLen; omega) (by omega) (by (try simp) <;> (try omega)) ?_
   intro v8 w8 hown8 hgrow8 hblk8
   go_simp
   refine hK _ _ (Cls.mk' (Only.grown2 ((Only.of_below HD2.out (fun b => (Value.slice Ao k co).ownBlock = some b)).alloc _) hgrow8 (fun g hg => .inl hg))) ?_
   clear hK K
   obtain ⟨A8, c8, rfl, _, _, _⟩ := own_form hown8
   have z8 := hgrow8.size
   try simp at z8
   have hg8 : ∀ b, b < wr.heap.size → (Value.slice Ao k co).ownBlock ≠ some b → w8.heap[b]? = wr.heap[b]? := fun b h1 h2 => (hgrow8.block b (by simp; omega) (fun e => h2 e.symm)).trans ((Below.heap_alloc _ _ b (by omega)).trans (HWB.out.block b h1))
   have HK8 := Lib.hid (show Blk w8 gd 58 #[.slice Ao k co] from (hg8 gd hklt (fun h1 => by have := HgA.out _ h1; omega)).trans HKr.out)
   have HG8 := Lib.hid (show Grow w8 U2.heap.size 41 4 (.slice A8 (k + 1) c8) (L ++ [rModule x]) (xs ++ [.slice B0 b0 e0, .slice B1 b1 e1, .slice B2 b2 e2, .slice B3 b3 e3]) from
    Grow.push (Q := P) HG.out (HWB.out.alloc (by omega) _) (Nat.le_refl _) (by omega) (by rw [hLl]; exact hown8) hgrow8 hblk8 rfl (fun j b hb => by have h2 : W1.heap.size ≤ b := (HP.out j b hb).1; have h3 : b < D2.heap.size := (HP.out j b hb).2; simp; omega) (fun j j' b h1 h2 => Hd.out j j' b h1 h2) (row_module (Hs0.out.alloc (fun b hb => (HP.out _ b hb).2) _) (Hs1.out.alloc (fun b hb => (HP.out _ b hb).2) _) (Hs2.out.alloc (fun b hb => (HP.out _ b hb).2) _) (Hs3.out.alloc (fun b hb => (HP.out _ b hb).2) _)))
   have HO8 := Lib.hid (show Only (fun b => b = gd) U2 w8 from Only.grown2 ((Ho.out.trans (Only.of_below HWB.out _)).alloc _) hgrow8 (fun g hg => .inr (HgA.out g hg).1))
   clear hown8 hgrow8 hblk8 hg8
   (repeat (first | (refine lex_r fun K hK => ?_; go_big_quiet_op; refine hK _ ?_; clear hK K) | (refine lex_k fun K hK => ?_; go_simp; refine hK _ ?_; clear hK K)))
   have q0 := blkS1 HK8.out
   have f1 := HK8.out.frozen 0
   (refine lex_l fun K hK => ?_; go_big_op)
   (refine hK _ _ ?_; clear hK K)
   clear lexNE q0 f1
   obtain ⟨wf, hwf⟩ : ∃ wf, wf = (w8.setCell ⟨gd, 0, none⟩ (.slice A8 (k + 1) c8)) := ⟨_, rfl⟩
   have hk2 : ∀ b, b ≠ gd → wf.heap[b]? = w8.heap[b]? := fun b hb => by rw [hwf]; exact Below.heap_setCell _ ⟨gd, 0, none⟩ _ b hb
   have hsf : wf.heap.size = w8.heap.size := by rw [hwf]; simp [World.setCell]
   have HKf := Lib.hid (show Blk wf gd 58 #[(.slice A8 (k + 1) c8)] by rw [hwf]; exact HK8.out.set_ 0 _)
   have HOf := Lib.hid (show Only (fun b => b = gd) U2 wf by rw [hwf]; exact HO8.out.setCell (.inl rfl) _)
   have HGf := Lib.hid (HG8.out.keep (w' := wf) (fun b h1 _ => hk2 b (by omega)) (by omega))
   rw [← hwf]
   clear hwf hk2 hsf
   clear cb0 cx0 cx1 cx2 cx3
   go_wp2_with fail
   go_roundw
   case rel => exact ⟨k + 1, (.slice A8 (k + 1) c8), _, by omega, by go_num, HKf.out, by rw [HTS.out]; exact HGf.out, HOf.out⟩
   case measure => simp [intOf]; omega
  ·have Hkk := Lib.hid (show k = kn + 1 by omega)
   have hge : (kn : Int) + 1 ≤ (k : Int) := by have := Hkk.out; omega
   have hRr := Lib.hid (HXR.out.below Hbr.out HXR.out.lt)
   have z0 := blkS1 HKr.out
   have r0 := blkS1 hRr.out
   have f0 := hRr.out.frozen 0
   have HV := Lib.hid (show Sep wr (fun b => U2.heap.size ≤ b ∧ b < wr.heap.size) (.slice Ao k co) (fModuleS (insD d (kn : Int))) by
    have h1 := HG.out.sep hLl (by unfold maxLen; omega)
    rw [HL.out] at h1
    rw [show insD d (kn : Int) = d.take k by rw [insD_yes HO.out]; congr 1; have := Hkk.out; omega]
    exact h1)
   go_wp2_with fail
   obtain ⟨wf, hwf⟩ : ∃ wf, wf = (wr.setCell ⟨w.heap.size + 1, 0, none⟩ (.slice Ao k co)) := ⟨_, rfl⟩
   have hRf : Blk wf (w.heap.size + 1) 58 #[.slice Ao k co] := by rw [hwf]; exact hRr.out.set_ 0 _
   have hBf : Below w.heap.size w wf := by rw [hwf]; exact Hbw.out.setCell (Nat.le_succ _) _
   have hk2 : ∀ b, b ≠ w.heap.size + 1 → wf.heap[b]? = wr.heap[b]? := fun b hb => by rw [hwf]; exact Below.heap_setCell _ ⟨w.heap.size + 1, 0, none⟩ _ b hb
   have hsf : wf.heap.size = wr.heap.size := by rw [hwf]; simp [World.setCell]
   have s0 := blkS1 hRf
   rw [← hwf]
   refine bodyPost_ret (v := .tuple #[.agg #[.slice Ao k co], .bool true]) (by simp [results, Try.results26, go_sem, s0]) rfl ⟨_, ret_tup2 HO.out, ⟨_, fun j b => j = 0 ∧ U2.heap.size ≤ b ∧ b < wr.heap.size, rfl, fun j b hb => ⟨by omega, by omega⟩, fun i j b h1 h2 => by omega, ?_⟩, hBf⟩
   exact (HV.out.keep (w' := wf) (fun b hb => hk2 b (by omega))).mono (fun b hb => ⟨rfl, hb⟩)
end Go.Proofs.Ytlkjdhjeecogjaa

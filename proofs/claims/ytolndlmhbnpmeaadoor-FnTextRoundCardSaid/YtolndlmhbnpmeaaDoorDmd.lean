/- Contracts: a drawn design: the reference's l04Design and DrawDesign. -/
import Derived.Test.YtolndlmhbnpmeaaDoorDmc
import Derived.Outline
namespace Go.Proofs.YtolndlmhbnpmeaaDoor
open Go.RowKit

theorem nuL_bdG {α : Type} {nu : α → Nat} {N : Nat} : ∀ {l : List α}, (∀ x ∈ l, nu x ≤ N) → nuL nu l ≤ l.length * N
 | [], _ => by simp [nuL]
 | x :: l, h => by
  have h1 := nuL_bdG (nu := nu) (l := l) (fun y hy => h y (by simp [hy]))
  have h2 := h x (by simp)
  unfold nuL at h1 ⊢
  rw [List.map_cons, List.sum_cons, List.length_cons, Nat.add_mul]
  omega
theorem GMod.sz {d : TDesign} {m : TModule} (h : GMod d m) (hG : GDs d) : sModule m ≤ 600 := by
 have h0 := h.n0
 have h1 := h.n1
 have h2 := h.n2
 have h3 := h.n3
 have a0 := nuL_zero (l := m.1) sSignal (fun _ => rfl)
 have a1 := nuL_bdG (nu := sAssign) (N := 15) (l := m.2.1) (fun a ha => by
  have h3 := h.gd.asg a ha
  unfold asgB opsB at h3
  simp only [Bool.and_eq_true, decide_eq_true_eq] at h3
  have h4 : sAssign a = szL sOp a.2 := rfl
  rw [h4, szL_eq, nuL_zero sOp (fun _ => rfl)]
  omega)
 have a2 := nuL_bdG (nu := sInst) (N := 4) (l := m.2.2.1) (fun x hx => by
  obtain ⟨⟨k0, k1⟩, k2, _⟩ := h.gd.ins x hx
  have h4 : sInst x = szL sInt x.2.2 := rfl
  rw [h4, szL_eq, nuL_zero sInt (fun _ => rfl), k2]
  obtain ⟨q, hq⟩ := Int.eq_ofNat_of_zero_le k0
  have h5 : md d x.1 = md d ((q : Nat) : Int) := by rw [hq]
  rw [h5]
  have := hG.ports q (by omega)
  omega)
 have a3 := nuL_zero (l := m.2.2.2) sMem (fun _ => rfl)
 have e : sModule m = szL sSignal m.1 + szL sAssign m.2.1 + szL sInst m.2.2.1 + szL sMem m.2.2.2 := rfl
 rw [e, szL_eq, szL_eq, szL_eq, szL_eq]
 omega
theorem GDs.take {d : TDesign} (h : GDs d) (k : Nat) : GDs (d.take k) := by
 intro j m hj
 rw [List.getElem?_take] at hj
 split at hj
 ·rename_i hlt
  rw [List.take_take, Nat.min_eq_left (by omega)]
  exact h j m hj
 ·cases hj
theorem GDs.sz {d : TDesign} (h : GDs d) (hl : d.length ≤ 3) : sDesign d ≤ 2000 := by
 have e : sDesign d = szL sModule d := rfl
 rw [e, szL_eq]
 have := nuL_bdG (nu := sModule) (N := 600) (l := d) (fun m hm => by
  obtain ⟨k, hk⟩ := List.mem_iff_getElem?.1 hm
  exact (h k m hk).sz (h.take k))
 omega
/-- what the call leaves -/
def DdQ (B g : Nat) (w : World) (e : Ending) (w' : World) : Prop :=
 ∃ (ov : Value) (tp : Nat) (D : TDesign) (xs : List Value), e = .returned (.agg #[ov]) ∧ MdC w' w.heap.size tp ov D xs ∧ tp ≤ w'.heap.size ∧ GDs D ∧ 1 ≤ D.length ∧ D.length ≤ 3 ∧ Cur B g w' ∧ w.grownBy w' (some g)
set_option maxRecDepth 100000 in
set_option maxHeartbeats 8000000 in
theorem s_l04Design {w : World} {B g : Nat} (hcur : Cur B g w) : Calls Tryd.prog 10 #[.pointer (some ⟨g, 0, none⟩)] w (DdQ B g w) := by
 have hgw := hcur.lt
 have hgB := hcur.le
 obtain ⟨lo, hlo⟩ : ∃ lo, lo = w.heap.size := ⟨_, rfl⟩
 obtain ⟨U, hU⟩ : ∃ U, U = (w.alloc (.cells #[.slice none 0 0] 26)).alloc (.cells #[.slice none 0 0] 26) := ⟨_, rfl⟩
 have HX := Lib.hid (show Blk U lo 26 #[.slice none 0 0] by rw [hU, hlo]; exact (Blk.new _ _ _).alloc _)
 have HY := Lib.hid (show Blk U (lo + 1) 26 #[.slice none 0 0] by rw [hU, hlo]; exact blk_new_at (by simp))
 have HC := Lib.hid (show Cur B g U by rw [hU]; exact (hcur.alloc _).alloc _)
 have HG := Lib.hid (show w.grownBy U (some g) by rw [hU]; exact (World.grownBy_alloc _ _ _).trans (World.grownBy_alloc _ _ _))
 have HU := Lib.hid hU
 have Hlo := Lib.hid hlo
 have hgl : g < lo := by omega
 clear hU hcur hlo hgw
 go_enter Tryd.func10, Tryd.ntmps10
 go_upto_region 2 with fail
 rw [← HU.out, ← Hlo.out]
 go_cut [4] from 7 to 13 (fun nv wx => ∃ n : Nat, nv = .int .i64 n ∧ (1 ≤ n ∧ n ≤ 3) ∧ Cur B g wx ∧ U.grownBy wx (some g))
 case first =>
  go_wp2_with fail
  refine (s_Below 2 HC.out).mono ?_
  rintro e w1 ⟨ka, rfl, hk, hc1, hg1⟩
  obtain ⟨ha0, ha1⟩ := hk.1 (by omega)
  have HC1 := Lib.hid hc1
  have HG1 := Lib.hid hg1
  clear hk hc1 hg1
  go_wp2_with fail
  refine (s_Below 2 HC1.out).mono ?_
  rintro e w2 ⟨kb, rfl, hk, hc2, hg2⟩
  obtain ⟨hb0, hb1⟩ := hk.1 (by omega)
  have HC2 := Lib.hid hc2
  have HG2 := Lib.hid (HG1.out.trans hg2)
  have hka : ka = 0 ∨ ka = 1 := by omega
  have hkb : kb = 0 ∨ kb = 1 := by omega
  clear hk hc2 hg2 ha0 ha1 hb0 hb1
  rcases hka with rfl | rfl
  ·rcases hkb with rfl | rfl
   ·go_wp2_with fail
    go_meet
    case rel => exact ⟨1, rfl, by omega, HC2.out, HG2.out⟩
   ·go_wp2_with fail
    go_meet
    case rel => exact ⟨1, rfl, by omega, HC2.out, HG2.out⟩
  ·rcases hkb with rfl | rfl
   ·go_wp2_with fail
    go_meet
    case rel => exact ⟨2, rfl, by omega, HC2.out, HG2.out⟩
   ·go_wp2_with fail
    go_meet
    case rel => exact ⟨3, rfl, by omega, HC2.out, HG2.out⟩
 case rest =>
 obtain ⟨n, rfl, ⟨hn1, hn3⟩, hcc, hgg⟩ := hcut
 obtain ⟨wA, hwA⟩ : ∃ x, x = wc := ⟨_, rfl⟩
 subst hwA
 have HXA := Lib.hid (HX.out.grown hgg (fun e => by injection e with e; omega))
 have HYA := Lib.hid (HY.out.grown hgg (fun e => by injection e with e; omega))
 have HCA := Lib.hid hcc
 have HGA := Lib.hid (HG.out.trans hgg)
 clear hcc hgg
 go_wp2_with fail
 go_loopw [5] (fun iv wr => ∃ (k tp : Nat) (ov : Value) (D : TDesign) (xs : List Value), k ≤ n ∧ iv = .int .i64 k ∧ Blk wr lo 26 #[.slice none 0 0] ∧ Blk wr (lo + 1) 26 #[ov] ∧ MdC wr lo tp ov D xs ∧ (lo ≤ tp ∧ tp ≤ wr.heap.size) ∧ GDs D ∧ D.length = k ∧ Cur B g wr ∧ w.grownBy wr (some g)) (fun iv _ => n - (intOf iv).toNat)
 case atStart => exact ⟨0, lo, _, [], [], Nat.zero_le _, rfl, HXA.out, HYA.out, MdC.nil _ _ _, ⟨Nat.le_refl _, by have := HXA.out.lt; omega⟩, GDs.nil, rfl, HCA.out, HGA.out⟩
 case round =>
  obtain ⟨k, tp, ov, D, xs, hk, rfl, hx, hy, hmd, ⟨hl1, hl2⟩, hgd, hdl, hc, hg⟩ := hrel
  obtain ⟨wo, hwo⟩ : ∃ x, x = wr := ⟨_, rfl⟩
  subst hwo
  obtain ⟨Ao, co, hov⟩ := hmd.form
  rw [hdl] at hov
  subst hov
  have HXo := Lib.hid hx
  have HYo := Lib.hid hy
  have HMo := Lib.hid hmd
  have HDo := Lib.hid hgd
  have Hdl := Lib.hid hdl
  have HCo := Lib.hid hc
  have HGo := Lib.hid hg
  have g1 : (0 : Int) ≤ (k : Int) := by omega
  have y0 := blkS1 hy
  have zy := hy.lt
  clear hx hy hmd hgd hdl hc hg HXA HYA HCA HGA
  by_cases hlt : k < n
  ·have g2 : (k : Int) < (n : Int) := by omega
   have hown := HMo.out.1
   rw [Hdl.out] at hown
   have hne : ¬ (lo + 1 = g ∨ (Value.slice Ao k co).ownBlock = some (lo + 1)) := by
    rintro (h1 | h1)
    ·omega
    ·exact absurd ((own_of hown h1).inj HYo.out.of) (by decide)
   have cy := ocel (S := fun b => b = g ∨ (Value.slice Ao k co).ownBlock = some b) y0 zy hne
   have HRd := Lib.hid (((HMo.out.dsn (S := fun b => lo ≤ b ∧ b < wo.heap.size) (by rw [Hdl.out]; omega) (fun b h1 h2 => ⟨h1, h2⟩)).r).keep (w' := wo.drew) (fun p _ => rfl))
   have Hown := Lib.hid hown
   clear hown hne y0
   go_wp2_with fail
   refine wp_region_lexC (by kernel_rfl) (by kernel_rfl) (fun x => Only (fun b => b = g ∨ (Value.slice Ao k co).ownBlock = some b) wo x) ((Only.refl _ _).drew) (fun lexNE => ?_)
   (repeat (first | (refine lex_r fun K hK => ?_; go_big_quiet_op; refine hK _ ?_; clear hK K) | (refine lex_k fun K hK => ?_; go_simp; refine hK _ ?_; clear hK K)))
   (refine lex_e fun K hK => ?_; go_big_op)
   refine (s_l04Module (cur_drew HCo.out) HRd.out (fun b hb => ⟨by omega, hb.2⟩) HDo.out (by rw [Hdl.out]; omega)).mono ?_
   rintro e w2 ⟨v0, v1, v2, v3, m, rfl, hfl, hin, hgm, hc2, hg2⟩
   have hfl : FlS w2 wo.heap.size v0 v1 v3 m.1 m.2.1 m.2.2.2 := hfl
   have hin : InS w2 wo.heap.size v2 m.2.2.1 := hin
   obtain ⟨a0, n0, c0, rfl⟩ : ∃ a n c, v0 = .slice a n c := by
    obtain ⟨A, c, h, _⟩ := own_form hfl.s0
    exact ⟨A, _, c, h⟩
   obtain ⟨a1, n1, c1, rfl⟩ : ∃ a n c, v1 = .slice a n c := by
    obtain ⟨_, _, hr⟩ := hfl.s1
    obtain ⟨A, c, h, _⟩ := own_form hr.own
    exact ⟨A, _, c, h⟩
   obtain ⟨a2, n2, c2, rfl⟩ : ∃ a n c, v2 = .slice a n c := by
    obtain ⟨_, _, hr⟩ := hin
    obtain ⟨A, c, h, _⟩ := own_form hr.own
    exact ⟨A, _, c, h⟩
   obtain ⟨a3, n3, c3, rfl⟩ : ∃ a n c, v3 = .slice a n c := by
    obtain ⟨A, c, h, _⟩ := own_form hfl.s3
    exact ⟨A, _, c, h⟩
   have hog : Only (fun b => b = g) wo w2 := ((Only.refl (fun b => b = g) wo).drew).trans ((only_row hg2).more (fun b hb => by injection hb with hb; exact hb.symm))
   have HO2 := Lib.hid (show Only (fun b => b = g ∨ (Value.slice Ao k co).ownBlock = some b) wo w2 from hog.more (fun b hb => .inl hb))
   have zw2 : wo.heap.size ≤ w2.heap.size := hog.size
   have HM2 := Lib.hid (HMo.out.only hog (fun b t hb hl _ => by subst hb; omega) hl2)
   have HX2 := Lib.hid (hog.blk HXo.out (by omega))
   have HY2 := Lib.hid (hog.blk HYo.out (by omega))
   have HC2 := Lib.hid hc2
   have HG2 := Lib.hid (show w.grownBy w2 (some g) from (only_drew HGo.out).trans hg2)
   have Hfl := Lib.hid hfl
   have Hin := Lib.hid hin
   have Hgm := Lib.hid hgm
   refine hK _ _ (Cls.mk' HO2.out) ?_
   clear hK K hog hc2 hg2 hfl hin hgm
   (repeat (first | (refine lex_r fun K hK => ?_; go_big_quiet_op; refine hK _ ?_; clear hK K) | (refine lex_k fun K hK => ?_; go_simp; refine hK _ ?_; clear hK K)))
   (refine lex_e fun K hK => ?_; go_big_op)
   refine hK _ _ (Cls.mk' (HO2.out.alloc _)) ?_
   clear hK K
   have ho2 := HM2.out.1
   rw [Hdl.out] at ho2
   have Ho2 := Lib.hid ho2
   clear ho2
   obtain ⟨i0, hi, hz0, hz1, hz2⟩ := info_parts Tryd.infModuleC
   refine lex_e fun K hK => ?_
   refine wp_append_any _ _ _ 24 (by rfl) (lo) 50 i0 (.agg #[.slice none 0 0, .slice none 0 0, .slice none 0 0, .slice none 0 0]) 4 96 Tryd.underlying24 hi hz0 hz1 hz2 rfl (by decide) _ _ _ (by rfl) (Ho2.out.alloc _) _ _ 1 1 _ (by rfl) (reads_new _ _ 1 4 rfl) (by intro u hu; simp at hu; first | (subst hu; rfl) | (rcases hu with rfl | rfl <;> rfl) | (rcases hu with rfl | rfl | rfl <;> rfl) | (rcases hu with rfl | rfl | rfl | rfl <;> rfl)) (by unfold maxLen; omega) (by omega) (by (try simp) <;> (try omega)) ?_
   intro v9 w9 hown9 hgrow9 hblk9
   go_simp
   refine hK _ _ (Cls.mk' (Only.grown2 (HO2.out.alloc _) hgrow9 (fun b hb => .inl (.inr hb)))) ?_
   clear hK K
   obtain ⟨A9, c9, rfl, _, _, _⟩ := own_form hown9
   have hbl := fun o : Obj => (Below.refl w2.heap.size w2).alloc (Nat.le_refl _) o
   obtain ⟨w2a, hw2a⟩ : ∃ x, x = w2.alloc (.cells #[.slice a0 n0 c0, .slice a1 n1 c1, .slice a2 n2 c2, .slice a3 n3 c3] 50) := ⟨_, rfl⟩
   have HM2a := Lib.hid (show MdC w2a lo tp (.slice Ao k co) D xs by rw [hw2a]; exact HM2.out.below (hbl _) (by omega))
   have hfa : FlS w2a wo.heap.size (.slice a0 n0 c0) (.slice a1 n1 c1) (.slice a3 n3 c3) m.1 m.2.1 m.2.2.2 := by rw [hw2a]; exact Hfl.out.below (hbl _)
   have hia : InS w2a wo.heap.size (.slice a2 n2 c2) m.2.2.1 := by rw [hw2a]; exact Hin.out.below (hbl _)
   have hxa : Blk w2a lo 26 #[.slice none 0 0] := by rw [hw2a]; exact HX2.out.alloc _
   have hya : Blk w2a (lo + 1) 26 #[.slice Ao k co] := by rw [hw2a]; exact HY2.out.alloc _
   have hca : Cur B g w2a := by rw [hw2a]; exact HC2.out.alloc _
   have hga : w.grownBy w2a (some g) := by rw [hw2a]; exact HG2.out.trans (World.grownBy_alloc _ _ _)
   have hoa : w2a.ownsRow lo 50 4 (.slice Ao k co) k xs := by rw [hw2a]; exact Ho2.out.alloc _
   have hgr : w2a.grownBy w9 (Value.slice Ao k co).ownBlock := by rw [hw2a]; exact hgrow9
   have z2a : w2.heap.size < w2a.heap.size := by rw [hw2a]; simp
   have hq := mod_sepT hfa hia (by have := Hgm.out.sz HDo.out; omega)
   have hrow := rows_snoc HM2a.out.2 HM2a.out.1.1 (hq.mono (S' := fun b => tp ≤ b ∧ OfC w2a b) (fun b hb => ⟨by omega, hb.2⟩)) hl1 (by omega)
   have hrow9 := rows_only hrow (only_row hgr) (grown_not hoa (by decide)) (Nat.le_refl _)
   have HM9 := Lib.hid (show MdC w9 lo w2a.heap.size (.slice A9 (k + 1) c9) (D ++ [m]) (xs ++ [.slice a0 n0 c0, .slice a1 n1 c1, .slice a2 n2 c2, .slice a3 n3 c3]) from ⟨by rw [List.length_append, Hdl.out]; exact hown9, hrow9⟩)
   have hg9 : ∀ b, (Value.slice Ao k co).ownBlock = some b → lo ≤ b := fun b hb => (hoa.lt b hb).1
   have HC9 := Lib.hid (hca.grown hgr (fun b hb => by have := hg9 b hb; omega))
   have HG9 := Lib.hid (grown_more hga hgr (fun b hb => by have := hg9 b hb; have := Hlo.out; omega))
   have HX9 := Lib.hid (blk_row2 hxa hoa (by decide) hgr)
   have hy9 := blk_row2 hya hoa (by decide) hgr
   have HY9 := Lib.hid hy9
   have z9 := hgr.size
   have hl3 : lo ≤ w2a.heap.size := by omega
   clear hown9 hgrow9 hblk9 hbl hw2a hfa hia hxa hya hca hga hoa hgr hq hrow hrow9 hg9 hy9 HM2a
   have y9 := blkS1 HY9.out
   have f9 := HY9.out.frozen 0
   (repeat (first | (refine lex_r fun K hK => ?_; go_big_quiet_op; refine hK _ ?_; clear hK K) | (refine lex_k fun K hK => ?_; go_simp; refine hK _ ?_; clear hK K)))
   (refine lex_l fun K hK => ?_; go_big_op)
   (refine hK _ _ ?_; clear hK K)
   clear lexNE cy y9 f9 hi hz0 hz1 hz2
   obtain ⟨wf, hwf⟩ : ∃ wf, wf = w9.setCell ⟨lo + 1, 0, none⟩ (.slice A9 (k + 1) c9) := ⟨_, rfl⟩
   have hof : Only (fun b => b = lo + 1) w9 wf := by rw [hwf]; exact (Only.refl (fun b => b = lo + 1) w9).setCell (p := ⟨lo + 1, 0, none⟩) (.inl rfl) _
   have HYf := Lib.hid (show Blk wf (lo + 1) 26 #[.slice A9 (k + 1) c9] by rw [hwf]; exact HY9.out.set_ 0 _)
   have HOf := Lib.hid hof
   have zf := hof.size
   rw [← hwf]
   clear hwf hof
   go_wp2_with fail
   go_roundw
   case rel => exact ⟨k + 1, w2a.heap.size, _, D ++ [m], _, by omega, by go_num, HOf.out.blk HX9.out (by omega), HYf.out, HM9.out.only HOf.out (fun b t hb hl ht hm => by subst hb; exact absurd (ht.inj HY9.out.of ▸ hm) (by decide)) z9, ⟨hl3, by omega⟩, HDo.out.snoc Hgm.out, by rw [List.length_append, Hdl.out]; rfl, cur_only HC9.out HOf.out (fun b hb => by omega), grown_only HG9.out HOf.out (fun b hb => by have := Hlo.out; omega)⟩
   case measure => simp [intOf]; omega
  ·have hkn : n = k := by omega
   obtain rfl := hkn
   have g2 : (n : Int) ≤ (n : Int) := Int.le_refl _
   have r0 := blkS1 HXo.out
   have f0 := HXo.out.frozen 0
   go_wp2_with fail
   obtain ⟨wf, hwf⟩ : ∃ wf, wf = wo.setCell ⟨lo, 0, none⟩ (.slice Ao n co) := ⟨_, rfl⟩
   have hof : Only (fun b => b = lo) wo wf := by rw [hwf]; exact (Only.refl (fun b => b = lo) wo).setCell (p := ⟨lo, 0, none⟩) (.inl rfl) _
   have s0 := blkS1 (show Blk wf lo 26 #[.slice Ao n co] by rw [hwf]; exact HXo.out.set_ 0 _)
   rw [← hwf]
   refine bodyPost_ret (v := .agg #[.slice Ao n co]) (by simp [results, Tryd.results10, go_sem, s0]) rfl ?_
   refine ⟨_, tp, D, xs, rfl, ?_, Nat.le_trans hl2 hof.size, HDo.out, by rw [Hdl.out]; exact hn1, by rw [Hdl.out]; exact hn3, cur_only HCo.out hof (fun b hb => by omega), grown_only HGo.out hof (fun b hb => by have := Hlo.out; omega)⟩
   rw [← Hlo.out]
   exact HMo.out.only hof (fun b t hb hl ht hm => by subst hb; exact absurd (ht.inj HXo.out.of ▸ hm) (by decide)) hl2
/-- a drawn design, for the laws -/
def DrdQ (w : World) (e : Ending) (w' : World) : Prop :=
 ∃ (ov : Value) (D : TDesign) (p : Int), e = .returned (.tuple #[.agg #[ov], .int .i64 p]) ∧ QDesign w' (fun b => w.heap.size ≤ b ∧ b < w'.heap.size) (.agg #[ov]) D ∧ GDs D ∧ 1 ≤ D.length ∧ D.length ≤ 3 ∧ Below w.heap.size w w'
set_option maxRecDepth 100000 in
set_option maxHeartbeats 8000000 in
theorem s_DrawDesign {w : World} {A : Option Addr} {n c : Nat} {l : List UInt8} (hr : Reads w w.heap.size 1 A n (bys l)) (hn : n ≤ 1048576) : Calls Tryd.prog 5 #[.slice A n c] w (DrdQ w) := by
 obtain ⟨U, hU⟩ : ∃ U, U = w.alloc (.cells #[.slice none 0 0] 26) := ⟨_, rfl⟩
 have HX := Lib.hid (show Blk U w.heap.size 26 #[.slice none 0 0] by rw [hU]; exact Blk.new _ _ _)
 have HB := Lib.hid (show Below w.heap.size w U by rw [hU]; exact (Below.refl _ _).alloc (Nat.le_refl _) _)
 have hrU : Reads U U.heap.size 1 A n (bys l) := by rw [hU]; exact (hr.alloc (Nat.le_refl _) _).more (by simp)
 have hzu : w.heap.size < U.heap.size := HX.out.lt
 have HU := Lib.hid hU
 clear hU hr
 go_enter Tryd.func5, Tryd.ntmps5
 go_wp2_with fail
 rw [← HU.out]
 refine (s_New hrU hn).mono ?_
 rintro e w1 ⟨g, rfl, hc, hb⟩
 have HX1 := Lib.hid (HX.out.below hb HX.out.lt)
 have HB1 := Lib.hid (HB.out.trans (hb.mono HB.out.size))
 have HC1 := Lib.hid hc
 have hgB := hc.le
 have hgl := hc.lt
 clear hb hc hrU
 go_wp2_with fail
 refine (s_l04Design HC1.out).mono ?_
 rintro e w2 ⟨ov, tp, D, xs, rfl, hmd, htp, hgd, hd1, hd3, hc2, hg2⟩
 obtain ⟨Ao, co, rfl⟩ := hmd.form
 obtain ⟨nd, hnd⟩ : ∃ k, D.length = k := ⟨_, rfl⟩
 rw [hnd] at hd1 hd3 hmd ⊢
 have HM := Lib.hid hmd
 have HD := Lib.hid hgd
 have Hnd := Lib.hid hnd
 have hB2 : Below w.heap.size w w2 := HB1.out.trans (below_of_grown hg2 HB1.out.size (fun b hb => by injection hb with hb; omega))
 have zB := HB1.out.size
 have zU := hg2.size
 obtain ⟨W3, hW3⟩ : ∃ W3, W3 = w2.alloc (.cells #[.slice Ao nd co] 26) := ⟨_, rfl⟩
 have HX3 := Lib.hid (show Blk W3 w.heap.size 26 #[.slice none 0 0] by rw [hW3]; exact (HX1.out.grown hg2 (fun e => by injection e with e; omega)).alloc _)
 have HY3 := Lib.hid (show Blk W3 w2.heap.size 26 #[.slice Ao nd co] by rw [hW3]; exact Blk.new _ _ _)
 have HC3 := Lib.hid (show Cur U.heap.size g W3 by rw [hW3]; exact hc2.alloc _)
 have HB3 := Lib.hid (show Below w.heap.size w W3 by rw [hW3]; exact hB2.alloc hB2.size _)
 have HO3 := Lib.hid (show Only (fun b => b = g ∨ b = w.heap.size) w2 W3 by rw [hW3]; exact (Only.refl _ _).alloc _)
 have zg : g < w1.heap.size := hgl
 have z1 : w.heap.size < w1.heap.size := by omega
 have HW3 := Lib.hid hW3
 have zx3 := HX3.out.lt
 have y5 := blkS1 HY3.out
 have cy := ocel (S := fun b => b = g ∨ b = w.heap.size) y5 HY3.out.lt (by show ¬ (w2.heap.size = g ∨ w2.heap.size = w.heap.size); omega)
 rw [hW3] at y5
 clear hB2 hW3 hmd hgd hc2 hg2 hnd
 go_wp2_with fail
 rw [← HW3.out]
 clear y5
 refine wp_region_lexC (by kernel_rfl) (by kernel_rfl) (fun x => Only (fun b => b = g ∨ b = w.heap.size) W3 x) ((Only.refl _ _).drew) (fun lexNE => ?_)
 (repeat (first | (refine lex_r fun K hK => ?_; go_big_quiet_op; refine hK _ ?_; clear hK K) | (refine lex_k fun K hK => ?_; go_simp; refine hK _ ?_; clear hK K)))
 (refine lex_e fun K hK => ?_; go_big_op)
 refine (s_Below 3 (cur_drew HC3.out)).mono ?_
 rintro e w4 ⟨p, rfl, hp, hc4, hg4⟩
 obtain ⟨hp0, hp1⟩ := hp.1 (by omega)
 have HO4 := Lib.hid (show Only (fun b => b = g ∨ b = w.heap.size) W3 w4 from ((Only.refl _ W3).drew).trans ((only_row hg4).more (fun b hb => .inl (by injection hb with hb; exact hb.symm))))
 have HX4 := Lib.hid ((HX3.out.drew).grown hg4 (fun e => by injection e with e; omega))
 refine hK _ _ (Cls.mk' HO4.out) ?_
 clear hK K hp hc4 hg4
 have r0 := blkS1 HX4.out
 have f0 := HX4.out.frozen 0
 (repeat (first | (refine lex_r fun K hK => ?_; go_big_quiet_op; refine hK _ ?_; clear hK K) | (refine lex_k fun K hK => ?_; go_simp; refine hK _ ?_; clear hK K)))
 (refine lex_e fun K hK => ?_; go_big_op)
 refine hK _ _ (Cls.mk' (HO4.out.setCell (p := ⟨w.heap.size, 0, none⟩) (.inl (.inr rfl)) _)) ?_
 clear hK K
 (repeat (first | (refine lex_r fun K hK => ?_; go_big_quiet_op; refine hK _ ?_; clear hK K) | (refine lex_k fun K hK => ?_; go_simp; refine hK _ ?_; clear hK K)))
 (refine lex_nil ?_)
 clear lexNE cy r0 f0
 go_wp2_with fail
 obtain ⟨wf, hwf⟩ : ∃ wf, wf = w4.setCell ⟨w.heap.size, 0, none⟩ (.slice Ao nd co) := ⟨_, rfl⟩
 have hof : Only (fun b => b = g ∨ b = w.heap.size) W3 wf := by rw [hwf]; exact HO4.out.setCell (p := ⟨w.heap.size, 0, none⟩) (.inl (.inr rfl)) _
 have s0 := blkS1 (show Blk wf w.heap.size 26 #[.slice Ao nd co] by rw [hwf]; exact HX4.out.set_ 0 _)
 rw [← hwf]
 clear hwf
 have hMf := HM.out.only (HO3.out.trans hof) (fun b t hb hl _ => by rcases hb with hb | hb <;> (subst hb; omega)) htp
 refine bodyPost_ret (v := .tuple #[.agg #[.slice Ao nd co], .int .i64 (1 + p)]) (by simp [results, Tryd.results5, go_sem, s0]) rfl ?_
 exact ⟨_, D, _, rfl, hMf.dsn (by rw [Hnd.out]; omega) (fun b h1 h2 => ⟨by omega, h2⟩), HD.out, by rw [Hnd.out]; exact hd1, by rw [Hnd.out]; exact hd3, HB3.out.trans (hof.below HB3.out.size (fun b hb => by omega))⟩
end Go.Proofs.YtolndlmhbnpmeaaDoor

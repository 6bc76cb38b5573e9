/- Contracts: a design's lines: the program's and the reference's functions. -/
import Derived.Test.YtolndlmhbnpmeaaDoorFms
import Derived.Outline
namespace Go.Proofs.YtolndlmhbnpmeaaDoor
open Go.RowKit

theorem strs_one (l : List ByteArray) : ∀ u ∈ strs l, u.oneCell' = true := by
 intro u hu
 obtain ⟨x, _, rfl⟩ := List.mem_map.1 hu
 rfl
theorem own_app {w : World} {B m : Nat} {v : Value} {L M : List (List UInt8)} (hm : (M.map bt).length = m) (h : w.ownsRow B 9 1 v (L.length + m) (strs (L.map bt) ++ strs (M.map bt))) : w.ownsRow B 9 1 v (L ++ M).length (strs ((L ++ M).map bt)) := by
 rw [List.length_append, List.map_append, strs, List.map_append]
 rw [List.length_map] at hm
 rw [hm]
 exact h
set_option maxRecDepth 100000 in
set_option maxHeartbeats 8000000 in
theorem i_designLines {w : World} {S : Nat → Prop} {v : Value} {d : TDesign} (hz : sDesign d ≤ 1048576) (h : RDesign w S v d) (hS : ∀ b, S b → b < w.heap.size) (hsg : SignsAt w) :
  Calls Tryd.prog 12 #[v] w fun e w' => ∃ v', e = .returned (.tuple #[v', .bool (designB d)]) ∧ QStringS w' (New w w') v' (dlR d) ∧ Below w.heap.size w w' := by
 obtain ⟨i0, hi, hz0, hz1, hz2⟩ := info_parts Tryd.infoStr
 obtain ⟨A, c, rfl, hr, hm⟩ := dsn_open h
 obtain ⟨n, hl⟩ : ∃ n, d.length = n := ⟨_, rfl⟩
 rw [hl] at hr hm h ⊢
 unfold maxLen at hm
 have Hl := Lib.hid hl
 have Hr := Lib.hid hr
 have H := Lib.hid h
 obtain ⟨U0, hU0⟩ : ∃ U0, U0 = w.alloc (.cells #[.slice A n c] 26) := ⟨_, rfl⟩
 have hu0 : w.heap.size < U0.heap.size := by rw [hU0]; simp
 have HB0 := Lib.hid (show Below w.heap.size w U0 by rw [hU0]; exact ((Below.refl _ _).alloc (Nat.le_refl _) _))
 have HXD := Lib.hid (show Blk U0 w.heap.size 26 #[.slice A n c] by rw [hU0]; exact (Blk.new _ _ _))
 have HU0 := Lib.hid hU0
 clear hl hr h hU0
 go_enter Tryd.func12, Tryd.ntmps12
 go_wp2_with fail
 rw [← HU0.out]
 refine (i_DesignOk (by omega) (RDesign.under H.out hS HB0.out) (fun b hb => by have := hS b hb; omega)).mono ?_
 rintro e w1 ⟨rfl, hb1⟩
 have HD1 := Lib.hid (HXD.out.below hb1 HXD.out.lt)
 have HB1 := Lib.hid (HB0.out.trans (hb1.mono (by omega)))
 have zz1 := hb1.size
 clear hb1
 cases hd : designB d with
 | false =>
  have HO := Lib.hid (dlR_no hd)
  have Hd := Lib.hid hd
  clear hd
  go_wp2_with fail
  go_ret2
  rw [HO.out, Hd.out]
  exact ⟨_, rfl, str_nil _ _, HB1.out⟩
 | true =>
 have Hd := Lib.hid hd
 have HO := Lib.hid (dlR_yes hd)
 have hn4 : n ≤ 4 := by have h1 := dsn_four hd; rw [Hl.out] at h1; exact h1
 have y0 := blkS1 HD1.out
 clear hd
 go_wp2_with fail
 clear y0
 go_loopw [4, 5, 6, 7, 14] (fun ov _ _ _ iv wr => ∃ (k : Nat) (L : List (List UInt8)), k ≤ n ∧ iv = .int .i64 k ∧ Hid (L = (d.take k).flatMap fmtML) ∧ wr.ownsRow w1.heap.size 9 1 ov L.length (strs (L.map bt)) ∧ Below w1.heap.size w1 wr) (fun _ _ _ _ iv _ => n - (intOf iv).toNat)
 case atStart => exact ⟨0, [], Nat.zero_le _, rfl, Lib.hid (by simp), World.ownsRow_nil _ _ _ _, Below.refl _ _⟩
 case round =>
  obtain ⟨k, L, hk, rfl, hL, hown, hb⟩ := hrel
  have Hb := Lib.hid hb
  have Hbw := Lib.hid (HB1.out.trans (hb.mono (by omega)))
  have hsz := hb.size
  obtain ⟨Ao, co, rfl, _, _, _⟩ := own_form hown
  have Hown := Lib.hid hown
  have gx : (0 : Int) ≤ (k : Int) := by omega
  have hLn : L.length ≤ 67 * k := by
   rw [hL.out]
   have h1 := flat_len (f := fmtML) (N := 67) (l := d.take k) (fun m hm => fmtML_len (mods_ok Hd.out m (List.mem_of_mem_take hm)))
   rw [List.length_take] at h1
   omega
  have y0 := blkS1 (HD1.out.below hb HD1.out.lt)
  clear hb hown
  by_cases hlt : k < n
  ·obtain ⟨x, hx⟩ : ∃ x, d[k]? = some x := ⟨_, List.getElem?_eq_getElem (by rw [Hl.out]; exact hlt)⟩
   have Hs := Lib.hid (flat_snoc (f := fmtML) hx)
   have Hy := Lib.hid (fmtR_yes (dsn_mod Hd.out (show k < d.length by rw [Hl.out]; exact hlt)))
   have Hmd := Lib.hid (md_get hx)
   have Hx := Lib.hid hx
   have g4 : (k : Int) < (n : Int) := by omega
   clear hx
   go_wp2_with fail
   refine (i_FormatModule (k : Int) hz (RDesign.under H.out hS Hbw.out) (fun b hb => by have := hS b hb; omega) (hsg.below Hbw.out)).mono ?_
   rintro e w2 ⟨v2, rfl, hq, hb2⟩
   rw [Hy.out, Hmd.out] at hq ⊢
   obtain ⟨A2, n2, c2, rfl⟩ := slv_of hq.rep
   have hn2 : ((fmtML x).map bt).length = n2 := by have := hq.len; rw [List.length_map] at this; exact this
   have hn3 : n2 ≤ 67 := by rw [← hn2, List.length_map]; exact fmtML_len (mods_ok Hd.out x (List.mem_of_getElem? Hx.out))
   have HR := Lib.hid (strs_reads hq.rep (B := w2.heap.size) (fun b hb => hb.2))
   have Hn2 := Lib.hid hn2
   have HC2 := Lib.hid (Hb.out.trans (hb2.mono (by omega)))
   have HO2 := Lib.hid (own_below Hown.out hb2 (Nat.le_refl _))
   have zz2 := HC2.out.size
   clear hq hb2 hn2 y0
   go_wp2_with (at_builtin; refine wpList_append_any _ rfl _ _ 38 rfl (w1.heap.size) 9 i0 (.string ByteArray.empty) 1 16 Tryd.underlying38 hi hz0 hz1 hz2 rfl (by decide) _ _ _ rfl HO2.out _ _ n2 c2 (strs ((fmtML x).map bt)) rfl HR.out (strs_one _) (by unfold maxLen; omega) (by omega) (by omega) ?_; intro v3 w3 hown3 hgrow3 hblk3)
   have HC3 := Lib.hid (HC2.out.trans (below_of_grown hgrow3 (by omega) (fun g hg => (HO2.out.lt g hg).1)))
   have Hown3 := Lib.hid (own_app Hn2.out hown3)
   clear hown3 hgrow3 hblk3
   go_wp2_with fail
   go_roundw
   case rel => exact ⟨k + 1, L ++ fmtML x, by omega, by go_num, Lib.hid (by rw [hL.out, Hs.out]), Hown3.out, HC3.out⟩
   case measure => simp [intOf]; omega
  ·have hkn : k = n := by omega
   have hge : (n : Int) ≤ (k : Int) := by omega
   have HL := Lib.hid (show L = linesD d by rw [hL.out, List.take_of_length_le (by have := Hl.out; omega)]; rfl)
   have hLn := linesD_len Hd.out
   have HO3 := Hown.out
   rw [HL.out] at HO3 ⊢
   clear hL
   go_wp2_with fail
   go_ret2
   rw [HO.out, Hd.out]
   exact ⟨_, rfl, sep_strs (by unfold maxLen; omega) HO3 (fun g hg => ⟨by have := (HO3.lt g hg).1; omega, (HO3.lt g hg).2⟩), Hbw.out⟩
end Go.Proofs.YtolndlmhbnpmeaaDoor

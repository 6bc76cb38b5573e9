/- Contract: a drawn assignment: the reference's l04Assign. -/
import Derived.Test.YtolndlmhbnpmeaaDoorDxp
import Derived.Test.YtolndlmhbnpmeaaDoorGn
import Derived.Outline
namespace Go.Proofs.YtolndlmhbnpmeaaDoor
open Go.RowKit

theorem sep_one {w : World} {S : Nat → Prop} {v : Value} {f : Fd} (h : Sep w S v f) : v.oneCell' = true := by cases h <;> rfl
theorem rws_one {w : World} {lo size : Nat} {e p : TypeId} {v : Value} {rows : List (List Fd)} {R : Nat → Prop} {xs : List Value} (h : RwS w lo e p size v rows R xs) : ∀ u ∈ xs, u.oneCell' = true := by
 intro u hu
 obtain ⟨i, hi, rfl⟩ := List.mem_iff_getElem.1 hu
 have hl := h.own.1
 have hs : 0 < size := by
  rcases Nat.eq_zero_or_pos size with h0 | h0
  ·subst h0; omega
  ·exact h0
 have hr : i / size < rows.length := (Nat.div_lt_iff_lt_mul hs).2 (by omega)
 have hrow : rows[i / size]? = some rows[i / size] := List.getElem?_eq_getElem hr
 have hj : i % size < size := Nat.mod_lt _ hs
 have hf : (rows[i / size])[i % size]? = some ((rows[i / size])[i % size]'(by rw [h.lens _ (List.getElem_mem hr)]; exact hj)) := List.getElem?_eq_getElem _
 obtain ⟨P, _, _, h3⟩ := h.parts
 obtain ⟨v, hv, hsep⟩ := h3 _ _ _ _ hrow hf
 rw [Nat.mul_comm, Nat.div_add_mod] at hv
 rw [List.getElem?_eq_getElem hi] at hv
 injection hv with hv
 rw [hv]
 exact sep_one hsep
theorem blk_row2 {w w' : World} {base size n g : Nat} {e t : TypeId} {v : Value} {xs : List Value} {cs : Array Value} (h : Blk w g t cs) (ho : w.ownsRow base e size v n xs) (hne : e ≠ t) (hg : w.grownBy w' v.ownBlock) : Blk w' g t cs :=
 h.grown hg (fun he => hne ((own_of ho he.symm).inj h.of))
theorem blk_off2 {W : World} {g g' : Nat} {t : TypeId} {cs : Array Value} (h : Blk W g t cs) (hne : g ≠ g') (j : Nat) (u : Value) : Blk (W.setCell ⟨g', j, none⟩ u) g t cs := (Below.heap_setCell _ ⟨g', j, none⟩ _ g hne).trans h
theorem cur_only {B g : Nat} {w w' : World} {C : Nat → Prop} (h : Cur B g w) (ho : Only C w w') (hc : ∀ b, C b → g < b) : Cur B g w' := by
 have hl := h.lt
 have hle := h.le
 obtain ⟨A, n, c, l, i, hh, hB, hBg, hr0, hin, hn⟩ := h
 exact ⟨A, n, c, l, i, hh, ho.blk hB (fun e => by have := hc _ e; omega), hBg, hr0.below (ho.below (B := B) (by omega) (fun b hb => by have := hc b hb; omega)), hin, hn⟩
theorem grown_only {w0 w w' : World} {g : Nat} {C : Nat → Prop} (h : w0.grownBy w (some g)) (ho : Only C w w') (hc : ∀ b, C b → w0.heap.size ≤ b) : w0.grownBy w' (some g) :=
 ⟨ho.os.trans h.os, ho.tape.trans h.tape, ho.output.trans h.output, Nat.le_trans h.size ho.size, fun b hb hne => (ho.block b (Nat.lt_of_lt_of_le hb h.size) (fun e => by have := hc b e; omega)).trans (h.block b hb hne)⟩
def AsgQ (B g lo : Nat) (N s : Int) (v0 v2 v3 : Value) (ag : List TAssign) (w : World) (e : Ending) (w' : World) : Prop :=
 ∃ (v1 : Value) (os : List TOp) (R : Nat → Prop) (xs : List Value), e = .returned (.agg #[v0, v1, v2, v3]) ∧ RwS w' lo 69 71 2 v1 ((ag ++ [(s, os)]).map rAssign) R xs ∧ opsB os N = true ∧ Cur B g w' ∧ w.grownBy w' (some g)
set_option maxRecDepth 100000 in
set_option maxHeartbeats 16000000 in
theorem s_l04Assign {w : World} {B g lo n0 c0 n1 c1 n2 c2 n3 c3 na ca : Nat} {A0 A1 A2 A3 Aa : Option Addr} {ag : List TAssign} {R : Nat → Prop} {xs : List Value} {av : List Int} {N : Int} (s : Int) (hcur : Cur B g w) (hgl : g < lo) (hlo : lo ≤ w.heap.size)
  (hag : RwS w lo 69 71 2 (.slice A1 n1 c1) (ag.map rAssign) R xs) (hn1 : n1 ≤ 1000) (hna : na ≤ 1000) (hav : w.ownsRow lo 3 1 (.slice Aa na ca) na (ints av)) (hav2 : ∀ x ∈ av, 0 ≤ x ∧ x < N) :
  Calls Tryd.prog 35 #[.pointer (some ⟨g, 0, none⟩), .agg #[.slice A0 n0 c0, .slice A1 n1 c1, .slice A2 n2 c2, .slice A3 n3 c3], .int .i64 s, .slice Aa na ca] w (AsgQ B g lo N s (.slice A0 n0 c0) (.slice A2 n2 c2) (.slice A3 n3 c3) ag w) := by
 have hln : (ag.map rAssign).length = n1 := by
  obtain ⟨_, _, hv, _⟩ := own_form hag.own
  injection hv
  omega
 have hown := hag.own
 rw [hln] at hown
 have Hown := Lib.hid hown
 have Hag := Lib.hid hag
 have Hln := Lib.hid hln
 have Hav := Lib.hid hav
 have Hav2 := Lib.hid hav2
 have hgw := hcur.lt
 obtain ⟨i0, hi, hz0, hz1, hz2⟩ := info_parts Tryd.infAssignC
 obtain ⟨U, hU⟩ : ∃ U, U = ((w.alloc (.cells #[.slice A0 n0 c0, .slice A1 n1 c1, .slice A2 n2 c2, .slice A3 n3 c3] 50)).alloc (.cells #[.slice none 0 0, .slice none 0 0, .slice none 0 0, .slice none 0 0] 50)) := ⟨_, rfl⟩
 obtain ⟨U3, hU3⟩ : ∃ U3, U3 = U.alloc (.cells #[] 69) := ⟨_, rfl⟩
 have hzU : U.heap.size = w.heap.size + 2 := by rw [hU]; simp
 have HgU := Lib.hid (show w.grownBy U3 (some g) by rw [hU3, hU]; exact ((World.grownBy_alloc _ _ _).trans (World.grownBy_alloc _ _ _)).trans (World.grownBy_alloc _ _ _))
 have HM := Lib.hid (show Blk U3 w.heap.size 50 #[.slice A0 n0 c0, .slice A1 n1 c1, .slice A2 n2 c2, .slice A3 n3 c3] by rw [hU3, hU]; exact ((Blk.new _ _ _).alloc _).alloc _)
 have HR := Lib.hid (show Blk U3 (w.heap.size + 1) 50 #[.slice none 0 0, .slice none 0 0, .slice none 0 0, .slice none 0 0] by rw [hU3, hU]; exact (blk_new_at (by simp)).alloc _)
 have HE := Lib.hid (show U3.ownsRow (w.heap.size + 2) 69 2 (.slice (some ⟨w.heap.size + 2, 0, none⟩) 0 0) 0 [] by rw [hU3, ← hzU]; exact World.ownsRow_made (base := U.heap.size) (size := 2) (e := 69) U #[] 0 (Nat.le_refl _) (by unfold maxLen; omega) rfl)
 have HC := Lib.hid (show Cur B g U3 by rw [hU3, hU]; exact ((hcur.alloc _).alloc _).alloc _)
 have hbU : Below w.heap.size w U3 := by rw [hU3, hU]; exact (((Below.refl _ _).alloc (Nat.le_refl _) _).alloc (by simp) _).alloc (by simp; omega) _
 have HBU := Lib.hid hbU
 have HS := Lib.hid (own_below Hown.out hbU (Nat.le_refl _))
 have HRd := Lib.hid (Reads.of_own HS.out)
 have HU3 := Lib.hid hU3
 have HU := Lib.hid hU
 have hzU3 : U3.heap.size = w.heap.size + 3 := by rw [hU3]; simp [hzU]
 clear hcur hav hav2 hag hown hln hU hU3 hbU
 have HM' := HM.out
 have HE' := HE.out
 have HRd' := HRd.out
 rw [HU3.out] at HM' HE' HRd'
 obtain ⟨y0, y1, y2, y3⟩ := blkS4 HM'
 clear HM'
 go_enter Tryd.func35, Tryd.ntmps35
 go_upto_region 1 with fail
 rw [← HU.out]
 go_wp2_with (at_builtin; refine wpList_append_any _ rfl _ _ 46 rfl (w.heap.size + 2) 69 i0 (.agg #[.int .i64 0, .slice none 0 0]) 2 32 Tryd.underlying46 hi hz0 hz1 hz2 rfl (by decide) _ _ _ rfl HE' _ _ n1 c1 xs rfl HRd' (rws_one Hag.out) (by unfold maxLen; omega) (by first | omega | (simp; omega)) (by first | omega | (simp; omega)) ?_; intro v7 w7 hown7 hgrow7 hblk7; refine stopX ?_)
 rw [← HU3.out] at hgrow7
 have hown7' : w7.ownsRow (w.heap.size + 2) 69 2 v7 n1 xs := by simpa using hown7
 obtain ⟨A7, c7, rfl, _, _, _⟩ := own_form hown7'
 have hg7 : ∀ b, (Value.slice (some ⟨w.heap.size + 2, 0, none⟩) 0 0).ownBlock = some b → w.heap.size ≤ b := fun b hb => by have := (HE.out.lt b hb).1; omega
 have HB7 := Lib.hid (HBU.out.trans (below_of_grown hgrow7 (by omega) (fun b hb => hg7 b hb)))
 have HC7 := Lib.hid (HC.out.grown hgrow7 (fun b hb => by have := hg7 b hb; have := HC.out.le; omega))
 have Hg7 := Lib.hid (grown_more HgU.out hgrow7 hg7)
 have HO7 := Lib.hid hown7'
 have HM7 := Lib.hid (blk_row2 HM.out HE.out (by decide) hgrow7)
 have HR7 := Lib.hid (blk_row2 HR.out HE.out (by decide) hgrow7)
 have Ho := Lib.hid (Hag.out.only (Only.of_below HB7.out (fun _ => False)) (NoT.none _ _ _))
 have Ha7 := Lib.hid (own_mono (own_below Hav.out HB7.out (Nat.le_refl _)) (show g + 1 ≤ lo by omega))
 have z7 := HB7.out.size
 have z7' : U.heap.size ≤ w7.heap.size := by have := hgrow7.size; omega
 clear hown7 hown7' hgrow7 hblk7 hg7 y0 y1 y2 y3 HE' HRd'
 refine stopped ?_
 go_wp2_with fail
 refine (s_l04Expr 9 (by omega) HC7.out hna Ha7.out Hav2.out).mono ?_
 rintro e w8 ⟨v8, os, rfl, ho8, ⟨ho1, ho2⟩, hp8, hc8, hg8⟩
 have hops : opsB os N = true := part_opsB hp8 (by omega)
 obtain ⟨m8, hm8⟩ : ∃ k, os.length = k := ⟨_, rfl⟩
 rw [hm8] at ho8 ho1 ho2
 obtain ⟨A8, c8, rfl, _, _, _⟩ := own_form ho8
 have HO8 := Lib.hid ho8
 have HC8 := Lib.hid hc8
 have Hg8 := Lib.hid (Hg7.out.trans hg8)
 have HP8 := Lib.hid (own_grown HO7.out (by omega) hg8)
 have HM8 := Lib.hid (HM7.out.grown hg8 (fun e => by injection e with e; omega))
 have HR8 := Lib.hid (HR7.out.grown hg8 (fun e => by injection e with e; omega))
 have Ho8 := Lib.hid (Ho.out.only (only_row hg8) (fun b t hb hl _ _ => by injection hb with hb; omega))
 have z8 := hg8.size
 have Hops := Lib.hid hops
 have hbl := fun o : Obj => (Below.refl w8.heap.size w8).alloc (Nat.le_refl _) o
 have hm9 : m8 ≤ 9 := by omega
 clear ho8 hp8 hc8 hg8 hops ho1 ho2
 obtain ⟨y0, y1, y2, y3⟩ := blkS4 HM8.out
 go_wp2_with (at_builtin; refine wpList_append_any _ rfl _ _ 46 rfl (w.heap.size + 2) 69 i0 (.agg #[.int .i64 0, .slice none 0 0]) 2 32 Tryd.underlying46 hi hz0 hz1 hz2 rfl (by decide) _ _ _ rfl (HP8.out.alloc _) _ _ 1 1 _ rfl (reads_new _ _ 1 2 rfl) (by intro u hu; simp at hu; first | (subst hu; rfl) | (rcases hu with rfl | rfl <;> rfl) | (rcases hu with rfl | rfl | rfl <;> rfl)) (by unfold maxLen; omega) (by omega) (by (try simp) <;> (try omega)) ?_; intro v9 w9 hown9 hgrow9 hblk9; refine stopX ?_)
 obtain ⟨A9, c9, rfl, _, _, _⟩ := own_form hown9
 have hg9 : ∀ b, (Value.slice A7 n1 c7).ownBlock = some b → w.heap.size ≤ b := fun b hb => by have := (HP8.out.lt b hb).1; omega
 have HC9 := Lib.hid ((HC8.out.alloc _).grown hgrow9 (fun b hb => by have := hg9 b hb; have := HC8.out.le; omega))
 have Hg9 := Lib.hid (grown_more (Hg8.out.trans (World.grownBy_alloc _ _ _)) hgrow9 hg9)
 have HM9 := Lib.hid (blk_row2 (HM8.out.alloc _) (own_below HP8.out (hbl _) (Nat.le_refl _)) (by decide) hgrow9)
 have HR9 := Lib.hid (blk_row2 (HR8.out.alloc _) (own_below HP8.out (hbl _) (Nat.le_refl _)) (by decide) hgrow9)
 have hpre := Ho8.out.only (Only.of_below (hbl (.cells #[.int .i64 s, .slice A8 m8 c8] 69)) (fun _ => False)) (NoT.none _ _ _)
 have hnew : RwS (w8.alloc (.cells #[.int .i64 s, .slice A8 m8 c8] 69)) lo 69 71 2 (.slice A7 n1 c7) (ag.map rAssign) R xs := ⟨by rw [Hln.out]; exact own_mono (own_below HP8.out (hbl _) (Nat.le_refl _)) (by omega), hpre.rng, hpre.parts, hpre.lens⟩
 have hrow : (os : List TOp).length = m8 := hm8
 have HF9 := Lib.hid (show RwS w9 lo 69 71 2 (.slice A9 (n1 + 1) c9) ((ag ++ [(s, os)]).map rAssign) (fun b => R b ∨ ∃ j : Nat, j = 1 ∧ (Value.slice A8 m8 c8).ownBlock = some b) (xs ++ [.int .i64 s, .slice A8 m8 c8]) by
  rw [List.map_append]
  refine RwS.push (w0 := w7) (row := rAssign (s, os)) (Q := fun j b => j = 1 ∧ (Value.slice A8 m8 c8).ownBlock = some b) (fun b hb => (Ho.out.rng b hb).2.lt) hnew (by omega) (by decide) (by rw [Hln.out]; exact own_mono hown9 (by omega)) hgrow9 rfl (fun j b hj => ⟨(HO8.out.lt b hj.2).1, own_of (own_below HO8.out (hbl _) (Nat.le_refl _)) hj.2⟩) (fun j j' b h1 h2 => h1.1.trans h2.1.symm) (fun j f hf => ?_)
  match j, hf with
  | 0, hf => simp [rAssign] at hf; subst hf; exact ⟨_, rfl, .int _ _⟩
  | 1, hf =>
   simp [rAssign] at hf
   subst hf
   exact ⟨_, rfl, sep_recs (enc := eOp) eOp_len (by decide) (by unfold maxLen; omega) (own_mono (own_below HO8.out (hbl _) (Nat.le_refl _)) (Nat.zero_le _)) (fun g hg => ⟨rfl, hg⟩)⟩
  | j + 2, hf => simp [rAssign] at hf)
 have z9 := hgrow9.size
 clear hown9 hgrow9 hblk9 hg9 hpre hnew hbl y0 y1 y2 y3 hi hz0 hz1 hz2
 obtain ⟨y0, y1, y2, y3⟩ := blkS4 HM9.out
 have f9 := HM9.out.frozen 1
 refine stopped ?_
 go_upto_region 2 with fail
 obtain ⟨wA, hwA⟩ : ∃ wA, wA = w9.setCell ⟨w.heap.size, 1, none⟩ (.slice A9 (n1 + 1) c9) := ⟨_, rfl⟩
 have HMA := Lib.hid (show Blk wA w.heap.size 50 #[.slice A0 n0 c0, .slice A9 (n1 + 1) c9, .slice A2 n2 c2, .slice A3 n3 c3] by rw [hwA]; exact HM9.out.set_ 1 _)
 have HRA := Lib.hid (show Blk wA (w.heap.size + 1) 50 #[.slice none 0 0, .slice none 0 0, .slice none 0 0, .slice none 0 0] by rw [hwA]; exact blk_off2 HR9.out (by omega) _ _)
 have HoA := Lib.hid (show Only (fun b => b = w.heap.size ∨ b = w.heap.size + 1) w9 wA by rw [hwA]; exact (Only.refl (fun b => b = w.heap.size ∨ b = w.heap.size + 1) w9).setCell (p := ⟨w.heap.size, 1, none⟩) (.inl (.inl rfl)) _)
 rw [← hwA]
 clear hwA y0 y1 y2 y3 f9
 obtain ⟨y0, y1, y2, y3⟩ := blkS4 HMA.out
 obtain ⟨r0, r1, r2, r3⟩ := blkS4 HRA.out
 have f0 := HRA.out.frozen 0
 have f1 := HRA.out.frozen 1
 have f2 := HRA.out.frozen 2
 have f3 := HRA.out.frozen 3
 go_wp2_with fail
 obtain ⟨wf, hwf⟩ : ∃ wf, wf = ((((wA.setCell ⟨w.heap.size + 1, 0, none⟩ (.slice A0 n0 c0)).setCell ⟨w.heap.size + 1, 1, none⟩ (.slice A9 (n1 + 1) c9)).setCell ⟨w.heap.size + 1, 2, none⟩ (.slice A2 n2 c2)).setCell ⟨w.heap.size + 1, 3, none⟩ (.slice A3 n3 c3)) := ⟨_, rfl⟩
 have hRf : Blk wf (w.heap.size + 1) 50 #[.slice A0 n0 c0, .slice A9 (n1 + 1) c9, .slice A2 n2 c2, .slice A3 n3 c3] := by rw [hwf]; exact blk_four HRA.out
 have hof : Only (fun b => b = w.heap.size ∨ b = w.heap.size + 1) w9 wf := by
  rw [hwf]
  exact (((HoA.out.setCell (p := ⟨w.heap.size + 1, 0, none⟩) (.inl (.inr rfl)) _).setCell (p := ⟨w.heap.size + 1, 1, none⟩) (.inl (.inr rfl)) _).setCell (p := ⟨w.heap.size + 1, 2, none⟩) (.inl (.inr rfl)) _).setCell (p := ⟨w.heap.size + 1, 3, none⟩) (.inl (.inr rfl)) _
 obtain ⟨s0, s1, s2, s3⟩ := blkS4 hRf
 rw [← hwf]
 refine bodyPost_ret (v := .agg #[.slice A0 n0 c0, .slice A9 (n1 + 1) c9, .slice A2 n2 c2, .slice A3 n3 c3]) (by simp [results, Tryd.results35, go_sem, s0, s1, s2, s3]) rfl ?_
 refine ⟨_, os, _, _, rfl, HF9.out.only hof (fun b t hb hl ht hm => ?_), Hops.out, ?_, ?_⟩
 ·have hbm : OfT w9 50 b := by
   rcases hb with rfl | rfl
   ·exact HM9.out.of
   ·exact HR9.out.of
  rw [← hbm.inj ht] at hm
  exact absurd hm (by decide)
 ·exact cur_only HC9.out hof (fun b hb => by have := HC9.out.le; omega)
 ·exact grown_only Hg9.out hof (fun b hb => by omega)
end Go.Proofs.YtolndlmhbnpmeaaDoor

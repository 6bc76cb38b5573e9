/- Contracts: a design's text: the program's and the reference's functions. -/
import Derived.Test.YtlgbdpcobbbglaaDoorFdl
import Derived.Lib.AppendStr
import Derived.Outline
namespace Go.Proofs.YtlgbdpcobbbglaaDoor
open Go.RowKit

theorem bys_app (a b : List UInt8) : bys (a ++ b) = bys a ++ bys b := by simp [bys]
def FdQ (d : TDesign) (w : World) (e : Ending) (w' : World) : Prop := e = .returned (.tuple #[.string ⟨(fdR d).toArray⟩, .bool (designB d)]) ∧ Below w.heap.size w w'
set_option maxRecDepth 100000 in
set_option maxHeartbeats 8000000 in
theorem i_FormatDesign {w : World} {S : Nat → Prop} {v : Value} {d : TDesign} (hz : sDesign d ≤ 1048576) (h : RDesign w S v d) (hS : ∀ b, S b → b < w.heap.size) (hsg : SignsAt w) :
  Calls Tryd.prog 17 #[v] w (FdQ d w) := by
 obtain ⟨A, c, rfl, hr, hm⟩ := dsn_open h
 obtain ⟨n, hl⟩ : ∃ n, d.length = n := ⟨_, rfl⟩
 rw [hl] at hr hm h ⊢
 unfold maxLen at hm
 have Hl := Lib.hid hl
 have Hr := Lib.hid hr
 have H := Lib.hid h
 obtain ⟨U0, hU0⟩ : ∃ U0, U0 = w.alloc (.cells #[.slice A n c] 31) := ⟨_, rfl⟩
 have hu0 : w.heap.size < U0.heap.size := by rw [hU0]; simp
 have HB0 := Lib.hid (show Below w.heap.size w U0 by rw [hU0]; exact ((Below.refl _ _).alloc (Nat.le_refl _) _))
 have HXD := Lib.hid (show Blk U0 w.heap.size 31 #[.slice A n c] by rw [hU0]; exact (Blk.new _ _ _))
 have HU0 := Lib.hid hU0
 clear hl hr h hU0
 go_enter Tryd.func17, Tryd.ntmps17
 go_wp2_with fail
 rw [← HU0.out]
 refine (i_designLines hz (RDesign.under H.out hS HB0.out) (fun b hb => by have := hS b hb; omega) (hsg.below HB0.out)).mono ?_
 rintro e w2 ⟨v2, rfl, hq, hb2⟩
 have HB2 := Lib.hid (HB0.out.trans (hb2.mono (by omega)))
 clear hb2
 cases hd : designB d with
 | false =>
  have HO := Lib.hid (fdR_no hd)
  have Hd := Lib.hid hd
  obtain ⟨A2, n2, c2, rfl⟩ := slv_of hq.rep
  clear hd hq
  go_wp2_with fail
  go_ret2
  unfold FdQ
  rw [HO.out, Hd.out]
  exact ⟨rfl, HB2.out⟩
 | true =>
 have Hd := Lib.hid hd
 have HO := Lib.hid (fdR_yes hd)
 rw [dlR_yes hd] at hq
 obtain ⟨A2, n2, c2, rfl⟩ := slv_of hq.rep
 have hn2 : (linesD d).length = n2 := by have := hq.len; rw [List.length_map, List.length_map] at this; exact this
 have hn3 : n2 ≤ 268 := by rw [← hn2]; exact linesD_len hd
 have Hn2 := Lib.hid hn2
 have HR := Lib.hid (strs_reads hq.rep (B := w2.heap.size) (fun b hb => hb.2))
 clear hd hq hn2
 go_wp2_with fail
 go_loopw [6, 8, 18] (fun sv _ iv wr => ∃ (k : Nat) (t : List UInt8), k ≤ n2 ∧ iv = .int .i64 k ∧ sv = .string ⟨t.toArray⟩ ∧ Hid (t = ((linesD d).take k).flatMap fun l => l ++ [10]) ∧ t.length ≤ 901 * k ∧ wr = w2) (fun _ _ iv _ => n2 - (intOf iv).toNat)
 case atStart => exact ⟨0, [], Nat.zero_le _, rfl, rfl, Lib.hid (by simp), by simp, rfl⟩
 case round =>
  obtain ⟨k, t, hk, rfl, rfl, ht, htl, rfl⟩ := hrel
  have gx : (0 : Int) ≤ (k : Int) := by omega
  by_cases hlt : k < n2
  ·obtain ⟨ad, x, rfl, hab, hx, hc⟩ := HR.out.str_at hlt
   obtain ⟨l, hl, hlx⟩ : ∃ l, (linesD d)[k]? = some l ∧ x = bt l := by
    rw [List.getElem?_map] at hx
    cases h1 : (linesD d)[k]? with
    | none => rw [h1] at hx; cases hx
    | some l => rw [h1] at hx; injection hx with hx; exact ⟨l, rfl, hx.symm⟩
   subst hlx
   have Hs := Lib.hid (flat_snoc (f := fun l : List UInt8 => l ++ [10]) hl)
   have hll := lineD_len Hd.out l (List.mem_of_getElem? hl)
   have g4 : (k : Int) < (n2 : Int) := by omega
   clear hl hx
   simp only [bt] at hc
   have hsum1 : (l.length : Int) + 1 ≤ 8388608 := by omega
   have hsum2 : (t.length : Int) + ((l ++ [10]).length : Int) ≤ 8388608 := by simp; omega
   go_wp2_with fail
   go_roundw
   case rel => exact ⟨k + 1, t ++ (l ++ [10]), by omega, by go_num, by rw [← cat_two, ← cat_two], Lib.hid (by rw [ht.out, Hs.out]), by simp; omega, trivial⟩
   case measure => simp [intOf]; omega
  ·have hge : (n2 : Int) ≤ (k : Int) := by omega
   have HT := Lib.hid (show t = fdT d by rw [ht.out, List.take_of_length_le (by have := Hn2.out; omega)]; rfl)
   clear ht
   go_wp2_with fail
   go_ret2
   unfold FdQ
   rw [HO.out, Hd.out, HT.out]
   exact ⟨rfl, HB2.out⟩
set_option maxRecDepth 100000 in
set_option maxHeartbeats 8000000 in
theorem s_FormatDesign {w : World} {S : Nat → Prop} {v : Value} {d : TDesign} (hz : sDesign d ≤ 1048576) (h : RDesign w S v d) (hS : ∀ b, S b → b < w.heap.size) :
  Calls Tryd.prog 16 #[v] w (FdQ d w) := by
 obtain ⟨i0, hi, hz0, hz1, hz2⟩ := info_parts Tryd.infoU8
 obtain ⟨A, c, rfl, hr, hm⟩ := dsn_open h
 obtain ⟨n, hl⟩ : ∃ n, d.length = n := ⟨_, rfl⟩
 rw [hl] at hr hm h ⊢
 unfold maxLen at hm
 have Hl := Lib.hid hl
 have Hr := Lib.hid hr
 have H := Lib.hid h
 obtain ⟨U0, hU0⟩ : ∃ U0, U0 = w.alloc (.cells #[.slice A n c] 31) := ⟨_, rfl⟩
 have hu0 : w.heap.size < U0.heap.size := by rw [hU0]; simp
 have HB0 := Lib.hid (show Below w.heap.size w U0 by rw [hU0]; exact ((Below.refl _ _).alloc (Nat.le_refl _) _))
 have HXD := Lib.hid (show Blk U0 w.heap.size 31 #[.slice A n c] by rw [hU0]; exact (Blk.new _ _ _))
 have HU0 := Lib.hid hU0
 clear hl hr h hU0
 go_enter Tryd.func16, Tryd.ntmps16
 go_wp2_with fail
 rw [← HU0.out]
 refine (s_DesignOk (by omega) (RDesign.under H.out hS HB0.out) (fun b hb => by have := hS b hb; omega)).mono ?_
 rintro e w1 ⟨rfl, hb1⟩
 have HD1 := Lib.hid (HXD.out.below hb1 HXD.out.lt)
 have HB1 := Lib.hid (HB0.out.trans (hb1.mono (by omega)))
 have zz1 := hb1.size
 clear hb1
 cases hd : designB d with
 | false =>
  have HO := Lib.hid (fdR_no hd)
  have Hd := Lib.hid hd
  clear hd
  go_wp2_with fail
  go_ret2
  unfold FdQ
  rw [HO.out, Hd.out]
  exact ⟨rfl, HB1.out⟩
 | true =>
 have Hd := Lib.hid hd
 have HO := Lib.hid (fdR_yes hd)
 have y0 := blkS1 HD1.out
 clear hd
 go_wp2_with fail
 refine (s_l05Lines hz Hd.out (RDesign.under H.out hS HB1.out) (fun b hb => by have := hS b hb; omega)).mono ?_
 rintro e w2 ⟨v2, rfl, hq, hb2⟩
 have HB2 := Lib.hid (HB1.out.trans (hb2.mono (by omega)))
 have zz2 := HB2.out.size
 obtain ⟨A2, n2, c2, rfl⟩ := slv_of hq.rep
 have hn2 : (linesD d).length = n2 := by have := hq.len; rw [List.length_map, List.length_map] at this; exact this
 have hn3 : n2 ≤ 268 := by rw [← hn2]; exact linesD_len Hd.out
 have Hn2 := Lib.hid hn2
 have HR := Lib.hid (strs_reads hq.rep (B := w2.heap.size) (fun b hb => hb.2))
 clear hq hn2 hb2 y0
 have HE := Lib.hid (World.ownsRow_made (base := w2.heap.size) (size := 1) (e := 5) w2 #[] 0 (Nat.le_refl _) (by unfold maxLen; omega) rfl)
 go_wp2_with fail
 go_loopw [5, 6] (fun bv iv wr => ∃ (k : Nat) (t : List UInt8), k ≤ n2 ∧ iv = .int .i64 k ∧ wr.ownsRow w2.heap.size 5 1 bv t.length (bys t) ∧ Hid (t = ((linesD d).take k).flatMap fun l => l ++ [10]) ∧ t.length ≤ 901 * k ∧ Below w2.heap.size w2 wr) (fun _ iv _ => n2 - (intOf iv).toNat)
 case atStart => exact ⟨0, [], Nat.zero_le _, rfl, HE.out, Lib.hid (by simp), by simp, (Below.refl _ _).alloc (Nat.le_refl _) _⟩
 case round =>
  obtain ⟨k, t, hk, rfl, hown, ht, htl, hb⟩ := hrel
  obtain ⟨Ao, co, rfl, _, _, _⟩ := own_form hown
  have Hown := Lib.hid hown
  have Hb := Lib.hid hb
  have hsz := hb.size
  have gx : (0 : Int) ≤ (k : Int) := by omega
  by_cases hlt : k < n2
  ·obtain ⟨ad, x, rfl, hab, hx, hc⟩ := HR.out.str_at hlt
   obtain ⟨l, hl, hlx⟩ : ∃ l, (linesD d)[k]? = some l ∧ x = bt l := by
    rw [List.getElem?_map] at hx
    cases h1 : (linesD d)[k]? with
    | none => rw [h1] at hx; cases hx
    | some l => rw [h1] at hx; injection hx with hx; exact ⟨l, rfl, hx.symm⟩
   subst hlx
   have Hs := Lib.hid (flat_snoc (f := fun l : List UInt8 => l ++ [10]) hl)
   have hll := lineD_len Hd.out l (List.mem_of_getElem? hl)
   have g4 : (k : Int) < (n2 : Int) := by omega
   clear hl hx
   simp only [bt] at hc
   have hc := (hb.cell (p := ad.add k) (by rw [block_of_add]; exact hab)).trans hc
   have hsum1 : (l.length : Int) + 1 ≤ 8388608 := by omega
   have hcat : (⟨l.toArray⟩ : ByteArray) ++ ⟨#[10]⟩ = ⟨(l ++ [10]).toArray⟩ := cat_two l [10]
   obtain ⟨y, hy⟩ : ∃ y, y = l ++ [10] := ⟨_, rfl⟩
   rw [← hy] at hcat
   have Hy := Lib.hid hy
   have hyl : y.length = l.length + 1 := by rw [hy]; simp
   clear hb hown hy
   go_wp2_with (at_builtin; refine Lib.wpList_append_own_string _ rfl _ _ 44 9 rfl w2.heap.size 5 i0 Tryd.underlying44 Tryd.underlying9 hi hz0 hz1 hz2 _ t.length (bys t) rfl Hown.out ⟨y.toArray⟩ rfl (by show t.length + y.length ≤ maxLen; unfold maxLen; omega) (by show t.length + y.length ≤ _; omega) (by omega) ?_; intro v3 w3 hown3 hgrow3 hblk3)
   have HC3 := Lib.hid (Hb.out.trans (below_of_grown hgrow3 (by omega) (fun g hg => (Hown.out.lt g hg).1)))
   have Hown3 := Lib.hid hown3
   clear hown3 hgrow3 hblk3
   go_wp2_with fail
   go_roundw
   case rel => exact ⟨k + 1, t ++ (l ++ [10]), by omega, by go_num, by
    have h1 := Hown3.out
    rw [← Hy.out, bys_app, List.length_append]
    exact h1, Lib.hid (by rw [ht.out, Hs.out]), by simp; omega, HC3.out⟩
   case measure => simp [intOf]; omega
  ·have hge : (n2 : Int) ≤ (k : Int) := by omega
   have HT := Lib.hid (show t = fdT d by rw [ht.out, List.take_of_length_le (by have := Hn2.out; omega)]; rfl)
   have hcv := run_str Hown.out
   clear ht hb hown
   go_wp2_with fail
   go_ret2
   unfold FdQ
   rw [HO.out, Hd.out, ← HT.out]
   exact ⟨rfl, HB2.out.trans (Hb.out.mono (by omega))⟩
end Go.Proofs.YtlgbdpcobbbglaaDoor

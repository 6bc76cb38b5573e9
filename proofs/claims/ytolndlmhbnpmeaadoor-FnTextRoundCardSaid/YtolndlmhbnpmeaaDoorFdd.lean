/- Contracts: a design's text: the program's and the reference's functions. -/
import Derived.Test.YtolndlmhbnpmeaaDoorFdl
import Derived.Lib.AppendStr
import Derived.Outline
namespace Go.Proofs.YtolndlmhbnpmeaaDoor
open Go.RowKit

theorem bys_app (a b : List UInt8) : bys (a ++ b) = bys a ++ bys b := by simp [bys]
def FdQ (d : TDesign) (w : World) (e : Ending) (w' : World) : Prop := e = .returned (.tuple #[.string ⟨(fdR d).toArray⟩, .bool (designB d)]) ∧ Below w.heap.size w w'
set_option maxRecDepth 100000 in
set_option maxHeartbeats 8000000 in
theorem i_FormatDesign {w : World} {S : Nat → Prop} {v : Value} {d : TDesign} (hz : sDesign d ≤ 1048576) (h : RDesign w S v d) (hS : ∀ b, S b → b < w.heap.size) (hsg : SignsAt w) :
  Calls Tryd.prog 6 #[v] w (FdQ d w) := by
 obtain ⟨A, c, rfl, hr, hm⟩ := dsn_open h
 obtain ⟨n, hl⟩ : ∃ n, d.length = n := ⟨_, rfl⟩
 rw [hl] at hr hm h ⊢
 unfold maxLen at hm
 have Hl := Lib.hid hl
 have Hr := Lib.hid hr
 have H := Lib.hid h
 obtain ⟨U0, hU0⟩ : ∃ U0, U0 = w.alloc (.cells #[.slice A n c] 26) := ⟨_, rfl⟩
 have hu0 : w.heap.size < U0.heap.size := by rw [hU0]; simp
 have HB0 := Lib.hid (show Below w.heap.size w U0 by rw [hU0]; exact ((Below.refl _ _).alloc (Nat.le_refl _) _))
 have HXD := Lib.hid (show Blk U0 w.heap.size 26 #[.slice A n c] by rw [hU0]; exact (Blk.new _ _ _))
 have HU0 := Lib.hid hU0
 clear hl hr h hU0
 go_enter Tryd.func6, Tryd.ntmps6
 go_wp2_with fail
 rw [← HU0.out]
 refine (i_designLines hz (RDesign.under H.out hS HB0.out) (fun b hb => by have := hS b hb; omega) (hsg.below HB0.out)).mono ?_
 rintro e w2 ⟨v2, rfl, hq, hb2⟩
 have HB2 := Lib.hid (HB0.out.trans (hb2.mono (by omega)))
 clear hb2
 cases hd : designB d with
 | false =>
  have HO := Lib.hid (fdR_no hd)
  have Hd := Lib.hid hd
  obtain ⟨A2, n2, c2, rfl⟩ := slv_of hq.rep
  clear hd hq
  go_wp2_with fail
  go_ret2
  unfold FdQ
  rw [HO.out, Hd.out]
  exact ⟨rfl, HB2.out⟩
 | true =>
 have Hd := Lib.hid hd
 have HO := Lib.hid (fdR_yes hd)
 rw [dlR_yes hd] at hq
 obtain ⟨A2, n2, c2, rfl⟩ := slv_of hq.rep
 have hn2 : (linesD d).length = n2 := by have := hq.len; rw [List.length_map, List.length_map] at this; exact this
 have hn3 : n2 ≤ 268 := by rw [← hn2]; exact linesD_len hd
 have Hn2 := Lib.hid hn2
 have HR := Lib.hid (strs_reads hq.rep (B := w2.heap.size) (fun b hb => hb.2))
 clear hd hq hn2
 go_wp2_with fail
 go_loopw [6, 8, 18] (fun sv _ iv wr => ∃ (k : Nat) (t : List UInt8), k ≤ n2 ∧ iv = .int .i64 k ∧ sv = .string ⟨t.toArray⟩ ∧ Hid (t = ((linesD d).take k).flatMap fun l => l ++ [10]) ∧ t.length ≤ 901 * k ∧ wr = w2) (fun _ _ iv _ => n2 - (intOf iv).toNat)
 case atStart => exact ⟨0, [], Nat.zero_le _, rfl, rfl, Lib.hid (by simp), by simp, rfl⟩
 case round =>
  obtain ⟨k, t, hk, rfl, rfl, ht, htl, rfl⟩ := hrel
  have gx : (0 : Int) ≤ (k : Int) := by omega
  by_cases hlt : k < n2
  ·obtain ⟨ad, x, rfl, hab, hx, hc⟩ := HR.out.str_at hlt
   obtain ⟨l, hl, hlx⟩ : ∃ l, (linesD d)[k]? = some l ∧ x = bt l := by
    rw [List.getElem?_map] at hx
    cases h1 : (linesD d)[k]? with
    | none => rw [h1] at hx; cases hx
    | some l => rw [h1] at hx; injection hx with hx; exact ⟨l, rfl, hx.symm⟩
   subst hlx
   have Hs := Lib.hid (flat_snoc (f := fun l : List UInt8 => l ++ [10]) hl)
   have hll := lineD_len Hd.out l (List.mem_of_getElem? hl)
   have g4 : (k : Int) < (n2 : Int) := by omega
   clear hl hx
   simp only [bt] at hc
   have hsum1 : (l.length : Int) + 1 ≤ 8388608 := by omega
   have hsum2 : (t.length : Int) + ((l ++ [10]).length : Int) ≤ 8388608 := by simp; omega
   go_wp2_with fail
   go_roundw
   case rel => exact ⟨k + 1, t ++ (l ++ [10]), by omega, by go_num, by rw [← cat_two, ← cat_two], Lib.hid (by rw [ht.out, Hs.out]), by simp; omega, trivial⟩
   case measure => simp [intOf]; omega
  ·have hge : (n2 : Int) ≤ (k : Int) := by omega
   have HT := Lib.hid (show t = fdT d by rw [ht.out, List.take_of_length_le (by have := Hn2.out; omega)]; rfl)
   clear ht
   go_wp2_with fail
   go_ret2
   unfold FdQ
   rw [HO.out, Hd.out, HT.out]
   exact ⟨rfl, HB2.out⟩
end Go.Proofs.YtolndlmhbnpmeaaDoor

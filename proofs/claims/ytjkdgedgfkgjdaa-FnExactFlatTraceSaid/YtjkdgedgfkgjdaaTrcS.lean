/- Contracts: all cycles of a flat module: the reference's functions. -/
import Derived.Test.YtjkdgedgfkgjdaaTrcA
import Derived.Test.YtjkdgedgfkgjdaaStpD
import Derived.Test.YtjkdgedgfkgjdaaFstS
import Derived.Deep.CutRange
import Derived.Outline
namespace Go.Proofs.Ytjkdgedgfkgjdaa
open Go.RowKit

set_option maxRecDepth 100000 in
set_option maxHeartbeats 8000000 in
theorem s_l07RunOk {w : World} {S S4 : Nat → Prop} {v : Value} {Ai : Option Addr} {nx ci : Nat} {m : TModule} {ins : List (List Int)} (hz : sModule m ≤ 1048576)
  (h : RModule w S v m) (hS : ∀ b, S b → b < w.heap.size) (hin : Rep w S4 (.slice Ai nx ci) (fIntSS ins)) (hS4 : ∀ b, S4 b → b < w.heap.size) :
  Calls Try.prog 89 #[v, .slice Ai nx ci] w fun e w' => e = .returned (.bool (runB m ins)) ∧ Below w.heap.size w w' := by
 have hnx := hin.len
 rw [List.length_map] at hnx
 have Hins := Lib.hid hin
 have Hnx := Lib.hid hnx
 clear hin
 obtain ⟨A0, c0, A1, c1, A2, c2, A3, c3, rfl, hSg, hAs, -, hMe, hm0, hm1, hm2, hm3⟩ := mod_open h
 obtain ⟨ns, hns⟩ : ∃ ns, m.1.length = ns := ⟨_, rfl⟩
 obtain ⟨na, hna⟩ : ∃ na, m.2.1.length = na := ⟨_, rfl⟩
 obtain ⟨ni, hni⟩ : ∃ ni, m.2.2.1.length = ni := ⟨_, rfl⟩
 obtain ⟨nm, hnm⟩ : ∃ nm, m.2.2.2.length = nm := ⟨_, rfl⟩
 rw [hns, hna, hni, hnm] at h ⊢
 rw [hns] at hSg hm0
 rw [hna] at hAs hm1
 rw [hni] at hm2
 rw [hnm] at hMe hm3
 unfold maxLen at hm0 hm1 hm2 hm3
 have Hn := Lib.hid (And.intro hns (And.intro hna (And.intro hni hnm)))
 have H := Lib.hid h
 have HSg := Lib.hid hSg
 have HAs := Lib.hid hAs
 have HMe := Lib.hid hMe
 have HB0 := Lib.hid ((Below.refl w.heap.size w).alloc (Nat.le_refl _) (.cells #[.slice A0 ns c0, .slice A1 na c1, .slice A2 ni c2, .slice A3 nm c3] 41))
 have HX0 := Lib.hid (Blk.new w 41 #[.slice A0 ns c0, .slice A1 na c1, .slice A2 ni c2, .slice A3 nm c3])
 clear hns hna hnm hni h hSg hAs hMe
 go_enter Try.func89, Try.ntmps89
 obtain ⟨y0, y1, y2, y3⟩ := blkS4 HX0.out
 go_wp2_with fail
 obtain ⟨U0, hU0⟩ : ∃ U0, U0 = w.alloc (.cells #[.slice A0 ns c0, .slice A1 na c1, .slice A2 ni c2, .slice A3 nm c3] 41) := ⟨_, rfl⟩
 have hu0 : w.heap.size < U0.heap.size := by rw [hU0]; simp
 rw [← hU0] at HB0 HX0 ⊢
 clear hU0 y0 y1 y2 y3
 refine (s_FlatOk hz (RModule.under H.out hS HB0.out) (fun b hb => by have := hS b hb; omega)).mono ?_
 rintro e w1 ⟨rfl, hb1⟩
 have HB1 := Lib.hid (HB0.out.trans (hb1.mono (by omega)))
 have HXM1 := Lib.hid (HX0.out.below hb1 HX0.out.lt)
 have zz1 := hb1.size
 clear hb1
 cases hf : flatB m with
 | false =>
  have HR := Lib.hid (runB_flat (ins := ins) hf)
  clear hf
  go_wp2_with fail
  go_ret
  exact ⟨ret_bool HR.out.symm, HB1.out⟩
 | true =>
  have HF := Lib.hid hf
  clear hf
  by_cases h16 : nx ≤ 16
  rotate_left
  ·have HR := Lib.hid (runB_many (m := m) (ins := ins) (by omega))
   have h16' : (16 : Int) < (nx : Int) := by omega
   clear h16 hnx
   go_wp2_with fail
   go_ret
   exact ⟨ret_bool HR.out.symm, HB1.out⟩
  have h16' : ¬ (16 : Int) < (nx : Int) := by omega
  obtain ⟨y0, y1, y2, y3⟩ := blkS4 HXM1.out
  go_wp2_with fail
  refine (s_PortWidths 0 (RModule.under H.out hS HB1.out) (fun b hb => by have := hS b hb; omega)).mono ?_
  rintro e w2 ⟨v3, rfl, hq3, hb2⟩
  obtain ⟨A3', c3', rfl, _, _⟩ := sl_form hq3.rep (List.length_map _)
  obtain ⟨np, hnp⟩ : ∃ np, (widthsM m 0).length = np := ⟨_, rfl⟩
  rw [hnp]
  have Hnp := Lib.hid hnp
  have HB2 := Lib.hid (HB1.out.trans (hb2.mono (by omega)))
  have zz2 := hb2.size
  clear hb2 hq3 hnp y0 y1 y2 y3
  go_wp2_with fail
  go_loopw [6] (fun iv wr => ∃ k : Nat, k ≤ nx ∧ iv = .int .i64 k ∧ Hid ((ins.take k).all (fun x => decide (x.length = (widthsM m 0).length)) = true) ∧ Below w2.heap.size w2 wr) (fun iv _ => nx - (intOf iv).toNat)
  case atStart => exact ⟨0, Nat.zero_le _, rfl, Lib.hid rfl, Below.refl _ _⟩
  case round =>
   obtain ⟨k, hk, rfl, Hal, hb⟩ := hrel
   have Hb := Lib.hid hb
   have hsz := hb.size
   have Hbw := Lib.hid (HB2.out.trans (hb.mono (by omega)))
   have g1 : (0 : Int) ≤ (k : Int) := by omega
   clear hb
   by_cases hlt : k < nx
   ·obtain ⟨ad, x, v0, rfl, hab, hx, hr, e0⟩ := fIntSS_row (Hins.out.under hS4 Hbw.out) hlt
    obtain ⟨Ax, nl, cx, rfl⟩ := slv_of hr
    have hnl := hr.len
    rw [List.length_map] at hnl
    have g2 : (k : Int) < (nx : Int) := by omega
    by_cases hl : nl = np
    ·have hl' : ((nl : Int) != (np : Int)) = false := by simp; omega
     have Hs := Lib.hid (all_take (p := fun x => decide (x.length = (widthsM m 0).length)) hx)
     have Hxl := Lib.hid (show decide (x.length = (widthsM m 0).length) = true from decide_eq_true (by rw [hnl, Hnp.out, hl]))
     subst hl
     clear hx hr hnl hl'
     go_wp2_with fail
     go_roundw
     case rel => exact ⟨k + 1, by omega, by go_num, Lib.hid (by rw [Hs.out, Hal.out, Hxl.out]; rfl), Hb.out⟩
     case measure => simp [intOf]; omega
    ·have hl' : ((nl : Int) != (np : Int)) = true := by simp; omega
     have HR := Lib.hid (runB_row (m := m) hx (by rw [hnl, Hnp.out]; exact hl))
     clear hx hr hnl hl
     go_wp2_with fail
     go_ret
     exact ⟨ret_bool HR.out.symm, Hbw.out⟩
   ·have hge : (nx : Int) ≤ (k : Int) := by omega
    have HR := Lib.hid (runB_yes (m := m) (ins := ins) HF.out (by omega) (by have h1 := Hal.out; rw [List.take_of_length_le (by omega)] at h1; exact h1))
    go_wp2_with fail
    go_ret
    exact ⟨ret_bool HR.out.symm, Hbw.out⟩
end Go.Proofs.Ytjkdgedgfkgjdaa

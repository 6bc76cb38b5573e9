/- Contract: the ports of a module, in a row of the call's own. -/
import Derived.Test.YtlgbdpcobbbglaaPorts
import Derived.Test.YtlgbdpcobbbglaaCpyP
import Derived.Outline
namespace Go.Proofs.Ytlgbdpcobbbglaa
open Go.RowKit

set_option maxRecDepth 100000 in
set_option maxHeartbeats 4000000 in
theorem i_PortsOfO {w : World} {S : Nat → Prop} {v : Value} {m : TModule} (h : RModule w S v m) (hS : ∀ b, S b → b < w.heap.size) :
  Calls Try.prog 44 #[v] w fun e w' => ∃ A n c, e = .returned (.slice A n c) ∧ w'.ownsRow w.heap.size 3 1 (.slice A n c) n (ints (portsM m)) ∧ Below w.heap.size w w' := by
 obtain ⟨i0, hi, hz0, hz1, hz2⟩ := info_parts Try.infoIntC
 obtain ⟨sg, asg, ins, mms⟩ := m
 obtain ⟨v0, v1, v2, v3, rfl, hh0, h1, h2, h3⟩ := h
 obtain ⟨A0, c0, rfl, h0, hm⟩ := sig_row hh0
 clear h1 h2 h3 hh0
 unfold maxLen at hm
 obtain ⟨n, hl⟩ : ∃ n, sg.length = n := ⟨_, rfl⟩
 rw [hl] at h0 hm ⊢
 by_cases h30 : n ≤ 30
 ·go_enter Try.func44, Try.ntmps44
  go_wp2_with fail
  go_loopw [3, 4, 5, 13] (fun ov _ _ iv wr => ∃ k : Nat, k ≤ n ∧ iv = .int .i64 k ∧ wr.ownsRow (w.heap.size + 1) 3 1 ov (idxL isPort (sg.take k)).length (ints (idxL isPort (sg.take k))) ∧ Below (w.heap.size + 1) (w.alloc (.cells #[.slice A0 n c0, v1, v2, v3] 31)) wr) (fun _ _ _ iv _ => n - (intOf iv).toNat)
  case atStart => exact ⟨0, Nat.zero_le _, rfl, World.ownsRow_nil _ _ _ _, Below.refl _ _⟩
  case round =>
   obtain ⟨k, hk, rfl, hown, hb⟩ := hrel
   have Hb := Lib.hid hb
   have Hbw := Lib.hid (show Below w.heap.size w wr from ((Below.refl w.heap.size w).alloc (Nat.le_refl _) _).trans (hb.mono (by omega)))
   have hsz := hb.size
   simp at hsz
   have hlk : (idxL isPort (sg.take k)).length ≤ 30 := by have h1 := idxL_le (p := isPort) (sg.take k); rw [List.length_take] at h1; omega
   have y0 : wr.cell? ⟨w.heap.size, 0, none⟩ = some (.slice A0 n c0) := (hb.cell (p := ⟨w.heap.size, 0, none⟩) (by simp)).trans (by simp [go_sem])
   obtain ⟨L, hL⟩ : ∃ L, L = idxL isPort (sg.take k) := ⟨_, rfl⟩
   rw [← hL] at hown hlk
   obtain ⟨A, c, rfl, _, _, _⟩ := own_form hown
   have HL := Lib.hid hL
   have Hown := Lib.hid hown
   clear hb hown hL
   by_cases hlt : k < n
   ·obtain ⟨ad, x0, x1, x2, rfl, hab, hx, e0, e1, e2⟩ := fSignalS_row (h0.under hS Hbw.out) hlt
    have g1 : (0 : Int) ≤ (k : Int) := by omega
    have g2 : (k : Int) < (n : Int) := by omega
    have Hs := Lib.hid (idxL_succ (p := isPort) hx)
    have Hown1 := Lib.hid (Hown.out.alloc (.cells #[.int .i64 x0, .int .i64 x1, .int .i64 x2] 73))
    have Hb1 := Lib.hid (Hb.out.alloc (by omega) (.cells #[.int .i64 x0, .int .i64 x1, .int .i64 x2] 73))
    clear hx y0
    by_cases hp0 : x0 = 0
    ·subst hp0
     rw [if_pos (by simp [isPort])] at Hs
     go_wp2_with (at_builtin; refine wpList_append_any _ rfl _ _ 47 rfl (w.heap.size + 1) 3 i0 (.int .i64 0) 1 8 Try.underlying47 hi hz0 hz1 hz2 rfl (by decide) _ _ _ rfl (Hown1.out.alloc _) _ _ 1 1 _ rfl (reads_new1 _ _ _ 1 1 rfl) (by intro u hu; simp at hu; first | (subst hu; rfl) | (rcases hu with rfl | rfl <;> rfl) | (rcases hu with rfl | rfl | rfl <;> rfl)) (by unfold maxLen; omega) (by omega) (by (try simp) <;> (try omega)) ?_; intro v2 w2 hown2 hgrow2 hblk2)
     have hb2 := below_push Hb1.out Hown1.out (Nat.le_refl _) (by simp; omega) hgrow2
     have Hown2 := Lib.hid hown2
     clear hown2 hgrow2 hblk2
     go_wp2_with fail
     go_roundw
     case rel => exact ⟨k + 1, by omega, by go_num, by rw [Hs.out, ← HL.out, List.length_append, ints_app]; exact Hown2.out, hb2⟩
     case measure => simp [intOf]; omega
    ·by_cases hp1 : x0 = 1
     ·subst hp1
      rw [if_pos (by simp [isPort])] at Hs
      go_wp2_with (at_builtin; refine wpList_append_any _ rfl _ _ 47 rfl (w.heap.size + 1) 3 i0 (.int .i64 0) 1 8 Try.underlying47 hi hz0 hz1 hz2 rfl (by decide) _ _ _ rfl (Hown1.out.alloc _) _ _ 1 1 _ rfl (reads_new1 _ _ _ 1 1 rfl) (by intro u hu; simp at hu; first | (subst hu; rfl) | (rcases hu with rfl | rfl <;> rfl) | (rcases hu with rfl | rfl | rfl <;> rfl)) (by unfold maxLen; omega) (by omega) (by (try simp) <;> (try omega)) ?_; intro v2 w2 hown2 hgrow2 hblk2)
      have hb2 := below_push Hb1.out Hown1.out (Nat.le_refl _) (by simp; omega) hgrow2
      have Hown2 := Lib.hid hown2
      clear hown2 hgrow2 hblk2
      go_wp2_with fail
      go_roundw
      case rel => exact ⟨k + 1, by omega, by go_num, by rw [Hs.out, ← HL.out, List.length_append, ints_app]; exact Hown2.out, hb2⟩
      case measure => simp [intOf]; omega
     ·rw [if_neg (by simp [isPort, hp0, hp1])] at Hs
      have q0 : (x0 == 0) = false := by simpa using hp0
      have q1 : (x0 == 1) = false := by simpa using hp1
      clear hp0 hp1
      go_wp2_with fail
      go_roundw
      case rel => exact ⟨k + 1, by omega, by go_num, by rw [Hs.out, List.append_nil, ← HL.out]; exact Hown1.out, Hb1.out⟩
      case measure => simp [intOf]; omega
   ·have hkn : k = n := by omega
    have HE := Lib.hid (show L = idxL isPort sg by rw [HL.out, List.take_of_length_le (by omega)])
    have hge : (n : Int) ≤ (k : Int) := by omega
    clear hkn
    go_wp2_with fail
    go_ret
    refine ⟨_, _, _, rfl, ?_, Hbw.out⟩
    have hO := Hown.out
    rw [HE.out] at hO
    have hR : portsM (sg, asg, ins, mms) = idxL isPort sg := by simp only [portsM, portsL]; rw [if_pos (by omega)]
    rw [hR, HE.out]
    exact own_up' hO (fun g hg => by have := (hO.lt g hg).1; omega)
 ·go_enter Try.func44, Try.ntmps44
  go_wp2_with fail
  go_ret
  refine ⟨none, 0, 0, rfl, ?_, bel_⟩
  have hR : portsM (sg, asg, ins, mms) = [] := by simp only [portsM, portsL]; rw [if_neg (by omega)]
  rw [hR]
  exact World.ownsRow_nil _ _ _ _
end Go.Proofs.Ytlgbdpcobbbglaa

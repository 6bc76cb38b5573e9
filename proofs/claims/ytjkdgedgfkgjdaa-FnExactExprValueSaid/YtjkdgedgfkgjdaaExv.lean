/- Contracts: the value of an expression: the program's and the reference's functions. -/
import Derived.Test.YtjkdgedgfkgjdaaSigA
import Derived.Test.YtjkdgedgfkgjdaaGe
import Derived.Outline
namespace Go.Proofs.Ytjkdgedgfkgjdaa
open Go.RowKit

def rg15 (x : Int) : Bool := inR x 0 15
def exB (os : List TOp) (vals : List Int) (W : Int) : Bool := opsB os (vals.length : Int) && (decide (vals.length ≤ 30) && (inR W 1 4 && ((!hasP os) && vals.all rg15)))
noncomputable def exV (os : List TOp) (vals : List Int) (W : Int) : Int := if exB os vals W then ((evF os (natL vals) (mskN W) : Nat) : Int) else -1
theorem exV_no {os : List TOp} {vals : List Int} {W : Int} (h : exB os vals W = false) : -1 = exV os vals W := by unfold exV; rw [h]; rfl
theorem exV_yes {os : List TOp} {vals : List Int} {W : Int} (h : exB os vals W = true) : ((evF os (natL vals) (mskN W) : Nat) : Int) = exV os vals W := by unfold exV; rw [h]; rfl
theorem nat_vals {vals : List Int} (h : vals.all rg15 = true) : vals = nI (natL vals) ∧ ∀ x ∈ natL vals, x ≤ 15 := by
  have h1 := List.all_eq_true.1 h
  refine ⟨?_, fun x hx => ?_⟩
  · unfold nI natL
    rw [List.map_map]
    apply List.ext_getElem?
    intro i
    rw [List.getElem?_map]
    cases hv : vals[i]? with
    | none => rfl
    | some x =>
      have h2 := inR_iff.1 (h1 x (List.mem_of_getElem? hv))
      simp
      omega
  · unfold natL at hx
    obtain ⟨y, hy, rfl⟩ := List.mem_map.1 hx
    have h2 := inR_iff.1 (h1 y hy)
    omega
theorem natL_len (l : List Int) : (natL l).length = l.length := by simp [natL]
theorem ret_int' {a b : Int} (h : a = b) : Ending.returned (.int .i64 a) = .returned (.int .i64 b) := by rw [h]
set_option maxRecDepth 100000 in
set_option maxHeartbeats 8000000 in
theorem i_ExprValue {w : World} {S S2 : Nat → Prop} {A A2 : Option Addr} {n c n2 c2 : Nat} {os : List TOp} {vals : List Int} {W : Int} (hm : n ≤ 1048576) (hm2 : n2 ≤ 1048576)
    (h : Rep w S (.slice A n c) (fOpS os)) (hS : ∀ b, S b → b < w.heap.size) (h2 : Rep w S2 (.slice A2 n2 c2) (fIntS vals)) (hS2 : ∀ b, S2 b → b < w.heap.size) :
    Calls Try.prog 35 #[.slice A n c, .slice A2 n2 c2, .int .i64 W] w fun e w' => e = .returned (.int .i64 (exV os vals W)) ∧ Below w.heap.size w w' := by
  have hn := h.len
  rw [List.length_map] at hn
  have hn2 := h2.len
  rw [List.length_map] at hn2
  have H := Lib.hid h
  have H2 := Lib.hid h2
  have Hn := Lib.hid hn
  have Hn2 := Lib.hid hn2
  clear h h2 hn hn2
  go_enter Try.func35, Try.ntmps35
  go_wp2_with fail
  refine (i_OpsOk (B := w.heap.size) (n2 : Int) (Rep.to_reads eOp_len (by decide) (show Rep _ S _ (frecs eOp os) from H.out) hS) (by omega) (by omega)).mono ?_
  rintro e w1 ⟨rfl, hb1⟩
  have HB1 := Lib.hid hb1
  have zz1 := hb1.size
  clear hb1
  cases ho : opsB os (n2 : Int) with
  | false =>
    have Ho := Lib.hid ho
    clear ho
    go_wp2_with fail
    go_ret
    exact ⟨ret_int' (exV_no (by unfold exB; rw [Hn2.out, Ho.out]; simp)), HB1.out⟩
  | true =>
  have Ho := Lib.hid ho
  clear ho
  by_cases h30 : n2 ≤ 30
  rotate_left
  · have H30 := Lib.hid h30
    have h30' : (30 : Int) < (n2 : Int) := by omega
    clear h30
    go_wp2_with fail
    go_ret
    exact ⟨ret_int' (exV_no (by unfold exB; rw [Hn2.out, Ho.out, decide_eq_false H30.out]; simp)), HB1.out⟩
  have h30' : ¬ (30 : Int) < (n2 : Int) := by omega
  go_wp2_with fail
  refine (i_inRange W 1 4 w1).mono ?_
  rintro e w2 ⟨rfl, rfl⟩
  cases hw : inR W 1 4 with
  | false =>
    have HW := Lib.hid hw
    clear hw
    go_wp2_with fail
    go_ret
    exact ⟨ret_int' (exV_no (by unfold exB; rw [Hn2.out, Ho.out, HW.out]; simp)), HB1.out⟩
  | true =>
  have HW := Lib.hid hw
  clear hw
  go_wp2_with fail
  refine (i_hasParam (H.out.under hS HB1.out) (by unfold maxLen; omega) (fun b hb => by have := hS b hb; omega)).mono ?_
  rintro e w3 ⟨rfl, hb3⟩
  have HB3 := Lib.hid (HB1.out.trans (hb3.mono zz1))
  have zz3 := hb3.size
  clear hb3
  cases hp : hasP os with
  | true =>
    have HP := Lib.hid hp
    clear hp
    go_wp2_with fail
    go_ret
    exact ⟨ret_int' (exV_no (by unfold exB; rw [Hn2.out, Ho.out, HW.out, HP.out]; simp)), HB3.out⟩
  | false =>
  have HP := Lib.hid hp
  clear hp
  go_wp2_with fail
  go_loopw [8, 32] (fun _ iv wr => ∃ k : Nat, k ≤ n2 ∧ iv = .int .i64 k ∧ Hid ((vals.take k).all rg15 = true) ∧ wr = w3) (fun _ iv _ => n2 - (intOf iv).toNat)
  case atStart => exact ⟨0, Nat.zero_le _, rfl, Lib.hid rfl, rfl⟩
  case round =>
    obtain ⟨k, hk, rfl, Hal, rfl⟩ := hrel
    have g1 : (0 : Int) ≤ (k : Int) := by omega
    by_cases hlt : k < n2
    · obtain ⟨ad, x, rfl, hab, hx, e0⟩ := fIntS_row (H2.out.under hS2 HB3.out) hlt
      have g2 : (k : Int) < (n2 : Int) := by omega
      have Hx := Lib.hid hx
      clear hx
      go_wp2_with fail
      refine (i_inRange x 0 15 _).mono ?_
      rintro e w5 ⟨rfl, rfl⟩
      cases hr : inR x 0 15 with
      | false =>
        have HR := Lib.hid (all_not (p := rg15) Hx.out hr)
        clear hr
        go_wp2_with fail
        go_ret
        exact ⟨ret_int' (exV_no (by unfold exB; rw [Hn2.out, Ho.out, HW.out, HR.out]; simp)), HB3.out⟩
      | true =>
        have Hs := Lib.hid (all_take (p := rg15) Hx.out)
        have HR := Lib.hid (show rg15 x = true from hr)
        clear hr
        go_wp2_with fail
        go_roundw
        case rel => exact ⟨k + 1, by omega, by go_num, Lib.hid (by rw [Hs.out, Hal.out, HR.out]; rfl), trivial⟩
        case measure => simp [intOf]; omega
    · have hge : (n2 : Int) ≤ (k : Int) := by omega
      have hal : vals.all rg15 = true := by have h1 := Hal.out; rw [List.take_of_length_le (by have := Hn2.out; omega)] at h1; exact h1
      have Hal2 := Lib.hid hal
      obtain ⟨hnv, hvb⟩ := nat_vals hal
      have hob : opsB os (natL vals).length = true := by rw [natL_len, Hn2.out]; exact Ho.out
      have hW := inR_iff.1 HW.out
      have hops : RepB wr wr.heap.size (.slice A n c) (fOpS os) := (H.out.under hS HB3.out).mono (fun b hb => by have := hS b hb; omega)
      have hvals : RepB wr wr.heap.size (.slice A2 n2 c2) (fIntS (nI (natL vals))) := by rw [← hnv]; exact (H2.out.under hS2 HB3.out).mono (fun b hb => by have := hS2 b hb; omega)
      have HC := Lib.hid (i_exprAt hW hob hvb (evF_ev hob HP.out) wr A A2 n c n2 c2 hops hvals)
      clear hal hnv hvb hob hW hops hvals
      go_wp2_with fail
      refine (HC.out).mono ?_
      rintro e w6 ⟨rfl, hb6⟩
      have HB6 := Lib.hid (HB3.out.trans (hb6.mono (by omega)))
      clear hb6 HC
      go_wp2_with fail
      go_ret
      exact ⟨ret_int' (exV_yes (by unfold exB; rw [Hn2.out, Ho.out, HW.out, HP.out, Hal2.out, decide_eq_true h30]; rfl)), HB6.out⟩
set_option maxRecDepth 100000 in
set_option maxHeartbeats 8000000 in
theorem s_ExprValue {w : World} {S S2 : Nat → Prop} {A A2 : Option Addr} {n c n2 c2 : Nat} {os : List TOp} {vals : List Int} {W : Int} (hm : n ≤ 1048576) (hm2 : n2 ≤ 1048576)
    (h : Rep w S (.slice A n c) (fOpS os)) (hS : ∀ b, S b → b < w.heap.size) (h2 : Rep w S2 (.slice A2 n2 c2) (fIntS vals)) (hS2 : ∀ b, S2 b → b < w.heap.size) :
    Calls Try.prog 33 #[.slice A n c, .slice A2 n2 c2, .int .i64 W] w fun e w' => e = .returned (.int .i64 (exV os vals W)) ∧ Below w.heap.size w w' := by
  have hn := h.len
  rw [List.length_map] at hn
  have hn2 := h2.len
  rw [List.length_map] at hn2
  have H := Lib.hid h
  have H2 := Lib.hid h2
  have Hn := Lib.hid hn
  have Hn2 := Lib.hid hn2
  clear h h2 hn hn2
  go_enter Try.func33, Try.ntmps33
  by_cases h30 : n2 ≤ 30
  rotate_left
  · have H30 := Lib.hid h30
    have h30' : (30 : Int) < (n2 : Int) := by omega
    clear h30
    go_wp2_with fail
    go_ret
    exact ⟨ret_int' (exV_no (by unfold exB; rw [Hn2.out, decide_eq_false H30.out]; simp)), Below.refl _ _⟩
  have h30' : ¬ (30 : Int) < (n2 : Int) := by omega
  go_wp2_with fail
  refine (s_OpsOk (B := w.heap.size) (n2 : Int) (Rep.to_reads eOp_len (by decide) (show Rep _ S _ (frecs eOp os) from H.out) hS) (by omega) (by omega)).mono ?_
  rintro e w1 ⟨rfl, hb1⟩
  have HB1 := Lib.hid hb1
  have zz1 := hb1.size
  clear hb1
  cases ho : opsB os (n2 : Int) with
  | false =>
    have Ho := Lib.hid ho
    clear ho
    go_wp2_with fail
    go_ret
    exact ⟨ret_int' (exV_no (by unfold exB; rw [Hn2.out, Ho.out]; simp)), HB1.out⟩
  | true =>
  have Ho := Lib.hid ho
  clear ho
  go_wp2_with fail
  refine (s_l01In W 1 4 w1).mono ?_
  rintro e w2 ⟨rfl, rfl⟩
  cases hw : inR W 1 4 with
  | false =>
    have HW := Lib.hid hw
    clear hw
    go_wp2_with fail
    go_ret
    exact ⟨ret_int' (exV_no (by unfold exB; rw [Hn2.out, Ho.out, HW.out]; simp)), HB1.out⟩
  | true =>
  have HW := Lib.hid hw
  have HB3 := HB1
  have zz3 := zz1
  clear hw
  go_wp2_with fail
  go_loopw [7] (fun iv wr => ∃ k : Nat, k ≤ n2 ∧ iv = .int .i64 k ∧ Hid ((vals.take k).all rg15 = true) ∧ wr = w1) (fun iv _ => n2 - (intOf iv).toNat)
  case atStart => exact ⟨0, Nat.zero_le _, rfl, Lib.hid rfl, rfl⟩
  case round =>
    obtain ⟨k, hk, rfl, Hal, rfl⟩ := hrel
    have g1 : (0 : Int) ≤ (k : Int) := by omega
    by_cases hlt : k < n2
    · obtain ⟨ad, x, rfl, hab, hx, e0⟩ := fIntS_row (H2.out.under hS2 HB3.out) hlt
      have g2 : (k : Int) < (n2 : Int) := by omega
      have Hx := Lib.hid hx
      clear hx
      go_wp2_with fail
      refine (s_l01In x 0 15 _).mono ?_
      rintro e w5 ⟨rfl, rfl⟩
      cases hr : inR x 0 15 with
      | false =>
        have HR := Lib.hid (all_not (p := rg15) Hx.out hr)
        clear hr
        go_wp2_with fail
        go_ret
        exact ⟨ret_int' (exV_no (by unfold exB; rw [Hn2.out, Ho.out, HW.out, HR.out]; simp)), HB3.out⟩
      | true =>
        have Hs := Lib.hid (all_take (p := rg15) Hx.out)
        have HR := Lib.hid (show rg15 x = true from hr)
        clear hr
        go_wp2_with fail
        go_roundw
        case rel => exact ⟨k + 1, by omega, by go_num, Lib.hid (by rw [Hs.out, Hal.out, HR.out]; rfl), trivial⟩
        case measure => simp [intOf]; omega
    · have hge : (n2 : Int) ≤ (k : Int) := by omega
      have hal : vals.all rg15 = true := by have h1 := Hal.out; rw [List.take_of_length_le (by have := Hn2.out; omega)] at h1; exact h1
      have Hal2 := Lib.hid hal
      obtain ⟨wl, hwl⟩ : ∃ wl, wl = wr := ⟨_, rfl⟩
      subst hwl
      clear hal
      go_wp2_with fail
      clear hge g1
      go_loopw [8] (fun iv wr => ∃ k : Nat, k ≤ n ∧ iv = .int .i64 k ∧ Hid ((os.take k).any hp1 = false) ∧ wr = wl) (fun iv _ => n - (intOf iv).toNat)
      case atStart => exact ⟨0, Nat.zero_le _, rfl, Lib.hid rfl, rfl⟩
      case round =>
        obtain ⟨k, hk, rfl, Hok, rfl⟩ := hrel
        have g1 : (0 : Int) ≤ (k : Int) := by omega
        by_cases hlt : k < n
        · obtain ⟨ad, x0, x1, x2, rfl, hab, hx, e0, e1, e2⟩ := fOpS_row (H.out.under hS HB3.out) hlt
          have g2 : (k : Int) < (n : Int) := by omega
          have Hx := Lib.hid hx
          clear hx
          by_cases h1 : x0 = 1
          · subst h1
            have HP := Lib.hid (show hasP os = true by unfold hasP; exact any_hit (p := hp1) Hx.out (by simp [hp1]))
            go_wp2_with fail
            go_ret
            exact ⟨ret_int' (exV_no (by unfold exB; rw [Hn2.out, Ho.out, HW.out, HP.out]; simp)), HB3.out⟩
          · have q1 : (x0 == 1) = false := by simpa using h1
            have H1 := Lib.hid h1
            clear h1
            go_wp2_with fail
            go_roundw
            case rel => exact ⟨k + 1, by omega, by go_num, Lib.hid (by rw [any_take Hx.out, Hok.out, show hp1 (x0, x1, x2) = false by simp [hp1, H1.out]]; rfl), trivial⟩
            case measure => simp [intOf]; omega
        · have hge : (n : Int) ≤ (k : Int) := by omega
          have HP := Lib.hid (show hasP os = false by have h1 := Hok.out; rw [List.take_of_length_le (by have := Hn.out; omega)] at h1; exact h1)
          obtain ⟨hnv, hvb⟩ := nat_vals Hal2.out
          have hob : opsB os (natL vals).length = true := by rw [natL_len, Hn2.out]; exact Ho.out
          have hW := inR_iff.1 HW.out
          have hops : RepB wr wr.heap.size (.slice A n c) (fOpS os) := (H.out.under hS HB3.out).mono (fun b hb => by have := hS b hb; omega)
          have hvals : RepB wr wr.heap.size (.slice A2 n2 c2) (fIntS (nI (natL vals))) := by rw [← hnv]; exact (H2.out.under hS2 HB3.out).mono (fun b hb => by have := hS2 b hb; omega)
          have HC := Lib.hid (s_l07Eval (mskN_is hW) hob hvb (evF_ev hob HP.out) wr A A2 n c n2 c2 hops hvals)
          clear hnv hvb hob hops hvals
          rcases mskN_cases hW with ⟨rfl, hM⟩ | ⟨rfl, hM⟩ | ⟨rfl, hM⟩ | ⟨rfl, hM⟩
          · rw [hM] at HC
            go_wp2_with fail
            refine (HC.out).mono ?_
            rintro e w6 ⟨rfl, hb6⟩
            have HB6 := Lib.hid (HB3.out.trans (hb6.mono (by omega)))
            clear hb6 HC hM
            go_wp2_with fail
            go_ret
            exact ⟨ret_int' (exV_yes (by unfold exB; rw [Hn2.out, Ho.out, HW.out, HP.out, Hal2.out, decide_eq_true h30]; rfl)), HB6.out⟩
          · rw [hM] at HC
            go_wp2_with fail
            refine (HC.out).mono ?_
            rintro e w6 ⟨rfl, hb6⟩
            have HB6 := Lib.hid (HB3.out.trans (hb6.mono (by omega)))
            clear hb6 HC hM
            go_wp2_with fail
            go_ret
            exact ⟨ret_int' (exV_yes (by unfold exB; rw [Hn2.out, Ho.out, HW.out, HP.out, Hal2.out, decide_eq_true h30]; rfl)), HB6.out⟩
          · rw [hM] at HC
            go_wp2_with fail
            refine (HC.out).mono ?_
            rintro e w6 ⟨rfl, hb6⟩
            have HB6 := Lib.hid (HB3.out.trans (hb6.mono (by omega)))
            clear hb6 HC hM
            go_wp2_with fail
            go_ret
            exact ⟨ret_int' (exV_yes (by unfold exB; rw [Hn2.out, Ho.out, HW.out, HP.out, Hal2.out, decide_eq_true h30]; rfl)), HB6.out⟩
          · rw [hM] at HC
            go_wp2_with fail
            refine (HC.out).mono ?_
            rintro e w6 ⟨rfl, hb6⟩
            have HB6 := Lib.hid (HB3.out.trans (hb6.mono (by omega)))
            clear hb6 HC hM
            go_wp2_with fail
            go_ret
            exact ⟨ret_int' (exV_yes (by unfold exB; rw [Hn2.out, Ho.out, HW.out, HP.out, Hal2.out, decide_eq_true h30]; rfl)), HB6.out⟩
end Go.Proofs.Ytjkdgedgfkgjdaa

/- Law of hexadecimal texts: for every code the drawn text is decoded from its encoding. Conditions: none. -/
import Derived.Test.YtcfpjcknilbinaaFrame3
import Derived.Test.YtcfpjcknilbinaaDrawH
namespace Go.Proofs.Ytcfpjcknilbinaa
open Go.ChangeShapes Go.WideShapes Go.ChangeAt Go.RowKit

def OneS (m : Nat) (w : World) (e : Ending) (w' : World) : Prop := ∃ s : ByteArray, e = .returned (.string s) ∧ s.size ≤ m ∧ Below w.heap.size w w'

theorem hv_fig {x : Nat} (h : x < 16) : hv (fig x).toNat = x := by
  rw [fig_nat h]
  unfold hv
  repeat (split <;> try omega)
theorem pr_enc : ∀ (l : List UInt8) (j : Nat) (h : j < l.length), pr (enc l) j = (((l[j].toNat / 16 : Nat) : Int), ((l[j].toNat % 16 : Nat) : Int))
  | c :: l, 0, _ => by
    have hc := c.toNat_lt
    show (hv (fig (c.toNat / 16)).toNat, hv (fig (c.toNat % 16)).toNat) = _
    rw [hv_fig (by omega), hv_fig (by omega)]
    rfl
  | c :: l, j + 1, h => by
    have := pr_enc l j (by simpa using h)
    rw [List.getElem_cons_succ, ← this]
    rfl
theorem dec_enc (l : List UInt8) : dec (enc l) l.length = l := by
  apply List.ext_getElem (by simp [dec])
  intro j h1 h2
  simp only [dec, List.getElem_map, List.getElem_range]
  rw [pr_enc l j h2]
  have hx := l[j].toNat_lt
  apply UInt8.toNat_inj.1
  rw [UInt8.toNat_ofNat']
  simp only
  omega
theorem decOk_enc (l : List UInt8) : decOk (enc l) l.length = true := by
  unfold decOk
  rw [List.all_eq_true]
  intro j hj
  rw [pr_enc l j (by simpa using hj)]
  simp
  omega

set_option maxRecDepth 100000 in
set_option maxHeartbeats 2000000 in
theorem s_DrawEncodeHex {w : World} {A : Option Addr} {n c : Nat} {l : List UInt8} (hr : Reads w w.heap.size 1 A n (bys l)) (hn : n ≤ 1048576) : Calls Try.prog 80 #[.slice A n c] w (OneS 20001 w) := by
  go_enter Try.func80, Try.ntmps80
  go_wp2_with fail
  refine (s_New hr hn).mono ?_
  rintro e w1 ⟨g, rfl, hc1, hb1⟩
  go_wp2_with fail
  refine (s_Once 60 hc1).mono ?_
  rintro e w2 ⟨b, rfl, hc2, hg2⟩
  have hb2 := below_cur hb1 hc1 hg2
  cases b
  · go_wp2_with fail
    refine (s_Below 30 hc2).mono ?_
    rintro e w3 ⟨x, rfl, hx, hc3, hg3⟩
    obtain ⟨hx0, hx1⟩ := hx.1 (by omega)
    have hb3 := below_cur hb2 hc2 hg3
    clear hx
    obtain ⟨m, rfl⟩ := Int.eq_ofNat_of_zero_le hx0
    go_wp2_with fail
    refine (s_Text m (by omega) hc3).mono ?_
    rintro e w4 ⟨s, rfl, hs, hc4, hg4⟩
    have hb4 := below_cur hb3 hc3 hg4
    go_wp2_with fail
    go_ret
    exact ⟨_, rfl, by omega, hb4⟩
  · go_wp2_with fail
    refine (s_Below 2 hc2).mono ?_
    rintro e w3 ⟨x, rfl, hx, hc3, hg3⟩
    obtain ⟨hx0, hx1⟩ := hx.1 (by omega)
    have hb3 := below_cur hb2 hc2 hg3
    clear hx
    obtain ⟨m, rfl⟩ := Int.eq_ofNat_of_zero_le hx0
    have hm1 : m < 2 := by omega
    clear hx0 hx1
    have g1 : (0 : Int) ≤ (m : Int) := by omega
    have g2 : (m : Int) ≤ 1 := by omega
    go_wp2_with fail
    rw [show (20000 : Int) + (m : Int) = ((20000 + m : Nat) : Int) by omega]
    refine (s_Long _ (20000 + m) 200 (by omega) (by omega)).mono ?_
    rintro e w4 ⟨s, rfl, hs, hb4⟩
    have hb4' := hb3.trans (hb4.mono hb3.size)
    go_wp2_with fail
    go_ret
    exact ⟨_, rfl, by omega, hb4'⟩

set_option maxRecDepth 100000 in
set_option maxHeartbeats 4000000 in
theorem walk_FnHexText (A : Option Addr) (n c : Nat) (l : List UInt8) (w : World) (hr : Reads w w.heap.size 1 A n (bys l)) : Calls Try.prog 23 #[.slice A n c] w fun e w' => e = .returned (.bool true) ∧ Below w.heap.size w w' := by
  by_cases hb : n ≤ 1048576
  · have H10 := Lib.hid (show Tx.fmtI 10 = [49, 48] by decide)
    go_enter Try.func23, Try.ntmps23
    go_wp2_with (first | (go_at_call 63; go_in))
    refine (s_DrawEncodeHex hr hb).mono ?_
    rintro e w1 ⟨s, rfl, hs, hb1⟩
    go_wp2_with fail
    refine (i_EncodeHex s (by unfold maxLen; omega) _).mono ?_
    rintro e w2 ⟨he, hb2⟩
    have hbb2 := hb1.trans (hb2.mono hb1.size)
    by_cases hl : s.size ≤ 20000
    · rw [if_pos hl] at he
      subst he
      have hlen : (enc s.data.toList).length = 2 * s.size := by rw [enc_len]; rfl
      have Hlen := Lib.hid hlen
      go_wp2_with fail
      refine (i_DecodeHex ⟨(enc s.data.toList).toArray⟩ (by show (enc s.data.toList).length ≤ maxLen; unfold maxLen; omega) _).mono ?_
      rintro e w3 ⟨he, hb3⟩
      have hbb3 := hbb2.trans (hb3.mono (Nat.le_trans hb1.size hb2.size))
      have hz : (⟨(enc s.data.toList).toArray⟩ : ByteArray).size = 2 * s.size := Hlen.out
      have hh : 2 * s.size / 2 = s.data.toList.length := by
        have : s.data.toList.length = s.size := rfl
        omega
      have hd : decB (⟨(enc s.data.toList).toArray⟩ : ByteArray) = true := by
        unfold decB
        rw [hz, hh]
        show (_ && _ && decOk (enc s.data.toList) _) = true
        rw [decOk_enc]
        simp
        omega
      have hv : (⟨(dec (⟨(enc s.data.toList).toArray⟩ : ByteArray).data.toList ((⟨(enc s.data.toList).toArray⟩ : ByteArray).size / 2)).toArray⟩ : ByteArray) = s := by
        rw [hz, hh]
        show (⟨(dec (enc s.data.toList) s.data.toList.length).toArray⟩ : ByteArray) = s
        rw [dec_enc]
      rw [hd, hv] at he
      simp only [if_true] at he
      subst he
      go_wp2_with fail
      go_ret
      exact ⟨by simp, hbb3⟩
    · rw [if_neg hl] at he
      subst he
      go_wp2_with fail
      refine (i_FormatInt 10 ⟨by omega, by omega⟩ _).mono ?_
      rintro e w3 ⟨rfl, hb3⟩
      rw [H10.out]
      have hbb3 := hbb2.trans (hb3.mono (Nat.le_trans hb1.size hb2.size))
      go_wp2_with fail
      go_ret
      exact ⟨rfl, hbb3⟩
  · have hb2 : 1048576 < n := by omega
    go_enter Try.func23, Try.ntmps23
    go_wp2_with (first | (go_at_call 63; go_in))
    go_ret
    exact ⟨rfl, Below.refl _ _⟩
set_option maxRecDepth 100000 in
theorem lifted_FnHexText (os : Os) (started : os.Started) (H : Type) (enc : TypeId × Value → H) :
    ReturnsInHanded {} Try.checked os 23 .any (Rows.fnHexTextSpec.pre6 enc Try.prog Try.f23 Rows.fnHexTextRow.domain false) (Rows.fnHexTextSpec.post enc Try.prog Try.f23 false true false false) := by
  refine lift (F := 23) (fn := Try.f23) (s := Rows.fnHexTextSpec) (conds := Rows.fnHexTextRow.domain) (by kernel_rfl) Try.func23 (by kernel_rfl) rfl (by kernel_rfl) ?_ ?_ os started H enc
    (ChangeSpec.witness6 (enc := enc) (C := Try.checked) false ⟨#[], #[.slice none 0 0], []⟩ 8 (by kernel_rfl) (by kernel_rfl) (by kernel_rfl) (by kernel_rfl))
  · intro H ds hl
    rw [Try.params23] at hl
    match ds, hl with
    | [d0], _ => exact ⟨rfl, rfl, rfl⟩
  · intro W base args H enc ds p hval hA hlt
    rw [Try.params23] at hA hval
    obtain ⟨v0, vs0, e0, es0, p0, q0, hargs, rfl, rfl, h0, r0⟩ := trodAll_cons hA
    obtain ⟨rfl, rfl, rfl⟩ := trodAll_nil r0
    obtain rfl : args = #[v0] := by cases args; simp_all
    obtain ⟨A0, n0, c0, l, rfl, w0⟩ := op_bytes Try.underlying55 Try.underlying5 (by kernel_rfl) (hval 0 55 v0 rfl rfl) h0 (fun x hx => hlt x (by simp [hx]))
    exact walk_FnHexText A0 n0 c0 l W w0
theorem facts_FnHexText : joinedFacts Try.pinned.checked.prog 23 Try.f23 Rows.fnHexTextSpec Rows.fnHexTextRow = true :=
  facts_of (P := Try.prog) mayE liftE makeE rfl rfl (by kernel_rfl) (by kernel_rfl) (by kernel_rfl) (by kernel_rfl) (by kernel_rfl) (by kernel_rfl) (by kernel_rfl) (by kernel_rfl) (by kernel_rfl) (by kernel_rfl) (by kernel_rfl) (by kernel_rfl) (by kernel_rfl) rfl rfl (by kernel_rfl) (by kernel_rfl) (by kernel_rfl) (by kernel_rfl) (by kernel_rfl) (by kernel_rfl) (by kernel_rfl) (by kernel_rfl) (by kernel_rfl) (by kernel_rfl) (by kernel_rfl) rfl rfl (by kernel_rfl) (by kernel_rfl) (by kernel_rfl)
theorem over_FnHexText : Rows.fnHexTextRow.holds Try.pinned (OpenSpec.ofChange Rows.fnHexTextSpec) :=
  OpenClaim.holds_of_wide 23 Try.f23 rfl rfl rfl rfl rfl rfl rfl ⟨rfl, rfl, rfl, rfl, rfl⟩ rfl rfl rfl rfl rfl (by kernel_rfl) Try.func23 facts_FnHexText
    (of_decide_eq_true (by kernel_rfl)) (by unfold Func.isWrapper; first | (rw [if_pos (by decide +kernel)]; kernel_rfl) | (rw [if_neg (by decide +kernel)]; exact ⟨rfl, rfl⟩))
    (fun os started H enc _ => lifted_FnHexText os started H enc)
theorem FnHexText_holds : Rows.FnHexTextSaid := over_FnHexText
end Go.Proofs.Ytcfpjcknilbinaa

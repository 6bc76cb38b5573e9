/- Law of fields: for every code the fields of the drawn line, joined by single spaces, have the same fields. Conditions: none. -/
import Derived.Test.YtbkgjgpoohlieaaFrame3
import Derived.Test.YtbkgjgpoohlieaaFldD
import Derived.Outline
namespace Go.Proofs.Ytbkgjgpoohlieaa
open Go.ChangeShapes Go.WideShapes Go.ChangeAt Go.RowKit

set_option maxRecDepth 100000 in
set_option maxHeartbeats 1000000 in
theorem l_sameTexts {w : World} {B B' : Nat} {A A' : Option Addr} {n m c c' : Nat} {l l' : List ByteArray} (hn : n ≤ 1099511627776) (hm : m ≤ 1099511627776) (h : Reads w B 1 A n (strs l)) (h' : Reads w B' 1 A' m (strs l')) (hB : B ≤ w.heap.size) (hB' : B' ≤ w.heap.size) :
    Calls Try.prog 17 #[.slice A n c, .slice A' m c'] w fun e w' => e = .returned (.bool (decide (l = l'))) ∧ Below w.heap.size w w' := by
  have hl := h.slen
  have hl' := h'.slen
  by_cases hnm : n = m
  · subst hnm
    have Hl := Lib.hid hl
    have Hl' := Lib.hid hl'
    clear hl hl'
    go_enter Try.func17, Try.ntmps17
    go_wp2
    go_loopw [5] (fun i wr => ∃ k : Nat, k ≤ n ∧ i = .int .i64 k ∧ l.take k = l'.take k ∧ Below w.heap.size w wr) (fun i _ => n - (intOf i).toNat)
    case atStart => exact ⟨0, Nat.zero_le _, rfl, rfl, Below.refl _ _⟩
    case round =>
      obtain ⟨k, hk, rfl, heq, hb⟩ := hrel
      have Heq := Lib.hid heq
      have Hb := Lib.hid hb
      clear heq hb
      by_cases hlt : k < n
      · obtain ⟨ad, x, rfl, hab, hx, hc⟩ := h.str_at hlt
        obtain ⟨ad', x', rfl, hab', hx', hc'⟩ := h'.str_at hlt
        have e1 := (Hb.out.cell (p := ad.add k) (by rw [block_of_add]; omega)).trans hc
        have e2 := (Hb.out.cell (p := ad'.add k) (by rw [block_of_add]; omega)).trans hc'
        have Hx := Lib.hid hx
        have Hx' := Lib.hid hx'
        clear hc hc' hx hx'
        have g1 : (0 : Int) ≤ (k : Int) := by omega
        have g2 : (k : Int) < (n : Int) := by omega
        by_cases hxx : x = x'
        · subst hxx
          go_wp2_with fail
          refine wp_region_lex (by kernel_rfl) (by kernel_rfl) (Cls (fun x => x = wr.drew)) (Cls.mk' rfl) ?_
          have lexNE : Nonempty (Wd (fun x => x = wr.drew)) := ⟨⟨_, rfl⟩⟩
          have lexW : ∀ W : Wd (fun x => x = wr.drew), W.val = wr.drew := fun W => W.ok
          (repeat (first | (refine lex_read (by first | exact wanted_n rfl | exact wanted_g rfl rfl rfl rfl) (by exact rfl) (fun K hK => ?_); go_big_quiet_op; refine hK _ ?_; clear hK K) | (refine lex_skip' (by exact wanted_g rfl rfl rfl rfl) (fun K hK => ?_); go_simp; refine hK _ ?_; clear hK K)))
          (refine lex_nil ?_)
          clear lexNE lexW
          go_wp2_with fail
          go_roundw
          case rel =>
            refine ⟨k + 1, by omega, by go_num, ?_, Hb.out.drew⟩
            rw [List.take_add_one, List.take_add_one, Heq.out, Hx.out, Hx'.out]
          case measure => simp [intOf]; omega
        · have hne := str_ne hxx
          have Hxx := Lib.hid hxx
          clear hxx
          go_wp2_with fail
          refine wp_region_lex (by kernel_rfl) (by kernel_rfl) (Cls (fun x => x = wr.drew)) (Cls.mk' rfl) ?_
          have lexNE : Nonempty (Wd (fun x => x = wr.drew)) := ⟨⟨_, rfl⟩⟩
          have lexW : ∀ W : Wd (fun x => x = wr.drew), W.val = wr.drew := fun W => W.ok
          (repeat (first | (refine lex_read (by first | exact wanted_n rfl | exact wanted_g rfl rfl rfl rfl) (by exact rfl) (fun K hK => ?_); go_big_quiet_op; refine hK _ ?_; clear hK K) | (refine lex_skip' (by exact wanted_g rfl rfl rfl rfl) (fun K hK => ?_); go_simp; refine hK _ ?_; clear hK K)))
          (refine lex_nil ?_)
          clear lexNE lexW
          go_wp2_with fail
          go_ret
          refine ⟨ret_bool ?_, Hb.out.drew⟩
          have : l ≠ l' := by
            rintro rfl
            have h1 := Hx.out
            rw [Hx'.out] at h1
            injection h1 with h1
            exact Hxx.out h1.symm
          simp [this]
      · have hke : k = n := by omega
        subst hke
        go_wp2_with fail
        go_ret
        refine ⟨ret_bool ?_, Hb.out⟩
        have h1 := Heq.out
        have h2 := Hl.out
        have h3 := Hl'.out
        rw [List.take_of_length_le (by omega), List.take_of_length_le (by omega)] at h1
        simp [h1]
  · have hne : ((n : Int) != (m : Int)) = true := by simp; omega
    have hll : l ≠ l' := by rintro rfl; omega
    have Hll := Lib.hid hll
    clear hl hl' hll
    go_enter Try.func17, Try.ntmps17
    go_wp2
    go_ret
    exact ⟨ret_bool (by simp [Hll.out]), Below.refl _ _⟩

theorem joinL_all {fs : List ByteArray} : fs.take fs.length = fs := List.take_length
theorem joinL_bd {fs : List ByteArray} (h : ∀ f ∈ fs, fldOk f) (h40 : fs.length ≤ 40) (k : Nat) : (joinL (fs.take k)).length ≤ 24040 := by
  have := joinL_len (fs := fs.take k) fun f hf => h f (List.mem_of_mem_take hf)
  have h2 : (fs.take k).length ≤ 40 := Nat.le_trans (List.length_take_le' ..) h40
  omega

set_option maxRecDepth 100000 in
set_option maxHeartbeats 4000000 in
theorem walk_FnFieldsAgain (A : Option Addr) (n c : Nat) (l : List UInt8) (w : World) (hr : Reads w w.heap.size 1 A n (bys l)) : Calls Try.prog 3 #[.slice A n c] w fun e w' => e = .returned (.bool true) ∧ Below w.heap.size w w' := by
  by_cases hb : n ≤ 1048576
  · have H10 := Lib.hid (show Tx.fmtI (-3) = [45, 51] by decide)
    go_enter Try.func3, Try.ntmps3
    go_wp2_with (first | (go_at_call 12; go_in))
    refine (s_DrawSplitFields hr hb).mono ?_
    rintro e w1 ⟨s, rfl, hs, hb1⟩
    go_wp2_with fail
    refine (i_SplitFields s (by unfold maxLen; omega) _).mono ?_
    rintro e w2 ⟨A2, c2, rfl, hown2, hb2⟩
    have Hb2 := Lib.hid (hb1.trans (hb2.mono hb1.size))
    have Hown2 := Lib.hid (own_mono hown2 hb1.size)
    have z2 := hb2.size
    have z1 := hb1.size
    clear hown2 hb2 hb1
    go_wp2_with fail
    refine (s_SplitFields s (by unfold maxLen; omega) _).mono ?_
    rintro e w3 ⟨A3, c3, rfl, _, hb3⟩
    have Hb3 := Lib.hid (Hb2.out.trans (hb3.mono Hb2.out.size))
    have Hown3 := Lib.hid (own_below Hown2.out hb3 (Nat.le_refl _))
    have z3 := hb3.size
    clear hb3 Hown2 Hb2
    have hf := spR_fld (s := s)
    have h40 := spR_len s
    have HF := Lib.hid hf
    have HJ := Lib.hid (fun t => spR_join (s := s) (t := t))
    clear hf
    by_cases h2 : (spR s).2 = true
    · obtain ⟨fs, hfs⟩ : ∃ fs, fs = (spR s).1 := ⟨_, rfl⟩
      rw [← hfs] at HF Hown3 h40 HJ ⊢
      rw [h2]
      clear hfs h2
      have Hbd := Lib.hid (joinL_bd HF.out h40)
      go_wp2_with fail
      go_loopw [8, 9] (fun v i wr => ∃ (k : Nat) (t : ByteArray), k ≤ fs.length ∧ i = .int .i64 k ∧ v = .string t ∧ t.data.toList = joinL (fs.take k) ∧ wr = w3) (fun _ i _ => fs.length - (intOf i).toNat)
      case atStart => exact ⟨0, ByteArray.empty, Nat.zero_le _, rfl, rfl, rfl, rfl⟩
      case round =>
        obtain ⟨k, t, hk, rfl, rfl, ht, rfl⟩ := hrel
        have hts : t.size ≤ 24040 := by
          have h3 : t.data.toList.length = t.size := rfl
          rw [← h3, ht]
          exact Hbd.out k
        have Ht := Lib.hid ht
        clear ht
        by_cases hlt : k < fs.length
        · obtain ⟨ad, x, rfl, hab, hx, hc⟩ := (Reads.of_own Hown3.out).str_at hlt
          have g1 : (0 : Int) ≤ (k : Int) := by omega
          have g2 : (k : Int) < (fs.length : Int) := by omega
          have hxf := (HF.out x (List.mem_of_getElem? hx)).2.1
          have Hx := Lib.hid hx
          clear hx
          go_wp2_with fail
          go_roundw
          case rel =>
            refine ⟨k + 1, _, by omega, by go_num, rfl, ?_, by first | exact rfl | exact trivial⟩
            rw [joinL_take_succ Hx.out, ← Ht.out]
            simp
          case measure => simp [intOf]; omega
        · obtain rfl : k = fs.length := by omega
          have Ht2 := Lib.hid (show t.data.toList = joinL fs by rw [Ht.out, List.take_length])
          go_wp2_with fail
          refine (i_SplitFields t (by unfold maxLen; omega) _).mono ?_
          rintro e w4 ⟨A4, c4, rfl, hown4, hb4⟩
          have hbb4 := Hb3.out.trans (hb4.mono Hb3.out.size)
          by_cases hl : t.size ≤ 600
          · have hl' : ¬ (600 : Int) < (t.size : Int) := by omega
            have he := HJ.out t Ht2.out hl
            rw [he] at hown4 ⊢
            have R3 := Lib.hid (((Reads.of_own Hown3.out).below hb4).more hb4.size)
            have R4 := Lib.hid (Reads.of_own hown4)
            have Hbb := Lib.hid hbb4
            clear he hown4 hb4 hbb4 hl
            go_wp2_with fail
            refine (l_sameTexts (by omega) (by omega) R3.out R4.out (Nat.le_refl _) (Nat.le_refl _)).mono ?_
            rintro e w5 ⟨rfl, hb5⟩
            have hbb5 := Hbb.out.trans (hb5.mono Hbb.out.size)
            go_wp2_with fail
            go_ret
            exact ⟨by simp, hbb5⟩
          · have hl' : (600 : Int) < (t.size : Int) := by omega
            go_wp2_with fail
            go_ret
            exact ⟨by simp, hbb4⟩
    · have h2 : (spR s).2 = false := by simpa using h2
      have h1 : (spR s).1 = [] := by
        unfold spR at h2 ⊢
        split at h2
        · cases h2
        · rename_i h; rw [if_neg h]
      rw [h2, h1]
      clear h2 h1
      go_wp2_with fail
      refine (i_FormatInt (-3) ⟨by omega, by omega⟩ _).mono ?_
      rintro e w4 ⟨rfl, hb4⟩
      rw [H10.out]
      have hbb4 := Hb3.out.trans (hb4.mono Hb3.out.size)
      go_wp2_with fail
      go_ret
      exact ⟨rfl, hbb4⟩
  · have hb2 : 1048576 < n := by omega
    go_enter Try.func3, Try.ntmps3
    go_wp2_with (first | (go_at_call 12; go_in))
    go_ret
    exact ⟨rfl, Below.refl _ _⟩
set_option maxRecDepth 100000 in
theorem lifted_FnFieldsAgain (os : Os) (started : os.Started) (H : Type) (enc : TypeId × Value → H) :
    ReturnsInHanded {} Try.checked os 3 .any (Rows.fnFieldsAgainSpec.pre6 enc Try.prog Try.f3 Rows.fnFieldsAgainRow.domain false) (Rows.fnFieldsAgainSpec.post enc Try.prog Try.f3 false true false false) := by
  refine lift (F := 3) (fn := Try.f3) (s := Rows.fnFieldsAgainSpec) (conds := Rows.fnFieldsAgainRow.domain) (by kernel_rfl) Try.func3 (by kernel_rfl) rfl (by kernel_rfl) ?_ ?_ os started H enc
    (ChangeSpec.witness6 (enc := enc) (C := Try.checked) false ⟨#[], #[.slice none 0 0], []⟩ 8 (by kernel_rfl) (by kernel_rfl) (by kernel_rfl) (by kernel_rfl))
  · intro H ds hl
    rw [Try.params3] at hl
    match ds, hl with
    | [d0], _ => exact ⟨rfl, rfl, rfl⟩
  · intro W base args H enc ds p hval hA hlt
    rw [Try.params3] at hA hval
    obtain ⟨v0, vs0, e0, es0, p0, q0, hargs, rfl, rfl, h0, r0⟩ := trodAll_cons hA
    obtain ⟨rfl, rfl, rfl⟩ := trodAll_nil r0
    obtain rfl : args = #[v0] := by cases args; simp_all
    obtain ⟨A0, n0, c0, l, rfl, w0⟩ := op_bytes Try.underlying22 Try.underlying5 (by kernel_rfl) (hval 0 22 v0 rfl rfl) h0 (fun x hx => hlt x (by simp [hx]))
    exact walk_FnFieldsAgain A0 n0 c0 l W w0
theorem facts_FnFieldsAgain : joinedFacts Try.pinned.checked.prog 3 Try.f3 Rows.fnFieldsAgainSpec Rows.fnFieldsAgainRow = true :=
  facts_of (P := Try.prog) mayE liftE makeE rfl rfl (by kernel_rfl) (by kernel_rfl) (by kernel_rfl) (by kernel_rfl) (by kernel_rfl) (by kernel_rfl) (by kernel_rfl) (by kernel_rfl) (by kernel_rfl) (by kernel_rfl) (by kernel_rfl) (by kernel_rfl) (by kernel_rfl) rfl rfl (by kernel_rfl) (by kernel_rfl) (by kernel_rfl) (by kernel_rfl) (by kernel_rfl) (by kernel_rfl) (by kernel_rfl) (by kernel_rfl) (by kernel_rfl) (by kernel_rfl) (by kernel_rfl) rfl rfl (by kernel_rfl) (by kernel_rfl) (by kernel_rfl)
theorem over_FnFieldsAgain : Rows.fnFieldsAgainRow.holds Try.pinned (OpenSpec.ofChange Rows.fnFieldsAgainSpec) :=
  OpenClaim.holds_of_wide 3 Try.f3 rfl rfl rfl rfl rfl rfl rfl ⟨rfl, rfl, rfl, rfl, rfl⟩ rfl rfl rfl rfl rfl (by kernel_rfl) Try.func3 facts_FnFieldsAgain
    (of_decide_eq_true (by kernel_rfl)) (by unfold Func.isWrapper; first | (rw [if_pos (by decide +kernel)]; kernel_rfl) | (rw [if_neg (by decide +kernel)]; exact ⟨rfl, rfl⟩))
    (fun os started H enc _ => lifted_FnFieldsAgain os started H enc)
theorem FnFieldsAgain_holds : Rows.FnFieldsAgainSaid := over_FnFieldsAgain
end Go.Proofs.Ytbkgjgpoohlieaa

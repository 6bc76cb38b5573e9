/- Law of numbers: for every code the drawn number is parsed from its text exactly if it is in the range. Conditions: none. -/
import Derived.Test.YtcfpjcknilbinaaFrame3
import Derived.Test.YtcfpjcknilbinaaDrawN
import Derived.Test.YtcfpjcknilbinaaParse
namespace Go.Proofs.Ytcfpjcknilbinaa
open Go.ChangeShapes Go.WideShapes Go.ChangeAt Go.RowKit

def OneI (P : Int → Prop) (w : World) (e : Ending) (w' : World) : Prop := ∃ x : Int, e = .returned (.int .i64 x) ∧ P x ∧ Below w.heap.size w w'

set_option maxRecDepth 100000 in
set_option maxHeartbeats 2000000 in
theorem s_DrawFormatInt {w : World} {A : Option Addr} {n c : Nat} {l : List UInt8} (hr : Reads w w.heap.size 1 A n (bys l)) (hn : n ≤ 1048576) : Calls Try.prog 69 #[.slice A n c] w (OneI i64B w) := by
  go_enter Try.func69, Try.ntmps69
  go_wp2_with fail
  refine (s_New hr hn).mono ?_
  rintro e w1 ⟨g, rfl, hc1, hb1⟩
  go_wp2_with fail
  refine (s_Once 3 hc1).mono ?_
  rintro e w2 ⟨b, rfl, hc2, hg2⟩
  have hb2 := below_cur hb1 hc1 hg2
  cases b
  · go_wp2_with fail
    refine (s_Number hc2).mono ?_
    rintro e w3 ⟨x, rfl, hx, hc3, hg3⟩
    have hb3 := below_cur hb2 hc2 hg3
    have Hx := Lib.hid hx
    go_wp2_with fail
    go_ret
    exact ⟨_, rfl, Hx.out, hb3⟩
  · go_wp2_with fail
    refine (s_Below 1000000 hc2).mono ?_
    rintro e w3 ⟨x, rfl, hx, hc3, hg3⟩
    obtain ⟨hx0, hx1⟩ := hx.1 (by omega)
    have hb3 := below_cur hb2 hc2 hg3
    clear hx
    go_wp2_with fail
    refine (s_Below 2000000 hc3).mono ?_
    rintro e w4 ⟨y, rfl, hy, hc4, hg4⟩
    obtain ⟨hy0, hy1⟩ := hy.1 (by omega)
    have hb4 := below_cur hb3 hc3 hg4
    clear hy
    go_wp2_with fail
    go_ret
    refine ⟨_, rfl, ?_, hb4⟩
    unfold i64B
    clear hx0 hx1 hy0 hy1
    generalize x * (y - 1000000) = z
    unfold wrap64
    constructor <;> omega

theorem pu_fmt {x : Int} (h0 : 0 ≤ x) (h1 : x ≤ 1000000000) : Tx.pu (Tx.fmtI x) = some x.natAbs := by
  have hx : ¬ x < 0 := by omega
  have hlt : x.natAbs < 10 ^ 20 := natAbs_lt ⟨by omega, by omega⟩
  have hd : (Tx.fmtN x.natAbs).all Tx.isD = true := List.all_eq_true.2 (Tx.fmtN_digits _)
  have hv := Tx.fmtN_val hlt
  have hl := Tx.fmtN_len x.natAbs
  have hlead := (Tx.fmt_val_iff hd hl).1 (by rw [hv])
  rw [Tx.fmtI, if_neg hx, Tx.pu, hv]
  rw [if_pos]
  refine ⟨hlead, ?_, hd, by omega⟩
  -- at most ten digits
  have hb : Tx.fmtN x.natAbs = Tx.fmtN (Tx.val (Tx.fmtN x.natAbs)) := by rw [hv]
  unfold Tx.fmtN
  split
  · simp
  · have h10 : x.natAbs < 10 ^ 10 := by
      have : (1000000000 : Nat) < 10 ^ 10 := by decide
      omega
    rw [Tx.dg_fuel (g := 10) hlt h10]
    have := Tx.dg_len (f := 10) (a := x.natAbs) []
    simpa using this
theorem pu_not {x : Int} (hi : i64B x) (h : ¬ (0 ≤ x ∧ x ≤ 1000000000)) : Tx.pu (Tx.fmtI x) = none := by
  have hlt := natAbs_lt hi
  by_cases hn : x < 0
  · refine pu_digits ?_
    rw [Tx.fmtI, if_pos hn]
    simp [Tx.isD]
  · rw [Tx.fmtI, if_neg hn, Tx.pu, Tx.fmtN_val hlt, if_neg]
    intro hc
    exact h ⟨by omega, by omega⟩
theorem fmt_ne (x : Int) (hi : i64B x) : Tx.fmtI x ≠ [] := by
  have hlt := natAbs_lt hi
  unfold Tx.fmtI
  split
  · simp
  · exact Tx.fmtN_ne _ hlt

set_option maxRecDepth 100000 in
set_option maxHeartbeats 4000000 in
theorem walk_FnNumbers (A : Option Addr) (n c : Nat) (l : List UInt8) (w : World) (hr : Reads w w.heap.size 1 A n (bys l)) : Calls Try.prog 20 #[.slice A n c] w fun e w' => e = .returned (.bool true) ∧ Below w.heap.size w w' := by
  by_cases hb : n ≤ 1048576
  · go_enter Try.func20, Try.ntmps20
    go_wp2_with (first | (go_at_call 63; go_in))
    refine (s_DrawFormatInt hr hb).mono ?_
    rintro e w1 ⟨x, rfl, hx, hb1⟩
    have Hx := Lib.hid hx
    have hx1 := hx.1
    have hx2 := hx.2
    clear hx
    go_wp2_with fail
    refine (i_FormatInt x Hx.out _).mono ?_
    rintro e w2 ⟨rfl, hb2⟩
    have hne := fmt_ne x Hx.out
    have hne1 : (Tx.fmtI x == []) = false := by simpa using hne
    have hne2 : (Tx.fmtI x).isEmpty = false := by simpa using hne
    have hlen := Tx.fmtI_len x
    have Hlen := Lib.hid hlen
    clear hlen
    go_wp2_with fail
    refine (i_ParseUint ⟨(Tx.fmtI x).toArray⟩ (by show (Tx.fmtI x).length ≤ maxLen; have := Hlen.out; unfold maxLen; omega) _).mono ?_
    rintro e w3 ⟨he, hb3⟩
    have hbb : Below w.heap.size w w3 := (hb1.trans (hb2.mono hb1.size)).trans (hb3.mono (Nat.le_trans hb1.size hb2.size))
    by_cases hin : 0 ≤ x ∧ x ≤ 1000000000
    · have hp : puV (⟨(Tx.fmtI x).toArray⟩ : ByteArray).data.toList = .tuple #[.int .i64 x, .bool true] := by
        show puV (Tx.fmtI x) = _
        rw [puV_some (pu_fmt hin.1 hin.2), Int.natAbs_of_nonneg hin.1]
      rw [hp] at he
      subst he
      have hi1 := hin.1
      have hi2 := hin.2
      clear hp hin
      go_wp2_with fail
      go_ret
      exact ⟨rfl, hbb⟩
    · have hp : puV (⟨(Tx.fmtI x).toArray⟩ : ByteArray).data.toList = .tuple #[.int .i64 0, .bool false] := by
        show puV (Tx.fmtI x) = _
        rw [puV_none (pu_not Hx.out hin)]
      rw [hp] at he
      subst he
      clear hp
      by_cases h0 : 0 ≤ x
      · have hi2 : 1000000000 < x := by omega
        clear hin
        go_wp2_with fail
        go_ret
        exact ⟨rfl, hbb⟩
      · have hi2 : x < 0 := by omega
        clear hin h0
        go_wp2_with fail
        go_ret
        exact ⟨rfl, hbb⟩
  · go_enter Try.func20, Try.ntmps20
    go_wp2_with (first | (go_at_call 63; go_in))
    go_ret
    exact ⟨rfl, Below.refl _ _⟩
set_option maxRecDepth 100000 in
theorem lifted_FnNumbers (os : Os) (started : os.Started) (H : Type) (enc : TypeId × Value → H) :
    ReturnsInHanded {} Try.checked os 20 .any (Rows.fnNumbersSpec.pre6 enc Try.prog Try.f20 Rows.fnNumbersRow.domain false) (Rows.fnNumbersSpec.post enc Try.prog Try.f20 false true false false) := by
  refine lift (F := 20) (fn := Try.f20) (s := Rows.fnNumbersSpec) (conds := Rows.fnNumbersRow.domain) (by kernel_rfl) Try.func20 (by kernel_rfl) rfl (by kernel_rfl) ?_ ?_ os started H enc
    (ChangeSpec.witness6 (enc := enc) (C := Try.checked) false ⟨#[], #[.slice none 0 0], []⟩ 8 (by kernel_rfl) (by kernel_rfl) (by kernel_rfl) (by kernel_rfl))
  · intro H ds hl
    rw [Try.params20] at hl
    match ds, hl with
    | [d0], _ => exact ⟨rfl, rfl, rfl⟩
  · intro W base args H enc ds p hval hA hlt
    rw [Try.params20] at hA hval
    obtain ⟨v0, vs0, e0, es0, p0, q0, hargs, rfl, rfl, h0, r0⟩ := trodAll_cons hA
    obtain ⟨rfl, rfl, rfl⟩ := trodAll_nil r0
    obtain rfl : args = #[v0] := by cases args; simp_all
    obtain ⟨A0, n0, c0, l, rfl, w0⟩ := op_bytes Try.underlying55 Try.underlying5 (by kernel_rfl) (hval 0 55 v0 rfl rfl) h0 (fun x hx => hlt x (by simp [hx]))
    exact walk_FnNumbers A0 n0 c0 l W w0
theorem facts_FnNumbers : joinedFacts Try.pinned.checked.prog 20 Try.f20 Rows.fnNumbersSpec Rows.fnNumbersRow = true :=
  facts_of (P := Try.prog) mayE liftE makeE rfl rfl (by kernel_rfl) (by kernel_rfl) (by kernel_rfl) (by kernel_rfl) (by kernel_rfl) (by kernel_rfl) (by kernel_rfl) (by kernel_rfl) (by kernel_rfl) (by kernel_rfl) (by kernel_rfl) (by kernel_rfl) (by kernel_rfl) rfl rfl (by kernel_rfl) (by kernel_rfl) (by kernel_rfl) (by kernel_rfl) (by kernel_rfl) (by kernel_rfl) (by kernel_rfl) (by kernel_rfl) (by kernel_rfl) (by kernel_rfl) (by kernel_rfl) rfl rfl (by kernel_rfl) (by kernel_rfl) (by kernel_rfl)
theorem over_FnNumbers : Rows.fnNumbersRow.holds Try.pinned (OpenSpec.ofChange Rows.fnNumbersSpec) :=
  OpenClaim.holds_of_wide 20 Try.f20 rfl rfl rfl rfl rfl rfl rfl ⟨rfl, rfl, rfl, rfl, rfl⟩ rfl rfl rfl rfl rfl (by kernel_rfl) Try.func20 facts_FnNumbers
    (of_decide_eq_true (by kernel_rfl)) (by unfold Func.isWrapper; first | (rw [if_pos (by decide +kernel)]; kernel_rfl) | (rw [if_neg (by decide +kernel)]; exact ⟨rfl, rfl⟩))
    (fun os started H enc _ => lifted_FnNumbers os started H enc)
theorem FnNumbers_holds : Rows.FnNumbersSaid := over_FnNumbers
end Go.Proofs.Ytcfpjcknilbinaa

/- Contracts: is an operator valid, is a list of operators an expression: the program's and the reference's functions. -/
import Derived.Test.YtjiijjihkgipkaaOpA
import Derived.Test.YtjiijjihkgipkaaOpS
namespace Go.Proofs.Ytjiijjihkgipkaa
open Go.RowKit

def opB (k a b s : Int) : Bool :=
  if k = 0 then inR a 0 15 && decide (b = 0) else if k = 2 then decide (0 ≤ a) && decide (a < s) && decide (b = 0) else if k = 3 then decide (0 ≤ a) && decide (a < s) && inR b 0 3
  else decide (0 ≤ opAr k) && decide (a = 0) && decide (b = 0)

set_option maxRecDepth 100000 in
set_option maxHeartbeats 4000000 in
theorem i_opOk (k a b s : Int) (w : World) : Calls Try.prog 129 #[.agg #[.int .i64 k, .int .i64 a, .int .i64 b], .int .i64 s] w fun e w' => e = .returned (.bool (opB k a b s)) ∧ Below w.heap.size w w' := by
  have hb : (b == 0) = decide (b = 0) := by rw [Bool.eq_iff_iff]; simp
  have ha : (a == 0) = decide (a = 0) := by rw [Bool.eq_iff_iff]; simp
  by_cases h0 : k = 0
  · subst h0
    have He := Lib.hid (show opB 0 a b s = (inR a 0 15 && decide (b = 0)) by unfold opB; rw [if_pos rfl])
    go_enter Try.func129, Try.ntmps129
    cases hx : inR a 0 15
    · have Hx := Lib.hid hx
      clear hx ha hb
      go_wp2_with (first | (go_at_call 67; refine (i_inRange _ _ _ _).mono ?_; rintro e w' ⟨rfl, rfl⟩; rw [Hx.out]))
      go_ret
      exact ⟨ret_bool (by rw [He.out, Hx.out]; rfl), (by repeat (first | with_reducible exact Below.refl _ _ | with_reducible assumption | with_reducible refine below_drewN ?_ _ | with_reducible refine Below.drew ?_ | ((with_reducible refine Below.alloc ?_ ?_ _); rotate_left; (((try simp) <;> (try omega)) <;> done)) | ((with_reducible refine Below.setCell ?_ ?_ _); rotate_left; (((try simp) <;> (try omega)) <;> done)) | ((with_reducible refine Below.trans ?_ (Below.mono (by with_reducible assumption) ?_)); rotate_left; (((try simp) <;> (try omega)) <;> done))))⟩
    · have Hx := Lib.hid hx
      have Hb := Lib.hid hb
      clear hx ha hb
      go_wp2_with (first | (go_at_call 67; refine (i_inRange _ _ _ _).mono ?_; rintro e w' ⟨rfl, rfl⟩; rw [Hx.out]))
      go_ret
      exact ⟨ret_bool (by rw [He.out, Hx.out, ← Hb.out]; rfl), (by repeat (first | with_reducible exact Below.refl _ _ | with_reducible assumption | with_reducible refine below_drewN ?_ _ | with_reducible refine Below.drew ?_ | ((with_reducible refine Below.alloc ?_ ?_ _); rotate_left; (((try simp) <;> (try omega)) <;> done)) | ((with_reducible refine Below.setCell ?_ ?_ _); rotate_left; (((try simp) <;> (try omega)) <;> done)) | ((with_reducible refine Below.trans ?_ (Below.mono (by with_reducible assumption) ?_)); rotate_left; (((try simp) <;> (try omega)) <;> done))))⟩
  · have q0 : (k == 0) = false := by simpa using h0
    by_cases h2 : k = 2
    · subst h2
      have He := Lib.hid (show opB 2 a b s = (decide (0 ≤ a) && decide (a < s) && decide (b = 0)) by unfold opB; rw [if_neg h0, if_pos rfl])
      have Hb := Lib.hid hb
      clear ha hb q0
      by_cases h3 : 0 ≤ a
      · by_cases h4 : a < s
        · go_enter Try.func129, Try.ntmps129
          go_wp2_with fail
          go_ret
          exact ⟨ret_bool (by rw [He.out, ← Hb.out]; simp [h3, h4]), (by repeat (first | with_reducible exact Below.refl _ _ | with_reducible assumption | with_reducible refine below_drewN ?_ _ | with_reducible refine Below.drew ?_ | ((with_reducible refine Below.alloc ?_ ?_ _); rotate_left; (((try simp) <;> (try omega)) <;> done)) | ((with_reducible refine Below.setCell ?_ ?_ _); rotate_left; (((try simp) <;> (try omega)) <;> done)) | ((with_reducible refine Below.trans ?_ (Below.mono (by with_reducible assumption) ?_)); rotate_left; (((try simp) <;> (try omega)) <;> done))))⟩
        · have h4' : s ≤ a := by omega
          go_enter Try.func129, Try.ntmps129
          go_wp2_with fail
          go_ret
          exact ⟨ret_bool (by rw [He.out]; simp <;> intros <;> omega), (by repeat (first | with_reducible exact Below.refl _ _ | with_reducible assumption | with_reducible refine below_drewN ?_ _ | with_reducible refine Below.drew ?_ | ((with_reducible refine Below.alloc ?_ ?_ _); rotate_left; (((try simp) <;> (try omega)) <;> done)) | ((with_reducible refine Below.setCell ?_ ?_ _); rotate_left; (((try simp) <;> (try omega)) <;> done)) | ((with_reducible refine Below.trans ?_ (Below.mono (by with_reducible assumption) ?_)); rotate_left; (((try simp) <;> (try omega)) <;> done))))⟩
      · have h3' : a < 0 := by omega
        go_enter Try.func129, Try.ntmps129
        go_wp2_with fail
        go_ret
        exact ⟨ret_bool (by rw [He.out]; simp <;> intros <;> omega), (by repeat (first | with_reducible exact Below.refl _ _ | with_reducible assumption | with_reducible refine below_drewN ?_ _ | with_reducible refine Below.drew ?_ | ((with_reducible refine Below.alloc ?_ ?_ _); rotate_left; (((try simp) <;> (try omega)) <;> done)) | ((with_reducible refine Below.setCell ?_ ?_ _); rotate_left; (((try simp) <;> (try omega)) <;> done)) | ((with_reducible refine Below.trans ?_ (Below.mono (by with_reducible assumption) ?_)); rotate_left; (((try simp) <;> (try omega)) <;> done))))⟩
    · have q2 : (k == 2) = false := by simpa using h2
      by_cases h3 : k = 3
      · subst h3
        have He := Lib.hid (show opB 3 a b s = (decide (0 ≤ a) && decide (a < s) && inR b 0 3) by unfold opB; rw [if_neg h0, if_neg h2, if_pos rfl])
        clear ha hb q0 q2
        by_cases h3 : 0 ≤ a
        · by_cases h4 : a < s
          · go_enter Try.func129, Try.ntmps129
            go_wp2_with (first | (go_at_call 67; refine (i_inRange _ _ _ _).mono ?_; rintro e w' ⟨rfl, rfl⟩))
            go_ret
            exact ⟨ret_bool (by rw [He.out]; simp [h3, h4]), (by repeat (first | with_reducible exact Below.refl _ _ | with_reducible assumption | with_reducible refine below_drewN ?_ _ | with_reducible refine Below.drew ?_ | ((with_reducible refine Below.alloc ?_ ?_ _); rotate_left; (((try simp) <;> (try omega)) <;> done)) | ((with_reducible refine Below.setCell ?_ ?_ _); rotate_left; (((try simp) <;> (try omega)) <;> done)) | ((with_reducible refine Below.trans ?_ (Below.mono (by with_reducible assumption) ?_)); rotate_left; (((try simp) <;> (try omega)) <;> done))))⟩
          · have h4' : s ≤ a := by omega
            go_enter Try.func129, Try.ntmps129
            go_wp2_with fail
            go_ret
            exact ⟨ret_bool (by rw [He.out]; simp <;> intros <;> omega), (by repeat (first | with_reducible exact Below.refl _ _ | with_reducible assumption | with_reducible refine below_drewN ?_ _ | with_reducible refine Below.drew ?_ | ((with_reducible refine Below.alloc ?_ ?_ _); rotate_left; (((try simp) <;> (try omega)) <;> done)) | ((with_reducible refine Below.setCell ?_ ?_ _); rotate_left; (((try simp) <;> (try omega)) <;> done)) | ((with_reducible refine Below.trans ?_ (Below.mono (by with_reducible assumption) ?_)); rotate_left; (((try simp) <;> (try omega)) <;> done))))⟩
        · have h3' : a < 0 := by omega
          go_enter Try.func129, Try.ntmps129
          go_wp2_with fail
          go_ret
          exact ⟨ret_bool (by rw [He.out]; simp <;> intros <;> omega), (by repeat (first | with_reducible exact Below.refl _ _ | with_reducible assumption | with_reducible refine below_drewN ?_ _ | with_reducible refine Below.drew ?_ | ((with_reducible refine Below.alloc ?_ ?_ _); rotate_left; (((try simp) <;> (try omega)) <;> done)) | ((with_reducible refine Below.setCell ?_ ?_ _); rotate_left; (((try simp) <;> (try omega)) <;> done)) | ((with_reducible refine Below.trans ?_ (Below.mono (by with_reducible assumption) ?_)); rotate_left; (((try simp) <;> (try omega)) <;> done))))⟩
      · have q3 : (k == 3) = false := by simpa using h3
        have He := Lib.hid (show opB k a b s = (decide (0 ≤ opAr k) && decide (a = 0) && decide (b = 0)) by unfold opB; rw [if_neg h0, if_neg h2, if_neg h3])
        have Ha := Lib.hid ha
        have Hb := Lib.hid hb
        clear ha hb h0 h2 h3
        by_cases h4 : 0 ≤ opAr k
        · by_cases h5 : a = 0
          · subst h5
            go_enter Try.func129, Try.ntmps129
            go_wp2_with (first | (go_at_call 130; refine (i_OpArity _ _).mono ?_; rintro e w' ⟨rfl, rfl⟩))
            go_ret
            exact ⟨ret_bool (by rw [He.out, ← Hb.out]; simp [h4]), (by repeat (first | with_reducible exact Below.refl _ _ | with_reducible assumption | with_reducible refine below_drewN ?_ _ | with_reducible refine Below.drew ?_ | ((with_reducible refine Below.alloc ?_ ?_ _); rotate_left; (((try simp) <;> (try omega)) <;> done)) | ((with_reducible refine Below.setCell ?_ ?_ _); rotate_left; (((try simp) <;> (try omega)) <;> done)) | ((with_reducible refine Below.trans ?_ (Below.mono (by with_reducible assumption) ?_)); rotate_left; (((try simp) <;> (try omega)) <;> done))))⟩
          · have q5 : (a == 0) = false := by simpa using h5
            have H5 := Lib.hid h5
            clear h5
            go_enter Try.func129, Try.ntmps129
            go_wp2_with (first | (go_at_call 130; refine (i_OpArity _ _).mono ?_; rintro e w' ⟨rfl, rfl⟩))
            go_ret
            exact ⟨ret_bool (by rw [He.out]; simp [H5.out]), (by repeat (first | with_reducible exact Below.refl _ _ | with_reducible assumption | with_reducible refine below_drewN ?_ _ | with_reducible refine Below.drew ?_ | ((with_reducible refine Below.alloc ?_ ?_ _); rotate_left; (((try simp) <;> (try omega)) <;> done)) | ((with_reducible refine Below.setCell ?_ ?_ _); rotate_left; (((try simp) <;> (try omega)) <;> done)) | ((with_reducible refine Below.trans ?_ (Below.mono (by with_reducible assumption) ?_)); rotate_left; (((try simp) <;> (try omega)) <;> done))))⟩
        · have h4' : opAr k < 0 := by omega
          go_enter Try.func129, Try.ntmps129
          go_wp2_with (first | (go_at_call 130; refine (i_OpArity _ _).mono ?_; rintro e w' ⟨rfl, rfl⟩))
          go_ret
          exact ⟨ret_bool (by rw [He.out]; simp <;> intros <;> omega), (by repeat (first | with_reducible exact Below.refl _ _ | with_reducible assumption | with_reducible refine below_drewN ?_ _ | with_reducible refine Below.drew ?_ | ((with_reducible refine Below.alloc ?_ ?_ _); rotate_left; (((try simp) <;> (try omega)) <;> done)) | ((with_reducible refine Below.setCell ?_ ?_ _); rotate_left; (((try simp) <;> (try omega)) <;> done)) | ((with_reducible refine Below.trans ?_ (Below.mono (by with_reducible assumption) ?_)); rotate_left; (((try simp) <;> (try omega)) <;> done))))⟩
set_option maxRecDepth 100000 in
set_option maxHeartbeats 4000000 in
theorem s_l04Op (k a b s : Int) (w : World) : Calls Try.prog 127 #[.agg #[.int .i64 k, .int .i64 a, .int .i64 b], .int .i64 s] w fun e w' => e = .returned (.bool (opB k a b s)) ∧ Below w.heap.size w w' := by
  have hb : (b == 0) = decide (b = 0) := by rw [Bool.eq_iff_iff]; simp
  have ha : (a == 0) = decide (a = 0) := by rw [Bool.eq_iff_iff]; simp
  by_cases h0 : k = 0
  · subst h0
    have He := Lib.hid (show opB 0 a b s = (inR a 0 15 && decide (b = 0)) by unfold opB; rw [if_pos rfl])
    go_enter Try.func127, Try.ntmps127
    cases hx : inR a 0 15
    · have Hx := Lib.hid hx
      clear hx ha hb
      go_wp2_with (first | (go_at_call 72; refine (s_l01In _ _ _ _).mono ?_; rintro e w' ⟨rfl, rfl⟩; rw [Hx.out]))
      go_ret
      exact ⟨ret_bool (by rw [He.out, Hx.out]; rfl), (by repeat (first | with_reducible exact Below.refl _ _ | with_reducible assumption | with_reducible refine below_drewN ?_ _ | with_reducible refine Below.drew ?_ | ((with_reducible refine Below.alloc ?_ ?_ _); rotate_left; (((try simp) <;> (try omega)) <;> done)) | ((with_reducible refine Below.setCell ?_ ?_ _); rotate_left; (((try simp) <;> (try omega)) <;> done)) | ((with_reducible refine Below.trans ?_ (Below.mono (by with_reducible assumption) ?_)); rotate_left; (((try simp) <;> (try omega)) <;> done))))⟩
    · have Hx := Lib.hid hx
      have Hb := Lib.hid hb
      clear hx ha hb
      go_wp2_with (first | (go_at_call 72; refine (s_l01In _ _ _ _).mono ?_; rintro e w' ⟨rfl, rfl⟩; rw [Hx.out]))
      go_ret
      exact ⟨ret_bool (by rw [He.out, Hx.out, ← Hb.out]; rfl), (by repeat (first | with_reducible exact Below.refl _ _ | with_reducible assumption | with_reducible refine below_drewN ?_ _ | with_reducible refine Below.drew ?_ | ((with_reducible refine Below.alloc ?_ ?_ _); rotate_left; (((try simp) <;> (try omega)) <;> done)) | ((with_reducible refine Below.setCell ?_ ?_ _); rotate_left; (((try simp) <;> (try omega)) <;> done)) | ((with_reducible refine Below.trans ?_ (Below.mono (by with_reducible assumption) ?_)); rotate_left; (((try simp) <;> (try omega)) <;> done))))⟩
  · have q0 : (k == 0) = false := by simpa using h0
    by_cases h2 : k = 2
    · subst h2
      have He := Lib.hid (show opB 2 a b s = (decide (0 ≤ a) && decide (a < s) && decide (b = 0)) by unfold opB; rw [if_neg h0, if_pos rfl])
      have Hb := Lib.hid hb
      clear ha hb q0
      by_cases h3 : 0 ≤ a
      · by_cases h4 : a < s
        · go_enter Try.func127, Try.ntmps127
          go_wp2_with fail
          go_ret
          exact ⟨ret_bool (by rw [He.out, ← Hb.out]; simp [h3, h4]), (by repeat (first | with_reducible exact Below.refl _ _ | with_reducible assumption | with_reducible refine below_drewN ?_ _ | with_reducible refine Below.drew ?_ | ((with_reducible refine Below.alloc ?_ ?_ _); rotate_left; (((try simp) <;> (try omega)) <;> done)) | ((with_reducible refine Below.setCell ?_ ?_ _); rotate_left; (((try simp) <;> (try omega)) <;> done)) | ((with_reducible refine Below.trans ?_ (Below.mono (by with_reducible assumption) ?_)); rotate_left; (((try simp) <;> (try omega)) <;> done))))⟩
        · have h4' : s ≤ a := by omega
          go_enter Try.func127, Try.ntmps127
          go_wp2_with fail
          go_ret
          exact ⟨ret_bool (by rw [He.out]; simp <;> intros <;> omega), (by repeat (first | with_reducible exact Below.refl _ _ | with_reducible assumption | with_reducible refine below_drewN ?_ _ | with_reducible refine Below.drew ?_ | ((with_reducible refine Below.alloc ?_ ?_ _); rotate_left; (((try simp) <;> (try omega)) <;> done)) | ((with_reducible refine Below.setCell ?_ ?_ _); rotate_left; (((try simp) <;> (try omega)) <;> done)) | ((with_reducible refine Below.trans ?_ (Below.mono (by with_reducible assumption) ?_)); rotate_left; (((try simp) <;> (try omega)) <;> done))))⟩
      · have h3' : a < 0 := by omega
        go_enter Try.func127, Try.ntmps127
        go_wp2_with fail
        go_ret
        exact ⟨ret_bool (by rw [He.out]; simp <;> intros <;> omega), (by repeat (first | with_reducible exact Below.refl _ _ | with_reducible assumption | with_reducible refine below_drewN ?_ _ | with_reducible refine Below.drew ?_ | ((with_reducible refine Below.alloc ?_ ?_ _); rotate_left; (((try simp) <;> (try omega)) <;> done)) | ((with_reducible refine Below.setCell ?_ ?_ _); rotate_left; (((try simp) <;> (try omega)) <;> done)) | ((with_reducible refine Below.trans ?_ (Below.mono (by with_reducible assumption) ?_)); rotate_left; (((try simp) <;> (try omega)) <;> done))))⟩
    · have q2 : (k == 2) = false := by simpa using h2
      by_cases h3 : k = 3
      · subst h3
        have He := Lib.hid (show opB 3 a b s = (decide (0 ≤ a) && decide (a < s) && inR b 0 3) by unfold opB; rw [if_neg h0, if_neg h2, if_pos rfl])
        clear ha hb q0 q2
        by_cases h3 : 0 ≤ a
        · by_cases h4 : a < s
          · go_enter Try.func127, Try.ntmps127
            go_wp2_with (first | (go_at_call 72; refine (s_l01In _ _ _ _).mono ?_; rintro e w' ⟨rfl, rfl⟩))
            go_ret
            exact ⟨ret_bool (by rw [He.out]; simp [h3, h4]), (by repeat (first | with_reducible exact Below.refl _ _ | with_reducible assumption | with_reducible refine below_drewN ?_ _ | with_reducible refine Below.drew ?_ | ((with_reducible refine Below.alloc ?_ ?_ _); rotate_left; (((try simp) <;> (try omega)) <;> done)) | ((with_reducible refine Below.setCell ?_ ?_ _); rotate_left; (((try simp) <;> (try omega)) <;> done)) | ((with_reducible refine Below.trans ?_ (Below.mono (by with_reducible assumption) ?_)); rotate_left; (((try simp) <;> (try omega)) <;> done))))⟩
          · have h4' : s ≤ a := by omega
            go_enter Try.func127, Try.ntmps127
            go_wp2_with fail
            go_ret
            exact ⟨ret_bool (by rw [He.out]; simp <;> intros <;> omega), (by repeat (first | with_reducible exact Below.refl _ _ | with_reducible assumption | with_reducible refine below_drewN ?_ _ | with_reducible refine Below.drew ?_ | ((with_reducible refine Below.alloc ?_ ?_ _); rotate_left; (((try simp) <;> (try omega)) <;> done)) | ((with_reducible refine Below.setCell ?_ ?_ _); rotate_left; (((try simp) <;> (try omega)) <;> done)) | ((with_reducible refine Below.trans ?_ (Below.mono (by with_reducible assumption) ?_)); rotate_left; (((try simp) <;> (try omega)) <;> done))))⟩
        · have h3' : a < 0 := by omega
          go_enter Try.func127, Try.ntmps127
          go_wp2_with fail
          go_ret
          exact ⟨ret_bool (by rw [He.out]; simp <;> intros <;> omega), (by repeat (first | with_reducible exact Below.refl _ _ | with_reducible assumption | with_reducible refine below_drewN ?_ _ | with_reducible refine Below.drew ?_ | ((with_reducible refine Below.alloc ?_ ?_ _); rotate_left; (((try simp) <;> (try omega)) <;> done)) | ((with_reducible refine Below.setCell ?_ ?_ _); rotate_left; (((try simp) <;> (try omega)) <;> done)) | ((with_reducible refine Below.trans ?_ (Below.mono (by with_reducible assumption) ?_)); rotate_left; (((try simp) <;> (try omega)) <;> done))))⟩
      · have q3 : (k == 3) = false := by simpa using h3
        have He := Lib.hid (show opB k a b s = (decide (0 ≤ opAr k) && decide (a = 0) && decide (b = 0)) by unfold opB; rw [if_neg h0, if_neg h2, if_neg h3])
        have Ha := Lib.hid ha
        have Hb := Lib.hid hb
        clear ha hb h0 h2 h3
        by_cases h4 : 0 ≤ opAr k
        · by_cases h5 : a = 0
          · subst h5
            go_enter Try.func127, Try.ntmps127
            go_wp2_with (first | (go_at_call 128; refine (s_OpArity _ _).mono ?_; rintro e w' ⟨rfl, rfl⟩))
            go_ret
            exact ⟨ret_bool (by rw [He.out, ← Hb.out]; simp [h4]), (by repeat (first | with_reducible exact Below.refl _ _ | with_reducible assumption | with_reducible refine below_drewN ?_ _ | with_reducible refine Below.drew ?_ | ((with_reducible refine Below.alloc ?_ ?_ _); rotate_left; (((try simp) <;> (try omega)) <;> done)) | ((with_reducible refine Below.setCell ?_ ?_ _); rotate_left; (((try simp) <;> (try omega)) <;> done)) | ((with_reducible refine Below.trans ?_ (Below.mono (by with_reducible assumption) ?_)); rotate_left; (((try simp) <;> (try omega)) <;> done))))⟩
          · have q5 : (a == 0) = false := by simpa using h5
            have H5 := Lib.hid h5
            clear h5
            go_enter Try.func127, Try.ntmps127
            go_wp2_with (first | (go_at_call 128; refine (s_OpArity _ _).mono ?_; rintro e w' ⟨rfl, rfl⟩))
            go_ret
            exact ⟨ret_bool (by rw [He.out]; simp [H5.out]), (by repeat (first | with_reducible exact Below.refl _ _ | with_reducible assumption | with_reducible refine below_drewN ?_ _ | with_reducible refine Below.drew ?_ | ((with_reducible refine Below.alloc ?_ ?_ _); rotate_left; (((try simp) <;> (try omega)) <;> done)) | ((with_reducible refine Below.setCell ?_ ?_ _); rotate_left; (((try simp) <;> (try omega)) <;> done)) | ((with_reducible refine Below.trans ?_ (Below.mono (by with_reducible assumption) ?_)); rotate_left; (((try simp) <;> (try omega)) <;> done))))⟩
        · have h4' : opAr k < 0 := by omega
          go_enter Try.func127, Try.ntmps127
          go_wp2_with (first | (go_at_call 128; refine (s_OpArity _ _).mono ?_; rintro e w' ⟨rfl, rfl⟩))
          go_ret
          exact ⟨ret_bool (by rw [He.out]; simp <;> intros <;> omega), (by repeat (first | with_reducible exact Below.refl _ _ | with_reducible assumption | with_reducible refine below_drewN ?_ _ | with_reducible refine Below.drew ?_ | ((with_reducible refine Below.alloc ?_ ?_ _); rotate_left; (((try simp) <;> (try omega)) <;> done)) | ((with_reducible refine Below.setCell ?_ ?_ _); rotate_left; (((try simp) <;> (try omega)) <;> done)) | ((with_reducible refine Below.trans ?_ (Below.mono (by with_reducible assumption) ?_)); rotate_left; (((try simp) <;> (try omega)) <;> done))))⟩
end Go.Proofs.Ytjiijjihkgipkaa

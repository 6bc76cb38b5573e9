/- Contracts: are the lists of a design short enough: the program's function. -/
import Derived.Test.YtjiijjihkgipkaaDsn
import Derived.Test.YtjiijjihkgipkaaNum
import Derived.Outline
namespace Go.Proofs.Ytjiijjihkgipkaa
open Go.RowKit

set_option maxRecDepth 100000 in
set_option maxHeartbeats 4000000 in
theorem i_countsOk {w : World} {S : Nat → Prop} {v : Value} {d : TDesign} (h : RDesign w S v d) (hS : ∀ b, S b → b < w.heap.size) :
    Calls Try.prog 68 #[v] w fun e w' => e = .returned (.bool (countsB d)) ∧ Below w.heap.size w w' := by
  obtain ⟨A, c, rfl, hr, hm⟩ := dsn_open h
  obtain ⟨n, hl⟩ : ∃ n, d.length = n := ⟨_, rfl⟩
  rw [hl] at hr hm ⊢
  have Hl := Lib.hid hl
  unfold maxLen at hm
  clear h hl
  by_cases h4 : n ≤ 4
  · go_enter Try.func68, Try.ntmps68
    go_wp2_with fail
    go_loopw [4, 12] (fun _ iv wr => ∃ k : Nat, k ≤ n ∧ iv = .int .i64 k ∧ Hid ((d.take k).all cntOk1 = true) ∧ Below w.heap.size w wr) (fun _ iv _ => n - (intOf iv).toNat)
    case atStart => exact ⟨0, Nat.zero_le _, rfl, Lib.hid rfl, (by repeat (first | with_reducible exact Below.refl _ _ | with_reducible assumption | with_reducible refine below_drewN ?_ _ | with_reducible refine Below.drew ?_ | ((with_reducible refine Below.alloc ?_ ?_ _); rotate_left; (((try simp) <;> (try omega)) <;> done)) | ((with_reducible refine Below.setCell ?_ ?_ _); rotate_left; (((try simp) <;> (try omega)) <;> done)) | ((with_reducible refine Below.trans ?_ (Below.mono (by with_reducible assumption) ?_)); rotate_left; (((try simp) <;> (try omega)) <;> done))))⟩
    case round =>
      obtain ⟨k, hk, rfl, Hok, hb⟩ := hrel
      have Hb := Lib.hid hb
      have hsz := hb.size
      clear hb
      by_cases hlt : k < n
      · obtain ⟨ad, m, A0, c0, A1, c1, A2, c2, A3, c3, rfl, hab, hx, hRm, hml, e0, e1, e2, e3⟩ := mod_row (hr.under hS Hb.out) hlt
        have Hx := Lib.hid hx
        have g1 : (0 : Int) ≤ (k : Int) := by omega
        have g2 : (k : Int) < (n : Int) := by omega
        have Hb2 := Lib.hid (Hb.out.alloc hsz (.cells #[.slice A0 m.1.length c0, .slice A1 m.2.1.length c1, .slice A2 m.2.2.1.length c2, .slice A3 m.2.2.2.length c3] 52))
        have Hs := Lib.hid (all_take (p := cntOk1) hx)
        clear hRm hml hx
        by_cases q0 : m.1.length ≤ 30
        · by_cases q1 : m.2.1.length ≤ 30
          · by_cases q2 : m.2.2.1.length ≤ 3
            · by_cases q3 : m.2.2.2.length ≤ 2
              · have Hq := Lib.hid (cntOk1_iff.2 ⟨q0, q1, q2, q3⟩)
                go_wp2_with fail
                go_roundw
                case rel => exact ⟨k + 1, by omega, by go_num, Lib.hid (by rw [Hs.out, Hok.out, Hq.out]; rfl), Hb2.out⟩
                case measure => simp [intOf]; omega
              · go_wp2_with fail
                go_ret
                exact ⟨ret_bool (by unfold countsB; rw [all_not Hx.out (by simp only [cntOk1]; simp; omega), Bool.and_false]), Hb2.out⟩
            · go_wp2_with fail
              go_ret
              exact ⟨ret_bool (by unfold countsB; rw [all_not Hx.out (by simp only [cntOk1]; simp; omega), Bool.and_false]), Hb2.out⟩
          · go_wp2_with fail
            go_ret
            exact ⟨ret_bool (by unfold countsB; rw [all_not Hx.out (by simp only [cntOk1]; simp; omega), Bool.and_false]), Hb2.out⟩
        · go_wp2_with fail
          go_ret
          exact ⟨ret_bool (by unfold countsB; rw [all_not Hx.out (by simp only [cntOk1]; simp; omega), Bool.and_false]), Hb2.out⟩
      · have hkn : k = n := by omega
        have hge : (n : Int) ≤ (k : Int) := by omega
        have He := Lib.hid (show countsB d = true by
          have h1 := Hok.out
          rw [List.take_of_length_le (by rw [Hl.out]; omega)] at h1
          unfold countsB
          rw [h1, Hl.out, decide_eq_true h4]
          rfl)
        clear hkn
        go_wp2_with fail
        go_ret
        exact ⟨ret_bool He.out.symm, Hb.out⟩
  · go_enter Try.func68, Try.ntmps68
    go_wp2_with fail
    go_ret
    exact ⟨ret_bool (by unfold countsB; rw [Hl.out, decide_eq_false h4]; rfl), (by repeat (first | with_reducible exact Below.refl _ _ | with_reducible assumption | with_reducible refine below_drewN ?_ _ | with_reducible refine Below.drew ?_ | ((with_reducible refine Below.alloc ?_ ?_ _); rotate_left; (((try simp) <;> (try omega)) <;> done)) | ((with_reducible refine Below.setCell ?_ ?_ _); rotate_left; (((try simp) <;> (try omega)) <;> done)) | ((with_reducible refine Below.trans ?_ (Below.mono (by with_reducible assumption) ?_)); rotate_left; (((try simp) <;> (try omega)) <;> done))))⟩
end Go.Proofs.Ytjiijjihkgipkaa

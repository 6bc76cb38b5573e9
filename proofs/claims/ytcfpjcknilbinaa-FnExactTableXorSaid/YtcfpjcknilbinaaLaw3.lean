/- Laws of tables: for every input the program's TableAnd and TableXor are the reference's. Conditions: none. -/
import Derived.Test.YtcfpjcknilbinaaFrame
import Derived.Test.YtcfpjcknilbinaaTab2
import Derived.Deep.RegionHeld3
import Derived.Deep.DeepCutAuto
namespace Go.Proofs.Ytcfpjcknilbinaa
open Go.ChangeShapes Go.WideShapes Go.ChangeAt Go.RowKit
theorem blk_set2 {w : World} {g : Nat} {t : TypeId} {x y u v : Value} (h : Blk w g t #[x, y]) : Blk ((w.setCell ⟨g, 0, none⟩ u).setCell ⟨g, 1, none⟩ v) g t #[u, v] := by
  simpa using (h.set_ 0 u).set_ 1 v

set_option maxHeartbeats 4000000 in
theorem walk_FnExactTableAnd (n b m d : Int) (w : World) : Calls Try.prog 11 #[.agg #[.int .i64 n, .int .i64 b], .agg #[.int .i64 m, .int .i64 d]] w fun e w' => e = .returned (.bool true) ∧ Below w.heap.size w w' := by
  go_enter Try.func11, Try.ntmps11
  go_wp2_with fail
  go_cut [5] (fun p wc => ∃ g, p = .pointer (some ⟨g, 0, none⟩) ∧ Blk wc g 32 #[.int .i64 (tAnd n b m d).1, .int .i64 (tAnd n b m d).2] ∧ w.heap.size + 2 ≤ g ∧ Blk wc w.heap.size 30 #[.int .i64 n, .int .i64 b] ∧ Blk wc (w.heap.size + 1) 30 #[.int .i64 m, .int .i64 d] ∧ Below w.heap.size w wc)
  case first =>
    go_region_held3 (fun w' => w'.cell? ⟨w.heap.size, 0, none⟩ = some (.int .i64 n) ∧ w'.cell? ⟨w.heap.size, 1, none⟩ = some (.int .i64 b) ∧ w'.cell? ⟨w.heap.size + 1, 0, none⟩ = some (.int .i64 m) ∧ w'.cell? ⟨w.heap.size + 1, 1, none⟩ = some (.int .i64 d)) (go_simp) (first | (go_at_call 38; refine (l_toTable _ _ _).mono ?_; rintro e w1 ⟨rfl, hb1⟩; have r1 := (bcell hb1).1; have r2 := (bcell hb1).2; have z1 := hb1.size; have m1 : ∀ x : Nat, x < _ → x < w1.heap.size := fun x h => Nat.lt_of_lt_of_le h hb1.size; (try simp at z1); (try simp only [drew_size] at r1 r2); have zz0 : w.heap.size < w1.heap.size := (by omega); have zz1 : w.heap.size + 1 < w1.heap.size := (by omega); (try have zy0 : w.heap.size + 1 + 1 < w1.heap.size := (by omega)); (try have zz9 := Nat.lt_of_succ_le z1)) | (go_at_call 51; refine (s_TableAnd _ _ _ _ _).mono ?_; rintro e w1 ⟨rfl, hb1⟩; have r1 := (bcell hb1).1; have r2 := (bcell hb1).2; have z1 := hb1.size; have m1 : ∀ x : Nat, x < _ → x < w1.heap.size := fun x h => Nat.lt_of_lt_of_le h hb1.size; (try simp at z1); (try simp only [drew_size] at r1 r2); have zz0 : w.heap.size < w1.heap.size := (by omega); have zz1 : w.heap.size + 1 < w1.heap.size := (by omega); (try have zy0 : w.heap.size + 1 + 1 < w1.heap.size := (by omega)); (try have zz9 := Nat.lt_of_succ_le z1)))
    all_goals (go_step; go_step; go_meet; case rel => refine ⟨_, rfl, ?_, ?_, ?_, ?_, ?_⟩; (try with_reducible refine blk_set2 (x := .int .i64 0) (y := .int .i64 0) ?_); exact (by repeat (first | with_reducible assumption | with_reducible refine Blk.drew ?_ | with_reducible refine Blk.drewN ?_ _ | ((with_reducible refine blk_new_at ?_); (((try simp) <;> (try omega)) <;> done)) | with_reducible refine Blk.alloc ?_ _ | ((with_reducible refine Blk.far ?_ ?_ _); rotate_left; (((try simp) <;> (try omega)) <;> done)) | ((with_reducible refine Blk.below ?_ (by with_reducible assumption) ?_); rotate_left; (((try simp) <;> (try omega)) <;> done)))); (try simp) <;> (try omega); exact (by repeat (first | with_reducible assumption | with_reducible refine Blk.drew ?_ | with_reducible refine Blk.drewN ?_ _ | ((with_reducible refine blk_new_at ?_); (((try simp) <;> (try omega)) <;> done)) | with_reducible refine Blk.alloc ?_ _ | ((with_reducible refine Blk.far ?_ ?_ _); rotate_left; (((try simp) <;> (try omega)) <;> done)) | ((with_reducible refine Blk.below ?_ (by with_reducible assumption) ?_); rotate_left; (((try simp) <;> (try omega)) <;> done)))); exact (by repeat (first | with_reducible assumption | with_reducible refine Blk.drew ?_ | with_reducible refine Blk.drewN ?_ _ | ((with_reducible refine blk_new_at ?_); (((try simp) <;> (try omega)) <;> done)) | with_reducible refine Blk.alloc ?_ _ | ((with_reducible refine Blk.far ?_ ?_ _); rotate_left; (((try simp) <;> (try omega)) <;> done)) | ((with_reducible refine Blk.below ?_ (by with_reducible assumption) ?_); rotate_left; (((try simp) <;> (try omega)) <;> done)))); exact (by repeat (first | with_reducible exact Below.refl _ _ | with_reducible assumption | with_reducible refine below_drewN ?_ _ | with_reducible refine Below.drew ?_ | ((with_reducible refine Below.alloc ?_ ?_ _); rotate_left; (((try simp) <;> (try omega)) <;> done)) | ((with_reducible refine Below.setCell ?_ ?_ _); rotate_left; (((try simp) <;> (try omega)) <;> done)) | ((with_reducible refine Below.trans ?_ (Below.mono (by with_reducible assumption) ?_)); rotate_left; (((try simp) <;> (try omega)) <;> done)))))
  case rest =>
    obtain ⟨g, rfl, hg, hgl, hB0, hB1, hb⟩ := hcut
    have l0 := hB0.lt
    have l1 := hB1.lt
    have lg := hg.lt
    have c0 := hB0.cell 0
    have c1 := hB0.cell 1
    have c2 := hB1.cell 0
    have c3 := hB1.cell 1
    simp only [List.getElem?_toArray, List.getElem?_cons_zero, List.getElem?_cons_succ] at c0 c1 c2 c3
    go_wp2_with fail
    go_cut [6] (fun p wd => ∃ h, p = .pointer (some ⟨h, 0, none⟩) ∧ Blk wd h 32 #[.int .i64 (tAnd n b m d).1, .int .i64 (tAnd n b m d).2] ∧ Blk wd g 32 #[.int .i64 (tAnd n b m d).1, .int .i64 (tAnd n b m d).2] ∧ Below w.heap.size w wd)
    case first =>
      go_region_held3 (fun w' => w'.cell? ⟨w.heap.size, 0, none⟩ = some (.int .i64 n) ∧ w'.cell? ⟨w.heap.size, 1, none⟩ = some (.int .i64 b) ∧ w'.cell? ⟨w.heap.size + 1, 0, none⟩ = some (.int .i64 m) ∧ w'.cell? ⟨w.heap.size + 1, 1, none⟩ = some (.int .i64 d)) (go_simp) (first | (go_at_call 38; refine (l_toTable _ _ _).mono ?_; rintro e w1 ⟨rfl, hb1⟩; have r1 := (bcell hb1).1; have r2 := (bcell hb1).2; have z1 := hb1.size; have m1 : ∀ x : Nat, x < _ → x < w1.heap.size := fun x h => Nat.lt_of_lt_of_le h hb1.size; (try simp at z1); (try simp only [drew_size] at r1 r2); have zz0 : w.heap.size < w1.heap.size := (by omega); have zz1 : w.heap.size + 1 < w1.heap.size := (by omega); have zz2 : g < w1.heap.size := (by omega); (try have zy0 : wc.heap.size < w1.heap.size := (by omega)); (try have zz9 := Nat.lt_of_succ_le z1)) | (go_at_call 52; refine (i_TableAnd _ _ _ _ _).mono ?_; rintro e w1 ⟨rfl, hb1⟩; have r1 := (bcell hb1).1; have r2 := (bcell hb1).2; have z1 := hb1.size; have m1 : ∀ x : Nat, x < _ → x < w1.heap.size := fun x h => Nat.lt_of_lt_of_le h hb1.size; (try simp at z1); (try simp only [drew_size] at r1 r2); have zz0 : w.heap.size < w1.heap.size := (by omega); have zz1 : w.heap.size + 1 < w1.heap.size := (by omega); have zz2 : g < w1.heap.size := (by omega); (try have zy0 : wc.heap.size < w1.heap.size := (by omega)); (try have zz9 := Nat.lt_of_succ_le z1)))
      all_goals (go_step; go_step; go_meet; case rel => refine ⟨_, rfl, ?_, ?_, ?_⟩; (try with_reducible refine blk_set2 (x := .int .i64 0) (y := .int .i64 0) ?_); exact (by repeat (first | with_reducible assumption | with_reducible refine Blk.drew ?_ | with_reducible refine Blk.drewN ?_ _ | ((with_reducible refine blk_new_at ?_); (((try simp) <;> (try omega)) <;> done)) | with_reducible refine Blk.alloc ?_ _ | ((with_reducible refine Blk.far ?_ ?_ _); rotate_left; (((try simp) <;> (try omega)) <;> done)) | ((with_reducible refine Blk.below ?_ (by with_reducible assumption) ?_); rotate_left; (((try simp) <;> (try omega)) <;> done)))); (try with_reducible refine Blk.far ?_ (by omega) _); (try with_reducible refine Blk.far ?_ (by omega) _); exact (by repeat (first | with_reducible assumption | with_reducible refine Blk.drew ?_ | with_reducible refine Blk.drewN ?_ _ | ((with_reducible refine blk_new_at ?_); (((try simp) <;> (try omega)) <;> done)) | with_reducible refine Blk.alloc ?_ _ | ((with_reducible refine Blk.far ?_ ?_ _); rotate_left; (((try simp) <;> (try omega)) <;> done)) | ((with_reducible refine Blk.below ?_ (by with_reducible assumption) ?_); rotate_left; (((try simp) <;> (try omega)) <;> done)))); exact (by repeat (first | with_reducible exact Below.refl _ _ | with_reducible assumption | with_reducible refine below_drewN ?_ _ | with_reducible refine Below.drew ?_ | ((with_reducible refine Below.alloc ?_ ?_ _); rotate_left; (((try simp) <;> (try omega)) <;> done)) | ((with_reducible refine Below.setCell ?_ ?_ _); rotate_left; (((try simp) <;> (try omega)) <;> done)) | ((with_reducible refine Below.trans ?_ (Below.mono (by with_reducible assumption) ?_)); rotate_left; (((try simp) <;> (try omega)) <;> done)))))
    case rest =>
      obtain ⟨h, rfl, hh, hg2, hb2⟩ := hcut
      have e0 := hh.cell 0
      have e1 := hh.cell 1
      have e2 := hg2.cell 0
      have e3 := hg2.cell 1
      simp only [List.getElem?_toArray, List.getElem?_cons_zero, List.getElem?_cons_succ] at e0 e1 e2 e3
      go_wp2_with fail
      refine (l_eqTable _ _ _ _ _).mono ?_
      rintro e w5 ⟨rfl, hb5⟩
      have zq := hb2.size
      go_wp2_with fail
      go_ret
      exact ⟨rfl, (by repeat (first | with_reducible exact Below.refl _ _ | with_reducible assumption | with_reducible refine below_drewN ?_ _ | with_reducible refine Below.drew ?_ | ((with_reducible refine Below.alloc ?_ ?_ _); rotate_left; (((try simp) <;> (try omega)) <;> done)) | ((with_reducible refine Below.setCell ?_ ?_ _); rotate_left; (((try simp) <;> (try omega)) <;> done)) | ((with_reducible refine Below.trans ?_ (Below.mono (by with_reducible assumption) ?_)); rotate_left; (((try simp) <;> (try omega)) <;> done))))⟩
set_option maxRecDepth 100000 in
theorem lifted_FnExactTableAnd (os : Os) (started : os.Started) (H : Type) (enc : TypeId × Value → H) :
    ReturnsInHanded {} Try.checked os 11 .any (Rows.fnExactTableAndSpec.pre6 enc Try.prog Try.f11 Rows.fnExactTableAndRow.domain false) (Rows.fnExactTableAndSpec.post enc Try.prog Try.f11 false true false false) := by
  refine lift (F := 11) (fn := Try.f11) (s := Rows.fnExactTableAndSpec) (conds := Rows.fnExactTableAndRow.domain) (by kernel_rfl) Try.func11 (by kernel_rfl) rfl (by kernel_rfl) ?_ ?_ os started H enc
    (ChangeSpec.witness6 (enc := enc) (C := Try.checked) false ⟨#[], #[.agg #[.int .i64 0, .int .i64 0], .agg #[.int .i64 0, .int .i64 0]], []⟩ 8 (by kernel_rfl) (by kernel_rfl) (by kernel_rfl) (by kernel_rfl))
  · intro H ds hl
    rw [Try.params11] at hl
    match ds, hl with
    | [d0, d1], _ => exact ⟨rfl, rfl, rfl⟩
  · intro W base args H enc ds p hval hA hlt
    rw [Try.params11] at hA hval
    obtain ⟨v0, vs0, e0, es0, p0, q0, hargs, rfl, rfl, h0, r0⟩ := trodAll_cons hA
    obtain ⟨v1, vs1, e1, es1, p1, q1, rfl, rfl, rfl, h1, r1⟩ := trodAll_cons r0
    obtain ⟨rfl, rfl, rfl⟩ := trodAll_nil r1
    obtain rfl : args = #[v0, v1] := by cases args; simp_all
    obtain ⟨n, b, rfl, w0a, w0b⟩ := op_agg2 Try.underlying30 (by kernel_rfl) (by kernel_rfl) (by kernel_rfl) (by kernel_rfl) (hval 0 30 v0 rfl rfl) h0
    obtain ⟨m, d, rfl, w1a, w1b⟩ := op_agg2 Try.underlying30 (by kernel_rfl) (by kernel_rfl) (by kernel_rfl) (by kernel_rfl) (hval 1 30 v1 rfl rfl) h1
    exact walk_FnExactTableAnd n b m d W
theorem facts_FnExactTableAnd : joinedFacts Try.pinned.checked.prog 11 Try.f11 Rows.fnExactTableAndSpec Rows.fnExactTableAndRow = true :=
  facts_of (P := Try.prog) mayE liftE makeE rfl rfl (by kernel_rfl) (by kernel_rfl) (by kernel_rfl) (by kernel_rfl) (by kernel_rfl) (by kernel_rfl) (by kernel_rfl) (by kernel_rfl) (by kernel_rfl) (by kernel_rfl) (by kernel_rfl) (by kernel_rfl) (by kernel_rfl) rfl rfl (by kernel_rfl) (by kernel_rfl) (by kernel_rfl) (by kernel_rfl) (by kernel_rfl) (by kernel_rfl) (by kernel_rfl) (by kernel_rfl) (by kernel_rfl) (by kernel_rfl) (by kernel_rfl) rfl rfl (by kernel_rfl) (by kernel_rfl) (by kernel_rfl)
theorem over_FnExactTableAnd : Rows.fnExactTableAndRow.holds Try.pinned (OpenSpec.ofChange Rows.fnExactTableAndSpec) :=
  OpenClaim.holds_of_wide 11 Try.f11 rfl rfl rfl rfl rfl rfl rfl ⟨rfl, rfl, rfl, rfl, rfl⟩ rfl rfl rfl rfl rfl (by kernel_rfl) Try.func11 facts_FnExactTableAnd
    (of_decide_eq_true (by kernel_rfl)) (by unfold Func.isWrapper; first | (rw [if_pos (by decide +kernel)]; kernel_rfl) | (rw [if_neg (by decide +kernel)]; exact ⟨rfl, rfl⟩))
    (fun os started H enc _ => lifted_FnExactTableAnd os started H enc)
theorem FnExactTableAnd_holds : Rows.FnExactTableAndSaid := over_FnExactTableAnd

set_option maxHeartbeats 4000000 in
theorem walk_FnExactTableXor (n b m d : Int) (w : World) : Calls Try.prog 12 #[.agg #[.int .i64 n, .int .i64 b], .agg #[.int .i64 m, .int .i64 d]] w fun e w' => e = .returned (.bool true) ∧ Below w.heap.size w w' := by
  go_enter Try.func12, Try.ntmps12
  go_wp2_with fail
  go_cut [5] (fun p wc => ∃ g, p = .pointer (some ⟨g, 0, none⟩) ∧ Blk wc g 32 #[.int .i64 (tXor n b m d).1, .int .i64 (tXor n b m d).2] ∧ w.heap.size + 2 ≤ g ∧ Blk wc w.heap.size 30 #[.int .i64 n, .int .i64 b] ∧ Blk wc (w.heap.size + 1) 30 #[.int .i64 m, .int .i64 d] ∧ Below w.heap.size w wc)
  case first =>
    go_region_held3 (fun w' => w'.cell? ⟨w.heap.size, 0, none⟩ = some (.int .i64 n) ∧ w'.cell? ⟨w.heap.size, 1, none⟩ = some (.int .i64 b) ∧ w'.cell? ⟨w.heap.size + 1, 0, none⟩ = some (.int .i64 m) ∧ w'.cell? ⟨w.heap.size + 1, 1, none⟩ = some (.int .i64 d)) (go_simp) (first | (go_at_call 38; refine (l_toTable _ _ _).mono ?_; rintro e w1 ⟨rfl, hb1⟩; have r1 := (bcell hb1).1; have r2 := (bcell hb1).2; have z1 := hb1.size; have m1 : ∀ x : Nat, x < _ → x < w1.heap.size := fun x h => Nat.lt_of_lt_of_le h hb1.size; (try simp at z1); (try simp only [drew_size] at r1 r2); have zz0 : w.heap.size < w1.heap.size := (by omega); have zz1 : w.heap.size + 1 < w1.heap.size := (by omega); (try have zy0 : w.heap.size + 1 + 1 < w1.heap.size := (by omega)); (try have zz9 := Nat.lt_of_succ_le z1)) | (go_at_call 53; refine (s_TableXor _ _ _ _ _).mono ?_; rintro e w1 ⟨rfl, hb1⟩; have r1 := (bcell hb1).1; have r2 := (bcell hb1).2; have z1 := hb1.size; have m1 : ∀ x : Nat, x < _ → x < w1.heap.size := fun x h => Nat.lt_of_lt_of_le h hb1.size; (try simp at z1); (try simp only [drew_size] at r1 r2); have zz0 : w.heap.size < w1.heap.size := (by omega); have zz1 : w.heap.size + 1 < w1.heap.size := (by omega); (try have zy0 : w.heap.size + 1 + 1 < w1.heap.size := (by omega)); (try have zz9 := Nat.lt_of_succ_le z1)))
    all_goals (go_step; go_step; go_meet; case rel => refine ⟨_, rfl, ?_, ?_, ?_, ?_, ?_⟩; (try with_reducible refine blk_set2 (x := .int .i64 0) (y := .int .i64 0) ?_); exact (by repeat (first | with_reducible assumption | with_reducible refine Blk.drew ?_ | with_reducible refine Blk.drewN ?_ _ | ((with_reducible refine blk_new_at ?_); (((try simp) <;> (try omega)) <;> done)) | with_reducible refine Blk.alloc ?_ _ | ((with_reducible refine Blk.far ?_ ?_ _); rotate_left; (((try simp) <;> (try omega)) <;> done)) | ((with_reducible refine Blk.below ?_ (by with_reducible assumption) ?_); rotate_left; (((try simp) <;> (try omega)) <;> done)))); (try simp) <;> (try omega); exact (by repeat (first | with_reducible assumption | with_reducible refine Blk.drew ?_ | with_reducible refine Blk.drewN ?_ _ | ((with_reducible refine blk_new_at ?_); (((try simp) <;> (try omega)) <;> done)) | with_reducible refine Blk.alloc ?_ _ | ((with_reducible refine Blk.far ?_ ?_ _); rotate_left; (((try simp) <;> (try omega)) <;> done)) | ((with_reducible refine Blk.below ?_ (by with_reducible assumption) ?_); rotate_left; (((try simp) <;> (try omega)) <;> done)))); exact (by repeat (first | with_reducible assumption | with_reducible refine Blk.drew ?_ | with_reducible refine Blk.drewN ?_ _ | ((with_reducible refine blk_new_at ?_); (((try simp) <;> (try omega)) <;> done)) | with_reducible refine Blk.alloc ?_ _ | ((with_reducible refine Blk.far ?_ ?_ _); rotate_left; (((try simp) <;> (try omega)) <;> done)) | ((with_reducible refine Blk.below ?_ (by with_reducible assumption) ?_); rotate_left; (((try simp) <;> (try omega)) <;> done)))); exact (by repeat (first | with_reducible exact Below.refl _ _ | with_reducible assumption | with_reducible refine below_drewN ?_ _ | with_reducible refine Below.drew ?_ | ((with_reducible refine Below.alloc ?_ ?_ _); rotate_left; (((try simp) <;> (try omega)) <;> done)) | ((with_reducible refine Below.setCell ?_ ?_ _); rotate_left; (((try simp) <;> (try omega)) <;> done)) | ((with_reducible refine Below.trans ?_ (Below.mono (by with_reducible assumption) ?_)); rotate_left; (((try simp) <;> (try omega)) <;> done)))))
  case rest =>
    obtain ⟨g, rfl, hg, hgl, hB0, hB1, hb⟩ := hcut
    have l0 := hB0.lt
    have l1 := hB1.lt
    have lg := hg.lt
    have c0 := hB0.cell 0
    have c1 := hB0.cell 1
    have c2 := hB1.cell 0
    have c3 := hB1.cell 1
    simp only [List.getElem?_toArray, List.getElem?_cons_zero, List.getElem?_cons_succ] at c0 c1 c2 c3
    go_wp2_with fail
    go_cut [6] (fun p wd => ∃ h, p = .pointer (some ⟨h, 0, none⟩) ∧ Blk wd h 32 #[.int .i64 (tXor n b m d).1, .int .i64 (tXor n b m d).2] ∧ Blk wd g 32 #[.int .i64 (tXor n b m d).1, .int .i64 (tXor n b m d).2] ∧ Below w.heap.size w wd)
    case first =>
      go_region_held3 (fun w' => w'.cell? ⟨w.heap.size, 0, none⟩ = some (.int .i64 n) ∧ w'.cell? ⟨w.heap.size, 1, none⟩ = some (.int .i64 b) ∧ w'.cell? ⟨w.heap.size + 1, 0, none⟩ = some (.int .i64 m) ∧ w'.cell? ⟨w.heap.size + 1, 1, none⟩ = some (.int .i64 d)) (go_simp) (first | (go_at_call 38; refine (l_toTable _ _ _).mono ?_; rintro e w1 ⟨rfl, hb1⟩; have r1 := (bcell hb1).1; have r2 := (bcell hb1).2; have z1 := hb1.size; have m1 : ∀ x : Nat, x < _ → x < w1.heap.size := fun x h => Nat.lt_of_lt_of_le h hb1.size; (try simp at z1); (try simp only [drew_size] at r1 r2); have zz0 : w.heap.size < w1.heap.size := (by omega); have zz1 : w.heap.size + 1 < w1.heap.size := (by omega); have zz2 : g < w1.heap.size := (by omega); (try have zy0 : wc.heap.size < w1.heap.size := (by omega)); (try have zz9 := Nat.lt_of_succ_le z1)) | (go_at_call 54; refine (i_TableXor _ _ _ _ _).mono ?_; rintro e w1 ⟨rfl, hb1⟩; have r1 := (bcell hb1).1; have r2 := (bcell hb1).2; have z1 := hb1.size; have m1 : ∀ x : Nat, x < _ → x < w1.heap.size := fun x h => Nat.lt_of_lt_of_le h hb1.size; (try simp at z1); (try simp only [drew_size] at r1 r2); have zz0 : w.heap.size < w1.heap.size := (by omega); have zz1 : w.heap.size + 1 < w1.heap.size := (by omega); have zz2 : g < w1.heap.size := (by omega); (try have zy0 : wc.heap.size < w1.heap.size := (by omega)); (try have zz9 := Nat.lt_of_succ_le z1)))
      all_goals (go_step; go_step; go_meet; case rel => refine ⟨_, rfl, ?_, ?_, ?_⟩; (try with_reducible refine blk_set2 (x := .int .i64 0) (y := .int .i64 0) ?_); exact (by repeat (first | with_reducible assumption | with_reducible refine Blk.drew ?_ | with_reducible refine Blk.drewN ?_ _ | ((with_reducible refine blk_new_at ?_); (((try simp) <;> (try omega)) <;> done)) | with_reducible refine Blk.alloc ?_ _ | ((with_reducible refine Blk.far ?_ ?_ _); rotate_left; (((try simp) <;> (try omega)) <;> done)) | ((with_reducible refine Blk.below ?_ (by with_reducible assumption) ?_); rotate_left; (((try simp) <;> (try omega)) <;> done)))); (try with_reducible refine Blk.far ?_ (by omega) _); (try with_reducible refine Blk.far ?_ (by omega) _); exact (by repeat (first | with_reducible assumption | with_reducible refine Blk.drew ?_ | with_reducible refine Blk.drewN ?_ _ | ((with_reducible refine blk_new_at ?_); (((try simp) <;> (try omega)) <;> done)) | with_reducible refine Blk.alloc ?_ _ | ((with_reducible refine Blk.far ?_ ?_ _); rotate_left; (((try simp) <;> (try omega)) <;> done)) | ((with_reducible refine Blk.below ?_ (by with_reducible assumption) ?_); rotate_left; (((try simp) <;> (try omega)) <;> done)))); exact (by repeat (first | with_reducible exact Below.refl _ _ | with_reducible assumption | with_reducible refine below_drewN ?_ _ | with_reducible refine Below.drew ?_ | ((with_reducible refine Below.alloc ?_ ?_ _); rotate_left; (((try simp) <;> (try omega)) <;> done)) | ((with_reducible refine Below.setCell ?_ ?_ _); rotate_left; (((try simp) <;> (try omega)) <;> done)) | ((with_reducible refine Below.trans ?_ (Below.mono (by with_reducible assumption) ?_)); rotate_left; (((try simp) <;> (try omega)) <;> done)))))
    case rest =>
      obtain ⟨h, rfl, hh, hg2, hb2⟩ := hcut
      have e0 := hh.cell 0
      have e1 := hh.cell 1
      have e2 := hg2.cell 0
      have e3 := hg2.cell 1
      simp only [List.getElem?_toArray, List.getElem?_cons_zero, List.getElem?_cons_succ] at e0 e1 e2 e3
      go_wp2_with fail
      refine (l_eqTable _ _ _ _ _).mono ?_
      rintro e w5 ⟨rfl, hb5⟩
      have zq := hb2.size
      go_wp2_with fail
      go_ret
      exact ⟨rfl, (by repeat (first | with_reducible exact Below.refl _ _ | with_reducible assumption | with_reducible refine below_drewN ?_ _ | with_reducible refine Below.drew ?_ | ((with_reducible refine Below.alloc ?_ ?_ _); rotate_left; (((try simp) <;> (try omega)) <;> done)) | ((with_reducible refine Below.setCell ?_ ?_ _); rotate_left; (((try simp) <;> (try omega)) <;> done)) | ((with_reducible refine Below.trans ?_ (Below.mono (by with_reducible assumption) ?_)); rotate_left; (((try simp) <;> (try omega)) <;> done))))⟩
set_option maxRecDepth 100000 in
theorem lifted_FnExactTableXor (os : Os) (started : os.Started) (H : Type) (enc : TypeId × Value → H) :
    ReturnsInHanded {} Try.checked os 12 .any (Rows.fnExactTableXorSpec.pre6 enc Try.prog Try.f12 Rows.fnExactTableXorRow.domain false) (Rows.fnExactTableXorSpec.post enc Try.prog Try.f12 false true false false) := by
  refine lift (F := 12) (fn := Try.f12) (s := Rows.fnExactTableXorSpec) (conds := Rows.fnExactTableXorRow.domain) (by kernel_rfl) Try.func12 (by kernel_rfl) rfl (by kernel_rfl) ?_ ?_ os started H enc
    (ChangeSpec.witness6 (enc := enc) (C := Try.checked) false ⟨#[], #[.agg #[.int .i64 0, .int .i64 0], .agg #[.int .i64 0, .int .i64 0]], []⟩ 8 (by kernel_rfl) (by kernel_rfl) (by kernel_rfl) (by kernel_rfl))
  · intro H ds hl
    rw [Try.params12] at hl
    match ds, hl with
    | [d0, d1], _ => exact ⟨rfl, rfl, rfl⟩
  · intro W base args H enc ds p hval hA hlt
    rw [Try.params12] at hA hval
    obtain ⟨v0, vs0, e0, es0, p0, q0, hargs, rfl, rfl, h0, r0⟩ := trodAll_cons hA
    obtain ⟨v1, vs1, e1, es1, p1, q1, rfl, rfl, rfl, h1, r1⟩ := trodAll_cons r0
    obtain ⟨rfl, rfl, rfl⟩ := trodAll_nil r1
    obtain rfl : args = #[v0, v1] := by cases args; simp_all
    obtain ⟨n, b, rfl, w0a, w0b⟩ := op_agg2 Try.underlying30 (by kernel_rfl) (by kernel_rfl) (by kernel_rfl) (by kernel_rfl) (hval 0 30 v0 rfl rfl) h0
    obtain ⟨m, d, rfl, w1a, w1b⟩ := op_agg2 Try.underlying30 (by kernel_rfl) (by kernel_rfl) (by kernel_rfl) (by kernel_rfl) (hval 1 30 v1 rfl rfl) h1
    exact walk_FnExactTableXor n b m d W
theorem facts_FnExactTableXor : joinedFacts Try.pinned.checked.prog 12 Try.f12 Rows.fnExactTableXorSpec Rows.fnExactTableXorRow = true :=
  facts_of (P := Try.prog) mayE liftE makeE rfl rfl (by kernel_rfl) (by kernel_rfl) (by kernel_rfl) (by kernel_rfl) (by kernel_rfl) (by kernel_rfl) (by kernel_rfl) (by kernel_rfl) (by kernel_rfl) (by kernel_rfl) (by kernel_rfl) (by kernel_rfl) (by kernel_rfl) rfl rfl (by kernel_rfl) (by kernel_rfl) (by kernel_rfl) (by kernel_rfl) (by kernel_rfl) (by kernel_rfl) (by kernel_rfl) (by kernel_rfl) (by kernel_rfl) (by kernel_rfl) (by kernel_rfl) rfl rfl (by kernel_rfl) (by kernel_rfl) (by kernel_rfl)
theorem over_FnExactTableXor : Rows.fnExactTableXorRow.holds Try.pinned (OpenSpec.ofChange Rows.fnExactTableXorSpec) :=
  OpenClaim.holds_of_wide 12 Try.f12 rfl rfl rfl rfl rfl rfl rfl ⟨rfl, rfl, rfl, rfl, rfl⟩ rfl rfl rfl rfl rfl (by kernel_rfl) Try.func12 facts_FnExactTableXor
    (of_decide_eq_true (by kernel_rfl)) (by unfold Func.isWrapper; first | (rw [if_pos (by decide +kernel)]; kernel_rfl) | (rw [if_neg (by decide +kernel)]; exact ⟨rfl, rfl⟩))
    (fun os started H enc _ => lifted_FnExactTableXor os started H enc)
theorem FnExactTableXor_holds : Rows.FnExactTableXorSaid := over_FnExactTableXor

end Go.Proofs.Ytcfpjcknilbinaa

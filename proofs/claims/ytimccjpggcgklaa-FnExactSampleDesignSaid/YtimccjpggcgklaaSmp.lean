/- Contracts: the sample design: the program's and the reference's functions. -/
import Derived.Test.YtimccjpggcgklaaDesignD
import Derived.Test.YtimccjpggcgklaaLit
import Derived.Outline
namespace Go.Proofs.Ytimccjpggcgklaa
open Go.RowKit

def sampleA : TModule := ([(0, 1, 0), (1, 0, 0), (3, 0, 0)], [(2, [(12, 0, 0), (2, 0, 0), (8, 0, 0), (2, 2, 0), (0, 1, 0), (2, 2, 0)]), (1, [(2, 2, 0)])], [], [])
def sampleB : TModule := ([(0, 1, 0), (1, 0, 0)], [], [(0, 0, [0, 1])], [])
def sampleD : TDesign := [sampleA, sampleB]
def e3 (x : Int × Int × Int) : List Int := [x.1, x.2.1, x.2.2]

/-- the sample in the world w, its blocks from s + 1 to s + 10 -/
theorem sample_sep {w : World} {s : Nat} {S : Nat → Prop} (hS : ∀ b, s + 1 ≤ b → b ≤ s + 10 → S b) {tO tS tA tI tN tM : TypeId}
    (b1 : Blk w (s + 1) tO #[.int .i64 12, .int .i64 0, .int .i64 0, .int .i64 2, .int .i64 0, .int .i64 0, .int .i64 8, .int .i64 0, .int .i64 0, .int .i64 2, .int .i64 2, .int .i64 0, .int .i64 0, .int .i64 1, .int .i64 0, .int .i64 2, .int .i64 2, .int .i64 0])
    (b2 : Blk w (s + 2) tS #[.int .i64 0, .int .i64 1, .int .i64 0, .int .i64 1, .int .i64 0, .int .i64 0, .int .i64 3, .int .i64 0, .int .i64 0])
    (b3 : Blk w (s + 3) tO #[.int .i64 2, .int .i64 2, .int .i64 0])
    (b4 : Blk w (s + 4) tA #[.int .i64 2, .slice (some ⟨s + 1, 0, none⟩) 6 6, .int .i64 1, .slice (some ⟨s + 3, 0, none⟩) 1 1])
    (b6 : Blk w (s + 6) tS #[.int .i64 0, .int .i64 1, .int .i64 0, .int .i64 1, .int .i64 0, .int .i64 0])
    (b7 : Blk w (s + 7) tI #[.int .i64 0, .int .i64 1])
    (b8 : Blk w (s + 8) tN #[.int .i64 0, .int .i64 0, .slice (some ⟨s + 7, 0, none⟩) 2 2])
    (b10 : Blk w (s + 10) tM #[.slice (some ⟨s + 2, 0, none⟩) 3 3, .slice (some ⟨s + 4, 0, none⟩) 2 2, .slice none 0 0, .slice none 0 0, .slice (some ⟨s + 6, 0, none⟩) 2 2, .slice none 0 0, .slice (some ⟨s + 8, 0, none⟩) 1 1, .slice none 0 0]) :
    QDesign w S (.agg #[.slice (some ⟨s + 10, 0, none⟩) 2 2]) sampleD := by
  have m6 : 6 ≤ maxLen := by unfold maxLen; omega
  have m3 : 3 ≤ maxLen := by unfold maxLen; omega
  have m2 : 2 ≤ maxLen := by unfold maxLen; omega
  have m1 : 1 ≤ maxLen := by unfold maxLen; omega
  have o1 : Sep w (fun b => b = s + 1) (.slice (some ⟨s + 1, 0, none⟩) 6 6) (fOpS [(12, 0, 0), (2, 0, 0), (8, 0, 0), (2, 2, 0), (0, 1, 0), (2, 2, 0)]) := sep_flat (enc := e3) (size := 3) (fun _ => rfl) _ b1 rfl m6 rfl rfl
  have o3 : Sep w (fun b => b = s + 3) (.slice (some ⟨s + 3, 0, none⟩) 1 1) (fOpS [(2, 2, 0)]) := sep_flat (enc := e3) (size := 3) (fun _ => rfl) _ b3 rfl m1 rfl rfl
  have s2 : Sep w (fun b => b = s + 2) (.slice (some ⟨s + 2, 0, none⟩) 3 3) (fSignalS [(0, 1, 0), (1, 0, 0), (3, 0, 0)]) := sep_flat (enc := e3) (size := 3) (fun _ => rfl) _ b2 rfl m3 rfl rfl
  have s6 : Sep w (fun b => b = s + 6) (.slice (some ⟨s + 6, 0, none⟩) 2 2) (fSignalS [(0, 1, 0), (1, 0, 0)]) := sep_flat (enc := e3) (size := 3) (fun _ => rfl) _ b6 rfl m2 rfl rfl
  have i7 : Sep w (fun b => b = s + 7) (.slice (some ⟨s + 7, 0, none⟩) 2 2) (fIntS [0, 1]) := sep_flat (enc := fun x : Int => [x]) (size := 1) (fun _ => rfl) _ b7 rfl m2 rfl rfl
  have a4 : Sep w (fun b => b = s + 4 ∨ b = s + 1 ∨ b = s + 3) (.slice (some ⟨s + 4, 0, none⟩) 2 2) (fAssignS [(2, [(12, 0, 0), (2, 0, 0), (8, 0, 0), (2, 2, 0), (0, 1, 0), (2, 2, 0)]), (1, [(2, 2, 0)])]) := by
    refine .sl _ _ 2 2 2 tA _ _ (fun i j => (#[Value.int .i64 2, .slice (some ⟨s + 1, 0, none⟩) 6 6, .int .i64 1, .slice (some ⟨s + 3, 0, none⟩) 1 1].toList[i * 2 + j]?).getD undef) (fun i j b => (i = 0 ∧ j = 1 ∧ b = s + 1) ∨ (i = 1 ∧ j = 1 ∧ b = s + 3)) rfl m2 (rAssign_lens _) (own_blk b4 m2 rfl) (fun g hg => by injection hg with hg; exact .inl hg.symm) (fun i j b h => ⟨by omega, fun hg => by injection hg with hg; simp at hg; omega⟩) (fun i j i' j' b h1 h2 => by omega) (fun i j h1 h2 => ?_) (fun i j r f h1 h2 => ?_)
    · match i, j, h1, h2 with
      | 0, 0, _, _ => rfl
      | 0, 1, _, _ => rfl
      | 1, 0, _, _ => rfl
      | 1, 1, _, _ => rfl
    · match i, h1 with
      | 0, h1 =>
        simp at h1; subst h1
        match j, h2 with
        | 0, h2 => simp [rAssign] at h2; subst h2; exact .int _ _
        | 1, h2 => simp [rAssign] at h2; subst h2; exact o1.mono (fun b hb => .inl ⟨rfl, rfl, hb⟩)
      | 1, h1 =>
        simp at h1; subst h1
        match j, h2 with
        | 0, h2 => simp [rAssign] at h2; subst h2; exact .int _ _
        | 1, h2 => simp [rAssign] at h2; subst h2; exact o3.mono (fun b hb => .inr ⟨rfl, rfl, hb⟩)
  have n8 : Sep w (fun b => b = s + 8 ∨ b = s + 7) (.slice (some ⟨s + 8, 0, none⟩) 1 1) (fInstS [(0, 0, [0, 1])]) := by
    refine .sl _ _ 1 1 3 tN _ _ (fun i j => (#[Value.int .i64 0, .int .i64 0, .slice (some ⟨s + 7, 0, none⟩) 2 2].toList[i * 3 + j]?).getD undef) (fun i j b => i = 0 ∧ j = 2 ∧ b = s + 7) rfl m1 (rInst_lens _) (own_blk b8 m1 rfl) (fun g hg => by injection hg with hg; exact .inl hg.symm) (fun i j b h => ⟨by omega, fun hg => by injection hg with hg; simp at hg; omega⟩) (fun i j i' j' b h1 h2 => by omega) (fun i j h1 h2 => ?_) (fun i j r f h1 h2 => ?_)
    · match i, j, h1, h2 with
      | 0, 0, _, _ => rfl
      | 0, 1, _, _ => rfl
      | 0, 2, _, _ => rfl
    · match i, h1 with
      | 0, h1 =>
        simp at h1; subst h1
        match j, h2 with
        | 0, h2 => simp [rInst] at h2; subst h2; exact .int _ _
        | 1, h2 => simp [rInst] at h2; subst h2; exact .int _ _
        | 2, h2 => simp [rInst] at h2; subst h2; exact i7.mono (fun b hb => ⟨rfl, rfl, hb⟩)
  refine ⟨_, fun j b => j = 0 ∧ s + 1 ≤ b ∧ b ≤ s + 10, rfl, fun j b h => hS b h.2.1 h.2.2, fun i j b h1 h2 => by omega, ?_⟩
  refine .sl _ _ 2 2 4 tM _ _ (fun i j => (#[Value.slice (some ⟨s + 2, 0, none⟩) 3 3, .slice (some ⟨s + 4, 0, none⟩) 2 2, .slice none 0 0, .slice none 0 0, .slice (some ⟨s + 6, 0, none⟩) 2 2, .slice none 0 0, .slice (some ⟨s + 8, 0, none⟩) 1 1, .slice none 0 0].toList[i * 4 + j]?).getD undef)
    (fun i j b => (i = 0 ∧ j = 0 ∧ b = s + 2) ∨ (i = 0 ∧ j = 1 ∧ (b = s + 4 ∨ b = s + 1 ∨ b = s + 3)) ∨ (i = 1 ∧ j = 0 ∧ b = s + 6) ∨ (i = 1 ∧ j = 2 ∧ (b = s + 8 ∨ b = s + 7))) rfl m2 (rModule_lens _) (own_blk b10 m2 rfl) (fun g hg => by injection hg with hg; simp at hg; omega) (fun i j b h => ⟨by omega, fun hg => by injection hg with hg; simp at hg; omega⟩) (fun i j i' j' b h1 h2 => by omega) (fun i j h1 h2 => ?_) (fun i j r f h1 h2 => ?_)
  · match i, j, h1, h2 with
    | 0, 0, _, _ => rfl
    | 0, 1, _, _ => rfl
    | 0, 2, _, _ => rfl
    | 0, 3, _, _ => rfl
    | 1, 0, _, _ => rfl
    | 1, 1, _, _ => rfl
    | 1, 2, _, _ => rfl
    | 1, 3, _, _ => rfl
  · match i, h1 with
    | 0, h1 =>
      simp [sampleD] at h1; subst h1
      match j, h2 with
      | 0, h2 => simp [rModule, sampleA] at h2; subst h2; exact s2.mono (fun b hb => .inl ⟨rfl, rfl, hb⟩)
      | 1, h2 => simp [rModule, sampleA] at h2; subst h2; exact a4.mono (fun b hb => .inr (.inl ⟨rfl, rfl, hb⟩))
      | 2, h2 => simp [rModule, sampleA] at h2; subst h2; exact sep_none _ _
      | 3, h2 => simp [rModule, sampleA] at h2; subst h2; exact sep_none _ _
    | 1, h1 =>
      simp [sampleD] at h1; subst h1
      match j, h2 with
      | 0, h2 => simp [rModule, sampleB] at h2; subst h2; exact s6.mono (fun b hb => .inr (.inr (.inl ⟨rfl, rfl, hb⟩)))
      | 1, h2 => simp [rModule, sampleB] at h2; subst h2; exact sep_none _ _
      | 2, h2 => simp [rModule, sampleB] at h2; subst h2; exact n8.mono (fun b hb => .inr (.inr (.inr ⟨rfl, rfl, hb⟩)))
      | 3, h2 => simp [rModule, sampleB] at h2; subst h2; exact sep_none _ _

set_option maxRecDepth 100000 in
set_option maxHeartbeats 4000000 in
theorem i_SampleDesign (w : World) : Calls Try.prog 48 #[] w fun e w' => ∃ v', e = .returned v' ∧ QDesign w' (New w w') v' sampleD ∧ Below w.heap.size w w' := by
  go_enter Try.func48, Try.ntmps48
  go_wp2_with fail
  refine bodyPost_ret (v := .agg #[.slice (some ⟨w.heap.size + 10, 0, none⟩) 2 2]) (by simp [results, Try.results48, go_sem]) rfl ⟨_, rfl, ?_, (by repeat (first | with_reducible exact Below.refl _ _ | with_reducible assumption | with_reducible refine below_drewN ?_ _ | with_reducible refine Below.drew ?_ | ((with_reducible refine Below.alloc ?_ ?_ _); rotate_left; (((try simp) <;> (try omega)) <;> done)) | ((with_reducible refine Below.setCell ?_ ?_ _); rotate_left; (((try simp) <;> (try omega)) <;> done)) | ((with_reducible refine Below.trans ?_ (Below.mono (by with_reducible assumption) ?_)); rotate_left; (((try simp) <;> (try omega)) <;> done))))⟩
  refine sample_sep (s := w.heap.size) (tO := 36) (tS := 120) (tA := 122) (tI := 3) (tN := 124) (tM := 86) (fun b h1 h2 => ⟨by omega, by simp; omega⟩) (by refine Blk.alloc ?_ _; refine Blk.alloc ?_ _; refine Blk.alloc ?_ _; refine Blk.alloc ?_ _; refine Blk.alloc ?_ _; refine Blk.alloc ?_ _; refine Blk.alloc ?_ _; refine Blk.alloc ?_ _; refine Blk.alloc ?_ _; exact blk_new_at (by simp <;> omega)) (by refine Blk.alloc ?_ _; refine Blk.alloc ?_ _; refine Blk.alloc ?_ _; refine Blk.alloc ?_ _; refine Blk.alloc ?_ _; refine Blk.alloc ?_ _; refine Blk.alloc ?_ _; refine Blk.alloc ?_ _; exact blk_new_at (by simp <;> omega)) (by refine Blk.alloc ?_ _; refine Blk.alloc ?_ _; refine Blk.alloc ?_ _; refine Blk.alloc ?_ _; refine Blk.alloc ?_ _; refine Blk.alloc ?_ _; refine Blk.alloc ?_ _; exact blk_new_at (by simp <;> omega)) (by refine Blk.alloc ?_ _; refine Blk.alloc ?_ _; refine Blk.alloc ?_ _; refine Blk.alloc ?_ _; refine Blk.alloc ?_ _; refine Blk.alloc ?_ _; exact blk_new_at (by simp <;> omega)) (by refine Blk.alloc ?_ _; refine Blk.alloc ?_ _; refine Blk.alloc ?_ _; refine Blk.alloc ?_ _; exact blk_new_at (by simp <;> omega)) (by refine Blk.alloc ?_ _; refine Blk.alloc ?_ _; refine Blk.alloc ?_ _; exact blk_new_at (by simp <;> omega)) (by refine Blk.alloc ?_ _; refine Blk.alloc ?_ _; exact blk_new_at (by simp <;> omega)) (by exact blk_new_at (by simp <;> omega))
set_option maxRecDepth 100000 in
set_option maxHeartbeats 4000000 in
theorem s_SampleDesign (w : World) : Calls Try.prog 47 #[] w fun e w' => ∃ v', e = .returned v' ∧ QDesign w' (New w w') v' sampleD ∧ Below w.heap.size w w' := by
  go_enter Try.func47, Try.ntmps47
  go_wp2_with fail
  refine bodyPost_ret (v := .agg #[.slice (some ⟨w.heap.size + 10, 0, none⟩) 2 2]) (by simp [results, Try.results47, go_sem]) rfl ⟨_, rfl, ?_, (by repeat (first | with_reducible exact Below.refl _ _ | with_reducible assumption | with_reducible refine below_drewN ?_ _ | with_reducible refine Below.drew ?_ | ((with_reducible refine Below.alloc ?_ ?_ _); rotate_left; (((try simp) <;> (try omega)) <;> done)) | ((with_reducible refine Below.setCell ?_ ?_ _); rotate_left; (((try simp) <;> (try omega)) <;> done)) | ((with_reducible refine Below.trans ?_ (Below.mono (by with_reducible assumption) ?_)); rotate_left; (((try simp) <;> (try omega)) <;> done))))⟩
  refine sample_sep (s := w.heap.size) (tO := 36) (tS := 120) (tA := 122) (tI := 3) (tN := 124) (tM := 86) (fun b h1 h2 => ⟨by omega, by simp; omega⟩) (by refine Blk.alloc ?_ _; refine Blk.alloc ?_ _; refine Blk.alloc ?_ _; refine Blk.alloc ?_ _; refine Blk.alloc ?_ _; refine Blk.alloc ?_ _; refine Blk.alloc ?_ _; refine Blk.alloc ?_ _; refine Blk.alloc ?_ _; exact blk_new_at (by simp <;> omega)) (by refine Blk.alloc ?_ _; refine Blk.alloc ?_ _; refine Blk.alloc ?_ _; refine Blk.alloc ?_ _; refine Blk.alloc ?_ _; refine Blk.alloc ?_ _; refine Blk.alloc ?_ _; refine Blk.alloc ?_ _; exact blk_new_at (by simp <;> omega)) (by refine Blk.alloc ?_ _; refine Blk.alloc ?_ _; refine Blk.alloc ?_ _; refine Blk.alloc ?_ _; refine Blk.alloc ?_ _; refine Blk.alloc ?_ _; refine Blk.alloc ?_ _; exact blk_new_at (by simp <;> omega)) (by refine Blk.alloc ?_ _; refine Blk.alloc ?_ _; refine Blk.alloc ?_ _; refine Blk.alloc ?_ _; refine Blk.alloc ?_ _; refine Blk.alloc ?_ _; exact blk_new_at (by simp <;> omega)) (by refine Blk.alloc ?_ _; refine Blk.alloc ?_ _; refine Blk.alloc ?_ _; refine Blk.alloc ?_ _; exact blk_new_at (by simp <;> omega)) (by refine Blk.alloc ?_ _; refine Blk.alloc ?_ _; refine Blk.alloc ?_ _; exact blk_new_at (by simp <;> omega)) (by refine Blk.alloc ?_ _; refine Blk.alloc ?_ _; exact blk_new_at (by simp <;> omega)) (by exact blk_new_at (by simp <;> omega))
end Go.Proofs.Ytimccjpggcgklaa

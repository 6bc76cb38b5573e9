/- Contracts: the sample net: the program's and the reference's functions. -/
import Derived.Test.YtimccjpggcgklaaNetD
import Derived.Test.YtimccjpggcgklaaLit
import Derived.Outline
namespace Go.Proofs.Ytimccjpggcgklaa
open Go.RowKit

def sampleN : TNet := (2, [(0, 1, [9])], [(2, 6)], [8, 7])
theorem sampleN_sep {w : World} {s : Nat} {S : Nat → Prop} (hS : ∀ b, s + 1 ≤ b → b ≤ s + 4 → S b) {tI tS tA : TypeId}
    (b1 : Blk w (s + 1) tI #[.int .i64 9]) (b2 : Blk w (s + 2) tS #[.int .i64 0, .int .i64 1, .slice (some ⟨s + 1, 0, none⟩) 1 1]) (b3 : Blk w (s + 3) tA #[.int .i64 2, .int .i64 6]) (b4 : Blk w (s + 4) tI #[.int .i64 8, .int .i64 7]) :
    QNet w S (.agg #[.int .i64 2, .slice (some ⟨s + 2, 0, none⟩) 1 1, .slice (some ⟨s + 3, 0, none⟩) 1 1, .slice (some ⟨s + 4, 0, none⟩) 2 2]) sampleN := by
  have m2 : 2 ≤ maxLen := by unfold maxLen; omega
  have m1 : 1 ≤ maxLen := by unfold maxLen; omega
  have i1 : Sep w (fun b => b = s + 1) (.slice (some ⟨s + 1, 0, none⟩) 1 1) (fIntS [9]) := sep_flat (enc := fun x : Int => [x]) (size := 1) (fun _ => rfl) _ b1 rfl m1 rfl rfl
  have a3 : Sep w (fun b => b = s + 3) (.slice (some ⟨s + 3, 0, none⟩) 1 1) (fAndS [(2, 6)]) := sep_flat (enc := fun x : Int × Int => [x.1, x.2]) (size := 2) (fun _ => rfl) _ b3 rfl m1 rfl rfl
  have i4 : Sep w (fun b => b = s + 4) (.slice (some ⟨s + 4, 0, none⟩) 2 2) (fIntS [8, 7]) := sep_flat (enc := fun x : Int => [x]) (size := 1) (fun _ => rfl) _ b4 rfl m2 rfl rfl
  have s2 : Sep w (fun b => b = s + 2 ∨ b = s + 1) (.slice (some ⟨s + 2, 0, none⟩) 1 1) (fSeqS [(0, 1, [9])]) := by
    refine .sl _ _ 1 1 3 tS _ _ (fun i j => (#[Value.int .i64 0, .int .i64 1, .slice (some ⟨s + 1, 0, none⟩) 1 1].toList[i * 3 + j]?).getD undef) (fun i j b => i = 0 ∧ j = 2 ∧ b = s + 1) rfl m1 (rSeq_lens _) (own_blk b2 m1 rfl) (fun g hg => by injection hg with hg; exact .inl hg.symm) (fun i j b h => ⟨by omega, fun hg => by injection hg with hg; simp at hg; omega⟩) (fun i j i' j' b h1 h2 => by omega) (fun i j h1 h2 => ?_) (fun i j r f h1 h2 => ?_)
    · match i, j, h1, h2 with
      | 0, 0, _, _ => rfl
      | 0, 1, _, _ => rfl
      | 0, 2, _, _ => rfl
    · match i, h1 with
      | 0, h1 =>
        simp at h1; subst h1
        match j, h2 with
        | 0, h2 => simp [rSeq] at h2; subst h2; exact .int _ _
        | 1, h2 => simp [rSeq] at h2; subst h2; exact .int _ _
        | 2, h2 => simp [rSeq] at h2; subst h2; exact i1.mono (fun b hb => ⟨rfl, rfl, hb⟩)
  exact ⟨_, _, _, fun j b => (j = 1 ∧ (b = s + 2 ∨ b = s + 1)) ∨ (j = 2 ∧ b = s + 3) ∨ (j = 3 ∧ b = s + 4), rfl, fun j b h => hS b (by omega) (by omega), fun i j b h1 h2 => by omega, s2.mono (fun b hb => .inl ⟨rfl, hb⟩), a3.mono (fun b hb => .inr (.inl ⟨rfl, hb⟩)), i4.mono (fun b hb => .inr (.inr ⟨rfl, hb⟩))⟩
set_option maxRecDepth 100000 in
set_option maxHeartbeats 4000000 in
theorem i_SampleNet (w : World) : Calls Try.prog 24 #[] w fun e w' => ∃ v', e = .returned v' ∧ QNet w' (New w w') v' sampleN ∧ Below w.heap.size w w' := by
  go_enter Try.func24, Try.ntmps24
  go_wp2_with fail
  refine bodyPost_ret (v := .agg #[.int .i64 2, .slice (some ⟨w.heap.size + 2, 0, none⟩) 1 1, .slice (some ⟨w.heap.size + 3, 0, none⟩) 1 1, .slice (some ⟨w.heap.size + 4, 0, none⟩) 2 2]) (by simp [results, Try.results24, go_sem]) rfl ⟨_, rfl, ?_, (by repeat (first | with_reducible exact Below.refl _ _ | with_reducible assumption | with_reducible refine below_drewN ?_ _ | with_reducible refine Below.drew ?_ | ((with_reducible refine Below.alloc ?_ ?_ _); rotate_left; (((try simp) <;> (try omega)) <;> done)) | ((with_reducible refine Below.setCell ?_ ?_ _); rotate_left; (((try simp) <;> (try omega)) <;> done)) | ((with_reducible refine Below.trans ?_ (Below.mono (by with_reducible assumption) ?_)); rotate_left; (((try simp) <;> (try omega)) <;> done))))⟩
  refine sampleN_sep (s := w.heap.size) (tI := 3) (tS := 104) (tA := 62) (fun b h1 h2 => ⟨by omega, by simp; omega⟩) (by refine Blk.alloc ?_ _; refine Blk.alloc ?_ _; refine Blk.alloc ?_ _; exact blk_new_at (by simp <;> omega)) (by refine Blk.alloc ?_ _; refine Blk.alloc ?_ _; exact blk_new_at (by simp <;> omega)) (by refine Blk.alloc ?_ _; exact blk_new_at (by simp <;> omega)) (by exact blk_new_at (by simp <;> omega))
set_option maxRecDepth 100000 in
set_option maxHeartbeats 4000000 in
theorem s_SampleNet (w : World) : Calls Try.prog 23 #[] w fun e w' => ∃ v', e = .returned v' ∧ QNet w' (New w w') v' sampleN ∧ Below w.heap.size w w' := by
  go_enter Try.func23, Try.ntmps23
  go_wp2_with fail
  refine bodyPost_ret (v := .agg #[.int .i64 2, .slice (some ⟨w.heap.size + 2, 0, none⟩) 1 1, .slice (some ⟨w.heap.size + 3, 0, none⟩) 1 1, .slice (some ⟨w.heap.size + 4, 0, none⟩) 2 2]) (by simp [results, Try.results23, go_sem]) rfl ⟨_, rfl, ?_, (by repeat (first | with_reducible exact Below.refl _ _ | with_reducible assumption | with_reducible refine below_drewN ?_ _ | with_reducible refine Below.drew ?_ | ((with_reducible refine Below.alloc ?_ ?_ _); rotate_left; (((try simp) <;> (try omega)) <;> done)) | ((with_reducible refine Below.setCell ?_ ?_ _); rotate_left; (((try simp) <;> (try omega)) <;> done)) | ((with_reducible refine Below.trans ?_ (Below.mono (by with_reducible assumption) ?_)); rotate_left; (((try simp) <;> (try omega)) <;> done))))⟩
  refine sampleN_sep (s := w.heap.size) (tI := 3) (tS := 104) (tA := 62) (fun b h1 h2 => ⟨by omega, by simp; omega⟩) (by refine Blk.alloc ?_ _; refine Blk.alloc ?_ _; refine Blk.alloc ?_ _; exact blk_new_at (by simp <;> omega)) (by refine Blk.alloc ?_ _; refine Blk.alloc ?_ _; exact blk_new_at (by simp <;> omega)) (by refine Blk.alloc ?_ _; exact blk_new_at (by simp <;> omega)) (by exact blk_new_at (by simp <;> omega))
end Go.Proofs.Ytimccjpggcgklaa

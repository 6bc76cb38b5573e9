/- Contracts: the inputs on which a table depends: both functions. -/
import Derived.Test.YtbkgjgpoohlieaaTabG
import Derived.Test.YtbkgjgpoohlieaaInts
namespace Go.Proofs.Ytbkgjgpoohlieaa
open Go.RowKit

def sup (n b : Int) (m : Nat) : List Int := ((List.range m).filter fun (k : Nat) => tDep n b (k : Int)).map fun k => ((k : Nat) : Int)
theorem sup_succ (n b : Int) (m : Nat) : sup n b (m + 1) = sup n b m ++ if tDep n b m then [(m : Int)] else [] := by
  unfold sup
  rw [List.range_succ, List.filter_append, List.map_append]
  congr 1
  cases h : tDep n b m <;> simp [h]
theorem sup_len (n b : Int) (m : Nat) : (sup n b m).length ≤ m := by
  unfold sup
  rw [List.length_map]
  exact Nat.le_trans (List.length_filter_le _ _) (by simp)
/-- the inputs on which a table depends -/
def tSup (n b : Int) : List Int := sup n b 4
theorem tDep_not {n b k : Int} (h : n ≤ k) : tDep n b k = false := by
  have : inR k 0 (n - 1) = false := by simp [inR]; omega
  simp [tDep, this]
theorem sup_more {n b : Int} (m j : Nat) (h : n ≤ m) : sup n b (m + j) = sup n b m := by
  induction j with
  | zero => rfl
  | succ j ih => rw [← Nat.add_assoc, sup_succ, ih, tDep_not (by omega)]; simp
theorem sup_spec {n b : Int} (h : tOk n b = true) : sup n b n.toNat = tSup n b := by
  have hn := (tOk_nat h).choose_spec.2.2.2
  have hn0 := (inR_iff.1 hn).1
  have hn1 := (inR_iff.1 hn).2
  unfold tSup
  rw [show 4 = n.toNat + (4 - n.toNat) by omega, sup_more _ _ (by omega)]
theorem tSup_not {n b : Int} (h : tOk n b = false) : tSup n b = [] := by
  have : ∀ k, tDep n b k = false := fun k => by simp [tDep, h]
  simp [tSup, sup, this]

/-- a list of numbers in memory of the call's own -/
def OwnInts (l : List Int) (w : World) (e : Ending) (w' : World) : Prop :=
  ∃ A c, e = .returned (.slice A l.length c) ∧ w'.ownsRow w.heap.size 3 1 (.slice A l.length c) l.length (ints l) ∧ Below w.heap.size w w'

theorem Try.infoInt : (Try.prog.info? 3).map (fun i => (i.zero, i.size, i.bytes)) = some (some (.int .i64 0), 1, 8) := by kernel_rfl

set_option maxRecDepth 100000 in
set_option maxHeartbeats 4000000 in
theorem i_TableSupport (n b : Int) (w : World) : Calls Try.prog 29 #[.agg #[.int .i64 n, .int .i64 b]] w (OwnInts (tSup n b) w) := by
  obtain ⟨i0, hi, hz0, hz1, hz2⟩ := info_parts Try.infoInt
  go_enter Try.func29, Try.ntmps29
  go_wp2_with fail
  go_loopw [3, 4] (fun v i wr => ∃ k : Nat, k ≤ 4 ∧ i = .int .i64 k ∧ wr.ownsRow (w.heap.size + 1) 3 1 v (sup n b k).length (ints (sup n b k)) ∧ Below (w.heap.size + 1) (w.alloc (.cells #[.int .i64 n, .int .i64 b] 31)) wr)
    (fun _ i _ => 4 - (intOf i).toNat)
  case atStart => exact ⟨0, by omega, rfl, by simpa [sup, ints] using World.ownsRow_nil _ _ _ _, Below.refl _ _⟩
  case round =>
    obtain ⟨k, hk, rfl, hown, hb⟩ := hrel
    have c0 : wr.cell? ⟨w.heap.size, 0, none⟩ = some (.int .i64 n) := (hb.cell (p := ⟨w.heap.size, 0, none⟩) (by simp)).trans (by simp [go_sem])
    have c1 : wr.cell? ⟨w.heap.size, 1, none⟩ = some (.int .i64 b) := (hb.cell (p := ⟨w.heap.size, 1, none⟩) (by simp)).trans (by simp [go_sem])
    have hlen := sup_len n b k
    have hsz := hb.size
    simp at hsz
    obtain ⟨A, c, rfl, hc1, hc2, hA⟩ := own_form hown
    have Hb := Lib.hid hb
    have Hown := Lib.hid hown
    clear hb hown hA
    by_cases hlt : k < 4
    · by_cases hd : tDep n b k = true
      · have Hs := Lib.hid (show sup n b (k + 1) = sup n b k ++ [(k : Int)] by rw [sup_succ, if_pos hd])
        have Hd := Lib.hid hd
        clear hd
        go_wp2_with fail
        refine (i_TableDepends _ _ _ _).mono ?_
        rintro e w1 ⟨rfl, hb1⟩
        rw [Hd.out]
        have z1 := hb1.size
        have hown1 := own_below Hown.out hb1 (Nat.le_refl _)
        have Hown1 := Lib.hid hown1
        have Hb1 := Lib.hid hb1
        clear hown1 hb1
        go_wp2_with (at_builtin; refine wpList_append_any _ rfl _ _ 41 rfl (w.heap.size + 1) 3 i0 (.int .i64 0) 1 8 Try.underlying41 hi hz0 hz1 hz2 rfl (by decide) _ _ _ rfl (Hown1.out.alloc _) _ _ 1 1 _ rfl (reads_new _ _ 1 1 rfl) (by intro u hu; simp at hu; first | (subst hu; rfl) | (rcases hu with rfl | rfl <;> rfl) | (rcases hu with rfl | rfl | rfl <;> rfl)) (by unfold maxLen; omega) (by omega) (by (try simp) <;> (try omega)) ?_; intro v2 w2 hown2 hgrow2 hblk2)
        have hb2 := below_push (Hb.out.trans (Hb1.out.mono (by omega))) Hown1.out (Nat.le_refl _) (by omega) hgrow2
        have Hown2 := Lib.hid hown2
        clear hown2 hgrow2 hblk2
        go_wp2_with fail
        go_roundw
        case rel =>
          refine ⟨k + 1, by omega, by go_num, ?_, hb2⟩
          rw [Hs.out, List.length_append, ints, List.map_append]
          exact Hown2.out
        case measure => simp [intOf]; omega
      · have hd : tDep n b k = false := by simpa using hd
        have Hs := Lib.hid (show sup n b (k + 1) = sup n b k by rw [sup_succ, hd]; simp)
        have Hd := Lib.hid hd
        clear hd
        go_wp2_with fail
        refine (i_TableDepends _ _ _ _).mono ?_
        rintro e w1 ⟨rfl, hb1⟩
        rw [Hd.out]
        have z1 := hb1.size
        have hown1 := own_below Hown.out hb1 (Nat.le_refl _)
        have Hown1 := Lib.hid hown1
        have Hb1 := Lib.hid hb1
        clear hown1 hb1
        go_wp2_with fail
        go_roundw
        case rel => exact ⟨k + 1, by omega, by go_num, by rw [Hs.out]; exact Hown1.out, Hb.out.trans (Hb1.out.mono (by omega))⟩
        case measure => simp [intOf]; omega
    · obtain rfl : k = 4 := by omega
      go_wp2_with fail
      go_ret
      have hb := Hb.out
      exact ⟨A, c, rfl, own_mono Hown.out (by omega), (by repeat (first | with_reducible exact Below.refl _ _ | with_reducible assumption | with_reducible refine below_drewN ?_ _ | with_reducible refine Below.drew ?_ | ((with_reducible refine Below.alloc ?_ ?_ _); rotate_left; (((try simp) <;> (try omega)) <;> done)) | ((with_reducible refine Below.setCell ?_ ?_ _); rotate_left; (((try simp) <;> (try omega)) <;> done)) | ((with_reducible refine Below.trans ?_ (Below.mono (by with_reducible assumption) ?_)); rotate_left; (((try simp) <;> (try omega)) <;> done))))⟩

theorem tSup_len (n b : Int) : (tSup n b).length ≤ 4 := sup_len n b 4
end Go.Proofs.Ytbkgjgpoohlieaa

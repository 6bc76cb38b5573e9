/- Contracts: a table's cofactors by the reference. -/
import Derived.Test.YtcfpjcknilbinaaTabE
namespace Go.Proofs.Ytcfpjcknilbinaa
open Go.RowKit
attribute [local go_sem] i64_and1

set_option maxRecDepth 100000 in
set_option maxHeartbeats 4000000 in
theorem s_TableCofactor (n b k : Int) (v : Bool) (w : World) : Calls Try.prog 67 #[.agg #[.int .i64 n, .int .i64 b], .int .i64 k, .bool v] w fun e w' =>
      e = .returned (.agg #[.int .i64 (tCof n b k v).1, .int .i64 (tCof n b k v).2]) ∧ Below w.heap.size w w' := by
  by_cases hk : tOk n b = true
  · obtain ⟨b', rfl, hb1, hb2, hn⟩ := tOk_nat hk
    have hn0 := (inR_iff.1 hn).1
    have hn1 := (inR_iff.1 hn).2
    by_cases hk0 : 0 ≤ k
    · by_cases hkn : k < n
      · have He := Lib.hid (show tCof n b' k v = (n, ((Tb.cof n.toNat b' k.toNat v : Nat) : Int)) by
          have : inR k 0 (n - 1) = true := inR_iff.2 (by omega)
          simp [tCof, hk, this])
        have hd0 : decide (k < 0) = false := by simp; omega
        have hd1 : decide (n ≤ k) = false := by simp; omega
        obtain ⟨k', rfl⟩ := Int.eq_ofNat_of_zero_le hk0
        have hk4 : k' ≤ 4 := by omega
        have hp := (pow_bd hn).2
        have hp1 := (pow_bd hn).1
        have hs := w64_two4 hk4
        have hpk := Tb.pow_mono (show k' ≤ 15 by omega)
        obtain ⟨hw1, hw2⟩ := w64_pow hn
        have Hk := Lib.hid hk
        clear hn hk hw2
        go_enter Try.func67, Try.ntmps67
        go_wp2_with fail
        refine (s_TableOk _ _ _).mono ?_
        rintro e w1 ⟨rfl, hb1⟩
        rw [Hk.out]
        have z1 := hb1.size
        try simp at z1
        (try have y1_0 : w.heap.size < w1.heap.size := (by omega))
        have q1_0 := fun o => (bcell hb1).1 (w.heap.size) o (by (try simp) <;> (try omega))
        have p1_0 := fun o => (bcell hb1).2 (w.heap.size) o (by (try simp) <;> (try omega))
        (try have y1_1 : w.heap.size + 1 < w1.heap.size := (by omega))
        have q1_1 := fun o => (bcell hb1).1 (w.heap.size + 1) o (by (try simp) <;> (try omega))
        have p1_1 := fun o => (bcell hb1).2 (w.heap.size + 1) o (by (try simp) <;> (try omega))
        go_wp2_with fail
        have Hb1 := Lib.hid hb1
        clear hb1
        go_loopw [8, 9] (fun i _ wr => TabRelAt w1.heap.size n (fun i => b'.testBit (Tb.setb k' v i)) w w1 i wr) (fun i _ _ => 16 - (intOf i).toNat)
        case atStart =>
          have hb1 := Hb1.out
          exact ⟨0, by simp only [Int.natCast_zero]; exact Int.le_trans (by decide) hp1, rfl, (by repeat (first | with_reducible exact Below.refl _ _ | with_reducible assumption | with_reducible refine below_drewN ?_ _ | with_reducible refine Below.drew ?_ | ((with_reducible refine Below.alloc ?_ ?_ _); rotate_left; (((try simp) <;> (try omega)) <;> done)) | ((with_reducible refine Below.setCell ?_ ?_ _); rotate_left; (((try simp) <;> (try omega)) <;> done)) | ((with_reducible refine Below.trans ?_ (Below.mono (by with_reducible assumption) ?_)); rotate_left; (((try simp) <;> (try omega)) <;> done)))), (by repeat (first | with_reducible exact Below.refl _ _ | with_reducible assumption | with_reducible refine below_drewN ?_ _ | with_reducible refine Below.drew ?_ | ((with_reducible refine Below.alloc ?_ ?_ _); rotate_left; (((try simp) <;> (try omega)) <;> done)) | ((with_reducible refine Below.setCell ?_ ?_ _); rotate_left; (((try simp) <;> (try omega)) <;> done)) | ((with_reducible refine Below.trans ?_ (Below.mono (by with_reducible assumption) ?_)); rotate_left; (((try simp) <;> (try omega)) <;> done)))), by simpa [Tb.tab] using Blk.new w1 _ _⟩
        case round =>
          obtain ⟨i, hi, rfl, hb0, hb, hB⟩ := hrel
          have c1 := hB.cell 1
          have f1 := hB.frozen 1
          have c0 := hB.cell 0
          have t0 : wr.cell? ⟨w.heap.size, 0, none⟩ = some (.int .i64 n) := (hb0.cell (p := ⟨w.heap.size, 0, none⟩) (by simp; omega)).trans (by simp [go_sem, q1_0])
          have t1 : wr.cell? ⟨w.heap.size, 1, none⟩ = some (.int .i64 b') := (hb0.cell (p := ⟨w.heap.size, 1, none⟩) (by simp; omega)).trans (by simp [go_sem, q1_0])
          have r0 : wr.cell? ⟨w.heap.size + 1, 0, none⟩ = some (.int .i64 0) := (hb0.cell (p := ⟨w.heap.size + 1, 0, none⟩) (by simp; omega)).trans (by simp [go_sem, q1_1])
          have r1 : wr.cell? ⟨w.heap.size + 1, 1, none⟩ = some (.int .i64 0) := (hb0.cell (p := ⟨w.heap.size + 1, 1, none⟩) (by simp; omega)).trans (by simp [go_sem, q1_1])
          have s0 : wr.frozen? ⟨w.heap.size + 1, 0, none⟩ = false := (hb0.frozen (p := ⟨w.heap.size + 1, 0, none⟩) (by simp; omega)).trans (by simp [go_sem, p1_1])
          have s1 : wr.frozen? ⟨w.heap.size + 1, 1, none⟩ = false := (hb0.frozen (p := ⟨w.heap.size + 1, 1, none⟩) (by simp; omega)).trans (by simp [go_sem, p1_1])
          have l1 := hB.lt
          have Hb := Lib.hid hb
          have Hb0 := Lib.hid hb0
          have HB := Lib.hid hB
          clear hB hb hb0
          by_cases hlt : (i : Int) < 2 ^ n.toNat
          · have hi15 : i ≤ 15 := by omega
            have hle : Tb.andn i (2 ^ k') ≤ i := Tb.andn_le i _
            have e1 := i64_andNot_nat i (2 ^ k') (by omega) (by omega)
            change bits .andNot .i64 (i : Int) ((2 ^ k' : Nat) : Int) = ((Tb.andn i (2 ^ k') : Nat) : Int) at e1
            rw [two_nat k'] at e1
            cases v
            · have Hs := Lib.hid (show Tb.setb k' false i = Tb.andn i (2 ^ k') by simp [Tb.setb])
              go_wp2_with fail
              refine wp_region_lex (by kernel_rfl) (by kernel_rfl) (Cls (fun x => x = wr.drew)) (Cls.mk' rfl) ?_
              have lexNE : Nonempty (Wd (fun x => x = wr.drew)) := ⟨⟨_, rfl⟩⟩
              have lexW : ∀ W : Wd (fun x => x = wr.drew), W.val = wr.drew := fun W => W.ok
              (repeat (first | (refine lex_read (by first | exact wanted_n rfl | exact wanted_g rfl rfl rfl rfl) (by exact rfl) (fun K hK => ?_); go_big_quiet_op; refine hK _ ?_; clear hK K) | (refine lex_skip' (by exact wanted_g rfl rfl rfl rfl) (fun K hK => ?_); go_simp; refine hK _ ?_; clear hK K)))
              (refine lex_last (by first | exact wanted_n rfl | exact wanted_g rfl rfl rfl rfl) (by exact rfl) (by kernel_rfl) (fun K hK => ?_); go_big_op)
              (refine hK _ _ ?_; clear hK K)
              clear lexNE lexW
              go_wp2_with fail
              go_roundw
              case rel =>
                refine ⟨i + 1, by omega, by go_num, (Hb0.out.setCell (by simp) _).drew, (Hb.out.setCell (by (try simp) <;> (try omega)) _).drew, ?_⟩
                rw [← tab_add (x := (b' : Int) / 2 ^ Tb.andn i (2 ^ k') % 2) _ hi15 (by rw [Hs.out]; exact bit_int b' _)]
                simpa using (HB.out.set_ 1 _).drew
              case measure => simp [intOf]; omega
            · have Hs := Lib.hid (show Tb.setb k' true i = Tb.andn i (2 ^ k') + 2 ^ k' by simp [Tb.setb])
              have hlt' : Tb.andn i (2 ^ k') + 2 ^ k' ≤ 31 := by
                have : (2 ^ k' : Nat) ≤ 2 ^ 4 := Nat.pow_le_pow_right (by omega) hk4
                omega
              obtain ⟨j, hj⟩ : ∃ j : Nat, j = Tb.andn i (2 ^ k') + 2 ^ k' := ⟨_, rfl⟩
              have hss : IntKind.i64.wrap (((Tb.andn i (2 ^ k') : Nat) : Int) + 2 ^ k') = (j : Int) := by
                rw [← two_nat, hj, ← Int.natCast_add, IntKind.wrap_i64]
                omega
              have hj31 : j ≤ 31 := by omega
              rw [← hj] at Hs
              clear hj
              go_wp2_with fail
              refine wp_region_lex (by kernel_rfl) (by kernel_rfl) (Cls (fun x => x = wr.drew)) (Cls.mk' rfl) ?_
              have lexNE : Nonempty (Wd (fun x => x = wr.drew)) := ⟨⟨_, rfl⟩⟩
              have lexW : ∀ W : Wd (fun x => x = wr.drew), W.val = wr.drew := fun W => W.ok
              (repeat (first | (refine lex_read (by first | exact wanted_n rfl | exact wanted_g rfl rfl rfl rfl) (by exact rfl) (fun K hK => ?_); go_big_quiet_op; refine hK _ ?_; clear hK K) | (refine lex_skip' (by exact wanted_g rfl rfl rfl rfl) (fun K hK => ?_); go_simp; refine hK _ ?_; clear hK K)))
              (refine lex_last (by first | exact wanted_n rfl | exact wanted_g rfl rfl rfl rfl) (by exact rfl) (by kernel_rfl) (fun K hK => ?_); go_big_op)
              (refine hK _ _ ?_; clear hK K)
              clear lexNE lexW
              go_wp2_with fail
              go_roundw
              case rel =>
                refine ⟨i + 1, by omega, by go_num, (Hb0.out.setCell (by simp) _).drew, (Hb.out.setCell (by (try simp) <;> (try omega)) _).drew, ?_⟩
                rw [← tab_add (x := (b' : Int) / 2 ^ j % 2) _ hi15 (by rw [Hs.out]; exact bit_int b' _)]
                simpa using (HB.out.set_ 1 _).drew
              case measure => simp [intOf]; omega
          · have hke : i = 2 ^ n.toNat := by
              have := pow_nat n
              omega
            have Hke := Lib.hid hke
            clear hke
            go_wp2_with fail
            exact bodyPost_ret (v := .agg #[.int .i64 n, .int .i64 (Tb.tab (fun i => b'.testBit (Tb.setb k' v i)) i)]) (by simp [results, Try.results67, go_sem, r0, r1]) rfl
              ⟨by rw [He.out, Hke.out]; rfl, (Hb.out.setCell (by simp) _).setCell (by simp) _⟩
      · have He := Lib.hid (show tCof n b' k v = (0, 0) by
          have : inR k 0 (n - 1) = false := by simp [inR]; omega
          simp [tCof, this])
        have hd0 : decide (k < 0) = false := by simp; omega
        have hd1 : decide (n ≤ k) = true := by simp; omega
        have Hk := Lib.hid hk
        clear hn hk
        go_enter Try.func67, Try.ntmps67
        go_wp2_with fail
        refine (s_TableOk _ _ _).mono ?_
        rintro e w1 ⟨rfl, hb1⟩
        rw [Hk.out]
        have z1 := hb1.size
        try simp at z1
        (try have y1_0 : w.heap.size < w1.heap.size := (by omega))
        have q1_0 := fun o => (bcell hb1).1 (w.heap.size) o (by (try simp) <;> (try omega))
        have p1_0 := fun o => (bcell hb1).2 (w.heap.size) o (by (try simp) <;> (try omega))
        (try have y1_1 : w.heap.size + 1 < w1.heap.size := (by omega))
        have q1_1 := fun o => (bcell hb1).1 (w.heap.size + 1) o (by (try simp) <;> (try omega))
        have p1_1 := fun o => (bcell hb1).2 (w.heap.size + 1) o (by (try simp) <;> (try omega))
        go_wp2_with fail
        exact bodyPost_ret (v := .agg #[.int .i64 0, .int .i64 0]) (by simp [results, Try.results67, go_sem, q1_1]) rfl ⟨by rw [He.out], (by repeat (first | with_reducible exact Below.refl _ _ | with_reducible assumption | with_reducible refine below_drewN ?_ _ | with_reducible refine Below.drew ?_ | ((with_reducible refine Below.alloc ?_ ?_ _); rotate_left; (((try simp) <;> (try omega)) <;> done)) | ((with_reducible refine Below.setCell ?_ ?_ _); rotate_left; (((try simp) <;> (try omega)) <;> done)) | ((with_reducible refine Below.trans ?_ (Below.mono (by with_reducible assumption) ?_)); rotate_left; (((try simp) <;> (try omega)) <;> done))))⟩
    · have He := Lib.hid (show tCof n b' k v = (0, 0) by
        have : inR k 0 (n - 1) = false := by simp [inR]; omega
        simp [tCof, this])
      have hd0 : decide (k < 0) = true := by simp; omega
      have Hk := Lib.hid hk
      clear hn hk
      go_enter Try.func67, Try.ntmps67
      go_wp2_with fail
      refine (s_TableOk _ _ _).mono ?_
      rintro e w1 ⟨rfl, hb1⟩
      rw [Hk.out]
      have z1 := hb1.size
      try simp at z1
      (try have y1_0 : w.heap.size < w1.heap.size := (by omega))
      have q1_0 := fun o => (bcell hb1).1 (w.heap.size) o (by (try simp) <;> (try omega))
      have p1_0 := fun o => (bcell hb1).2 (w.heap.size) o (by (try simp) <;> (try omega))
      (try have y1_1 : w.heap.size + 1 < w1.heap.size := (by omega))
      have q1_1 := fun o => (bcell hb1).1 (w.heap.size + 1) o (by (try simp) <;> (try omega))
      have p1_1 := fun o => (bcell hb1).2 (w.heap.size + 1) o (by (try simp) <;> (try omega))
      go_wp2_with fail
      exact bodyPost_ret (v := .agg #[.int .i64 0, .int .i64 0]) (by simp [results, Try.results67, go_sem, q1_1]) rfl ⟨by rw [He.out], (by repeat (first | with_reducible exact Below.refl _ _ | with_reducible assumption | with_reducible refine below_drewN ?_ _ | with_reducible refine Below.drew ?_ | ((with_reducible refine Below.alloc ?_ ?_ _); rotate_left; (((try simp) <;> (try omega)) <;> done)) | ((with_reducible refine Below.setCell ?_ ?_ _); rotate_left; (((try simp) <;> (try omega)) <;> done)) | ((with_reducible refine Below.trans ?_ (Below.mono (by with_reducible assumption) ?_)); rotate_left; (((try simp) <;> (try omega)) <;> done))))⟩
  · have hk : tOk n b = false := by simpa using hk
    have He := Lib.hid (show tCof n b k v = (0, 0) by simp [tCof, hk])
    have Hk := Lib.hid hk
    clear hk
    go_enter Try.func67, Try.ntmps67
    go_wp2_with fail
    refine (s_TableOk _ _ _).mono ?_
    rintro e w1 ⟨rfl, hb1⟩
    rw [Hk.out]
    have z1 := hb1.size
    try simp at z1
    (try have y1_0 : w.heap.size < w1.heap.size := (by omega))
    have q1_0 := fun o => (bcell hb1).1 (w.heap.size) o (by (try simp) <;> (try omega))
    have p1_0 := fun o => (bcell hb1).2 (w.heap.size) o (by (try simp) <;> (try omega))
    (try have y1_1 : w.heap.size + 1 < w1.heap.size := (by omega))
    have q1_1 := fun o => (bcell hb1).1 (w.heap.size + 1) o (by (try simp) <;> (try omega))
    have p1_1 := fun o => (bcell hb1).2 (w.heap.size + 1) o (by (try simp) <;> (try omega))
    go_wp2_with fail
    exact bodyPost_ret (v := .agg #[.int .i64 0, .int .i64 0]) (by simp [results, Try.results67, go_sem, q1_1]) rfl ⟨by rw [He.out], (by repeat (first | with_reducible exact Below.refl _ _ | with_reducible assumption | with_reducible refine below_drewN ?_ _ | with_reducible refine Below.drew ?_ | ((with_reducible refine Below.alloc ?_ ?_ _); rotate_left; (((try simp) <;> (try omega)) <;> done)) | ((with_reducible refine Below.setCell ?_ ?_ _); rotate_left; (((try simp) <;> (try omega)) <;> done)) | ((with_reducible refine Below.trans ?_ (Below.mono (by with_reducible assumption) ?_)); rotate_left; (((try simp) <;> (try omega)) <;> done))))⟩
end Go.Proofs.Ytcfpjcknilbinaa

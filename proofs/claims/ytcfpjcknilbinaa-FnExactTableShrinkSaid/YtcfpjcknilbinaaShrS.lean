/- Contract: the reference's TableShrink. -/
import Derived.Test.YtcfpjcknilbinaaShr
namespace Go.Proofs.Ytcfpjcknilbinaa
open Go.RowKit
attribute [local go_sem] i64_and1

theorem shl_len {m : Nat} (h : m ≤ 4) : wrap64 ((2 : Int) ^ m) = ((2 ^ m : Nat) : Int) := w64_two (by omega)
theorem spr_bd16 (n b : Int) (i m : Nat) (h : m ≤ (supN n b).length) : Tb.spr (supN n b) i m < 16 := by
  have := Tb.spr_bound (supN_asc n b) (n := 4) (fun k hk => (supN_lt hk).2) i m h
  omega

theorem sum_small {x y : Nat} (hx : x < 16) (hy : y ≤ 16) : wrap64 ((x : Int) + (y : Int)) = ((x + y : Nat) : Int) := by
  rw [IntWalk.wrap64_in _ (by omega)]; rfl
theorem spr_step {n b : Int} {i m : Nat} (hm : m < (supN n b).length) : wrap64 (((Tb.spr (supN n b) i m : Nat) : Int) + wrap64 ((i : Int) / 2 ^ m % 2 * 2 ^ (supN n b).getD m 0)) = ((Tb.spr (supN n b) i (m + 1) : Nat) : Int) := by
  have hg := supN_get hm
  rw [shl_int (i := i) (m := m) hg, Tb.spr]
  refine sum_small (spr_bd16 n b i m (by omega)) ?_
  have : 2 ^ (supN n b).getD m 0 ≤ 2 ^ 4 := Tb.pow_mono (by omega)
  split <;> omega

set_option maxRecDepth 100000 in
set_option maxHeartbeats 4000000 in
theorem s_TableShrink (n b : Int) (w : World) : Calls Try.prog 95 #[.agg #[.int .i64 n, .int .i64 b]] w (OwnTabInts (tShr n b) (tSup n b) w) := by
  by_cases hk : tOk n b = true
  · obtain ⟨b', rfl, hb1, hb2, hn⟩ := tOk_nat hk
    have hlen := tSup_len n b'
    obtain ⟨len, hL⟩ : ∃ len, len = (tSup n b').length := ⟨_, rfl⟩
    have hSl : (supN n b').length = len := by rw [supN_len, hL]
    have He := Lib.hid (show tShr n b' = ((len : Int), (Tb.tab (fun i => b'.testBit (Tb.spr (supN n b') i len)) (2 ^ len) : Int)) by simp [tShr, hk, shrB, hL])
    have Hk := Lib.hid hk
    have HL := Lib.hid hL
    rw [← hL] at hlen
    have hp : (2 ^ len : Nat) ≤ 2 ^ 4 := Tb.pow_mono hlen
    have hw : wrap64 ((2 : Int) ^ len) = 2 ^ len := (shl_len hlen).trans (two_nat len)
    clear hk hn hb1 hL
    go_enter Try.func95, Try.ntmps95
    go_wp2_with fail
    refine (s_TableSupport _ _ _).mono ?_
    rintro e w1 ⟨A, c, rfl, hown, hb1⟩
    rw [← HL.out] at hown ⊢
    have z1 := hb1.size
    try simp at z1
    (try have y1_0 : w.heap.size < w1.heap.size := (by omega))
    have q1_0 := fun o => (bcell hb1).1 (w.heap.size) o (by (try simp) <;> (try omega))
    have p1_0 := fun o => (bcell hb1).2 (w.heap.size) o (by (try simp) <;> (try omega))
    (try have y1_1 : w.heap.size + 1 < w1.heap.size := (by omega))
    have q1_1 := fun o => (bcell hb1).1 (w.heap.size + 1) o (by (try simp) <;> (try omega))
    have p1_1 := fun o => (bcell hb1).2 (w.heap.size + 1) o (by (try simp) <;> (try omega))
    have Hown := Lib.hid (own_mono hown (base' := w.heap.size + 2) (by simp))
    clear hown
    go_wp2_with fail
    refine (s_TableOk _ _ _).mono ?_
    rintro e w2 ⟨rfl, hb2⟩
    rw [Hk.out]
    have z2 := hb2.size
    try simp at z2
    (try have y2_0 : w.heap.size < w2.heap.size := (by omega))
    have q2_0 := fun o => (bcell hb2).1 (w.heap.size) o (by (try simp) <;> (try omega))
    have p2_0 := fun o => (bcell hb2).2 (w.heap.size) o (by (try simp) <;> (try omega))
    (try have y2_1 : w.heap.size + 1 < w2.heap.size := (by omega))
    have q2_1 := fun o => (bcell hb2).1 (w.heap.size + 1) o (by (try simp) <;> (try omega))
    have p2_1 := fun o => (bcell hb2).2 (w.heap.size + 1) o (by (try simp) <;> (try omega))
    have R := Lib.hid ((Reads.of_own Hown.out).below hb2)
    have Hown2 := Lib.hid (own_below Hown.out hb2 (Nat.le_refl _))
    have Hb1 := Lib.hid hb1
    have Hb2 := Lib.hid hb2
    clear hb1 hb2
    go_wp2_with fail
    go_loopw [6, 7, 8] (fun i _ _ wr => ∃ k : Nat, k ≤ 2 ^ len ∧ i = .int .i64 k ∧ Below w2.heap.size w2 wr ∧ Blk wr w2.heap.size 32 #[.int .i64 len, .int .i64 (Tb.tab (fun i => b'.testBit (Tb.spr (supN n b') i len)) k)]) (fun i _ _ _ => 17 - (intOf i).toNat)
    case atStart =>
      have hb2 := Hb2.out
      exact ⟨0, Nat.zero_le _, rfl, (by repeat (first | with_reducible exact Below.refl _ _ | with_reducible assumption | with_reducible refine below_drewN ?_ _ | with_reducible refine Below.drew ?_ | ((with_reducible refine Below.alloc ?_ ?_ _); rotate_left; (((try simp) <;> (try omega)) <;> done)) | ((with_reducible refine Below.setCell ?_ ?_ _); rotate_left; (((try simp) <;> (try omega)) <;> done)) | ((with_reducible refine Below.trans ?_ (Below.mono (by with_reducible assumption) ?_)); rotate_left; (((try simp) <;> (try omega)) <;> done)))), by simpa [Tb.tab] using Blk.new w2 _ _⟩
    case round =>
      obtain ⟨i, hi, rfl, hb, hB⟩ := hrel
      have c1 := hB.cell 1
      have f1 := hB.frozen 1
      have c0 := hB.cell 0
      have l1 := hB.lt
      have t1 : wr.cell? ⟨w.heap.size, 1, none⟩ = some (.int .i64 b') := (hb.cell (p := ⟨w.heap.size, 1, none⟩) (by simp; omega)).trans (by simp [go_sem, q2_0, q1_0])
      have r0 : wr.cell? ⟨w.heap.size + 1, 0, none⟩ = some (.int .i64 0) := (hb.cell (p := ⟨w.heap.size + 1, 0, none⟩) (by simp; omega)).trans (by simp [go_sem, q2_1, q1_1])
      have r1 : wr.cell? ⟨w.heap.size + 1, 1, none⟩ = some (.int .i64 0) := (hb.cell (p := ⟨w.heap.size + 1, 1, none⟩) (by simp; omega)).trans (by simp [go_sem, q2_1, q1_1])
      have s0 : wr.frozen? ⟨w.heap.size + 1, 0, none⟩ = false := (hb.frozen (p := ⟨w.heap.size + 1, 0, none⟩) (by simp; omega)).trans (by simp [go_sem, p2_1, p1_1])
      have s1 : wr.frozen? ⟨w.heap.size + 1, 1, none⟩ = false := (hb.frozen (p := ⟨w.heap.size + 1, 1, none⟩) (by simp; omega)).trans (by simp [go_sem, p2_1, p1_1])
      have Rr := Lib.hid (R.out.below (hb.mono z2))
      have Hb := Lib.hid hb
      have HB := Lib.hid hB
      clear hb hB
      have hT := two_nat len
      by_cases hlt : (i : Int) < 2 ^ len
      · have hi15 : i ≤ 15 := by omega
        have HT := Lib.hid hT
        clear hT
        go_wp2_with fail
        go_loopw [7, 8] (fun j k wx => ∃ m : Nat, m ≤ len ∧ k = .int .i64 m ∧ j = .int .i64 (Tb.spr (supN n b') i m) ∧ ∃ q, wx = wr.drewN q) (fun _ k _ => len - (intOf k).toNat)
        case atStart => exact ⟨0, by omega, rfl, rfl, 0, rfl⟩
        case round =>
          obtain ⟨m, hm, rfl, rfl, q, rfl⟩ := hrel
          by_cases hml : m < len
          · obtain ⟨ad, x, rfl, hab, hx, hc⟩ := Rr.out.int_at hml
            have hml' : m < (supN n b').length := by omega
            have hx' : x = (((supN n b').getD m 0 : Nat) : Int) := by
              rw [tSup_cast, List.getElem?_map, List.getElem?_eq_getElem hml'] at hx
              rw [Tb.getD_el hml']
              injection hx with hx
              exact hx.symm
            have hg4 := supN_get hml'
            have HS0 := spr_step (i := i) hml'
            obtain ⟨p, hq⟩ : ∃ p : Nat, p = (supN n b').getD m 0 := ⟨_, rfl⟩
            rw [← hq] at hx' hg4 HS0
            subst hx'
            have HS := Lib.hid HS0
            clear HS0
            have cx : wr.cell? (ad.add m) = some (.int .i64 p) := hc
            have g1 : (0 : Int) ≤ (m : Int) := by omega
            have m1 : min m 64 = m := by omega
            have m2 : min p 64 = p := by omega
            have g2 : (m : Int) < (len : Int) := by omega
            clear hq hx hc hw
            go_wp2_with fail
            refine wp_region_lex (by kernel_rfl) (by kernel_rfl) (Cls (fun x => x = wr.drewN (q + 1))) (Cls.mk' rfl) ?_
            have lexNE : Nonempty (Wd (fun x => x = wr.drewN (q + 1))) := ⟨⟨_, rfl⟩⟩
            have lexW : ∀ W : Wd (fun x => x = wr.drewN (q + 1)), W.val = wr.drewN (q + 1) := fun W => W.ok
            (repeat (first | (refine lex_read (by first | exact wanted_n rfl | exact wanted_g rfl rfl rfl rfl) (by exact rfl) (fun K hK => ?_); go_big_quiet_op; refine hK _ ?_; clear hK K) | (refine lex_skip' (by exact wanted_g rfl rfl rfl rfl) (fun K hK => ?_); go_simp; refine hK _ ?_; clear hK K)))
            (refine lex_nil ?_)
            clear lexNE lexW
            go_wp2_with fail
            go_roundw
            case rel =>
              exact ⟨m + 1, by omega, by go_num, by rw [HS.out], q + 1, rfl⟩
            case measure => simp [intOf]; omega
          · have hml' : m = len := by omega
            have h16 := spr_bd16 n b' i m (by omega)
            have HJ := Lib.hid (show b'.testBit (Tb.spr (supN n b') i m) = b'.testBit (Tb.spr (supN n b') i len) by rw [hml'])
            clear hml' hw HT
            generalize Tb.spr (supN n b') i m = j at h16 HJ ⊢
            have m1 : min j 64 = j := by omega
            go_wp2_with fail
            refine wp_region_lex (by kernel_rfl) (by kernel_rfl) (Cls (fun x => x = wr.drewN (q + 1))) (Cls.mk' rfl) ?_
            have lexNE : Nonempty (Wd (fun x => x = wr.drewN (q + 1))) := ⟨⟨_, rfl⟩⟩
            have lexW : ∀ W : Wd (fun x => x = wr.drewN (q + 1)), W.val = wr.drewN (q + 1) := fun W => W.ok
            (repeat (first | (refine lex_read (by first | exact wanted_n rfl | exact wanted_g rfl rfl rfl rfl) (by exact rfl) (fun K hK => ?_); go_big_quiet_op; refine hK _ ?_; clear hK K) | (refine lex_skip' (by exact wanted_g rfl rfl rfl rfl) (fun K hK => ?_); go_simp; refine hK _ ?_; clear hK K)))
            (refine lex_last (by first | exact wanted_n rfl | exact wanted_g rfl rfl rfl rfl) (by exact rfl) (by kernel_rfl) (fun K hK => ?_); go_big_op)
            (refine hK _ _ ?_; clear hK K)
            clear lexNE lexW
            go_wp2_with fail
            go_roundw
            case rel =>
              have hT := two_nat len
              refine ⟨i + 1, by omega, by go_num, ((below_drewN Hb.out _).setCell (by simp) _), ?_⟩
              rw [← tab_add (x := (b' : Int) / 2 ^ j % 2) _ hi15 (by rw [← HJ.out]; exact bit_int b' j)]
              simpa using ((HB.out.drewN _).set_ 1 _)
            case measure => simp [intOf]; omega
      · have hke : i = 2 ^ len := by omega
        have Hke := Lib.hid hke
        clear hke hT
        go_wp2_with fail
        refine bodyPost_ret (v := .tuple #[.agg #[.int .i64 len, .int .i64 (Tb.tab (fun i => b'.testBit (Tb.spr (supN n b') i len)) i)], .slice A len c]) (by simp [results, Try.results95, go_sem, r0, r1]) rfl ?_
        have hb1 := Hb1.out
        have hb2 := Hb2.out
        have hb := Hb.out
        have zr := hb.size
        have h1 := own_below Hown2.out hb (Nat.le_refl _)
        unfold OwnTabInts
        rw [He.out, ← Hke.out, ← HL.out]
        exact ⟨A, c, rfl, own_mono (ownsRow_setCell_below (ownsRow_setCell_below h1 (a := ⟨w.heap.size + 1, 0, none⟩) (by (try simp) <;> (try omega)) _) (a := ⟨w.heap.size + 1, 1, none⟩) (by (try simp) <;> (try omega)) _) (by omega), (by repeat (first | with_reducible exact Below.refl _ _ | with_reducible assumption | with_reducible refine below_drewN ?_ _ | with_reducible refine Below.drew ?_ | ((with_reducible refine Below.alloc ?_ ?_ _); rotate_left; (((try simp) <;> (try omega)) <;> done)) | ((with_reducible refine Below.setCell ?_ ?_ _); rotate_left; (((try simp) <;> (try omega)) <;> done)) | ((with_reducible refine Below.trans ?_ (Below.mono (by with_reducible assumption) ?_)); rotate_left; (((try simp) <;> (try omega)) <;> done))))⟩
  · have hk : tOk n b = false := by simpa using hk
    have He := Lib.hid (show tShr n b = (0, 0) by simp [tShr, hk])
    have Hk := Lib.hid hk
    have hlen := tSup_len n b
    clear hk
    go_enter Try.func95, Try.ntmps95
    go_wp2_with fail
    refine (s_TableSupport _ _ _).mono ?_
    rintro e w1 ⟨A, c, rfl, hown, hb1⟩
    have z1 := hb1.size
    try simp at z1
    (try have y1_0 : w.heap.size < w1.heap.size := (by omega))
    have q1_0 := fun o => (bcell hb1).1 (w.heap.size) o (by (try simp) <;> (try omega))
    have p1_0 := fun o => (bcell hb1).2 (w.heap.size) o (by (try simp) <;> (try omega))
    (try have y1_1 : w.heap.size + 1 < w1.heap.size := (by omega))
    have q1_1 := fun o => (bcell hb1).1 (w.heap.size + 1) o (by (try simp) <;> (try omega))
    have p1_1 := fun o => (bcell hb1).2 (w.heap.size + 1) o (by (try simp) <;> (try omega))
    have Hown := Lib.hid (own_mono hown (base' := w.heap.size + 2) (by simp))
    clear hown
    go_wp2_with fail
    refine (s_TableOk _ _ _).mono ?_
    rintro e w2 ⟨rfl, hb2⟩
    rw [Hk.out]
    have z2 := hb2.size
    try simp at z2
    (try have y2_0 : w.heap.size < w2.heap.size := (by omega))
    have q2_0 := fun o => (bcell hb2).1 (w.heap.size) o (by (try simp) <;> (try omega))
    have p2_0 := fun o => (bcell hb2).2 (w.heap.size) o (by (try simp) <;> (try omega))
    (try have y2_1 : w.heap.size + 1 < w2.heap.size := (by omega))
    have q2_1 := fun o => (bcell hb2).1 (w.heap.size + 1) o (by (try simp) <;> (try omega))
    have p2_1 := fun o => (bcell hb2).2 (w.heap.size + 1) o (by (try simp) <;> (try omega))
    go_wp2_with fail
    refine bodyPost_ret (v := .tuple #[.agg #[.int .i64 0, .int .i64 0], .slice A (tSup n b).length c]) (by simp [results, Try.results95, go_sem, q2_1, q1_1]) rfl ?_
    have h1 := own_below Hown.out hb2 (Nat.le_refl _)
    unfold OwnTabInts
    rw [He.out]
    exact ⟨A, c, rfl, own_mono (ownsRow_setCell_below (ownsRow_setCell_below h1 (a := ⟨w.heap.size + 1, 0, none⟩) (by (try simp) <;> (try omega)) _) (a := ⟨w.heap.size + 1, 1, none⟩) (by (try simp) <;> (try omega)) _) (by omega), (by repeat (first | with_reducible exact Below.refl _ _ | with_reducible assumption | with_reducible refine below_drewN ?_ _ | with_reducible refine Below.drew ?_ | ((with_reducible refine Below.alloc ?_ ?_ _); rotate_left; (((try simp) <;> (try omega)) <;> done)) | ((with_reducible refine Below.setCell ?_ ?_ _); rotate_left; (((try simp) <;> (try omega)) <;> done)) | ((with_reducible refine Below.trans ?_ (Below.mono (by with_reducible assumption) ?_)); rotate_left; (((try simp) <;> (try omega)) <;> done))))⟩
end Go.Proofs.Ytcfpjcknilbinaa

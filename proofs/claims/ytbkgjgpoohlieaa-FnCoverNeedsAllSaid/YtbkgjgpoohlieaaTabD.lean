/- Contracts: a table's variable, complement and cofactors, whether it depends on an input: the reference's functions, and the program's by tableOf. -/
import Derived.Test.YtbkgjgpoohlieaaTabC
namespace Go.Proofs.Ytbkgjgpoohlieaa
open Go.RowKit
attribute [local go_sem] i64_and1

set_option maxRecDepth 100000 in
set_option maxHeartbeats 4000000 in
theorem i_TableVar (n k : Int) (w : World) : Calls Try.prog 19 #[.int .i64 n, .int .i64 k] w fun e w' =>
   e = .returned (.tuple #[.agg #[.int .i64 (tVar n k).1, .int .i64 (tVar n k).2.1], .bool (tVar n k).2.2]) ∧ Below w.heap.size w w' := by
 by_cases hn : inR n 0 4 = true
 ·by_cases hk : inR k 0 (n - 1) = true
  ·have hk0 := (inR_iff.1 hk).1
   have hk1 := (inR_iff.1 hk).2
   have hn1 := (inR_iff.1 hn).2
   have He := Lib.hid (show tVar n k = (n, ((Tb.tab (fun i => i.testBit k.toNat) (2 ^ n.toNat) : Nat) : Int), true) by simp [tVar, hn, hk0, (show k < n by omega)])
   obtain ⟨k', rfl⟩ := Int.eq_ofNat_of_zero_le hk0
   have hk4 : k' ≤ 4 := by omega
   have hp := (pow_bd hn).2
   have Hn := Lib.hid hn
   have Hk := Lib.hid hk
   clear hn hk
   go_enter Try.func19, Try.ntmps19
   go_wp2_with (first | (go_at_call 53; refine (i_inRange _ _ _ _).mono ?_; rintro e w' ⟨rfl, rfl⟩; first | rw [Hn.out] | rw [Hk.out]))
   refine (i_tableOf n Hn.out 55 _ (fun i => i.testBit k') _ cf_Var (fun i W hi hW => ?_)).mono ?_
   ·have k0 := hW.cell (p := ⟨w.heap.size, 0, none⟩) (by (try simp) <;> (try omega))
    exact i_Var1 i k' w.heap.size W (by omega) hk4 (by rw [k0]; simp [go_sem])
   ·rintro e w2 ⟨rfl, hb2⟩
    have z2 := hb2.size
    try simp at z2
    (try have y2_0 : w.heap.size < w2.heap.size := (by omega))
    have q2_0 := fun o => (bcell hb2).1 (w.heap.size) o (by (try simp) <;> (try omega))
    have p2_0 := fun o => (bcell hb2).2 (w.heap.size) o (by (try simp) <;> (try omega))
    (try have y2_1 : w.heap.size + 1 < w2.heap.size := (by omega))
    have q2_1 := fun o => (bcell hb2).1 (w.heap.size + 1) o (by (try simp) <;> (try omega))
    have p2_1 := fun o => (bcell hb2).2 (w.heap.size + 1) o (by (try simp) <;> (try omega))
    go_wp2_with fail
    exact bodyPost_ret (v := .tuple #[.agg #[.int .i64 n, .int .i64 (Tb.tab (fun i => i.testBit k') (2 ^ n.toNat))], .bool true]) (by simp [results, Try.results19, go_sem, q2_1]) rfl ⟨by rw [He.out]; rfl, bel_⟩
  ·have hk : inR k 0 (n - 1) = false := by simpa using hk
   have He := Lib.hid (show tVar n k = (0, 0, false) by
    have := inR_not hk
    simp only [tVar]
    rw [if_neg]
    simp only [Bool.and_eq_true, decide_eq_true_eq]
    omega)
   have hn0 := (inR_iff.1 hn).1
   have hn1 := (inR_iff.1 hn).2
   have Hn := Lib.hid hn
   have Hk := Lib.hid hk
   clear hn hk
   go_enter Try.func19, Try.ntmps19
   go_wp2_with (first | (go_at_call 53; refine (i_inRange _ _ _ _).mono ?_; rintro e w' ⟨rfl, rfl⟩; first | rw [Hn.out] | rw [Hk.out]))
   exact bodyPost_ret (v := .tuple #[.agg #[.int .i64 0, .int .i64 0], .bool false]) (by simp [results, Try.results19, go_sem]) rfl ⟨by rw [He.out], bel_⟩
 ·have hn : inR n 0 4 = false := by simpa using hn
  have He := Lib.hid (show tVar n k = (0, 0, false) by simp [tVar, hn])
  have Hn := Lib.hid hn
  clear hn
  go_enter Try.func19, Try.ntmps19
  go_wp2_with (first | (go_at_call 53; refine (i_inRange _ _ _ _).mono ?_; rintro e w' ⟨rfl, rfl⟩; rw [Hn.out]))
  exact bodyPost_ret (v := .tuple #[.agg #[.int .i64 0, .int .i64 0], .bool false]) (by simp [results, Try.results19, go_sem]) rfl ⟨by rw [He.out], bel_⟩

theorem full_le {n : Int} (h : inR n 0 4 = true) : 0 ≤ full n ∧ full n ≤ 65535 := by
 rcases five h with rfl | rfl | rfl | rfl | rfl <;> exact ⟨by decide, by decide⟩

set_option maxRecDepth 100000 in
set_option maxHeartbeats 4000000 in
theorem s_TableNot (n b : Int) (w : World) : Calls Try.prog 74 #[.agg #[.int .i64 n, .int .i64 b]] w fun e w' =>
   e = .returned (.agg #[.int .i64 (tNot n b).1, .int .i64 (tNot n b).2]) ∧ Below w.heap.size w w' := by
 by_cases hk : tOk n b = true
 ·obtain ⟨b', rfl, hb1, hb2, hn⟩ := tOk_nat hk
  have He := Lib.hid (show tNot n b' = (n, full n - b') by simp [tNot, hk])
  have hf := full_le hn
  have Hn := Lib.hid hn
  have Hk := Lib.hid hk
  clear hn hk
  go_enter Try.func74, Try.ntmps74
  go_wp2_with fail
  refine (s_TableOk _ _ _).mono ?_
  rintro e w1 ⟨rfl, hb1⟩
  rw [Hk.out]
  have z1 := hb1.size
  try simp at z1
  (try have y1_0 : w.heap.size < w1.heap.size := (by omega))
  have q1_0 := fun o => (bcell hb1).1 (w.heap.size) o (by (try simp) <;> (try omega))
  have p1_0 := fun o => (bcell hb1).2 (w.heap.size) o (by (try simp) <;> (try omega))
  (try have y1_1 : w.heap.size + 1 < w1.heap.size := (by omega))
  have q1_1 := fun o => (bcell hb1).1 (w.heap.size + 1) o (by (try simp) <;> (try omega))
  have p1_1 := fun o => (bcell hb1).2 (w.heap.size + 1) o (by (try simp) <;> (try omega))
  go_wp2_with fail
  refine wp_region_lex (by kernel_rfl) (by kernel_rfl) (Cls (fun x => x = w1.drew)) (Cls.mk' rfl) ?_
  have lexNE : Nonempty (Wd (fun x => x = w1.drew)) := ⟨⟨_, rfl⟩⟩
  have lexW : ∀ W : Wd (fun x => x = w1.drew), W.val = w1.drew := fun W => W.ok
  (repeat (first | (refine lex_r fun K hK => ?_; go_big_quiet_op; refine hK _ ?_; clear hK K) | (refine lex_k fun K hK => ?_; go_simp; refine hK _ ?_; clear hK K)))
  (refine lex_e fun K hK => ?_; go_big_op)
  refine (s_l02Full _ _ Hn.out).mono ?_
  rintro e w2 ⟨rfl, rfl⟩
  refine hK _ _ (Cls.mk' rfl) ?_
  clear hK K
  (repeat (first | (refine lex_r fun K hK => ?_; go_big_quiet_op; refine hK _ ?_; clear hK K) | (refine lex_k fun K hK => ?_; go_simp; refine hK _ ?_; clear hK K)))
  (refine lex_l fun K hK => ?_; go_big_op)
  (refine hK _ _ ?_; clear hK K)
  go_wp2_with fail
  exact bodyPost_ret (v := .agg #[.int .i64 n, .int .i64 (full n - b')]) (by simp [results, Try.results74, go_sem, q1_1]) rfl ⟨by rw [He.out], bel_⟩
 ·have hk : tOk n b = false := by simpa using hk
  have He := Lib.hid (show tNot n b = (0, 0) by simp [tNot, hk])
  go_enter Try.func74, Try.ntmps74
  go_wp2_with fail
  refine (s_TableOk _ _ _).mono ?_
  rintro e w1 ⟨rfl, hb1⟩
  have z1 := hb1.size
  try simp at z1
  (try have y1_0 : w.heap.size < w1.heap.size := (by omega))
  have q1_0 := fun o => (bcell hb1).1 (w.heap.size) o (by (try simp) <;> (try omega))
  have p1_0 := fun o => (bcell hb1).2 (w.heap.size) o (by (try simp) <;> (try omega))
  (try have y1_1 : w.heap.size + 1 < w1.heap.size := (by omega))
  have q1_1 := fun o => (bcell hb1).1 (w.heap.size + 1) o (by (try simp) <;> (try omega))
  have p1_1 := fun o => (bcell hb1).2 (w.heap.size + 1) o (by (try simp) <;> (try omega))
  go_wp2_with fail
  exact bodyPost_ret (v := .agg #[.int .i64 0, .int .i64 0]) (by simp [results, Try.results74, go_sem, q1_1]) rfl ⟨by rw [He.out], bel_⟩
end Go.Proofs.Ytbkgjgpoohlieaa

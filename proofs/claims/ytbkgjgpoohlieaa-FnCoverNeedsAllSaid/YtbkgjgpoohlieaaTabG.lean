/- Contracts: whether a table depends on an input: both functions. -/
import Derived.Test.YtbkgjgpoohlieaaTabF
import Derived.Test.YtbkgjgpoohlieaaStructEq
namespace Go.Proofs.Ytbkgjgpoohlieaa
open Go.RowKit

def tDep (n b k : Int) : Bool := tOk n b && inR k 0 (n - 1) && (decide ((tCof n b k false).1 ≠ (tCof n b k true).1) || decide ((tCof n b k false).2 ≠ (tCof n b k true).2))

theorem tCof_n {n b k : Int} {v : Bool} (h : tOk n b = true) (h2 : inR k 0 (n - 1) = true) : (tCof n b k v).1 = n := by simp [tCof, h, h2]
theorem tDep_of {n b k : Int} (h : tOk n b = true) (h2 : inR k 0 (n - 1) = true) : tDep n b k = decide ((tCof n b k false).2 ≠ (tCof n b k true).2) := by
 simp only [tDep, h, h2, tCof_n h h2]; simp

set_option maxRecDepth 100000 in
set_option maxHeartbeats 4000000 in
theorem i_TableDepends (n b k : Int) (w : World) :
  Calls Try.prog 21 #[.agg #[.int .i64 n, .int .i64 b], .int .i64 k] w fun e w' => e = .returned (.bool (tDep n b k)) ∧ Below w.heap.size w w' := by
 by_cases hk : tOk n b = true
 ·have hn := (tOk_nat hk).choose_spec.2.2.2
  have hn0 := (inR_iff.1 hn).1
  have hn1 := (inR_iff.1 hn).2
  by_cases hkk : inR k 0 (n - 1) = true
  ·have He := Lib.hid (tDep_of hk hkk)
   have Hc := Lib.hid (fun v => tCof_n (v := v) hk hkk)
   have Hk := Lib.hid hk
   have Hkk := Lib.hid hkk
   clear hn hk hkk
   go_enter Try.func21, Try.ntmps21
   go_wp2_with fail
   refine wp_region_lexC (by kernel_rfl) (by kernel_rfl) (fun x => Below (w.heap.size + 1) (w.alloc (.cells #[.int .i64 n, .int .i64 b] 31)) x) ((Below.refl _ _).drew) (fun lexNE => ?_)
   have c0 : ∀ W : Wd (fun x => Below (w.heap.size + 1) (w.alloc (.cells #[.int .i64 n, .int .i64 b] 31)) x), W.val.cell? ⟨w.heap.size, 0, none⟩ = some (.int .i64 n) := fun W => by rw [W.ok.cell (by simp)]; simp [go_sem]
   have c1 : ∀ W : Wd (fun x => Below (w.heap.size + 1) (w.alloc (.cells #[.int .i64 n, .int .i64 b] 31)) x), W.val.cell? ⟨w.heap.size, 1, none⟩ = some (.int .i64 b) := fun W => by rw [W.ok.cell (by simp)]; simp [go_sem]
   (repeat (first | (refine lex_r fun K hK => ?_; go_big_quiet_op; refine hK _ ?_; clear hK K) | (refine lex_k fun K hK => ?_; go_simp; refine hK _ ?_; clear hK K)))
   (refine lex_e fun K hK => ?_; go_big_op)
   refine (i_TableOk _ _ _).mono ?_
   rintro e w1 ⟨rfl, hb1⟩
   rw [Hk.out]
   (refine hK _ _ (Cls.mk' bel_) ?_; clear hK K)
   (repeat (first | (refine lex_r fun K hK => ?_; go_big_quiet_op; refine hK _ ?_; clear hK K) | (refine lex_k fun K hK => ?_; go_simp; refine hK _ ?_; clear hK K)))
   (refine lex_e fun K hK => ?_; go_big_op)
   refine (i_inRange _ _ _ _).mono ?_
   rintro e w' ⟨rfl, rfl⟩
   rw [Hkk.out]
   (refine hK _ _ (Cls.mk' bel_) ?_; clear hK K)
   (repeat (first | (refine lex_r fun K hK => ?_; go_big_quiet_op; refine hK _ ?_; clear hK K) | (refine lex_k fun K hK => ?_; go_simp; refine hK _ ?_; clear hK K)))
   (refine lex_e fun K hK => ?_; go_big_op)
   refine (i_TableCofactor _ _ _ _ _).mono ?_
   rintro e w2 ⟨rfl, hb2⟩
   rw [Hc.out]
   have z1 := hb1.size
   simp at z1
   (refine hK _ _ (Cls.mk' bel_) ?_; clear hK K)
   (repeat (first | (refine lex_r fun K hK => ?_; go_big_quiet_op; refine hK _ ?_; clear hK K) | (refine lex_k fun K hK => ?_; go_simp; refine hK _ ?_; clear hK K)))
   (refine lex_e fun K hK => ?_; go_big_op)
   refine (i_TableCofactor _ _ _ _ _).mono ?_
   rintro e w3 ⟨rfl, hb3⟩
   rw [Hc.out]
   have z2 := hb2.size
   (refine hK _ _ (Cls.mk' bel_) ?_; clear hK K)
   (repeat (first | (refine lex_r fun K hK => ?_; go_big_quiet_op; refine hK _ ?_; clear hK K) | (refine lex_k fun K hK => ?_; go_simp; refine hK _ ?_; clear hK K)))
   (refine lex_nil ?_)
   go_wp2
   go_ret
   exact ⟨ret_bool (by rw [He.out]; simp; rw [Bool.beq_eq_decide_eq]), bel_⟩
  ·have hkk : inR k 0 (n - 1) = false := by simpa using hkk
   have He := Lib.hid (show tDep n b k = false by simp [tDep, hkk])
   have Hk := Lib.hid hk
   have Hkk := Lib.hid hkk
   clear hn hk hkk
   go_enter Try.func21, Try.ntmps21
   go_wp2_with fail
   refine wp_region_lexC (by kernel_rfl) (by kernel_rfl) (fun x => Below (w.heap.size + 1) (w.alloc (.cells #[.int .i64 n, .int .i64 b] 31)) x) ((Below.refl _ _).drew) (fun lexNE => ?_)
   have c0 : ∀ W : Wd (fun x => Below (w.heap.size + 1) (w.alloc (.cells #[.int .i64 n, .int .i64 b] 31)) x), W.val.cell? ⟨w.heap.size, 0, none⟩ = some (.int .i64 n) := fun W => by rw [W.ok.cell (by simp)]; simp [go_sem]
   have c1 : ∀ W : Wd (fun x => Below (w.heap.size + 1) (w.alloc (.cells #[.int .i64 n, .int .i64 b] 31)) x), W.val.cell? ⟨w.heap.size, 1, none⟩ = some (.int .i64 b) := fun W => by rw [W.ok.cell (by simp)]; simp [go_sem]
   (repeat (first | (refine lex_r fun K hK => ?_; go_big_quiet_op; refine hK _ ?_; clear hK K) | (refine lex_k fun K hK => ?_; go_simp; refine hK _ ?_; clear hK K)))
   (refine lex_e fun K hK => ?_; go_big_op)
   refine (i_TableOk _ _ _).mono ?_
   rintro e w1 ⟨rfl, hb1⟩
   rw [Hk.out]
   (refine hK _ _ (Cls.mk' bel_) ?_; clear hK K)
   (repeat (first | (refine lex_r fun K hK => ?_; go_big_quiet_op; refine hK _ ?_; clear hK K) | (refine lex_k fun K hK => ?_; go_simp; refine hK _ ?_; clear hK K)))
   (refine lex_e fun K hK => ?_; go_big_op)
   refine (i_inRange _ _ _ _).mono ?_
   rintro e w' ⟨rfl, rfl⟩
   rw [Hkk.out]
   (refine hK _ _ (Cls.mk' bel_) ?_; clear hK K)
   (repeat (first | (refine lex_r fun K hK => ?_; go_big_quiet_op; refine hK _ ?_; clear hK K) | (refine lex_k fun K hK => ?_; go_simp; refine hK _ ?_; clear hK K)))
   (refine lex_nil ?_)
   go_wp2
   go_ret
   exact ⟨ret_bool (by rw [He.out]), bel_⟩
 ·have hk : tOk n b = false := by simpa using hk
  have He := Lib.hid (show tDep n b k = false by simp [tDep, hk])
  have Hk := Lib.hid hk
  clear hk
  go_enter Try.func21, Try.ntmps21
  go_wp2_with fail
  refine wp_region_lexC (by kernel_rfl) (by kernel_rfl) (fun x => Below (w.heap.size + 1) (w.alloc (.cells #[.int .i64 n, .int .i64 b] 31)) x) ((Below.refl _ _).drew) (fun lexNE => ?_)
  have c0 : ∀ W : Wd (fun x => Below (w.heap.size + 1) (w.alloc (.cells #[.int .i64 n, .int .i64 b] 31)) x), W.val.cell? ⟨w.heap.size, 0, none⟩ = some (.int .i64 n) := fun W => by rw [W.ok.cell (by simp)]; simp [go_sem]
  have c1 : ∀ W : Wd (fun x => Below (w.heap.size + 1) (w.alloc (.cells #[.int .i64 n, .int .i64 b] 31)) x), W.val.cell? ⟨w.heap.size, 1, none⟩ = some (.int .i64 b) := fun W => by rw [W.ok.cell (by simp)]; simp [go_sem]
  (repeat (first | (refine lex_r fun K hK => ?_; go_big_quiet_op; refine hK _ ?_; clear hK K) | (refine lex_k fun K hK => ?_; go_simp; refine hK _ ?_; clear hK K)))
  (refine lex_e fun K hK => ?_; go_big_op)
  refine (i_TableOk _ _ _).mono ?_
  rintro e w1 ⟨rfl, hb1⟩
  rw [Hk.out]
  (refine hK _ _ (Cls.mk' bel_) ?_; clear hK K)
  (repeat (first | (refine lex_r fun K hK => ?_; go_big_quiet_op; refine hK _ ?_; clear hK K) | (refine lex_k fun K hK => ?_; go_simp; refine hK _ ?_; clear hK K)))
  (refine lex_nil ?_)
  go_wp2
  go_ret
  exact ⟨ret_bool (by rw [He.out]), bel_⟩

theorem inR_bool {k n : Int} : inR k 0 (n - 1) = (decide (0 ≤ k) && decide (k < n)) := by
 rw [Bool.eq_iff_iff]; simp [inR]; omega

end Go.Proofs.Ytbkgjgpoohlieaa

/- Contracts: 'the same' of the laws, on equal data. -/
import Derived.Test.YtolndlmhbnpmeaaDoorDesignD
import Derived.Test.YtolndlmhbnpmeaaDoorChecked
import Derived.Laws.StructEq
import Derived.Deep.CutRange
import Derived.Outline
namespace Go.Proofs.YtolndlmhbnpmeaaDoor
open Go.RowKit

theorem heldS_Signal : Tryd.prog.stoodInHeld 66 = false := by kernel_rfl
theorem guardS_Signal : Tryd.prog.eqGuardType Tryd.prog.depth 66 = false := by kernel_rfl
@[go_sem high] theorem neqS_Signal (a b c : Int) (w : World) : (binOp .neq 66 (.agg #[.int .i64 a, .int .i64 b, .int .i64 c]) (.agg #[.int .i64 a, .int .i64 b, .int .i64 c])).run Tryd.prog w = .ok (.bool false) w := by
 rw [run_neq_struct]
 simp [go_sem]
@[go_sem] theorem gdS_Signal (x y : Operand) (a b c : Int) (w : World) : (eqGuard .neq 66 x y (.agg #[.int .i64 a, .int .i64 b, .int .i64 c]) (.agg #[.int .i64 a, .int .i64 b, .int .i64 c])).run Tryd.prog w = .ok () w := run_eqGuard_agg _ _ _ _ _ _ _ guardS_Signal
theorem heldS_Mem : Tryd.prog.stoodInHeld 77 = false := by kernel_rfl
theorem guardS_Mem : Tryd.prog.eqGuardType Tryd.prog.depth 77 = false := by kernel_rfl
@[go_sem high] theorem neqS_Mem (a b c d : Int) (w : World) : (binOp .neq 77 (.agg #[.int .i64 a, .int .i64 b, .int .i64 c, .int .i64 d]) (.agg #[.int .i64 a, .int .i64 b, .int .i64 c, .int .i64 d])).run Tryd.prog w = .ok (.bool false) w := by
 rw [run_neq_struct]
 simp [go_sem]
@[go_sem] theorem gdS_Mem (x y : Operand) (a b c d : Int) (w : World) : (eqGuard .neq 77 x y (.agg #[.int .i64 a, .int .i64 b, .int .i64 c, .int .i64 d]) (.agg #[.int .i64 a, .int .i64 b, .int .i64 c, .int .i64 d])).run Tryd.prog w = .ok () w := run_eqGuard_agg _ _ _ _ _ _ _ guardS_Mem
theorem heldS_Op : Tryd.prog.stoodInHeld 71 = false := by kernel_rfl
theorem guardS_Op : Tryd.prog.eqGuardType Tryd.prog.depth 71 = false := by kernel_rfl
@[go_sem high] theorem neqS_Op (a b c : Int) (w : World) : (binOp .neq 71 (.agg #[.int .i64 a, .int .i64 b, .int .i64 c]) (.agg #[.int .i64 a, .int .i64 b, .int .i64 c])).run Tryd.prog w = .ok (.bool false) w := by
 rw [run_neq_struct]
 simp [go_sem]
@[go_sem] theorem gdS_Op (x y : Operand) (a b c : Int) (w : World) : (eqGuard .neq 71 x y (.agg #[.int .i64 a, .int .i64 b, .int .i64 c]) (.agg #[.int .i64 a, .int .i64 b, .int .i64 c])).run Tryd.prog w = .ok () w := run_eqGuard_agg _ _ _ _ _ _ _ guardS_Op
set_option maxRecDepth 100000 in
set_option maxHeartbeats 4000000 in
theorem m_sameSignals {w : World} {S S' : Nat → Prop} {v v' : Value} {l : List TSignal} (h : Rep w S v (fSignalS l)) (h' : Rep w S' v' (fSignalS l)) (hS : ∀ b, S b → b < w.heap.size) (hS' : ∀ b, S' b → b < w.heap.size) :
  Calls Tryd.prog 28 #[v, v'] w fun e w' => e = .returned (.bool true) ∧ Below w.heap.size w w' := by
 obtain ⟨A, c, rfl, hm⟩ := h.sl_val
 obtain ⟨A', c', rfl, _⟩ := h'.sl_val
 rw [List.length_map] at hm h h' ⊢
 unfold maxLen at hm
 obtain ⟨n, hl⟩ : ∃ n, l.length = n := ⟨_, rfl⟩
 rw [hl] at h h' hm ⊢
 clear hl
 go_enter Tryd.func28, Tryd.ntmps28
 go_wp2
 go_loopw [5] (fun i wr => ∃ k : Nat, k ≤ n ∧ i = .int .i64 k ∧ Below w.heap.size w wr) (fun i _ => n - (intOf i).toNat)
 case atStart => exact ⟨0, Nat.zero_le _, rfl, Below.refl _ _⟩
 case round =>
  obtain ⟨k, hk, rfl, hb⟩ := hrel
  have Hb := Lib.hid hb
  have hsz := hb.size
  clear hb
  by_cases hlt : k < n
  ·obtain ⟨ad, x0, x1, x2, rfl, hab, hx, e0, e1, e2⟩ := fSignalS_row (h.under hS Hb.out) hlt
   obtain ⟨ad', y0, y1, y2, rfl, hab', hx', f0, f1, f2⟩ := fSignalS_row (h'.under hS' Hb.out) hlt
   rw [hx] at hx'
   injection hx' with hx'
   simp only [Prod.mk.injEq] at hx'
   obtain ⟨rfl, rfl, rfl⟩ := hx'
   have hab1 := hS _ hab
   have hab2 := hS' _ hab'
   have hab3 : ad.block < wr.heap.size := by omega
   have hab4 : ad'.block < wr.heap.size := by omega
   have g1 : (0 : Int) ≤ (k : Int) := by omega
   have g2 : (k : Int) < (n : Int) := by omega
   clear hx
   go_wp2_with fail
   refine wp_region_lexC (by kernel_rfl) (by kernel_rfl) (fun x => Below wr.heap.size wr x) ((Below.refl _ _).drew) (fun lexNE => ?_)
   have r0 := fun W : Wd (fun x => Below wr.heap.size wr x) => (W.ok.cell (p := (ad.add (k * 3))) (by rw [block_of_add]; exact hab3)).trans e0
   have s0 := fun W : Wd (fun x => Below wr.heap.size wr x) => (W.ok.cell (p := (ad'.add (k * 3))) (by rw [block_of_add]; exact hab4)).trans f0
   have r1 := fun W : Wd (fun x => Below wr.heap.size wr x) => (W.ok.cell (p := (nxt (ad.add (k * 3)) 1)) (by rw [nxt_block]; exact hab3)).trans e1
   have s1 := fun W : Wd (fun x => Below wr.heap.size wr x) => (W.ok.cell (p := (nxt (ad'.add (k * 3)) 1)) (by rw [nxt_block]; exact hab4)).trans f1
   have r2 := fun W : Wd (fun x => Below wr.heap.size wr x) => (W.ok.cell (p := (nxt (ad.add (k * 3)) 2)) (by rw [nxt_block]; exact hab3)).trans e2
   have s2 := fun W : Wd (fun x => Below wr.heap.size wr x) => (W.ok.cell (p := (nxt (ad'.add (k * 3)) 2)) (by rw [nxt_block]; exact hab4)).trans f2
   (repeat (first | (refine lex_r fun K hK => ?_; go_big_quiet_op; refine hK _ ?_; clear hK K) | (refine lex_k fun K hK => ?_; go_simp; refine hK _ ?_; clear hK K)))
   (refine lex_nil ?_)
   clear lexNE r0 s0 r1 s1 r2 s2
   go_wp2_with fail
   go_roundw
   case rel => exact ⟨k + 1, by omega, by go_num, Hb.out.drew⟩
   case measure => simp [intOf]; omega
  ·have hke : k = n := by omega
   subst hke
   go_wp2_with fail
   go_ret
   exact ⟨rfl, Hb.out⟩
set_option maxRecDepth 100000 in
set_option maxHeartbeats 4000000 in
theorem m_sameMems {w : World} {S S' : Nat → Prop} {v v' : Value} {l : List TMem} (h : Rep w S v (fMemS l)) (h' : Rep w S' v' (fMemS l)) (hS : ∀ b, S b → b < w.heap.size) (hS' : ∀ b, S' b → b < w.heap.size) :
  Calls Tryd.prog 31 #[v, v'] w fun e w' => e = .returned (.bool true) ∧ Below w.heap.size w w' := by
 obtain ⟨A, c, rfl, hm⟩ := h.sl_val
 obtain ⟨A', c', rfl, _⟩ := h'.sl_val
 rw [List.length_map] at hm h h' ⊢
 unfold maxLen at hm
 obtain ⟨n, hl⟩ : ∃ n, l.length = n := ⟨_, rfl⟩
 rw [hl] at h h' hm ⊢
 clear hl
 go_enter Tryd.func31, Tryd.ntmps31
 go_wp2
 go_loopw [5] (fun i wr => ∃ k : Nat, k ≤ n ∧ i = .int .i64 k ∧ Below w.heap.size w wr) (fun i _ => n - (intOf i).toNat)
 case atStart => exact ⟨0, Nat.zero_le _, rfl, Below.refl _ _⟩
 case round =>
  obtain ⟨k, hk, rfl, hb⟩ := hrel
  have Hb := Lib.hid hb
  have hsz := hb.size
  clear hb
  by_cases hlt : k < n
  ·obtain ⟨ad, x0, x1, x2, x3, rfl, hab, hx, e0, e1, e2, e3⟩ := fMemS_row (h.under hS Hb.out) hlt
   obtain ⟨ad', y0, y1, y2, y3, rfl, hab', hx', f0, f1, f2, f3⟩ := fMemS_row (h'.under hS' Hb.out) hlt
   rw [hx] at hx'
   injection hx' with hx'
   simp only [Prod.mk.injEq] at hx'
   obtain ⟨rfl, rfl, rfl, rfl⟩ := hx'
   have hab1 := hS _ hab
   have hab2 := hS' _ hab'
   have hab3 : ad.block < wr.heap.size := by omega
   have hab4 : ad'.block < wr.heap.size := by omega
   have g1 : (0 : Int) ≤ (k : Int) := by omega
   have g2 : (k : Int) < (n : Int) := by omega
   clear hx
   go_wp2_with fail
   refine wp_region_lexC (by kernel_rfl) (by kernel_rfl) (fun x => Below wr.heap.size wr x) ((Below.refl _ _).drew) (fun lexNE => ?_)
   have r0 := fun W : Wd (fun x => Below wr.heap.size wr x) => (W.ok.cell (p := (ad.add (k * 4))) (by rw [block_of_add]; exact hab3)).trans e0
   have s0 := fun W : Wd (fun x => Below wr.heap.size wr x) => (W.ok.cell (p := (ad'.add (k * 4))) (by rw [block_of_add]; exact hab4)).trans f0
   have r1 := fun W : Wd (fun x => Below wr.heap.size wr x) => (W.ok.cell (p := (nxt (ad.add (k * 4)) 1)) (by rw [nxt_block]; exact hab3)).trans e1
   have s1 := fun W : Wd (fun x => Below wr.heap.size wr x) => (W.ok.cell (p := (nxt (ad'.add (k * 4)) 1)) (by rw [nxt_block]; exact hab4)).trans f1
   have r2 := fun W : Wd (fun x => Below wr.heap.size wr x) => (W.ok.cell (p := (nxt (ad.add (k * 4)) 2)) (by rw [nxt_block]; exact hab3)).trans e2
   have s2 := fun W : Wd (fun x => Below wr.heap.size wr x) => (W.ok.cell (p := (nxt (ad'.add (k * 4)) 2)) (by rw [nxt_block]; exact hab4)).trans f2
   have r3 := fun W : Wd (fun x => Below wr.heap.size wr x) => (W.ok.cell (p := (nxt (ad.add (k * 4)) 3)) (by rw [nxt_block]; exact hab3)).trans e3
   have s3 := fun W : Wd (fun x => Below wr.heap.size wr x) => (W.ok.cell (p := (nxt (ad'.add (k * 4)) 3)) (by rw [nxt_block]; exact hab4)).trans f3
   (repeat (first | (refine lex_r fun K hK => ?_; go_big_quiet_op; refine hK _ ?_; clear hK K) | (refine lex_k fun K hK => ?_; go_simp; refine hK _ ?_; clear hK K)))
   (refine lex_nil ?_)
   clear lexNE r0 s0 r1 s1 r2 s2 r3 s3
   go_wp2_with fail
   go_roundw
   case rel => exact ⟨k + 1, by omega, by go_num, Hb.out.drew⟩
   case measure => simp [intOf]; omega
  ·have hke : k = n := by omega
   subst hke
   go_wp2_with fail
   go_ret
   exact ⟨rfl, Hb.out⟩
set_option maxRecDepth 100000 in
set_option maxHeartbeats 4000000 in
theorem m_sameOps {w : World} {S S' : Nat → Prop} {v v' : Value} {l : List TOp} (h : Rep w S v (fOpS l)) (h' : Rep w S' v' (fOpS l)) (hS : ∀ b, S b → b < w.heap.size) (hS' : ∀ b, S' b → b < w.heap.size) :
  Calls Tryd.prog 44 #[v, v'] w fun e w' => e = .returned (.bool true) ∧ Below w.heap.size w w' := by
 obtain ⟨A, c, rfl, hm⟩ := h.sl_val
 obtain ⟨A', c', rfl, _⟩ := h'.sl_val
 rw [List.length_map] at hm h h' ⊢
 unfold maxLen at hm
 obtain ⟨n, hl⟩ : ∃ n, l.length = n := ⟨_, rfl⟩
 rw [hl] at h h' hm ⊢
 clear hl
 go_enter Tryd.func44, Tryd.ntmps44
 go_wp2
 go_loopw [5] (fun i wr => ∃ k : Nat, k ≤ n ∧ i = .int .i64 k ∧ Below w.heap.size w wr) (fun i _ => n - (intOf i).toNat)
 case atStart => exact ⟨0, Nat.zero_le _, rfl, Below.refl _ _⟩
 case round =>
  obtain ⟨k, hk, rfl, hb⟩ := hrel
  have Hb := Lib.hid hb
  have hsz := hb.size
  clear hb
  by_cases hlt : k < n
  ·obtain ⟨ad, x0, x1, x2, rfl, hab, hx, e0, e1, e2⟩ := fOpS_row (h.under hS Hb.out) hlt
   obtain ⟨ad', y0, y1, y2, rfl, hab', hx', f0, f1, f2⟩ := fOpS_row (h'.under hS' Hb.out) hlt
   rw [hx] at hx'
   injection hx' with hx'
   simp only [Prod.mk.injEq] at hx'
   obtain ⟨rfl, rfl, rfl⟩ := hx'
   have hab1 := hS _ hab
   have hab2 := hS' _ hab'
   have hab3 : ad.block < wr.heap.size := by omega
   have hab4 : ad'.block < wr.heap.size := by omega
   have g1 : (0 : Int) ≤ (k : Int) := by omega
   have g2 : (k : Int) < (n : Int) := by omega
   clear hx
   go_wp2_with fail
   refine wp_region_lexC (by kernel_rfl) (by kernel_rfl) (fun x => Below wr.heap.size wr x) ((Below.refl _ _).drew) (fun lexNE => ?_)
   have r0 := fun W : Wd (fun x => Below wr.heap.size wr x) => (W.ok.cell (p := (ad.add (k * 3))) (by rw [block_of_add]; exact hab3)).trans e0
   have s0 := fun W : Wd (fun x => Below wr.heap.size wr x) => (W.ok.cell (p := (ad'.add (k * 3))) (by rw [block_of_add]; exact hab4)).trans f0
   have r1 := fun W : Wd (fun x => Below wr.heap.size wr x) => (W.ok.cell (p := (nxt (ad.add (k * 3)) 1)) (by rw [nxt_block]; exact hab3)).trans e1
   have s1 := fun W : Wd (fun x => Below wr.heap.size wr x) => (W.ok.cell (p := (nxt (ad'.add (k * 3)) 1)) (by rw [nxt_block]; exact hab4)).trans f1
   have r2 := fun W : Wd (fun x => Below wr.heap.size wr x) => (W.ok.cell (p := (nxt (ad.add (k * 3)) 2)) (by rw [nxt_block]; exact hab3)).trans e2
   have s2 := fun W : Wd (fun x => Below wr.heap.size wr x) => (W.ok.cell (p := (nxt (ad'.add (k * 3)) 2)) (by rw [nxt_block]; exact hab4)).trans f2
   (repeat (first | (refine lex_r fun K hK => ?_; go_big_quiet_op; refine hK _ ?_; clear hK K) | (refine lex_k fun K hK => ?_; go_simp; refine hK _ ?_; clear hK K)))
   (refine lex_nil ?_)
   clear lexNE r0 s0 r1 s1 r2 s2
   go_wp2_with fail
   go_roundw
   case rel => exact ⟨k + 1, by omega, by go_num, Hb.out.drew⟩
   case measure => simp [intOf]; omega
  ·have hke : k = n := by omega
   subst hke
   go_wp2_with fail
   go_ret
   exact ⟨rfl, Hb.out⟩
set_option maxRecDepth 100000 in
set_option maxHeartbeats 4000000 in
theorem m_sameInts {w : World} {S S' : Nat → Prop} {v v' : Value} {l : List TInt} (h : Rep w S v (fIntS l)) (h' : Rep w S' v' (fIntS l)) (hS : ∀ b, S b → b < w.heap.size) (hS' : ∀ b, S' b → b < w.heap.size) :
  Calls Tryd.prog 45 #[v, v'] w fun e w' => e = .returned (.bool true) ∧ Below w.heap.size w w' := by
 obtain ⟨A, c, rfl, hm⟩ := h.sl_val
 obtain ⟨A', c', rfl, _⟩ := h'.sl_val
 rw [List.length_map] at hm h h' ⊢
 unfold maxLen at hm
 obtain ⟨n, hl⟩ : ∃ n, l.length = n := ⟨_, rfl⟩
 rw [hl] at h h' hm ⊢
 clear hl
 go_enter Tryd.func45, Tryd.ntmps45
 go_wp2
 go_loopw [5] (fun i wr => ∃ k : Nat, k ≤ n ∧ i = .int .i64 k ∧ Below w.heap.size w wr) (fun i _ => n - (intOf i).toNat)
 case atStart => exact ⟨0, Nat.zero_le _, rfl, Below.refl _ _⟩
 case round =>
  obtain ⟨k, hk, rfl, hb⟩ := hrel
  have Hb := Lib.hid hb
  have hsz := hb.size
  clear hb
  by_cases hlt : k < n
  ·obtain ⟨ad, x0, rfl, hab, hx, e0⟩ := fIntS_row (h.under hS Hb.out) hlt
   obtain ⟨ad', y0, rfl, hab', hx', f0⟩ := fIntS_row (h'.under hS' Hb.out) hlt
   rw [hx] at hx'
   injection hx' with hx'
   subst hx'
   have hab1 := hS _ hab
   have hab2 := hS' _ hab'
   have hab3 : ad.block < wr.heap.size := by omega
   have hab4 : ad'.block < wr.heap.size := by omega
   have g1 : (0 : Int) ≤ (k : Int) := by omega
   have g2 : (k : Int) < (n : Int) := by omega
   clear hx
   go_wp2_with fail
   refine wp_region_lexC (by kernel_rfl) (by kernel_rfl) (fun x => Below wr.heap.size wr x) ((Below.refl _ _).drew) (fun lexNE => ?_)
   have r0 := fun W : Wd (fun x => Below wr.heap.size wr x) => (W.ok.cell (p := (ad.add k)) (by rw [block_of_add]; exact hab3)).trans e0
   have s0 := fun W : Wd (fun x => Below wr.heap.size wr x) => (W.ok.cell (p := (ad'.add k)) (by rw [block_of_add]; exact hab4)).trans f0
   (repeat (first | (refine lex_r fun K hK => ?_; go_big_quiet_op; refine hK _ ?_; clear hK K) | (refine lex_k fun K hK => ?_; go_simp; refine hK _ ?_; clear hK K)))
   (refine lex_nil ?_)
   clear lexNE r0 s0
   go_wp2_with fail
   go_roundw
   case rel => exact ⟨k + 1, by omega, by go_num, Hb.out.drew⟩
   case measure => simp [intOf]; omega
  ·have hke : k = n := by omega
   subst hke
   go_wp2_with fail
   go_ret
   exact ⟨rfl, Hb.out⟩
set_option maxRecDepth 100000 in
set_option maxHeartbeats 4000000 in
theorem m_sameAssigns {w : World} {S S' : Nat → Prop} {v v' : Value} {l : List TAssign} (h : Rep w S v (fAssignS l)) (h' : Rep w S' v' (fAssignS l)) (hS : ∀ b, S b → b < w.heap.size) (hS' : ∀ b, S' b → b < w.heap.size) :
  Calls Tryd.prog 29 #[v, v'] w fun e w' => e = .returned (.bool true) ∧ Below w.heap.size w w' := by
 obtain ⟨A, c, rfl, hm⟩ := h.sl_val
 obtain ⟨A', c', rfl, _⟩ := h'.sl_val
 rw [List.length_map] at hm h h' ⊢
 unfold maxLen at hm
 obtain ⟨n, hl⟩ : ∃ n, l.length = n := ⟨_, rfl⟩
 rw [hl] at h h' hm ⊢
 clear hl
 go_enter Tryd.func29, Tryd.ntmps29
 go_wp2
 go_loopw [5] (fun i wr => ∃ k : Nat, k ≤ n ∧ i = .int .i64 k ∧ Below w.heap.size w wr) (fun i _ => n - (intOf i).toNat)
 case atStart => exact ⟨0, Nat.zero_le _, rfl, Below.refl _ _⟩
 case round =>
  obtain ⟨k, hk, rfl, hb⟩ := hrel
  have Hb := Lib.hid hb
  have hsz := hb.size
  clear hb
  by_cases hlt : k < n
  ·obtain ⟨ad, x0, x1, v1, rfl, hab, hx, h1, e0, e1⟩ := fAssignS_row (h.under hS Hb.out) hlt
   obtain ⟨ad', y0, y1, u1, rfl, hab', hx', h1', f0, f1⟩ := fAssignS_row (h'.under hS' Hb.out) hlt
   rw [hx] at hx'
   injection hx' with hx'
   simp only [Prod.mk.injEq] at hx'
   obtain ⟨rfl, rfl⟩ := hx'
   have hab1 := hS _ hab
   have hab2 := hS' _ hab'
   have hab3 : ad.block < wr.heap.size := by omega
   have hab4 : ad'.block < wr.heap.size := by omega
   have g1 : (0 : Int) ≤ (k : Int) := by omega
   have g2 : (k : Int) < (n : Int) := by omega
   clear hx
   go_wp2_with fail
   refine wp_region_lexC (by kernel_rfl) (by kernel_rfl) (fun x => Below wr.heap.size wr x) ((Below.refl _ _).drew) (fun lexNE => ?_)
   have r0 := fun W : Wd (fun x => Below wr.heap.size wr x) => (W.ok.cell (p := (ad.add (k * 2))) (by rw [block_of_add]; exact hab3)).trans e0
   have s0 := fun W : Wd (fun x => Below wr.heap.size wr x) => (W.ok.cell (p := (ad'.add (k * 2))) (by rw [block_of_add]; exact hab4)).trans f0
   have r1 := fun W : Wd (fun x => Below wr.heap.size wr x) => (W.ok.cell (p := (nxt (ad.add (k * 2)) 1)) (by rw [nxt_block]; exact hab3)).trans e1
   have s1 := fun W : Wd (fun x => Below wr.heap.size wr x) => (W.ok.cell (p := (nxt (ad'.add (k * 2)) 1)) (by rw [nxt_block]; exact hab4)).trans f1
   (repeat (first | (refine lex_r fun K hK => ?_; go_big_quiet_op; refine hK _ ?_; clear hK K) | (refine lex_k fun K hK => ?_; go_simp; refine hK _ ?_; clear hK K)))
   (refine lex_e fun K hK => ?_; go_big_op)
   refine (m_sameOps h1.drew h1'.drew (fun b hb => Nat.lt_of_lt_of_le (hS b hb) hsz) (fun b hb => Nat.lt_of_lt_of_le (hS' b hb) hsz)).mono ?_
   rintro e w6 ⟨rfl, hb6⟩
   have Hb6 := Lib.hid (Hb.out.drew.trans (hb6.mono hsz))
   refine hK _ _ (Cls.mk' ((Below.refl wr.heap.size wr).drew.trans hb6)) ?_
   clear hK K
   (repeat (first | (refine lex_r fun K hK => ?_; go_big_quiet_op; refine hK _ ?_; clear hK K) | (refine lex_k fun K hK => ?_; go_simp; refine hK _ ?_; clear hK K)))
   (refine lex_nil ?_)
   clear lexNE r0 s0 r1 s1
   go_wp2_with fail
   go_roundw
   case rel => exact ⟨k + 1, by omega, by go_num, Hb6.out⟩
   case measure => simp [intOf]; omega
  ·have hke : k = n := by omega
   subst hke
   go_wp2_with fail
   go_ret
   exact ⟨rfl, Hb.out⟩
set_option maxRecDepth 100000 in
set_option maxHeartbeats 4000000 in
theorem m_sameInsts {w : World} {S S' : Nat → Prop} {v v' : Value} {l : List TInst} (h : Rep w S v (fInstS l)) (h' : Rep w S' v' (fInstS l)) (hS : ∀ b, S b → b < w.heap.size) (hS' : ∀ b, S' b → b < w.heap.size) :
  Calls Tryd.prog 30 #[v, v'] w fun e w' => e = .returned (.bool true) ∧ Below w.heap.size w w' := by
 obtain ⟨A, c, rfl, hm⟩ := h.sl_val
 obtain ⟨A', c', rfl, _⟩ := h'.sl_val
 rw [List.length_map] at hm h h' ⊢
 unfold maxLen at hm
 obtain ⟨n, hl⟩ : ∃ n, l.length = n := ⟨_, rfl⟩
 rw [hl] at h h' hm ⊢
 clear hl
 go_enter Tryd.func30, Tryd.ntmps30
 go_wp2
 go_loopw [5] (fun i wr => ∃ k : Nat, k ≤ n ∧ i = .int .i64 k ∧ Below w.heap.size w wr) (fun i _ => n - (intOf i).toNat)
 case atStart => exact ⟨0, Nat.zero_le _, rfl, Below.refl _ _⟩
 case round =>
  obtain ⟨k, hk, rfl, hb⟩ := hrel
  have Hb := Lib.hid hb
  have hsz := hb.size
  clear hb
  by_cases hlt : k < n
  ·obtain ⟨ad, x0, x1, x2, v2, rfl, hab, hx, h1, e0, e1, e2⟩ := fInstS_row (h.under hS Hb.out) hlt
   obtain ⟨ad', y0, y1, y2, u2, rfl, hab', hx', h1', f0, f1, f2⟩ := fInstS_row (h'.under hS' Hb.out) hlt
   rw [hx] at hx'
   injection hx' with hx'
   simp only [Prod.mk.injEq] at hx'
   obtain ⟨rfl, rfl, rfl⟩ := hx'
   have hab1 := hS _ hab
   have hab2 := hS' _ hab'
   have hab3 : ad.block < wr.heap.size := by omega
   have hab4 : ad'.block < wr.heap.size := by omega
   have g1 : (0 : Int) ≤ (k : Int) := by omega
   have g2 : (k : Int) < (n : Int) := by omega
   clear hx
   go_wp2_with fail
   refine wp_region_lexC (by kernel_rfl) (by kernel_rfl) (fun x => Below wr.heap.size wr x) ((Below.refl _ _).drew) (fun lexNE => ?_)
   have r0 := fun W : Wd (fun x => Below wr.heap.size wr x) => (W.ok.cell (p := (ad.add (k * 3))) (by rw [block_of_add]; exact hab3)).trans e0
   have s0 := fun W : Wd (fun x => Below wr.heap.size wr x) => (W.ok.cell (p := (ad'.add (k * 3))) (by rw [block_of_add]; exact hab4)).trans f0
   have r1 := fun W : Wd (fun x => Below wr.heap.size wr x) => (W.ok.cell (p := (nxt (ad.add (k * 3)) 1)) (by rw [nxt_block]; exact hab3)).trans e1
   have s1 := fun W : Wd (fun x => Below wr.heap.size wr x) => (W.ok.cell (p := (nxt (ad'.add (k * 3)) 1)) (by rw [nxt_block]; exact hab4)).trans f1
   have r2 := fun W : Wd (fun x => Below wr.heap.size wr x) => (W.ok.cell (p := (nxt (ad.add (k * 3)) 2)) (by rw [nxt_block]; exact hab3)).trans e2
   have s2 := fun W : Wd (fun x => Below wr.heap.size wr x) => (W.ok.cell (p := (nxt (ad'.add (k * 3)) 2)) (by rw [nxt_block]; exact hab4)).trans f2
   (repeat (first | (refine lex_r fun K hK => ?_; go_big_quiet_op; refine hK _ ?_; clear hK K) | (refine lex_k fun K hK => ?_; go_simp; refine hK _ ?_; clear hK K)))
   (refine lex_e fun K hK => ?_; go_big_op)
   refine (m_sameInts h1.drew h1'.drew (fun b hb => Nat.lt_of_lt_of_le (hS b hb) hsz) (fun b hb => Nat.lt_of_lt_of_le (hS' b hb) hsz)).mono ?_
   rintro e w6 ⟨rfl, hb6⟩
   have Hb6 := Lib.hid (Hb.out.drew.trans (hb6.mono hsz))
   refine hK _ _ (Cls.mk' ((Below.refl wr.heap.size wr).drew.trans hb6)) ?_
   clear hK K
   (repeat (first | (refine lex_r fun K hK => ?_; go_big_quiet_op; refine hK _ ?_; clear hK K) | (refine lex_k fun K hK => ?_; go_simp; refine hK _ ?_; clear hK K)))
   (refine lex_nil ?_)
   clear lexNE r0 s0 r1 s1 r2 s2
   go_wp2_with fail
   go_roundw
   case rel => exact ⟨k + 1, by omega, by go_num, Hb6.out⟩
   case measure => simp [intOf]; omega
  ·have hke : k = n := by omega
   subst hke
   go_wp2_with fail
   go_ret
   exact ⟨rfl, Hb.out⟩
set_option maxRecDepth 100000 in
set_option maxHeartbeats 4000000 in
theorem m_sameModule {w : World} {S S' : Nat → Prop} {v v' : Value} {x : TModule} (h : RModule w S v x) (h' : RModule w S' v' x) (hS : ∀ b, S b → b < w.heap.size) (hS' : ∀ b, S' b → b < w.heap.size) :
  Calls Tryd.prog 17 #[v, v'] w fun e w' => e = .returned (.bool true) ∧ Below w.heap.size w w' := by
 obtain ⟨A0, n0, c0, A1, n1, c1, A2, n2, c2, A3, n3, c3, rfl⟩ := h.form
 obtain ⟨B0, m0, d0, B1, m1, d1, B2, m2, d2, B3, m3, d3, rfl⟩ := h'.form
 obtain ⟨_, _, _, _, hv, h0, h1, h2, h3⟩ := h
 obtain ⟨_, _, _, _, hv', k0, k1, k2, k3⟩ := h'
 injection hv with hv
 injection hv with hv
 injection hv with ha hv
 injection hv with hb hv
 injection hv with hc hv
 injection hv with hd hv
 subst ha hb hc hd
 injection hv' with hv'
 injection hv' with hv'
 injection hv' with ha hv'
 injection hv' with hb hv'
 injection hv' with hc hv'
 injection hv' with hd hv'
 subst ha hb hc hd
 obtain ⟨U, hU⟩ : ∃ U, U = (w.alloc (.cells #[.slice A0 n0 c0, .slice A1 n1 c1, .slice A2 n2 c2, .slice A3 n3 c3] 50)).alloc (.cells #[.slice B0 m0 d0, .slice B1 m1 d1, .slice B2 m2 d2, .slice B3 m3 d3] 50) := ⟨_, rfl⟩
 have HB := Lib.hid (show Below w.heap.size w U by rw [hU]; exact ((Below.refl _ _).alloc (Nat.le_refl _) _).alloc (by simp) _)
 have HX := Lib.hid (show Blk U w.heap.size 50 #[.slice A0 n0 c0, .slice A1 n1 c1, .slice A2 n2 c2, .slice A3 n3 c3] by rw [hU]; exact (Blk.new _ _ _).alloc _)
 have HY := Lib.hid (show Blk U (w.heap.size + 1) 50 #[.slice B0 m0 d0, .slice B1 m1 d1, .slice B2 m2 d2, .slice B3 m3 d3] by rw [hU]; exact blk_new_at (by simp))
 have HU := Lib.hid hU
 have zU := HB.out.size
 clear hU
 obtain ⟨x0, x1, x2, x3⟩ := blkS4 HX.out
 obtain ⟨y0, y1, y2, y3⟩ := blkS4 HY.out
 go_enter Tryd.func17, Tryd.ntmps17
 go_upto_region 1 with fail
 rw [← HU.out]
 go_wp2_with fail
 refine (m_sameSignals (h0.under hS HB.out) (k0.under hS' HB.out) (fun b hb => by have := hS b hb; omega) (fun b hb => by have := hS' b hb; omega)).mono ?_
 rintro e w1 ⟨rfl, hb1⟩
 have zzw1 := hb1.size
 have HB1 := Lib.hid (HB.out.trans (hb1.mono HB.out.size))
 have HX := Lib.hid (HX.out.below hb1 HX.out.lt)
 have HY := Lib.hid (HY.out.below hb1 HY.out.lt)
 clear hb1 x0 x1 x2 x3 y0 y1 y2 y3
 obtain ⟨x0, x1, x2, x3⟩ := blkS4 HX.out
 obtain ⟨y0, y1, y2, y3⟩ := blkS4 HY.out
 go_wp2_with fail
 refine (m_sameAssigns (h1.under hS HB1.out) (k1.under hS' HB1.out) (fun b hb => by have := hS b hb; omega) (fun b hb => by have := hS' b hb; omega)).mono ?_
 rintro e w2 ⟨rfl, hb2⟩
 have zzw2 := hb2.size
 have HB2 := Lib.hid (HB1.out.trans (hb2.mono HB1.out.size))
 have HX := Lib.hid (HX.out.below hb2 HX.out.lt)
 have HY := Lib.hid (HY.out.below hb2 HY.out.lt)
 clear hb2 x0 x1 x2 x3 y0 y1 y2 y3
 obtain ⟨x0, x1, x2, x3⟩ := blkS4 HX.out
 obtain ⟨y0, y1, y2, y3⟩ := blkS4 HY.out
 go_wp2_with fail
 refine (m_sameInsts (h2.under hS HB2.out) (k2.under hS' HB2.out) (fun b hb => by have := hS b hb; omega) (fun b hb => by have := hS' b hb; omega)).mono ?_
 rintro e w3 ⟨rfl, hb3⟩
 have zzw3 := hb3.size
 have HB3 := Lib.hid (HB2.out.trans (hb3.mono HB2.out.size))
 have HX := Lib.hid (HX.out.below hb3 HX.out.lt)
 have HY := Lib.hid (HY.out.below hb3 HY.out.lt)
 clear hb3 x0 x1 x2 x3 y0 y1 y2 y3
 obtain ⟨x0, x1, x2, x3⟩ := blkS4 HX.out
 obtain ⟨y0, y1, y2, y3⟩ := blkS4 HY.out
 go_wp2_with fail
 refine (m_sameMems (h3.under hS HB3.out) (k3.under hS' HB3.out) (fun b hb => by have := hS b hb; omega) (fun b hb => by have := hS' b hb; omega)).mono ?_
 rintro e w4 ⟨rfl, hb4⟩
 go_wp2_with fail
 go_ret
 exact ⟨rfl, HB3.out.trans (hb4.mono HB3.out.size)⟩
set_option maxRecDepth 100000 in
set_option maxHeartbeats 4000000 in
theorem m_sameModules {w : World} {S S' : Nat → Prop} {v v' : Value} {l : List TModule} (h : Rep w S v (fModuleS l)) (h' : Rep w S' v' (fModuleS l)) (hS : ∀ b, S b → b < w.heap.size) (hS' : ∀ b, S' b → b < w.heap.size) :
  Calls Tryd.prog 8 #[v, v'] w fun e w' => e = .returned (.bool true) ∧ Below w.heap.size w w' := by
 obtain ⟨A, c, rfl, hm⟩ := h.sl_val
 obtain ⟨A', c', rfl, _⟩ := h'.sl_val
 rw [List.length_map] at hm h h' ⊢
 unfold maxLen at hm
 obtain ⟨n, hl⟩ : ∃ n, l.length = n := ⟨_, rfl⟩
 rw [hl] at h h' hm ⊢
 clear hl
 go_enter Tryd.func8, Tryd.ntmps8
 go_wp2
 go_loopw [5] (fun i wr => ∃ k : Nat, k ≤ n ∧ i = .int .i64 k ∧ Below w.heap.size w wr) (fun i _ => n - (intOf i).toNat)
 case atStart => exact ⟨0, Nat.zero_le _, rfl, Below.refl _ _⟩
 case round =>
  obtain ⟨k, hk, rfl, hb⟩ := hrel
  have Hb := Lib.hid hb
  have hsz := hb.size
  clear hb
  by_cases hlt : k < n
  ·obtain ⟨ad, x0, x1, x2, x3, v0, v1, v2, v3, rfl, hab, hx, h0, h1, h2, h3, e0, e1, e2, e3⟩ := fModuleS_row (h.under hS Hb.out) hlt
   obtain ⟨ad', y0, y1, y2, y3, u0, u1, u2, u3, rfl, hab', hx', k0, k1, k2, k3, f0, f1, f2, f3⟩ := fModuleS_row (h'.under hS' Hb.out) hlt
   rw [hx] at hx'
   injection hx' with hx'
   simp only [Prod.mk.injEq] at hx'
   obtain ⟨rfl, rfl, rfl, rfl⟩ := hx'
   have hab1 := hS _ hab
   have hab2 := hS' _ hab'
   have hab3 : ad.block < wr.heap.size := by omega
   have hab4 : ad'.block < wr.heap.size := by omega
   have g1 : (0 : Int) ≤ (k : Int) := by omega
   have g2 : (k : Int) < (n : Int) := by omega
   clear hx
   go_wp2_with fail
   refine wp_region_lexC (by kernel_rfl) (by kernel_rfl) (fun x => Below wr.heap.size wr x) ((Below.refl _ _).drew) (fun lexNE => ?_)
   have r0 := fun W : Wd (fun x => Below wr.heap.size wr x) => (W.ok.cell (p := (ad.add (k * 4))) (by rw [block_of_add]; exact hab3)).trans e0
   have s0 := fun W : Wd (fun x => Below wr.heap.size wr x) => (W.ok.cell (p := (ad'.add (k * 4))) (by rw [block_of_add]; exact hab4)).trans f0
   have r1 := fun W : Wd (fun x => Below wr.heap.size wr x) => (W.ok.cell (p := (nxt (ad.add (k * 4)) 1)) (by rw [nxt_block]; exact hab3)).trans e1
   have s1 := fun W : Wd (fun x => Below wr.heap.size wr x) => (W.ok.cell (p := (nxt (ad'.add (k * 4)) 1)) (by rw [nxt_block]; exact hab4)).trans f1
   have r2 := fun W : Wd (fun x => Below wr.heap.size wr x) => (W.ok.cell (p := (nxt (ad.add (k * 4)) 2)) (by rw [nxt_block]; exact hab3)).trans e2
   have s2 := fun W : Wd (fun x => Below wr.heap.size wr x) => (W.ok.cell (p := (nxt (ad'.add (k * 4)) 2)) (by rw [nxt_block]; exact hab4)).trans f2
   have r3 := fun W : Wd (fun x => Below wr.heap.size wr x) => (W.ok.cell (p := (nxt (ad.add (k * 4)) 3)) (by rw [nxt_block]; exact hab3)).trans e3
   have s3 := fun W : Wd (fun x => Below wr.heap.size wr x) => (W.ok.cell (p := (nxt (ad'.add (k * 4)) 3)) (by rw [nxt_block]; exact hab4)).trans f3
   (repeat (first | (refine lex_r fun K hK => ?_; go_big_quiet_op; refine hK _ ?_; clear hK K) | (refine lex_k fun K hK => ?_; go_simp; refine hK _ ?_; clear hK K)))
   (refine lex_e fun K hK => ?_; go_big_op)
   refine (m_sameModule (x := (x0, x1, x2, x3)) ⟨v0, v1, v2, v3, rfl, h0.drew, h1.drew, h2.drew, h3.drew⟩ ⟨u0, u1, u2, u3, rfl, k0.drew, k1.drew, k2.drew, k3.drew⟩ (fun b hb => Nat.lt_of_lt_of_le (hS b hb) hsz) (fun b hb => Nat.lt_of_lt_of_le (hS' b hb) hsz)).mono ?_
   rintro e w6 ⟨rfl, hb6⟩
   have Hb6 := Lib.hid (Hb.out.drew.trans (hb6.mono hsz))
   refine hK _ _ (Cls.mk' ((Below.refl wr.heap.size wr).drew.trans hb6)) ?_
   clear hK K
   (repeat (first | (refine lex_r fun K hK => ?_; go_big_quiet_op; refine hK _ ?_; clear hK K) | (refine lex_k fun K hK => ?_; go_simp; refine hK _ ?_; clear hK K)))
   (refine lex_nil ?_)
   clear lexNE r0 s0 r1 s1 r2 s2 r3 s3
   go_wp2_with fail
   go_roundw
   case rel => exact ⟨k + 1, by omega, by go_num, Hb6.out⟩
   case measure => simp [intOf]; omega
  ·have hke : k = n := by omega
   subst hke
   go_wp2_with fail
   go_ret
   exact ⟨rfl, Hb.out⟩
end Go.Proofs.YtolndlmhbnpmeaaDoor

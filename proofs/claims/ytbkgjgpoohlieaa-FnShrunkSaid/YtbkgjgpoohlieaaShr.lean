/- Contracts: a table without the inputs on which it does not depend: both functions. -/
import Derived.Test.YtbkgjgpoohlieaaSup
import Derived.Test.YtbkgjgpoohlieaaSpr
namespace Go.Proofs.Ytbkgjgpoohlieaa
open Go.RowKit
attribute [local go_sem] i64_and1

def supN (n b : Int) : List Nat := (List.range 4).filter fun (k : Nat) => tDep n b (k : Int)
theorem tSup_cast (n b : Int) : tSup n b = (supN n b).map fun k => ((k : Nat) : Int) := rfl
theorem supN_asc (n b : Int) : (supN n b).Pairwise (· < ·) := List.Pairwise.filter _ List.pairwise_lt_range
theorem supN_lt {n b : Int} {k : Nat} (h : k ∈ supN n b) : k < n.toNat ∧ k < 4 := by
  simp only [supN, List.mem_filter, List.mem_range] at h
  refine ⟨?_, h.1⟩
  have : ¬ n ≤ k := fun hn => by rw [tDep_not hn] at h; cases h.2
  omega
theorem supN_len (n b : Int) : (supN n b).length = (tSup n b).length := by rw [tSup_cast, List.length_map]
theorem supN_get {n b : Int} {k : Nat} (h : k < (supN n b).length) : (supN n b).getD k 0 < 4 := by
  rw [Tb.getD_el h]
  exact (supN_lt (List.getElem_mem h)).2

/-- a step of the sum, as the code reckons it -/
theorem shl_int {i m k : Nat} (hk : k < 4) : wrap64 (((i : Int) / 2 ^ m) % 2 * 2 ^ k) = ((if i.testBit m then 2 ^ k else 0 : Nat) : Int) := by
  rw [bit_int]
  have h1 : (2 ^ k : Nat) ≤ 2 ^ 15 := Nat.pow_le_pow_right (by omega) (by omega)
  have h2 : (2 : Int) ^ k = ((2 ^ k : Nat) : Int) := by rw [Int.natCast_pow]; rfl
  rw [h2]
  generalize 2 ^ k = z at h1 ⊢
  cases i.testBit m
  · simp [IntWalk.wrap64_in (0 : Int) (by omega)]
  · simp [IntWalk.wrap64_in (z : Int) (by omega)]

set_option maxRecDepth 100000 in
set_option maxHeartbeats 2000000 in
theorem i_spread {w : World} {B : Nat} {A : Option Addr} {n c : Nat} {l : List Nat} (i : Nat) (_hi : i ≤ 15) (hn : n ≤ 4) (h : Reads w B 1 A n (ints (l.map fun k => ((k : Nat) : Int)))) (hasc : l.Pairwise (· < ·)) (h4 : ∀ k ∈ l, k < 4) :
    Calls Try.prog 59 #[.int .i64 i, .slice A n c] w fun e w' => e = .returned (.int .i64 (Tb.spr l i n)) ∧ w = w' := by
  have hl : l.length = n := by have := h.len; simpa using this
  have Hl := Lib.hid hl
  go_enter Try.func59, Try.ntmps59
  go_wp2
  go_loop [5, 10] (fun o j => ∃ k : Nat, k ≤ n ∧ j = .int .i64 k ∧ o = .int .i64 (Tb.spr l i k)) (fun _ j => n - (intOf j).toNat)
  case atStart => exact ⟨0, Nat.zero_le _, rfl, rfl⟩
  case round =>
    obtain ⟨k, hk, rfl, rfl⟩ := hrel
    by_cases hlt : k < n
    · obtain ⟨ad, x, rfl, hab, hx, hc⟩ := h.int_at hlt
      have hkl : k < l.length := by omega
      have hx' : x = ((l.getD k 0 : Nat) : Int) := by
        rw [List.getElem?_map, List.getElem?_eq_getElem hkl] at hx
        rw [Tb.getD_el hkl]
        injection hx with hx
        exact hx.symm
      have hg4 : l.getD k 0 < 4 := by
        rw [Tb.getD_el hkl]; exact h4 _ (List.getElem_mem hkl)
      have hor := Tb.spr_or hasc i k hkl
      have hsp := Tb.spr_lt hasc i k hkl
      have hp : 2 ^ l.getD k 0 ≤ 2 ^ 4 := Tb.pow_mono (by omega)
      obtain ⟨q, hq⟩ : ∃ q : Nat, q = l.getD k 0 := ⟨_, rfl⟩
      rw [← hq] at hx' hg4 hor hsp hp
      subst hx'
      have hsh := shl_int (i := i) (m := k) hg4
      have hb : (if i.testBit k then 2 ^ q else 0 : Nat) ≤ 16 := by split <;> omega
      have hbits := i64_or_nat (Tb.spr l i k) (if i.testBit k then 2 ^ q else 0) (by omega) (by omega)
      rw [hor, ← hsh] at hbits
      have m1 : min k 64 = k := by omega
      have m2 : min q 64 = q := by omega
      have g1 : (0 : Int) ≤ (k : Int) := by omega
      have g2 : (k : Int) < (n : Int) := by omega
      clear h hq hor hx hb hsh hl
      go_wp2_with fail
      go_round
      case rel => exact ⟨k + 1, by omega, by go_num, rfl⟩
      case measure => simp [intOf]; omega
    · obtain rfl : k = n := by omega
      go_wp2_with fail
      go_ret
      exact ⟨rfl, rfl⟩

/-- the table without the inputs on which it does not depend -/
def shrB (n b : Int) : Nat := Tb.tab (fun i => b.toNat.testBit (Tb.spr (supN n b) i (tSup n b).length)) (2 ^ (tSup n b).length)
def tShr (n b : Int) : Int × Int := if tOk n b then (((tSup n b).length : Int), (shrB n b : Int)) else (0, 0)

/-- a table and a list of numbers in memory of the call's own -/
def OwnTabInts (t : Int × Int) (l : List Int) (w : World) (e : Ending) (w' : World) : Prop :=
  ∃ A c, e = .returned (.tuple #[.agg #[.int .i64 t.1, .int .i64 t.2], .slice A l.length c]) ∧ w'.ownsRow w.heap.size 3 1 (.slice A l.length c) l.length (ints l) ∧ Below w.heap.size w w'

theorem spr_in {n : Int} {b : Nat} (_h : tOk n b = true) (i : Nat) : Tb.spr (supN n b) i (tSup n b).length < 2 ^ n.toNat := by
  rw [← supN_len]
  exact Tb.spr_bound (supN_asc n b) (fun k hk => (supN_lt hk).1) i _ (Nat.le_refl _)

set_option maxRecDepth 100000 in
set_option maxHeartbeats 2000000 in
theorem i_Shr1 {w : World} {B : Nat} {A : Option Addr} {c g0 g1 : Nat} (n : Int) (b : Nat) (i : Nat) (hi : i ≤ 15) (hk : tOk n b = true) (_hB : B ≤ w.heap.size) (hg0 : g0 < w.heap.size) (hg1 : g1 < w.heap.size)
    (h0 : w.cell? ⟨g0, 0, none⟩ = some (.int .i64 n)) (h1 : w.cell? ⟨g0, 1, none⟩ = some (.int .i64 b)) (h2 : w.cell? ⟨g1, 0, none⟩ = some (.slice A (tSup n b).length c)) (hr : Reads w B 1 A (tSup n b).length (ints (tSup n b))) :
    Calls Try.prog 58 #[.int .i64 i, .pointer (some ⟨g0, 0, none⟩), .pointer (some ⟨g1, 0, none⟩)] w fun e w' => e = .returned (.bool (b.testBit (Tb.spr (supN n b) i (tSup n b).length))) ∧ Below w.heap.size w w' := by
  have Hs := Lib.hid (tEv_bit hk (spr_in hk i))
  have hlen := tSup_len n b
  have Hr := Lib.hid hr
  clear hr hk
  go_enter Try.func58, Try.ntmps58
  go_wp2_with fail
  refine wp_region_lexC (by kernel_rfl) (by kernel_rfl) (fun x => Below w.heap.size w x) ((Below.refl _ _).drew) (fun lexNE => ?_)
  have c0 : ∀ W : Wd (fun x => Below w.heap.size w x), W.val.cell? ⟨g0, 0, none⟩ = some (.int .i64 n) := fun W => (W.ok.cell hg0).trans h0
  have c1 : ∀ W : Wd (fun x => Below w.heap.size w x), W.val.cell? ⟨g0, 1, none⟩ = some (.int .i64 b) := fun W => (W.ok.cell hg0).trans h1
  have c2 : ∀ W : Wd (fun x => Below w.heap.size w x), W.val.cell? ⟨g1, 0, none⟩ = some (.slice A (tSup n b).length c) := fun W => (W.ok.cell hg1).trans h2
  (repeat (first | (refine lex_read (by first | exact wanted_n rfl | exact wanted_g rfl rfl rfl rfl) (by exact rfl) (fun K hK => ?_); go_big_quiet_op; refine hK _ ?_; clear hK K) | (refine lex_skip' (by exact wanted_g rfl rfl rfl rfl) (fun K hK => ?_); go_simp; refine hK _ ?_; clear hK K)))
  (refine lex_eff (by first | exact wanted_n rfl | exact wanted_g rfl rfl rfl rfl) (by exact rfl) (fun K hK => ?_); go_big_op)
  refine (i_spread (l := supN n b) i hi (by omega) (Hr.out.drew) (supN_asc n b) (fun k hk => (supN_lt hk).2)).mono ?_
  rintro e w' ⟨rfl, rfl⟩
  (refine hK _ _ (Cls.mk' (by repeat (first | with_reducible exact Below.refl _ _ | with_reducible assumption | with_reducible refine below_drewN ?_ _ | with_reducible refine Below.drew ?_ | ((with_reducible refine Below.alloc ?_ ?_ _); rotate_left; (((try simp) <;> (try omega)) <;> done)) | ((with_reducible refine Below.setCell ?_ ?_ _); rotate_left; (((try simp) <;> (try omega)) <;> done)) | ((with_reducible refine Below.trans ?_ (Below.mono (by with_reducible assumption) ?_)); rotate_left; (((try simp) <;> (try omega)) <;> done))))) ?_; clear hK K)
  (repeat (first | (refine lex_read (by first | exact wanted_n rfl | exact wanted_g rfl rfl rfl rfl) (by exact rfl) (fun K hK => ?_); go_big_quiet_op; refine hK _ ?_; clear hK K) | (refine lex_skip' (by exact wanted_g rfl rfl rfl rfl) (fun K hK => ?_); go_simp; refine hK _ ?_; clear hK K)))
  (refine lex_eff (by first | exact wanted_n rfl | exact wanted_g rfl rfl rfl rfl) (by exact rfl) (fun K hK => ?_); go_big_op)
  refine (i_TableEval _ _ _ _).mono ?_
  rintro e w2 ⟨rfl, hb2⟩
  rw [Hs.out]
  (refine hK _ _ (Cls.mk' (by repeat (first | with_reducible exact Below.refl _ _ | with_reducible assumption | with_reducible refine below_drewN ?_ _ | with_reducible refine Below.drew ?_ | ((with_reducible refine Below.alloc ?_ ?_ _); rotate_left; (((try simp) <;> (try omega)) <;> done)) | ((with_reducible refine Below.setCell ?_ ?_ _); rotate_left; (((try simp) <;> (try omega)) <;> done)) | ((with_reducible refine Below.trans ?_ (Below.mono (by with_reducible assumption) ?_)); rotate_left; (((try simp) <;> (try omega)) <;> done))))) ?_; clear hK K)
  (repeat (first | (refine lex_read (by first | exact wanted_n rfl | exact wanted_g rfl rfl rfl rfl) (by exact rfl) (fun K hK => ?_); go_big_quiet_op; refine hK _ ?_; clear hK K) | (refine lex_skip' (by exact wanted_g rfl rfl rfl rfl) (fun K hK => ?_); go_simp; refine hK _ ?_; clear hK K)))
  (refine lex_nil ?_)
  go_wp2
  go_ret
  exact ⟨rfl, (by repeat (first | with_reducible exact Below.refl _ _ | with_reducible assumption | with_reducible refine below_drewN ?_ _ | with_reducible refine Below.drew ?_ | ((with_reducible refine Below.alloc ?_ ?_ _); rotate_left; (((try simp) <;> (try omega)) <;> done)) | ((with_reducible refine Below.setCell ?_ ?_ _); rotate_left; (((try simp) <;> (try omega)) <;> done)) | ((with_reducible refine Below.trans ?_ (Below.mono (by with_reducible assumption) ?_)); rotate_left; (((try simp) <;> (try omega)) <;> done))))⟩

theorem cf_Shr (args : Array Value) (w : World) : (callFunc 58 args).run Try.prog w = .ok (.enter 58 args) w := by kernel_rfl

set_option maxRecDepth 100000 in
set_option maxHeartbeats 4000000 in
theorem i_TableShrink (n b : Int) (w : World) : Calls Try.prog 27 #[.agg #[.int .i64 n, .int .i64 b]] w (OwnTabInts (tShr n b) (tSup n b) w) := by
  by_cases hk : tOk n b = true
  · obtain ⟨b', rfl, hb1, hb2, hn⟩ := tOk_nat hk
    have hlen := tSup_len n b'
    have hln : inR ((tSup n b').length : Int) 0 4 = true := inR_iff.2 (by omega)
    have hp := (pow_bd hln).2
    have He := Lib.hid (show tShr n b' = (((tSup n b').length : Int), (shrB n b' : Int)) by simp [tShr, hk])
    have Hk := Lib.hid hk
    have Hln := Lib.hid hln
    clear hk hn hln hb1
    go_enter Try.func27, Try.ntmps27
    go_wp2_with fail
    refine (i_TableOk _ _ _).mono ?_
    rintro e w1 ⟨rfl, hb1⟩
    rw [Hk.out]
    have z1 := hb1.size
    try simp at z1
    (try have y1_0 : w.heap.size < w1.heap.size := (by omega))
    have q1_0 := fun o => (bcell hb1).1 (w.heap.size) o (by (try simp) <;> (try omega))
    have p1_0 := fun o => (bcell hb1).2 (w.heap.size) o (by (try simp) <;> (try omega))
    (try have y1_1 : w.heap.size + 1 < w1.heap.size := (by omega))
    have q1_1 := fun o => (bcell hb1).1 (w.heap.size + 1) o (by (try simp) <;> (try omega))
    have p1_1 := fun o => (bcell hb1).2 (w.heap.size + 1) o (by (try simp) <;> (try omega))
    go_wp2_with fail
    refine (i_TableSupport _ _ _).mono ?_
    rintro e w2 ⟨A, c, rfl, hown, hb2⟩
    have z2 := hb2.size
    try simp at z2
    (try have y2_0 : w.heap.size < w2.heap.size := (by omega))
    have q2_0 := fun o => (bcell hb2).1 (w.heap.size) o (by (try simp) <;> (try omega))
    have p2_0 := fun o => (bcell hb2).2 (w.heap.size) o (by (try simp) <;> (try omega))
    (try have y2_1 : w.heap.size + 1 < w2.heap.size := (by omega))
    have q2_1 := fun o => (bcell hb2).1 (w.heap.size + 1) o (by (try simp) <;> (try omega))
    have p2_1 := fun o => (bcell hb2).2 (w.heap.size + 1) o (by (try simp) <;> (try omega))
    have Hown := Lib.hid hown
    clear hown
    go_wp2_with fail
    refine wp_region_lexC (by kernel_rfl) (by kernel_rfl) (fun x => x.cell? ⟨w2.heap.size, 0, none⟩ = some (.slice A (tSup n b').length c)) (by simp [go_sem]) (fun lexNE => ?_)
    have c0 : ∀ W : Wd (fun x => x.cell? ⟨w2.heap.size, 0, none⟩ = some (.slice A (tSup n b').length c)), W.val.cell? ⟨w2.heap.size, 0, none⟩ = some (.slice A (tSup n b').length c) := fun W => W.ok
    (repeat (first | (refine lex_read (by first | exact wanted_n rfl | exact wanted_g rfl rfl rfl rfl) (by exact rfl) (fun K hK => ?_); go_big_quiet_op; refine hK _ ?_; clear hK K) | (refine lex_skip' (by exact wanted_g rfl rfl rfl rfl) (fun K hK => ?_); go_simp; refine hK _ ?_; clear hK K)))
    (refine lex_eff (by first | exact wanted_n rfl | exact wanted_g rfl rfl rfl rfl) (by exact rfl) (fun K hK => ?_); go_big_op)
    refine hK _ _ (Cls.mk' (by simp [go_sem])) ?_
    clear hK K
    (repeat (first | (refine lex_read (by first | exact wanted_n rfl | exact wanted_g rfl rfl rfl rfl) (by exact rfl) (fun K hK => ?_); go_big_quiet_op; refine hK _ ?_; clear hK K) | (refine lex_skip' (by exact wanted_g rfl rfl rfl rfl) (fun K hK => ?_); go_simp; refine hK _ ?_; clear hK K)))
    (refine lex_eff (by first | exact wanted_n rfl | exact wanted_g rfl rfl rfl rfl) (by exact rfl) (fun K hK => ?_); go_big_op)
    refine (i_tableOf ((tSup n b').length : Int) Hln.out 58 _ (fun i => b'.testBit (Tb.spr (supN n b') i (tSup n b').length)) _ cf_Shr (fun i W hi hW => ?_)).mono ?_
    · have s0 := hW.size
      simp at s0
      have k0 := hW.cell (p := ⟨w.heap.size, 0, none⟩) (by simp; omega)
      have k1 := hW.cell (p := ⟨w.heap.size, 1, none⟩) (by simp; omega)
      have k2 := hW.cell (p := ⟨w2.heap.size, 0, none⟩) (by simp)
      refine i_Shr1 (A := A) (c := c) (B := w2.heap.size) (g0 := w.heap.size) (g1 := w2.heap.size) n b' i (by omega) Hk.out (by omega) (by omega) (by omega) ?_ ?_ ?_ ?_
      · rw [k0]; simp [go_sem, q2_0, q1_0, y2_0]
      · rw [k1]; simp [go_sem, q2_0, q1_0, y2_0]
      · rw [k2]; simp [go_sem]
      · exact ((Reads.of_own Hown.out).alloc (Nat.le_refl _) _).drew.below (hW.mono (by simp))
    · rintro e w3 ⟨rfl, hb3⟩
      have z3 := hb3.size
      simp at z3
      have q3_0 : ∀ o, w3.cell? ⟨w.heap.size + 1, o, none⟩ = w2.cell? ⟨w.heap.size + 1, o, none⟩ := fun o => (hb3.cell (p := ⟨w.heap.size + 1, o, none⟩) (by (try simp) <;> (try omega))).trans (by simp [go_sem, y2_1])
      have p3_0 : ∀ o, w3.frozen? ⟨w.heap.size + 1, o, none⟩ = w2.frozen? ⟨w.heap.size + 1, o, none⟩ := fun o => (hb3.frozen (p := ⟨w.heap.size + 1, o, none⟩) (by (try simp) <;> (try omega))).trans (by simp [go_sem, y2_1])
      refine hK _ _ (Cls.mk' ((hb3.cell (p := ⟨w2.heap.size, 0, none⟩) (by (try simp) <;> (try omega))).trans (by simp [go_sem]))) ?_
      clear hK K
      (repeat (first | (refine lex_read (by first | exact wanted_n rfl | exact wanted_g rfl rfl rfl rfl) (by exact rfl) (fun K hK => ?_); go_big_quiet_op; refine hK _ ?_; clear hK K) | (refine lex_skip' (by exact wanted_g rfl rfl rfl rfl) (fun K hK => ?_); go_simp; refine hK _ ?_; clear hK K)))
      (refine lex_eff (by first | exact wanted_n rfl | exact wanted_g rfl rfl rfl rfl) (by exact rfl) (fun K hK => ?_); go_big_op)
      refine hK _ _ (Cls.mk' ?_) ?_
      · have hne : w2.heap.size ≠ w.heap.size + 1 := by omega
        rw [World.cell?_setCell_other _ _ _ _ (by intro h; injection h with h; omega), World.cell?_setCell_other _ _ _ _ (by intro h; injection h with h; omega)]
        rw [hb3.cell (p := ⟨w2.heap.size, 0, none⟩) (by simp)]
        simp [go_sem]
      · clear hK K
        (repeat (first | (refine lex_read (by first | exact wanted_n rfl | exact wanted_g rfl rfl rfl rfl) (by exact rfl) (fun K hK => ?_); go_big_quiet_op; refine hK _ ?_; clear hK K) | (refine lex_skip' (by exact wanted_g rfl rfl rfl rfl) (fun K hK => ?_); go_simp; refine hK _ ?_; clear hK K)))
        (refine lex_nil ?_)
        go_wp2
        refine bodyPost_ret (v := .tuple #[.agg #[.int .i64 (tSup n b').length, .int .i64 (shrB n b')], .slice A (tSup n b').length c]) (by simp [results, Try.results27, go_sem, shrB, q3_0, q2_1, q1_1]) rfl ⟨A, c, by rw [He.out], ?_, (by repeat (first | with_reducible exact Below.refl _ _ | with_reducible assumption | with_reducible refine below_drewN ?_ _ | with_reducible refine Below.drew ?_ | ((with_reducible refine Below.alloc ?_ ?_ _); rotate_left; (((try simp) <;> (try omega)) <;> done)) | ((with_reducible refine Below.setCell ?_ ?_ _); rotate_left; (((try simp) <;> (try omega)) <;> done)) | ((with_reducible refine Below.trans ?_ (Below.mono (by with_reducible assumption) ?_)); rotate_left; (((try simp) <;> (try omega)) <;> done))))⟩
        have h1 := own_below ((own_drew (Hown.out.alloc (.cells #[.slice A (tSup n b').length c] 41)))) hb3 (Nat.le_refl _)
        exact own_mono (ownsRow_setCell_below (ownsRow_setCell_below h1 (a := ⟨w.heap.size + 1, 0, none⟩) (by simp; omega) _) (a := ⟨w.heap.size + 1, 1, none⟩) (by simp; omega) _) (by omega)
  · have hk : tOk n b = false := by simpa using hk
    have He := Lib.hid (show tShr n b = (0, 0) by simp [tShr, hk])
    have He2 := Lib.hid (tSup_not hk)
    have Hk := Lib.hid hk
    clear hk
    go_enter Try.func27, Try.ntmps27
    go_wp2_with fail
    refine (i_TableOk _ _ _).mono ?_
    rintro e w1 ⟨rfl, hb1⟩
    rw [Hk.out]
    have z1 := hb1.size
    try simp at z1
    (try have y1_0 : w.heap.size < w1.heap.size := (by omega))
    have q1_0 := fun o => (bcell hb1).1 (w.heap.size) o (by (try simp) <;> (try omega))
    have p1_0 := fun o => (bcell hb1).2 (w.heap.size) o (by (try simp) <;> (try omega))
    (try have y1_1 : w.heap.size + 1 < w1.heap.size := (by omega))
    have q1_1 := fun o => (bcell hb1).1 (w.heap.size + 1) o (by (try simp) <;> (try omega))
    have p1_1 := fun o => (bcell hb1).2 (w.heap.size + 1) o (by (try simp) <;> (try omega))
    go_wp2_with fail
    unfold OwnTabInts
    rw [He.out, He2.out]
    refine bodyPost_ret (v := .tuple #[.agg #[.int .i64 0, .int .i64 0], .slice none 0 0]) (by simp [results, Try.results27, go_sem, q1_1]) rfl ⟨none, 0, rfl, World.ownsRow_nil _ _ _ _, (by repeat (first | with_reducible exact Below.refl _ _ | with_reducible assumption | with_reducible refine below_drewN ?_ _ | with_reducible refine Below.drew ?_ | ((with_reducible refine Below.alloc ?_ ?_ _); rotate_left; (((try simp) <;> (try omega)) <;> done)) | ((with_reducible refine Below.setCell ?_ ?_ _); rotate_left; (((try simp) <;> (try omega)) <;> done)) | ((with_reducible refine Below.trans ?_ (Below.mono (by with_reducible assumption) ?_)); rotate_left; (((try simp) <;> (try omega)) <;> done))))⟩
end Go.Proofs.Ytbkgjgpoohlieaa

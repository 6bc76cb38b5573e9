/- Contracts: sequential elements in the laws: the size, equality of equals. -/
import Derived.Test.YtimccjpggcgklaaSeqA
namespace Go.Proofs.Ytimccjpggcgklaa
open Go.RowKit

/-- the answer of a size that is reckoned down -/
def leftOf (left n : Nat) : Int := if n ≤ left then ((left - n : Nat) : Int) else -1
theorem leftOf_yes {left n : Nat} (h : n ≤ left) : leftOf left n = ((left - n : Nat) : Int) := by rw [leftOf, if_pos h]
theorem leftOf_no {left n : Nat} (h : ¬ n ≤ left) : leftOf left n = -1 := by rw [leftOf, if_neg h]

theorem l_szSeq (a b : Int) (A : Option Addr) (n c left : Nat) (h1 : left ≤ 1048576) (hn : n ≤ maxLen) (w : World) :
    Calls Try.prog 121 #[.agg #[.int .i64 a, .int .i64 b, .slice A n c], .int .i64 left] w fun e w' => e = .returned (.int .i64 (leftOf left n)) ∧ Below w.heap.size w w' := by
  by_cases h : n ≤ left
  · have He := Lib.hid (leftOf_yes h)
    have Hs := Lib.hid (fun W => l_szIntS A n c left h1 hn W)
    rw [if_pos h] at Hs
    go_enter Try.func121, Try.ntmps121
    go_wp2_with (first | (go_at_call 80; refine (Hs.out _).mono ?_; rintro e w' ⟨rfl, rfl⟩))
    go_ret
    exact ⟨ret_int He.out.symm, (by repeat (first | with_reducible exact Below.refl _ _ | with_reducible assumption | with_reducible refine below_drewN ?_ _ | with_reducible refine Below.drew ?_ | ((with_reducible refine Below.alloc ?_ ?_ _); rotate_left; (((try simp) <;> (try omega)) <;> done)) | ((with_reducible refine Below.setCell ?_ ?_ _); rotate_left; (((try simp) <;> (try omega)) <;> done)) | ((with_reducible refine Below.trans ?_ (Below.mono (by with_reducible assumption) ?_)); rotate_left; (((try simp) <;> (try omega)) <;> done))))⟩
  · have He := Lib.hid (leftOf_no h)
    have Hs := Lib.hid (fun W => l_szIntS A n c left h1 hn W)
    rw [if_neg h] at Hs
    go_enter Try.func121, Try.ntmps121
    go_wp2_with (first | (go_at_call 80; refine (Hs.out _).mono ?_; rintro e w' ⟨rfl, rfl⟩))
    go_ret
    exact ⟨ret_int He.out.symm, (by repeat (first | with_reducible exact Below.refl _ _ | with_reducible assumption | with_reducible refine below_drewN ?_ _ | with_reducible refine Below.drew ?_ | ((with_reducible refine Below.alloc ?_ ?_ _); rotate_left; (((try simp) <;> (try omega)) <;> done)) | ((with_reducible refine Below.setCell ?_ ?_ _); rotate_left; (((try simp) <;> (try omega)) <;> done)) | ((with_reducible refine Below.trans ?_ (Below.mono (by with_reducible assumption) ?_)); rotate_left; (((try simp) <;> (try omega)) <;> done))))⟩

/-- elements and their parts, counted -/
def cntSeq (ls : List Seq3) : Nat := ls.length + (ls.map fun x => x.2.2.length).sum
theorem sumSeq_succ {ls : List Seq3} {k : Nat} {x : Seq3} (h : ls[k]? = some x) : ((ls.take (k + 1)).map fun x => x.2.2.length).sum = ((ls.take k).map fun x => x.2.2.length).sum + x.2.2.length := by
  rw [List.take_add_one, h]; simp
theorem sumSeq_le (ls : List Seq3) : ∀ k, ((ls.take k).map fun x => x.2.2.length).sum ≤ (ls.map fun x => x.2.2.length).sum := by
  intro k
  induction ls generalizing k with
  | nil => simp
  | cons x ls ih =>
    cases k with
    | zero => simp
    | succ k => simp only [List.take_succ_cons, List.map_cons, List.sum_cons]; have := ih k; omega
theorem cntSeq_el {ls : List Seq3} {x : Seq3} (h : x ∈ ls) : x.2.2.length ≤ cntSeq ls := by
  unfold cntSeq
  induction ls with
  | nil => simp at h
  | cons y ls ih =>
    simp only [List.map_cons, List.sum_cons, List.length_cons]
    rcases List.mem_cons.1 h with rfl | h
    · omega
    · have := ih h; omega

set_option maxRecDepth 100000 in
set_option maxHeartbeats 2000000 in
theorem l_szSeqS {w : World} {S : Nat → Prop} {A : Option Addr} {n c : Nat} {ls : List Seq3} (left : Nat) (h1 : left ≤ 1048576) (h : Rep w S (.slice A n c) (fSeqS ls)) (hS : ∀ b, S b → b < w.heap.size) :
    Calls Try.prog 78 #[.slice A n c, .int .i64 left] w fun e w' => e = .returned (.int .i64 (leftOf left (cntSeq ls))) ∧ Below w.heap.size w w' := by
  have hl := h.len
  rw [List.length_map] at hl
  have hm : n ≤ maxLen := by obtain ⟨_, _, e, hm⟩ := h.sl_val; rw [List.length_map] at hm; omega
  unfold maxLen at hm
  have Hl := Lib.hid hl
  by_cases hnl : n ≤ left
  · clear hl
    go_enter Try.func78, Try.ntmps78
    go_wp2_with fail
    go_loopw [1, 5] (fun lv i wr => ∃ (k z : Nat), k ≤ n ∧ i = .int .i64 k ∧ lv = .int .i64 z ∧ z + n + ((ls.take k).map fun x => x.2.2.length).sum = left ∧ Below w.heap.size w wr) (fun _ i _ => n - (intOf i).toNat)
    case atStart => exact ⟨0, left - n, Nat.zero_le _, rfl, by go_num, by simp; omega, Below.refl _ _⟩
    case round =>
      obtain ⟨k, z, hk, rfl, rfl, hz, hb⟩ := hrel
      have hz2 : z ≤ 1048576 := by omega
      have Hz := Lib.hid hz
      have Hb := Lib.hid hb
      have hsz := hb.size
      clear hz hb
      by_cases hlt : k < n
      · obtain ⟨ad, a, b, l, A2, c2, rfl, hab, hx, hlm, hr2, hc0, hc1, hc2⟩ := fSeqS_row h hlt
        have hab' := hS _ hab
        have e0 := (Hb.out.cell (p := ad.add (k * 3)) (by rw [block_of_add]; omega)).trans hc0
        have e1 := (Hb.out.cell (p := nxt (ad.add (k * 3)) 1) (by rw [nxt_block]; omega)).trans hc1
        have e2 := (Hb.out.cell (p := nxt (ad.add (k * 3)) 2) (by rw [nxt_block]; omega)).trans hc2
        have Hsum := Lib.hid (sumSeq_succ hx)
        have Hle := Lib.hid (sumSeq_le ls (k + 1))
        have g1 : (0 : Int) ≤ (k : Int) := by omega
        have g2 : (k : Int) < (n : Int) := by omega
        clear hc0 hc1 hc2 hx hr2
        go_wp2_with fail
        refine (l_szSeq _ _ _ _ _ z hz2 hlm _).mono ?_
        rintro e w2 ⟨rfl, hb2⟩
        have Hb2 := Lib.hid (Hb.out.trans (hb2.mono hsz))
        clear hb2
        by_cases hzl : l.length ≤ z
        · rw [leftOf_yes hzl]
          go_wp2_with fail
          go_roundw
          case rel => exact ⟨k + 1, z - l.length, by omega, by go_num, by go_num, by rw [Hsum.out]; have := Hz.out; (try simp only); omega, Hb2.out⟩
          case measure => simp [intOf]; omega
        · rw [leftOf_no hzl]
          have He := Lib.hid (leftOf_no (left := left) (n := cntSeq ls) (by unfold cntSeq; have h1 := Hz.out; have h2 := Hsum.out; have h3 := Hle.out; have h4 := Hl.out; (try simp only at h2); omega))
          go_wp2_with fail
          go_ret
          exact ⟨ret_int He.out.symm, Hb2.out⟩
      · obtain rfl : k = n := by omega
        have He := Lib.hid (show leftOf left (cntSeq ls) = (z : Int) by
          have h1 := Hz.out
          rw [List.take_of_length_le (by rw [Hl.out]; exact Nat.le_refl _)] at h1
          rw [leftOf_yes (by unfold cntSeq; rw [Hl.out]; omega)]
          unfold cntSeq
          rw [Hl.out]
          omega)
        go_wp2_with fail
        go_ret
        exact ⟨ret_int He.out.symm, Hb.out⟩
  · have h2 : (left : Int) < n := by omega
    have He := Lib.hid (leftOf_no (left := left) (n := cntSeq ls) (by unfold cntSeq; omega))
    clear hl
    go_enter Try.func78, Try.ntmps78
    go_wp2_with fail
    go_ret
    exact ⟨ret_int He.out.symm, Below.refl _ _⟩

set_option maxHeartbeats 1000000 in
theorem l_eqSeq (a b : Int) {w : World} {B B' : Nat} {A A' : Option Addr} {n c c' : Nat} {l : List Int} (hn : n ≤ 1099511627776) (h : Reads w B 1 A n (ints l)) (h' : Reads w B' 1 A' n (ints l)) (hB : B ≤ w.heap.size) (hB' : B' ≤ w.heap.size) :
    Calls Try.prog 119 #[.agg #[.int .i64 a, .int .i64 b, .slice A n c], .agg #[.int .i64 a, .int .i64 b, .slice A' n c']] w fun e w' => e = .returned (.bool true) ∧ Below w.heap.size w w' := by
  go_enter Try.func119, Try.ntmps119
  go_wp2_with fail
  refine (l_eqIntS hn hn ((h.alloc hB _).alloc (by (try simp) <;> omega) _) ((h'.alloc hB' _).alloc (by (try simp) <;> omega) _) (by (try simp) <;> omega) (by (try simp) <;> omega)).mono ?_
  rintro e w1 ⟨rfl, hb1⟩
  rw [decide_eq_true (rfl : l = l)]
  go_wp2_with fail
  go_ret
  exact ⟨rfl, (by repeat (first | with_reducible exact Below.refl _ _ | with_reducible assumption | with_reducible refine below_drewN ?_ _ | with_reducible refine Below.drew ?_ | ((with_reducible refine Below.alloc ?_ ?_ _); rotate_left; (((try simp) <;> (try omega)) <;> done)) | ((with_reducible refine Below.setCell ?_ ?_ _); rotate_left; (((try simp) <;> (try omega)) <;> done)) | ((with_reducible refine Below.trans ?_ (Below.mono (by with_reducible assumption) ?_)); rotate_left; (((try simp) <;> (try omega)) <;> done))))⟩

set_option maxRecDepth 100000 in
set_option maxHeartbeats 2000000 in
theorem l_eqSeqS {w : World} {S S' : Nat → Prop} {A A' : Option Addr} {n c c' : Nat} {ls : List Seq3} (hn : n ≤ 1048576) (hin : ∀ x ∈ ls, x.2.2.length ≤ 1048576) (h : Rep w S (.slice A n c) (fSeqS ls)) (h' : Rep w S' (.slice A' n c') (fSeqS ls)) (hS : ∀ b, S b → b < w.heap.size) (hS' : ∀ b, S' b → b < w.heap.size) :
    Calls Try.prog 72 #[.slice A n c, .slice A' n c'] w fun e w' => e = .returned (.bool true) ∧ Below w.heap.size w w' := by
  have Hin := Lib.hid hin
  clear hin
  go_enter Try.func72, Try.ntmps72
  go_wp2
  go_loopw [5] (fun i wr => ∃ k : Nat, k ≤ n ∧ i = .int .i64 k ∧ Below w.heap.size w wr) (fun i _ => n - (intOf i).toNat)
  case atStart => exact ⟨0, Nat.zero_le _, rfl, Below.refl _ _⟩
  case round =>
    obtain ⟨k, hk, rfl, hb⟩ := hrel
    have Hb := Lib.hid hb
    have hsz := hb.size
    clear hb
    by_cases hlt : k < n
    · obtain ⟨ad, a, b, l, A2, c2, rfl, hab, hx, _, hr2, hc0, hc1, hc2⟩ := fSeqS_row h hlt
      obtain ⟨ad', a', b', l', A3, c3, rfl, hab', hx', _, hr3, hd0, hd1, hd2⟩ := fSeqS_row h' hlt
      rw [hx] at hx'
      injection hx' with hx'
      simp only [Prod.mk.injEq] at hx'
      obtain ⟨rfl, rfl, rfl⟩ := hx'
      have hlb := Hin.out _ (List.mem_of_getElem? hx)
      have hab1 := hS _ hab
      have hab2 := hS' _ hab'
      have e0 := (Hb.out.cell (p := ad.add (k * 3)) (by rw [block_of_add]; omega)).trans hc0
      have e1 := (Hb.out.cell (p := nxt (ad.add (k * 3)) 1) (by rw [nxt_block]; omega)).trans hc1
      have e2 := (Hb.out.cell (p := nxt (ad.add (k * 3)) 2) (by rw [nxt_block]; omega)).trans hc2
      have f0 := (Hb.out.cell (p := ad'.add (k * 3)) (by rw [block_of_add]; omega)).trans hd0
      have f1 := (Hb.out.cell (p := nxt (ad'.add (k * 3)) 1) (by rw [nxt_block]; omega)).trans hd1
      have f2 := (Hb.out.cell (p := nxt (ad'.add (k * 3)) 2) (by rw [nxt_block]; omega)).trans hd2
      have Ra := Lib.hid ((hr2.under hS Hb.out).ints_ (B := wr.heap.size) (fun b hb => Nat.lt_of_lt_of_le (hS b hb) hsz))
      have Rb := Lib.hid ((hr3.under hS' Hb.out).ints_ (B := wr.heap.size) (fun b hb => Nat.lt_of_lt_of_le (hS' b hb) hsz))
      have g1 : (0 : Int) ≤ (k : Int) := by omega
      have g2 : (k : Int) < (n : Int) := by omega
      clear hc0 hc1 hc2 hd0 hd1 hd2 hx hr2 hr3
      go_wp2_with fail
      refine wp_region_lexC (by kernel_rfl) (by kernel_rfl) (fun x => Below wr.heap.size wr x) ((Below.refl _ _).drew) (fun lexNE => ?_)
      have r0 := fun W : Wd (fun x => Below wr.heap.size wr x) => (W.ok.cell (p := ad.add (k * 3)) (by rw [block_of_add]; omega)).trans e0
      have r1 := fun W : Wd (fun x => Below wr.heap.size wr x) => (W.ok.cell (p := nxt (ad.add (k * 3)) 1) (by rw [nxt_block]; omega)).trans e1
      have r2 := fun W : Wd (fun x => Below wr.heap.size wr x) => (W.ok.cell (p := nxt (ad.add (k * 3)) 2) (by rw [nxt_block]; omega)).trans e2
      have s0 := fun W : Wd (fun x => Below wr.heap.size wr x) => (W.ok.cell (p := ad'.add (k * 3)) (by rw [block_of_add]; omega)).trans f0
      have s1 := fun W : Wd (fun x => Below wr.heap.size wr x) => (W.ok.cell (p := nxt (ad'.add (k * 3)) 1) (by rw [nxt_block]; omega)).trans f1
      have s2 := fun W : Wd (fun x => Below wr.heap.size wr x) => (W.ok.cell (p := nxt (ad'.add (k * 3)) 2) (by rw [nxt_block]; omega)).trans f2
      (repeat (first | (refine lex_read (by first | exact wanted_n rfl | exact wanted_g rfl rfl rfl rfl) (by exact rfl) (fun K hK => ?_); go_big_quiet_op; refine hK _ ?_; clear hK K) | (refine lex_skip' (by exact wanted_g rfl rfl rfl rfl) (fun K hK => ?_); go_simp; refine hK _ ?_; clear hK K)))
      (refine lex_eff (by first | exact wanted_n rfl | exact wanted_g rfl rfl rfl rfl) (by exact rfl) (fun K hK => ?_); go_big_op)
      refine (l_eqSeq _ _ (by omega) Ra.out.drew Rb.out.drew (by simp) (by simp)).mono ?_
      rintro e w6 ⟨rfl, hb6⟩
      have Hb6 := Lib.hid (Hb.out.drew.trans (hb6.mono hsz))
      refine hK _ _ (Cls.mk' ((Below.refl wr.heap.size wr).drew.trans hb6)) ?_
      clear hK K
      (repeat (first | (refine lex_read (by first | exact wanted_n rfl | exact wanted_g rfl rfl rfl rfl) (by exact rfl) (fun K hK => ?_); go_big_quiet_op; refine hK _ ?_; clear hK K) | (refine lex_skip' (by exact wanted_g rfl rfl rfl rfl) (fun K hK => ?_); go_simp; refine hK _ ?_; clear hK K)))
      (refine lex_nil ?_)
      clear lexNE r0 r1 r2 s0 s1 s2
      go_wp2_with fail
      go_roundw
      case rel => exact ⟨k + 1, by omega, by go_num, Hb6.out⟩
      case measure => simp [intOf]; omega
    · have hke : k = n := by omega
      subst hke
      go_wp2_with fail
      go_ret
      exact ⟨rfl, Hb.out⟩
end Go.Proofs.Ytimccjpggcgklaa

/- Contracts: a table's cofactors, whether it depends on an input. -/
import Derived.Test.YtbkgjgpoohlieaaTabD
namespace Go.Proofs.Ytbkgjgpoohlieaa
open Go.RowKit
attribute [local go_sem] i64_and1

def tCof (n b k : Int) (v : Bool) : Int × Int := if tOk n b && inR k 0 (n - 1) then (n, ((Tb.cof n.toNat b.toNat k.toNat v : Nat) : Int)) else (0, 0)

theorem w64_two4 {k : Nat} (h : k ≤ 4) : wrap64 ((2 : Int) ^ k) = ((2 ^ k : Nat) : Int) := w64_two (by omega)

set_option maxRecDepth 100000 in
set_option maxHeartbeats 4000000 in
theorem i_Cof1 (n b : Int) (i k : Nat) (v : Bool) (g0 g1 g2 : Nat) (w : World) (hi : i ≤ 15) (hk : k ≤ 4) (h0 : w.cell? ⟨g0, 0, none⟩ = some (.int .i64 k)) (h1 : w.cell? ⟨g1, 0, none⟩ = some (.bool v))
  (h2 : w.cell? ⟨g2, 0, none⟩ = some (.int .i64 n)) (h3 : w.cell? ⟨g2, 1, none⟩ = some (.int .i64 b)) :
  Calls Try.prog 56 #[.int .i64 i, .pointer (some ⟨g0, 0, none⟩), .pointer (some ⟨g1, 0, none⟩), .pointer (some ⟨g2, 0, none⟩)] w fun e w' => e = .returned (.bool (tEv n b (Tb.setb k v i : Nat))) ∧ Below w.heap.size w w' := by
 have hm : min k 64 = k := by omega
 have hp := Tb.pow_mono (show k ≤ 15 by omega)
 have e1 := i64_andNot_nat i (2 ^ k) (by omega) (by omega)
 have hle : Tb.andn i (2 ^ k) ≤ i := Tb.andn_le i _
 have e2 := i64_or_nat (Tb.andn i (2 ^ k)) (2 ^ k) (by omega) (by omega)
 have e3 := Tb.andn_pow_or i k
 have hs := w64_two4 hk
 rw [e3] at e2
 change bits .andNot .i64 (i : Int) ((2 ^ k : Nat) : Int) = ((Tb.andn i (2 ^ k) : Nat) : Int) at e1
 rw [two_nat k] at e1 e2
 cases v
 ·have Hs := Lib.hid (show Tb.setb k false i = Tb.andn i (2 ^ k) by simp [Tb.setb])
  clear e2 e3
  go_enter Try.func56, Try.ntmps56
  go_wp2_with fail
  refine (i_TableEval _ _ _ _).mono ?_
  rintro e w1 ⟨rfl, hb1⟩
  go_wp2_with fail
  go_ret
  exact ⟨ret_bool (by rw [Hs.out]), bel_⟩
 ·have Hs := Lib.hid (show Tb.setb k true i = Tb.andn i (2 ^ k) + 2 ^ k by simp [Tb.setb])
  clear e3
  go_enter Try.func56, Try.ntmps56
  go_wp2_with fail
  refine (i_TableEval _ _ _ _).mono ?_
  rintro e w1 ⟨rfl, hb1⟩
  go_wp2_with fail
  go_ret
  exact ⟨ret_bool (by rw [Hs.out, Int.natCast_add, two_nat]), bel_⟩

theorem cof_tab {n : Int} {b k : Nat} {v : Bool} (h : tOk n b = true) (hk : (k : Int) < n) : Tb.tab (fun i => tEv n b (Tb.setb k v i : Nat)) (2 ^ n.toNat) = Tb.cof n.toNat b k v := by
 unfold Tb.cof
 refine Tb.tab_congr fun i hi => ?_
 exact tEv_bit h (Tb.setb_lt (by omega) hi)

set_option maxRecDepth 100000 in
set_option maxHeartbeats 4000000 in
theorem i_TableCofactor (n b k : Int) (v : Bool) (w : World) : Calls Try.prog 20 #[.agg #[.int .i64 n, .int .i64 b], .int .i64 k, .bool v] w fun e w' =>
   e = .returned (.agg #[.int .i64 (tCof n b k v).1, .int .i64 (tCof n b k v).2]) ∧ Below w.heap.size w w' := by
 by_cases hk : tOk n b = true
 ·obtain ⟨b', rfl, hb1, hb2, hn⟩ := tOk_nat hk
  have hn0 := (inR_iff.1 hn).1
  have hn1 := (inR_iff.1 hn).2
  by_cases hkk : inR k 0 (n - 1) = true
  ·have hk0 := (inR_iff.1 hkk).1
   have hk1 := (inR_iff.1 hkk).2
   have He := Lib.hid (show tCof n b' k v = (n, ((Tb.cof n.toNat b' k.toNat v : Nat) : Int)) by simp [tCof, hk, hkk])
   obtain ⟨k', rfl⟩ := Int.eq_ofNat_of_zero_le hk0
   have hk4 : k' ≤ 4 := by omega
   have hp := (pow_bd hn).2
   have Ht := Lib.hid (cof_tab (v := v) hk (show (k' : Int) < n by omega))
   have Hn := Lib.hid hn
   have Hk := Lib.hid hk
   have Hkk := Lib.hid hkk
   clear hn hk hkk
   go_enter Try.func20, Try.ntmps20
   go_wp2_with fail
   refine (i_TableOk _ _ _).mono ?_
   rintro e w1 ⟨rfl, hb1⟩
   rw [Hk.out]
   have z1 := hb1.size
   try simp at z1
   (try have y1_0 : w.heap.size < w1.heap.size := (by omega))
   have q1_0 := fun o => (bcell hb1).1 (w.heap.size) o (by (try simp) <;> (try omega))
   have p1_0 := fun o => (bcell hb1).2 (w.heap.size) o (by (try simp) <;> (try omega))
   (try have y1_1 : w.heap.size + 1 < w1.heap.size := (by omega))
   have q1_1 := fun o => (bcell hb1).1 (w.heap.size + 1) o (by (try simp) <;> (try omega))
   have p1_1 := fun o => (bcell hb1).2 (w.heap.size + 1) o (by (try simp) <;> (try omega))
   (try have y1_2 : w.heap.size + 1 + 1 < w1.heap.size := (by omega))
   have q1_2 := fun o => (bcell hb1).1 (w.heap.size + 1 + 1) o (by (try simp) <;> (try omega))
   have p1_2 := fun o => (bcell hb1).2 (w.heap.size + 1 + 1) o (by (try simp) <;> (try omega))
   (try have y1_3 : w.heap.size + 1 + 1 + 1 < w1.heap.size := (by omega))
   have q1_3 := fun o => (bcell hb1).1 (w.heap.size + 1 + 1 + 1) o (by (try simp) <;> (try omega))
   have p1_3 := fun o => (bcell hb1).2 (w.heap.size + 1 + 1 + 1) o (by (try simp) <;> (try omega))
   go_wp2_with (first | (go_at_call 53; refine (i_inRange _ _ _ _).mono ?_; rintro e w' ⟨rfl, rfl⟩; rw [Hkk.out]))
   refine (i_tableOf n Hn.out 56 _ (fun i => tEv n b' (Tb.setb k' v i : Nat)) _ cf_Cof (fun i W hi hW => ?_)).mono ?_
   ·have k0 := hW.cell (p := ⟨w.heap.size, 0, none⟩) (by (try simp) <;> (try omega))
    have k1 := hW.cell (p := ⟨w.heap.size, 1, none⟩) (by (try simp) <;> (try omega))
    have k2 := hW.cell (p := ⟨w.heap.size + 1, 0, none⟩) (by (try simp) <;> (try omega))
    have k3 := hW.cell (p := ⟨w.heap.size + 1 + 1, 0, none⟩) (by (try simp) <;> (try omega))
    exact i_Cof1 n b' i k' v (w.heap.size + 1) (w.heap.size + 1 + 1) w.heap.size W (by omega) hk4 (by rw [k2]; simp [go_sem, q1_1]) (by rw [k3]; simp [go_sem, q1_2]) (by rw [k0]; simp [go_sem, q1_0]) (by rw [k1]; simp [go_sem, q1_0])
   ·rintro e w2 ⟨rfl, hb2⟩
    have z2 := hb2.size
    try simp at z2
    (try have y2_0 : w.heap.size < w2.heap.size := (by omega))
    have q2_0 := fun o => (bcell hb2).1 (w.heap.size) o (by (try simp) <;> (try omega))
    have p2_0 := fun o => (bcell hb2).2 (w.heap.size) o (by (try simp) <;> (try omega))
    (try have y2_1 : w.heap.size + 1 < w2.heap.size := (by omega))
    have q2_1 := fun o => (bcell hb2).1 (w.heap.size + 1) o (by (try simp) <;> (try omega))
    have p2_1 := fun o => (bcell hb2).2 (w.heap.size + 1) o (by (try simp) <;> (try omega))
    (try have y2_2 : w.heap.size + 1 + 1 < w2.heap.size := (by omega))
    have q2_2 := fun o => (bcell hb2).1 (w.heap.size + 1 + 1) o (by (try simp) <;> (try omega))
    have p2_2 := fun o => (bcell hb2).2 (w.heap.size + 1 + 1) o (by (try simp) <;> (try omega))
    (try have y2_3 : w.heap.size + 1 + 1 + 1 < w2.heap.size := (by omega))
    have q2_3 := fun o => (bcell hb2).1 (w.heap.size + 1 + 1 + 1) o (by (try simp) <;> (try omega))
    have p2_3 := fun o => (bcell hb2).2 (w.heap.size + 1 + 1 + 1) o (by (try simp) <;> (try omega))
    go_wp2_with fail
    exact bodyPost_ret (v := .agg #[.int .i64 n, .int .i64 (Tb.tab (fun i => tEv n b' (Tb.setb k' v i : Nat)) (2 ^ n.toNat))]) (by simp [results, Try.results20, go_sem, q2_3, q1_3]) rfl ⟨by rw [He.out, Ht.out]; rfl, bel_⟩
  ·have hkk : inR k 0 (n - 1) = false := by simpa using hkk
   have He := Lib.hid (show tCof n b' k v = (0, 0) by simp [tCof, hkk])
   have Hk := Lib.hid hk
   have Hkk := Lib.hid hkk
   clear hn hk hkk
   go_enter Try.func20, Try.ntmps20
   go_wp2_with fail
   refine (i_TableOk _ _ _).mono ?_
   rintro e w1 ⟨rfl, hb1⟩
   rw [Hk.out]
   have z1 := hb1.size
   try simp at z1
   (try have y1_0 : w.heap.size < w1.heap.size := (by omega))
   have q1_0 := fun o => (bcell hb1).1 (w.heap.size) o (by (try simp) <;> (try omega))
   have p1_0 := fun o => (bcell hb1).2 (w.heap.size) o (by (try simp) <;> (try omega))
   (try have y1_1 : w.heap.size + 1 < w1.heap.size := (by omega))
   have q1_1 := fun o => (bcell hb1).1 (w.heap.size + 1) o (by (try simp) <;> (try omega))
   have p1_1 := fun o => (bcell hb1).2 (w.heap.size + 1) o (by (try simp) <;> (try omega))
   (try have y1_2 : w.heap.size + 1 + 1 < w1.heap.size := (by omega))
   have q1_2 := fun o => (bcell hb1).1 (w.heap.size + 1 + 1) o (by (try simp) <;> (try omega))
   have p1_2 := fun o => (bcell hb1).2 (w.heap.size + 1 + 1) o (by (try simp) <;> (try omega))
   (try have y1_3 : w.heap.size + 1 + 1 + 1 < w1.heap.size := (by omega))
   have q1_3 := fun o => (bcell hb1).1 (w.heap.size + 1 + 1 + 1) o (by (try simp) <;> (try omega))
   have p1_3 := fun o => (bcell hb1).2 (w.heap.size + 1 + 1 + 1) o (by (try simp) <;> (try omega))
   go_wp2_with (first | (go_at_call 53; refine (i_inRange _ _ _ _).mono ?_; rintro e w' ⟨rfl, rfl⟩; rw [Hkk.out]))
   exact bodyPost_ret (v := .agg #[.int .i64 0, .int .i64 0]) (by simp [results, Try.results20, go_sem, q1_3]) rfl ⟨by rw [He.out], bel_⟩
 ·have hk : tOk n b = false := by simpa using hk
  have He := Lib.hid (show tCof n b k v = (0, 0) by simp [tCof, hk])
  have Hk := Lib.hid hk
  clear hk
  go_enter Try.func20, Try.ntmps20
  go_wp2_with fail
  refine (i_TableOk _ _ _).mono ?_
  rintro e w1 ⟨rfl, hb1⟩
  rw [Hk.out]
  have z1 := hb1.size
  try simp at z1
  (try have y1_0 : w.heap.size < w1.heap.size := (by omega))
  have q1_0 := fun o => (bcell hb1).1 (w.heap.size) o (by (try simp) <;> (try omega))
  have p1_0 := fun o => (bcell hb1).2 (w.heap.size) o (by (try simp) <;> (try omega))
  (try have y1_1 : w.heap.size + 1 < w1.heap.size := (by omega))
  have q1_1 := fun o => (bcell hb1).1 (w.heap.size + 1) o (by (try simp) <;> (try omega))
  have p1_1 := fun o => (bcell hb1).2 (w.heap.size + 1) o (by (try simp) <;> (try omega))
  (try have y1_2 : w.heap.size + 1 + 1 < w1.heap.size := (by omega))
  have q1_2 := fun o => (bcell hb1).1 (w.heap.size + 1 + 1) o (by (try simp) <;> (try omega))
  have p1_2 := fun o => (bcell hb1).2 (w.heap.size + 1 + 1) o (by (try simp) <;> (try omega))
  (try have y1_3 : w.heap.size + 1 + 1 + 1 < w1.heap.size := (by omega))
  have q1_3 := fun o => (bcell hb1).1 (w.heap.size + 1 + 1 + 1) o (by (try simp) <;> (try omega))
  have p1_3 := fun o => (bcell hb1).2 (w.heap.size + 1 + 1 + 1) o (by (try simp) <;> (try omega))
  go_wp2_with fail
  exact bodyPost_ret (v := .agg #[.int .i64 0, .int .i64 0]) (by simp [results, Try.results20, go_sem, q1_3]) rfl ⟨by rw [He.out], bel_⟩
end Go.Proofs.Ytbkgjgpoohlieaa

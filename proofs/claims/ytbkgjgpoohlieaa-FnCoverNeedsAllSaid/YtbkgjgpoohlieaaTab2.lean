/- Contracts: conjunction and exclusive disjunction of tables; equality of two tables. -/
import Derived.Test.YtbkgjgpoohlieaaHas
namespace Go.Proofs.Ytbkgjgpoohlieaa
open Go.RowKit

def tAnd (n b m d : Int) : Int × Int := if tOk n b && tOk m d && decide (n = m) then (n, ((b.toNat &&& d.toNat : Nat) : Int)) else (0, 0)
def tXor (n b m d : Int) : Int × Int := if tOk n b && tOk m d && decide (n = m) then (n, ((b.toNat ^^^ d.toNat : Nat) : Int)) else (0, 0)

set_option maxHeartbeats 4000000 in
theorem i_TableAnd (n b m d : Int) (w : World) :
  Calls Try.prog 23 #[.agg #[.int .i64 n, .int .i64 b], .agg #[.int .i64 m, .int .i64 d]] w fun e w' =>
   e = .returned (.agg #[.int .i64 (tAnd n b m d).1, .int .i64 (tAnd n b m d).2]) ∧ Below w.heap.size w w' := by
 by_cases hk : tOk n b = true
 ·by_cases hk2 : tOk m d = true
  ·by_cases hnm : n = m
   ·subst hnm
    obtain ⟨b', rfl, hb1, hb2, hn⟩ := tOk_nat hk
    obtain ⟨d', rfl, hd1, hd2, _⟩ := tOk_nat hk2
    have hbit := i64_and_nat b' d' (by omega) (by omega)
    have He := Lib.hid (show tAnd n b' n d' = (n, ((b' &&& d' : Nat) : Int)) by simp [tAnd, hk, hk2])
    clear hn hb1 hd1
    go_enter Try.func23, Try.ntmps23
    go_wp2_with fail
    refine (i_TableOk _ _ _).mono ?_
    rintro e w1 ⟨rfl, hb1⟩
    have z1 := hb1.size
    try simp at z1
    (try have y1_0 : w.heap.size < w1.heap.size := (by omega))
    have q1_0 := fun o => (bcell hb1).1 (w.heap.size) o (by (try simp) <;> (try omega))
    have p1_0 := fun o => (bcell hb1).2 (w.heap.size) o (by (try simp) <;> (try omega))
    (try have y1_1 : w.heap.size + 1 < w1.heap.size := (by omega))
    have q1_1 := fun o => (bcell hb1).1 (w.heap.size + 1) o (by (try simp) <;> (try omega))
    have p1_1 := fun o => (bcell hb1).2 (w.heap.size + 1) o (by (try simp) <;> (try omega))
    (try have y1_2 : w.heap.size + 1 + 1 < w1.heap.size := (by omega))
    have q1_2 := fun o => (bcell hb1).1 (w.heap.size + 1 + 1) o (by (try simp) <;> (try omega))
    have p1_2 := fun o => (bcell hb1).2 (w.heap.size + 1 + 1) o (by (try simp) <;> (try omega))
    go_wp2_with fail
    refine (i_TableOk _ _ _).mono ?_
    rintro e w2 ⟨rfl, hb2⟩
    have z2 := hb2.size
    try simp at z2
    (try have y2_0 : w.heap.size < w2.heap.size := (by omega))
    have q2_0 := fun o => (bcell hb2).1 (w.heap.size) o (by (try simp) <;> (try omega))
    have p2_0 := fun o => (bcell hb2).2 (w.heap.size) o (by (try simp) <;> (try omega))
    (try have y2_1 : w.heap.size + 1 < w2.heap.size := (by omega))
    have q2_1 := fun o => (bcell hb2).1 (w.heap.size + 1) o (by (try simp) <;> (try omega))
    have p2_1 := fun o => (bcell hb2).2 (w.heap.size + 1) o (by (try simp) <;> (try omega))
    (try have y2_2 : w.heap.size + 1 + 1 < w2.heap.size := (by omega))
    have q2_2 := fun o => (bcell hb2).1 (w.heap.size + 1 + 1) o (by (try simp) <;> (try omega))
    have p2_2 := fun o => (bcell hb2).2 (w.heap.size + 1 + 1) o (by (try simp) <;> (try omega))
    go_wp2_with fail
    exact bodyPost_ret (v := .agg #[.int .i64 n, .int .i64 ((b' &&& d' : Nat) : Int)]) (by simp [results, Try.results23, go_sem, q2_2, q1_2]) rfl ⟨by rw [He.out], bel_⟩
   ·have He := Lib.hid (show tAnd n b m d = (0, 0) by simp [tAnd, hnm])
    have hne : (n == m) = false := by simpa using hnm
    have hne2 : (n != m) = true := by simpa using hnm
    go_enter Try.func23, Try.ntmps23
    go_wp2_with fail
    refine (i_TableOk _ _ _).mono ?_
    rintro e w1 ⟨rfl, hb1⟩
    have z1 := hb1.size
    try simp at z1
    (try have y1_0 : w.heap.size < w1.heap.size := (by omega))
    have q1_0 := fun o => (bcell hb1).1 (w.heap.size) o (by (try simp) <;> (try omega))
    have p1_0 := fun o => (bcell hb1).2 (w.heap.size) o (by (try simp) <;> (try omega))
    (try have y1_1 : w.heap.size + 1 < w1.heap.size := (by omega))
    have q1_1 := fun o => (bcell hb1).1 (w.heap.size + 1) o (by (try simp) <;> (try omega))
    have p1_1 := fun o => (bcell hb1).2 (w.heap.size + 1) o (by (try simp) <;> (try omega))
    (try have y1_2 : w.heap.size + 1 + 1 < w1.heap.size := (by omega))
    have q1_2 := fun o => (bcell hb1).1 (w.heap.size + 1 + 1) o (by (try simp) <;> (try omega))
    have p1_2 := fun o => (bcell hb1).2 (w.heap.size + 1 + 1) o (by (try simp) <;> (try omega))
    go_wp2_with fail
    refine (i_TableOk _ _ _).mono ?_
    rintro e w2 ⟨rfl, hb2⟩
    have z2 := hb2.size
    try simp at z2
    (try have y2_0 : w.heap.size < w2.heap.size := (by omega))
    have q2_0 := fun o => (bcell hb2).1 (w.heap.size) o (by (try simp) <;> (try omega))
    have p2_0 := fun o => (bcell hb2).2 (w.heap.size) o (by (try simp) <;> (try omega))
    (try have y2_1 : w.heap.size + 1 < w2.heap.size := (by omega))
    have q2_1 := fun o => (bcell hb2).1 (w.heap.size + 1) o (by (try simp) <;> (try omega))
    have p2_1 := fun o => (bcell hb2).2 (w.heap.size + 1) o (by (try simp) <;> (try omega))
    (try have y2_2 : w.heap.size + 1 + 1 < w2.heap.size := (by omega))
    have q2_2 := fun o => (bcell hb2).1 (w.heap.size + 1 + 1) o (by (try simp) <;> (try omega))
    have p2_2 := fun o => (bcell hb2).2 (w.heap.size + 1 + 1) o (by (try simp) <;> (try omega))
    go_wp2_with fail
    exact bodyPost_ret (v := .agg #[.int .i64 0, .int .i64 0]) (by simp [results, Try.results23, go_sem, q2_2, q1_2]) rfl ⟨by rw [He.out], bel_⟩
  ·have hk2 : tOk m d = false := by simpa using hk2
   have He := Lib.hid (show tAnd n b m d = (0, 0) by simp [tAnd, hk2])
   go_enter Try.func23, Try.ntmps23
   go_wp2_with fail
   refine (i_TableOk _ _ _).mono ?_
   rintro e w1 ⟨rfl, hb1⟩
   have z1 := hb1.size
   try simp at z1
   (try have y1_0 : w.heap.size < w1.heap.size := (by omega))
   have q1_0 := fun o => (bcell hb1).1 (w.heap.size) o (by (try simp) <;> (try omega))
   have p1_0 := fun o => (bcell hb1).2 (w.heap.size) o (by (try simp) <;> (try omega))
   (try have y1_1 : w.heap.size + 1 < w1.heap.size := (by omega))
   have q1_1 := fun o => (bcell hb1).1 (w.heap.size + 1) o (by (try simp) <;> (try omega))
   have p1_1 := fun o => (bcell hb1).2 (w.heap.size + 1) o (by (try simp) <;> (try omega))
   (try have y1_2 : w.heap.size + 1 + 1 < w1.heap.size := (by omega))
   have q1_2 := fun o => (bcell hb1).1 (w.heap.size + 1 + 1) o (by (try simp) <;> (try omega))
   have p1_2 := fun o => (bcell hb1).2 (w.heap.size + 1 + 1) o (by (try simp) <;> (try omega))
   go_wp2_with fail
   refine (i_TableOk _ _ _).mono ?_
   rintro e w2 ⟨rfl, hb2⟩
   have z2 := hb2.size
   try simp at z2
   (try have y2_0 : w.heap.size < w2.heap.size := (by omega))
   have q2_0 := fun o => (bcell hb2).1 (w.heap.size) o (by (try simp) <;> (try omega))
   have p2_0 := fun o => (bcell hb2).2 (w.heap.size) o (by (try simp) <;> (try omega))
   (try have y2_1 : w.heap.size + 1 < w2.heap.size := (by omega))
   have q2_1 := fun o => (bcell hb2).1 (w.heap.size + 1) o (by (try simp) <;> (try omega))
   have p2_1 := fun o => (bcell hb2).2 (w.heap.size + 1) o (by (try simp) <;> (try omega))
   (try have y2_2 : w.heap.size + 1 + 1 < w2.heap.size := (by omega))
   have q2_2 := fun o => (bcell hb2).1 (w.heap.size + 1 + 1) o (by (try simp) <;> (try omega))
   have p2_2 := fun o => (bcell hb2).2 (w.heap.size + 1 + 1) o (by (try simp) <;> (try omega))
   go_wp2_with fail
   exact bodyPost_ret (v := .agg #[.int .i64 0, .int .i64 0]) (by simp [results, Try.results23, go_sem, q2_2, q1_2]) rfl ⟨by rw [He.out], bel_⟩
 ·have hk : tOk n b = false := by simpa using hk
  have He := Lib.hid (show tAnd n b m d = (0, 0) by simp [tAnd, hk])
  go_enter Try.func23, Try.ntmps23
  go_wp2_with fail
  refine (i_TableOk _ _ _).mono ?_
  rintro e w1 ⟨rfl, hb1⟩
  have z1 := hb1.size
  try simp at z1
  (try have y1_0 : w.heap.size < w1.heap.size := (by omega))
  have q1_0 := fun o => (bcell hb1).1 (w.heap.size) o (by (try simp) <;> (try omega))
  have p1_0 := fun o => (bcell hb1).2 (w.heap.size) o (by (try simp) <;> (try omega))
  (try have y1_1 : w.heap.size + 1 < w1.heap.size := (by omega))
  have q1_1 := fun o => (bcell hb1).1 (w.heap.size + 1) o (by (try simp) <;> (try omega))
  have p1_1 := fun o => (bcell hb1).2 (w.heap.size + 1) o (by (try simp) <;> (try omega))
  (try have y1_2 : w.heap.size + 1 + 1 < w1.heap.size := (by omega))
  have q1_2 := fun o => (bcell hb1).1 (w.heap.size + 1 + 1) o (by (try simp) <;> (try omega))
  have p1_2 := fun o => (bcell hb1).2 (w.heap.size + 1 + 1) o (by (try simp) <;> (try omega))
  go_wp2_with fail
  exact bodyPost_ret (v := .agg #[.int .i64 0, .int .i64 0]) (by simp [results, Try.results23, go_sem, q1_2]) rfl ⟨by rw [He.out], bel_⟩

set_option maxHeartbeats 4000000 in
theorem s_TableAnd (n b m d : Int) (w : World) :
  Calls Try.prog 75 #[.agg #[.int .i64 n, .int .i64 b], .agg #[.int .i64 m, .int .i64 d]] w fun e w' =>
   e = .returned (.agg #[.int .i64 (tAnd n b m d).1, .int .i64 (tAnd n b m d).2]) ∧ Below w.heap.size w w' := by
 by_cases hk : tOk n b = true
 ·by_cases hk2 : tOk m d = true
  ·by_cases hnm : n = m
   ·subst hnm
    obtain ⟨b', rfl, hb1, hb2, hn⟩ := tOk_nat hk
    obtain ⟨d', rfl, hd1, hd2, _⟩ := tOk_nat hk2
    have hbit := i64_and_nat b' d' (by omega) (by omega)
    have He := Lib.hid (show tAnd n b' n d' = (n, ((b' &&& d' : Nat) : Int)) by simp [tAnd, hk, hk2])
    clear hn hb1 hd1
    go_enter Try.func75, Try.ntmps75
    go_wp2_with fail
    refine (s_TableOk _ _ _).mono ?_
    rintro e w1 ⟨rfl, hb1⟩
    have z1 := hb1.size
    try simp at z1
    (try have y1_0 : w.heap.size < w1.heap.size := (by omega))
    have q1_0 := fun o => (bcell hb1).1 (w.heap.size) o (by (try simp) <;> (try omega))
    have p1_0 := fun o => (bcell hb1).2 (w.heap.size) o (by (try simp) <;> (try omega))
    (try have y1_1 : w.heap.size + 1 < w1.heap.size := (by omega))
    have q1_1 := fun o => (bcell hb1).1 (w.heap.size + 1) o (by (try simp) <;> (try omega))
    have p1_1 := fun o => (bcell hb1).2 (w.heap.size + 1) o (by (try simp) <;> (try omega))
    (try have y1_2 : w.heap.size + 1 + 1 < w1.heap.size := (by omega))
    have q1_2 := fun o => (bcell hb1).1 (w.heap.size + 1 + 1) o (by (try simp) <;> (try omega))
    have p1_2 := fun o => (bcell hb1).2 (w.heap.size + 1 + 1) o (by (try simp) <;> (try omega))
    go_wp2_with fail
    refine (s_TableOk _ _ _).mono ?_
    rintro e w2 ⟨rfl, hb2⟩
    have z2 := hb2.size
    try simp at z2
    (try have y2_0 : w.heap.size < w2.heap.size := (by omega))
    have q2_0 := fun o => (bcell hb2).1 (w.heap.size) o (by (try simp) <;> (try omega))
    have p2_0 := fun o => (bcell hb2).2 (w.heap.size) o (by (try simp) <;> (try omega))
    (try have y2_1 : w.heap.size + 1 < w2.heap.size := (by omega))
    have q2_1 := fun o => (bcell hb2).1 (w.heap.size + 1) o (by (try simp) <;> (try omega))
    have p2_1 := fun o => (bcell hb2).2 (w.heap.size + 1) o (by (try simp) <;> (try omega))
    (try have y2_2 : w.heap.size + 1 + 1 < w2.heap.size := (by omega))
    have q2_2 := fun o => (bcell hb2).1 (w.heap.size + 1 + 1) o (by (try simp) <;> (try omega))
    have p2_2 := fun o => (bcell hb2).2 (w.heap.size + 1 + 1) o (by (try simp) <;> (try omega))
    go_wp2_with fail
    exact bodyPost_ret (v := .agg #[.int .i64 n, .int .i64 ((b' &&& d' : Nat) : Int)]) (by simp [results, Try.results75, go_sem, q2_2, q1_2]) rfl ⟨by rw [He.out], bel_⟩
   ·have He := Lib.hid (show tAnd n b m d = (0, 0) by simp [tAnd, hnm])
    have hne : (n == m) = false := by simpa using hnm
    have hne2 : (n != m) = true := by simpa using hnm
    go_enter Try.func75, Try.ntmps75
    go_wp2_with fail
    refine (s_TableOk _ _ _).mono ?_
    rintro e w1 ⟨rfl, hb1⟩
    have z1 := hb1.size
    try simp at z1
    (try have y1_0 : w.heap.size < w1.heap.size := (by omega))
    have q1_0 := fun o => (bcell hb1).1 (w.heap.size) o (by (try simp) <;> (try omega))
    have p1_0 := fun o => (bcell hb1).2 (w.heap.size) o (by (try simp) <;> (try omega))
    (try have y1_1 : w.heap.size + 1 < w1.heap.size := (by omega))
    have q1_1 := fun o => (bcell hb1).1 (w.heap.size + 1) o (by (try simp) <;> (try omega))
    have p1_1 := fun o => (bcell hb1).2 (w.heap.size + 1) o (by (try simp) <;> (try omega))
    (try have y1_2 : w.heap.size + 1 + 1 < w1.heap.size := (by omega))
    have q1_2 := fun o => (bcell hb1).1 (w.heap.size + 1 + 1) o (by (try simp) <;> (try omega))
    have p1_2 := fun o => (bcell hb1).2 (w.heap.size + 1 + 1) o (by (try simp) <;> (try omega))
    go_wp2_with fail
    refine (s_TableOk _ _ _).mono ?_
    rintro e w2 ⟨rfl, hb2⟩
    have z2 := hb2.size
    try simp at z2
    (try have y2_0 : w.heap.size < w2.heap.size := (by omega))
    have q2_0 := fun o => (bcell hb2).1 (w.heap.size) o (by (try simp) <;> (try omega))
    have p2_0 := fun o => (bcell hb2).2 (w.heap.size) o (by (try simp) <;> (try omega))
    (try have y2_1 : w.heap.size + 1 < w2.heap.size := (by omega))
    have q2_1 := fun o => (bcell hb2).1 (w.heap.size + 1) o (by (try simp) <;> (try omega))
    have p2_1 := fun o => (bcell hb2).2 (w.heap.size + 1) o (by (try simp) <;> (try omega))
    (try have y2_2 : w.heap.size + 1 + 1 < w2.heap.size := (by omega))
    have q2_2 := fun o => (bcell hb2).1 (w.heap.size + 1 + 1) o (by (try simp) <;> (try omega))
    have p2_2 := fun o => (bcell hb2).2 (w.heap.size + 1 + 1) o (by (try simp) <;> (try omega))
    go_wp2_with fail
    exact bodyPost_ret (v := .agg #[.int .i64 0, .int .i64 0]) (by simp [results, Try.results75, go_sem, q2_2, q1_2]) rfl ⟨by rw [He.out], bel_⟩
  ·have hk2 : tOk m d = false := by simpa using hk2
   have He := Lib.hid (show tAnd n b m d = (0, 0) by simp [tAnd, hk2])
   go_enter Try.func75, Try.ntmps75
   go_wp2_with fail
   refine (s_TableOk _ _ _).mono ?_
   rintro e w1 ⟨rfl, hb1⟩
   have z1 := hb1.size
   try simp at z1
   (try have y1_0 : w.heap.size < w1.heap.size := (by omega))
   have q1_0 := fun o => (bcell hb1).1 (w.heap.size) o (by (try simp) <;> (try omega))
   have p1_0 := fun o => (bcell hb1).2 (w.heap.size) o (by (try simp) <;> (try omega))
   (try have y1_1 : w.heap.size + 1 < w1.heap.size := (by omega))
   have q1_1 := fun o => (bcell hb1).1 (w.heap.size + 1) o (by (try simp) <;> (try omega))
   have p1_1 := fun o => (bcell hb1).2 (w.heap.size + 1) o (by (try simp) <;> (try omega))
   (try have y1_2 : w.heap.size + 1 + 1 < w1.heap.size := (by omega))
   have q1_2 := fun o => (bcell hb1).1 (w.heap.size + 1 + 1) o (by (try simp) <;> (try omega))
   have p1_2 := fun o => (bcell hb1).2 (w.heap.size + 1 + 1) o (by (try simp) <;> (try omega))
   go_wp2_with fail
   refine (s_TableOk _ _ _).mono ?_
   rintro e w2 ⟨rfl, hb2⟩
   have z2 := hb2.size
   try simp at z2
   (try have y2_0 : w.heap.size < w2.heap.size := (by omega))
   have q2_0 := fun o => (bcell hb2).1 (w.heap.size) o (by (try simp) <;> (try omega))
   have p2_0 := fun o => (bcell hb2).2 (w.heap.size) o (by (try simp) <;> (try omega))
   (try have y2_1 : w.heap.size + 1 < w2.heap.size := (by omega))
   have q2_1 := fun o => (bcell hb2).1 (w.heap.size + 1) o (by (try simp) <;> (try omega))
   have p2_1 := fun o => (bcell hb2).2 (w.heap.size + 1) o (by (try simp) <;> (try omega))
   (try have y2_2 : w.heap.size + 1 + 1 < w2.heap.size := (by omega))
   have q2_2 := fun o => (bcell hb2).1 (w.heap.size + 1 + 1) o (by (try simp) <;> (try omega))
   have p2_2 := fun o => (bcell hb2).2 (w.heap.size + 1 + 1) o (by (try simp) <;> (try omega))
   go_wp2_with fail
   exact bodyPost_ret (v := .agg #[.int .i64 0, .int .i64 0]) (by simp [results, Try.results75, go_sem, q2_2, q1_2]) rfl ⟨by rw [He.out], bel_⟩
 ·have hk : tOk n b = false := by simpa using hk
  have He := Lib.hid (show tAnd n b m d = (0, 0) by simp [tAnd, hk])
  go_enter Try.func75, Try.ntmps75
  go_wp2_with fail
  refine (s_TableOk _ _ _).mono ?_
  rintro e w1 ⟨rfl, hb1⟩
  have z1 := hb1.size
  try simp at z1
  (try have y1_0 : w.heap.size < w1.heap.size := (by omega))
  have q1_0 := fun o => (bcell hb1).1 (w.heap.size) o (by (try simp) <;> (try omega))
  have p1_0 := fun o => (bcell hb1).2 (w.heap.size) o (by (try simp) <;> (try omega))
  (try have y1_1 : w.heap.size + 1 < w1.heap.size := (by omega))
  have q1_1 := fun o => (bcell hb1).1 (w.heap.size + 1) o (by (try simp) <;> (try omega))
  have p1_1 := fun o => (bcell hb1).2 (w.heap.size + 1) o (by (try simp) <;> (try omega))
  (try have y1_2 : w.heap.size + 1 + 1 < w1.heap.size := (by omega))
  have q1_2 := fun o => (bcell hb1).1 (w.heap.size + 1 + 1) o (by (try simp) <;> (try omega))
  have p1_2 := fun o => (bcell hb1).2 (w.heap.size + 1 + 1) o (by (try simp) <;> (try omega))
  go_wp2_with fail
  exact bodyPost_ret (v := .agg #[.int .i64 0, .int .i64 0]) (by simp [results, Try.results75, go_sem, q1_2]) rfl ⟨by rw [He.out], bel_⟩

set_option maxHeartbeats 4000000 in
theorem i_TableXor (n b m d : Int) (w : World) :
  Calls Try.prog 22 #[.agg #[.int .i64 n, .int .i64 b], .agg #[.int .i64 m, .int .i64 d]] w fun e w' =>
   e = .returned (.agg #[.int .i64 (tXor n b m d).1, .int .i64 (tXor n b m d).2]) ∧ Below w.heap.size w w' := by
 by_cases hk : tOk n b = true
 ·by_cases hk2 : tOk m d = true
  ·by_cases hnm : n = m
   ·subst hnm
    obtain ⟨b', rfl, hb1, hb2, hn⟩ := tOk_nat hk
    obtain ⟨d', rfl, hd1, hd2, _⟩ := tOk_nat hk2
    have hbit := i64_xor_nat b' d' (by omega) (by omega)
    have He := Lib.hid (show tXor n b' n d' = (n, ((b' ^^^ d' : Nat) : Int)) by simp [tXor, hk, hk2])
    clear hn hb1 hd1
    go_enter Try.func22, Try.ntmps22
    go_wp2_with fail
    refine (i_TableOk _ _ _).mono ?_
    rintro e w1 ⟨rfl, hb1⟩
    have z1 := hb1.size
    try simp at z1
    (try have y1_0 : w.heap.size < w1.heap.size := (by omega))
    have q1_0 := fun o => (bcell hb1).1 (w.heap.size) o (by (try simp) <;> (try omega))
    have p1_0 := fun o => (bcell hb1).2 (w.heap.size) o (by (try simp) <;> (try omega))
    (try have y1_1 : w.heap.size + 1 < w1.heap.size := (by omega))
    have q1_1 := fun o => (bcell hb1).1 (w.heap.size + 1) o (by (try simp) <;> (try omega))
    have p1_1 := fun o => (bcell hb1).2 (w.heap.size + 1) o (by (try simp) <;> (try omega))
    (try have y1_2 : w.heap.size + 1 + 1 < w1.heap.size := (by omega))
    have q1_2 := fun o => (bcell hb1).1 (w.heap.size + 1 + 1) o (by (try simp) <;> (try omega))
    have p1_2 := fun o => (bcell hb1).2 (w.heap.size + 1 + 1) o (by (try simp) <;> (try omega))
    go_wp2_with fail
    refine (i_TableOk _ _ _).mono ?_
    rintro e w2 ⟨rfl, hb2⟩
    have z2 := hb2.size
    try simp at z2
    (try have y2_0 : w.heap.size < w2.heap.size := (by omega))
    have q2_0 := fun o => (bcell hb2).1 (w.heap.size) o (by (try simp) <;> (try omega))
    have p2_0 := fun o => (bcell hb2).2 (w.heap.size) o (by (try simp) <;> (try omega))
    (try have y2_1 : w.heap.size + 1 < w2.heap.size := (by omega))
    have q2_1 := fun o => (bcell hb2).1 (w.heap.size + 1) o (by (try simp) <;> (try omega))
    have p2_1 := fun o => (bcell hb2).2 (w.heap.size + 1) o (by (try simp) <;> (try omega))
    (try have y2_2 : w.heap.size + 1 + 1 < w2.heap.size := (by omega))
    have q2_2 := fun o => (bcell hb2).1 (w.heap.size + 1 + 1) o (by (try simp) <;> (try omega))
    have p2_2 := fun o => (bcell hb2).2 (w.heap.size + 1 + 1) o (by (try simp) <;> (try omega))
    go_wp2_with fail
    exact bodyPost_ret (v := .agg #[.int .i64 n, .int .i64 ((b' ^^^ d' : Nat) : Int)]) (by simp [results, Try.results22, go_sem, q2_2, q1_2]) rfl ⟨by rw [He.out], bel_⟩
   ·have He := Lib.hid (show tXor n b m d = (0, 0) by simp [tXor, hnm])
    have hne : (n == m) = false := by simpa using hnm
    have hne2 : (n != m) = true := by simpa using hnm
    go_enter Try.func22, Try.ntmps22
    go_wp2_with fail
    refine (i_TableOk _ _ _).mono ?_
    rintro e w1 ⟨rfl, hb1⟩
    have z1 := hb1.size
    try simp at z1
    (try have y1_0 : w.heap.size < w1.heap.size := (by omega))
    have q1_0 := fun o => (bcell hb1).1 (w.heap.size) o (by (try simp) <;> (try omega))
    have p1_0 := fun o => (bcell hb1).2 (w.heap.size) o (by (try simp) <;> (try omega))
    (try have y1_1 : w.heap.size + 1 < w1.heap.size := (by omega))
    have q1_1 := fun o => (bcell hb1).1 (w.heap.size + 1) o (by (try simp) <;> (try omega))
    have p1_1 := fun o => (bcell hb1).2 (w.heap.size + 1) o (by (try simp) <;> (try omega))
    (try have y1_2 : w.heap.size + 1 + 1 < w1.heap.size := (by omega))
    have q1_2 := fun o => (bcell hb1).1 (w.heap.size + 1 + 1) o (by (try simp) <;> (try omega))
    have p1_2 := fun o => (bcell hb1).2 (w.heap.size + 1 + 1) o (by (try simp) <;> (try omega))
    go_wp2_with fail
    refine (i_TableOk _ _ _).mono ?_
    rintro e w2 ⟨rfl, hb2⟩
    have z2 := hb2.size
    try simp at z2
    (try have y2_0 : w.heap.size < w2.heap.size := (by omega))
    have q2_0 := fun o => (bcell hb2).1 (w.heap.size) o (by (try simp) <;> (try omega))
    have p2_0 := fun o => (bcell hb2).2 (w.heap.size) o (by (try simp) <;> (try omega))
    (try have y2_1 : w.heap.size + 1 < w2.heap.size := (by omega))
    have q2_1 := fun o => (bcell hb2).1 (w.heap.size + 1) o (by (try simp) <;> (try omega))
    have p2_1 := fun o => (bcell hb2).2 (w.heap.size + 1) o (by (try simp) <;> (try omega))
    (try have y2_2 : w.heap.size + 1 + 1 < w2.heap.size := (by omega))
    have q2_2 := fun o => (bcell hb2).1 (w.heap.size + 1 + 1) o (by (try simp) <;> (try omega))
    have p2_2 := fun o => (bcell hb2).2 (w.heap.size + 1 + 1) o (by (try simp) <;> (try omega))
    go_wp2_with fail
    exact bodyPost_ret (v := .agg #[.int .i64 0, .int .i64 0]) (by simp [results, Try.results22, go_sem, q2_2, q1_2]) rfl ⟨by rw [He.out], bel_⟩
  ·have hk2 : tOk m d = false := by simpa using hk2
   have He := Lib.hid (show tXor n b m d = (0, 0) by simp [tXor, hk2])
   go_enter Try.func22, Try.ntmps22
   go_wp2_with fail
   refine (i_TableOk _ _ _).mono ?_
   rintro e w1 ⟨rfl, hb1⟩
   have z1 := hb1.size
   try simp at z1
   (try have y1_0 : w.heap.size < w1.heap.size := (by omega))
   have q1_0 := fun o => (bcell hb1).1 (w.heap.size) o (by (try simp) <;> (try omega))
   have p1_0 := fun o => (bcell hb1).2 (w.heap.size) o (by (try simp) <;> (try omega))
   (try have y1_1 : w.heap.size + 1 < w1.heap.size := (by omega))
   have q1_1 := fun o => (bcell hb1).1 (w.heap.size + 1) o (by (try simp) <;> (try omega))
   have p1_1 := fun o => (bcell hb1).2 (w.heap.size + 1) o (by (try simp) <;> (try omega))
   (try have y1_2 : w.heap.size + 1 + 1 < w1.heap.size := (by omega))
   have q1_2 := fun o => (bcell hb1).1 (w.heap.size + 1 + 1) o (by (try simp) <;> (try omega))
   have p1_2 := fun o => (bcell hb1).2 (w.heap.size + 1 + 1) o (by (try simp) <;> (try omega))
   go_wp2_with fail
   refine (i_TableOk _ _ _).mono ?_
   rintro e w2 ⟨rfl, hb2⟩
   have z2 := hb2.size
   try simp at z2
   (try have y2_0 : w.heap.size < w2.heap.size := (by omega))
   have q2_0 := fun o => (bcell hb2).1 (w.heap.size) o (by (try simp) <;> (try omega))
   have p2_0 := fun o => (bcell hb2).2 (w.heap.size) o (by (try simp) <;> (try omega))
   (try have y2_1 : w.heap.size + 1 < w2.heap.size := (by omega))
   have q2_1 := fun o => (bcell hb2).1 (w.heap.size + 1) o (by (try simp) <;> (try omega))
   have p2_1 := fun o => (bcell hb2).2 (w.heap.size + 1) o (by (try simp) <;> (try omega))
   (try have y2_2 : w.heap.size + 1 + 1 < w2.heap.size := (by omega))
   have q2_2 := fun o => (bcell hb2).1 (w.heap.size + 1 + 1) o (by (try simp) <;> (try omega))
   have p2_2 := fun o => (bcell hb2).2 (w.heap.size + 1 + 1) o (by (try simp) <;> (try omega))
   go_wp2_with fail
   exact bodyPost_ret (v := .agg #[.int .i64 0, .int .i64 0]) (by simp [results, Try.results22, go_sem, q2_2, q1_2]) rfl ⟨by rw [He.out], bel_⟩
 ·have hk : tOk n b = false := by simpa using hk
  have He := Lib.hid (show tXor n b m d = (0, 0) by simp [tXor, hk])
  go_enter Try.func22, Try.ntmps22
  go_wp2_with fail
  refine (i_TableOk _ _ _).mono ?_
  rintro e w1 ⟨rfl, hb1⟩
  have z1 := hb1.size
  try simp at z1
  (try have y1_0 : w.heap.size < w1.heap.size := (by omega))
  have q1_0 := fun o => (bcell hb1).1 (w.heap.size) o (by (try simp) <;> (try omega))
  have p1_0 := fun o => (bcell hb1).2 (w.heap.size) o (by (try simp) <;> (try omega))
  (try have y1_1 : w.heap.size + 1 < w1.heap.size := (by omega))
  have q1_1 := fun o => (bcell hb1).1 (w.heap.size + 1) o (by (try simp) <;> (try omega))
  have p1_1 := fun o => (bcell hb1).2 (w.heap.size + 1) o (by (try simp) <;> (try omega))
  (try have y1_2 : w.heap.size + 1 + 1 < w1.heap.size := (by omega))
  have q1_2 := fun o => (bcell hb1).1 (w.heap.size + 1 + 1) o (by (try simp) <;> (try omega))
  have p1_2 := fun o => (bcell hb1).2 (w.heap.size + 1 + 1) o (by (try simp) <;> (try omega))
  go_wp2_with fail
  exact bodyPost_ret (v := .agg #[.int .i64 0, .int .i64 0]) (by simp [results, Try.results22, go_sem, q1_2]) rfl ⟨by rw [He.out], bel_⟩

set_option maxHeartbeats 4000000 in
theorem s_TableXor (n b m d : Int) (w : World) :
  Calls Try.prog 76 #[.agg #[.int .i64 n, .int .i64 b], .agg #[.int .i64 m, .int .i64 d]] w fun e w' =>
   e = .returned (.agg #[.int .i64 (tXor n b m d).1, .int .i64 (tXor n b m d).2]) ∧ Below w.heap.size w w' := by
 by_cases hk : tOk n b = true
 ·by_cases hk2 : tOk m d = true
  ·by_cases hnm : n = m
   ·subst hnm
    obtain ⟨b', rfl, hb1, hb2, hn⟩ := tOk_nat hk
    obtain ⟨d', rfl, hd1, hd2, _⟩ := tOk_nat hk2
    have hbit := i64_xor_nat b' d' (by omega) (by omega)
    have He := Lib.hid (show tXor n b' n d' = (n, ((b' ^^^ d' : Nat) : Int)) by simp [tXor, hk, hk2])
    clear hn hb1 hd1
    go_enter Try.func76, Try.ntmps76
    go_wp2_with fail
    refine (s_TableOk _ _ _).mono ?_
    rintro e w1 ⟨rfl, hb1⟩
    have z1 := hb1.size
    try simp at z1
    (try have y1_0 : w.heap.size < w1.heap.size := (by omega))
    have q1_0 := fun o => (bcell hb1).1 (w.heap.size) o (by (try simp) <;> (try omega))
    have p1_0 := fun o => (bcell hb1).2 (w.heap.size) o (by (try simp) <;> (try omega))
    (try have y1_1 : w.heap.size + 1 < w1.heap.size := (by omega))
    have q1_1 := fun o => (bcell hb1).1 (w.heap.size + 1) o (by (try simp) <;> (try omega))
    have p1_1 := fun o => (bcell hb1).2 (w.heap.size + 1) o (by (try simp) <;> (try omega))
    (try have y1_2 : w.heap.size + 1 + 1 < w1.heap.size := (by omega))
    have q1_2 := fun o => (bcell hb1).1 (w.heap.size + 1 + 1) o (by (try simp) <;> (try omega))
    have p1_2 := fun o => (bcell hb1).2 (w.heap.size + 1 + 1) o (by (try simp) <;> (try omega))
    go_wp2_with fail
    refine (s_TableOk _ _ _).mono ?_
    rintro e w2 ⟨rfl, hb2⟩
    have z2 := hb2.size
    try simp at z2
    (try have y2_0 : w.heap.size < w2.heap.size := (by omega))
    have q2_0 := fun o => (bcell hb2).1 (w.heap.size) o (by (try simp) <;> (try omega))
    have p2_0 := fun o => (bcell hb2).2 (w.heap.size) o (by (try simp) <;> (try omega))
    (try have y2_1 : w.heap.size + 1 < w2.heap.size := (by omega))
    have q2_1 := fun o => (bcell hb2).1 (w.heap.size + 1) o (by (try simp) <;> (try omega))
    have p2_1 := fun o => (bcell hb2).2 (w.heap.size + 1) o (by (try simp) <;> (try omega))
    (try have y2_2 : w.heap.size + 1 + 1 < w2.heap.size := (by omega))
    have q2_2 := fun o => (bcell hb2).1 (w.heap.size + 1 + 1) o (by (try simp) <;> (try omega))
    have p2_2 := fun o => (bcell hb2).2 (w.heap.size + 1 + 1) o (by (try simp) <;> (try omega))
    go_wp2_with fail
    exact bodyPost_ret (v := .agg #[.int .i64 n, .int .i64 ((b' ^^^ d' : Nat) : Int)]) (by simp [results, Try.results76, go_sem, q2_2, q1_2]) rfl ⟨by rw [He.out], bel_⟩
   ·have He := Lib.hid (show tXor n b m d = (0, 0) by simp [tXor, hnm])
    have hne : (n == m) = false := by simpa using hnm
    have hne2 : (n != m) = true := by simpa using hnm
    go_enter Try.func76, Try.ntmps76
    go_wp2_with fail
    refine (s_TableOk _ _ _).mono ?_
    rintro e w1 ⟨rfl, hb1⟩
    have z1 := hb1.size
    try simp at z1
    (try have y1_0 : w.heap.size < w1.heap.size := (by omega))
    have q1_0 := fun o => (bcell hb1).1 (w.heap.size) o (by (try simp) <;> (try omega))
    have p1_0 := fun o => (bcell hb1).2 (w.heap.size) o (by (try simp) <;> (try omega))
    (try have y1_1 : w.heap.size + 1 < w1.heap.size := (by omega))
    have q1_1 := fun o => (bcell hb1).1 (w.heap.size + 1) o (by (try simp) <;> (try omega))
    have p1_1 := fun o => (bcell hb1).2 (w.heap.size + 1) o (by (try simp) <;> (try omega))
    (try have y1_2 : w.heap.size + 1 + 1 < w1.heap.size := (by omega))
    have q1_2 := fun o => (bcell hb1).1 (w.heap.size + 1 + 1) o (by (try simp) <;> (try omega))
    have p1_2 := fun o => (bcell hb1).2 (w.heap.size + 1 + 1) o (by (try simp) <;> (try omega))
    go_wp2_with fail
    refine (s_TableOk _ _ _).mono ?_
    rintro e w2 ⟨rfl, hb2⟩
    have z2 := hb2.size
    try simp at z2
    (try have y2_0 : w.heap.size < w2.heap.size := (by omega))
    have q2_0 := fun o => (bcell hb2).1 (w.heap.size) o (by (try simp) <;> (try omega))
    have p2_0 := fun o => (bcell hb2).2 (w.heap.size) o (by (try simp) <;> (try omega))
    (try have y2_1 : w.heap.size + 1 < w2.heap.size := (by omega))
    have q2_1 := fun o => (bcell hb2).1 (w.heap.size + 1) o (by (try simp) <;> (try omega))
    have p2_1 := fun o => (bcell hb2).2 (w.heap.size + 1) o (by (try simp) <;> (try omega))
    (try have y2_2 : w.heap.size + 1 + 1 < w2.heap.size := (by omega))
    have q2_2 := fun o => (bcell hb2).1 (w.heap.size + 1 + 1) o (by (try simp) <;> (try omega))
    have p2_2 := fun o => (bcell hb2).2 (w.heap.size + 1 + 1) o (by (try simp) <;> (try omega))
    go_wp2_with fail
    exact bodyPost_ret (v := .agg #[.int .i64 0, .int .i64 0]) (by simp [results, Try.results76, go_sem, q2_2, q1_2]) rfl ⟨by rw [He.out], bel_⟩
  ·have hk2 : tOk m d = false := by simpa using hk2
   have He := Lib.hid (show tXor n b m d = (0, 0) by simp [tXor, hk2])
   go_enter Try.func76, Try.ntmps76
   go_wp2_with fail
   refine (s_TableOk _ _ _).mono ?_
   rintro e w1 ⟨rfl, hb1⟩
   have z1 := hb1.size
   try simp at z1
   (try have y1_0 : w.heap.size < w1.heap.size := (by omega))
   have q1_0 := fun o => (bcell hb1).1 (w.heap.size) o (by (try simp) <;> (try omega))
   have p1_0 := fun o => (bcell hb1).2 (w.heap.size) o (by (try simp) <;> (try omega))
   (try have y1_1 : w.heap.size + 1 < w1.heap.size := (by omega))
   have q1_1 := fun o => (bcell hb1).1 (w.heap.size + 1) o (by (try simp) <;> (try omega))
   have p1_1 := fun o => (bcell hb1).2 (w.heap.size + 1) o (by (try simp) <;> (try omega))
   (try have y1_2 : w.heap.size + 1 + 1 < w1.heap.size := (by omega))
   have q1_2 := fun o => (bcell hb1).1 (w.heap.size + 1 + 1) o (by (try simp) <;> (try omega))
   have p1_2 := fun o => (bcell hb1).2 (w.heap.size + 1 + 1) o (by (try simp) <;> (try omega))
   go_wp2_with fail
   refine (s_TableOk _ _ _).mono ?_
   rintro e w2 ⟨rfl, hb2⟩
   have z2 := hb2.size
   try simp at z2
   (try have y2_0 : w.heap.size < w2.heap.size := (by omega))
   have q2_0 := fun o => (bcell hb2).1 (w.heap.size) o (by (try simp) <;> (try omega))
   have p2_0 := fun o => (bcell hb2).2 (w.heap.size) o (by (try simp) <;> (try omega))
   (try have y2_1 : w.heap.size + 1 < w2.heap.size := (by omega))
   have q2_1 := fun o => (bcell hb2).1 (w.heap.size + 1) o (by (try simp) <;> (try omega))
   have p2_1 := fun o => (bcell hb2).2 (w.heap.size + 1) o (by (try simp) <;> (try omega))
   (try have y2_2 : w.heap.size + 1 + 1 < w2.heap.size := (by omega))
   have q2_2 := fun o => (bcell hb2).1 (w.heap.size + 1 + 1) o (by (try simp) <;> (try omega))
   have p2_2 := fun o => (bcell hb2).2 (w.heap.size + 1 + 1) o (by (try simp) <;> (try omega))
   go_wp2_with fail
   exact bodyPost_ret (v := .agg #[.int .i64 0, .int .i64 0]) (by simp [results, Try.results76, go_sem, q2_2, q1_2]) rfl ⟨by rw [He.out], bel_⟩
 ·have hk : tOk n b = false := by simpa using hk
  have He := Lib.hid (show tXor n b m d = (0, 0) by simp [tXor, hk])
  go_enter Try.func76, Try.ntmps76
  go_wp2_with fail
  refine (s_TableOk _ _ _).mono ?_
  rintro e w1 ⟨rfl, hb1⟩
  have z1 := hb1.size
  try simp at z1
  (try have y1_0 : w.heap.size < w1.heap.size := (by omega))
  have q1_0 := fun o => (bcell hb1).1 (w.heap.size) o (by (try simp) <;> (try omega))
  have p1_0 := fun o => (bcell hb1).2 (w.heap.size) o (by (try simp) <;> (try omega))
  (try have y1_1 : w.heap.size + 1 < w1.heap.size := (by omega))
  have q1_1 := fun o => (bcell hb1).1 (w.heap.size + 1) o (by (try simp) <;> (try omega))
  have p1_1 := fun o => (bcell hb1).2 (w.heap.size + 1) o (by (try simp) <;> (try omega))
  (try have y1_2 : w.heap.size + 1 + 1 < w1.heap.size := (by omega))
  have q1_2 := fun o => (bcell hb1).1 (w.heap.size + 1 + 1) o (by (try simp) <;> (try omega))
  have p1_2 := fun o => (bcell hb1).2 (w.heap.size + 1 + 1) o (by (try simp) <;> (try omega))
  go_wp2_with fail
  exact bodyPost_ret (v := .agg #[.int .i64 0, .int .i64 0]) (by simp [results, Try.results76, go_sem, q1_2]) rfl ⟨by rw [He.out], bel_⟩

theorem l_eqTable (n b m d : Int) (w : World) :
  Calls Try.prog 37 #[.agg #[.int .i64 n, .int .i64 b], .agg #[.int .i64 m, .int .i64 d]] w fun e w' =>
   e = .returned (.bool (decide (n = m) && decide (b = d))) ∧ Below w.heap.size w w' := by
 by_cases h : n = m
 ·by_cases h2 : b = d
  ·subst h h2
   go_enter Try.func37, Try.ntmps37
   go_wp2
   go_ret
   exact ⟨ret_bool (by simp), bel_⟩
  ·subst h
   have hne : (b != d) = true := by simpa using h2
   go_enter Try.func37, Try.ntmps37
   go_wp2
   go_ret
   exact ⟨ret_bool (by simp [h2]), bel_⟩
 ·have hne : (n != m) = true := by simpa using h
  go_enter Try.func37, Try.ntmps37
  go_wp2
  go_ret
  exact ⟨ret_bool (by simp [h]), bel_⟩
end Go.Proofs.Ytbkgjgpoohlieaa

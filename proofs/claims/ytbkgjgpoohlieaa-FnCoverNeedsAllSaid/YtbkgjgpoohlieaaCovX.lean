/- Contracts: a cover's table and its literals: the program's and the reference's functions. -/
import Derived.Test.YtbkgjgpoohlieaaCovW
import Derived.Test.YtbkgjgpoohlieaaTabD
import Derived.Test.YtbkgjgpoohlieaaLex
import Derived.Outline
namespace Go.Proofs.Ytbkgjgpoohlieaa
open Go.RowKit
attribute [local go_sem] i64_and1

/-- numbers of a cube in range -/
def natB (l : List (Int × Int)) : Prop := ∀ x ∈ l, 0 ≤ x.1 ∧ x.1 ≤ 65535 ∧ 0 ≤ x.2 ∧ x.2 ≤ 65535
theorem cv_el {n : Int} {l : List (Int × Int)} (h : cvOk n l = true) : ∀ x ∈ l, cOk n x.1 x.2 = true := by
 simp only [cvOk, Bool.and_eq_true] at h
 exact fun x hx => List.all_eq_true.1 h.2.2 x hx
theorem cOk_bd {n c v : Int} (h : cOk n c v = true) : 0 ≤ c ∧ c.toNat < 2 ^ n.toNat ∧ 0 ≤ v ∧ v.toNat < 2 ^ n.toNat ∧ inR n 0 4 = true ∧ Tb.andn v.toNat c.toNat = 0 := by
 simp only [cOk, Bool.and_eq_true, decide_eq_true_eq] at h
 obtain ⟨⟨⟨h1, h2⟩, h3⟩, h4⟩ := h
 have h2 := inR_iff.1 h2
 have h3 := inR_iff.1 h3
 have hp := pow_nat n
 simp only [top] at h2 h3
 exact ⟨h2.1, by omega, h3.1, by omega, h1, h4⟩
theorem cv_n {n : Int} {l : List (Int × Int)} (h : cvOk n l = true) : inR n 0 4 = true := by
 simp only [cvOk, Bool.and_eq_true] at h
 exact h.1
theorem two16 {n : Int} (h : inR n 0 4 = true) : 2 ^ n.toNat ≤ 16 := by
 have := (pow_bd h).2
 have := pow_nat n
 omega
theorem cv_natB {n : Int} {l : List (Int × Int)} (h : cvOk n l = true) : natB l := fun x hx => by
 have h1 := cOk_bd (cv_el h x hx)
 have h2 := two16 (cv_n h)
 exact ⟨h1.1, by omega, h1.2.2.1, by omega⟩

/-! ### literals -/
theorem pop0 (f : Nat) : Tb.pop f 0 = 0 := by cases f <;> simp [Tb.pop]
set_option maxHeartbeats 1000000 in
theorem i_bitCount (c : Nat) (hc : c < 16) (w : World) : Calls Try.prog 63 #[.int .i64 c] w fun e w' => e = .returned (.int .i64 (Tb.popS c 4 : Nat)) ∧ w = w' := by
 have hp := Tb.popS_le c 4
 have he := Tb.pop_eq 4 c (by omega)
 rw [← he] at hp ⊢
 obtain ⟨P, hP⟩ : ∃ P, P = Tb.pop 4 c := ⟨_, rfl⟩
 rw [← hP] at hp ⊢
 have HP := Lib.hid (show 0 + Tb.pop 4 c = P by omega)
 clear he hP
 go_enter Try.func63, Try.ntmps63
 go_wp2
 go_loop [0, 3] (fun cv o => ∃ (f x y : Nat), x < 2 ^ f ∧ x < 16 ∧ cv = .int .i64 x ∧ o = .int .i64 y ∧ y + Tb.pop f x = P) (fun cv _ => (intOf cv).toNat)
 case atStart => exact ⟨4, c, 0, by omega, hc, rfl, rfl, HP.out⟩
 case round =>
  obtain ⟨f, x, y, hf, hx16, rfl, rfl, hs⟩ := hrel
  have hy : y ≤ 4 := by omega
  by_cases hx : 0 < x
  ·obtain ⟨f', rfl⟩ : ∃ f', f = f' + 1 := ⟨f - 1, by cases f; simp at hf; omega; omega⟩
   have hs2 := hs
   rw [Tb.pop, if_neg (by omega)] at hs2
   have Hs := Lib.hid hs2
   have hf2 : x / 2 < 2 ^ f' := by rw [Nat.pow_succ] at hf; omega
   have Hf := Lib.hid hf2
   clear hs hs2 hf hf2
   go_wp2_with fail
   go_round
   case rel => exact ⟨f', x / 2, y + x % 2, Hf.out, by omega, by go_num, by go_num, by have := Hs.out; omega⟩
   case measure => simp [intOf]; omega
  ·obtain rfl : x = 0 := by omega
   rw [pop0] at hs
   have Hs := Lib.hid hs
   clear hs hf
   go_wp2_with fail
   go_ret
   exact ⟨ret_int (by have := Hs.out; omega), rfl⟩

def cLit (n : Int) (l : List (Int × Int)) : Int := if cvOk n l then ((Tb.lits n.toNat (l.map natC) : Nat) : Int) else -1
theorem lits_succ {n k : Nat} {l : List (Int × Int)} {x : Int × Int} (h : l[k]? = some x) : Tb.lits n ((l.take (k + 1)).map natC) = Tb.lits n ((l.take k).map natC) + Tb.popS x.1.toNat n := by
 rw [List.take_add_one, h]
 simp [Tb.lits, natC]
theorem lits_bd {n : Nat} (hn : n ≤ 4) : ∀ l : List Tb.Cb, Tb.lits n l ≤ 4 * l.length
 | [] => by simp [Tb.lits]
 | x :: l => by
  have ih := lits_bd hn l
  have := Tb.popS_le x.1 n
  unfold Tb.lits at ih ⊢
  simp only [List.map_cons, List.sum_cons, List.length_cons]
  omega
theorem popS_more {c : Nat} (n : Nat) : ∀ j, c < 2 ^ n → Tb.popS c (n + j) = Tb.popS c n
 | 0, _ => rfl
 | j + 1, h => by
  rw [← Nat.add_assoc, Tb.popS, popS_more n j h, Nat.div_eq_of_lt (Nat.lt_of_lt_of_le h (Nat.pow_le_pow_right (by omega) (by omega)))]
  rfl
theorem popS4 {c : Nat} {n : Int} (h : inR n 0 4 = true) (hc : c < 2 ^ n.toNat) : Tb.popS c 4 = Tb.popS c n.toNat := by
 have := inR_iff.1 h
 rw [show 4 = n.toNat + (4 - n.toNat) by omega, popS_more _ _ hc]

set_option maxRecDepth 100000 in
set_option maxHeartbeats 4000000 in
theorem i_CoverLiterals {w : World} {B : Nat} {A : Option Addr} {n c : Nat} {l : List (Int × Int)} (m : Int) (h : Reads w B 2 A n (cbs l)) (hB : B ≤ w.heap.size) (hn : n ≤ 1099511627776) :
  Calls Try.prog 33 #[.int .i64 m, .slice A n c] w fun e w' => e = .returned (.int .i64 (cLit m l)) ∧ Below w.heap.size w w' := by
 have hl := h.clen
 have Hl := Lib.hid hl
 by_cases hk : cvOk m l = true
 ·have Hk := Lib.hid hk
  have He := Lib.hid (show cLit m l = ((Tb.lits m.toNat (l.map natC) : Nat) : Int) by rw [cLit, if_pos hk])
  have h81 : n ≤ 81 := by
   have := hk
   simp only [cvOk, Bool.and_eq_true, decide_eq_true_eq] at this
   omega
  have hm4 : m.toNat ≤ 4 := by have := inR_iff.1 (cv_n hk); omega
  have Hbd := Lib.hid (fun k => lits_bd hm4 ((l.take k).map natC))
  clear hk hl
  go_enter Try.func33, Try.ntmps33
  go_wp2_with fail
  refine (i_coverOk m h hB hn).mono ?_
  rintro e w1 ⟨rfl, hb1⟩
  rw [Hk.out]
  go_wp2_with fail
  go_loopw [5, 14] (fun o i wr => ∃ k : Nat, k ≤ n ∧ i = .int .i64 k ∧ o = .int .i64 (Tb.lits m.toNat ((l.take k).map natC) : Nat) ∧ Below w.heap.size w wr) (fun _ i _ => n - (intOf i).toNat)
  case atStart => exact ⟨0, Nat.zero_le _, rfl, rfl, hb1⟩
  case round =>
   obtain ⟨k, hk, rfl, rfl, hb⟩ := hrel
   have Hb := Lib.hid hb
   have hsz := hb.size
   have hlb : Tb.lits m.toNat ((l.take k).map natC) ≤ 324 := by
    have := Hbd.out k
    rw [List.length_map] at this
    have h2 := List.length_take_le k l
    omega
   clear hb
   by_cases hlt : k < n
   ·obtain ⟨ad, x, y, rfl, hab, hx, hc0, hc1⟩ := h.cube_at hlt
    have hxx := cOk_bd (cv_el Hk.out _ (List.mem_of_getElem? hx))
    obtain ⟨x', rfl⟩ := Int.eq_ofNat_of_zero_le hxx.1
    have hx16 : x' < 2 ^ m.toNat := hxx.2.1
    have h16 := two16 hxx.2.2.2.2.1
    have Hp := Lib.hid (popS4 hxx.2.2.2.2.1 hx16)
    have Hs := Lib.hid (lits_succ (n := m.toNat) hx)
    have e0 := (Hb.out.cell (p := ad.add (k * 2)) (by rw [block_of_add]; omega)).trans hc0
    have e1 := (Hb.out.cell (p := nxt (ad.add (k * 2)) 1) (by rw [nxt_block]; omega)).trans hc1
    have g1 : (0 : Int) ≤ (k : Int) := by omega
    have g2 : (k : Int) < (n : Int) := by omega
    have hx15 : x' < 16 := by omega
    have hpb := Tb.popS_le x' 4
    obtain ⟨S, hS⟩ : ∃ S, S = Tb.lits m.toNat ((l.take k).map natC) := ⟨_, rfl⟩
    rw [← hS] at hlb Hs ⊢
    clear hc0 hc1 hx hxx hx16 h16 hS
    go_wp2_with fail
    refine (i_bitCount x' hx15 _).mono ?_
    rintro e w' ⟨rfl, rfl⟩
    have Hb2 := Lib.hid (Hb.out.alloc hsz (.cells #[.int .i64 x', .int .i64 y] 61))
    go_wp2_with fail
    go_roundw
    case rel => exact ⟨k + 1, by omega, by go_num, by rw [Hs.out, Int.toNat_natCast, ← Hp.out]; go_num, Hb2.out⟩
    case measure => simp [intOf]; omega
   ·obtain rfl : k = n := by omega
    go_wp2_with fail
    go_ret
    refine ⟨?_, Hb.out⟩
    rw [He.out, List.take_of_length_le (by rw [Hl.out]; exact Nat.le_refl _)]
    rfl
 ·have hk : cvOk m l = false := by simpa using hk
  have Hk := Lib.hid hk
  have He := Lib.hid (show cLit m l = -1 by rw [cLit, hk]; rfl)
  clear hk hl
  go_enter Try.func33, Try.ntmps33
  go_wp2_with fail
  refine (i_coverOk m h hB hn).mono ?_
  rintro e w1 ⟨rfl, hb1⟩
  rw [Hk.out]
  go_wp2_with fail
  go_ret
  exact ⟨ret_int He.out.symm, hb1⟩

set_option maxRecDepth 100000 in
set_option maxHeartbeats 4000000 in
theorem s_CoverLiterals {w : World} {B : Nat} {A : Option Addr} {n c : Nat} {l : List (Int × Int)} (m : Int) (h : Reads w B 2 A n (cbs l)) (hB : B ≤ w.heap.size) (hn : n ≤ 1099511627776) :
  Calls Try.prog 31 #[.int .i64 m, .slice A n c] w fun e w' => e = .returned (.int .i64 (cLit m l)) ∧ Below w.heap.size w w' := by
 have hl := h.clen
 have Hl := Lib.hid hl
 by_cases hk : cvOk m l = true
 ·have Hk := Lib.hid hk
  have He := Lib.hid (show cLit m l = ((Tb.lits m.toNat (l.map natC) : Nat) : Int) by rw [cLit, if_pos hk])
  have h81 : n ≤ 81 := by
   have := hk
   simp only [cvOk, Bool.and_eq_true, decide_eq_true_eq] at this
   omega
  have hmr := inR_iff.1 (cv_n hk)
  obtain ⟨m', rfl⟩ := Int.eq_ofNat_of_zero_le hmr.1
  have hm4 : m' ≤ 4 := by omega
  have Hbd := Lib.hid (fun k => lits_bd hm4 ((l.take k).map natC))
  rw [Int.toNat_natCast] at He
  clear hk hl hmr
  go_enter Try.func31, Try.ntmps31
  go_wp2_with fail
  refine (s_l03Ok _ h hB hn).mono ?_
  rintro e w1 ⟨rfl, hb1⟩
  rw [Hk.out]
  have Hb1 := Lib.hid hb1
  have R1 := Lib.hid (h.below (hb1.mono hB))
  clear hb1
  go_wp2_with fail
  go_loopw [5, 6, 7] (fun o i _ wr => ∃ k : Nat, k ≤ n ∧ i = .int .i64 k ∧ o = .int .i64 (Tb.lits m' ((l.take k).map natC) : Nat) ∧ wr = w1) (fun _ i _ _ => n - (intOf i).toNat)
  case atStart => exact ⟨0, Nat.zero_le _, rfl, rfl, rfl⟩
  case round =>
   obtain ⟨k, hk, rfl, rfl, rfl⟩ := hrel
   have hlb : Tb.lits m' ((l.take k).map natC) ≤ 324 := by
    have := Hbd.out k
    rw [List.length_map] at this
    have h2 := List.length_take_le k l
    omega
   by_cases hlt : k < n
   ·obtain ⟨ad, x, y, rfl, hab, hx, hc0, hc1⟩ := R1.out.cube_at hlt
    have hxx := cOk_bd (cv_el Hk.out _ (List.mem_of_getElem? hx))
    obtain ⟨x', rfl⟩ := Int.eq_ofNat_of_zero_le hxx.1
    have Hs := Lib.hid (lits_succ (n := m') hx)
    have g1 : (0 : Int) ≤ (k : Int) := by omega
    have g2 : (k : Int) < (n : Int) := by omega
    obtain ⟨S, hS⟩ : ∃ S, S = Tb.lits m' ((l.take k).map natC) := ⟨_, rfl⟩
    rw [← hS] at hlb Hs ⊢
    clear hx hxx hS
    go_wp2_with fail
    go_loop [5, 7] (fun o j => ∃ q : Nat, q ≤ m' ∧ j = .int .i64 q ∧ o = .int .i64 ((S + Tb.popS x' q : Nat) : Int)) (fun _ j => m' - (intOf j).toNat)
    case atStart => exact ⟨0, by omega, rfl, rfl⟩
    case round =>
     obtain ⟨q, hq, rfl, rfl⟩ := hrel
     have hpb := Tb.popS_le x' q
     by_cases hqm : q < m'
     ·have mq : min q 64 = q := by omega
      have hpw : (x' : Int) / 2 ^ q % 2 = ((x' / 2 ^ q % 2 : Nat) : Int) := by
       rw [Int.natCast_emod, Int.natCast_ediv, Int.natCast_pow]; rfl
      have Hst := Lib.hid (show S + Tb.popS x' (q + 1) = S + Tb.popS x' q + x' / 2 ^ q % 2 by rw [Tb.popS]; omega)
      have hlt2 : x' / 2 ^ q % 2 < 2 := Nat.mod_lt _ (by omega)
      generalize x' / 2 ^ q % 2 = z at hpw Hst hlt2
      go_wp2_with fail
      go_round
      case rel => exact ⟨q + 1, by omega, by go_num, by rw [Hst.out]; go_num⟩
      case measure => simp [intOf]; omega
     ·obtain rfl : q = m' := by omega
      go_wp2_with fail
      go_roundw
      case rel => exact ⟨k + 1, by omega, by go_num, by rw [Hs.out]; rfl, by first | exact rfl | exact trivial⟩
      case measure => simp [intOf]; omega
   ·obtain rfl : k = n := by omega
    go_wp2_with fail
    go_ret
    refine ⟨?_, Hb1.out⟩
    rw [He.out, List.take_of_length_le (by rw [Hl.out]; exact Nat.le_refl _)]
    rfl
 ·have hk : cvOk m l = false := by simpa using hk
  have Hk := Lib.hid hk
  have He := Lib.hid (show cLit m l = -1 by rw [cLit, hk]; rfl)
  clear hk hl
  go_enter Try.func31, Try.ntmps31
  go_wp2_with fail
  refine (s_l03Ok _ h hB hn).mono ?_
  rintro e w1 ⟨rfl, hb1⟩
  rw [Hk.out]
  go_wp2_with fail
  go_ret
  exact ⟨ret_int He.out.symm, hb1⟩
end Go.Proofs.Ytbkgjgpoohlieaa

/- Contracts: a cover's table: the program's and the reference's functions. -/
import Derived.Test.YtbkgjgpoohlieaaCovX
import Derived.Test.YtbkgjgpoohlieaaTabOf
import Derived.Outline
namespace Go.Proofs.Ytbkgjgpoohlieaa
open Go.RowKit
attribute [local go_sem] i64_and1

theorem cf_Cov (args : Array Value) (w : World) : (callFunc 66 args).run Try.prog w = .ok (.enter 66 args) w := by kernel_rfl

/-- is the index in one of the cubes? -/
def anyHit (l : List (Int × Int)) (i : Nat) : Bool := l.any fun x => Tb.hit (natC x) i
theorem anyHit_map (l : List (Int × Int)) (i : Nat) : ((l.map natC).any fun x => Tb.hit x i) = anyHit l i := by simp [anyHit, List.any_map, Function.comp_def]
theorem anyHit_succ {l : List (Int × Int)} {i k : Nat} {x : Int × Int} (h : l[k]? = some x) : anyHit (l.take (k + 1)) i = (anyHit (l.take k) i || Tb.hit (natC x) i) := by
 rw [List.take_add_one, h]; simp [anyHit]
theorem anyHit_yes {l : List (Int × Int)} {i k : Nat} {x : Int × Int} (h : l[k]? = some x) (hh : Tb.hit (natC x) i = true) : anyHit l i = true := by
 rw [anyHit, List.any_eq_true]
 exact ⟨x, List.mem_of_getElem? h, hh⟩
theorem hit_nat (x y i : Nat) : Tb.hit (natC ((x : Int), (y : Int))) i = decide (i &&& x = y) := by
 simp [Tb.hit, natC]
 rw [Bool.eq_iff_iff]
 simp

set_option maxRecDepth 100000 in
set_option maxHeartbeats 4000000 in
theorem i_Cov1 {w : World} {B : Nat} {A : Option Addr} {n c g : Nat} {l : List (Int × Int)} (i : Nat) (hi : i ≤ 65535) (hg : w.cell? ⟨g, 0, none⟩ = some (.slice A n c)) (h : Reads w B 2 A n (cbs l)) (hB : B ≤ w.heap.size) (hn : n ≤ 1099511627776) (hb : natB l) :
  Calls Try.prog 66 #[.int .i64 i, .pointer (some ⟨g, 0, none⟩)] w fun e w' => e = .returned (.bool (anyHit l i)) ∧ Below w.heap.size w w' := by
 have hl := h.clen
 have Hl := Lib.hid hl
 have HB := Lib.hid hb
 clear hl hb
 go_enter Try.func66, Try.ntmps66
 go_wp2_with fail
 go_loopw [8] (fun j wr => ∃ k : Nat, k ≤ n ∧ j = .int .i64 k ∧ anyHit (l.take k) i = false ∧ Below w.heap.size w wr) (fun j _ => n - (intOf j).toNat)
 case atStart => exact ⟨0, Nat.zero_le _, rfl, rfl, Below.refl _ _⟩
 case round =>
  obtain ⟨k, hk, rfl, hno, hb⟩ := hrel
  have Hno := Lib.hid hno
  have Hb := Lib.hid hb
  have hsz := hb.size
  clear hno hb
  by_cases hlt : k < n
  ·obtain ⟨ad, x, y, rfl, hab, hx, hc0, hc1⟩ := h.cube_at hlt
   have hbd := HB.out _ (List.mem_of_getElem? hx)
   simp only at hbd
   obtain ⟨x', rfl⟩ := Int.eq_ofNat_of_zero_le hbd.1
   obtain ⟨y', rfl⟩ := Int.eq_ofNat_of_zero_le hbd.2.2.1
   have e0 := (Hb.out.cell (p := ad.add (k * 2)) (by rw [block_of_add]; omega)).trans hc0
   have e1 := (Hb.out.cell (p := nxt (ad.add (k * 2)) 1) (by rw [nxt_block]; omega)).trans hc1
   have hbit := i64_and_nat i x' (by omega) (by omega)
   have Hh := Lib.hid (hit_nat x' y' i)
   have Hx := Lib.hid hx
   have Hb2 := Lib.hid (Hb.out.alloc hsz (.cells #[.int .i64 x', .int .i64 y'] 61))
   have g1 : (0 : Int) ≤ (k : Int) := by omega
   have g2 : (k : Int) < (n : Int) := by omega
   clear hc0 hc1 hbd hx
   generalize i &&& x' = z at hbit Hh
   by_cases hzy : z = y'
   ·subst hzy
    have HH := Lib.hid (anyHit_yes (i := i) Hx.out (by rw [Hh.out]; simp))
    go_wp2_with fail
    go_ret
    exact ⟨ret_bool HH.out.symm, Hb2.out⟩
   ·have hne : ((z : Int) == (y' : Int)) = false := by rw [castEq]; exact decide_eq_false hzy
    have HH := Lib.hid (show anyHit (l.take (k + 1)) i = false by rw [anyHit_succ Hx.out, Hno.out, Hh.out]; simpa using hzy)
    clear hzy
    go_wp2_with fail
    go_roundw
    case rel => exact ⟨k + 1, by omega, by go_num, HH.out, Hb2.out⟩
    case measure => simp [intOf]; omega
  ·obtain rfl : k = n := by omega
   go_wp2_with fail
   go_ret
   refine ⟨?_, Hb.out⟩
   have h1 := Hno.out
   rw [List.take_of_length_le (by rw [Hl.out]; exact Nat.le_refl _)] at h1
   exact ret_bool h1.symm

theorem cTab_yes {n : Int} {l : List (Int × Int)} (h : cvOk n l = true) : cTab n l = (n, ((Tb.tab (anyHit l) (2 ^ n.toNat) : Nat) : Int)) := by
 rw [cTab, if_pos h, Tb.ctab]
 congr 2
 exact congrArg (fun f => Tb.tab f (2 ^ n.toNat)) (funext fun i => anyHit_map l i)
theorem cTab_no {n : Int} {l : List (Int × Int)} (h : cvOk n l = false) : cTab n l = (0, 0) := by rw [cTab, h]; rfl

set_option maxRecDepth 100000 in
set_option maxHeartbeats 4000000 in
theorem i_CoverTable {w : World} {B : Nat} {A : Option Addr} {n c : Nat} {l : List (Int × Int)} (m : Int) (h : Reads w B 2 A n (cbs l)) (hB : B ≤ w.heap.size) (hn : n ≤ 1099511627776) :
  Calls Try.prog 36 #[.int .i64 m, .slice A n c] w fun e w' => e = .returned (.agg #[.int .i64 (cTab m l).1, .int .i64 (cTab m l).2]) ∧ Below w.heap.size w w' := by
 by_cases hk : cvOk m l = true
 ·have hm := cv_n hk
  have hp := (pow_bd hm).2
  have He := Lib.hid (cTab_yes hk)
  have Hk := Lib.hid hk
  have Hnb := Lib.hid (cv_natB hk)
  clear hk
  go_enter Try.func36, Try.ntmps36
  go_wp2_with fail
  refine (i_coverOk m (((h.alloc hB _).alloc (by simp; omega) _)) (by simp; omega) hn).mono ?_
  rintro e w1 ⟨rfl, hb1⟩
  rw [Hk.out]
  have z1 := hb1.size
  try simp at z1
  (try have y1_0 : w.heap.size < w1.heap.size := (by omega))
  have q1_0 := fun o => (bcell hb1).1 (w.heap.size) o (by (try simp) <;> (try omega))
  have p1_0 := fun o => (bcell hb1).2 (w.heap.size) o (by (try simp) <;> (try omega))
  (try have y1_1 : w.heap.size + 1 < w1.heap.size := (by omega))
  have q1_1 := fun o => (bcell hb1).1 (w.heap.size + 1) o (by (try simp) <;> (try omega))
  have p1_1 := fun o => (bcell hb1).2 (w.heap.size + 1) o (by (try simp) <;> (try omega))
  go_wp2_with fail
  refine (i_tableOf m hm 66 _ (anyHit l) _ cf_Cov (fun i W hi hW => ?_)).mono ?_
  ·have k0 := hW.cell (p := ⟨w.heap.size, 0, none⟩) (by (try simp) <;> (try omega))
   have hR := (((h.alloc hB (.cells #[.slice A n c] 49)).alloc (by simp; omega) (.cells #[.int .i64 0, .int .i64 0] 31)).below (hb1.mono (by simp; omega))).below (hW.mono (by omega))
   have zW := hW.size
   exact i_Cov1 (c := c) i (by omega) (by rw [k0, q1_0]; simp [go_sem]) hR (by omega) hn Hnb.out
  ·rintro e w2 ⟨rfl, hb2⟩
   have z2 := hb2.size
   try simp at z2
   (try have y2_0 : w.heap.size < w2.heap.size := (by omega))
   have q2_0 := fun o => (bcell hb2).1 (w.heap.size) o (by (try simp) <;> (try omega))
   have p2_0 := fun o => (bcell hb2).2 (w.heap.size) o (by (try simp) <;> (try omega))
   (try have y2_1 : w.heap.size + 1 < w2.heap.size := (by omega))
   have q2_1 := fun o => (bcell hb2).1 (w.heap.size + 1) o (by (try simp) <;> (try omega))
   have p2_1 := fun o => (bcell hb2).2 (w.heap.size + 1) o (by (try simp) <;> (try omega))
   go_wp2_with fail
   exact bodyPost_ret (v := .agg #[.int .i64 m, .int .i64 (Tb.tab (anyHit l) (2 ^ m.toNat))]) (by simp [results, Try.results36, go_sem, q2_1, q1_1]) rfl ⟨by rw [He.out], bel_⟩
 ·have hk : cvOk m l = false := by simpa using hk
  have He := Lib.hid (cTab_no hk)
  have Hk := Lib.hid hk
  clear hk
  go_enter Try.func36, Try.ntmps36
  go_wp2_with fail
  refine (i_coverOk m (((h.alloc hB _).alloc (by simp; omega) _)) (by simp; omega) hn).mono ?_
  rintro e w1 ⟨rfl, hb1⟩
  rw [Hk.out]
  have z1 := hb1.size
  try simp at z1
  (try have y1_0 : w.heap.size < w1.heap.size := (by omega))
  have q1_0 := fun o => (bcell hb1).1 (w.heap.size) o (by (try simp) <;> (try omega))
  have p1_0 := fun o => (bcell hb1).2 (w.heap.size) o (by (try simp) <;> (try omega))
  (try have y1_1 : w.heap.size + 1 < w1.heap.size := (by omega))
  have q1_1 := fun o => (bcell hb1).1 (w.heap.size + 1) o (by (try simp) <;> (try omega))
  have p1_1 := fun o => (bcell hb1).2 (w.heap.size + 1) o (by (try simp) <;> (try omega))
  go_wp2_with fail
  exact bodyPost_ret (v := .agg #[.int .i64 0, .int .i64 0]) (by simp [results, Try.results36, go_sem, q1_1]) rfl ⟨by rw [He.out], bel_⟩

/-! ### the reference's table, without the cube at s -/
def selX (l : List (Int × Int)) (s : Int) : List (Int × Int) := if s < 0 then l else l.eraseIdx s.toNat
theorem sel_hit {l : List (Int × Int)} {s : Int} {i : Nat} : anyHit (selX l s) i = true ↔ ∃ (k : Nat) (x : Int × Int), l[k]? = some x ∧ (k : Int) ≠ s ∧ Tb.hit (natC x) i = true := by
 unfold anyHit selX
 rw [List.any_eq_true]
 split
 ·rename_i hs
  constructor
  ·rintro ⟨x, hx, hh⟩
   obtain ⟨k, hk⟩ := List.getElem?_of_mem hx
   exact ⟨k, x, hk, by omega, hh⟩
  ·rintro ⟨k, x, hk, _, hh⟩
   exact ⟨x, List.mem_of_getElem? hk, hh⟩
 ·rename_i hs
  constructor
  ·rintro ⟨x, hx, hh⟩
   obtain ⟨k, hne, hk⟩ := List.mem_eraseIdx_iff_getElem?.1 hx
   exact ⟨k, x, hk, by omega, hh⟩
  ·rintro ⟨k, x, hk, hne, hh⟩
   exact ⟨x, List.mem_eraseIdx_iff_getElem?.2 ⟨k, by omega, hk⟩, hh⟩
/-- no cube ahead of k, other than the one at s, has the index -/
def noHit (l : List (Int × Int)) (s : Int) (i k : Nat) : Prop := ∀ (j : Nat) (x : Int × Int), j < k → l[j]? = some x → (j : Int) ≠ s → Tb.hit (natC x) i = false
theorem noHit_all {l : List (Int × Int)} {s : Int} {i n : Nat} (hl : l.length = n) (h : noHit l s i n) : anyHit (selX l s) i = false := by
 cases hh : anyHit (selX l s) i
 ·rfl
 ·obtain ⟨k, x, hk, hne, hx⟩ := sel_hit.1 hh
  rw [h k x (by have := (List.getElem?_eq_some_iff.1 hk).1; omega) hk hne] at hx
  cases hx
theorem noHit_succ {l : List (Int × Int)} {s : Int} {i k : Nat} {x : Int × Int} (h : noHit l s i k) (hx : l[k]? = some x) (hn : (k : Int) = s ∨ Tb.hit (natC x) i = false) : noHit l s i (k + 1) := by
 intro j y hj hy hne
 by_cases hjk : j = k
 ·subst hjk
  rw [hx] at hy
  injection hy with hy
  subst hy
  rcases hn with h' | h'
  ·exact absurd h' hne
  ·exact h'
 ·exact h j y (by omega) hy hne
def sTab (m : Int) (l : List (Int × Int)) (s : Int) : Int := ((Tb.tab (anyHit (selX l s)) (2 ^ m.toNat) : Nat) : Int)

theorem blk2c {w : World} {g : Nat} {t : TypeId} {x y : Value} (h : Blk w g t #[x, y]) : w.cell? ⟨g, 0, none⟩ = some x ∧ w.cell? ⟨g, 1, none⟩ = some y := ⟨h.cell 0, h.cell 1⟩

set_option maxRecDepth 100000 in
set_option maxHeartbeats 8000000 in
theorem s_l03Table {w : World} {B : Nat} {A : Option Addr} {n c : Nat} {l : List (Int × Int)} (m s : Int) (hm : inR m 0 4 = true) (h : Reads w B 2 A n (cbs l)) (hB : B ≤ w.heap.size) (hn : n ≤ 1099511627776) (hb : natB l) :
  Calls Try.prog 65 #[.int .i64 m, .slice A n c, .int .i64 s] w fun e w' => e = .returned (.agg #[.int .i64 m, .int .i64 (sTab m l s)]) ∧ Below w.heap.size w w' := by
 have hl := h.clen
 have Hl := Lib.hid hl
 have HB := Lib.hid hb
 have hm0 := (inR_iff.1 hm).1
 have hm1 := (inR_iff.1 hm).2
 obtain ⟨hp1, hp2⟩ := pow_bd hm
 obtain ⟨M, hM⟩ : ∃ M : Nat, M = 2 ^ m.toNat := ⟨_, rfl⟩
 have hpn := pow_nat m
 rw [← hM] at hpn
 have hM16 : M ≤ 16 := by omega
 have HW1 := Lib.hid (show wrap64 ((2 : Int) ^ m.toNat) = (M : Int) by rw [(w64_pow hm).1, hpn])
 have He := Lib.hid (show sTab m l s = ((Tb.tab (anyHit (selX l s)) M : Nat) : Int) by rw [sTab, hM])
 clear hl hb hp1 hp2 hpn hM hm
 go_enter Try.func65, Try.ntmps65
 go_wp2_with fail
 go_loopw [8, 9] (fun i _ wr => ∃ k : Nat, k ≤ M ∧ i = .int .i64 k ∧ Below (w.heap.size + 1) (w.alloc (.cells #[.int .i64 0, .int .i64 0] 31)) wr ∧ Below w.heap.size w wr ∧ Blk wr (w.heap.size + 1) 31 #[.int .i64 m, .int .i64 (Tb.tab (anyHit (selX l s)) k : Nat)]) (fun i _ _ => 16 - (intOf i).toNat)
 case atStart => exact ⟨0, Nat.zero_le _, rfl, bel_, bel_, by simpa [Tb.tab] using Blk.new (w.alloc _) _ _⟩
 case round =>
  obtain ⟨i, hi, rfl, hb0, hb, hB1⟩ := hrel
  have r0 : wr.cell? ⟨w.heap.size, 0, none⟩ = some (.int .i64 0) := (hb0.cell (p := ⟨w.heap.size, 0, none⟩) (by simp)).trans (by simp [go_sem])
  have r1 : wr.cell? ⟨w.heap.size, 1, none⟩ = some (.int .i64 0) := (hb0.cell (p := ⟨w.heap.size, 1, none⟩) (by simp)).trans (by simp [go_sem])
  have s0 : wr.frozen? ⟨w.heap.size, 0, none⟩ = false := (hb0.frozen (p := ⟨w.heap.size, 0, none⟩) (by simp)).trans (by simp [go_sem])
  have s1 : wr.frozen? ⟨w.heap.size, 1, none⟩ = false := (hb0.frozen (p := ⟨w.heap.size, 1, none⟩) (by simp)).trans (by simp [go_sem])
  obtain ⟨c0, c1⟩ := blk2c hB1
  have f1 := hB1.frozen 1
  have Hb := Lib.hid hb
  have Hb0 := Lib.hid hb0
  have HB1 := Lib.hid hB1
  have HR := Lib.hid (h.below (hb.mono hB))
  clear hb hb0 hB1
  by_cases hlt : i < M
  ·have hi15 : i ≤ 15 := by omega
   have hw1 := HW1.out
   go_wp2_with fail
   clear hw1
   go_loopw [9] (fun j wx => ∃ k : Nat, k ≤ n ∧ j = .int .i64 k ∧ noHit l s i k ∧ ∃ q, wx = wr.drewN q) (fun j _ => n - (intOf j).toNat)
   case atStart => exact ⟨0, Nat.zero_le _, rfl, fun j x hj => absurd hj (Nat.not_lt_zero _), 0, rfl⟩
   case round =>
    obtain ⟨k, hk, rfl, hno, q, rfl⟩ := hrel
    have Hno := Lib.hid hno
    clear hno
    by_cases hkn : k < n
    ·obtain ⟨ad, x, y, rfl, hab, hx, hc0, hc1⟩ := HR.out.cube_at hkn
     have hbd := HB.out _ (List.mem_of_getElem? hx)
     simp only at hbd
     obtain ⟨x', rfl⟩ := Int.eq_ofNat_of_zero_le hbd.1
     obtain ⟨y', rfl⟩ := Int.eq_ofNat_of_zero_le hbd.2.2.1
     have hbit := i64_and_nat i x' (by omega) (by omega)
     have Hh := Lib.hid (hit_nat x' y' i)
     have Hx := Lib.hid hx
     have g1 : (0 : Int) ≤ (k : Int) := by omega
     have g2 : (k : Int) < (n : Int) := by omega
     clear hbd hx
     generalize i &&& x' = z at hbit Hh
     by_cases hks : (k : Int) = s
     ·have hne : ((k : Int) != s) = false := by simp [hks]
      have HN := Lib.hid (noHit_succ Hno.out Hx.out (.inl hks))
      clear hks
      go_wp2_with fail
      refine wp_region_lex (by kernel_rfl) (by kernel_rfl) (Cls (fun x => x = wr.drewN (q + 1))) (Cls.mk' rfl) ?_
      have lexNE : Nonempty (Wd (fun x => x = wr.drewN (q + 1))) := ⟨⟨_, rfl⟩⟩
      have lexW : ∀ W : Wd (fun x => x = wr.drewN (q + 1)), W.val = wr.drewN (q + 1) := fun W => W.ok
      (repeat (first | (refine lex_r fun K hK => ?_; go_big_quiet_op; refine hK _ ?_; clear hK K) | (refine lex_k fun K hK => ?_; go_simp; refine hK _ ?_; clear hK K)))
      (refine lex_nil ?_)
      clear lexNE lexW
      go_wp2_with fail
      go_roundw
      case rel => exact ⟨k + 1, by omega, by go_num, HN.out, q + 1, rfl⟩
      case measure => simp [intOf]; omega
     ·have hne : ((k : Int) != s) = true := by simpa using hks
      have Hks := Lib.hid hks
      clear hks
      by_cases hzy : z = y'
      ·have heq : ((z : Int) == (y' : Int)) = true := by rw [castEq]; exact decide_eq_true hzy
       have HA := Lib.hid (sel_hit.2 ⟨k, _, Hx.out, Hks.out, show Tb.hit (natC ((x' : Int), (y' : Int))) i = true by rw [Hh.out]; exact decide_eq_true hzy⟩)
       have Ht := Lib.hid (show Tb.tab (anyHit (selX l s)) i + 2 ^ i = Tb.tab (anyHit (selX l s)) (i + 1) by rw [Tb.tab, if_pos HA.out])
       clear hzy
       have hpw := w64_two hi15
       have h1 := Tb.tab_lt (anyHit (selX l s)) i
       have h2 : (2 ^ i : Nat) ≤ 2 ^ 15 := Nat.pow_le_pow_right (by omega) hi15
       have mi : min i 64 = i := by omega
       have Hpw := Lib.hid hpw
       clear hpw
       have HT := Lib.hid (show wrap64 (((Tb.tab (anyHit (selX l s)) i : Nat) : Int) + 2 ^ i) = ((Tb.tab (anyHit (selX l s)) (i + 1) : Nat) : Int) by
        rw [← Ht.out, ← two_nat i]
        generalize 2 ^ i = z2 at h1 h2
        rw [IntWalk.wrap64_in _ (by omega)]
        omega)
       generalize Tb.tab (anyHit (selX l s)) i = T0 at Ht h1 c1 HB1 HT
       go_wp2_with fail
       refine wp_region_lex (by kernel_rfl) (by kernel_rfl) (Cls (fun x => x = wr.drewN (q + 1))) (Cls.mk' rfl) ?_
       have lexNE : Nonempty (Wd (fun x => x = wr.drewN (q + 1))) := ⟨⟨_, rfl⟩⟩
       have lexW : ∀ W : Wd (fun x => x = wr.drewN (q + 1)), W.val = wr.drewN (q + 1) := fun W => W.ok
       (repeat (first | (refine lex_r fun K hK => ?_; go_big_quiet_op; refine hK _ ?_; clear hK K) | (refine lex_k fun K hK => ?_; go_simp; refine hK _ ?_; clear hK K)))
       (refine lex_nil ?_)
       clear lexNE lexW
       go_wp2_with fail
       have hpw := Hpw.out
       refine wp_region_lex (by kernel_rfl) (by kernel_rfl) (Cls (fun x => x = wr.drewN (q + 1 + 1))) (Cls.mk' rfl) ?_
       have lexNE : Nonempty (Wd (fun x => x = wr.drewN (q + 1 + 1))) := ⟨⟨_, rfl⟩⟩
       have lexW : ∀ W : Wd (fun x => x = wr.drewN (q + 1 + 1)), W.val = wr.drewN (q + 1 + 1) := fun W => W.ok
       (repeat (first | (refine lex_r fun K hK => ?_; go_big_quiet_op; refine hK _ ?_; clear hK K) | (refine lex_k fun K hK => ?_; go_simp; refine hK _ ?_; clear hK K)))
       (refine lex_l fun K hK => ?_; go_big_op)
       (refine hK _ _ ?_; clear hK K)
       clear lexNE lexW hpw
       go_wp2_with fail
       go_roundw
       case rel => exact ⟨i + 1, by omega, by go_num, (below_drewN Hb0.out _).setCell (by simp) _, (below_drewN Hb.out _).setCell (by simp) _, by rw [← HT.out]; simpa using (HB1.out.drewN (q + 1 + 1)).set_ 1 (.int .i64 (wrap64 ((T0 : Int) + 2 ^ i)))⟩
       case measure => simp [intOf]; omega
      ·have heq : ((z : Int) == (y' : Int)) = false := by rw [castEq]; exact decide_eq_false hzy
       have HN := Lib.hid (noHit_succ Hno.out Hx.out (.inr (show Tb.hit (natC ((x' : Int), (y' : Int))) i = false by rw [Hh.out]; exact decide_eq_false hzy)))
       clear hzy
       go_wp2_with fail
       refine wp_region_lex (by kernel_rfl) (by kernel_rfl) (Cls (fun x => x = wr.drewN (q + 1))) (Cls.mk' rfl) ?_
       have lexNE : Nonempty (Wd (fun x => x = wr.drewN (q + 1))) := ⟨⟨_, rfl⟩⟩
       have lexW : ∀ W : Wd (fun x => x = wr.drewN (q + 1)), W.val = wr.drewN (q + 1) := fun W => W.ok
       (repeat (first | (refine lex_r fun K hK => ?_; go_big_quiet_op; refine hK _ ?_; clear hK K) | (refine lex_k fun K hK => ?_; go_simp; refine hK _ ?_; clear hK K)))
       (refine lex_nil ?_)
       clear lexNE lexW
       go_wp2_with fail
       go_roundw
       case rel => exact ⟨k + 1, by omega, by go_num, HN.out, q + 1, rfl⟩
       case measure => simp [intOf]; omega
    ·obtain rfl : k = n := by omega
     have HA := Lib.hid (noHit_all Hl.out Hno.out)
     have Ht := Lib.hid (show Tb.tab (anyHit (selX l s)) (i + 1) = Tb.tab (anyHit (selX l s)) i by rw [Tb.tab, HA.out]; simp)
     go_wp2_with fail
     go_roundw
     case rel => exact ⟨i + 1, by omega, by go_num, below_drewN Hb0.out q, below_drewN Hb.out q, by rw [Ht.out]; exact HB1.out.drewN q⟩
     case measure => simp [intOf]; omega
  ·obtain rfl : i = M := by omega
   have hw1 := HW1.out
   go_wp2_with fail
   clear hw1
   exact bodyPost_ret (v := .agg #[.int .i64 m, .int .i64 (Tb.tab (anyHit (selX l s)) i : Nat)]) (by simp [results, Try.results65, go_sem, r0, r1]) rfl
    ⟨by rw [He.out], (Hb.out.setCell (by simp) _).setCell (by simp) _⟩

set_option maxRecDepth 100000 in
set_option maxHeartbeats 4000000 in
theorem s_CoverTable {w : World} {B : Nat} {A : Option Addr} {n c : Nat} {l : List (Int × Int)} (m : Int) (h : Reads w B 2 A n (cbs l)) (hB : B ≤ w.heap.size) (hn : n ≤ 1099511627776) :
  Calls Try.prog 35 #[.int .i64 m, .slice A n c] w fun e w' => e = .returned (.agg #[.int .i64 (cTab m l).1, .int .i64 (cTab m l).2]) ∧ Below w.heap.size w w' := by
 by_cases hk : cvOk m l = true
 ·have hm := cv_n hk
  have He := Lib.hid (show cTab m l = (m, sTab m l (-1)) by rw [cTab_yes hk, sTab]; rfl)
  have Hk := Lib.hid hk
  have Hnb := Lib.hid (cv_natB hk)
  clear hk
  go_enter Try.func35, Try.ntmps35
  go_wp2_with fail
  refine (s_l03Ok m (h.alloc hB _) (by simp; omega) hn).mono ?_
  rintro e w1 ⟨rfl, hb1⟩
  rw [Hk.out]
  have z1 := hb1.size
  try simp at z1
  (try have y1_0 : w.heap.size < w1.heap.size := (by omega))
  have q1_0 := fun o => (bcell hb1).1 (w.heap.size) o (by (try simp) <;> (try omega))
  have p1_0 := fun o => (bcell hb1).2 (w.heap.size) o (by (try simp) <;> (try omega))
  have hR := (h.alloc hB (.cells #[.int .i64 0, .int .i64 0] 31)).below (hb1.mono (by simp; omega))
  go_wp2_with fail
  refine (s_l03Table m (-1) hm hR (by omega) hn Hnb.out).mono ?_
  rintro e w2 ⟨rfl, hb2⟩
  have z2 := hb2.size
  try simp at z2
  (try have y2_0 : w.heap.size < w2.heap.size := (by omega))
  have q2_0 := fun o => (bcell hb2).1 (w.heap.size) o (by (try simp) <;> (try omega))
  have p2_0 := fun o => (bcell hb2).2 (w.heap.size) o (by (try simp) <;> (try omega))
  go_wp2_with fail
  exact bodyPost_ret (v := .agg #[.int .i64 m, .int .i64 (sTab m l (-1))]) (by simp [results, Try.results35, go_sem, q2_0, q1_0]) rfl ⟨by rw [He.out], bel_⟩
 ·have hk : cvOk m l = false := by simpa using hk
  have He := Lib.hid (cTab_no hk)
  have Hk := Lib.hid hk
  clear hk
  go_enter Try.func35, Try.ntmps35
  go_wp2_with fail
  refine (s_l03Ok m (h.alloc hB _) (by simp; omega) hn).mono ?_
  rintro e w1 ⟨rfl, hb1⟩
  rw [Hk.out]
  have z1 := hb1.size
  try simp at z1
  (try have y1_0 : w.heap.size < w1.heap.size := (by omega))
  have q1_0 := fun o => (bcell hb1).1 (w.heap.size) o (by (try simp) <;> (try omega))
  have p1_0 := fun o => (bcell hb1).2 (w.heap.size) o (by (try simp) <;> (try omega))
  go_wp2_with fail
  exact bodyPost_ret (v := .agg #[.int .i64 0, .int .i64 0]) (by simp [results, Try.results35, go_sem, q1_0]) rfl ⟨by rw [He.out], bel_⟩
end Go.Proofs.Ytbkgjgpoohlieaa

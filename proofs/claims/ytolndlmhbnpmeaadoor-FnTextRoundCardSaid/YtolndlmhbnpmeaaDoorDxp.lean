/- Contracts: a drawn expression, valid over the signals it may read. -/
import Derived.Test.YtolndlmhbnpmeaaDoorPfxP
import Derived.Test.YtolndlmhbnpmeaaDoorCpyP
import Derived.Test.YtolndlmhbnpmeaaDoorGm
import Derived.Test.YtolndlmhbnpmeaaDoorDcu
import Derived.Outline
namespace Go.Proofs.YtolndlmhbnpmeaaDoor
open Go.RowKit

/-- a list of operators that still asks for k values -/
def PartOk (N k : Int) (os : List TOp) : Prop := nd os = k ∧ ∀ j o, os[j]? = some o → 1 ≤ nd (os.take j) ∧ opT N o = true
theorem part_one {N : Int} {o : TOp} (h : opT N o = true) : PartOk N (opAr o.1) [o] := by
 refine ⟨by simp [nd]; omega, fun j o' ho => ?_⟩
 match j, ho with
 | 0, ho => simp at ho; subst ho; exact ⟨by simp [nd], h⟩
 | j + 1, ho => simp at ho
theorem part_app {N k : Int} {a b : List TOp} (ha : PartOk N k a) (hk : 1 ≤ k) (hb : PartOk N 0 b) : PartOk N (k - 1) (a ++ b) := by
 refine ⟨by rw [nd_app, ha.1, hb.1]; omega, fun j o ho => ?_⟩
 by_cases hj : j < a.length
 ·rw [List.getElem?_append_left hj] at ho
  rw [List.take_append_of_le_length (by omega)]
  exact ha.2 j o ho
 ·rw [List.getElem?_append_right (by omega)] at ho
  have h1 := hb.2 _ o ho
  refine ⟨?_, h1.2⟩
  rw [List.take_append, List.take_of_length_le (by omega), nd_app, ha.1]
  omega
theorem part_opsB {N : Int} {os : List TOp} (h : PartOk N 0 os) (hl : os.length ≤ 15) : opsB os N = true :=
 opsB_iff.2 ⟨hl, fun j o ho => ⟨by have := (h.2 j o ho).1; omega, (h.2 j o ho).2⟩, h.1⟩
theorem opT_const {N a : Int} (h0 : 0 ≤ a) (h1 : a < 16) : opT N (0, a, 0) = true := by
 have h2 : a ≤ 15 := by omega
 simp [opT, opB, inR, h0, h2]
theorem opT_param (N : Int) : opT N (1, 0, 0) = true := by simp [opT, opB, opAr]
theorem opT_sig {N a : Int} (h : 0 ≤ a ∧ a < N) : opT N (2, a, 0) = true := by simp [opT, opB]; omega
theorem opT_bit {N a b : Int} (h : 0 ≤ a ∧ a < N) (hb0 : 0 ≤ b) (hb1 : b < 2) : opT N (3, a, b) = true := by simp [opT, opB, inR]; omega
def kindL : List Int := [4, 5, 6, 7, 8, 9, 10, 11, 12, 7, 12]
theorem opT_knd {N k : Int} (h : k ∈ kindL) : opT N (k, 0, 0) = true ∧ 1 ≤ opAr k ∧ opAr k ≤ 3 := by
 simp only [kindL, List.mem_cons, List.not_mem_nil, or_false] at h
 rcases h with h | h | h | h | h | h | h | h | h | h | h <;> subst h <;> exact ⟨by simp [opT, opB, opAr], by decide, by decide⟩
theorem kindL_cell {w : World} {j : Nat} {x : Int} (hj : kindL[j]? = some x) : (w.alloc (.cells #[.int .i64 4, .int .i64 5, .int .i64 6, .int .i64 7, .int .i64 8, .int .i64 9, .int .i64 10, .int .i64 11, .int .i64 12, .int .i64 7, .int .i64 12] 3)).cell? ((⟨w.heap.size, 0, none⟩ : Addr).add j) = some (.int .i64 x) := by
 rw [show (⟨w.heap.size, 0, none⟩ : Addr).add j = ⟨w.heap.size, j, none⟩ by unfold Addr.add; split <;> simp_all]
 rw [(Blk.new w 3 _).cell j]
 unfold kindL at hj
 match j, hj with
 | 0, h | 1, h | 2, h | 3, h | 4, h | 5, h | 6, h | 7, h | 8, h | 9, h | 10, h => simp at h ⊢; exact h
 | j + 11, h => simp at h

/-- a drawn valid expression in new memory -/
def ExprD (B g m : Nat) (N : Int) (w : World) (e : Ending) (w' : World) : Prop :=
 ∃ (v : Value) (os : List TOp), e = .returned v ∧ w'.ownsRow w.heap.size 71 3 v os.length (recs eOp os) ∧ (1 ≤ os.length ∧ os.length ≤ m) ∧ PartOk N 0 os ∧ Cur B g w' ∧ w.grownBy w' (some g)
theorem own_lit {W : World} {lo : Nat} (k a b : Int) (hlo : lo ≤ W.heap.size) : (W.alloc (.cells #[.int .i64 k, .int .i64 a, .int .i64 b] 71)).ownsRow lo 71 3 (.slice (some ⟨W.heap.size, 0, none⟩) 1 1) [(k, a, b)].length (recs eOp [(k, a, b)]) :=
 World.ownsRow_lit (base := lo) (size := 3) (e := 71) W #[.int .i64 k, .int .i64 a, .int .i64 b] 1 hlo (by unfold maxLen; omega) rfl
-- $1 kind $2 a $3 b $4 valid $5 cursor $6 grown
-- $1 world $2 cursor $3 grown $4 own
-- $1 world $2 cursor $3 grown $4 own
set_option maxRecDepth 100000 in
set_option maxHeartbeats 16000000 in
theorem s_l04Expr : ∀ (most : Nat), most ≤ 15 → ∀ {B g : Nat} {w : World} {Aa : Option Addr} {na ca : Nat} {av : List Int} {N : Int}, Cur B g w → na ≤ 1000 → w.ownsRow (g + 1) 3 1 (.slice Aa na ca) na (ints av) → (∀ x ∈ av, 0 ≤ x ∧ x < N) →
  Calls Tryd.prog 46 #[.pointer (some ⟨g, 0, none⟩), .slice Aa na ca, .int .i64 (most : Int)] w (ExprD B g (max 1 most) N w) := by
 intro most
 induction most using Nat.strongRecOn with
 | _ most IH =>
 intro h15 B g w Aa na ca av N hcur hna hav hav2
 obtain ⟨i0, hi, hz0, hz1, hz2⟩ := info_parts Tryd.infOpC
 have Hcur := Lib.hid hcur
 have Hav := Lib.hid hav
 have Hav2 := Lib.hid hav2
 have Hg0 := Lib.hid (World.grownBy.refl w (some g))
 have hgl := hcur.lt
 have Hi := Lib.hid IH
 clear hcur hav hav2 IH
 go_enter Tryd.func46, Tryd.ntmps46
 by_cases hm : most < 4
 ·have hm1 : (most : Int) < 4 := by omega
  go_wp2_with fail
  refine (s_Below 8 Hcur.out).mono ?_
  rintro e wT ⟨x, rfl, hx, hcT, hgT⟩
  obtain ⟨hx0, hx1⟩ := hx.1 (by omega)
  have HcT := Lib.hid hcT
  have HgT := Lib.hid (Hg0.out.trans hgT)
  have HoT := Lib.hid (own_grown Hav.out (by omega) hgT)
  clear hx hcT hgT
  by_cases e0 : x = 0
  ·subst e0
   go_wp2_with fail
   refine (s_Below 16 HcT.out).mono ?_
   rintro e wB ⟨y, rfl, hy, hcB, hgB⟩
   obtain ⟨hy0, hy1⟩ := hy.1 (by omega)
   have HcB := Lib.hid hcB
   have HgB := Lib.hid (HgT.out.trans hgB)
   clear hy hcB hgB
   go_wp2_with fail
   go_ret
   exact ⟨_, [(0, y, 0)], rfl, own_lit 0 y 0 (by have := (HgB.out).size; omega), ⟨Nat.le_refl _, by simp; omega⟩, part_one (o := (0, y, 0)) (opT_const hy0 hy1), (HcB.out).alloc _, (HgB.out).trans (World.grownBy_alloc _ _ _)⟩
  by_cases e1 : x = 1
  ·subst e1
   go_wp2_with fail
   refine (s_Once 3 HcT.out).mono ?_
   rintro e wB ⟨o, rfl, hcB, hgB⟩
   have HcB := Lib.hid hcB
   have HgB := Lib.hid (HgT.out.trans hgB)
   have HoB := Lib.hid (own_grown HoT.out (by omega) hgB)
   clear hcB hgB
   cases o
   ·by_cases hn0 : na = 0
    ·subst hn0
     go_wp2_with fail
     go_ret
     exact ⟨_, [(0, 1, 0)], rfl, own_lit 0 1 0 (by have := (HgB.out).size; omega), ⟨Nat.le_refl _, by simp; omega⟩, part_one (o := (0, 1, 0)) (opT_const (by omega) (by omega)), (HcB.out).alloc _, (HgB.out).trans (World.grownBy_alloc _ _ _)⟩
    ·have nn0 : ¬ (na : Int) = 0 := by omega
     have np0 : (0 : Int) < (na : Int) := by omega
     go_wp2_with fail
     refine (s_Below (na : Int) HcB.out).mono ?_
     rintro e wA ⟨y, rfl, hy, hcA, hgA⟩
     obtain ⟨hy0, hy1⟩ := hy.1 (by omega)
     obtain ⟨yn, rfl⟩ := Int.eq_ofNat_of_zero_le hy0
     have HcA := Lib.hid hcA
     have HgA := Lib.hid (HgB.out.trans hgA)
     obtain ⟨ad, x, rfl, had, hlo, hxm, hcx⟩ := own_atD (own_grown HoB.out (by omega) hgA) (show yn < na by omega)
     have Hx := Lib.hid (Hav2.out x (List.mem_of_getElem? hxm))
     clear hy hcA hgA hxm
     go_wp2_with fail
     go_ret
     exact ⟨_, [(2, x, 0)], rfl, own_lit 2 x 0 (by have := (HgA.out).size; omega), ⟨Nat.le_refl _, by simp; omega⟩, part_one (o := (2, x, 0)) (opT_sig Hx.out), (HcA.out).alloc _, (HgA.out).trans (World.grownBy_alloc _ _ _)⟩
   ·go_wp2_with fail
    go_ret
    exact ⟨_, [(1, 0, 0)], rfl, own_lit 1 0 0 (by have := (HgB.out).size; omega), ⟨Nat.le_refl _, by simp; omega⟩, part_one (o := (1, 0, 0)) (opT_param N), (HcB.out).alloc _, (HgB.out).trans (World.grownBy_alloc _ _ _)⟩
  by_cases e2 : x = 2 ∨ x = 3
  ·by_cases hz0 : na = 0
   ·subst hz0
    rcases e2 with rfl | rfl
    ·go_wp2_with fail
     go_ret
     exact ⟨_, [(0, 1, 0)], rfl, own_lit 0 1 0 (by have := (HgT.out).size; omega), ⟨Nat.le_refl _, by simp; omega⟩, part_one (o := (0, 1, 0)) (opT_const (by omega) (by omega)), (HcT.out).alloc _, (HgT.out).trans (World.grownBy_alloc _ _ _)⟩
    ·go_wp2_with fail
     go_ret
     exact ⟨_, [(0, 1, 0)], rfl, own_lit 0 1 0 (by have := (HgT.out).size; omega), ⟨Nat.le_refl _, by simp; omega⟩, part_one (o := (0, 1, 0)) (opT_const (by omega) (by omega)), (HcT.out).alloc _, (HgT.out).trans (World.grownBy_alloc _ _ _)⟩
   ·have np1 : (0 : Int) < (na : Int) := by omega
    rcases e2 with rfl | rfl
    ·go_wp2_with fail
     refine wp_region_lexC (by kernel_rfl) (by kernel_rfl) (fun x => x.ownsRow (g + 1) 3 1 (.slice Aa na ca) na (ints av)) (own_drew HoT.out) (fun lexNE => ?_)
     (repeat (first | (refine lex_r fun K hK => ?_; go_big_quiet_op; refine hK _ ?_; clear hK K) | (refine lex_k fun K hK => ?_; go_simp; refine hK _ ?_; clear hK K)))
     (refine lex_e fun K hK => ?_; go_big_op)
     refine (s_Below (na : Int) (cur_drew HcT.out)).mono ?_
     rintro e wA ⟨y, rfl, hy, hcA, hgA⟩
     obtain ⟨hy0, hy1⟩ := hy.1 (by omega)
     obtain ⟨yn, rfl⟩ := Int.eq_ofNat_of_zero_le hy0
     have HcA := Lib.hid hcA
     have HgA := Lib.hid ((only_drew HgT.out).trans hgA)
     have HoA := Lib.hid (own_grown (own_drew HoT.out) (by omega) hgA)
     obtain ⟨ad, x, rfl, had, hlo, hxm, -⟩ := own_atD HoA.out (show yn < na by omega)
     have Hx := Lib.hid (Hav2.out x (List.mem_of_getElem? hxm))
     have cc : ∀ W : Wd (fun x => x.ownsRow (g + 1) 3 1 (.slice (some ad) na ca) na (ints av)), W.val.cell? (ad.add yn) = some (.int .i64 x) := fun W => own_cell W.ok hxm
     refine hK _ _ (Cls.mk' HoA.out) ?_
     clear hK K hy hcA hgA hxm
     (repeat (first | (refine lex_r fun K hK => ?_; go_big_quiet_op; refine hK _ ?_; clear hK K) | (refine lex_k fun K hK => ?_; go_simp; refine hK _ ?_; clear hK K)))
     (refine lex_e fun K hK => ?_; go_big_op)
     refine (s_Below 2 HcA.out).mono ?_
     rintro e wC ⟨z, rfl, hz, hcC, hgC⟩
     obtain ⟨hzb0, hzb1⟩ := hz.1 (by omega)
     have HcC := Lib.hid hcC
     have HgC := Lib.hid (HgA.out.trans hgC)
     have HoC := Lib.hid (own_grown HoA.out (by omega) hgC)
     refine hK _ _ (Cls.mk' HoC.out) ?_
     clear hK K hz hcC hgC
     (repeat (first | (refine lex_r fun K hK => ?_; go_big_quiet_op; refine hK _ ?_; clear hK K) | (refine lex_k fun K hK => ?_; go_simp; refine hK _ ?_; clear hK K)))
     (refine lex_e fun K hK => ?_; go_big_op)
     refine hK _ _ (Cls.mk' (HoC.out.alloc _)) ?_
     clear hK K
     (repeat (first | (refine lex_r fun K hK => ?_; go_big_quiet_op; refine hK _ ?_; clear hK K) | (refine lex_k fun K hK => ?_; go_simp; refine hK _ ?_; clear hK K)))
     (refine lex_nil ?_)
     clear lexNE cc
     go_wp2_with fail
     go_ret
     exact ⟨_, [(3, x, z)], rfl, own_lit 3 x z (by have := (HgC.out).size; omega), ⟨Nat.le_refl _, by simp; omega⟩, part_one (o := (3, x, z)) (opT_bit Hx.out hzb0 hzb1), (HcC.out).alloc _, (HgC.out).trans (World.grownBy_alloc _ _ _)⟩
    ·go_wp2_with fail
     refine wp_region_lexC (by kernel_rfl) (by kernel_rfl) (fun x => x.ownsRow (g + 1) 3 1 (.slice Aa na ca) na (ints av)) (own_drew HoT.out) (fun lexNE => ?_)
     (repeat (first | (refine lex_r fun K hK => ?_; go_big_quiet_op; refine hK _ ?_; clear hK K) | (refine lex_k fun K hK => ?_; go_simp; refine hK _ ?_; clear hK K)))
     (refine lex_e fun K hK => ?_; go_big_op)
     refine (s_Below (na : Int) (cur_drew HcT.out)).mono ?_
     rintro e wA ⟨y, rfl, hy, hcA, hgA⟩
     obtain ⟨hy0, hy1⟩ := hy.1 (by omega)
     obtain ⟨yn, rfl⟩ := Int.eq_ofNat_of_zero_le hy0
     have HcA := Lib.hid hcA
     have HgA := Lib.hid ((only_drew HgT.out).trans hgA)
     have HoA := Lib.hid (own_grown (own_drew HoT.out) (by omega) hgA)
     obtain ⟨ad, x, rfl, had, hlo, hxm, -⟩ := own_atD HoA.out (show yn < na by omega)
     have Hx := Lib.hid (Hav2.out x (List.mem_of_getElem? hxm))
     have cc : ∀ W : Wd (fun x => x.ownsRow (g + 1) 3 1 (.slice (some ad) na ca) na (ints av)), W.val.cell? (ad.add yn) = some (.int .i64 x) := fun W => own_cell W.ok hxm
     refine hK _ _ (Cls.mk' HoA.out) ?_
     clear hK K hy hcA hgA hxm
     (repeat (first | (refine lex_r fun K hK => ?_; go_big_quiet_op; refine hK _ ?_; clear hK K) | (refine lex_k fun K hK => ?_; go_simp; refine hK _ ?_; clear hK K)))
     (refine lex_e fun K hK => ?_; go_big_op)
     refine (s_Below 2 HcA.out).mono ?_
     rintro e wC ⟨z, rfl, hz, hcC, hgC⟩
     obtain ⟨hzb0, hzb1⟩ := hz.1 (by omega)
     have HcC := Lib.hid hcC
     have HgC := Lib.hid (HgA.out.trans hgC)
     have HoC := Lib.hid (own_grown HoA.out (by omega) hgC)
     refine hK _ _ (Cls.mk' HoC.out) ?_
     clear hK K hz hcC hgC
     (repeat (first | (refine lex_r fun K hK => ?_; go_big_quiet_op; refine hK _ ?_; clear hK K) | (refine lex_k fun K hK => ?_; go_simp; refine hK _ ?_; clear hK K)))
     (refine lex_e fun K hK => ?_; go_big_op)
     refine hK _ _ (Cls.mk' (HoC.out.alloc _)) ?_
     clear hK K
     (repeat (first | (refine lex_r fun K hK => ?_; go_big_quiet_op; refine hK _ ?_; clear hK K) | (refine lex_k fun K hK => ?_; go_simp; refine hK _ ?_; clear hK K)))
     (refine lex_nil ?_)
     clear lexNE cc
     go_wp2_with fail
     go_ret
     exact ⟨_, [(3, x, z)], rfl, own_lit 3 x z (by have := (HgC.out).size; omega), ⟨Nat.le_refl _, by simp; omega⟩, part_one (o := (3, x, z)) (opT_bit Hx.out hzb0 hzb1), (HcC.out).alloc _, (HgC.out).trans (World.grownBy_alloc _ _ _)⟩
  have e2a : ¬ x = 2 := fun h => e2 (.inl h)
  have e2b : ¬ x = 3 := fun h => e2 (.inr h)
  by_cases hn0 : na = 0
  ·subst hn0
   go_wp2_with fail
   go_ret
   exact ⟨_, [(0, 1, 0)], rfl, own_lit 0 1 0 (by have := (HgT.out).size; omega), ⟨Nat.le_refl _, by simp; omega⟩, part_one (o := (0, 1, 0)) (opT_const (by omega) (by omega)), (HcT.out).alloc _, (HgT.out).trans (World.grownBy_alloc _ _ _)⟩
  ·have nn0 : ¬ (na : Int) = 0 := by omega
   have np0 : (0 : Int) < (na : Int) := by omega
   go_wp2_with fail
   refine (s_Below (na : Int) HcT.out).mono ?_
   rintro e wA ⟨y, rfl, hy, hcA, hgA⟩
   obtain ⟨hy0, hy1⟩ := hy.1 (by omega)
   obtain ⟨yn, rfl⟩ := Int.eq_ofNat_of_zero_le hy0
   have HcA := Lib.hid hcA
   have HgA := Lib.hid (HgT.out.trans hgA)
   obtain ⟨ad, x, rfl, had, hlo, hxm, hcx⟩ := own_atD (own_grown HoT.out (by omega) hgA) (show yn < na by omega)
   have Hx := Lib.hid (Hav2.out x (List.mem_of_getElem? hxm))
   clear hy hcA hgA hxm
   go_wp2_with fail
   go_ret
   exact ⟨_, [(2, x, 0)], rfl, own_lit 2 x 0 (by have := (HgA.out).size; omega), ⟨Nat.le_refl _, by simp; omega⟩, part_one (o := (2, x, 0)) (opT_sig Hx.out), (HcA.out).alloc _, (HgA.out).trans (World.grownBy_alloc _ _ _)⟩
 have hm1 : ¬ (most : Int) < 4 := by omega
 go_wp2_with fail
 refine (s_Once 3 Hcur.out).mono ?_
 rintro e w1 ⟨o, rfl, hc1, hg1⟩
 have Hc1 := Lib.hid hc1
 have Hg1 := Lib.hid hg1
 have Ho1 := Lib.hid (own_grown Hav.out (by omega) hg1)
 have z1 := hg1.size
 clear hc1 hg1
 cases o
 rotate_left
 ·go_wp2_with fail
  refine (s_Below 8 Hc1.out).mono ?_
  rintro e wT ⟨x, rfl, hx, hcT, hgT⟩
  obtain ⟨hx0, hx1⟩ := hx.1 (by omega)
  have HcT := Lib.hid hcT
  have HgT := Lib.hid (Hg1.out.trans hgT)
  have HoT := Lib.hid (own_grown Ho1.out (by omega) hgT)
  clear hx hcT hgT
  by_cases e0 : x = 0
  ·subst e0
   go_wp2_with fail
   refine (s_Below 16 HcT.out).mono ?_
   rintro e wB ⟨y, rfl, hy, hcB, hgB⟩
   obtain ⟨hy0, hy1⟩ := hy.1 (by omega)
   have HcB := Lib.hid hcB
   have HgB := Lib.hid (HgT.out.trans hgB)
   clear hy hcB hgB
   go_wp2_with fail
   go_ret
   exact ⟨_, [(0, y, 0)], rfl, own_lit 0 y 0 (by have := (HgB.out).size; omega), ⟨Nat.le_refl _, by simp; omega⟩, part_one (o := (0, y, 0)) (opT_const hy0 hy1), (HcB.out).alloc _, (HgB.out).trans (World.grownBy_alloc _ _ _)⟩
  by_cases e1 : x = 1
  ·subst e1
   go_wp2_with fail
   refine (s_Once 3 HcT.out).mono ?_
   rintro e wB ⟨o, rfl, hcB, hgB⟩
   have HcB := Lib.hid hcB
   have HgB := Lib.hid (HgT.out.trans hgB)
   have HoB := Lib.hid (own_grown HoT.out (by omega) hgB)
   clear hcB hgB
   cases o
   ·by_cases hn0 : na = 0
    ·subst hn0
     go_wp2_with fail
     go_ret
     exact ⟨_, [(0, 1, 0)], rfl, own_lit 0 1 0 (by have := (HgB.out).size; omega), ⟨Nat.le_refl _, by simp; omega⟩, part_one (o := (0, 1, 0)) (opT_const (by omega) (by omega)), (HcB.out).alloc _, (HgB.out).trans (World.grownBy_alloc _ _ _)⟩
    ·have nn0 : ¬ (na : Int) = 0 := by omega
     have np0 : (0 : Int) < (na : Int) := by omega
     go_wp2_with fail
     refine (s_Below (na : Int) HcB.out).mono ?_
     rintro e wA ⟨y, rfl, hy, hcA, hgA⟩
     obtain ⟨hy0, hy1⟩ := hy.1 (by omega)
     obtain ⟨yn, rfl⟩ := Int.eq_ofNat_of_zero_le hy0
     have HcA := Lib.hid hcA
     have HgA := Lib.hid (HgB.out.trans hgA)
     obtain ⟨ad, x, rfl, had, hlo, hxm, hcx⟩ := own_atD (own_grown HoB.out (by omega) hgA) (show yn < na by omega)
     have Hx := Lib.hid (Hav2.out x (List.mem_of_getElem? hxm))
     clear hy hcA hgA hxm
     go_wp2_with fail
     go_ret
     exact ⟨_, [(2, x, 0)], rfl, own_lit 2 x 0 (by have := (HgA.out).size; omega), ⟨Nat.le_refl _, by simp; omega⟩, part_one (o := (2, x, 0)) (opT_sig Hx.out), (HcA.out).alloc _, (HgA.out).trans (World.grownBy_alloc _ _ _)⟩
   ·go_wp2_with fail
    go_ret
    exact ⟨_, [(1, 0, 0)], rfl, own_lit 1 0 0 (by have := (HgB.out).size; omega), ⟨Nat.le_refl _, by simp; omega⟩, part_one (o := (1, 0, 0)) (opT_param N), (HcB.out).alloc _, (HgB.out).trans (World.grownBy_alloc _ _ _)⟩
  by_cases e2 : x = 2 ∨ x = 3
  ·by_cases hz0 : na = 0
   ·subst hz0
    rcases e2 with rfl | rfl
    ·go_wp2_with fail
     go_ret
     exact ⟨_, [(0, 1, 0)], rfl, own_lit 0 1 0 (by have := (HgT.out).size; omega), ⟨Nat.le_refl _, by simp; omega⟩, part_one (o := (0, 1, 0)) (opT_const (by omega) (by omega)), (HcT.out).alloc _, (HgT.out).trans (World.grownBy_alloc _ _ _)⟩
    ·go_wp2_with fail
     go_ret
     exact ⟨_, [(0, 1, 0)], rfl, own_lit 0 1 0 (by have := (HgT.out).size; omega), ⟨Nat.le_refl _, by simp; omega⟩, part_one (o := (0, 1, 0)) (opT_const (by omega) (by omega)), (HcT.out).alloc _, (HgT.out).trans (World.grownBy_alloc _ _ _)⟩
   ·have np1 : (0 : Int) < (na : Int) := by omega
    rcases e2 with rfl | rfl
    ·go_wp2_with fail
     refine wp_region_lexC (by kernel_rfl) (by kernel_rfl) (fun x => x.ownsRow (g + 1) 3 1 (.slice Aa na ca) na (ints av)) (own_drew HoT.out) (fun lexNE => ?_)
     (repeat (first | (refine lex_r fun K hK => ?_; go_big_quiet_op; refine hK _ ?_; clear hK K) | (refine lex_k fun K hK => ?_; go_simp; refine hK _ ?_; clear hK K)))
     (refine lex_e fun K hK => ?_; go_big_op)
     refine (s_Below (na : Int) (cur_drew HcT.out)).mono ?_
     rintro e wA ⟨y, rfl, hy, hcA, hgA⟩
     obtain ⟨hy0, hy1⟩ := hy.1 (by omega)
     obtain ⟨yn, rfl⟩ := Int.eq_ofNat_of_zero_le hy0
     have HcA := Lib.hid hcA
     have HgA := Lib.hid ((only_drew HgT.out).trans hgA)
     have HoA := Lib.hid (own_grown (own_drew HoT.out) (by omega) hgA)
     obtain ⟨ad, x, rfl, had, hlo, hxm, -⟩ := own_atD HoA.out (show yn < na by omega)
     have Hx := Lib.hid (Hav2.out x (List.mem_of_getElem? hxm))
     have cc : ∀ W : Wd (fun x => x.ownsRow (g + 1) 3 1 (.slice (some ad) na ca) na (ints av)), W.val.cell? (ad.add yn) = some (.int .i64 x) := fun W => own_cell W.ok hxm
     refine hK _ _ (Cls.mk' HoA.out) ?_
     clear hK K hy hcA hgA hxm
     (repeat (first | (refine lex_r fun K hK => ?_; go_big_quiet_op; refine hK _ ?_; clear hK K) | (refine lex_k fun K hK => ?_; go_simp; refine hK _ ?_; clear hK K)))
     (refine lex_e fun K hK => ?_; go_big_op)
     refine (s_Below 2 HcA.out).mono ?_
     rintro e wC ⟨z, rfl, hz, hcC, hgC⟩
     obtain ⟨hzb0, hzb1⟩ := hz.1 (by omega)
     have HcC := Lib.hid hcC
     have HgC := Lib.hid (HgA.out.trans hgC)
     have HoC := Lib.hid (own_grown HoA.out (by omega) hgC)
     refine hK _ _ (Cls.mk' HoC.out) ?_
     clear hK K hz hcC hgC
     (repeat (first | (refine lex_r fun K hK => ?_; go_big_quiet_op; refine hK _ ?_; clear hK K) | (refine lex_k fun K hK => ?_; go_simp; refine hK _ ?_; clear hK K)))
     (refine lex_e fun K hK => ?_; go_big_op)
     refine hK _ _ (Cls.mk' (HoC.out.alloc _)) ?_
     clear hK K
     (repeat (first | (refine lex_r fun K hK => ?_; go_big_quiet_op; refine hK _ ?_; clear hK K) | (refine lex_k fun K hK => ?_; go_simp; refine hK _ ?_; clear hK K)))
     (refine lex_nil ?_)
     clear lexNE cc
     go_wp2_with fail
     go_ret
     exact ⟨_, [(3, x, z)], rfl, own_lit 3 x z (by have := (HgC.out).size; omega), ⟨Nat.le_refl _, by simp; omega⟩, part_one (o := (3, x, z)) (opT_bit Hx.out hzb0 hzb1), (HcC.out).alloc _, (HgC.out).trans (World.grownBy_alloc _ _ _)⟩
    ·go_wp2_with fail
     refine wp_region_lexC (by kernel_rfl) (by kernel_rfl) (fun x => x.ownsRow (g + 1) 3 1 (.slice Aa na ca) na (ints av)) (own_drew HoT.out) (fun lexNE => ?_)
     (repeat (first | (refine lex_r fun K hK => ?_; go_big_quiet_op; refine hK _ ?_; clear hK K) | (refine lex_k fun K hK => ?_; go_simp; refine hK _ ?_; clear hK K)))
     (refine lex_e fun K hK => ?_; go_big_op)
     refine (s_Below (na : Int) (cur_drew HcT.out)).mono ?_
     rintro e wA ⟨y, rfl, hy, hcA, hgA⟩
     obtain ⟨hy0, hy1⟩ := hy.1 (by omega)
     obtain ⟨yn, rfl⟩ := Int.eq_ofNat_of_zero_le hy0
     have HcA := Lib.hid hcA
     have HgA := Lib.hid ((only_drew HgT.out).trans hgA)
     have HoA := Lib.hid (own_grown (own_drew HoT.out) (by omega) hgA)
     obtain ⟨ad, x, rfl, had, hlo, hxm, -⟩ := own_atD HoA.out (show yn < na by omega)
     have Hx := Lib.hid (Hav2.out x (List.mem_of_getElem? hxm))
     have cc : ∀ W : Wd (fun x => x.ownsRow (g + 1) 3 1 (.slice (some ad) na ca) na (ints av)), W.val.cell? (ad.add yn) = some (.int .i64 x) := fun W => own_cell W.ok hxm
     refine hK _ _ (Cls.mk' HoA.out) ?_
     clear hK K hy hcA hgA hxm
     (repeat (first | (refine lex_r fun K hK => ?_; go_big_quiet_op; refine hK _ ?_; clear hK K) | (refine lex_k fun K hK => ?_; go_simp; refine hK _ ?_; clear hK K)))
     (refine lex_e fun K hK => ?_; go_big_op)
     refine (s_Below 2 HcA.out).mono ?_
     rintro e wC ⟨z, rfl, hz, hcC, hgC⟩
     obtain ⟨hzb0, hzb1⟩ := hz.1 (by omega)
     have HcC := Lib.hid hcC
     have HgC := Lib.hid (HgA.out.trans hgC)
     have HoC := Lib.hid (own_grown HoA.out (by omega) hgC)
     refine hK _ _ (Cls.mk' HoC.out) ?_
     clear hK K hz hcC hgC
     (repeat (first | (refine lex_r fun K hK => ?_; go_big_quiet_op; refine hK _ ?_; clear hK K) | (refine lex_k fun K hK => ?_; go_simp; refine hK _ ?_; clear hK K)))
     (refine lex_e fun K hK => ?_; go_big_op)
     refine hK _ _ (Cls.mk' (HoC.out.alloc _)) ?_
     clear hK K
     (repeat (first | (refine lex_r fun K hK => ?_; go_big_quiet_op; refine hK _ ?_; clear hK K) | (refine lex_k fun K hK => ?_; go_simp; refine hK _ ?_; clear hK K)))
     (refine lex_nil ?_)
     clear lexNE cc
     go_wp2_with fail
     go_ret
     exact ⟨_, [(3, x, z)], rfl, own_lit 3 x z (by have := (HgC.out).size; omega), ⟨Nat.le_refl _, by simp; omega⟩, part_one (o := (3, x, z)) (opT_bit Hx.out hzb0 hzb1), (HcC.out).alloc _, (HgC.out).trans (World.grownBy_alloc _ _ _)⟩
  have e2a : ¬ x = 2 := fun h => e2 (.inl h)
  have e2b : ¬ x = 3 := fun h => e2 (.inr h)
  by_cases hn0 : na = 0
  ·subst hn0
   go_wp2_with fail
   go_ret
   exact ⟨_, [(0, 1, 0)], rfl, own_lit 0 1 0 (by have := (HgT.out).size; omega), ⟨Nat.le_refl _, by simp; omega⟩, part_one (o := (0, 1, 0)) (opT_const (by omega) (by omega)), (HcT.out).alloc _, (HgT.out).trans (World.grownBy_alloc _ _ _)⟩
  ·have nn0 : ¬ (na : Int) = 0 := by omega
   have np0 : (0 : Int) < (na : Int) := by omega
   go_wp2_with fail
   refine (s_Below (na : Int) HcT.out).mono ?_
   rintro e wA ⟨y, rfl, hy, hcA, hgA⟩
   obtain ⟨hy0, hy1⟩ := hy.1 (by omega)
   obtain ⟨yn, rfl⟩ := Int.eq_ofNat_of_zero_le hy0
   have HcA := Lib.hid hcA
   have HgA := Lib.hid (HgT.out.trans hgA)
   obtain ⟨ad, x, rfl, had, hlo, hxm, hcx⟩ := own_atD (own_grown HoT.out (by omega) hgA) (show yn < na by omega)
   have Hx := Lib.hid (Hav2.out x (List.mem_of_getElem? hxm))
   clear hy hcA hgA hxm
   go_wp2_with fail
   go_ret
   exact ⟨_, [(2, x, 0)], rfl, own_lit 2 x 0 (by have := (HgA.out).size; omega), ⟨Nat.le_refl _, by simp; omega⟩, part_one (o := (2, x, 0)) (opT_sig Hx.out), (HcA.out).alloc _, (HgA.out).trans (World.grownBy_alloc _ _ _)⟩
 go_wp2_with fail
 refine (s_PickInt (l := kindL) (n := 11) (Hc1.out.alloc _) (by omega) (by omega) rfl (by show w1.heap.size ≠ g; omega) (by simp) (fun j x hj => kindL_cell hj)).mono ?_
 rintro e w2 ⟨kd, rfl, hkd, hc2, hg2⟩
 obtain ⟨hk1, hk2, hk3⟩ := opT_knd (N := N) hkd
 obtain ⟨r, hr⟩ : ∃ r : Nat, opAr kd = (r : Int) := ⟨(opAr kd).toNat, by omega⟩
 have Hk := Lib.hid hk1
 have Hr := Lib.hid hr
 have Hc2 := Lib.hid hc2
 have Hg2 := Lib.hid (grown_alloc' Hg1.out (.cells #[.int .i64 4, .int .i64 5, .int .i64 6, .int .i64 7, .int .i64 8, .int .i64 9, .int .i64 10, .int .i64 11, .int .i64 12, .int .i64 7, .int .i64 12] 3))
 have Hg3 := Lib.hid (Hg2.out.trans hg2)
 have Ho2 := Lib.hid (own_grown (Ho1.out.alloc (.cells #[.int .i64 4, .int .i64 5, .int .i64 6, .int .i64 7, .int .i64 8, .int .i64 9, .int .i64 10, .int .i64 11, .int .i64 12, .int .i64 7, .int .i64 12] 3)) (by omega) hg2)
 have z3 := Hg3.out.size
 clear hkd hk1 hc2 hg2
 go_wp2_with fail
 refine (s_OpArity kd _).mono ?_
 rintro e w' ⟨rfl, rfl⟩
 rw [Hr.out]
 have hr1 : 1 ≤ r := by omega
 have hr3 : r ≤ 3 := by omega
 clear hk2 hk3 hr
 obtain ⟨q, hq⟩ : ∃ q, q = (most - 1) / r := ⟨_, rfl⟩
 have hq1 : q < most := by rw [hq]; exact Nat.lt_of_le_of_lt (Nat.div_le_self _ _) (by omega)
 have hq2 : 1 ≤ q := by rw [hq]; exact (Nat.le_div_iff_mul_le (by omega)).2 (by omega)
 have hq3 : 1 + r * q ≤ most := by have h1 := Nat.mul_div_le (most - 1) r; rw [← hq] at h1; omega
 have Hq := Lib.hid (show ((most : Int) - 1) / (r : Int) = (q : Int) by rw [hq]; rw [show (most : Int) - 1 = ((most - 1 : Nat) : Int) by omega]; exact (Int.natCast_ediv _ _).symm)
 have Hol := Lib.hid (own_lit (W := w2) (lo := w.heap.size) kd 0 0 z3)
 have Hp0 := Lib.hid (show PartOk N ((r : Int) - (0 : Nat)) [(kd, 0, 0)] from by have h1 := part_one Hk.out; rw [Hr.out] at h1; simpa using h1)
 clear hq
 obtain ⟨W3, hW3⟩ : ∃ W3, W3 = w2.alloc (.cells #[.int .i64 kd, .int .i64 0, .int .i64 0] 71) := ⟨_, rfl⟩
 rw [← hW3] at Hol ⊢
 have HcW := Lib.hid (show Cur B g W3 by rw [hW3]; exact Hc2.out.alloc _)
 have HgW := Lib.hid (show w.grownBy W3 (some g) by rw [hW3]; exact grown_alloc' Hg3.out _)
 have HoW := Lib.hid (show W3.ownsRow (g + 1) 3 1 (.slice Aa na ca) na (ints av) by rw [hW3]; exact Ho2.out.alloc _)
 have HgV := Lib.hid (World.grownBy.refl W3 (some g))
 clear hW3
 go_wp2_with fail
 go_loopw [8, 10] (fun ov iv wr => ∃ (k : Nat) (os : List TOp), k ≤ r ∧ iv = .int .i64 k ∧ wr.ownsRow w.heap.size 71 3 ov os.length (recs eOp os) ∧ PartOk N ((r : Int) - (k : Int)) os ∧ 1 ≤ os.length ∧ os.length ≤ 1 + k * q ∧ Cur B g wr ∧ wr.ownsRow (g + 1) 3 1 (.slice Aa na ca) na (ints av) ∧ w.grownBy wr (some g)) (fun _ iv _ => r - (intOf iv).toNat)
 case atStart => exact ⟨0, [(kd, 0, 0)], Nat.zero_le _, rfl, Hol.out, Hp0.out, Nat.le_refl _, by simp, HcW.out, HoW.out, HgW.out⟩
 case round =>
  obtain ⟨k, os, hk, rfl, ho, hp, hl1, hl2, hc, hav, hg⟩ := hrel
  obtain ⟨Ao, co, rfl, _, _, _⟩ := own_form ho
  have Ho := Lib.hid ho
  have Hp := Lib.hid hp
  have Hc := Lib.hid hc
  have Ha := Lib.hid hav
  have Hg := Lib.hid hg
  obtain ⟨n, hn⟩ : ∃ n, n = os.length := ⟨_, rfl⟩
  rw [← hn] at Ho hl1 hl2 ⊢
  have Hn := Lib.hid hn
  have hkq : k * q ≤ r * q := Nat.mul_le_mul_right _ hk
  have hn15 : n ≤ 15 := by omega
  clear ho hp hc hav hg hn hkq
  by_cases hlt : k < r
  ·have g1 : (k : Int) < (r : Int) := by omega
   have g2 : ¬ (r : Int) = 0 := by omega
   go_wp2_with fail
   rw [Hq.out]
   refine (Hi.out q hq1 (by omega) Hc.out hna Ha.out Hav2.out).mono ?_
   rintro e w5 ⟨v5, o5, rfl, hown5, ⟨h51, h52⟩, hp5, hc5, hg5⟩
   obtain ⟨A5, c5, rfl, _, _, _⟩ := own_form hown5
   have HO5 := Lib.hid (own_grown Ho.out (by omega) hg5)
   have HR5 := Lib.hid (Reads.of_own hown5)
   have Hp5 := Lib.hid hp5
   have Hc5 := Lib.hid hc5
   have Hg5 := Lib.hid (Hg.out.trans hg5)
   have HA5 := Lib.hid (own_grown Ha.out (by omega) hg5)
   obtain ⟨n5, hn5⟩ : ∃ n, n = o5.length := ⟨_, rfl⟩
   rw [← hn5] at HR5 h51 h52 ⊢
   have Hn5 := Lib.hid hn5
   have hkq2 : (k + 1) * q ≤ r * q := Nat.mul_le_mul_right _ (by omega)
   rw [Nat.add_mul, Nat.one_mul] at hkq2
   have hm5 : n5 ≤ q := by omega
   have z5 := Hg5.out.size
   clear hown5 hp5 hc5 hg5 hn5
   go_wp2_with (at_builtin; refine wpList_append_any _ rfl _ _ 67 rfl (w.heap.size) 71 i0 (.agg #[.int .i64 0, .int .i64 0, .int .i64 0]) 3 24 Tryd.underlying67 hi hz0 hz1 hz2 rfl (by decide) _ _ _ rfl HO5.out _ _ n5 c5 (recs eOp o5) rfl HR5.out (recs_one _) (by unfold maxLen; omega) (by omega) (by omega) ?_; intro v7 w7 hown7 hgrow7 hblk7)
   have hrow : ∀ b, (Value.slice Ao n co).ownBlock = some b → w.heap.size ≤ b := fun b hb => (HO5.out.lt b hb).1
   have Hc7 := Lib.hid (Hc5.out.grown hgrow7 (fun b hb => by have := hrow b hb; have := Hc5.out.le; omega))
   have Hg7 := Lib.hid (grown_more Hg5.out hgrow7 hrow)
   have HA7 := Lib.hid (show w7.ownsRow (g + 1) 3 1 (.slice Aa na ca) na (ints av) from own_row HA5.out Hav.out hgrow7 hrow)
   have Ho7 := Lib.hid (show w7.ownsRow w.heap.size 71 3 v7 (os ++ o5).length (recs eOp (os ++ o5)) by rw [List.length_append, ← Hn.out, ← Hn5.out, recs_app]; exact hown7)
   have Hp7 := Lib.hid (show PartOk N ((r : Int) - ((k + 1 : Nat) : Int)) (os ++ o5) by have h1 := part_app Hp.out (by omega) Hp5.out; rw [show (r : Int) - ((k + 1 : Nat) : Int) = (r : Int) - (k : Int) - 1 by omega]; exact h1)
   clear hown7 hgrow7 hblk7 hrow
   go_wp2_with fail
   go_roundw
   case rel => exact ⟨k + 1, os ++ o5, by omega, by go_num, Ho7.out, Hp7.out, by rw [List.length_append, ← Hn.out]; omega, by rw [List.length_append, ← Hn.out, ← Hn5.out, Nat.add_mul]; omega, Hc7.out, HA7.out, Hg7.out⟩
   case measure => simp [intOf]; omega
  ·have hkr : k = r := by omega
   subst hkr
   have g2 : (k : Int) ≤ (k : Int) := Int.le_refl _
   go_wp2_with fail
   go_ret
   exact ⟨_, os, rfl, by rw [← Hn.out]; exact Ho.out, ⟨by rw [← Hn.out]; exact hl1, by rw [← Hn.out]; omega⟩, by have h1 := Hp.out; rwa [Int.sub_self] at h1, Hc.out, Hg.out⟩
end Go.Proofs.YtolndlmhbnpmeaaDoor

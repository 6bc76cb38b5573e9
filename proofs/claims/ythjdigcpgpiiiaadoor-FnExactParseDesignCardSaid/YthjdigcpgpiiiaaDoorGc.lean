/- Words and contracts that later texts use. -/
import Derived.Test.YthjdigcpgpiiiaaDoorGa
import Derived.Outline
/- Contracts: Int in the laws: the size, the copy, equality of equals, marks. -/
namespace Go.Proofs.YthjdigcpgpiiiaaDoor
open Go.RowKit

abbrev TInt := Int
def rInt (x : TInt) : List Fd := [.int x]
theorem rInt_len (x : TInt) : (rInt x).length = 1 := rfl
def fIntS (l : List TInt) : Fd := .sl (l.map rInt)
theorem rInt_lens (l : List TInt) : ∀ r ∈ l.map rInt, r.length = 1 := by
 intro r hr
 obtain ⟨x, _, rfl⟩ := List.mem_map.1 hr
 rfl
def sInt (_ : TInt) : Nat := 0
def nInt (_ : TInt) : Nat := 1
def kInt (k : Nat) (_ : TInt) : TInt := (((k : Nat) : Int))
theorem nInt_le (x : TInt) : nInt x ≤ 4 + 4 * sInt x := by simp only [nInt, sInt]; omega
theorem nuL_Int_le (l : List TInt) : nuL nInt l ≤ 4 * szL sInt l := nuL_le4 (fun x => by have := nInt_le x; omega) l
theorem fIntS_row {w : World} {S : Nat → Prop} {A : Option Addr} {n c k : Nat} {l : List TInt} (h : Rep w S (.slice A n c) (fIntS l)) (hk : k < n) :
  ∃ (ad : Addr) (x0 : Int), A = some ad ∧ S ad.block ∧ l[k]? = some x0 ∧ w.cell? (ad.add k) = some (.int .i64 x0) := by
 obtain ⟨ad, r, rfl, hb, hr, _, hc⟩ := h.row hk
 have hl := h.len
 rw [List.length_map] at hl
 have hx : l[k]? = some l[k] := List.getElem?_eq_getElem (by omega)
 rw [List.getElem?_map, hx] at hr
 injection hr with hr
 generalize l[k] = x at hx hr
 obtain ⟨x0, rfl⟩ : ∃ x0, x0 = x := ⟨x, rfl⟩
 subst hr
 obtain ⟨v0, c0, h0⟩ := hc 0 (.int x0) rfl
 rw [h0.int_val] at c0
 have c1 : w.cell? (ad.add k) = some (.int .i64 x0) := by simpa [rInt] using c0
 exact ⟨ad, x0, rfl, hb, hx, c1⟩

theorem d_eqIntS {w : World} {S S' : Nat → Prop} {v v' : Value} {l : List TInt} (hz : szL sInt l ≤ 1048576) (h : Rep w S v (fIntS l)) (h' : Rep w S' v' (fIntS l)) (hS : ∀ b, S b → b < w.heap.size) (hS' : ∀ b, S' b → b < w.heap.size) :
  Calls Tryd.prog 111 #[v, v'] w fun e w' => e = .returned (.bool true) ∧ Below w.heap.size w w' := by
 obtain ⟨A, c, rfl, hm⟩ := h.sl_val
 obtain ⟨A', c', rfl, _⟩ := h'.sl_val
 rw [List.length_map] at hm h h' ⊢
 have hn : l.length ≤ 1099511627776 := by unfold szL at hz; omega
 refine (l_eqIntS hn hn (h.ints_ hS) (h'.ints_ hS') (Nat.le_refl _) (Nat.le_refl _)).mono ?_
 rintro e w1 ⟨rfl, hb1⟩
 exact ⟨ret_bool (decide_eq_true rfl), hb1⟩


set_option maxRecDepth 100000 in
set_option maxHeartbeats 4000000 in
theorem d_markIntS {w : World} {S : Nat → Prop} {v : Value} {l : List TInt} (k0 : Nat) (hk0 : k0 + nuL nInt l ≤ 1099511627776) (h : Sep w S v (fIntS l)) (hS : ∀ b, S b → b < w.heap.size) :
  Calls Tryd.prog 82 #[v, .int .i64 k0] w fun e w' => e = .returned (.int .i64 ((k0 + nuL nInt l : Nat) : Int)) ∧ Sep w' S v (fIntS (mkL kInt nInt k0 l)) ∧ Only S w w' := by
 obtain ⟨A, c, rfl, hm⟩ := h.sl_val
 rw [List.length_map] at hm h ⊢
 unfold maxLen at hm
 obtain ⟨n, hl⟩ : ∃ n, l.length = n := ⟨_, rfl⟩
 rw [hl] at h hm ⊢
 have H := Lib.hid h
 have Hl := Lib.hid hl
 have Hnt := Lib.hid (nuL_take nInt l)
 clear h hl
 go_enter Tryd.func82, Tryd.ntmps82
 go_wp2_with fail
 go_loopw [1, 5] (fun kv i wr => ∃ k : Nat, k ≤ n ∧ i = .int .i64 k ∧ kv = .int .i64 ((k0 + nuL nInt (l.take k) : Nat) : Int) ∧ Sep wr S (.slice A n c) (fIntS (partL kInt nInt k0 k l)) ∧ Only S w wr) (fun _ i _ => n - (intOf i).toNat)
 case atStart => exact ⟨0, Nat.zero_le _, rfl, by simp [nuL], by rw [partL_zero]; exact H.out, Only.refl _ _⟩
 case round =>
  obtain ⟨k, hk, rfl, rfl, hs, ho⟩ := hrel
  by_cases hlt : k < n
  ·obtain ⟨x, hx⟩ : ∃ x, l[k]? = some x := ⟨_, List.getElem?_eq_getElem (by rw [Hl.out]; exact hlt)⟩
   obtain ⟨q, hq⟩ : ∃ q, q = k0 + nuL nInt (l.take k) := ⟨_, rfl⟩
   rw [← hq]
   have hq1 := Hnt.out (k + 1)
   rw [nuL_succ nInt hx] at hq1
   have hps := partL_succ kInt nInt (k := k0) hx
   rw [← hq] at hps
   have Hps := Lib.hid hps
   have Hns := Lib.hid (nuL_succ nInt hx)
   have Hq := Lib.hid hq
   obtain ⟨x0, rfl⟩ : ∃ x0, x0 = x := ⟨x, rfl⟩
   simp only [nInt] at hq1
   have hqb : q + (1) ≤ 1099511627776 := by have := Hq.out; omega
   have g1 : (0 : Int) ≤ (k : Int) := by omega
   have g2 : (k : Int) < (n : Int) := by omega
   have hw0 : ∀ b, S b → b < wr.heap.size := fun b hb => Nat.lt_of_lt_of_le (hS b hb) ho.size
   have hg0 := partL_get kInt nInt (k := k0) hx
   have HT0 := Lib.hid hs
   have HO0 := Lib.hid ho
   have HG0 := Lib.hid hg0
   clear hx hps hq hs ho hg0
   obtain ⟨g, rfl, hgs, hf0, _⟩ := Sep.at_ (ra := rInt) rInt_len HT0.out hw0 HG0.out
   obtain ⟨u0, P0, c0, z0, hp0, s0, _⟩ := hf0 0 _ rfl
   obtain rfl := s0.int_val
   simp only [Nat.add_zero, Nat.mul_one] at c0 z0
   clear hp0 s0
   clear hf0
   have HT1 := Lib.hid (by
    obtain ⟨g', eg, _, _, hst⟩ := Sep.at_ (ra := rInt) rInt_len HT0.out hw0 HG0.out
    obtain rfl : g = g' := by injection eg with eg; injection eg
    simpa only [Nat.mul_one, Nat.add_zero] using hst 0 ((q : Nat) : Int) ((q : Nat) : Int) (by decide) rfl)
   have HG1 := Lib.hid (List.getElem?_set_self (a := (((q : Nat) : Int) : TInt)) (List.getElem?_eq_some_iff.1 HG0.out).1)
   have HO1 := Lib.hid (HO0.out.setCell (p := ⟨g, k, none⟩) (.inl hgs) (.int .i64 ((q : Nat) : Int)))
   go_wp2_with fail
   go_roundw
   case rel =>
    refine ⟨k + 1, by omega, by go_num, ?_, ?_, HO1.out⟩
    ·rw [Hns.out, ← Nat.add_assoc, ← Hq.out]; (try simp only [nInt]); go_num
    ·have h1 := HT1.out
     try simp only [List.set_set] at h1
     rw [← Hps.out]
     exact h1
   case measure => simp [intOf]; omega
  ·have hke : k = n := by omega
   subst hke
   have HS := Lib.hid hs
   have HO := Lib.hid ho
   clear hs ho
   rw [List.take_of_length_le (by rw [Hl.out]; exact Nat.le_refl _)]
   go_wp2_with fail
   go_ret
   exact ⟨rfl, by rw [← partL_all _ _ _ _ Hl.out]; exact HS.out, HO.out⟩

set_option maxRecDepth 100000 in
set_option maxHeartbeats 4000000 in
theorem d_heldIntS {w : World} {S : Nat → Prop} {v : Value} {l : List TInt} (k0 : Nat) (hk0 : k0 + nuL nInt l ≤ 1099511627776) (h : Rep w S v (fIntS (mkL kInt nInt k0 l))) (hS : ∀ b, S b → b < w.heap.size) :
  Calls Tryd.prog 84 #[v, .int .i64 k0] w fun e w' => e = .returned (.int .i64 ((k0 + nuL nInt l : Nat) : Int)) ∧ Below w.heap.size w w' := by
 obtain ⟨A, c, rfl, hm⟩ := h.sl_val
 rw [List.length_map, mkL_len] at hm h ⊢
 unfold maxLen at hm
 obtain ⟨n, hl⟩ : ∃ n, l.length = n := ⟨_, rfl⟩
 rw [hl] at h hm ⊢
 have Hl := Lib.hid hl
 have Hnt := Lib.hid (nuL_take nInt l)
 clear hl
 go_enter Tryd.func84, Tryd.ntmps84
 go_wp2_with fail
 go_loopw [1, 5] (fun kv i wr => ∃ k : Nat, k ≤ n ∧ i = .int .i64 k ∧ kv = .int .i64 ((k0 + nuL nInt (l.take k) : Nat) : Int) ∧ Below w.heap.size w wr) (fun _ i _ => n - (intOf i).toNat)
 case atStart => exact ⟨0, Nat.zero_le _, rfl, by simp [nuL], Below.refl _ _⟩
 case round =>
  obtain ⟨k, hk, rfl, rfl, hb⟩ := hrel
  have Hb := Lib.hid hb
  have hsz := hb.size
  clear hb
  by_cases hlt : k < n
  ·obtain ⟨x, hx⟩ : ∃ x, l[k]? = some x := ⟨_, List.getElem?_eq_getElem (by rw [Hl.out]; exact hlt)⟩
   obtain ⟨q, hq⟩ : ∃ q, q = k0 + nuL nInt (l.take k) := ⟨_, rfl⟩
   rw [← hq]
   have hq1 := Hnt.out (k + 1)
   rw [nuL_succ nInt hx] at hq1
   have Hns := Lib.hid (nuL_succ nInt hx)
   have Hq := Lib.hid hq
   obtain ⟨ad, y0, rfl, hab, hy, e0⟩ := fIntS_row (h.under hS Hb.out) hlt
   rw [mkL_get kInt nInt k0 hx, ← hq] at hy
   injection hy with hy
   obtain ⟨x0, rfl⟩ : ∃ x0, x0 = x := ⟨x, rfl⟩
   simp only [kInt] at hy
   subst hy
   simp only [nInt] at hq1
   have hqb : q + (1) ≤ 1099511627776 := by have := Hq.out; omega
   have hab1 := hS _ hab
   have g1 : (0 : Int) ≤ (k : Int) := by omega
   have g2 : (k : Int) < (n : Int) := by omega
   clear hx hq
   go_wp2_with fail
   go_roundw
   case rel =>
    refine ⟨k + 1, by omega, by go_num, ?_, Hb.out⟩
    rw [Hns.out, ← Nat.add_assoc, ← Hq.out]; (try simp only [nInt]); go_num
   case measure => simp [intOf]; omega
  ·have hke : k = n := by omega
   subst hke
   rw [List.take_of_length_le (by rw [Hl.out]; exact Nat.le_refl _)]
   go_wp2_with fail
   go_ret
   exact ⟨rfl, Hb.out⟩
end Go.Proofs.YthjdigcpgpiiiaaDoor

/- Contracts: Op in the laws: the size, the copy, equality of equals, marks. -/
namespace Go.Proofs.YthjdigcpgpiiiaaDoor
open Go.RowKit

abbrev TOp := Int × Int × Int
def rOp (x : TOp) : List Fd := [.int x.1, .int x.2.1, .int x.2.2]
theorem rOp_len (x : TOp) : (rOp x).length = 3 := rfl
def fOpS (l : List TOp) : Fd := .sl (l.map rOp)
theorem rOp_lens (l : List TOp) : ∀ r ∈ l.map rOp, r.length = 3 := by
 intro r hr
 obtain ⟨x, _, rfl⟩ := List.mem_map.1 hr
 rfl
def sOp (_ : TOp) : Nat := 0
def nOp (_ : TOp) : Nat := 1 + 1 + 1
def kOp (k : Nat) (_ : TOp) : TOp := (((k : Nat) : Int), (((k + 1) : Nat) : Int), ((((k + 1) + 1) : Nat) : Int))
theorem nOp_le (x : TOp) : nOp x ≤ 4 + 4 * sOp x := by simp only [nOp, sOp]; omega
theorem nuL_Op_le (l : List TOp) : nuL nOp l ≤ 4 * szL sOp l := nuL_le4 (fun x => by have := nOp_le x; omega) l
/-- v is such a struct -/
def ROp (_w : World) (_S : Nat → Prop) (v : Value) (x : TOp) : Prop := v = .agg #[.int .i64 (x.1), .int .i64 (x.2.1), .int .i64 (x.2.2)]
/-- .. in memory of its own -/
def QOp (_w : World) (S : Nat → Prop) (v : Value) (x : TOp) : Prop := ∃  (P : Nat → Nat → Prop), v = .agg #[.int .i64 (x.1), .int .i64 (x.2.1), .int .i64 (x.2.2)] ∧ (∀ j b, P j b → S b) ∧ (∀ i j b, P i b → P j b → i = j)
theorem QOp.r {w : World} {S : Nat → Prop} {v : Value} {x : TOp} (h : QOp w S v x) : ROp w S v x := by
 obtain ⟨P, rfl, hP, _⟩ := h
 exact rfl
theorem fOpS_row {w : World} {S : Nat → Prop} {A : Option Addr} {n c k : Nat} {l : List TOp} (h : Rep w S (.slice A n c) (fOpS l)) (hk : k < n) :
  ∃ (ad : Addr) (x0 : Int) (x1 : Int) (x2 : Int), A = some ad ∧ S ad.block ∧ l[k]? = some (x0, x1, x2) ∧ w.cell? (ad.add (k * 3)) = some (.int .i64 x0) ∧ w.cell? (nxt (ad.add (k * 3)) 1) = some (.int .i64 x1) ∧ w.cell? (nxt (ad.add (k * 3)) 2) = some (.int .i64 x2) := by
 obtain ⟨ad, r, rfl, hb, hr, _, hc⟩ := h.row hk
 have hl := h.len
 rw [List.length_map] at hl
 have hx : l[k]? = some l[k] := List.getElem?_eq_getElem (by omega)
 rw [List.getElem?_map, hx] at hr
 injection hr with hr
 generalize l[k] = x at hx hr
 obtain ⟨x0, x1, x2⟩ := x
 subst hr
 obtain ⟨v0, c0, h0⟩ := hc 0 (.int x0) rfl
 rw [h0.int_val] at c0
 obtain ⟨v1, c1, h1⟩ := hc 1 (.int x1) rfl
 rw [h1.int_val] at c1
 obtain ⟨v2, c2, h2⟩ := hc 2 (.int x2) rfl
 rw [h2.int_val] at c2
 exact ⟨ad, x0, x1, x2, rfl, hb, hx, c0, by rw [nxt_add _ _ (by decide)]; exact c1, by rw [nxt_add _ _ (by decide)]; exact c2⟩

theorem Tryd.infOp : (Tryd.prog.info? 73).map (fun i => (i.zero, i.size, i.bytes)) = some (some (.agg #[.int .i64 0, .int .i64 0, .int .i64 0]), 3, 24) := by kernel_rfl
theorem ownOpD {w : World} {n : Nat} (hn : n ≤ maxLen) : (w.alloc (.cells (madeCells #[.int .i64 0, .int .i64 0, .int .i64 0] (n * 3)) 73)).ownsRow w.heap.size 73 3 (.slice (some ⟨w.heap.size, 0, none⟩) n n) n (madeCells #[.int .i64 0, .int .i64 0, .int .i64 0] (n * 3)).toList :=
 ⟨by simp [size_madeCells], .inr ⟨w.heap.size, n, madeCells #[.int .i64 0, .int .i64 0, .int .i64 0] (n * 3), rfl, Nat.le_refl _, heap_alloc_new w _, Nat.le_refl _, hn, by simp [size_madeCells], by rw [List.take_of_length_le]; simp [size_madeCells]⟩⟩
theorem setOp_old {xs : List Value} {k p : Nat} {a0 a1 a2 : Value} (h : p < k * 3) : (((xs.set (k * 3) a0).set (k * 3 + 1) a1).set (k * 3 + 2) a2)[p]? = xs[p]? := by
 rw [List.getElem?_set_ne (by omega), List.getElem?_set_ne (by omega), List.getElem?_set_ne (by omega)]
theorem setOp_new {xs : List Value} {k : Nat} {a0 a1 a2 : Value} (h : k * 3 + 2 < xs.length) :
  (((xs.set (k * 3) a0).set (k * 3 + 1) a1).set (k * 3 + 2) a2)[k * 3 + 0]? = some a0 ∧ (((xs.set (k * 3) a0).set (k * 3 + 1) a1).set (k * 3 + 2) a2)[k * 3 + 1]? = some a1 ∧ (((xs.set (k * 3) a0).set (k * 3 + 1) a1).set (k * 3 + 2) a2)[k * 3 + 2]? = some a2 := by
 refine ⟨?_, ?_, ?_⟩
 ·rw [List.getElem?_set_ne (by omega), List.getElem?_set_ne (by omega)]
  exact List.getElem?_set_self (by omega)
 ·rw [List.getElem?_set_ne (by omega), List.getElem?_set_self (by simp; omega)]
 ·rw [List.getElem?_set_self (by simp; omega)]

set_option maxRecDepth 100000 in
set_option maxHeartbeats 4000000 in
theorem d_eqOp {w : World} {S S' : Nat → Prop} {v v' : Value} {x : TOp} (h : ROp w S v x) (h' : ROp w S' v' x) :
  Calls Tryd.prog 112 #[v, v'] w fun e w' => e = .returned (.bool true) ∧ Below w.heap.size w w' := by
 obtain ⟨x0, x1, x2⟩ := x
 obtain rfl := h
 obtain rfl := h'
 go_enter Tryd.func112, Tryd.ntmps112
 go_wp2_with fail
 go_ret
 exact ⟨rfl, bel_⟩

set_option maxRecDepth 100000 in
set_option maxHeartbeats 4000000 in
theorem d_eqOpS {w : World} {S S' : Nat → Prop} {v v' : Value} {l : List TOp} (hz : szL sOp l ≤ 1048576) (h : Rep w S v (fOpS l)) (h' : Rep w S' v' (fOpS l)) (hS : ∀ b, S b → b < w.heap.size) (hS' : ∀ b, S' b → b < w.heap.size) :
  Calls Tryd.prog 110 #[v, v'] w fun e w' => e = .returned (.bool true) ∧ Below w.heap.size w w' := by
 obtain ⟨A, c, rfl, hm⟩ := h.sl_val
 obtain ⟨A', c', rfl, _⟩ := h'.sl_val
 rw [List.length_map] at hm h h' ⊢
 unfold maxLen at hm
 obtain ⟨n, hl⟩ : ∃ n, l.length = n := ⟨_, rfl⟩
 rw [hl] at h h' hm ⊢
 have Hin := Lib.hid (fun x (hx : x ∈ l) => (show sOp x ≤ 1048576 by have := nuL_el sOp hx; unfold szL at hz; omega))
 clear hl hz
 go_enter Tryd.func110, Tryd.ntmps110
 go_wp2
 go_loopw [5] (fun i wr => ∃ k : Nat, k ≤ n ∧ i = .int .i64 k ∧ Below w.heap.size w wr) (fun i _ => n - (intOf i).toNat)
 case atStart => exact ⟨0, Nat.zero_le _, rfl, Below.refl _ _⟩
 case round =>
  obtain ⟨k, hk, rfl, hb⟩ := hrel
  have Hb := Lib.hid hb
  have hsz := hb.size
  clear hb
  by_cases hlt : k < n
  ·obtain ⟨ad, x0, x1, x2, rfl, hab, hx, e0, e1, e2⟩ := fOpS_row (h.under hS Hb.out) hlt
   obtain ⟨ad', y0, y1, y2, rfl, hab', hx', f0, f1, f2⟩ := fOpS_row (h'.under hS' Hb.out) hlt
   rw [hx] at hx'
   injection hx' with hx'
   simp only [Prod.mk.injEq] at hx'
   obtain ⟨rfl, rfl, rfl⟩ := hx'
   have hab1 := hS _ hab
   have hab2 := hS' _ hab'
   have hab3 : ad.block < wr.heap.size := by omega
   have hab4 : ad'.block < wr.heap.size := by omega
   have g1 : (0 : Int) ≤ (k : Int) := by omega
   have g2 : (k : Int) < (n : Int) := by omega
   have Hx := Lib.hid hx
   clear hx
   go_wp2_with fail
   refine wp_region_lexC (by kernel_rfl) (by kernel_rfl) (fun x => Below wr.heap.size wr x) ((Below.refl _ _).drew) (fun lexNE => ?_)
   have r0 := fun W : Wd (fun x => Below wr.heap.size wr x) => (W.ok.cell (p := (ad.add (k * 3))) (by rw [block_of_add]; exact hab3)).trans e0
   have s0 := fun W : Wd (fun x => Below wr.heap.size wr x) => (W.ok.cell (p := (ad'.add (k * 3))) (by rw [block_of_add]; exact hab4)).trans f0
   have r1 := fun W : Wd (fun x => Below wr.heap.size wr x) => (W.ok.cell (p := (nxt (ad.add (k * 3)) 1)) (by rw [nxt_block]; exact hab3)).trans e1
   have s1 := fun W : Wd (fun x => Below wr.heap.size wr x) => (W.ok.cell (p := (nxt (ad'.add (k * 3)) 1)) (by rw [nxt_block]; exact hab4)).trans f1
   have r2 := fun W : Wd (fun x => Below wr.heap.size wr x) => (W.ok.cell (p := (nxt (ad.add (k * 3)) 2)) (by rw [nxt_block]; exact hab3)).trans e2
   have s2 := fun W : Wd (fun x => Below wr.heap.size wr x) => (W.ok.cell (p := (nxt (ad'.add (k * 3)) 2)) (by rw [nxt_block]; exact hab4)).trans f2
   (repeat (first | (refine lex_r fun K hK => ?_; go_big_quiet_op; refine hK _ ?_; clear hK K) | (refine lex_k fun K hK => ?_; go_simp; refine hK _ ?_; clear hK K)))
   (refine lex_e fun K hK => ?_; go_big_op)
   refine (d_eqOp (S := S) (S' := S) (x := (x0, x1, x2)) rfl rfl).mono ?_
   rintro e w6 ⟨rfl, hb6⟩
   have Hb6 := Lib.hid (Hb.out.drew.trans (hb6.mono hsz))
   refine hK _ _ (Cls.mk' ((Below.refl wr.heap.size wr).drew.trans hb6)) ?_
   clear hK K
   (repeat (first | (refine lex_r fun K hK => ?_; go_big_quiet_op; refine hK _ ?_; clear hK K) | (refine lex_k fun K hK => ?_; go_simp; refine hK _ ?_; clear hK K)))
   (refine lex_nil ?_)
   clear lexNE r0 s0 r1 s1 r2 s2
   go_wp2_with fail
   go_roundw
   case rel => exact ⟨k + 1, by omega, by go_num, Hb6.out⟩
   case measure => simp [intOf]; omega
  ·have hke : k = n := by omega
   subst hke
   go_wp2_with fail
   go_ret
   exact ⟨rfl, Hb.out⟩

set_option maxRecDepth 100000 in
set_option maxHeartbeats 4000000 in
theorem d_markOpS {w : World} {S : Nat → Prop} {v : Value} {l : List TOp} (k0 : Nat) (hk0 : k0 + nuL nOp l ≤ 1099511627776) (h : Sep w S v (fOpS l)) (hS : ∀ b, S b → b < w.heap.size) :
  Calls Tryd.prog 81 #[v, .int .i64 k0] w fun e w' => e = .returned (.int .i64 ((k0 + nuL nOp l : Nat) : Int)) ∧ Sep w' S v (fOpS (mkL kOp nOp k0 l)) ∧ Only S w w' := by
 obtain ⟨A, c, rfl, hm⟩ := h.sl_val
 rw [List.length_map] at hm h ⊢
 unfold maxLen at hm
 obtain ⟨n, hl⟩ : ∃ n, l.length = n := ⟨_, rfl⟩
 rw [hl] at h hm ⊢
 have H := Lib.hid h
 have Hl := Lib.hid hl
 have Hnt := Lib.hid (nuL_take nOp l)
 clear h hl
 go_enter Tryd.func81, Tryd.ntmps81
 go_wp2_with fail
 go_loopw [1, 5] (fun kv i wr => ∃ k : Nat, k ≤ n ∧ i = .int .i64 k ∧ kv = .int .i64 ((k0 + nuL nOp (l.take k) : Nat) : Int) ∧ Sep wr S (.slice A n c) (fOpS (partL kOp nOp k0 k l)) ∧ Only S w wr) (fun _ i _ => n - (intOf i).toNat)
 case atStart => exact ⟨0, Nat.zero_le _, rfl, by simp [nuL], by rw [partL_zero]; exact H.out, Only.refl _ _⟩
 case round =>
  obtain ⟨k, hk, rfl, rfl, hs, ho⟩ := hrel
  by_cases hlt : k < n
  ·obtain ⟨x, hx⟩ : ∃ x, l[k]? = some x := ⟨_, List.getElem?_eq_getElem (by rw [Hl.out]; exact hlt)⟩
   obtain ⟨q, hq⟩ : ∃ q, q = k0 + nuL nOp (l.take k) := ⟨_, rfl⟩
   rw [← hq]
   have hq1 := Hnt.out (k + 1)
   rw [nuL_succ nOp hx] at hq1
   have hps := partL_succ kOp nOp (k := k0) hx
   rw [← hq] at hps
   have Hps := Lib.hid hps
   have Hns := Lib.hid (nuL_succ nOp hx)
   have Hq := Lib.hid hq
   obtain ⟨x0, x1, x2⟩ := x
   simp only [nOp] at hq1
   have hqb : q + (1 + 1 + 1) ≤ 1099511627776 := by have := Hq.out; omega
   have g1 : (0 : Int) ≤ (k : Int) := by omega
   have g2 : (k : Int) < (n : Int) := by omega
   have hw0 : ∀ b, S b → b < wr.heap.size := fun b hb => Nat.lt_of_lt_of_le (hS b hb) ho.size
   have hg0 := partL_get kOp nOp (k := k0) hx
   have HT0 := Lib.hid hs
   have HO0 := Lib.hid ho
   have HG0 := Lib.hid hg0
   clear hx hps hq hs ho hg0
   obtain ⟨g, rfl, hgs, hf0, _⟩ := Sep.at_ (ra := rOp) rOp_len HT0.out hw0 HG0.out
   obtain ⟨u0, P0, c0, z0, hp0, s0, _⟩ := hf0 0 _ rfl
   obtain rfl := s0.int_val
   simp only [Nat.add_zero] at c0 z0
   clear hp0 s0
   obtain ⟨u1, P1, c1, z1, hp1, s1, _⟩ := hf0 1 _ rfl
   obtain rfl := s1.int_val
   clear hp1 s1
   obtain ⟨u2, P2, c2, z2, hp2, s2, _⟩ := hf0 2 _ rfl
   obtain rfl := s2.int_val
   clear hp2 s2
   clear hf0
   have HT1 := Lib.hid (by
    obtain ⟨g', eg, _, _, hst⟩ := Sep.at_ (ra := rOp) rOp_len HT0.out hw0 HG0.out
    obtain rfl : g = g' := by injection eg with eg; injection eg
    exact hst 0 ((q : Nat) : Int) (((q : Nat) : Int), x1, x2) (by decide) rfl)
   have HG1 := Lib.hid (List.getElem?_set_self (a := ((((q : Nat) : Int), x1, x2) : TOp)) (List.getElem?_eq_some_iff.1 HG0.out).1)
   have HO1 := Lib.hid (HO0.out.setCell (p := ⟨g, k * 3, none⟩) (.inl hgs) (.int .i64 ((q : Nat) : Int)))
   have HT2 := Lib.hid (by
    obtain ⟨g', eg, _, _, hst⟩ := Sep.at_ (ra := rOp) rOp_len HT1.out (fun b9 h9 => by simpa using hw0 b9 h9) HG1.out
    obtain rfl : g = g' := by injection eg with eg; injection eg
    exact hst 1 ((q + 1 : Nat) : Int) (((q : Nat) : Int), ((q + 1 : Nat) : Int), x2) (by decide) rfl)
   have HG2 := Lib.hid (List.getElem?_set_self (a := ((((q : Nat) : Int), ((q + 1 : Nat) : Int), x2) : TOp)) (List.getElem?_eq_some_iff.1 HG1.out).1)
   have HO2 := Lib.hid (HO1.out.setCell (p := ⟨g, k * 3 + 1, none⟩) (.inl hgs) (.int .i64 ((q + 1 : Nat) : Int)))
   have HT3 := Lib.hid (by
    obtain ⟨g', eg, _, _, hst⟩ := Sep.at_ (ra := rOp) rOp_len HT2.out (fun b9 h9 => by simpa using hw0 b9 h9) HG2.out
    obtain rfl : g = g' := by injection eg with eg; injection eg
    exact hst 2 ((q + 1 + 1 : Nat) : Int) (((q : Nat) : Int), ((q + 1 : Nat) : Int), ((q + 1 + 1 : Nat) : Int)) (by decide) rfl)
   have HG3 := Lib.hid (List.getElem?_set_self (a := ((((q : Nat) : Int), ((q + 1 : Nat) : Int), ((q + 1 + 1 : Nat) : Int)) : TOp)) (List.getElem?_eq_some_iff.1 HG2.out).1)
   have HO3 := Lib.hid (HO2.out.setCell (p := ⟨g, k * 3 + 2, none⟩) (.inl hgs) (.int .i64 ((q + 1 + 1 : Nat) : Int)))
   go_wp2_with fail
   go_roundw
   case rel =>
    refine ⟨k + 1, by omega, by go_num, ?_, ?_, HO3.out⟩
    ·rw [Hns.out, ← Nat.add_assoc, ← Hq.out]; (try simp only [nOp]); go_num
    ·have h1 := HT3.out
     try simp only [List.set_set] at h1
     rw [← Hps.out]
     exact h1
   case measure => simp [intOf]; omega
  ·have hke : k = n := by omega
   subst hke
   have HS := Lib.hid hs
   have HO := Lib.hid ho
   clear hs ho
   rw [List.take_of_length_le (by rw [Hl.out]; exact Nat.le_refl _)]
   go_wp2_with fail
   go_ret
   exact ⟨rfl, by rw [← partL_all _ _ _ _ Hl.out]; exact HS.out, HO.out⟩

set_option maxRecDepth 100000 in
set_option maxHeartbeats 4000000 in
theorem d_heldOpS {w : World} {S : Nat → Prop} {v : Value} {l : List TOp} (k0 : Nat) (hk0 : k0 + nuL nOp l ≤ 1099511627776) (h : Rep w S v (fOpS (mkL kOp nOp k0 l))) (hS : ∀ b, S b → b < w.heap.size) :
  Calls Tryd.prog 83 #[v, .int .i64 k0] w fun e w' => e = .returned (.int .i64 ((k0 + nuL nOp l : Nat) : Int)) ∧ Below w.heap.size w w' := by
 obtain ⟨A, c, rfl, hm⟩ := h.sl_val
 rw [List.length_map, mkL_len] at hm h ⊢
 unfold maxLen at hm
 obtain ⟨n, hl⟩ : ∃ n, l.length = n := ⟨_, rfl⟩
 rw [hl] at h hm ⊢
 have Hl := Lib.hid hl
 have Hnt := Lib.hid (nuL_take nOp l)
 clear hl
 go_enter Tryd.func83, Tryd.ntmps83
 go_wp2_with fail
 go_loopw [1, 5] (fun kv i wr => ∃ k : Nat, k ≤ n ∧ i = .int .i64 k ∧ kv = .int .i64 ((k0 + nuL nOp (l.take k) : Nat) : Int) ∧ Below w.heap.size w wr) (fun _ i _ => n - (intOf i).toNat)
 case atStart => exact ⟨0, Nat.zero_le _, rfl, by simp [nuL], Below.refl _ _⟩
 case round =>
  obtain ⟨k, hk, rfl, rfl, hb⟩ := hrel
  have Hb := Lib.hid hb
  have hsz := hb.size
  clear hb
  by_cases hlt : k < n
  ·obtain ⟨x, hx⟩ : ∃ x, l[k]? = some x := ⟨_, List.getElem?_eq_getElem (by rw [Hl.out]; exact hlt)⟩
   obtain ⟨q, hq⟩ : ∃ q, q = k0 + nuL nOp (l.take k) := ⟨_, rfl⟩
   rw [← hq]
   have hq1 := Hnt.out (k + 1)
   rw [nuL_succ nOp hx] at hq1
   have Hns := Lib.hid (nuL_succ nOp hx)
   have Hq := Lib.hid hq
   obtain ⟨ad, y0, y1, y2, rfl, hab, hy, e0, e1, e2⟩ := fOpS_row (h.under hS Hb.out) hlt
   rw [mkL_get kOp nOp k0 hx, ← hq] at hy
   injection hy with hy
   obtain ⟨x0, x1, x2⟩ := x
   simp only [kOp, Prod.mk.injEq] at hy
   obtain ⟨rfl, rfl, rfl⟩ := hy
   simp only [nOp] at hq1
   have hqb : q + (1 + 1 + 1) ≤ 1099511627776 := by have := Hq.out; omega
   have hab1 := hS _ hab
   have g1 : (0 : Int) ≤ (k : Int) := by omega
   have g2 : (k : Int) < (n : Int) := by omega
   clear hx hq
   go_wp2_with fail
   go_roundw
   case rel =>
    refine ⟨k + 1, by omega, by go_num, ?_, Hb.out⟩
    rw [Hns.out, ← Nat.add_assoc, ← Hq.out]; (try simp only [nOp]); go_num
   case measure => simp [intOf]; omega
  ·have hke : k = n := by omega
   subst hke
   rw [List.take_of_length_le (by rw [Hl.out]; exact Nat.le_refl _)]
   go_wp2_with fail
   go_ret
   exact ⟨rfl, Hb.out⟩
end Go.Proofs.YthjdigcpgpiiiaaDoor

/- Contracts: Assign in the laws: the size, the copy, equality of equals, marks. -/
namespace Go.Proofs.YthjdigcpgpiiiaaDoor
open Go.RowKit

abbrev TAssign := Int × List TOp
def rAssign (x : TAssign) : List Fd := [.int x.1, fOpS x.2]
theorem rAssign_len (x : TAssign) : (rAssign x).length = 2 := rfl
def fAssignS (l : List TAssign) : Fd := .sl (l.map rAssign)
theorem rAssign_lens (l : List TAssign) : ∀ r ∈ l.map rAssign, r.length = 2 := by
 intro r hr
 obtain ⟨x, _, rfl⟩ := List.mem_map.1 hr
 rfl
def sAssign (x : TAssign) : Nat := szL sOp x.2
def nAssign (x : TAssign) : Nat := 1 + nuL nOp x.2
def kAssign (k : Nat) (x : TAssign) : TAssign := (((k : Nat) : Int), mkL kOp nOp (k + 1) x.2)
theorem nAssign_le (x : TAssign) : nAssign x ≤ 4 + 4 * sAssign x := by simp only [nAssign, sAssign]; have h1 := nuL_Op_le x.2; omega
theorem nuL_Assign_le (l : List TAssign) : nuL nAssign l ≤ 4 * szL sAssign l := nuL_le4 (fun x => by have := nAssign_le x; omega) l
/-- v is such a struct -/
def RAssign (w : World) (S : Nat → Prop) (v : Value) (x : TAssign) : Prop := ∃ (v1 : Value), v = .agg #[.int .i64 (x.1), v1] ∧ Rep w S v1 (fOpS x.2)
/-- .. in memory of its own -/
def QAssign (w : World) (S : Nat → Prop) (v : Value) (x : TAssign) : Prop := ∃ (v1 : Value) (P : Nat → Nat → Prop), v = .agg #[.int .i64 (x.1), v1] ∧ (∀ j b, P j b → S b) ∧ (∀ i j b, P i b → P j b → i = j) ∧ Sep w (P 1) v1 (fOpS x.2)
theorem QAssign.r {w : World} {S : Nat → Prop} {v : Value} {x : TAssign} (h : QAssign w S v x) : RAssign w S v x := by
 obtain ⟨v1, P, rfl, hP, _, h1⟩ := h
 exact ⟨v1, rfl, h1.rep.mono (hP 1)⟩
theorem RAssign.keep {w w' : World} {S : Nat → Prop} {v : Value} {x : TAssign} (h : RAssign w S v x) (hk : ∀ p : Addr, S p.block → w'.cell? p = w.cell? p) : RAssign w' S v x := by
 obtain ⟨v1, e, h1⟩ := h
 exact ⟨v1, e, h1.keep hk⟩
theorem RAssign.under {w w' : World} {S : Nat → Prop} {B : Nat} {v : Value} {x : TAssign} (h : RAssign w S v x) (hS : ∀ b, S b → b < B) (hb : Below B w w') : RAssign w' S v x := h.keep fun _p hp => hb.cell (hS _ hp)
theorem RAssign.mono {w : World} {S S' : Nat → Prop} {v : Value} {x : TAssign} (h : RAssign w S v x) (hS : ∀ b, S b → S' b) : RAssign w S' v x := by
 obtain ⟨v1, e, h1⟩ := h
 exact ⟨v1, e, h1.mono hS⟩
theorem QAssign.keep {w w' : World} {S : Nat → Prop} {v : Value} {x : TAssign} (h : QAssign w S v x) (hk : ∀ b, S b → w'.heap[b]? = w.heap[b]?) : QAssign w' S v x := by
 obtain ⟨v1, P, e, hP, hd, h1⟩ := h
 exact ⟨v1, P, e, hP, hd, h1.keep (fun b hb => hk b (hP _ b hb))⟩
theorem QAssign.mono {w : World} {S S' : Nat → Prop} {v : Value} {x : TAssign} (h : QAssign w S v x) (hS : ∀ b, S b → S' b) : QAssign w S' v x := by
 obtain ⟨v1, P, e, hP, hd, h1⟩ := h
 exact ⟨v1, P, e, fun j b hb => hS b (hP j b hb), hd, h1⟩
theorem fAssignS_row {w : World} {S : Nat → Prop} {A : Option Addr} {n c k : Nat} {l : List TAssign} (h : Rep w S (.slice A n c) (fAssignS l)) (hk : k < n) :
  ∃ (ad : Addr) (x0 : Int) (x1 : List TOp) (v1 : Value), A = some ad ∧ S ad.block ∧ l[k]? = some (x0, x1) ∧ Rep w S v1 (fOpS x1) ∧ w.cell? (ad.add (k * 2)) = some (.int .i64 x0) ∧ w.cell? (nxt (ad.add (k * 2)) 1) = some (v1) := by
 obtain ⟨ad, r, rfl, hb, hr, _, hc⟩ := h.row hk
 have hl := h.len
 rw [List.length_map] at hl
 have hx : l[k]? = some l[k] := List.getElem?_eq_getElem (by omega)
 rw [List.getElem?_map, hx] at hr
 injection hr with hr
 generalize l[k] = x at hx hr
 obtain ⟨x0, x1⟩ := x
 subst hr
 obtain ⟨v0, c0, h0⟩ := hc 0 (.int x0) rfl
 rw [h0.int_val] at c0
 obtain ⟨v1, c1, h1⟩ := hc 1 (fOpS x1) rfl
 exact ⟨ad, x0, x1, v1, rfl, hb, hx, h1, c0, by rw [nxt_add _ _ (by decide)]; exact c1⟩

theorem Tryd.infAssign : (Tryd.prog.info? 71).map (fun i => (i.zero, i.size, i.bytes)) = some (some (.agg #[.int .i64 0, .slice none 0 0]), 2, 32) := by kernel_rfl
theorem ownAssignD {w : World} {n : Nat} (hn : n ≤ maxLen) : (w.alloc (.cells (madeCells #[.int .i64 0, .slice none 0 0] (n * 2)) 71)).ownsRow w.heap.size 71 2 (.slice (some ⟨w.heap.size, 0, none⟩) n n) n (madeCells #[.int .i64 0, .slice none 0 0] (n * 2)).toList :=
 ⟨by simp [size_madeCells], .inr ⟨w.heap.size, n, madeCells #[.int .i64 0, .slice none 0 0] (n * 2), rfl, Nat.le_refl _, heap_alloc_new w _, Nat.le_refl _, hn, by simp [size_madeCells], by rw [List.take_of_length_le]; simp [size_madeCells]⟩⟩
theorem setAssign_old {xs : List Value} {k p : Nat} {a0 a1 : Value} (h : p < k * 2) : ((xs.set (k * 2) a0).set (k * 2 + 1) a1)[p]? = xs[p]? := by
 rw [List.getElem?_set_ne (by omega), List.getElem?_set_ne (by omega)]
theorem setAssign_new {xs : List Value} {k : Nat} {a0 a1 : Value} (h : k * 2 + 1 < xs.length) :
  ((xs.set (k * 2) a0).set (k * 2 + 1) a1)[k * 2 + 0]? = some a0 ∧ ((xs.set (k * 2) a0).set (k * 2 + 1) a1)[k * 2 + 1]? = some a1 := by
 refine ⟨?_, ?_⟩
 ·rw [List.getElem?_set_ne (by omega)]
  exact List.getElem?_set_self (by omega)
 ·rw [List.getElem?_set_self (by simp; omega)]

set_option maxRecDepth 100000 in
set_option maxHeartbeats 4000000 in
theorem d_eqAssign {w : World} {S S' : Nat → Prop} {v v' : Value} {x : TAssign} (hz : sAssign x ≤ 1048576) (h : RAssign w S v x) (h' : RAssign w S' v' x) (hS : ∀ b, S b → b < w.heap.size) (hS' : ∀ b, S' b → b < w.heap.size) :
  Calls Tryd.prog 103 #[v, v'] w fun e w' => e = .returned (.bool true) ∧ Below w.heap.size w w' := by
 obtain ⟨x0, x1⟩ := x
 obtain ⟨v1, rfl, h1⟩ := h
 obtain ⟨u1, rfl, h1'⟩ := h'
 simp only [sAssign] at hz
 go_enter Tryd.func103, Tryd.ntmps103
 go_wp2_with fail
 refine (d_eqOpS (by omega) (h1.under hS bel_) (h1'.under hS' bel_) (fun b hb => by have := hS b hb; (try simp) <;> omega) (fun b hb => by have := hS' b hb; (try simp) <;> omega)).mono ?_
 rintro e w1 ⟨rfl, hb1⟩
 have z1 := hb1.size
 try simp at z1
 (try have y1_0 : w.heap.size < w1.heap.size := (by omega))
 have q1_0 := fun o => (bcell hb1).1 (w.heap.size) o (by (try simp) <;> (try omega))
 have p1_0 := fun o => (bcell hb1).2 (w.heap.size) o (by (try simp) <;> (try omega))
 (try have y1_1 : w.heap.size + 1 < w1.heap.size := (by omega))
 have q1_1 := fun o => (bcell hb1).1 (w.heap.size + 1) o (by (try simp) <;> (try omega))
 have p1_1 := fun o => (bcell hb1).2 (w.heap.size + 1) o (by (try simp) <;> (try omega))
 go_wp2_with fail
 go_ret
 exact ⟨rfl, bel_⟩

set_option maxRecDepth 100000 in
set_option maxHeartbeats 4000000 in
theorem d_eqAssignS {w : World} {S S' : Nat → Prop} {v v' : Value} {l : List TAssign} (hz : szL sAssign l ≤ 1048576) (h : Rep w S v (fAssignS l)) (h' : Rep w S' v' (fAssignS l)) (hS : ∀ b, S b → b < w.heap.size) (hS' : ∀ b, S' b → b < w.heap.size) :
  Calls Tryd.prog 78 #[v, v'] w fun e w' => e = .returned (.bool true) ∧ Below w.heap.size w w' := by
 obtain ⟨A, c, rfl, hm⟩ := h.sl_val
 obtain ⟨A', c', rfl, _⟩ := h'.sl_val
 rw [List.length_map] at hm h h' ⊢
 unfold maxLen at hm
 obtain ⟨n, hl⟩ : ∃ n, l.length = n := ⟨_, rfl⟩
 rw [hl] at h h' hm ⊢
 have Hin := Lib.hid (fun x (hx : x ∈ l) => (show sAssign x ≤ 1048576 by have := nuL_el sAssign hx; unfold szL at hz; omega))
 clear hl hz
 go_enter Tryd.func78, Tryd.ntmps78
 go_wp2
 go_loopw [5] (fun i wr => ∃ k : Nat, k ≤ n ∧ i = .int .i64 k ∧ Below w.heap.size w wr) (fun i _ => n - (intOf i).toNat)
 case atStart => exact ⟨0, Nat.zero_le _, rfl, Below.refl _ _⟩
 case round =>
  obtain ⟨k, hk, rfl, hb⟩ := hrel
  have Hb := Lib.hid hb
  have hsz := hb.size
  clear hb
  by_cases hlt : k < n
  ·obtain ⟨ad, x0, x1, v1, rfl, hab, hx, h1, e0, e1⟩ := fAssignS_row (h.under hS Hb.out) hlt
   obtain ⟨ad', y0, y1, u1, rfl, hab', hx', h1', f0, f1⟩ := fAssignS_row (h'.under hS' Hb.out) hlt
   rw [hx] at hx'
   injection hx' with hx'
   simp only [Prod.mk.injEq] at hx'
   obtain ⟨rfl, rfl⟩ := hx'
   have hab1 := hS _ hab
   have hab2 := hS' _ hab'
   have hab3 : ad.block < wr.heap.size := by omega
   have hab4 : ad'.block < wr.heap.size := by omega
   have g1 : (0 : Int) ≤ (k : Int) := by omega
   have g2 : (k : Int) < (n : Int) := by omega
   have Hx := Lib.hid hx
   clear hx
   go_wp2_with fail
   refine wp_region_lexC (by kernel_rfl) (by kernel_rfl) (fun x => Below wr.heap.size wr x) ((Below.refl _ _).drew) (fun lexNE => ?_)
   have r0 := fun W : Wd (fun x => Below wr.heap.size wr x) => (W.ok.cell (p := (ad.add (k * 2))) (by rw [block_of_add]; exact hab3)).trans e0
   have s0 := fun W : Wd (fun x => Below wr.heap.size wr x) => (W.ok.cell (p := (ad'.add (k * 2))) (by rw [block_of_add]; exact hab4)).trans f0
   have r1 := fun W : Wd (fun x => Below wr.heap.size wr x) => (W.ok.cell (p := (nxt (ad.add (k * 2)) 1)) (by rw [nxt_block]; exact hab3)).trans e1
   have s1 := fun W : Wd (fun x => Below wr.heap.size wr x) => (W.ok.cell (p := (nxt (ad'.add (k * 2)) 1)) (by rw [nxt_block]; exact hab4)).trans f1
   (repeat (first | (refine lex_r fun K hK => ?_; go_big_quiet_op; refine hK _ ?_; clear hK K) | (refine lex_k fun K hK => ?_; go_simp; refine hK _ ?_; clear hK K)))
   (refine lex_e fun K hK => ?_; go_big_op)
   refine (d_eqAssign (x := (x0, x1)) (Hin.out _ (List.mem_of_getElem? Hx.out)) ⟨v1, rfl, h1.drew⟩ ⟨u1, rfl, h1'.drew⟩ (fun b hb => Nat.lt_of_lt_of_le (hS b hb) hsz) (fun b hb => Nat.lt_of_lt_of_le (hS' b hb) hsz)).mono ?_
   rintro e w6 ⟨rfl, hb6⟩
   have Hb6 := Lib.hid (Hb.out.drew.trans (hb6.mono hsz))
   refine hK _ _ (Cls.mk' ((Below.refl wr.heap.size wr).drew.trans hb6)) ?_
   clear hK K
   (repeat (first | (refine lex_r fun K hK => ?_; go_big_quiet_op; refine hK _ ?_; clear hK K) | (refine lex_k fun K hK => ?_; go_simp; refine hK _ ?_; clear hK K)))
   (refine lex_nil ?_)
   clear lexNE r0 s0 r1 s1
   go_wp2_with fail
   go_roundw
   case rel => exact ⟨k + 1, by omega, by go_num, Hb6.out⟩
   case measure => simp [intOf]; omega
  ·have hke : k = n := by omega
   subst hke
   go_wp2_with fail
   go_ret
   exact ⟨rfl, Hb.out⟩

set_option maxRecDepth 100000 in
set_option maxHeartbeats 4000000 in
theorem d_markAssignS {w : World} {S : Nat → Prop} {v : Value} {l : List TAssign} (k0 : Nat) (hk0 : k0 + nuL nAssign l ≤ 1099511627776) (h : Sep w S v (fAssignS l)) (hS : ∀ b, S b → b < w.heap.size) :
  Calls Tryd.prog 47 #[v, .int .i64 k0] w fun e w' => e = .returned (.int .i64 ((k0 + nuL nAssign l : Nat) : Int)) ∧ Sep w' S v (fAssignS (mkL kAssign nAssign k0 l)) ∧ Only S w w' := by
 obtain ⟨A, c, rfl, hm⟩ := h.sl_val
 rw [List.length_map] at hm h ⊢
 unfold maxLen at hm
 obtain ⟨n, hl⟩ : ∃ n, l.length = n := ⟨_, rfl⟩
 rw [hl] at h hm ⊢
 have H := Lib.hid h
 have Hl := Lib.hid hl
 have Hnt := Lib.hid (nuL_take nAssign l)
 clear h hl
 go_enter Tryd.func47, Tryd.ntmps47
 go_wp2_with fail
 go_loopw [1, 5] (fun kv i wr => ∃ k : Nat, k ≤ n ∧ i = .int .i64 k ∧ kv = .int .i64 ((k0 + nuL nAssign (l.take k) : Nat) : Int) ∧ Sep wr S (.slice A n c) (fAssignS (partL kAssign nAssign k0 k l)) ∧ Only S w wr) (fun _ i _ => n - (intOf i).toNat)
 case atStart => exact ⟨0, Nat.zero_le _, rfl, by simp [nuL], by rw [partL_zero]; exact H.out, Only.refl _ _⟩
 case round =>
  obtain ⟨k, hk, rfl, rfl, hs, ho⟩ := hrel
  by_cases hlt : k < n
  ·obtain ⟨x, hx⟩ : ∃ x, l[k]? = some x := ⟨_, List.getElem?_eq_getElem (by rw [Hl.out]; exact hlt)⟩
   obtain ⟨q, hq⟩ : ∃ q, q = k0 + nuL nAssign (l.take k) := ⟨_, rfl⟩
   rw [← hq]
   have hq1 := Hnt.out (k + 1)
   rw [nuL_succ nAssign hx] at hq1
   have hps := partL_succ kAssign nAssign (k := k0) hx
   rw [← hq] at hps
   have Hps := Lib.hid hps
   have Hns := Lib.hid (nuL_succ nAssign hx)
   have Hq := Lib.hid hq
   obtain ⟨x0, x1⟩ := x
   simp only [nAssign] at hq1
   have hqb : q + (1 + nuL nOp x1) ≤ 1099511627776 := by have := Hq.out; omega
   have g1 : (0 : Int) ≤ (k : Int) := by omega
   have g2 : (k : Int) < (n : Int) := by omega
   have hw0 : ∀ b, S b → b < wr.heap.size := fun b hb => Nat.lt_of_lt_of_le (hS b hb) ho.size
   have hg0 := partL_get kAssign nAssign (k := k0) hx
   have HT0 := Lib.hid hs
   have HO0 := Lib.hid ho
   have HG0 := Lib.hid hg0
   clear hx hps hq hs ho hg0
   obtain ⟨g, rfl, hgs, hf0, _⟩ := Sep.at_ (ra := rAssign) rAssign_len HT0.out hw0 HG0.out
   obtain ⟨u0, P0, c0, z0, hp0, s0, _⟩ := hf0 0 _ rfl
   obtain rfl := s0.int_val
   simp only [Nat.add_zero] at c0 z0
   clear hp0 s0
   obtain ⟨u1, P1, c1, z1, hp1, s1, _⟩ := hf0 1 _ rfl
   clear hp1 s1
   clear hf0
   have HT1 := Lib.hid (by
    obtain ⟨g', eg, _, _, hst⟩ := Sep.at_ (ra := rAssign) rAssign_len HT0.out hw0 HG0.out
    obtain rfl : g = g' := by injection eg with eg; injection eg
    exact hst 0 ((q : Nat) : Int) (((q : Nat) : Int), x1) (by decide) rfl)
   have HG1 := Lib.hid (List.getElem?_set_self (a := ((((q : Nat) : Int), x1) : TAssign)) (List.getElem?_eq_some_iff.1 HG0.out).1)
   have HO1 := Lib.hid (HO0.out.setCell (p := ⟨g, k * 2, none⟩) (.inl hgs) (.int .i64 ((q : Nat) : Int)))
   go_wp2_with fail
   obtain ⟨g', eg, _, hfx, _⟩ := Sep.at_ (ra := rAssign) rAssign_len HT1.out (fun b9 h9 => by simpa using hw0 b9 h9) HG1.out
   obtain rfl : g = g' := by injection eg with eg; injection eg
   obtain ⟨u', P, d1, _, hp, sx, hcl⟩ := hfx 1 _ rfl
   have hu : u' = u1 := by have h1 := d1; simp [go_sem, c1] at h1; exact h1.symm
   subst hu
   try dsimp only at sx
   clear hfx d1
   have Hcl1 := Lib.hid hcl
   have Hp1 := Lib.hid hp
   have hsS : ∀ b, P b → b < (wr.setCell ⟨g, k * 2, none⟩ (.int .i64 ((q : Nat) : Int))).heap.size := fun b hb => (show ∀ b, S b → b < (wr.setCell ⟨g, k * 2, none⟩ (.int .i64 ((q : Nat) : Int))).heap.size from (fun b9 h9 => by simpa using hw0 b9 h9)) b (hp b hb).1
   refine (d_markOpS (q + 1) (by omega) sx hsS).mono ?_
   clear hcl hp sx hsS
   rintro e w3 ⟨rfl, hs2, ho2⟩
   have HT2 := Lib.hid (Hcl1.out _ _ ((((q : Nat) : Int), mkL kOp nOp (q + 1) x1) : TAssign) ho2 hs2 rfl)
   have HG2 := Lib.hid (List.getElem?_set_self (a := ((((q : Nat) : Int), mkL kOp nOp (q + 1) x1) : TAssign)) (List.getElem?_eq_some_iff.1 HG1.out).1)
   have HO2 := Lib.hid (HO1.out.trans (ho2.more (fun b hb => (Hp1.out b hb).1)))
   have hw2 : ∀ b, S b → b < w3.heap.size := fun b hb => Nat.lt_of_lt_of_le (hS b hb) HO2.out.size
   clear ho2 hs2 Hcl1 Hp1
   clear c0 z0 c1 z1
   go_wp2_with fail
   go_roundw
   case rel =>
    refine ⟨k + 1, by omega, by go_num, ?_, ?_, HO2.out⟩
    ·rw [Hns.out, ← Nat.add_assoc, ← Hq.out]; (try simp only [nAssign]); go_num
    ·have h1 := HT2.out
     try simp only [List.set_set] at h1
     rw [← Hps.out]
     exact h1
   case measure => simp [intOf]; omega
  ·have hke : k = n := by omega
   subst hke
   have HS := Lib.hid hs
   have HO := Lib.hid ho
   clear hs ho
   rw [List.take_of_length_le (by rw [Hl.out]; exact Nat.le_refl _)]
   go_wp2_with fail
   go_ret
   exact ⟨rfl, by rw [← partL_all _ _ _ _ Hl.out]; exact HS.out, HO.out⟩

set_option maxRecDepth 100000 in
set_option maxHeartbeats 4000000 in
theorem d_heldAssignS {w : World} {S : Nat → Prop} {v : Value} {l : List TAssign} (k0 : Nat) (hk0 : k0 + nuL nAssign l ≤ 1099511627776) (h : Rep w S v (fAssignS (mkL kAssign nAssign k0 l))) (hS : ∀ b, S b → b < w.heap.size) :
  Calls Tryd.prog 51 #[v, .int .i64 k0] w fun e w' => e = .returned (.int .i64 ((k0 + nuL nAssign l : Nat) : Int)) ∧ Below w.heap.size w w' := by
 obtain ⟨A, c, rfl, hm⟩ := h.sl_val
 rw [List.length_map, mkL_len] at hm h ⊢
 unfold maxLen at hm
 obtain ⟨n, hl⟩ : ∃ n, l.length = n := ⟨_, rfl⟩
 rw [hl] at h hm ⊢
 have Hl := Lib.hid hl
 have Hnt := Lib.hid (nuL_take nAssign l)
 clear hl
 go_enter Tryd.func51, Tryd.ntmps51
 go_wp2_with fail
 go_loopw [1, 5] (fun kv i wr => ∃ k : Nat, k ≤ n ∧ i = .int .i64 k ∧ kv = .int .i64 ((k0 + nuL nAssign (l.take k) : Nat) : Int) ∧ Below w.heap.size w wr) (fun _ i _ => n - (intOf i).toNat)
 case atStart => exact ⟨0, Nat.zero_le _, rfl, by simp [nuL], Below.refl _ _⟩
 case round =>
  obtain ⟨k, hk, rfl, rfl, hb⟩ := hrel
  have Hb := Lib.hid hb
  have hsz := hb.size
  clear hb
  by_cases hlt : k < n
  ·obtain ⟨x, hx⟩ : ∃ x, l[k]? = some x := ⟨_, List.getElem?_eq_getElem (by rw [Hl.out]; exact hlt)⟩
   obtain ⟨q, hq⟩ : ∃ q, q = k0 + nuL nAssign (l.take k) := ⟨_, rfl⟩
   rw [← hq]
   have hq1 := Hnt.out (k + 1)
   rw [nuL_succ nAssign hx] at hq1
   have Hns := Lib.hid (nuL_succ nAssign hx)
   have Hq := Lib.hid hq
   obtain ⟨ad, y0, y1, v1, rfl, hab, hy, h1, e0, e1⟩ := fAssignS_row (h.under hS Hb.out) hlt
   rw [mkL_get kAssign nAssign k0 hx, ← hq] at hy
   injection hy with hy
   obtain ⟨x0, x1⟩ := x
   simp only [kAssign, Prod.mk.injEq] at hy
   obtain ⟨rfl, rfl⟩ := hy
   simp only [nAssign] at hq1
   have hqb : q + (1 + nuL nOp x1) ≤ 1099511627776 := by have := Hq.out; omega
   have hab1 := hS _ hab
   have g1 : (0 : Int) ≤ (k : Int) := by omega
   have g2 : (k : Int) < (n : Int) := by omega
   clear hx hq
   go_wp2_with fail
   refine (d_heldOpS (q + 1) (by omega) h1 (fun b hb => by have := hS b hb; omega)).mono ?_
   rintro e w3 ⟨rfl, hb3⟩
   have HB1 := Lib.hid (hb3)
   have zz1 := HB1.out.size
   clear hb3
   go_wp2_with fail
   go_roundw
   case rel =>
    refine ⟨k + 1, by omega, by go_num, ?_, Hb.out.trans (HB1.out.mono hsz)⟩
    rw [Hns.out, ← Nat.add_assoc, ← Hq.out]; (try simp only [nAssign]); go_num
   case measure => simp [intOf]; omega
  ·have hke : k = n := by omega
   subst hke
   rw [List.take_of_length_le (by rw [Hl.out]; exact Nat.le_refl _)]
   go_wp2_with fail
   go_ret
   exact ⟨rfl, Hb.out⟩
end Go.Proofs.YthjdigcpgpiiiaaDoor

/- Contracts: Inst in the laws: the size, the copy, equality of equals, marks. -/
namespace Go.Proofs.YthjdigcpgpiiiaaDoor
open Go.RowKit

abbrev TInst := Int × Int × List Int
def rInst (x : TInst) : List Fd := [.int x.1, .int x.2.1, fIntS x.2.2]
theorem rInst_len (x : TInst) : (rInst x).length = 3 := rfl
def fInstS (l : List TInst) : Fd := .sl (l.map rInst)
theorem rInst_lens (l : List TInst) : ∀ r ∈ l.map rInst, r.length = 3 := by
 intro r hr
 obtain ⟨x, _, rfl⟩ := List.mem_map.1 hr
 rfl
def sInst (x : TInst) : Nat := szL sInt x.2.2
def nInst (x : TInst) : Nat := 1 + 1 + nuL nInt x.2.2
def kInst (k : Nat) (x : TInst) : TInst := (((k : Nat) : Int), (((k + 1) : Nat) : Int), mkL kInt nInt ((k + 1) + 1) x.2.2)
theorem nInst_le (x : TInst) : nInst x ≤ 4 + 4 * sInst x := by simp only [nInst, sInst]; have h2 := nuL_Int_le x.2.2; omega
theorem nuL_Inst_le (l : List TInst) : nuL nInst l ≤ 4 * szL sInst l := nuL_le4 (fun x => by have := nInst_le x; omega) l
/-- v is such a struct -/
def RInst (w : World) (S : Nat → Prop) (v : Value) (x : TInst) : Prop := ∃ (v2 : Value), v = .agg #[.int .i64 (x.1), .int .i64 (x.2.1), v2] ∧ Rep w S v2 (fIntS x.2.2)
/-- .. in memory of its own -/
def QInst (w : World) (S : Nat → Prop) (v : Value) (x : TInst) : Prop := ∃ (v2 : Value) (P : Nat → Nat → Prop), v = .agg #[.int .i64 (x.1), .int .i64 (x.2.1), v2] ∧ (∀ j b, P j b → S b) ∧ (∀ i j b, P i b → P j b → i = j) ∧ Sep w (P 2) v2 (fIntS x.2.2)
theorem QInst.r {w : World} {S : Nat → Prop} {v : Value} {x : TInst} (h : QInst w S v x) : RInst w S v x := by
 obtain ⟨v2, P, rfl, hP, _, h2⟩ := h
 exact ⟨v2, rfl, h2.rep.mono (hP 2)⟩
theorem RInst.keep {w w' : World} {S : Nat → Prop} {v : Value} {x : TInst} (h : RInst w S v x) (hk : ∀ p : Addr, S p.block → w'.cell? p = w.cell? p) : RInst w' S v x := by
 obtain ⟨v2, e, h2⟩ := h
 exact ⟨v2, e, h2.keep hk⟩
theorem RInst.under {w w' : World} {S : Nat → Prop} {B : Nat} {v : Value} {x : TInst} (h : RInst w S v x) (hS : ∀ b, S b → b < B) (hb : Below B w w') : RInst w' S v x := h.keep fun _p hp => hb.cell (hS _ hp)
theorem RInst.mono {w : World} {S S' : Nat → Prop} {v : Value} {x : TInst} (h : RInst w S v x) (hS : ∀ b, S b → S' b) : RInst w S' v x := by
 obtain ⟨v2, e, h2⟩ := h
 exact ⟨v2, e, h2.mono hS⟩
theorem QInst.keep {w w' : World} {S : Nat → Prop} {v : Value} {x : TInst} (h : QInst w S v x) (hk : ∀ b, S b → w'.heap[b]? = w.heap[b]?) : QInst w' S v x := by
 obtain ⟨v2, P, e, hP, hd, h2⟩ := h
 exact ⟨v2, P, e, hP, hd, h2.keep (fun b hb => hk b (hP _ b hb))⟩
theorem QInst.mono {w : World} {S S' : Nat → Prop} {v : Value} {x : TInst} (h : QInst w S v x) (hS : ∀ b, S b → S' b) : QInst w S' v x := by
 obtain ⟨v2, P, e, hP, hd, h2⟩ := h
 exact ⟨v2, P, e, fun j b hb => hS b (hP j b hb), hd, h2⟩
theorem fInstS_row {w : World} {S : Nat → Prop} {A : Option Addr} {n c k : Nat} {l : List TInst} (h : Rep w S (.slice A n c) (fInstS l)) (hk : k < n) :
  ∃ (ad : Addr) (x0 : Int) (x1 : Int) (x2 : List Int) (v2 : Value), A = some ad ∧ S ad.block ∧ l[k]? = some (x0, x1, x2) ∧ Rep w S v2 (fIntS x2) ∧ w.cell? (ad.add (k * 3)) = some (.int .i64 x0) ∧ w.cell? (nxt (ad.add (k * 3)) 1) = some (.int .i64 x1) ∧ w.cell? (nxt (ad.add (k * 3)) 2) = some (v2) := by
 obtain ⟨ad, r, rfl, hb, hr, _, hc⟩ := h.row hk
 have hl := h.len
 rw [List.length_map] at hl
 have hx : l[k]? = some l[k] := List.getElem?_eq_getElem (by omega)
 rw [List.getElem?_map, hx] at hr
 injection hr with hr
 generalize l[k] = x at hx hr
 obtain ⟨x0, x1, x2⟩ := x
 subst hr
 obtain ⟨v0, c0, h0⟩ := hc 0 (.int x0) rfl
 rw [h0.int_val] at c0
 obtain ⟨v1, c1, h1⟩ := hc 1 (.int x1) rfl
 rw [h1.int_val] at c1
 obtain ⟨v2, c2, h2⟩ := hc 2 (fIntS x2) rfl
 exact ⟨ad, x0, x1, x2, v2, rfl, hb, hx, h2, c0, by rw [nxt_add _ _ (by decide)]; exact c1, by rw [nxt_add _ _ (by decide)]; exact c2⟩

theorem Tryd.infInst : (Tryd.prog.info? 78).map (fun i => (i.zero, i.size, i.bytes)) = some (some (.agg #[.int .i64 0, .int .i64 0, .slice none 0 0]), 3, 40) := by kernel_rfl
theorem ownInstD {w : World} {n : Nat} (hn : n ≤ maxLen) : (w.alloc (.cells (madeCells #[.int .i64 0, .int .i64 0, .slice none 0 0] (n * 3)) 78)).ownsRow w.heap.size 78 3 (.slice (some ⟨w.heap.size, 0, none⟩) n n) n (madeCells #[.int .i64 0, .int .i64 0, .slice none 0 0] (n * 3)).toList :=
 ⟨by simp [size_madeCells], .inr ⟨w.heap.size, n, madeCells #[.int .i64 0, .int .i64 0, .slice none 0 0] (n * 3), rfl, Nat.le_refl _, heap_alloc_new w _, Nat.le_refl _, hn, by simp [size_madeCells], by rw [List.take_of_length_le]; simp [size_madeCells]⟩⟩
theorem setInst_old {xs : List Value} {k p : Nat} {a0 a1 a2 : Value} (h : p < k * 3) : (((xs.set (k * 3) a0).set (k * 3 + 1) a1).set (k * 3 + 2) a2)[p]? = xs[p]? := by
 rw [List.getElem?_set_ne (by omega), List.getElem?_set_ne (by omega), List.getElem?_set_ne (by omega)]
theorem setInst_new {xs : List Value} {k : Nat} {a0 a1 a2 : Value} (h : k * 3 + 2 < xs.length) :
  (((xs.set (k * 3) a0).set (k * 3 + 1) a1).set (k * 3 + 2) a2)[k * 3 + 0]? = some a0 ∧ (((xs.set (k * 3) a0).set (k * 3 + 1) a1).set (k * 3 + 2) a2)[k * 3 + 1]? = some a1 ∧ (((xs.set (k * 3) a0).set (k * 3 + 1) a1).set (k * 3 + 2) a2)[k * 3 + 2]? = some a2 := by
 refine ⟨?_, ?_, ?_⟩
 ·rw [List.getElem?_set_ne (by omega), List.getElem?_set_ne (by omega)]
  exact List.getElem?_set_self (by omega)
 ·rw [List.getElem?_set_ne (by omega), List.getElem?_set_self (by simp; omega)]
 ·rw [List.getElem?_set_self (by simp; omega)]

set_option maxRecDepth 100000 in
set_option maxHeartbeats 4000000 in
theorem d_eqInst {w : World} {S S' : Nat → Prop} {v v' : Value} {x : TInst} (hz : sInst x ≤ 1048576) (h : RInst w S v x) (h' : RInst w S' v' x) (hS : ∀ b, S b → b < w.heap.size) (hS' : ∀ b, S' b → b < w.heap.size) :
  Calls Tryd.prog 104 #[v, v'] w fun e w' => e = .returned (.bool true) ∧ Below w.heap.size w w' := by
 obtain ⟨x0, x1, x2⟩ := x
 obtain ⟨v2, rfl, h2⟩ := h
 obtain ⟨u2, rfl, h2'⟩ := h'
 simp only [sInst] at hz
 go_enter Tryd.func104, Tryd.ntmps104
 go_wp2_with fail
 refine (d_eqIntS (by omega) (h2.under hS bel_) (h2'.under hS' bel_) (fun b hb => by have := hS b hb; (try simp) <;> omega) (fun b hb => by have := hS' b hb; (try simp) <;> omega)).mono ?_
 rintro e w1 ⟨rfl, hb1⟩
 have z1 := hb1.size
 try simp at z1
 (try have y1_0 : w.heap.size < w1.heap.size := (by omega))
 have q1_0 := fun o => (bcell hb1).1 (w.heap.size) o (by (try simp) <;> (try omega))
 have p1_0 := fun o => (bcell hb1).2 (w.heap.size) o (by (try simp) <;> (try omega))
 (try have y1_1 : w.heap.size + 1 < w1.heap.size := (by omega))
 have q1_1 := fun o => (bcell hb1).1 (w.heap.size + 1) o (by (try simp) <;> (try omega))
 have p1_1 := fun o => (bcell hb1).2 (w.heap.size + 1) o (by (try simp) <;> (try omega))
 go_wp2_with fail
 go_ret
 exact ⟨rfl, bel_⟩

set_option maxRecDepth 100000 in
set_option maxHeartbeats 4000000 in
theorem d_eqInstS {w : World} {S S' : Nat → Prop} {v v' : Value} {l : List TInst} (hz : szL sInst l ≤ 1048576) (h : Rep w S v (fInstS l)) (h' : Rep w S' v' (fInstS l)) (hS : ∀ b, S b → b < w.heap.size) (hS' : ∀ b, S' b → b < w.heap.size) :
  Calls Tryd.prog 79 #[v, v'] w fun e w' => e = .returned (.bool true) ∧ Below w.heap.size w w' := by
 obtain ⟨A, c, rfl, hm⟩ := h.sl_val
 obtain ⟨A', c', rfl, _⟩ := h'.sl_val
 rw [List.length_map] at hm h h' ⊢
 unfold maxLen at hm
 obtain ⟨n, hl⟩ : ∃ n, l.length = n := ⟨_, rfl⟩
 rw [hl] at h h' hm ⊢
 have Hin := Lib.hid (fun x (hx : x ∈ l) => (show sInst x ≤ 1048576 by have := nuL_el sInst hx; unfold szL at hz; omega))
 clear hl hz
 go_enter Tryd.func79, Tryd.ntmps79
 go_wp2
 go_loopw [5] (fun i wr => ∃ k : Nat, k ≤ n ∧ i = .int .i64 k ∧ Below w.heap.size w wr) (fun i _ => n - (intOf i).toNat)
 case atStart => exact ⟨0, Nat.zero_le _, rfl, Below.refl _ _⟩
 case round =>
  obtain ⟨k, hk, rfl, hb⟩ := hrel
  have Hb := Lib.hid hb
  have hsz := hb.size
  clear hb
  by_cases hlt : k < n
  ·obtain ⟨ad, x0, x1, x2, v2, rfl, hab, hx, h2, e0, e1, e2⟩ := fInstS_row (h.under hS Hb.out) hlt
   obtain ⟨ad', y0, y1, y2, u2, rfl, hab', hx', h2', f0, f1, f2⟩ := fInstS_row (h'.under hS' Hb.out) hlt
   rw [hx] at hx'
   injection hx' with hx'
   simp only [Prod.mk.injEq] at hx'
   obtain ⟨rfl, rfl, rfl⟩ := hx'
   have hab1 := hS _ hab
   have hab2 := hS' _ hab'
   have hab3 : ad.block < wr.heap.size := by omega
   have hab4 : ad'.block < wr.heap.size := by omega
   have g1 : (0 : Int) ≤ (k : Int) := by omega
   have g2 : (k : Int) < (n : Int) := by omega
   have Hx := Lib.hid hx
   clear hx
   go_wp2_with fail
   refine wp_region_lexC (by kernel_rfl) (by kernel_rfl) (fun x => Below wr.heap.size wr x) ((Below.refl _ _).drew) (fun lexNE => ?_)
   have r0 := fun W : Wd (fun x => Below wr.heap.size wr x) => (W.ok.cell (p := (ad.add (k * 3))) (by rw [block_of_add]; exact hab3)).trans e0
   have s0 := fun W : Wd (fun x => Below wr.heap.size wr x) => (W.ok.cell (p := (ad'.add (k * 3))) (by rw [block_of_add]; exact hab4)).trans f0
   have r1 := fun W : Wd (fun x => Below wr.heap.size wr x) => (W.ok.cell (p := (nxt (ad.add (k * 3)) 1)) (by rw [nxt_block]; exact hab3)).trans e1
   have s1 := fun W : Wd (fun x => Below wr.heap.size wr x) => (W.ok.cell (p := (nxt (ad'.add (k * 3)) 1)) (by rw [nxt_block]; exact hab4)).trans f1
   have r2 := fun W : Wd (fun x => Below wr.heap.size wr x) => (W.ok.cell (p := (nxt (ad.add (k * 3)) 2)) (by rw [nxt_block]; exact hab3)).trans e2
   have s2 := fun W : Wd (fun x => Below wr.heap.size wr x) => (W.ok.cell (p := (nxt (ad'.add (k * 3)) 2)) (by rw [nxt_block]; exact hab4)).trans f2
   (repeat (first | (refine lex_r fun K hK => ?_; go_big_quiet_op; refine hK _ ?_; clear hK K) | (refine lex_k fun K hK => ?_; go_simp; refine hK _ ?_; clear hK K)))
   (refine lex_e fun K hK => ?_; go_big_op)
   refine (d_eqInst (x := (x0, x1, x2)) (Hin.out _ (List.mem_of_getElem? Hx.out)) ⟨v2, rfl, h2.drew⟩ ⟨u2, rfl, h2'.drew⟩ (fun b hb => Nat.lt_of_lt_of_le (hS b hb) hsz) (fun b hb => Nat.lt_of_lt_of_le (hS' b hb) hsz)).mono ?_
   rintro e w6 ⟨rfl, hb6⟩
   have Hb6 := Lib.hid (Hb.out.drew.trans (hb6.mono hsz))
   refine hK _ _ (Cls.mk' ((Below.refl wr.heap.size wr).drew.trans hb6)) ?_
   clear hK K
   (repeat (first | (refine lex_r fun K hK => ?_; go_big_quiet_op; refine hK _ ?_; clear hK K) | (refine lex_k fun K hK => ?_; go_simp; refine hK _ ?_; clear hK K)))
   (refine lex_nil ?_)
   clear lexNE r0 s0 r1 s1 r2 s2
   go_wp2_with fail
   go_roundw
   case rel => exact ⟨k + 1, by omega, by go_num, Hb6.out⟩
   case measure => simp [intOf]; omega
  ·have hke : k = n := by omega
   subst hke
   go_wp2_with fail
   go_ret
   exact ⟨rfl, Hb.out⟩

set_option maxRecDepth 100000 in
set_option maxHeartbeats 4000000 in
theorem d_markInstS {w : World} {S : Nat → Prop} {v : Value} {l : List TInst} (k0 : Nat) (hk0 : k0 + nuL nInst l ≤ 1099511627776) (h : Sep w S v (fInstS l)) (hS : ∀ b, S b → b < w.heap.size) :
  Calls Tryd.prog 48 #[v, .int .i64 k0] w fun e w' => e = .returned (.int .i64 ((k0 + nuL nInst l : Nat) : Int)) ∧ Sep w' S v (fInstS (mkL kInst nInst k0 l)) ∧ Only S w w' := by
 obtain ⟨A, c, rfl, hm⟩ := h.sl_val
 rw [List.length_map] at hm h ⊢
 unfold maxLen at hm
 obtain ⟨n, hl⟩ : ∃ n, l.length = n := ⟨_, rfl⟩
 rw [hl] at h hm ⊢
 have H := Lib.hid h
 have Hl := Lib.hid hl
 have Hnt := Lib.hid (nuL_take nInst l)
 clear h hl
 go_enter Tryd.func48, Tryd.ntmps48
 go_wp2_with fail
 go_loopw [1, 5] (fun kv i wr => ∃ k : Nat, k ≤ n ∧ i = .int .i64 k ∧ kv = .int .i64 ((k0 + nuL nInst (l.take k) : Nat) : Int) ∧ Sep wr S (.slice A n c) (fInstS (partL kInst nInst k0 k l)) ∧ Only S w wr) (fun _ i _ => n - (intOf i).toNat)
 case atStart => exact ⟨0, Nat.zero_le _, rfl, by simp [nuL], by rw [partL_zero]; exact H.out, Only.refl _ _⟩
 case round =>
  obtain ⟨k, hk, rfl, rfl, hs, ho⟩ := hrel
  by_cases hlt : k < n
  ·obtain ⟨x, hx⟩ : ∃ x, l[k]? = some x := ⟨_, List.getElem?_eq_getElem (by rw [Hl.out]; exact hlt)⟩
   obtain ⟨q, hq⟩ : ∃ q, q = k0 + nuL nInst (l.take k) := ⟨_, rfl⟩
   rw [← hq]
   have hq1 := Hnt.out (k + 1)
   rw [nuL_succ nInst hx] at hq1
   have hps := partL_succ kInst nInst (k := k0) hx
   rw [← hq] at hps
   have Hps := Lib.hid hps
   have Hns := Lib.hid (nuL_succ nInst hx)
   have Hq := Lib.hid hq
   obtain ⟨x0, x1, x2⟩ := x
   simp only [nInst] at hq1
   have hqb : q + (1 + 1 + nuL nInt x2) ≤ 1099511627776 := by have := Hq.out; omega
   have g1 : (0 : Int) ≤ (k : Int) := by omega
   have g2 : (k : Int) < (n : Int) := by omega
   have hw0 : ∀ b, S b → b < wr.heap.size := fun b hb => Nat.lt_of_lt_of_le (hS b hb) ho.size
   have hg0 := partL_get kInst nInst (k := k0) hx
   have HT0 := Lib.hid hs
   have HO0 := Lib.hid ho
   have HG0 := Lib.hid hg0
   clear hx hps hq hs ho hg0
   obtain ⟨g, rfl, hgs, hf0, _⟩ := Sep.at_ (ra := rInst) rInst_len HT0.out hw0 HG0.out
   obtain ⟨u0, P0, c0, z0, hp0, s0, _⟩ := hf0 0 _ rfl
   obtain rfl := s0.int_val
   simp only [Nat.add_zero] at c0 z0
   clear hp0 s0
   obtain ⟨u1, P1, c1, z1, hp1, s1, _⟩ := hf0 1 _ rfl
   obtain rfl := s1.int_val
   clear hp1 s1
   obtain ⟨u2, P2, c2, z2, hp2, s2, _⟩ := hf0 2 _ rfl
   clear hp2 s2
   clear hf0
   have HT1 := Lib.hid (by
    obtain ⟨g', eg, _, _, hst⟩ := Sep.at_ (ra := rInst) rInst_len HT0.out hw0 HG0.out
    obtain rfl : g = g' := by injection eg with eg; injection eg
    exact hst 0 ((q : Nat) : Int) (((q : Nat) : Int), x1, x2) (by decide) rfl)
   have HG1 := Lib.hid (List.getElem?_set_self (a := ((((q : Nat) : Int), x1, x2) : TInst)) (List.getElem?_eq_some_iff.1 HG0.out).1)
   have HO1 := Lib.hid (HO0.out.setCell (p := ⟨g, k * 3, none⟩) (.inl hgs) (.int .i64 ((q : Nat) : Int)))
   have HT2 := Lib.hid (by
    obtain ⟨g', eg, _, _, hst⟩ := Sep.at_ (ra := rInst) rInst_len HT1.out (fun b9 h9 => by simpa using hw0 b9 h9) HG1.out
    obtain rfl : g = g' := by injection eg with eg; injection eg
    exact hst 1 ((q + 1 : Nat) : Int) (((q : Nat) : Int), ((q + 1 : Nat) : Int), x2) (by decide) rfl)
   have HG2 := Lib.hid (List.getElem?_set_self (a := ((((q : Nat) : Int), ((q + 1 : Nat) : Int), x2) : TInst)) (List.getElem?_eq_some_iff.1 HG1.out).1)
   have HO2 := Lib.hid (HO1.out.setCell (p := ⟨g, k * 3 + 1, none⟩) (.inl hgs) (.int .i64 ((q + 1 : Nat) : Int)))
   go_wp2_with fail
   obtain ⟨g', eg, _, hfx, _⟩ := Sep.at_ (ra := rInst) rInst_len HT2.out (fun b9 h9 => by simpa using hw0 b9 h9) HG2.out
   obtain rfl : g = g' := by injection eg with eg; injection eg
   obtain ⟨u', P, d1, _, hp, sx, hcl⟩ := hfx 2 _ rfl
   have hu : u' = u2 := by have h1 := d1; simp [go_sem, c2] at h1; exact h1.symm
   subst hu
   try dsimp only at sx
   clear hfx d1
   have Hcl2 := Lib.hid hcl
   have Hp2 := Lib.hid hp
   have hsS : ∀ b, P b → b < ((wr.setCell ⟨g, k * 3, none⟩ (.int .i64 ((q : Nat) : Int))).setCell ⟨g, k * 3 + 1, none⟩ (.int .i64 ((q + 1 : Nat) : Int))).heap.size := fun b hb => (show ∀ b, S b → b < ((wr.setCell ⟨g, k * 3, none⟩ (.int .i64 ((q : Nat) : Int))).setCell ⟨g, k * 3 + 1, none⟩ (.int .i64 ((q + 1 : Nat) : Int))).heap.size from (fun b9 h9 => by simpa using hw0 b9 h9)) b (hp b hb).1
   refine (d_markIntS (q + 1 + 1) (by omega) sx hsS).mono ?_
   clear hcl hp sx hsS
   rintro e w4 ⟨rfl, hs2, ho2⟩
   have HT3 := Lib.hid (Hcl2.out _ _ ((((q : Nat) : Int), ((q + 1 : Nat) : Int), mkL kInt nInt (q + 1 + 1) x2) : TInst) ho2 hs2 rfl)
   have HG3 := Lib.hid (List.getElem?_set_self (a := ((((q : Nat) : Int), ((q + 1 : Nat) : Int), mkL kInt nInt (q + 1 + 1) x2) : TInst)) (List.getElem?_eq_some_iff.1 HG2.out).1)
   have HO3 := Lib.hid (HO2.out.trans (ho2.more (fun b hb => (Hp2.out b hb).1)))
   have hw3 : ∀ b, S b → b < w4.heap.size := fun b hb => Nat.lt_of_lt_of_le (hS b hb) HO3.out.size
   clear ho2 hs2 Hcl2 Hp2
   clear c0 z0 c1 z1 c2 z2
   go_wp2_with fail
   go_roundw
   case rel =>
    refine ⟨k + 1, by omega, by go_num, ?_, ?_, HO3.out⟩
    ·rw [Hns.out, ← Nat.add_assoc, ← Hq.out]; (try simp only [nInst]); go_num
    ·have h1 := HT3.out
     try simp only [List.set_set] at h1
     rw [← Hps.out]
     exact h1
   case measure => simp [intOf]; omega
  ·have hke : k = n := by omega
   subst hke
   have HS := Lib.hid hs
   have HO := Lib.hid ho
   clear hs ho
   rw [List.take_of_length_le (by rw [Hl.out]; exact Nat.le_refl _)]
   go_wp2_with fail
   go_ret
   exact ⟨rfl, by rw [← partL_all _ _ _ _ Hl.out]; exact HS.out, HO.out⟩

set_option maxRecDepth 100000 in
set_option maxHeartbeats 4000000 in
theorem d_heldInstS {w : World} {S : Nat → Prop} {v : Value} {l : List TInst} (k0 : Nat) (hk0 : k0 + nuL nInst l ≤ 1099511627776) (h : Rep w S v (fInstS (mkL kInst nInst k0 l))) (hS : ∀ b, S b → b < w.heap.size) :
  Calls Tryd.prog 52 #[v, .int .i64 k0] w fun e w' => e = .returned (.int .i64 ((k0 + nuL nInst l : Nat) : Int)) ∧ Below w.heap.size w w' := by
 obtain ⟨A, c, rfl, hm⟩ := h.sl_val
 rw [List.length_map, mkL_len] at hm h ⊢
 unfold maxLen at hm
 obtain ⟨n, hl⟩ : ∃ n, l.length = n := ⟨_, rfl⟩
 rw [hl] at h hm ⊢
 have Hl := Lib.hid hl
 have Hnt := Lib.hid (nuL_take nInst l)
 clear hl
 go_enter Tryd.func52, Tryd.ntmps52
 go_wp2_with fail
 go_loopw [1, 5] (fun kv i wr => ∃ k : Nat, k ≤ n ∧ i = .int .i64 k ∧ kv = .int .i64 ((k0 + nuL nInst (l.take k) : Nat) : Int) ∧ Below w.heap.size w wr) (fun _ i _ => n - (intOf i).toNat)
 case atStart => exact ⟨0, Nat.zero_le _, rfl, by simp [nuL], Below.refl _ _⟩
 case round =>
  obtain ⟨k, hk, rfl, rfl, hb⟩ := hrel
  have Hb := Lib.hid hb
  have hsz := hb.size
  clear hb
  by_cases hlt : k < n
  ·obtain ⟨x, hx⟩ : ∃ x, l[k]? = some x := ⟨_, List.getElem?_eq_getElem (by rw [Hl.out]; exact hlt)⟩
   obtain ⟨q, hq⟩ : ∃ q, q = k0 + nuL nInst (l.take k) := ⟨_, rfl⟩
   rw [← hq]
   have hq1 := Hnt.out (k + 1)
   rw [nuL_succ nInst hx] at hq1
   have Hns := Lib.hid (nuL_succ nInst hx)
   have Hq := Lib.hid hq
   obtain ⟨ad, y0, y1, y2, v2, rfl, hab, hy, h2, e0, e1, e2⟩ := fInstS_row (h.under hS Hb.out) hlt
   rw [mkL_get kInst nInst k0 hx, ← hq] at hy
   injection hy with hy
   obtain ⟨x0, x1, x2⟩ := x
   simp only [kInst, Prod.mk.injEq] at hy
   obtain ⟨rfl, rfl, rfl⟩ := hy
   simp only [nInst] at hq1
   have hqb : q + (1 + 1 + nuL nInt x2) ≤ 1099511627776 := by have := Hq.out; omega
   have hab1 := hS _ hab
   have g1 : (0 : Int) ≤ (k : Int) := by omega
   have g2 : (k : Int) < (n : Int) := by omega
   clear hx hq
   go_wp2_with fail
   refine (d_heldIntS (q + 1 + 1) (by omega) h2 (fun b hb => by have := hS b hb; omega)).mono ?_
   rintro e w4 ⟨rfl, hb4⟩
   have HB2 := Lib.hid (hb4)
   have zz2 := HB2.out.size
   clear hb4
   go_wp2_with fail
   go_roundw
   case rel =>
    refine ⟨k + 1, by omega, by go_num, ?_, Hb.out.trans (HB2.out.mono hsz)⟩
    rw [Hns.out, ← Nat.add_assoc, ← Hq.out]; (try simp only [nInst]); go_num
   case measure => simp [intOf]; omega
  ·have hke : k = n := by omega
   subst hke
   rw [List.take_of_length_le (by rw [Hl.out]; exact Nat.le_refl _)]
   go_wp2_with fail
   go_ret
   exact ⟨rfl, Hb.out⟩
end Go.Proofs.YthjdigcpgpiiiaaDoor

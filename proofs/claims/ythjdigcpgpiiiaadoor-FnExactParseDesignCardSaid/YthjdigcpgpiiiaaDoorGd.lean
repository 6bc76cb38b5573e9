/- Words and contracts that later texts use. -/
import Derived.Test.YthjdigcpgpiiiaaDoorGc
import Derived.Outline
/- Contracts: Signal in the laws: the size, the copy, equality of equals, marks. -/
namespace Go.Proofs.YthjdigcpgpiiiaaDoor
open Go.RowKit

abbrev TSignal := Int × Int × Int
def rSignal (x : TSignal) : List Fd := [.int x.1, .int x.2.1, .int x.2.2]
theorem rSignal_len (x : TSignal) : (rSignal x).length = 3 := rfl
def fSignalS (l : List TSignal) : Fd := .sl (l.map rSignal)
theorem rSignal_lens (l : List TSignal) : ∀ r ∈ l.map rSignal, r.length = 3 := by
 intro r hr
 obtain ⟨x, _, rfl⟩ := List.mem_map.1 hr
 rfl
def sSignal (_ : TSignal) : Nat := 0
def nSignal (_ : TSignal) : Nat := 1 + 1 + 1
def kSignal (k : Nat) (_ : TSignal) : TSignal := (((k : Nat) : Int), (((k + 1) : Nat) : Int), ((((k + 1) + 1) : Nat) : Int))
theorem nSignal_le (x : TSignal) : nSignal x ≤ 4 + 4 * sSignal x := by simp only [nSignal, sSignal]; omega
theorem nuL_Signal_le (l : List TSignal) : nuL nSignal l ≤ 4 * szL sSignal l := nuL_le4 (fun x => by have := nSignal_le x; omega) l
/-- v is such a struct -/
def RSignal (_w : World) (_S : Nat → Prop) (v : Value) (x : TSignal) : Prop := v = .agg #[.int .i64 (x.1), .int .i64 (x.2.1), .int .i64 (x.2.2)]
/-- .. in memory of its own -/
def QSignal (_w : World) (S : Nat → Prop) (v : Value) (x : TSignal) : Prop := ∃  (P : Nat → Nat → Prop), v = .agg #[.int .i64 (x.1), .int .i64 (x.2.1), .int .i64 (x.2.2)] ∧ (∀ j b, P j b → S b) ∧ (∀ i j b, P i b → P j b → i = j)
theorem QSignal.r {w : World} {S : Nat → Prop} {v : Value} {x : TSignal} (h : QSignal w S v x) : RSignal w S v x := by
 obtain ⟨P, rfl, hP, _⟩ := h
 exact rfl
theorem fSignalS_row {w : World} {S : Nat → Prop} {A : Option Addr} {n c k : Nat} {l : List TSignal} (h : Rep w S (.slice A n c) (fSignalS l)) (hk : k < n) :
  ∃ (ad : Addr) (x0 : Int) (x1 : Int) (x2 : Int), A = some ad ∧ S ad.block ∧ l[k]? = some (x0, x1, x2) ∧ w.cell? (ad.add (k * 3)) = some (.int .i64 x0) ∧ w.cell? (nxt (ad.add (k * 3)) 1) = some (.int .i64 x1) ∧ w.cell? (nxt (ad.add (k * 3)) 2) = some (.int .i64 x2) := by
 obtain ⟨ad, r, rfl, hb, hr, _, hc⟩ := h.row hk
 have hl := h.len
 rw [List.length_map] at hl
 have hx : l[k]? = some l[k] := List.getElem?_eq_getElem (by omega)
 rw [List.getElem?_map, hx] at hr
 injection hr with hr
 generalize l[k] = x at hx hr
 obtain ⟨x0, x1, x2⟩ := x
 subst hr
 obtain ⟨v0, c0, h0⟩ := hc 0 (.int x0) rfl
 rw [h0.int_val] at c0
 obtain ⟨v1, c1, h1⟩ := hc 1 (.int x1) rfl
 rw [h1.int_val] at c1
 obtain ⟨v2, c2, h2⟩ := hc 2 (.int x2) rfl
 rw [h2.int_val] at c2
 exact ⟨ad, x0, x1, x2, rfl, hb, hx, c0, by rw [nxt_add _ _ (by decide)]; exact c1, by rw [nxt_add _ _ (by decide)]; exact c2⟩

theorem Tryd.infSignal : (Tryd.prog.info? 66).map (fun i => (i.zero, i.size, i.bytes)) = some (some (.agg #[.int .i64 0, .int .i64 0, .int .i64 0]), 3, 24) := by kernel_rfl
theorem ownSignalD {w : World} {n : Nat} (hn : n ≤ maxLen) : (w.alloc (.cells (madeCells #[.int .i64 0, .int .i64 0, .int .i64 0] (n * 3)) 66)).ownsRow w.heap.size 66 3 (.slice (some ⟨w.heap.size, 0, none⟩) n n) n (madeCells #[.int .i64 0, .int .i64 0, .int .i64 0] (n * 3)).toList :=
 ⟨by simp [size_madeCells], .inr ⟨w.heap.size, n, madeCells #[.int .i64 0, .int .i64 0, .int .i64 0] (n * 3), rfl, Nat.le_refl _, heap_alloc_new w _, Nat.le_refl _, hn, by simp [size_madeCells], by rw [List.take_of_length_le]; simp [size_madeCells]⟩⟩
theorem setSignal_old {xs : List Value} {k p : Nat} {a0 a1 a2 : Value} (h : p < k * 3) : (((xs.set (k * 3) a0).set (k * 3 + 1) a1).set (k * 3 + 2) a2)[p]? = xs[p]? := by
 rw [List.getElem?_set_ne (by omega), List.getElem?_set_ne (by omega), List.getElem?_set_ne (by omega)]
theorem setSignal_new {xs : List Value} {k : Nat} {a0 a1 a2 : Value} (h : k * 3 + 2 < xs.length) :
  (((xs.set (k * 3) a0).set (k * 3 + 1) a1).set (k * 3 + 2) a2)[k * 3 + 0]? = some a0 ∧ (((xs.set (k * 3) a0).set (k * 3 + 1) a1).set (k * 3 + 2) a2)[k * 3 + 1]? = some a1 ∧ (((xs.set (k * 3) a0).set (k * 3 + 1) a1).set (k * 3 + 2) a2)[k * 3 + 2]? = some a2 := by
 refine ⟨?_, ?_, ?_⟩
 ·rw [List.getElem?_set_ne (by omega), List.getElem?_set_ne (by omega)]
  exact List.getElem?_set_self (by omega)
 ·rw [List.getElem?_set_ne (by omega), List.getElem?_set_self (by simp; omega)]
 ·rw [List.getElem?_set_self (by simp; omega)]

set_option maxRecDepth 100000 in
set_option maxHeartbeats 4000000 in
theorem d_eqSignal {w : World} {S S' : Nat → Prop} {v v' : Value} {x : TSignal} (h : RSignal w S v x) (h' : RSignal w S' v' x) :
  Calls Tryd.prog 102 #[v, v'] w fun e w' => e = .returned (.bool true) ∧ Below w.heap.size w w' := by
 obtain ⟨x0, x1, x2⟩ := x
 obtain rfl := h
 obtain rfl := h'
 go_enter Tryd.func102, Tryd.ntmps102
 go_wp2_with fail
 go_ret
 exact ⟨rfl, bel_⟩

set_option maxRecDepth 100000 in
set_option maxHeartbeats 4000000 in
theorem d_eqSignalS {w : World} {S S' : Nat → Prop} {v v' : Value} {l : List TSignal} (hz : szL sSignal l ≤ 1048576) (h : Rep w S v (fSignalS l)) (h' : Rep w S' v' (fSignalS l)) (hS : ∀ b, S b → b < w.heap.size) (hS' : ∀ b, S' b → b < w.heap.size) :
  Calls Tryd.prog 77 #[v, v'] w fun e w' => e = .returned (.bool true) ∧ Below w.heap.size w w' := by
 obtain ⟨A, c, rfl, hm⟩ := h.sl_val
 obtain ⟨A', c', rfl, _⟩ := h'.sl_val
 rw [List.length_map] at hm h h' ⊢
 unfold maxLen at hm
 obtain ⟨n, hl⟩ : ∃ n, l.length = n := ⟨_, rfl⟩
 rw [hl] at h h' hm ⊢
 have Hin := Lib.hid (fun x (hx : x ∈ l) => (show sSignal x ≤ 1048576 by have := nuL_el sSignal hx; unfold szL at hz; omega))
 clear hl hz
 go_enter Tryd.func77, Tryd.ntmps77
 go_wp2
 go_loopw [5] (fun i wr => ∃ k : Nat, k ≤ n ∧ i = .int .i64 k ∧ Below w.heap.size w wr) (fun i _ => n - (intOf i).toNat)
 case atStart => exact ⟨0, Nat.zero_le _, rfl, Below.refl _ _⟩
 case round =>
  obtain ⟨k, hk, rfl, hb⟩ := hrel
  have Hb := Lib.hid hb
  have hsz := hb.size
  clear hb
  by_cases hlt : k < n
  ·obtain ⟨ad, x0, x1, x2, rfl, hab, hx, e0, e1, e2⟩ := fSignalS_row (h.under hS Hb.out) hlt
   obtain ⟨ad', y0, y1, y2, rfl, hab', hx', f0, f1, f2⟩ := fSignalS_row (h'.under hS' Hb.out) hlt
   rw [hx] at hx'
   injection hx' with hx'
   simp only [Prod.mk.injEq] at hx'
   obtain ⟨rfl, rfl, rfl⟩ := hx'
   have hab1 := hS _ hab
   have hab2 := hS' _ hab'
   have hab3 : ad.block < wr.heap.size := by omega
   have hab4 : ad'.block < wr.heap.size := by omega
   have g1 : (0 : Int) ≤ (k : Int) := by omega
   have g2 : (k : Int) < (n : Int) := by omega
   have Hx := Lib.hid hx
   clear hx
   go_wp2_with fail
   refine wp_region_lexC (by kernel_rfl) (by kernel_rfl) (fun x => Below wr.heap.size wr x) ((Below.refl _ _).drew) (fun lexNE => ?_)
   have r0 := fun W : Wd (fun x => Below wr.heap.size wr x) => (W.ok.cell (p := (ad.add (k * 3))) (by rw [block_of_add]; exact hab3)).trans e0
   have s0 := fun W : Wd (fun x => Below wr.heap.size wr x) => (W.ok.cell (p := (ad'.add (k * 3))) (by rw [block_of_add]; exact hab4)).trans f0
   have r1 := fun W : Wd (fun x => Below wr.heap.size wr x) => (W.ok.cell (p := (nxt (ad.add (k * 3)) 1)) (by rw [nxt_block]; exact hab3)).trans e1
   have s1 := fun W : Wd (fun x => Below wr.heap.size wr x) => (W.ok.cell (p := (nxt (ad'.add (k * 3)) 1)) (by rw [nxt_block]; exact hab4)).trans f1
   have r2 := fun W : Wd (fun x => Below wr.heap.size wr x) => (W.ok.cell (p := (nxt (ad.add (k * 3)) 2)) (by rw [nxt_block]; exact hab3)).trans e2
   have s2 := fun W : Wd (fun x => Below wr.heap.size wr x) => (W.ok.cell (p := (nxt (ad'.add (k * 3)) 2)) (by rw [nxt_block]; exact hab4)).trans f2
   (repeat (first | (refine lex_r fun K hK => ?_; go_big_quiet_op; refine hK _ ?_; clear hK K) | (refine lex_k fun K hK => ?_; go_simp; refine hK _ ?_; clear hK K)))
   (refine lex_e fun K hK => ?_; go_big_op)
   refine (d_eqSignal (S := S) (S' := S) (x := (x0, x1, x2)) rfl rfl).mono ?_
   rintro e w6 ⟨rfl, hb6⟩
   have Hb6 := Lib.hid (Hb.out.drew.trans (hb6.mono hsz))
   refine hK _ _ (Cls.mk' ((Below.refl wr.heap.size wr).drew.trans hb6)) ?_
   clear hK K
   (repeat (first | (refine lex_r fun K hK => ?_; go_big_quiet_op; refine hK _ ?_; clear hK K) | (refine lex_k fun K hK => ?_; go_simp; refine hK _ ?_; clear hK K)))
   (refine lex_nil ?_)
   clear lexNE r0 s0 r1 s1 r2 s2
   go_wp2_with fail
   go_roundw
   case rel => exact ⟨k + 1, by omega, by go_num, Hb6.out⟩
   case measure => simp [intOf]; omega
  ·have hke : k = n := by omega
   subst hke
   go_wp2_with fail
   go_ret
   exact ⟨rfl, Hb.out⟩

set_option maxRecDepth 100000 in
set_option maxHeartbeats 4000000 in
theorem d_markSignalS {w : World} {S : Nat → Prop} {v : Value} {l : List TSignal} (k0 : Nat) (hk0 : k0 + nuL nSignal l ≤ 1099511627776) (h : Sep w S v (fSignalS l)) (hS : ∀ b, S b → b < w.heap.size) :
  Calls Tryd.prog 46 #[v, .int .i64 k0] w fun e w' => e = .returned (.int .i64 ((k0 + nuL nSignal l : Nat) : Int)) ∧ Sep w' S v (fSignalS (mkL kSignal nSignal k0 l)) ∧ Only S w w' := by
 obtain ⟨A, c, rfl, hm⟩ := h.sl_val
 rw [List.length_map] at hm h ⊢
 unfold maxLen at hm
 obtain ⟨n, hl⟩ : ∃ n, l.length = n := ⟨_, rfl⟩
 rw [hl] at h hm ⊢
 have H := Lib.hid h
 have Hl := Lib.hid hl
 have Hnt := Lib.hid (nuL_take nSignal l)
 clear h hl
 go_enter Tryd.func46, Tryd.ntmps46
 go_wp2_with fail
 go_loopw [1, 5] (fun kv i wr => ∃ k : Nat, k ≤ n ∧ i = .int .i64 k ∧ kv = .int .i64 ((k0 + nuL nSignal (l.take k) : Nat) : Int) ∧ Sep wr S (.slice A n c) (fSignalS (partL kSignal nSignal k0 k l)) ∧ Only S w wr) (fun _ i _ => n - (intOf i).toNat)
 case atStart => exact ⟨0, Nat.zero_le _, rfl, by simp [nuL], by rw [partL_zero]; exact H.out, Only.refl _ _⟩
 case round =>
  obtain ⟨k, hk, rfl, rfl, hs, ho⟩ := hrel
  by_cases hlt : k < n
  ·obtain ⟨x, hx⟩ : ∃ x, l[k]? = some x := ⟨_, List.getElem?_eq_getElem (by rw [Hl.out]; exact hlt)⟩
   obtain ⟨q, hq⟩ : ∃ q, q = k0 + nuL nSignal (l.take k) := ⟨_, rfl⟩
   rw [← hq]
   have hq1 := Hnt.out (k + 1)
   rw [nuL_succ nSignal hx] at hq1
   have hps := partL_succ kSignal nSignal (k := k0) hx
   rw [← hq] at hps
   have Hps := Lib.hid hps
   have Hns := Lib.hid (nuL_succ nSignal hx)
   have Hq := Lib.hid hq
   obtain ⟨x0, x1, x2⟩ := x
   simp only [nSignal] at hq1
   have hqb : q + (1 + 1 + 1) ≤ 1099511627776 := by have := Hq.out; omega
   have g1 : (0 : Int) ≤ (k : Int) := by omega
   have g2 : (k : Int) < (n : Int) := by omega
   have hw0 : ∀ b, S b → b < wr.heap.size := fun b hb => Nat.lt_of_lt_of_le (hS b hb) ho.size
   have hg0 := partL_get kSignal nSignal (k := k0) hx
   have HT0 := Lib.hid hs
   have HO0 := Lib.hid ho
   have HG0 := Lib.hid hg0
   clear hx hps hq hs ho hg0
   obtain ⟨g, rfl, hgs, hf0, _⟩ := Sep.at_ (ra := rSignal) rSignal_len HT0.out hw0 HG0.out
   obtain ⟨u0, P0, c0, z0, hp0, s0, _⟩ := hf0 0 _ rfl
   obtain rfl := s0.int_val
   simp only [Nat.add_zero] at c0 z0
   clear hp0 s0
   obtain ⟨u1, P1, c1, z1, hp1, s1, _⟩ := hf0 1 _ rfl
   obtain rfl := s1.int_val
   clear hp1 s1
   obtain ⟨u2, P2, c2, z2, hp2, s2, _⟩ := hf0 2 _ rfl
   obtain rfl := s2.int_val
   clear hp2 s2
   clear hf0
   have HT1 := Lib.hid (by
    obtain ⟨g', eg, _, _, hst⟩ := Sep.at_ (ra := rSignal) rSignal_len HT0.out hw0 HG0.out
    obtain rfl : g = g' := by injection eg with eg; injection eg
    exact hst 0 ((q : Nat) : Int) (((q : Nat) : Int), x1, x2) (by decide) rfl)
   have HG1 := Lib.hid (List.getElem?_set_self (a := ((((q : Nat) : Int), x1, x2) : TSignal)) (List.getElem?_eq_some_iff.1 HG0.out).1)
   have HO1 := Lib.hid (HO0.out.setCell (p := ⟨g, k * 3, none⟩) (.inl hgs) (.int .i64 ((q : Nat) : Int)))
   have HT2 := Lib.hid (by
    obtain ⟨g', eg, _, _, hst⟩ := Sep.at_ (ra := rSignal) rSignal_len HT1.out (fun b9 h9 => by simpa using hw0 b9 h9) HG1.out
    obtain rfl : g = g' := by injection eg with eg; injection eg
    exact hst 1 ((q + 1 : Nat) : Int) (((q : Nat) : Int), ((q + 1 : Nat) : Int), x2) (by decide) rfl)
   have HG2 := Lib.hid (List.getElem?_set_self (a := ((((q : Nat) : Int), ((q + 1 : Nat) : Int), x2) : TSignal)) (List.getElem?_eq_some_iff.1 HG1.out).1)
   have HO2 := Lib.hid (HO1.out.setCell (p := ⟨g, k * 3 + 1, none⟩) (.inl hgs) (.int .i64 ((q + 1 : Nat) : Int)))
   have HT3 := Lib.hid (by
    obtain ⟨g', eg, _, _, hst⟩ := Sep.at_ (ra := rSignal) rSignal_len HT2.out (fun b9 h9 => by simpa using hw0 b9 h9) HG2.out
    obtain rfl : g = g' := by injection eg with eg; injection eg
    exact hst 2 ((q + 1 + 1 : Nat) : Int) (((q : Nat) : Int), ((q + 1 : Nat) : Int), ((q + 1 + 1 : Nat) : Int)) (by decide) rfl)
   have HG3 := Lib.hid (List.getElem?_set_self (a := ((((q : Nat) : Int), ((q + 1 : Nat) : Int), ((q + 1 + 1 : Nat) : Int)) : TSignal)) (List.getElem?_eq_some_iff.1 HG2.out).1)
   have HO3 := Lib.hid (HO2.out.setCell (p := ⟨g, k * 3 + 2, none⟩) (.inl hgs) (.int .i64 ((q + 1 + 1 : Nat) : Int)))
   go_wp2_with fail
   go_roundw
   case rel =>
    refine ⟨k + 1, by omega, by go_num, ?_, ?_, HO3.out⟩
    ·rw [Hns.out, ← Nat.add_assoc, ← Hq.out]; (try simp only [nSignal]); go_num
    ·have h1 := HT3.out
     try simp only [List.set_set] at h1
     rw [← Hps.out]
     exact h1
   case measure => simp [intOf]; omega
  ·have hke : k = n := by omega
   subst hke
   have HS := Lib.hid hs
   have HO := Lib.hid ho
   clear hs ho
   rw [List.take_of_length_le (by rw [Hl.out]; exact Nat.le_refl _)]
   go_wp2_with fail
   go_ret
   exact ⟨rfl, by rw [← partL_all _ _ _ _ Hl.out]; exact HS.out, HO.out⟩

set_option maxRecDepth 100000 in
set_option maxHeartbeats 4000000 in
theorem d_heldSignalS {w : World} {S : Nat → Prop} {v : Value} {l : List TSignal} (k0 : Nat) (hk0 : k0 + nuL nSignal l ≤ 1099511627776) (h : Rep w S v (fSignalS (mkL kSignal nSignal k0 l))) (hS : ∀ b, S b → b < w.heap.size) :
  Calls Tryd.prog 50 #[v, .int .i64 k0] w fun e w' => e = .returned (.int .i64 ((k0 + nuL nSignal l : Nat) : Int)) ∧ Below w.heap.size w w' := by
 obtain ⟨A, c, rfl, hm⟩ := h.sl_val
 rw [List.length_map, mkL_len] at hm h ⊢
 unfold maxLen at hm
 obtain ⟨n, hl⟩ : ∃ n, l.length = n := ⟨_, rfl⟩
 rw [hl] at h hm ⊢
 have Hl := Lib.hid hl
 have Hnt := Lib.hid (nuL_take nSignal l)
 clear hl
 go_enter Tryd.func50, Tryd.ntmps50
 go_wp2_with fail
 go_loopw [1, 5] (fun kv i wr => ∃ k : Nat, k ≤ n ∧ i = .int .i64 k ∧ kv = .int .i64 ((k0 + nuL nSignal (l.take k) : Nat) : Int) ∧ Below w.heap.size w wr) (fun _ i _ => n - (intOf i).toNat)
 case atStart => exact ⟨0, Nat.zero_le _, rfl, by simp [nuL], Below.refl _ _⟩
 case round =>
  obtain ⟨k, hk, rfl, rfl, hb⟩ := hrel
  have Hb := Lib.hid hb
  have hsz := hb.size
  clear hb
  by_cases hlt : k < n
  ·obtain ⟨x, hx⟩ : ∃ x, l[k]? = some x := ⟨_, List.getElem?_eq_getElem (by rw [Hl.out]; exact hlt)⟩
   obtain ⟨q, hq⟩ : ∃ q, q = k0 + nuL nSignal (l.take k) := ⟨_, rfl⟩
   rw [← hq]
   have hq1 := Hnt.out (k + 1)
   rw [nuL_succ nSignal hx] at hq1
   have Hns := Lib.hid (nuL_succ nSignal hx)
   have Hq := Lib.hid hq
   obtain ⟨ad, y0, y1, y2, rfl, hab, hy, e0, e1, e2⟩ := fSignalS_row (h.under hS Hb.out) hlt
   rw [mkL_get kSignal nSignal k0 hx, ← hq] at hy
   injection hy with hy
   obtain ⟨x0, x1, x2⟩ := x
   simp only [kSignal, Prod.mk.injEq] at hy
   obtain ⟨rfl, rfl, rfl⟩ := hy
   simp only [nSignal] at hq1
   have hqb : q + (1 + 1 + 1) ≤ 1099511627776 := by have := Hq.out; omega
   have hab1 := hS _ hab
   have g1 : (0 : Int) ≤ (k : Int) := by omega
   have g2 : (k : Int) < (n : Int) := by omega
   clear hx hq
   go_wp2_with fail
   go_roundw
   case rel =>
    refine ⟨k + 1, by omega, by go_num, ?_, Hb.out⟩
    rw [Hns.out, ← Nat.add_assoc, ← Hq.out]; (try simp only [nSignal]); go_num
   case measure => simp [intOf]; omega
  ·have hke : k = n := by omega
   subst hke
   rw [List.take_of_length_le (by rw [Hl.out]; exact Nat.le_refl _)]
   go_wp2_with fail
   go_ret
   exact ⟨rfl, Hb.out⟩
end Go.Proofs.YthjdigcpgpiiiaaDoor

/- Contracts: Mem in the laws: the size, the copy, equality of equals, marks. -/
namespace Go.Proofs.YthjdigcpgpiiiaaDoor
open Go.RowKit

abbrev TMem := Int × Int × Int × Int
def rMem (x : TMem) : List Fd := [.int x.1, .int x.2.1, .int x.2.2.1, .int x.2.2.2]
theorem rMem_len (x : TMem) : (rMem x).length = 4 := rfl
def fMemS (l : List TMem) : Fd := .sl (l.map rMem)
theorem rMem_lens (l : List TMem) : ∀ r ∈ l.map rMem, r.length = 4 := by
 intro r hr
 obtain ⟨x, _, rfl⟩ := List.mem_map.1 hr
 rfl
def sMem (_ : TMem) : Nat := 0
def nMem (_ : TMem) : Nat := 1 + 1 + 1 + 1
def kMem (k : Nat) (_ : TMem) : TMem := (((k : Nat) : Int), (((k + 1) : Nat) : Int), ((((k + 1) + 1) : Nat) : Int), (((((k + 1) + 1) + 1) : Nat) : Int))
theorem nMem_le (x : TMem) : nMem x ≤ 4 + 4 * sMem x := by simp only [nMem, sMem]; omega
theorem nuL_Mem_le (l : List TMem) : nuL nMem l ≤ 4 * szL sMem l := nuL_le4 (fun x => by have := nMem_le x; omega) l
/-- v is such a struct -/
def RMem (_w : World) (_S : Nat → Prop) (v : Value) (x : TMem) : Prop := v = .agg #[.int .i64 (x.1), .int .i64 (x.2.1), .int .i64 (x.2.2.1), .int .i64 (x.2.2.2)]
/-- .. in memory of its own -/
def QMem (_w : World) (S : Nat → Prop) (v : Value) (x : TMem) : Prop := ∃  (P : Nat → Nat → Prop), v = .agg #[.int .i64 (x.1), .int .i64 (x.2.1), .int .i64 (x.2.2.1), .int .i64 (x.2.2.2)] ∧ (∀ j b, P j b → S b) ∧ (∀ i j b, P i b → P j b → i = j)
theorem QMem.r {w : World} {S : Nat → Prop} {v : Value} {x : TMem} (h : QMem w S v x) : RMem w S v x := by
 obtain ⟨P, rfl, hP, _⟩ := h
 exact rfl
theorem fMemS_row {w : World} {S : Nat → Prop} {A : Option Addr} {n c k : Nat} {l : List TMem} (h : Rep w S (.slice A n c) (fMemS l)) (hk : k < n) :
  ∃ (ad : Addr) (x0 : Int) (x1 : Int) (x2 : Int) (x3 : Int), A = some ad ∧ S ad.block ∧ l[k]? = some (x0, x1, x2, x3) ∧ w.cell? (ad.add (k * 4)) = some (.int .i64 x0) ∧ w.cell? (nxt (ad.add (k * 4)) 1) = some (.int .i64 x1) ∧ w.cell? (nxt (ad.add (k * 4)) 2) = some (.int .i64 x2) ∧ w.cell? (nxt (ad.add (k * 4)) 3) = some (.int .i64 x3) := by
 obtain ⟨ad, r, rfl, hb, hr, _, hc⟩ := h.row hk
 have hl := h.len
 rw [List.length_map] at hl
 have hx : l[k]? = some l[k] := List.getElem?_eq_getElem (by omega)
 rw [List.getElem?_map, hx] at hr
 injection hr with hr
 generalize l[k] = x at hx hr
 obtain ⟨x0, x1, x2, x3⟩ := x
 subst hr
 obtain ⟨v0, c0, h0⟩ := hc 0 (.int x0) rfl
 rw [h0.int_val] at c0
 obtain ⟨v1, c1, h1⟩ := hc 1 (.int x1) rfl
 rw [h1.int_val] at c1
 obtain ⟨v2, c2, h2⟩ := hc 2 (.int x2) rfl
 rw [h2.int_val] at c2
 obtain ⟨v3, c3, h3⟩ := hc 3 (.int x3) rfl
 rw [h3.int_val] at c3
 exact ⟨ad, x0, x1, x2, x3, rfl, hb, hx, c0, by rw [nxt_add _ _ (by decide)]; exact c1, by rw [nxt_add _ _ (by decide)]; exact c2, by rw [nxt_add _ _ (by decide)]; exact c3⟩

theorem Tryd.infMem : (Tryd.prog.info? 80).map (fun i => (i.zero, i.size, i.bytes)) = some (some (.agg #[.int .i64 0, .int .i64 0, .int .i64 0, .int .i64 0]), 4, 32) := by kernel_rfl
theorem ownMemD {w : World} {n : Nat} (hn : n ≤ maxLen) : (w.alloc (.cells (madeCells #[.int .i64 0, .int .i64 0, .int .i64 0, .int .i64 0] (n * 4)) 80)).ownsRow w.heap.size 80 4 (.slice (some ⟨w.heap.size, 0, none⟩) n n) n (madeCells #[.int .i64 0, .int .i64 0, .int .i64 0, .int .i64 0] (n * 4)).toList :=
 ⟨by simp [size_madeCells], .inr ⟨w.heap.size, n, madeCells #[.int .i64 0, .int .i64 0, .int .i64 0, .int .i64 0] (n * 4), rfl, Nat.le_refl _, heap_alloc_new w _, Nat.le_refl _, hn, by simp [size_madeCells], by rw [List.take_of_length_le]; simp [size_madeCells]⟩⟩
theorem setMem_old {xs : List Value} {k p : Nat} {a0 a1 a2 a3 : Value} (h : p < k * 4) : ((((xs.set (k * 4) a0).set (k * 4 + 1) a1).set (k * 4 + 2) a2).set (k * 4 + 3) a3)[p]? = xs[p]? := by
 rw [List.getElem?_set_ne (by omega), List.getElem?_set_ne (by omega), List.getElem?_set_ne (by omega), List.getElem?_set_ne (by omega)]
theorem setMem_new {xs : List Value} {k : Nat} {a0 a1 a2 a3 : Value} (h : k * 4 + 3 < xs.length) :
  ((((xs.set (k * 4) a0).set (k * 4 + 1) a1).set (k * 4 + 2) a2).set (k * 4 + 3) a3)[k * 4 + 0]? = some a0 ∧ ((((xs.set (k * 4) a0).set (k * 4 + 1) a1).set (k * 4 + 2) a2).set (k * 4 + 3) a3)[k * 4 + 1]? = some a1 ∧ ((((xs.set (k * 4) a0).set (k * 4 + 1) a1).set (k * 4 + 2) a2).set (k * 4 + 3) a3)[k * 4 + 2]? = some a2 ∧ ((((xs.set (k * 4) a0).set (k * 4 + 1) a1).set (k * 4 + 2) a2).set (k * 4 + 3) a3)[k * 4 + 3]? = some a3 := by
 refine ⟨?_, ?_, ?_, ?_⟩
 ·rw [List.getElem?_set_ne (by omega), List.getElem?_set_ne (by omega), List.getElem?_set_ne (by omega)]
  exact List.getElem?_set_self (by omega)
 ·rw [List.getElem?_set_ne (by omega), List.getElem?_set_ne (by omega), List.getElem?_set_self (by simp; omega)]
 ·rw [List.getElem?_set_ne (by omega), List.getElem?_set_self (by simp; omega)]
 ·rw [List.getElem?_set_self (by simp; omega)]

set_option maxRecDepth 100000 in
set_option maxHeartbeats 4000000 in
theorem d_eqMem {w : World} {S S' : Nat → Prop} {v v' : Value} {x : TMem} (h : RMem w S v x) (h' : RMem w S' v' x) :
  Calls Tryd.prog 105 #[v, v'] w fun e w' => e = .returned (.bool true) ∧ Below w.heap.size w w' := by
 obtain ⟨x0, x1, x2, x3⟩ := x
 obtain rfl := h
 obtain rfl := h'
 go_enter Tryd.func105, Tryd.ntmps105
 go_wp2_with fail
 go_ret
 exact ⟨rfl, bel_⟩

set_option maxRecDepth 100000 in
set_option maxHeartbeats 4000000 in
theorem d_eqMemS {w : World} {S S' : Nat → Prop} {v v' : Value} {l : List TMem} (hz : szL sMem l ≤ 1048576) (h : Rep w S v (fMemS l)) (h' : Rep w S' v' (fMemS l)) (hS : ∀ b, S b → b < w.heap.size) (hS' : ∀ b, S' b → b < w.heap.size) :
  Calls Tryd.prog 80 #[v, v'] w fun e w' => e = .returned (.bool true) ∧ Below w.heap.size w w' := by
 obtain ⟨A, c, rfl, hm⟩ := h.sl_val
 obtain ⟨A', c', rfl, _⟩ := h'.sl_val
 rw [List.length_map] at hm h h' ⊢
 unfold maxLen at hm
 obtain ⟨n, hl⟩ : ∃ n, l.length = n := ⟨_, rfl⟩
 rw [hl] at h h' hm ⊢
 have Hin := Lib.hid (fun x (hx : x ∈ l) => (show sMem x ≤ 1048576 by have := nuL_el sMem hx; unfold szL at hz; omega))
 clear hl hz
 go_enter Tryd.func80, Tryd.ntmps80
 go_wp2
 go_loopw [5] (fun i wr => ∃ k : Nat, k ≤ n ∧ i = .int .i64 k ∧ Below w.heap.size w wr) (fun i _ => n - (intOf i).toNat)
 case atStart => exact ⟨0, Nat.zero_le _, rfl, Below.refl _ _⟩
 case round =>
  obtain ⟨k, hk, rfl, hb⟩ := hrel
  have Hb := Lib.hid hb
  have hsz := hb.size
  clear hb
  by_cases hlt : k < n
  ·obtain ⟨ad, x0, x1, x2, x3, rfl, hab, hx, e0, e1, e2, e3⟩ := fMemS_row (h.under hS Hb.out) hlt
   obtain ⟨ad', y0, y1, y2, y3, rfl, hab', hx', f0, f1, f2, f3⟩ := fMemS_row (h'.under hS' Hb.out) hlt
   rw [hx] at hx'
   injection hx' with hx'
   simp only [Prod.mk.injEq] at hx'
   obtain ⟨rfl, rfl, rfl, rfl⟩ := hx'
   have hab1 := hS _ hab
   have hab2 := hS' _ hab'
   have hab3 : ad.block < wr.heap.size := by omega
   have hab4 : ad'.block < wr.heap.size := by omega
   have g1 : (0 : Int) ≤ (k : Int) := by omega
   have g2 : (k : Int) < (n : Int) := by omega
   have Hx := Lib.hid hx
   clear hx
   go_wp2_with fail
   refine wp_region_lexC (by kernel_rfl) (by kernel_rfl) (fun x => Below wr.heap.size wr x) ((Below.refl _ _).drew) (fun lexNE => ?_)
   have r0 := fun W : Wd (fun x => Below wr.heap.size wr x) => (W.ok.cell (p := (ad.add (k * 4))) (by rw [block_of_add]; exact hab3)).trans e0
   have s0 := fun W : Wd (fun x => Below wr.heap.size wr x) => (W.ok.cell (p := (ad'.add (k * 4))) (by rw [block_of_add]; exact hab4)).trans f0
   have r1 := fun W : Wd (fun x => Below wr.heap.size wr x) => (W.ok.cell (p := (nxt (ad.add (k * 4)) 1)) (by rw [nxt_block]; exact hab3)).trans e1
   have s1 := fun W : Wd (fun x => Below wr.heap.size wr x) => (W.ok.cell (p := (nxt (ad'.add (k * 4)) 1)) (by rw [nxt_block]; exact hab4)).trans f1
   have r2 := fun W : Wd (fun x => Below wr.heap.size wr x) => (W.ok.cell (p := (nxt (ad.add (k * 4)) 2)) (by rw [nxt_block]; exact hab3)).trans e2
   have s2 := fun W : Wd (fun x => Below wr.heap.size wr x) => (W.ok.cell (p := (nxt (ad'.add (k * 4)) 2)) (by rw [nxt_block]; exact hab4)).trans f2
   have r3 := fun W : Wd (fun x => Below wr.heap.size wr x) => (W.ok.cell (p := (nxt (ad.add (k * 4)) 3)) (by rw [nxt_block]; exact hab3)).trans e3
   have s3 := fun W : Wd (fun x => Below wr.heap.size wr x) => (W.ok.cell (p := (nxt (ad'.add (k * 4)) 3)) (by rw [nxt_block]; exact hab4)).trans f3
   (repeat (first | (refine lex_r fun K hK => ?_; go_big_quiet_op; refine hK _ ?_; clear hK K) | (refine lex_k fun K hK => ?_; go_simp; refine hK _ ?_; clear hK K)))
   (refine lex_e fun K hK => ?_; go_big_op)
   refine (d_eqMem (S := S) (S' := S) (x := (x0, x1, x2, x3)) rfl rfl).mono ?_
   rintro e w6 ⟨rfl, hb6⟩
   have Hb6 := Lib.hid (Hb.out.drew.trans (hb6.mono hsz))
   refine hK _ _ (Cls.mk' ((Below.refl wr.heap.size wr).drew.trans hb6)) ?_
   clear hK K
   (repeat (first | (refine lex_r fun K hK => ?_; go_big_quiet_op; refine hK _ ?_; clear hK K) | (refine lex_k fun K hK => ?_; go_simp; refine hK _ ?_; clear hK K)))
   (refine lex_nil ?_)
   clear lexNE r0 s0 r1 s1 r2 s2 r3 s3
   go_wp2_with fail
   go_roundw
   case rel => exact ⟨k + 1, by omega, by go_num, Hb6.out⟩
   case measure => simp [intOf]; omega
  ·have hke : k = n := by omega
   subst hke
   go_wp2_with fail
   go_ret
   exact ⟨rfl, Hb.out⟩

set_option maxRecDepth 100000 in
set_option maxHeartbeats 4000000 in
theorem d_markMemS {w : World} {S : Nat → Prop} {v : Value} {l : List TMem} (k0 : Nat) (hk0 : k0 + nuL nMem l ≤ 1099511627776) (h : Sep w S v (fMemS l)) (hS : ∀ b, S b → b < w.heap.size) :
  Calls Tryd.prog 49 #[v, .int .i64 k0] w fun e w' => e = .returned (.int .i64 ((k0 + nuL nMem l : Nat) : Int)) ∧ Sep w' S v (fMemS (mkL kMem nMem k0 l)) ∧ Only S w w' := by
 obtain ⟨A, c, rfl, hm⟩ := h.sl_val
 rw [List.length_map] at hm h ⊢
 unfold maxLen at hm
 obtain ⟨n, hl⟩ : ∃ n, l.length = n := ⟨_, rfl⟩
 rw [hl] at h hm ⊢
 have H := Lib.hid h
 have Hl := Lib.hid hl
 have Hnt := Lib.hid (nuL_take nMem l)
 clear h hl
 go_enter Tryd.func49, Tryd.ntmps49
 go_wp2_with fail
 go_loopw [1, 5] (fun kv i wr => ∃ k : Nat, k ≤ n ∧ i = .int .i64 k ∧ kv = .int .i64 ((k0 + nuL nMem (l.take k) : Nat) : Int) ∧ Sep wr S (.slice A n c) (fMemS (partL kMem nMem k0 k l)) ∧ Only S w wr) (fun _ i _ => n - (intOf i).toNat)
 case atStart => exact ⟨0, Nat.zero_le _, rfl, by simp [nuL], by rw [partL_zero]; exact H.out, Only.refl _ _⟩
 case round =>
  obtain ⟨k, hk, rfl, rfl, hs, ho⟩ := hrel
  by_cases hlt : k < n
  ·obtain ⟨x, hx⟩ : ∃ x, l[k]? = some x := ⟨_, List.getElem?_eq_getElem (by rw [Hl.out]; exact hlt)⟩
   obtain ⟨q, hq⟩ : ∃ q, q = k0 + nuL nMem (l.take k) := ⟨_, rfl⟩
   rw [← hq]
   have hq1 := Hnt.out (k + 1)
   rw [nuL_succ nMem hx] at hq1
   have hps := partL_succ kMem nMem (k := k0) hx
   rw [← hq] at hps
   have Hps := Lib.hid hps
   have Hns := Lib.hid (nuL_succ nMem hx)
   have Hq := Lib.hid hq
   obtain ⟨x0, x1, x2, x3⟩ := x
   simp only [nMem] at hq1
   have hqb : q + (1 + 1 + 1 + 1) ≤ 1099511627776 := by have := Hq.out; omega
   have g1 : (0 : Int) ≤ (k : Int) := by omega
   have g2 : (k : Int) < (n : Int) := by omega
   have hw0 : ∀ b, S b → b < wr.heap.size := fun b hb => Nat.lt_of_lt_of_le (hS b hb) ho.size
   have hg0 := partL_get kMem nMem (k := k0) hx
   have HT0 := Lib.hid hs
   have HO0 := Lib.hid ho
   have HG0 := Lib.hid hg0
   clear hx hps hq hs ho hg0
   obtain ⟨g, rfl, hgs, hf0, _⟩ := Sep.at_ (ra := rMem) rMem_len HT0.out hw0 HG0.out
   obtain ⟨u0, P0, c0, z0, hp0, s0, _⟩ := hf0 0 _ rfl
   obtain rfl := s0.int_val
   simp only [Nat.add_zero] at c0 z0
   clear hp0 s0
   obtain ⟨u1, P1, c1, z1, hp1, s1, _⟩ := hf0 1 _ rfl
   obtain rfl := s1.int_val
   clear hp1 s1
   obtain ⟨u2, P2, c2, z2, hp2, s2, _⟩ := hf0 2 _ rfl
   obtain rfl := s2.int_val
   clear hp2 s2
   obtain ⟨u3, P3, c3, z3, hp3, s3, _⟩ := hf0 3 _ rfl
   obtain rfl := s3.int_val
   clear hp3 s3
   clear hf0
   have HT1 := Lib.hid (by
    obtain ⟨g', eg, _, _, hst⟩ := Sep.at_ (ra := rMem) rMem_len HT0.out hw0 HG0.out
    obtain rfl : g = g' := by injection eg with eg; injection eg
    exact hst 0 ((q : Nat) : Int) (((q : Nat) : Int), x1, x2, x3) (by decide) rfl)
   have HG1 := Lib.hid (List.getElem?_set_self (a := ((((q : Nat) : Int), x1, x2, x3) : TMem)) (List.getElem?_eq_some_iff.1 HG0.out).1)
   have HO1 := Lib.hid (HO0.out.setCell (p := ⟨g, k * 4, none⟩) (.inl hgs) (.int .i64 ((q : Nat) : Int)))
   have HT2 := Lib.hid (by
    obtain ⟨g', eg, _, _, hst⟩ := Sep.at_ (ra := rMem) rMem_len HT1.out (fun b9 h9 => by simpa using hw0 b9 h9) HG1.out
    obtain rfl : g = g' := by injection eg with eg; injection eg
    exact hst 1 ((q + 1 : Nat) : Int) (((q : Nat) : Int), ((q + 1 : Nat) : Int), x2, x3) (by decide) rfl)
   have HG2 := Lib.hid (List.getElem?_set_self (a := ((((q : Nat) : Int), ((q + 1 : Nat) : Int), x2, x3) : TMem)) (List.getElem?_eq_some_iff.1 HG1.out).1)
   have HO2 := Lib.hid (HO1.out.setCell (p := ⟨g, k * 4 + 1, none⟩) (.inl hgs) (.int .i64 ((q + 1 : Nat) : Int)))
   have HT3 := Lib.hid (by
    obtain ⟨g', eg, _, _, hst⟩ := Sep.at_ (ra := rMem) rMem_len HT2.out (fun b9 h9 => by simpa using hw0 b9 h9) HG2.out
    obtain rfl : g = g' := by injection eg with eg; injection eg
    exact hst 2 ((q + 1 + 1 : Nat) : Int) (((q : Nat) : Int), ((q + 1 : Nat) : Int), ((q + 1 + 1 : Nat) : Int), x3) (by decide) rfl)
   have HG3 := Lib.hid (List.getElem?_set_self (a := ((((q : Nat) : Int), ((q + 1 : Nat) : Int), ((q + 1 + 1 : Nat) : Int), x3) : TMem)) (List.getElem?_eq_some_iff.1 HG2.out).1)
   have HO3 := Lib.hid (HO2.out.setCell (p := ⟨g, k * 4 + 2, none⟩) (.inl hgs) (.int .i64 ((q + 1 + 1 : Nat) : Int)))
   have HT4 := Lib.hid (by
    obtain ⟨g', eg, _, _, hst⟩ := Sep.at_ (ra := rMem) rMem_len HT3.out (fun b9 h9 => by simpa using hw0 b9 h9) HG3.out
    obtain rfl : g = g' := by injection eg with eg; injection eg
    exact hst 3 ((q + 1 + 1 + 1 : Nat) : Int) (((q : Nat) : Int), ((q + 1 : Nat) : Int), ((q + 1 + 1 : Nat) : Int), ((q + 1 + 1 + 1 : Nat) : Int)) (by decide) rfl)
   have HG4 := Lib.hid (List.getElem?_set_self (a := ((((q : Nat) : Int), ((q + 1 : Nat) : Int), ((q + 1 + 1 : Nat) : Int), ((q + 1 + 1 + 1 : Nat) : Int)) : TMem)) (List.getElem?_eq_some_iff.1 HG3.out).1)
   have HO4 := Lib.hid (HO3.out.setCell (p := ⟨g, k * 4 + 3, none⟩) (.inl hgs) (.int .i64 ((q + 1 + 1 + 1 : Nat) : Int)))
   go_wp2_with fail
   go_roundw
   case rel =>
    refine ⟨k + 1, by omega, by go_num, ?_, ?_, HO4.out⟩
    ·rw [Hns.out, ← Nat.add_assoc, ← Hq.out]; (try simp only [nMem]); go_num
    ·have h1 := HT4.out
     try simp only [List.set_set] at h1
     rw [← Hps.out]
     exact h1
   case measure => simp [intOf]; omega
  ·have hke : k = n := by omega
   subst hke
   have HS := Lib.hid hs
   have HO := Lib.hid ho
   clear hs ho
   rw [List.take_of_length_le (by rw [Hl.out]; exact Nat.le_refl _)]
   go_wp2_with fail
   go_ret
   exact ⟨rfl, by rw [← partL_all _ _ _ _ Hl.out]; exact HS.out, HO.out⟩

set_option maxRecDepth 100000 in
set_option maxHeartbeats 4000000 in
theorem d_heldMemS {w : World} {S : Nat → Prop} {v : Value} {l : List TMem} (k0 : Nat) (hk0 : k0 + nuL nMem l ≤ 1099511627776) (h : Rep w S v (fMemS (mkL kMem nMem k0 l))) (hS : ∀ b, S b → b < w.heap.size) :
  Calls Tryd.prog 53 #[v, .int .i64 k0] w fun e w' => e = .returned (.int .i64 ((k0 + nuL nMem l : Nat) : Int)) ∧ Below w.heap.size w w' := by
 obtain ⟨A, c, rfl, hm⟩ := h.sl_val
 rw [List.length_map, mkL_len] at hm h ⊢
 unfold maxLen at hm
 obtain ⟨n, hl⟩ : ∃ n, l.length = n := ⟨_, rfl⟩
 rw [hl] at h hm ⊢
 have Hl := Lib.hid hl
 have Hnt := Lib.hid (nuL_take nMem l)
 clear hl
 go_enter Tryd.func53, Tryd.ntmps53
 go_wp2_with fail
 go_loopw [1, 5] (fun kv i wr => ∃ k : Nat, k ≤ n ∧ i = .int .i64 k ∧ kv = .int .i64 ((k0 + nuL nMem (l.take k) : Nat) : Int) ∧ Below w.heap.size w wr) (fun _ i _ => n - (intOf i).toNat)
 case atStart => exact ⟨0, Nat.zero_le _, rfl, by simp [nuL], Below.refl _ _⟩
 case round =>
  obtain ⟨k, hk, rfl, rfl, hb⟩ := hrel
  have Hb := Lib.hid hb
  have hsz := hb.size
  clear hb
  by_cases hlt : k < n
  ·obtain ⟨x, hx⟩ : ∃ x, l[k]? = some x := ⟨_, List.getElem?_eq_getElem (by rw [Hl.out]; exact hlt)⟩
   obtain ⟨q, hq⟩ : ∃ q, q = k0 + nuL nMem (l.take k) := ⟨_, rfl⟩
   rw [← hq]
   have hq1 := Hnt.out (k + 1)
   rw [nuL_succ nMem hx] at hq1
   have Hns := Lib.hid (nuL_succ nMem hx)
   have Hq := Lib.hid hq
   obtain ⟨ad, y0, y1, y2, y3, rfl, hab, hy, e0, e1, e2, e3⟩ := fMemS_row (h.under hS Hb.out) hlt
   rw [mkL_get kMem nMem k0 hx, ← hq] at hy
   injection hy with hy
   obtain ⟨x0, x1, x2, x3⟩ := x
   simp only [kMem, Prod.mk.injEq] at hy
   obtain ⟨rfl, rfl, rfl, rfl⟩ := hy
   simp only [nMem] at hq1
   have hqb : q + (1 + 1 + 1 + 1) ≤ 1099511627776 := by have := Hq.out; omega
   have hab1 := hS _ hab
   have g1 : (0 : Int) ≤ (k : Int) := by omega
   have g2 : (k : Int) < (n : Int) := by omega
   clear hx hq
   go_wp2_with fail
   go_roundw
   case rel =>
    refine ⟨k + 1, by omega, by go_num, ?_, Hb.out⟩
    rw [Hns.out, ← Nat.add_assoc, ← Hq.out]; (try simp only [nMem]); go_num
   case measure => simp [intOf]; omega
  ·have hke : k = n := by omega
   subst hke
   rw [List.take_of_length_le (by rw [Hl.out]; exact Nat.le_refl _)]
   go_wp2_with fail
   go_ret
   exact ⟨rfl, Hb.out⟩
end Go.Proofs.YthjdigcpgpiiiaaDoor

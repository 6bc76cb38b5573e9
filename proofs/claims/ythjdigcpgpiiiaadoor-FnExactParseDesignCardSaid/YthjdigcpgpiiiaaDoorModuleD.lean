/- Contracts: Module in the laws: the size, the copy, equality of equals, marks. -/
import Derived.Test.YthjdigcpgpiiiaaDoorGc
import Derived.Test.YthjdigcpgpiiiaaDoorGd
import Derived.Outline
namespace Go.Proofs.YthjdigcpgpiiiaaDoor
open Go.RowKit

abbrev TModule := List TSignal × List TAssign × List TInst × List TMem
def rModule (x : TModule) : List Fd := [fSignalS x.1, fAssignS x.2.1, fInstS x.2.2.1, fMemS x.2.2.2]
theorem rModule_len (x : TModule) : (rModule x).length = 4 := rfl
def fModuleS (l : List TModule) : Fd := .sl (l.map rModule)
theorem rModule_lens (l : List TModule) : ∀ r ∈ l.map rModule, r.length = 4 := by
 intro r hr
 obtain ⟨x, _, rfl⟩ := List.mem_map.1 hr
 rfl
def sModule (x : TModule) : Nat := szL sSignal x.1 + szL sAssign x.2.1 + szL sInst x.2.2.1 + szL sMem x.2.2.2
def nModule (x : TModule) : Nat := nuL nSignal x.1 + nuL nAssign x.2.1 + nuL nInst x.2.2.1 + nuL nMem x.2.2.2
def kModule (k : Nat) (x : TModule) : TModule := (mkL kSignal nSignal k x.1, mkL kAssign nAssign (k + nuL nSignal x.1) x.2.1, mkL kInst nInst ((k + nuL nSignal x.1) + nuL nAssign x.2.1) x.2.2.1, mkL kMem nMem (((k + nuL nSignal x.1) + nuL nAssign x.2.1) + nuL nInst x.2.2.1) x.2.2.2)
theorem nModule_le (x : TModule) : nModule x ≤ 4 * sModule x := by simp only [nModule, sModule]; have h0 := nuL_Signal_le x.1; have h1 := nuL_Assign_le x.2.1; have h2 := nuL_Inst_le x.2.2.1; have h3 := nuL_Mem_le x.2.2.2; omega
theorem nuL_Module_le (l : List TModule) : nuL nModule l ≤ 4 * szL sModule l := nuL_le4 (fun x => by have := nModule_le x; omega) l
/-- v is such a struct -/
def RModule (w : World) (S : Nat → Prop) (v : Value) (x : TModule) : Prop := ∃ (v0 : Value) (v1 : Value) (v2 : Value) (v3 : Value), v = .agg #[v0, v1, v2, v3] ∧ Rep w S v0 (fSignalS x.1) ∧ Rep w S v1 (fAssignS x.2.1) ∧ Rep w S v2 (fInstS x.2.2.1) ∧ Rep w S v3 (fMemS x.2.2.2)
/-- .. in memory of its own -/
def QModule (w : World) (S : Nat → Prop) (v : Value) (x : TModule) : Prop := ∃ (v0 : Value) (v1 : Value) (v2 : Value) (v3 : Value) (P : Nat → Nat → Prop), v = .agg #[v0, v1, v2, v3] ∧ (∀ j b, P j b → S b) ∧ (∀ i j b, P i b → P j b → i = j) ∧ Sep w (P 0) v0 (fSignalS x.1) ∧ Sep w (P 1) v1 (fAssignS x.2.1) ∧ Sep w (P 2) v2 (fInstS x.2.2.1) ∧ Sep w (P 3) v3 (fMemS x.2.2.2)
theorem QModule.r {w : World} {S : Nat → Prop} {v : Value} {x : TModule} (h : QModule w S v x) : RModule w S v x := by
 obtain ⟨v0, v1, v2, v3, P, rfl, hP, _, h0, h1, h2, h3⟩ := h
 exact ⟨v0, v1, v2, v3, rfl, h0.rep.mono (hP 0), h1.rep.mono (hP 1), h2.rep.mono (hP 2), h3.rep.mono (hP 3)⟩
theorem RModule.keep {w w' : World} {S : Nat → Prop} {v : Value} {x : TModule} (h : RModule w S v x) (hk : ∀ p : Addr, S p.block → w'.cell? p = w.cell? p) : RModule w' S v x := by
 obtain ⟨v0, v1, v2, v3, e, h0, h1, h2, h3⟩ := h
 exact ⟨v0, v1, v2, v3, e, h0.keep hk, h1.keep hk, h2.keep hk, h3.keep hk⟩
theorem RModule.under {w w' : World} {S : Nat → Prop} {B : Nat} {v : Value} {x : TModule} (h : RModule w S v x) (hS : ∀ b, S b → b < B) (hb : Below B w w') : RModule w' S v x := h.keep fun _p hp => hb.cell (hS _ hp)
theorem RModule.mono {w : World} {S S' : Nat → Prop} {v : Value} {x : TModule} (h : RModule w S v x) (hS : ∀ b, S b → S' b) : RModule w S' v x := by
 obtain ⟨v0, v1, v2, v3, e, h0, h1, h2, h3⟩ := h
 exact ⟨v0, v1, v2, v3, e, h0.mono hS, h1.mono hS, h2.mono hS, h3.mono hS⟩
theorem QModule.keep {w w' : World} {S : Nat → Prop} {v : Value} {x : TModule} (h : QModule w S v x) (hk : ∀ b, S b → w'.heap[b]? = w.heap[b]?) : QModule w' S v x := by
 obtain ⟨v0, v1, v2, v3, P, e, hP, hd, h0, h1, h2, h3⟩ := h
 exact ⟨v0, v1, v2, v3, P, e, hP, hd, h0.keep (fun b hb => hk b (hP _ b hb)), h1.keep (fun b hb => hk b (hP _ b hb)), h2.keep (fun b hb => hk b (hP _ b hb)), h3.keep (fun b hb => hk b (hP _ b hb))⟩
theorem QModule.mono {w : World} {S S' : Nat → Prop} {v : Value} {x : TModule} (h : QModule w S v x) (hS : ∀ b, S b → S' b) : QModule w S' v x := by
 obtain ⟨v0, v1, v2, v3, P, e, hP, hd, h0, h1, h2, h3⟩ := h
 exact ⟨v0, v1, v2, v3, P, e, fun j b hb => hS b (hP j b hb), hd, h0, h1, h2, h3⟩
theorem RModule.form {w : World} {S : Nat → Prop} {v : Value} {x : TModule} (h : RModule w S v x) : ∃ (A0 : Option Addr) (n0 c0 : Nat) (A1 : Option Addr) (n1 c1 : Nat) (A2 : Option Addr) (n2 c2 : Nat) (A3 : Option Addr) (n3 c3 : Nat), v = .agg #[.slice A0 n0 c0, .slice A1 n1 c1, .slice A2 n2 c2, .slice A3 n3 c3] := by
 obtain ⟨v0, v1, v2, v3, rfl, h0, h1, h2, h3⟩ := h
 obtain ⟨A0, n0, c0, rfl⟩ := slv_of h0
 obtain ⟨A1, n1, c1, rfl⟩ := slv_of h1
 obtain ⟨A2, n2, c2, rfl⟩ := slv_of h2
 obtain ⟨A3, n3, c3, rfl⟩ := slv_of h3
 exact ⟨_, _, _, _, _, _, _, _, _, _, _, _, rfl⟩
theorem fModuleS_row {w : World} {S : Nat → Prop} {A : Option Addr} {n c k : Nat} {l : List TModule} (h : Rep w S (.slice A n c) (fModuleS l)) (hk : k < n) :
  ∃ (ad : Addr) (x0 : List TSignal) (x1 : List TAssign) (x2 : List TInst) (x3 : List TMem) (v0 : Value) (v1 : Value) (v2 : Value) (v3 : Value), A = some ad ∧ S ad.block ∧ l[k]? = some (x0, x1, x2, x3) ∧ Rep w S v0 (fSignalS x0) ∧ Rep w S v1 (fAssignS x1) ∧ Rep w S v2 (fInstS x2) ∧ Rep w S v3 (fMemS x3) ∧ w.cell? (ad.add (k * 4)) = some (v0) ∧ w.cell? (nxt (ad.add (k * 4)) 1) = some (v1) ∧ w.cell? (nxt (ad.add (k * 4)) 2) = some (v2) ∧ w.cell? (nxt (ad.add (k * 4)) 3) = some (v3) := by
 obtain ⟨ad, r, rfl, hb, hr, _, hc⟩ := h.row hk
 have hl := h.len
 rw [List.length_map] at hl
 have hx : l[k]? = some l[k] := List.getElem?_eq_getElem (by omega)
 rw [List.getElem?_map, hx] at hr
 injection hr with hr
 generalize l[k] = x at hx hr
 obtain ⟨x0, x1, x2, x3⟩ := x
 subst hr
 obtain ⟨v0, c0, h0⟩ := hc 0 (fSignalS x0) rfl
 obtain ⟨v1, c1, h1⟩ := hc 1 (fAssignS x1) rfl
 obtain ⟨v2, c2, h2⟩ := hc 2 (fInstS x2) rfl
 obtain ⟨v3, c3, h3⟩ := hc 3 (fMemS x3) rfl
 exact ⟨ad, x0, x1, x2, x3, v0, v1, v2, v3, rfl, hb, hx, h0, h1, h2, h3, c0, by rw [nxt_add _ _ (by decide)]; exact c1, by rw [nxt_add _ _ (by decide)]; exact c2, by rw [nxt_add _ _ (by decide)]; exact c3⟩

theorem Tryd.infModule : (Tryd.prog.info? 42).map (fun i => (i.zero, i.size, i.bytes)) = some (some (.agg #[.slice none 0 0, .slice none 0 0, .slice none 0 0, .slice none 0 0]), 4, 96) := by kernel_rfl
theorem ownModuleD {w : World} {n : Nat} (hn : n ≤ maxLen) : (w.alloc (.cells (madeCells #[.slice none 0 0, .slice none 0 0, .slice none 0 0, .slice none 0 0] (n * 4)) 42)).ownsRow w.heap.size 42 4 (.slice (some ⟨w.heap.size, 0, none⟩) n n) n (madeCells #[.slice none 0 0, .slice none 0 0, .slice none 0 0, .slice none 0 0] (n * 4)).toList :=
 ⟨by simp [size_madeCells], .inr ⟨w.heap.size, n, madeCells #[.slice none 0 0, .slice none 0 0, .slice none 0 0, .slice none 0 0] (n * 4), rfl, Nat.le_refl _, heap_alloc_new w _, Nat.le_refl _, hn, by simp [size_madeCells], by rw [List.take_of_length_le]; simp [size_madeCells]⟩⟩
theorem setModule_old {xs : List Value} {k p : Nat} {a0 a1 a2 a3 : Value} (h : p < k * 4) : ((((xs.set (k * 4) a0).set (k * 4 + 1) a1).set (k * 4 + 2) a2).set (k * 4 + 3) a3)[p]? = xs[p]? := by
 rw [List.getElem?_set_ne (by omega), List.getElem?_set_ne (by omega), List.getElem?_set_ne (by omega), List.getElem?_set_ne (by omega)]
theorem setModule_new {xs : List Value} {k : Nat} {a0 a1 a2 a3 : Value} (h : k * 4 + 3 < xs.length) :
  ((((xs.set (k * 4) a0).set (k * 4 + 1) a1).set (k * 4 + 2) a2).set (k * 4 + 3) a3)[k * 4 + 0]? = some a0 ∧ ((((xs.set (k * 4) a0).set (k * 4 + 1) a1).set (k * 4 + 2) a2).set (k * 4 + 3) a3)[k * 4 + 1]? = some a1 ∧ ((((xs.set (k * 4) a0).set (k * 4 + 1) a1).set (k * 4 + 2) a2).set (k * 4 + 3) a3)[k * 4 + 2]? = some a2 ∧ ((((xs.set (k * 4) a0).set (k * 4 + 1) a1).set (k * 4 + 2) a2).set (k * 4 + 3) a3)[k * 4 + 3]? = some a3 := by
 refine ⟨?_, ?_, ?_, ?_⟩
 ·rw [List.getElem?_set_ne (by omega), List.getElem?_set_ne (by omega), List.getElem?_set_ne (by omega)]
  exact List.getElem?_set_self (by omega)
 ·rw [List.getElem?_set_ne (by omega), List.getElem?_set_ne (by omega), List.getElem?_set_self (by simp; omega)]
 ·rw [List.getElem?_set_ne (by omega), List.getElem?_set_self (by simp; omega)]
 ·rw [List.getElem?_set_self (by simp; omega)]

set_option maxRecDepth 100000 in
set_option maxHeartbeats 4000000 in
theorem d_eqModule {w : World} {S S' : Nat → Prop} {v v' : Value} {x : TModule} (hz : sModule x ≤ 1048576) (h : RModule w S v x) (h' : RModule w S' v' x) (hS : ∀ b, S b → b < w.heap.size) (hS' : ∀ b, S' b → b < w.heap.size) :
  Calls Tryd.prog 45 #[v, v'] w fun e w' => e = .returned (.bool true) ∧ Below w.heap.size w w' := by
 obtain ⟨x0, x1, x2, x3⟩ := x
 obtain ⟨v0, v1, v2, v3, rfl, h0, h1, h2, h3⟩ := h
 obtain ⟨u0, u1, u2, u3, rfl, h0', h1', h2', h3'⟩ := h'
 simp only [sModule] at hz
 go_enter Tryd.func45, Tryd.ntmps45
 go_wp2_with fail
 refine (d_eqSignalS (by omega) (h0.under hS bel_) (h0'.under hS' bel_) (fun b hb => by have := hS b hb; (try simp) <;> omega) (fun b hb => by have := hS' b hb; (try simp) <;> omega)).mono ?_
 rintro e w1 ⟨rfl, hb1⟩
 have z1 := hb1.size
 try simp at z1
 (try have y1_0 : w.heap.size < w1.heap.size := (by omega))
 have q1_0 := fun o => (bcell hb1).1 (w.heap.size) o (by (try simp) <;> (try omega))
 have p1_0 := fun o => (bcell hb1).2 (w.heap.size) o (by (try simp) <;> (try omega))
 (try have y1_1 : w.heap.size + 1 < w1.heap.size := (by omega))
 have q1_1 := fun o => (bcell hb1).1 (w.heap.size + 1) o (by (try simp) <;> (try omega))
 have p1_1 := fun o => (bcell hb1).2 (w.heap.size + 1) o (by (try simp) <;> (try omega))
 go_wp2_with fail
 refine (d_eqAssignS (by omega) (h1.under hS bel_) (h1'.under hS' bel_) (fun b hb => by have := hS b hb; (try simp) <;> omega) (fun b hb => by have := hS' b hb; (try simp) <;> omega)).mono ?_
 rintro e w2 ⟨rfl, hb2⟩
 have z2 := hb2.size
 try simp at z2
 (try have y2_0 : w.heap.size < w2.heap.size := (by omega))
 have q2_0 := fun o => (bcell hb2).1 (w.heap.size) o (by (try simp) <;> (try omega))
 have p2_0 := fun o => (bcell hb2).2 (w.heap.size) o (by (try simp) <;> (try omega))
 (try have y2_1 : w.heap.size + 1 < w2.heap.size := (by omega))
 have q2_1 := fun o => (bcell hb2).1 (w.heap.size + 1) o (by (try simp) <;> (try omega))
 have p2_1 := fun o => (bcell hb2).2 (w.heap.size + 1) o (by (try simp) <;> (try omega))
 go_wp2_with fail
 refine (d_eqInstS (by omega) (h2.under hS bel_) (h2'.under hS' bel_) (fun b hb => by have := hS b hb; (try simp) <;> omega) (fun b hb => by have := hS' b hb; (try simp) <;> omega)).mono ?_
 rintro e w3 ⟨rfl, hb3⟩
 have z3 := hb3.size
 try simp at z3
 (try have y3_0 : w.heap.size < w3.heap.size := (by omega))
 have q3_0 := fun o => (bcell hb3).1 (w.heap.size) o (by (try simp) <;> (try omega))
 have p3_0 := fun o => (bcell hb3).2 (w.heap.size) o (by (try simp) <;> (try omega))
 (try have y3_1 : w.heap.size + 1 < w3.heap.size := (by omega))
 have q3_1 := fun o => (bcell hb3).1 (w.heap.size + 1) o (by (try simp) <;> (try omega))
 have p3_1 := fun o => (bcell hb3).2 (w.heap.size + 1) o (by (try simp) <;> (try omega))
 go_wp2_with fail
 refine (d_eqMemS (by omega) (h3.under hS bel_) (h3'.under hS' bel_) (fun b hb => by have := hS b hb; (try simp) <;> omega) (fun b hb => by have := hS' b hb; (try simp) <;> omega)).mono ?_
 rintro e w4 ⟨rfl, hb4⟩
 have z4 := hb4.size
 try simp at z4
 (try have y4_0 : w.heap.size < w4.heap.size := (by omega))
 have q4_0 := fun o => (bcell hb4).1 (w.heap.size) o (by (try simp) <;> (try omega))
 have p4_0 := fun o => (bcell hb4).2 (w.heap.size) o (by (try simp) <;> (try omega))
 (try have y4_1 : w.heap.size + 1 < w4.heap.size := (by omega))
 have q4_1 := fun o => (bcell hb4).1 (w.heap.size + 1) o (by (try simp) <;> (try omega))
 have p4_1 := fun o => (bcell hb4).2 (w.heap.size + 1) o (by (try simp) <;> (try omega))
 go_wp2_with fail
 go_ret
 exact ⟨rfl, bel_⟩

set_option maxRecDepth 100000 in
set_option maxHeartbeats 4000000 in
theorem d_eqModuleS {w : World} {S S' : Nat → Prop} {v v' : Value} {l : List TModule} (hz : szL sModule l ≤ 1048576) (h : Rep w S v (fModuleS l)) (h' : Rep w S' v' (fModuleS l)) (hS : ∀ b, S b → b < w.heap.size) (hS' : ∀ b, S' b → b < w.heap.size) :
  Calls Tryd.prog 23 #[v, v'] w fun e w' => e = .returned (.bool true) ∧ Below w.heap.size w w' := by
 obtain ⟨A, c, rfl, hm⟩ := h.sl_val
 obtain ⟨A', c', rfl, _⟩ := h'.sl_val
 rw [List.length_map] at hm h h' ⊢
 unfold maxLen at hm
 obtain ⟨n, hl⟩ : ∃ n, l.length = n := ⟨_, rfl⟩
 rw [hl] at h h' hm ⊢
 have Hin := Lib.hid (fun x (hx : x ∈ l) => (show sModule x ≤ 1048576 by have := nuL_el sModule hx; unfold szL at hz; omega))
 clear hl hz
 go_enter Tryd.func23, Tryd.ntmps23
 go_wp2
 go_loopw [5] (fun i wr => ∃ k : Nat, k ≤ n ∧ i = .int .i64 k ∧ Below w.heap.size w wr) (fun i _ => n - (intOf i).toNat)
 case atStart => exact ⟨0, Nat.zero_le _, rfl, Below.refl _ _⟩
 case round =>
  obtain ⟨k, hk, rfl, hb⟩ := hrel
  have Hb := Lib.hid hb
  have hsz := hb.size
  clear hb
  by_cases hlt : k < n
  ·obtain ⟨ad, x0, x1, x2, x3, v0, v1, v2, v3, rfl, hab, hx, h0, h1, h2, h3, e0, e1, e2, e3⟩ := fModuleS_row (h.under hS Hb.out) hlt
   obtain ⟨ad', y0, y1, y2, y3, u0, u1, u2, u3, rfl, hab', hx', h0', h1', h2', h3', f0, f1, f2, f3⟩ := fModuleS_row (h'.under hS' Hb.out) hlt
   rw [hx] at hx'
   injection hx' with hx'
   simp only [Prod.mk.injEq] at hx'
   obtain ⟨rfl, rfl, rfl, rfl⟩ := hx'
   have hab1 := hS _ hab
   have hab2 := hS' _ hab'
   have hab3 : ad.block < wr.heap.size := by omega
   have hab4 : ad'.block < wr.heap.size := by omega
   have g1 : (0 : Int) ≤ (k : Int) := by omega
   have g2 : (k : Int) < (n : Int) := by omega
   have Hx := Lib.hid hx
   clear hx
   go_wp2_with fail
   refine wp_region_lexC (by kernel_rfl) (by kernel_rfl) (fun x => Below wr.heap.size wr x) ((Below.refl _ _).drew) (fun lexNE => ?_)
   have r0 := fun W : Wd (fun x => Below wr.heap.size wr x) => (W.ok.cell (p := (ad.add (k * 4))) (by rw [block_of_add]; exact hab3)).trans e0
   have s0 := fun W : Wd (fun x => Below wr.heap.size wr x) => (W.ok.cell (p := (ad'.add (k * 4))) (by rw [block_of_add]; exact hab4)).trans f0
   have r1 := fun W : Wd (fun x => Below wr.heap.size wr x) => (W.ok.cell (p := (nxt (ad.add (k * 4)) 1)) (by rw [nxt_block]; exact hab3)).trans e1
   have s1 := fun W : Wd (fun x => Below wr.heap.size wr x) => (W.ok.cell (p := (nxt (ad'.add (k * 4)) 1)) (by rw [nxt_block]; exact hab4)).trans f1
   have r2 := fun W : Wd (fun x => Below wr.heap.size wr x) => (W.ok.cell (p := (nxt (ad.add (k * 4)) 2)) (by rw [nxt_block]; exact hab3)).trans e2
   have s2 := fun W : Wd (fun x => Below wr.heap.size wr x) => (W.ok.cell (p := (nxt (ad'.add (k * 4)) 2)) (by rw [nxt_block]; exact hab4)).trans f2
   have r3 := fun W : Wd (fun x => Below wr.heap.size wr x) => (W.ok.cell (p := (nxt (ad.add (k * 4)) 3)) (by rw [nxt_block]; exact hab3)).trans e3
   have s3 := fun W : Wd (fun x => Below wr.heap.size wr x) => (W.ok.cell (p := (nxt (ad'.add (k * 4)) 3)) (by rw [nxt_block]; exact hab4)).trans f3
   (repeat (first | (refine lex_r fun K hK => ?_; go_big_quiet_op; refine hK _ ?_; clear hK K) | (refine lex_k fun K hK => ?_; go_simp; refine hK _ ?_; clear hK K)))
   (refine lex_e fun K hK => ?_; go_big_op)
   refine (d_eqModule (x := (x0, x1, x2, x3)) (Hin.out _ (List.mem_of_getElem? Hx.out)) ⟨v0, v1, v2, v3, rfl, h0.drew, h1.drew, h2.drew, h3.drew⟩ ⟨u0, u1, u2, u3, rfl, h0'.drew, h1'.drew, h2'.drew, h3'.drew⟩ (fun b hb => Nat.lt_of_lt_of_le (hS b hb) hsz) (fun b hb => Nat.lt_of_lt_of_le (hS' b hb) hsz)).mono ?_
   rintro e w6 ⟨rfl, hb6⟩
   have Hb6 := Lib.hid (Hb.out.drew.trans (hb6.mono hsz))
   refine hK _ _ (Cls.mk' ((Below.refl wr.heap.size wr).drew.trans hb6)) ?_
   clear hK K
   (repeat (first | (refine lex_r fun K hK => ?_; go_big_quiet_op; refine hK _ ?_; clear hK K) | (refine lex_k fun K hK => ?_; go_simp; refine hK _ ?_; clear hK K)))
   (refine lex_nil ?_)
   clear lexNE r0 s0 r1 s1 r2 s2 r3 s3
   go_wp2_with fail
   go_roundw
   case rel => exact ⟨k + 1, by omega, by go_num, Hb6.out⟩
   case measure => simp [intOf]; omega
  ·have hke : k = n := by omega
   subst hke
   go_wp2_with fail
   go_ret
   exact ⟨rfl, Hb.out⟩

set_option maxRecDepth 100000 in
set_option maxHeartbeats 4000000 in
theorem d_markModuleS {w : World} {S : Nat → Prop} {v : Value} {l : List TModule} (k0 : Nat) (hk0 : k0 + nuL nModule l ≤ 1099511627776) (h : Sep w S v (fModuleS l)) (hS : ∀ b, S b → b < w.heap.size) :
  Calls Tryd.prog 24 #[v, .int .i64 k0] w fun e w' => e = .returned (.int .i64 ((k0 + nuL nModule l : Nat) : Int)) ∧ Sep w' S v (fModuleS (mkL kModule nModule k0 l)) ∧ Only S w w' := by
 obtain ⟨A, c, rfl, hm⟩ := h.sl_val
 rw [List.length_map] at hm h ⊢
 unfold maxLen at hm
 obtain ⟨n, hl⟩ : ∃ n, l.length = n := ⟨_, rfl⟩
 rw [hl] at h hm ⊢
 have H := Lib.hid h
 have Hl := Lib.hid hl
 have Hnt := Lib.hid (nuL_take nModule l)
 clear h hl
 go_enter Tryd.func24, Tryd.ntmps24
 go_wp2_with fail
 go_loopw [1, 5] (fun kv i wr => ∃ k : Nat, k ≤ n ∧ i = .int .i64 k ∧ kv = .int .i64 ((k0 + nuL nModule (l.take k) : Nat) : Int) ∧ Sep wr S (.slice A n c) (fModuleS (partL kModule nModule k0 k l)) ∧ Only S w wr) (fun _ i _ => n - (intOf i).toNat)
 case atStart => exact ⟨0, Nat.zero_le _, rfl, by simp [nuL], by rw [partL_zero]; exact H.out, Only.refl _ _⟩
 case round =>
  obtain ⟨k, hk, rfl, rfl, hs, ho⟩ := hrel
  by_cases hlt : k < n
  ·obtain ⟨x, hx⟩ : ∃ x, l[k]? = some x := ⟨_, List.getElem?_eq_getElem (by rw [Hl.out]; exact hlt)⟩
   obtain ⟨q, hq⟩ : ∃ q, q = k0 + nuL nModule (l.take k) := ⟨_, rfl⟩
   rw [← hq]
   have hq1 := Hnt.out (k + 1)
   rw [nuL_succ nModule hx] at hq1
   have hps := partL_succ kModule nModule (k := k0) hx
   rw [← hq] at hps
   have Hps := Lib.hid hps
   have Hns := Lib.hid (nuL_succ nModule hx)
   have Hq := Lib.hid hq
   obtain ⟨x0, x1, x2, x3⟩ := x
   simp only [nModule] at hq1
   have hqb : q + (nuL nSignal x0 + nuL nAssign x1 + nuL nInst x2 + nuL nMem x3) ≤ 1099511627776 := by have := Hq.out; omega
   have g1 : (0 : Int) ≤ (k : Int) := by omega
   have g2 : (k : Int) < (n : Int) := by omega
   have hw0 : ∀ b, S b → b < wr.heap.size := fun b hb => Nat.lt_of_lt_of_le (hS b hb) ho.size
   have hg0 := partL_get kModule nModule (k := k0) hx
   have HT0 := Lib.hid hs
   have HO0 := Lib.hid ho
   have HG0 := Lib.hid hg0
   clear hx hps hq hs ho hg0
   obtain ⟨g, rfl, hgs, hf0, _⟩ := Sep.at_ (ra := rModule) rModule_len HT0.out hw0 HG0.out
   obtain ⟨u0, P0, c0, z0, hp0, s0, _⟩ := hf0 0 _ rfl
   simp only [Nat.add_zero] at c0 z0
   clear hp0 s0
   clear hf0
   go_wp2_with fail
   obtain ⟨g', eg, _, hfx, _⟩ := Sep.at_ (ra := rModule) rModule_len HT0.out hw0 HG0.out
   obtain rfl : g = g' := by injection eg with eg; injection eg
   obtain ⟨u', P, d1, _, hp, sx, hcl⟩ := hfx 0 _ rfl
   have hu : u' = u0 := by have h1 := d1; simp [go_sem, c0] at h1; exact h1.symm
   subst hu
   try dsimp only at sx
   clear hfx d1
   have Hcl0 := Lib.hid hcl
   have Hp0 := Lib.hid hp
   have hsS : ∀ b, P b → b < wr.heap.size := fun b hb => (show ∀ b, S b → b < wr.heap.size from hw0) b (hp b hb).1
   refine (d_markSignalS (q) (by omega) sx hsS).mono ?_
   clear hcl hp sx hsS
   rintro e w2 ⟨rfl, hs2, ho2⟩
   have HT1 := Lib.hid (Hcl0.out _ _ ((mkL kSignal nSignal (q) x0, x1, x2, x3) : TModule) ho2 hs2 rfl)
   have HG1 := Lib.hid (List.getElem?_set_self (a := ((mkL kSignal nSignal (q) x0, x1, x2, x3) : TModule)) (List.getElem?_eq_some_iff.1 HG0.out).1)
   have HO1 := Lib.hid (HO0.out.trans (ho2.more (fun b hb => (Hp0.out b hb).1)))
   have hw1 : ∀ b, S b → b < w2.heap.size := fun b hb => Nat.lt_of_lt_of_le (hS b hb) HO1.out.size
   clear ho2 hs2 Hcl0 Hp0
   clear c0 z0
   obtain ⟨g', eg, _, hf1, _⟩ := Sep.at_ (ra := rModule) rModule_len HT1.out hw1 HG1.out
   obtain rfl : g = g' := by injection eg with eg; injection eg
   obtain ⟨u1, P1, c1, z1, hp1, s1, _⟩ := hf1 1 _ rfl
   clear hp1 s1
   clear hf1
   go_wp2_with fail
   obtain ⟨g', eg, _, hfx, _⟩ := Sep.at_ (ra := rModule) rModule_len HT1.out hw1 HG1.out
   obtain rfl : g = g' := by injection eg with eg; injection eg
   obtain ⟨u', P, d1, _, hp, sx, hcl⟩ := hfx 1 _ rfl
   have hu : u' = u1 := by have h1 := d1; simp [go_sem, c1] at h1; exact h1.symm
   subst hu
   try dsimp only at sx
   clear hfx d1
   have Hcl1 := Lib.hid hcl
   have Hp1 := Lib.hid hp
   have hsS : ∀ b, P b → b < w2.heap.size := fun b hb => (show ∀ b, S b → b < w2.heap.size from hw1) b (hp b hb).1
   refine (d_markAssignS (q + nuL nSignal x0) (by omega) sx hsS).mono ?_
   clear hcl hp sx hsS
   rintro e w3 ⟨rfl, hs2, ho2⟩
   have HT2 := Lib.hid (Hcl1.out _ _ ((mkL kSignal nSignal (q) x0, mkL kAssign nAssign (q + nuL nSignal x0) x1, x2, x3) : TModule) ho2 hs2 rfl)
   have HG2 := Lib.hid (List.getElem?_set_self (a := ((mkL kSignal nSignal (q) x0, mkL kAssign nAssign (q + nuL nSignal x0) x1, x2, x3) : TModule)) (List.getElem?_eq_some_iff.1 HG1.out).1)
   have HO2 := Lib.hid (HO1.out.trans (ho2.more (fun b hb => (Hp1.out b hb).1)))
   have hw2 : ∀ b, S b → b < w3.heap.size := fun b hb => Nat.lt_of_lt_of_le (hS b hb) HO2.out.size
   clear ho2 hs2 Hcl1 Hp1
   clear c1 z1
   obtain ⟨g', eg, _, hf2, _⟩ := Sep.at_ (ra := rModule) rModule_len HT2.out hw2 HG2.out
   obtain rfl : g = g' := by injection eg with eg; injection eg
   obtain ⟨u2, P2, c2, z2, hp2, s2, _⟩ := hf2 2 _ rfl
   clear hp2 s2
   clear hf2
   go_wp2_with fail
   obtain ⟨g', eg, _, hfx, _⟩ := Sep.at_ (ra := rModule) rModule_len HT2.out hw2 HG2.out
   obtain rfl : g = g' := by injection eg with eg; injection eg
   obtain ⟨u', P, d1, _, hp, sx, hcl⟩ := hfx 2 _ rfl
   have hu : u' = u2 := by have h1 := d1; simp [go_sem, c2] at h1; exact h1.symm
   subst hu
   try dsimp only at sx
   clear hfx d1
   have Hcl2 := Lib.hid hcl
   have Hp2 := Lib.hid hp
   have hsS : ∀ b, P b → b < w3.heap.size := fun b hb => (show ∀ b, S b → b < w3.heap.size from hw2) b (hp b hb).1
   refine (d_markInstS (q + nuL nSignal x0 + nuL nAssign x1) (by omega) sx hsS).mono ?_
   clear hcl hp sx hsS
   rintro e w4 ⟨rfl, hs2, ho2⟩
   have HT3 := Lib.hid (Hcl2.out _ _ ((mkL kSignal nSignal (q) x0, mkL kAssign nAssign (q + nuL nSignal x0) x1, mkL kInst nInst (q + nuL nSignal x0 + nuL nAssign x1) x2, x3) : TModule) ho2 hs2 rfl)
   have HG3 := Lib.hid (List.getElem?_set_self (a := ((mkL kSignal nSignal (q) x0, mkL kAssign nAssign (q + nuL nSignal x0) x1, mkL kInst nInst (q + nuL nSignal x0 + nuL nAssign x1) x2, x3) : TModule)) (List.getElem?_eq_some_iff.1 HG2.out).1)
   have HO3 := Lib.hid (HO2.out.trans (ho2.more (fun b hb => (Hp2.out b hb).1)))
   have hw3 : ∀ b, S b → b < w4.heap.size := fun b hb => Nat.lt_of_lt_of_le (hS b hb) HO3.out.size
   clear ho2 hs2 Hcl2 Hp2
   clear c2 z2
   obtain ⟨g', eg, _, hf3, _⟩ := Sep.at_ (ra := rModule) rModule_len HT3.out hw3 HG3.out
   obtain rfl : g = g' := by injection eg with eg; injection eg
   obtain ⟨u3, P3, c3, z3, hp3, s3, _⟩ := hf3 3 _ rfl
   clear hp3 s3
   clear hf3
   go_wp2_with fail
   obtain ⟨g', eg, _, hfx, _⟩ := Sep.at_ (ra := rModule) rModule_len HT3.out hw3 HG3.out
   obtain rfl : g = g' := by injection eg with eg; injection eg
   obtain ⟨u', P, d1, _, hp, sx, hcl⟩ := hfx 3 _ rfl
   have hu : u' = u3 := by have h1 := d1; simp [go_sem, c3] at h1; exact h1.symm
   subst hu
   try dsimp only at sx
   clear hfx d1
   have Hcl3 := Lib.hid hcl
   have Hp3 := Lib.hid hp
   have hsS : ∀ b, P b → b < w4.heap.size := fun b hb => (show ∀ b, S b → b < w4.heap.size from hw3) b (hp b hb).1
   refine (d_markMemS (q + nuL nSignal x0 + nuL nAssign x1 + nuL nInst x2) (by omega) sx hsS).mono ?_
   clear hcl hp sx hsS
   rintro e w5 ⟨rfl, hs2, ho2⟩
   have HT4 := Lib.hid (Hcl3.out _ _ ((mkL kSignal nSignal (q) x0, mkL kAssign nAssign (q + nuL nSignal x0) x1, mkL kInst nInst (q + nuL nSignal x0 + nuL nAssign x1) x2, mkL kMem nMem (q + nuL nSignal x0 + nuL nAssign x1 + nuL nInst x2) x3) : TModule) ho2 hs2 rfl)
   have HG4 := Lib.hid (List.getElem?_set_self (a := ((mkL kSignal nSignal (q) x0, mkL kAssign nAssign (q + nuL nSignal x0) x1, mkL kInst nInst (q + nuL nSignal x0 + nuL nAssign x1) x2, mkL kMem nMem (q + nuL nSignal x0 + nuL nAssign x1 + nuL nInst x2) x3) : TModule)) (List.getElem?_eq_some_iff.1 HG3.out).1)
   have HO4 := Lib.hid (HO3.out.trans (ho2.more (fun b hb => (Hp3.out b hb).1)))
   have hw4 : ∀ b, S b → b < w5.heap.size := fun b hb => Nat.lt_of_lt_of_le (hS b hb) HO4.out.size
   clear ho2 hs2 Hcl3 Hp3
   clear c3 z3
   go_wp2_with fail
   go_roundw
   case rel =>
    refine ⟨k + 1, by omega, by go_num, ?_, ?_, HO4.out⟩
    ·rw [Hns.out, ← Nat.add_assoc, ← Hq.out]; (try simp only [nModule]); go_num
    ·have h1 := HT4.out
     try simp only [List.set_set] at h1
     rw [← Hps.out]
     exact h1
   case measure => simp [intOf]; omega
  ·have hke : k = n := by omega
   subst hke
   have HS := Lib.hid hs
   have HO := Lib.hid ho
   clear hs ho
   rw [List.take_of_length_le (by rw [Hl.out]; exact Nat.le_refl _)]
   go_wp2_with fail
   go_ret
   exact ⟨rfl, by rw [← partL_all _ _ _ _ Hl.out]; exact HS.out, HO.out⟩

set_option maxRecDepth 100000 in
set_option maxHeartbeats 4000000 in
theorem d_heldModuleS {w : World} {S : Nat → Prop} {v : Value} {l : List TModule} (k0 : Nat) (hk0 : k0 + nuL nModule l ≤ 1099511627776) (h : Rep w S v (fModuleS (mkL kModule nModule k0 l))) (hS : ∀ b, S b → b < w.heap.size) :
  Calls Tryd.prog 25 #[v, .int .i64 k0] w fun e w' => e = .returned (.int .i64 ((k0 + nuL nModule l : Nat) : Int)) ∧ Below w.heap.size w w' := by
 obtain ⟨A, c, rfl, hm⟩ := h.sl_val
 rw [List.length_map, mkL_len] at hm h ⊢
 unfold maxLen at hm
 obtain ⟨n, hl⟩ : ∃ n, l.length = n := ⟨_, rfl⟩
 rw [hl] at h hm ⊢
 have Hl := Lib.hid hl
 have Hnt := Lib.hid (nuL_take nModule l)
 clear hl
 go_enter Tryd.func25, Tryd.ntmps25
 go_wp2_with fail
 go_loopw [1, 5] (fun kv i wr => ∃ k : Nat, k ≤ n ∧ i = .int .i64 k ∧ kv = .int .i64 ((k0 + nuL nModule (l.take k) : Nat) : Int) ∧ Below w.heap.size w wr) (fun _ i _ => n - (intOf i).toNat)
 case atStart => exact ⟨0, Nat.zero_le _, rfl, by simp [nuL], Below.refl _ _⟩
 case round =>
  obtain ⟨k, hk, rfl, rfl, hb⟩ := hrel
  have Hb := Lib.hid hb
  have hsz := hb.size
  clear hb
  by_cases hlt : k < n
  ·obtain ⟨x, hx⟩ : ∃ x, l[k]? = some x := ⟨_, List.getElem?_eq_getElem (by rw [Hl.out]; exact hlt)⟩
   obtain ⟨q, hq⟩ : ∃ q, q = k0 + nuL nModule (l.take k) := ⟨_, rfl⟩
   rw [← hq]
   have hq1 := Hnt.out (k + 1)
   rw [nuL_succ nModule hx] at hq1
   have Hns := Lib.hid (nuL_succ nModule hx)
   have Hq := Lib.hid hq
   obtain ⟨ad, y0, y1, y2, y3, v0, v1, v2, v3, rfl, hab, hy, h0, h1, h2, h3, e0, e1, e2, e3⟩ := fModuleS_row (h.under hS Hb.out) hlt
   rw [mkL_get kModule nModule k0 hx, ← hq] at hy
   injection hy with hy
   obtain ⟨x0, x1, x2, x3⟩ := x
   simp only [kModule, Prod.mk.injEq] at hy
   obtain ⟨rfl, rfl, rfl, rfl⟩ := hy
   simp only [nModule] at hq1
   have hqb : q + (nuL nSignal x0 + nuL nAssign x1 + nuL nInst x2 + nuL nMem x3) ≤ 1099511627776 := by have := Hq.out; omega
   have hab1 := hS _ hab
   have g1 : (0 : Int) ≤ (k : Int) := by omega
   have g2 : (k : Int) < (n : Int) := by omega
   clear hx hq
   go_wp2_with fail
   refine (d_heldSignalS (q) (by omega) h0 (fun b hb => by have := hS b hb; omega)).mono ?_
   rintro e w2 ⟨rfl, hb2⟩
   have HB0 := Lib.hid (hb2)
   have zz0 := HB0.out.size
   have e1 := (hb2.cell (p := (nxt (ad.add (k * 4)) 1)) (by rw [nxt_block]; omega)).trans e1
   have e2 := (hb2.cell (p := (nxt (ad.add (k * 4)) 2)) (by rw [nxt_block]; omega)).trans e2
   have e3 := (hb2.cell (p := (nxt (ad.add (k * 4)) 3)) (by rw [nxt_block]; omega)).trans e3
   clear hb2
   go_wp2_with fail
   refine (d_heldAssignS (q + nuL nSignal x0) (by omega) (h1.under (B := wr.heap.size) (fun b hb => by have := hS b hb; omega) HB0.out) (fun b hb => by have := hS b hb; omega)).mono ?_
   rintro e w3 ⟨rfl, hb3⟩
   have HB1 := Lib.hid (HB0.out.trans (hb3.mono HB0.out.size))
   have zz1 := HB1.out.size
   have e2 := (hb3.cell (p := (nxt (ad.add (k * 4)) 2)) (by rw [nxt_block]; omega)).trans e2
   have e3 := (hb3.cell (p := (nxt (ad.add (k * 4)) 3)) (by rw [nxt_block]; omega)).trans e3
   clear hb3
   go_wp2_with fail
   refine (d_heldInstS (q + nuL nSignal x0 + nuL nAssign x1) (by omega) (h2.under (B := wr.heap.size) (fun b hb => by have := hS b hb; omega) HB1.out) (fun b hb => by have := hS b hb; omega)).mono ?_
   rintro e w4 ⟨rfl, hb4⟩
   have HB2 := Lib.hid (HB1.out.trans (hb4.mono HB1.out.size))
   have zz2 := HB2.out.size
   have e3 := (hb4.cell (p := (nxt (ad.add (k * 4)) 3)) (by rw [nxt_block]; omega)).trans e3
   clear hb4
   go_wp2_with fail
   refine (d_heldMemS (q + nuL nSignal x0 + nuL nAssign x1 + nuL nInst x2) (by omega) (h3.under (B := wr.heap.size) (fun b hb => by have := hS b hb; omega) HB2.out) (fun b hb => by have := hS b hb; omega)).mono ?_
   rintro e w5 ⟨rfl, hb5⟩
   have HB3 := Lib.hid (HB2.out.trans (hb5.mono HB2.out.size))
   have zz3 := HB3.out.size
   clear hb5
   go_wp2_with fail
   go_roundw
   case rel =>
    refine ⟨k + 1, by omega, by go_num, ?_, Hb.out.trans (HB3.out.mono hsz)⟩
    rw [Hns.out, ← Nat.add_assoc, ← Hq.out]; (try simp only [nModule]); go_num
   case measure => simp [intOf]; omega
  ·have hke : k = n := by omega
   subst hke
   rw [List.take_of_length_le (by rw [Hl.out]; exact Nat.le_refl _)]
   go_wp2_with fail
   go_ret
   exact ⟨rfl, Hb.out⟩

end Go.Proofs.YthjdigcpgpiiiaaDoor

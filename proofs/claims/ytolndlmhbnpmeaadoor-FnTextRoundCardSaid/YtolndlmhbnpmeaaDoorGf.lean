/- Words and contracts that later texts use. -/
import Derived.Test.YtolndlmhbnpmeaaDoorDesignD
import Derived.Test.YtolndlmhbnpmeaaDoorPorts
import Derived.Test.YtolndlmhbnpmeaaDoorGa
import Derived.Outline
/- Plain: drivers in a design; how its rows lie in memory. -/
namespace Go.Proofs.YtolndlmhbnpmeaaDoor
open Go.RowKit

def noM : TModule := ([], [], [], [])
def md (d : TDesign) (k : Int) : TModule := d.getD k.toNat noM
theorem md_get {d : TDesign} {k : Nat} {m : TModule} (h : d[k]? = some m) : md d (k : Int) = m := by simp [md, h]
def cntOk1 (m : TModule) : Bool := decide (m.1.length ≤ 30) && (decide (m.2.1.length ≤ 30) && (decide (m.2.2.1.length ≤ 3) && decide (m.2.2.2.length ≤ 2)))
def countsB (d : TDesign) : Bool := decide (d.length ≤ 4) && d.all cntOk1
def insB (d : TDesign) (k : Int) (x : TInst) : Bool := inR x.1 0 (k - 1) && decide (x.2.2.length = (portsM (md d x.1)).length)
def instsB (d : TDesign) (k : Int) : Bool := (md d k).2.2.1.all (insB d k)
/-- the lists are short and the instances of module k name earlier modules, with their ports -/
def l04C (d : TDesign) (k : Int) : Bool := decide (0 ≤ k ∧ k < d.length) && (countsB d && instsB d k)
theorem all_take {α : Type} {p : α → Bool} {l : List α} {k : Nat} {x : α} (h : l[k]? = some x) : (l.take (k + 1)).all p = ((l.take k).all p && p x) := by
 rw [List.take_add_one, h, List.all_append]
 simp
theorem all_not {α : Type} {p : α → Bool} {l : List α} {k : Nat} {x : α} (h : l[k]? = some x) (hx : p x = false) : l.all p = false := by
 rw [List.all_eq_false]
 exact ⟨x, List.mem_of_getElem? h, by simp [hx]⟩
theorem cntOk1_iff {m : TModule} : cntOk1 m = true ↔ m.1.length ≤ 30 ∧ m.2.1.length ≤ 30 ∧ m.2.2.1.length ≤ 3 ∧ m.2.2.2.length ≤ 2 := by
 simp [cntOk1]

section
variable {w : World} {S : Nat → Prop} {A : Option Addr} {n c k : Nat}
theorem sl_form {rows : List (List Fd)} {v : Value} {m : Nat} (h : Rep w S v (.sl rows)) (hm : rows.length = m) : ∃ A c, v = .slice A m c ∧ Rep w S (.slice A m c) (.sl rows) ∧ m ≤ maxLen := by
 obtain ⟨A, c, rfl, hx⟩ := h.sl_val
 subst hm
 exact ⟨A, c, rfl, h, hx⟩
theorem mod_open {v : Value} {m : TModule} (h : RModule w S v m) : ∃ A0 c0 A1 c1 A2 c2 A3 c3, v = .agg #[.slice A0 m.1.length c0, .slice A1 m.2.1.length c1, .slice A2 m.2.2.1.length c2, .slice A3 m.2.2.2.length c3] ∧
  Rep w S (.slice A0 m.1.length c0) (fSignalS m.1) ∧ Rep w S (.slice A1 m.2.1.length c1) (fAssignS m.2.1) ∧ Rep w S (.slice A2 m.2.2.1.length c2) (fInstS m.2.2.1) ∧ Rep w S (.slice A3 m.2.2.2.length c3) (fMemS m.2.2.2) ∧
  m.1.length ≤ maxLen ∧ m.2.1.length ≤ maxLen ∧ m.2.2.1.length ≤ maxLen ∧ m.2.2.2.length ≤ maxLen := by
 obtain ⟨v0, v1, v2, v3, rfl, h0, h1, h2, h3⟩ := h
 obtain ⟨A0, c0, rfl, r0, m0⟩ := sl_form h0 (List.length_map _)
 obtain ⟨A1, c1, rfl, r1, m1⟩ := sl_form h1 (List.length_map _)
 obtain ⟨A2, c2, rfl, r2, m2⟩ := sl_form h2 (List.length_map _)
 obtain ⟨A3, c3, rfl, r3, m3⟩ := sl_form h3 (List.length_map _)
 exact ⟨A0, c0, A1, c1, A2, c2, A3, c3, rfl, r0, r1, r2, r3, m0, m1, m2, m3⟩
theorem dsn_open {v : Value} {d : TDesign} (h : RDesign w S v d) : ∃ A c, v = .agg #[.slice A d.length c] ∧ Rep w S (.slice A d.length c) (fModuleS d) ∧ d.length ≤ maxLen := by
 obtain ⟨v0, rfl, h0⟩ := h
 obtain ⟨A0, c0, rfl, r0, m0⟩ := sl_form h0 (List.length_map _)
 exact ⟨A0, c0, rfl, r0, m0⟩
theorem mod_row {d : TDesign} (h : Rep w S (.slice A n c) (fModuleS d)) (hk : k < n) : ∃ (ad : Addr) (m : TModule) (A0 : Option Addr) (c0 : Nat) (A1 : Option Addr) (c1 : Nat) (A2 : Option Addr) (c2 : Nat) (A3 : Option Addr) (c3 : Nat),
  A = some ad ∧ S ad.block ∧ d[k]? = some m ∧ RModule w S (.agg #[.slice A0 m.1.length c0, .slice A1 m.2.1.length c1, .slice A2 m.2.2.1.length c2, .slice A3 m.2.2.2.length c3]) m ∧
  (m.1.length ≤ maxLen ∧ m.2.1.length ≤ maxLen ∧ m.2.2.1.length ≤ maxLen ∧ m.2.2.2.length ≤ maxLen) ∧
  w.cell? (ad.add (k * 4)) = some (.slice A0 m.1.length c0) ∧ w.cell? (nxt (ad.add (k * 4)) 1) = some (.slice A1 m.2.1.length c1) ∧ w.cell? (nxt (ad.add (k * 4)) 2) = some (.slice A2 m.2.2.1.length c2) ∧ w.cell? (nxt (ad.add (k * 4)) 3) = some (.slice A3 m.2.2.2.length c3) := by
 obtain ⟨ad, x0, x1, x2, x3, v0, v1, v2, v3, rfl, hb, hx, h0, h1, h2, h3, e0, e1, e2, e3⟩ := fModuleS_row h hk
 obtain ⟨A0, c0, rfl, r0, m0⟩ := sl_form h0 (List.length_map _)
 obtain ⟨A1, c1, rfl, r1, m1⟩ := sl_form h1 (List.length_map _)
 obtain ⟨A2, c2, rfl, r2, m2⟩ := sl_form h2 (List.length_map _)
 obtain ⟨A3, c3, rfl, r3, m3⟩ := sl_form h3 (List.length_map _)
 exact ⟨ad, (x0, x1, x2, x3), A0, c0, A1, c1, A2, c2, A3, c3, rfl, hb, hx, ⟨_, _, _, _, rfl, r0, r1, r2, r3⟩, ⟨m0, m1, m2, m3⟩, e0, e1, e2, e3⟩
theorem ins_row {l : List TInst} (h : Rep w S (.slice A n c) (fInstS l)) (hk : k < n) : ∃ (ad : Addr) (a b : Int) (ps : List Int) (A2 : Option Addr) (c2 : Nat),
  A = some ad ∧ S ad.block ∧ l[k]? = some (a, b, ps) ∧ Rep w S (.slice A2 ps.length c2) (fIntS ps) ∧ ps.length ≤ maxLen ∧
  w.cell? (ad.add (k * 3)) = some (.int .i64 a) ∧ w.cell? (nxt (ad.add (k * 3)) 1) = some (.int .i64 b) ∧ w.cell? (nxt (ad.add (k * 3)) 2) = some (.slice A2 ps.length c2) := by
 obtain ⟨ad, x0, x1, x2, v2, rfl, hb, hx, h2, e0, e1, e2⟩ := fInstS_row h hk
 obtain ⟨A2, c2, rfl, r2, m2⟩ := sl_form h2 (List.length_map _)
 exact ⟨ad, x0, x1, x2, A2, c2, rfl, hb, hx, r2, m2, e0, e1, e2⟩
theorem asg_row {l : List TAssign} (h : Rep w S (.slice A n c) (fAssignS l)) (hk : k < n) : ∃ (ad : Addr) (a : Int) (os : List TOp) (A1 : Option Addr) (c1 : Nat),
  A = some ad ∧ S ad.block ∧ l[k]? = some (a, os) ∧ Rep w S (.slice A1 os.length c1) (fOpS os) ∧ os.length ≤ maxLen ∧
  w.cell? (ad.add (k * 2)) = some (.int .i64 a) ∧ w.cell? (nxt (ad.add (k * 2)) 1) = some (.slice A1 os.length c1) := by
 obtain ⟨ad, x0, x1, v1, rfl, hb, hx, h1, e0, e1⟩ := fAssignS_row h hk
 obtain ⟨A1, c1, rfl, r1, m1⟩ := sl_form h1 (List.length_map _)
 exact ⟨ad, x0, x1, A1, c1, rfl, hb, hx, r1, m1, e0, e1⟩
end
end Go.Proofs.YtolndlmhbnpmeaaDoor

/- Contracts: are the lists of a design short enough: the program's function. -/
namespace Go.Proofs.YtolndlmhbnpmeaaDoor
open Go.RowKit

set_option maxRecDepth 100000 in
set_option maxHeartbeats 4000000 in
theorem i_countsOk {w : World} {S : Nat → Prop} {v : Value} {d : TDesign} (h : RDesign w S v d) (hS : ∀ b, S b → b < w.heap.size) :
  Calls Tryd.prog 47 #[v] w fun e w' => e = .returned (.bool (countsB d)) ∧ Below w.heap.size w w' := by
 obtain ⟨A, c, rfl, hr, hm⟩ := dsn_open h
 obtain ⟨n, hl⟩ : ∃ n, d.length = n := ⟨_, rfl⟩
 rw [hl] at hr hm ⊢
 have Hl := Lib.hid hl
 unfold maxLen at hm
 clear h hl
 by_cases h4 : n ≤ 4
 ·go_enter Tryd.func47, Tryd.ntmps47
  go_wp2_with fail
  go_loopw [4, 12] (fun _ iv wr => ∃ k : Nat, k ≤ n ∧ iv = .int .i64 k ∧ Hid ((d.take k).all cntOk1 = true) ∧ Below w.heap.size w wr) (fun _ iv _ => n - (intOf iv).toNat)
  case atStart => exact ⟨0, Nat.zero_le _, rfl, Lib.hid rfl, bel_⟩
  case round =>
   obtain ⟨k, hk, rfl, Hok, hb⟩ := hrel
   have Hb := Lib.hid hb
   have hsz := hb.size
   clear hb
   by_cases hlt : k < n
   ·obtain ⟨ad, m, A0, c0, A1, c1, A2, c2, A3, c3, rfl, hab, hx, hRm, hml, e0, e1, e2, e3⟩ := mod_row (hr.under hS Hb.out) hlt
    have Hx := Lib.hid hx
    have g1 : (0 : Int) ≤ (k : Int) := by omega
    have g2 : (k : Int) < (n : Int) := by omega
    have Hb2 := Lib.hid (Hb.out.alloc hsz (.cells #[.slice A0 m.1.length c0, .slice A1 m.2.1.length c1, .slice A2 m.2.2.1.length c2, .slice A3 m.2.2.2.length c3] 50))
    have Hs := Lib.hid (all_take (p := cntOk1) hx)
    clear hRm hml hx
    by_cases q0 : m.1.length ≤ 30
    ·by_cases q1 : m.2.1.length ≤ 30
     ·by_cases q2 : m.2.2.1.length ≤ 3
      ·by_cases q3 : m.2.2.2.length ≤ 2
       ·have Hq := Lib.hid (cntOk1_iff.2 ⟨q0, q1, q2, q3⟩)
        go_wp2_with fail
        go_roundw
        case rel => exact ⟨k + 1, by omega, by go_num, Lib.hid (by rw [Hs.out, Hok.out, Hq.out]; rfl), Hb2.out⟩
        case measure => simp [intOf]; omega
       ·go_wp2_with fail
        go_ret
        exact ⟨ret_bool (by unfold countsB; rw [all_not Hx.out (by simp only [cntOk1]; simp; omega), Bool.and_false]), Hb2.out⟩
      ·go_wp2_with fail
       go_ret
       exact ⟨ret_bool (by unfold countsB; rw [all_not Hx.out (by simp only [cntOk1]; simp; omega), Bool.and_false]), Hb2.out⟩
     ·go_wp2_with fail
      go_ret
      exact ⟨ret_bool (by unfold countsB; rw [all_not Hx.out (by simp only [cntOk1]; simp; omega), Bool.and_false]), Hb2.out⟩
    ·go_wp2_with fail
     go_ret
     exact ⟨ret_bool (by unfold countsB; rw [all_not Hx.out (by simp only [cntOk1]; simp; omega), Bool.and_false]), Hb2.out⟩
   ·have hkn : k = n := by omega
    have hge : (n : Int) ≤ (k : Int) := by omega
    have He := Lib.hid (show countsB d = true by
     have h1 := Hok.out
     rw [List.take_of_length_le (by rw [Hl.out]; omega)] at h1
     unfold countsB
     rw [h1, Hl.out, decide_eq_true h4]
     rfl)
    clear hkn
    go_wp2_with fail
    go_ret
    exact ⟨ret_bool He.out.symm, Hb.out⟩
 ·go_enter Tryd.func47, Tryd.ntmps47
  go_wp2_with fail
  go_ret
  exact ⟨ret_bool (by unfold countsB; rw [Hl.out, decide_eq_false h4]; rfl), bel_⟩
end Go.Proofs.YtolndlmhbnpmeaaDoor

/- Contracts: have the instances of a module their ports: the program's function; one driver more. -/
namespace Go.Proofs.YtolndlmhbnpmeaaDoor
open Go.RowKit

theorem bwS3 {B : Nat} {W0 : World} {g : Nat} {t : TypeId} {a b c : Value} (h : Blk W0 g t #[a, b, c]) (hg : g < B) : (∀ W : Wd (fun w => Below B W0 w), W.val.cell? ⟨g, 0, none⟩ = some a) ∧ (∀ W : Wd (fun w => Below B W0 w), W.val.cell? ⟨g, 1, none⟩ = some b) ∧ (∀ W : Wd (fun w => Below B W0 w), W.val.cell? ⟨g, 2, none⟩ = some c) :=
 ⟨fun W => (W.ok.cell (p := ⟨g, 0, none⟩) hg).trans (h.cell 0), fun W => (W.ok.cell (p := ⟨g, 1, none⟩) hg).trans (h.cell 1), fun W => (W.ok.cell (p := ⟨g, 2, none⟩) hg).trans (h.cell 2)⟩
/-- a cell below B in a class of worlds -/
theorem wcell {B : Nat} {W0 : World} {p : Addr} {u : Value} (h : W0.cell? p = some u) (hp : p.block < B) : ∀ W : Wd (fun w => Below B W0 w), W.val.cell? p = some u := fun W => (W.ok.cell hp).trans h

set_option maxRecDepth 100000 in
set_option maxHeartbeats 4000000 in
theorem i_instsOk {w : World} {S : Nat → Prop} {v : Value} {d : TDesign} {k : Nat} (h : RDesign w S v d) (hS : ∀ b, S b → b < w.heap.size) (hk : k < d.length) :
  Calls Tryd.prog 48 #[v, .int .i64 (k : Int)] w fun e w' => e = .returned (.bool (instsB d k)) ∧ Below w.heap.size w w' := by
 obtain ⟨A, c, rfl, hr, hm⟩ := dsn_open h
 obtain ⟨n, hl⟩ : ∃ n, d.length = n := ⟨_, rfl⟩
 rw [hl] at hr hm hk ⊢
 have Hl := Lib.hid hl
 unfold maxLen at hm
 obtain ⟨ad, m, A0, c0, A1, c1, A2, c2, A3, c3, rfl, hab, hx, hRm, hml, e0, e1, e2, e3⟩ := mod_row hr hk
 have Hmd := Lib.hid (md_get hx)
 have hab1 := hS _ hab
 have hpl := hml.2.2.1
 unfold maxLen at hpl
 obtain ⟨_, _, _, _, _, _, _, _, hae, _, _, hI, _⟩ := mod_open hRm
 simp only [Value.agg.injEq, Array.mk.injEq, List.cons.injEq, Value.slice.injEq, true_and, and_true] at hae
 obtain ⟨⟨-, -⟩, ⟨-, -⟩, ⟨rfl, rfl⟩, -, -⟩ := hae
 obtain ⟨ni, hni⟩ : ∃ ni, m.2.2.1.length = ni := ⟨_, rfl⟩
 rw [hni] at hI e2 hpl
 have Hni := Lib.hid hni
 have HRm := Lib.hid hRm
 have HR := Lib.hid hr
 have g5 : (0 : Int) ≤ (k : Int) := by omega
 have g6 : (k : Int) < (n : Int) := by omega
 have e2' := (World.cell?_alloc_lt w (.cells #[.slice (some ad) n c] 26) (nxt (ad.add (k * 4)) 2) (by rw [nxt_block]; exact hab1)).trans e2
 clear h hl hx hRm hml hni hr e0 e1 e2 e3
 go_enter Tryd.func48, Tryd.ntmps48
 go_wp2_with fail
 go_loopw [6, 14] (fun _ iv wr => ∃ j : Nat, j ≤ ni ∧ iv = .int .i64 j ∧ Hid ((m.2.2.1.take j).all (insB d k) = true) ∧ Blk wr w.heap.size 26 #[.slice (some ad) n c] ∧ Below w.heap.size w wr) (fun _ iv _ => ni - (intOf iv).toNat)
 case atStart => exact ⟨0, Nat.zero_le _, rfl, Lib.hid rfl, Blk.new _ _ _, bel_⟩
 case round =>
  obtain ⟨j, hj, rfl, Hok, hD, hb⟩ := hrel
  have Hb := Lib.hid hb
  have HD := Lib.hid hD
  have hsz := hb.size
  have hlt0 := hD.lt
  clear hb hD e2'
  by_cases hlt : j < ni
  ·obtain ⟨ad2, a, b, ps, A2', c2', rfl, hab2, hx, hrp, hpm, f0, f1, f2⟩ := ins_row (hI.under hS Hb.out) hlt
   have Hx := Lib.hid hx
   have g1 : (0 : Int) ≤ (j : Int) := by omega
   have g2 : (j : Int) < (ni : Int) := by omega
   have hab3 := hS _ hab2
   have Hb2 := Lib.hid (Hb.out.alloc hsz (.cells #[.int .i64 a, .int .i64 b, .slice A2' ps.length c2'] 75))
   have Hs := Lib.hid (all_take (p := insB d k) hx)
   unfold maxLen at hpm
   clear hx
   cases hq : inR a 0 ((k : Int) - 1) with
   | false =>
    have Hq := Lib.hid hq
    clear hq
    have HX := Lib.hid (Blk.new wr 75 #[.int .i64 a, .int .i64 b, .slice A2' ps.length c2'])
    have Hd0 := Lib.hid (HD.out.alloc (.cells #[.int .i64 a, .int .i64 b, .slice A2' ps.length c2'] 75))
    obtain ⟨W1, hW1⟩ : ∃ W1, W1 = wr.alloc (.cells #[.int .i64 a, .int .i64 b, .slice A2' ps.length c2'] 75) := ⟨_, rfl⟩
    go_wp2_with fail
    rw [← hW1] at HX Hd0 Hb2 ⊢
    have hlx : wr.heap.size < W1.heap.size := HX.out.lt
    have hld : w.heap.size < W1.heap.size := Hd0.out.lt
    clear hW1
    refine wp_region_lexC (by kernel_rfl) (by kernel_rfl) (fun x => Below W1.heap.size W1 x) ((Below.refl _ _).drew) (fun lexNE => ?_)
    obtain ⟨cX0, cX1, cX2⟩ := bwS3 HX.out hlx
    have cD0 := bwS1 Hd0.out hld
    (repeat (first | (refine lex_r fun K hK => ?_; go_big_quiet_op; refine hK _ ?_; clear hK K) | (refine lex_k fun K hK => ?_; go_simp; refine hK _ ?_; clear hK K)))
    (refine lex_e fun K hK => ?_; go_big_op)
    refine (i_inRange a 0 ((k : Int) - 1) _).mono ?_
    rintro e w9 ⟨rfl, rfl⟩
    rw [Hq.out]
    refine hK _ _ (Cls.mk' ((Below.refl _ _).drew)) ?_
    clear hK K
    (repeat (first | (refine lex_r fun K hK => ?_; go_big_quiet_op; refine hK _ ?_; clear hK K) | (refine lex_k fun K hK => ?_; go_simp; refine hK _ ?_; clear hK K)))
    (refine lex_nil ?_)
    clear lexNE cX0 cX1 cX2 cD0
    go_wp2_with fail
    go_ret
    exact ⟨ret_bool (by unfold instsB; rw [Hmd.out, all_not Hx.out (by simp only [insB]; rw [Hq.out]; rfl)]), Hb2.out.drew⟩
   | true =>
    have Hq := Lib.hid hq
    have hq1 := (inR_iff.1 hq).1
    have hq2 := (inR_iff.1 hq).2
    obtain ⟨p, rfl⟩ := Int.eq_ofNat_of_zero_le hq1
    have hpn : p < n := by omega
    have g3 : (p : Int) < (n : Int) := by omega
    clear hq
    obtain ⟨ad3, m', B0, b0, B1, b1, B2, b2, B3, b3, hAe, hab4, hx', hRm', hml', t0, t1, t2, t3⟩ := mod_row ((HR.out.under hS Hb2.out)) hpn
    obtain rfl : ad = ad3 := by injection hAe
    have Hmd' := Lib.hid (md_get hx')
    have hbl : ad.block < (wr.alloc (.cells #[.int .i64 p, .int .i64 b, .slice A2' ps.length c2'] 75)).heap.size := by simp; omega
    have HRm' := Lib.hid hRm'
    clear hx' hRm' hml' hAe
    obtain ⟨P, hP⟩ : ∃ P, P = portsM m' := ⟨_, rfl⟩
    have HP := Lib.hid hP
    have hPl : P.length ≤ 30 := by rw [hP]; exact portsL_len _
    clear hP
    have Hins := Lib.hid (show insB d k (p, b, ps) = decide (ps.length = P.length) by simp only [insB]; rw [Hq.out, Hmd'.out, HP.out]; rfl)
    by_cases hpe : ps.length = P.length
    ·have hpe' : ((ps.length : Int) != (P.length : Int)) = false := by simp; omega
     have Hpe := Lib.hid hpe
     clear hpe
     have HX := Lib.hid (Blk.new wr 75 #[.int .i64 p, .int .i64 b, .slice A2' ps.length c2'])
     have Hd0 := Lib.hid (HD.out.alloc (.cells #[.int .i64 p, .int .i64 b, .slice A2' ps.length c2'] 75))
     obtain ⟨W1, hW1⟩ : ∃ W1, W1 = wr.alloc (.cells #[.int .i64 p, .int .i64 b, .slice A2' ps.length c2'] 75) := ⟨_, rfl⟩
     go_wp2_with fail
     rw [← hW1] at HX Hd0 hbl t0 t1 t2 t3 HRm' Hb2 ⊢
     have hlx : wr.heap.size < W1.heap.size := HX.out.lt
     have hld : w.heap.size < W1.heap.size := Hd0.out.lt
     have hlw : w.heap.size ≤ W1.heap.size := by omega
     clear hW1
     refine wp_region_lexC (by kernel_rfl) (by kernel_rfl) (fun x => Below W1.heap.size W1 x) ((Below.refl _ _).drew) (fun lexNE => ?_)
     obtain ⟨cX0, cX1, cX2⟩ := bwS3 HX.out hlx
     have cD0 := bwS1 Hd0.out hld
     have ct0 := wcell t0 (by rw [block_of_add]; exact hbl)
     have ct1 := wcell t1 (by rw [nxt_block]; exact hbl)
     have ct2 := wcell t2 (by rw [nxt_block]; exact hbl)
     have ct3 := wcell t3 (by rw [nxt_block]; exact hbl)
     (repeat (first | (refine lex_r fun K hK => ?_; go_big_quiet_op; refine hK _ ?_; clear hK K) | (refine lex_k fun K hK => ?_; go_simp; refine hK _ ?_; clear hK K)))
     (refine lex_e fun K hK => ?_; go_big_op)
     refine (i_inRange (p : Int) 0 ((k : Int) - 1) _).mono ?_
     rintro e w9 ⟨rfl, rfl⟩
     rw [Hq.out]
     refine hK _ _ (Cls.mk' ((Below.refl _ _).drew)) ?_
     clear hK K
     (repeat (first | (refine lex_r fun K hK => ?_; go_big_quiet_op; refine hK _ ?_; clear hK K) | (refine lex_k fun K hK => ?_; go_simp; refine hK _ ?_; clear hK K)))
     (refine lex_e fun K hK => ?_; go_big_op)
     refine (i_PortsOf (HRm'.out.keep (w' := W1.drew) (fun _ _ => rfl)) (fun b hb => Nat.lt_of_lt_of_le (hS b hb) hlw)).mono ?_
     rintro e w8 ⟨v', rfl, hq8, hb8⟩
     rw [← HP.out] at hq8
     obtain ⟨A8, c8, rfl, _, _⟩ := sl_form hq8.rep (List.length_map _)
     have H8 := Lib.hid ((Below.refl W1.heap.size W1).drew.trans hb8)
     refine hK _ _ (Cls.mk' H8.out) ?_
     clear hK K hq8 hb8
     (repeat (first | (refine lex_r fun K hK => ?_; go_big_quiet_op; refine hK _ ?_; clear hK K) | (refine lex_k fun K hK => ?_; go_simp; refine hK _ ?_; clear hK K)))
     (refine lex_nil ?_)
     clear lexNE cX0 cX1 cX2 cD0 ct0 ct1 ct2 ct3
     have Hf := H8
     have HDf := Lib.hid (Hd0.out.below H8.out hld)
     go_wp2_with fail
     go_roundw
     case rel => exact ⟨j + 1, by omega, by go_num, Lib.hid (by rw [Hs.out, Hok.out, Hins.out, Hpe.out]; simp), HDf.out, Hb2.out.trans (Hf.out.mono hlw)⟩
     case measure => simp [intOf]; omega
    ·have hpe' : ((ps.length : Int) != (P.length : Int)) = true := by simp; omega
     have Hpe := Lib.hid hpe
     clear hpe
     have HX := Lib.hid (Blk.new wr 75 #[.int .i64 p, .int .i64 b, .slice A2' ps.length c2'])
     have Hd0 := Lib.hid (HD.out.alloc (.cells #[.int .i64 p, .int .i64 b, .slice A2' ps.length c2'] 75))
     obtain ⟨W1, hW1⟩ : ∃ W1, W1 = wr.alloc (.cells #[.int .i64 p, .int .i64 b, .slice A2' ps.length c2'] 75) := ⟨_, rfl⟩
     go_wp2_with fail
     rw [← hW1] at HX Hd0 hbl t0 t1 t2 t3 HRm' Hb2 ⊢
     have hlx : wr.heap.size < W1.heap.size := HX.out.lt
     have hld : w.heap.size < W1.heap.size := Hd0.out.lt
     have hlw : w.heap.size ≤ W1.heap.size := by omega
     clear hW1
     refine wp_region_lexC (by kernel_rfl) (by kernel_rfl) (fun x => Below W1.heap.size W1 x) ((Below.refl _ _).drew) (fun lexNE => ?_)
     obtain ⟨cX0, cX1, cX2⟩ := bwS3 HX.out hlx
     have cD0 := bwS1 Hd0.out hld
     have ct0 := wcell t0 (by rw [block_of_add]; exact hbl)
     have ct1 := wcell t1 (by rw [nxt_block]; exact hbl)
     have ct2 := wcell t2 (by rw [nxt_block]; exact hbl)
     have ct3 := wcell t3 (by rw [nxt_block]; exact hbl)
     (repeat (first | (refine lex_r fun K hK => ?_; go_big_quiet_op; refine hK _ ?_; clear hK K) | (refine lex_k fun K hK => ?_; go_simp; refine hK _ ?_; clear hK K)))
     (refine lex_e fun K hK => ?_; go_big_op)
     refine (i_inRange (p : Int) 0 ((k : Int) - 1) _).mono ?_
     rintro e w9 ⟨rfl, rfl⟩
     rw [Hq.out]
     refine hK _ _ (Cls.mk' ((Below.refl _ _).drew)) ?_
     clear hK K
     (repeat (first | (refine lex_r fun K hK => ?_; go_big_quiet_op; refine hK _ ?_; clear hK K) | (refine lex_k fun K hK => ?_; go_simp; refine hK _ ?_; clear hK K)))
     (refine lex_e fun K hK => ?_; go_big_op)
     refine (i_PortsOf (HRm'.out.keep (w' := W1.drew) (fun _ _ => rfl)) (fun b hb => Nat.lt_of_lt_of_le (hS b hb) hlw)).mono ?_
     rintro e w8 ⟨v', rfl, hq8, hb8⟩
     rw [← HP.out] at hq8
     obtain ⟨A8, c8, rfl, _, _⟩ := sl_form hq8.rep (List.length_map _)
     have H8 := Lib.hid ((Below.refl W1.heap.size W1).drew.trans hb8)
     refine hK _ _ (Cls.mk' H8.out) ?_
     clear hK K hq8 hb8
     (repeat (first | (refine lex_r fun K hK => ?_; go_big_quiet_op; refine hK _ ?_; clear hK K) | (refine lex_k fun K hK => ?_; go_simp; refine hK _ ?_; clear hK K)))
     (refine lex_nil ?_)
     clear lexNE cX0 cX1 cX2 cD0 ct0 ct1 ct2 ct3
     have Hf := H8
     have HDf := Lib.hid (Hd0.out.below H8.out hld)
     go_wp2_with fail
     go_ret
     exact ⟨ret_bool (by unfold instsB; rw [Hmd.out, all_not Hx.out (by rw [Hins.out]; simpa using Hpe.out)]), Hb2.out.trans (Hf.out.mono hlw)⟩
  ·have hjn : j = ni := by omega
   have hge : (ni : Int) ≤ (j : Int) := by omega
   have He := Lib.hid (show instsB d k = true by
    have h1 := Hok.out
    rw [List.take_of_length_le (by rw [Hni.out]; omega)] at h1
    unfold instsB
    rw [Hmd.out, h1])
   clear hjn
   go_wp2_with fail
   go_ret
   exact ⟨ret_bool He.out.symm, Hb.out⟩
end Go.Proofs.YtolndlmhbnpmeaaDoor

/- Contracts: the drivers of all signals of a module: the program's function. -/
namespace Go.Proofs.YtolndlmhbnpmeaaDoor
open Go.RowKit

/-! ### counts -/
def arrC (n : Nat) (c : Nat → Nat) : List Int := (List.range n).map fun s => (c s : Int)
theorem arrC_len (n : Nat) (c : Nat → Nat) : (arrC n c).length = n := by simp [arrC]
theorem arrC_get {n s : Nat} {c : Nat → Nat} (h : s < n) : (arrC n c)[s]? = some (c s : Int) := by simp [arrC, h]
theorem arrC_cong {n : Nat} {c c' : Nat → Nat} (h : ∀ s, s < n → c s = c' s) : arrC n c = arrC n c' := by
 unfold arrC
 apply List.map_congr_left
 intro s hs
 rw [h s (List.mem_range.1 hs)]
/-- one more at place s0, if there is such a place -/
def bump (l : List Int) (s : Int) : List Int := if inR s 0 (l.length - 1) then l.set s.toNat (l.getD s.toNat 0 + 1) else l
theorem bump_arr (n : Nat) (c : Nat → Nat) (s0 : Int) : bump (arrC n c) s0 = arrC n (fun s => c s + if s0 = (s : Int) then 1 else 0) := by
 unfold bump
 rw [arrC_len]
 split
 ·rename_i h
  obtain ⟨h1, h2⟩ := inR_iff.1 h
  obtain ⟨p, rfl⟩ := Int.eq_ofNat_of_zero_le h1
  have hp : p < n := by omega
  rw [Int.toNat_natCast]
  apply List.ext_getElem?
  intro i
  rw [List.getElem?_set, arrC_len]
  by_cases hi : p = i
  ·subst hi
   rw [if_pos rfl, if_pos hp, arrC_get hp]
   simp [List.getD, arrC_get hp]
  ·rw [if_neg hi]
   by_cases hin : i < n
   ·rw [arrC_get hin, arrC_get hin]
    have : ¬ ((p : Int) = (i : Int)) := by omega
    simp [this]
   ·rw [List.getElem?_eq_none (by rw [arrC_len]; omega), List.getElem?_eq_none (by rw [arrC_len]; omega)]
 ·rename_i h
  apply arrC_cong
  intro s hs
  have : ¬ (s0 = (s : Int)) := by
   rintro rfl
   apply h
   rw [inR_iff]
   omega
  simp [this]

def asgN (l : List TAssign) (s : Nat) : Nat := l.countP fun a => decide (a.1 = (s : Int))
def memN (l : List TMem) (s : Nat) : Nat := l.countP fun x => decide (x.2.2.2 = (s : Int))
def kindAt (sg : List TSignal) (p : Int) : Int := (sg.getD p.toNat (-1, 0, 0)).1
def portN (sg : List TSignal) (ps : List (Int × Int)) (s : Nat) : Nat := ps.countP fun x => decide (kindAt sg x.1 = 1 ∧ x.2 = (s : Int))
def instN (d : TDesign) (x : TInst) (s : Nat) : Nat := portN (md d x.1).1 ((portsM (md d x.1)).zip x.2.2) s
def insN (d : TDesign) (l : List TInst) (s : Nat) : Nat := (l.map fun x => instN d x s).sum
/-- how often signal s of module m is driven -/
def drvN (d : TDesign) (m : TModule) (s : Nat) : Nat := asgN m.2.1 s + memN m.2.2.2 s + insN d m.2.2.1 s
theorem countP_succ {α : Type} {p : α → Bool} {l : List α} {k : Nat} {x : α} (h : l[k]? = some x) : (l.take (k + 1)).countP p = (l.take k).countP p + if p x then 1 else 0 := by
 rw [List.take_add_one, h, List.countP_append]
 simp [List.countP_cons]
theorem asgN_succ {l : List TAssign} {k : Nat} {x : TAssign} (h : l[k]? = some x) (s : Nat) : asgN (l.take (k + 1)) s = asgN (l.take k) s + if x.1 = (s : Int) then 1 else 0 := by
 unfold asgN; rw [countP_succ h]; simp
theorem memN_succ {l : List TMem} {k : Nat} {x : TMem} (h : l[k]? = some x) (s : Nat) : memN (l.take (k + 1)) s = memN (l.take k) s + if x.2.2.2 = (s : Int) then 1 else 0 := by
 unfold memN; rw [countP_succ h]; simp
theorem portN_succ {sg : List TSignal} {l : List (Int × Int)} {k : Nat} {x : Int × Int} (h : l[k]? = some x) (s : Nat) : portN sg (l.take (k + 1)) s = portN sg (l.take k) s + if kindAt sg x.1 = 1 ∧ x.2 = (s : Int) then 1 else 0 := by
 unfold portN; rw [countP_succ h]; simp
theorem insN_succ {d : TDesign} {l : List TInst} {k : Nat} {x : TInst} (h : l[k]? = some x) (s : Nat) : insN d (l.take (k + 1)) s = insN d (l.take k) s + instN d x s := by
 unfold insN; rw [List.take_add_one, h]; simp
theorem asgN_le (l : List TAssign) (s : Nat) : asgN l s ≤ l.length := List.countP_le_length
theorem memN_le (l : List TMem) (s : Nat) : memN l s ≤ l.length := List.countP_le_length
theorem portN_le (sg : List TSignal) (l : List (Int × Int)) (s : Nat) : portN sg l s ≤ l.length := List.countP_le_length
theorem instN_le (d : TDesign) (x : TInst) (s : Nat) : instN d x s ≤ 30 := by
 refine Nat.le_trans (portN_le _ _ _) ?_
 rw [List.length_zip]
 have := portsL_len (md d x.1).1
 unfold portsM
 omega
theorem insN_le (d : TDesign) (l : List TInst) (s : Nat) : insN d l s ≤ 30 * l.length := by
 unfold insN
 induction l with
 | nil => simp
 | cons x l ih =>
  have := instN_le d x s
  simp only [List.map_cons, List.sum_cons, List.length_cons]
  omega

set_option maxRecDepth 100000 in
set_option maxHeartbeats 2000000 in
theorem i_add {w : World} {base g h n c : Nat} {l : List Int} (s : Int) (hX : Blk w g 73 #[.slice (some ⟨h, 0, none⟩) n c]) (hO : w.ownsRow base 3 1 (.slice (some ⟨h, 0, none⟩) n c) n (ints l)) (hn : n ≤ 1000) (hv : ∀ x ∈ l, 0 ≤ x ∧ x ≤ 1000000) :
  Calls Tryd.prog 59 #[.int .i64 s, .pointer (some ⟨g, 0, none⟩)] w fun e w' => e = .returned (.tuple #[]) ∧ w'.ownsRow base 3 1 (.slice (some ⟨h, 0, none⟩) n c) n (ints (bump l s)) ∧ Only (fun b => b = h) w w' := by
 have hl : l.length = n := by have := hO.1; rw [ints_len] at this; omega
 have x0 := hX.cell 0
 simp only [List.getElem?_toArray, List.getElem?_cons_zero] at x0
 cases hq : inR s 0 ((n : Int) - 1) with
 | false =>
  have Hq := Lib.hid hq
  have HO := Lib.hid hO
  have Hbp := Lib.hid (show bump l s = l by unfold bump; rw [hl, hq]; rfl)
  clear hq hO hv
  go_enter Tryd.func59, Tryd.ntmps59
  go_wp2_with fail
  refine (i_inRange s 0 ((n : Int) - 1) _).mono ?_
  rintro e w9 ⟨rfl, rfl⟩
  rw [Hq.out]
  go_wp2_with fail
  go_end0
  exact ⟨rfl, by rw [Hbp.out]; exact HO.out, Only.refl _ _⟩
 | true =>
  obtain ⟨h1, h2⟩ := inR_iff.1 hq
  obtain ⟨p, rfl⟩ := Int.eq_ofNat_of_zero_le h1
  have hp : p < n := by omega
  have hlp : l[p]? = some l[p] := List.getElem?_eq_getElem (by omega)
  obtain ⟨x, hx⟩ : ∃ x, l[p]? = some x := ⟨_, hlp⟩
  obtain ⟨hx1, hx2⟩ := hv x (List.mem_of_getElem? hx)
  have hc : w.cell? ⟨h, p, none⟩ = _ := hO.cellAt p (by omega)
  rw [ints_get, hx] at hc
  have hfz := hO.frozenAt p
  have Hq := Lib.hid hq
  have HO := Lib.hid hO
  have Hbp := Lib.hid (show bump l (p : Int) = l.set p (x + 1) by unfold bump; rw [hl, hq]; simp [List.getD, hx])
  have g1 : (0 : Int) ≤ (p : Int) := by omega
  have g2 : (p : Int) < (n : Int) := by omega
  clear hq hO hv h1 h2 hlp hx
  simp only [Option.map_some] at hc
  go_enter Tryd.func59, Tryd.ntmps59
  go_wp2_with fail
  refine (i_inRange (p : Int) 0 ((n : Int) - 1) _).mono ?_
  rintro e w9 ⟨rfl, rfl⟩
  rw [Hq.out]
  go_wp2_with fail
  go_end0
  have hs := HO.out.stored p (.int .i64 (x + 1))
  exact ⟨rfl, by rw [Hbp.out, show ints (l.set p (x + 1)) = (ints l).set p (.int .i64 (x + 1)) by simp [ints, List.map_set]]; exact hs.1, (Only.refl (fun b => b = h) _).setCell (p := ⟨h, p, none⟩) (.inl rfl) _⟩
end Go.Proofs.YtolndlmhbnpmeaaDoor

/- Contracts: drawn tables. -/
import Derived.Test.YtbkgjgpoohlieaaShn
import Derived.Test.YtbkgjgpoohlieaaDrawN
import Derived.Test.YtbkgjgpoohlieaaTabC
import Derived.Test.YtbkgjgpoohlieaaTabD
import Derived.Outline
namespace Go.Proofs.Ytbkgjgpoohlieaa
open Go.RowKit

/-- a drawn valid table -/
def DrawTab (B g : Nat) (w : World) (e : Ending) (w' : World) : Prop := ∃ n b : Int, e = .returned (.agg #[.int .i64 n, .int .i64 b]) ∧ tOk n b = true ∧ Cur B g w' ∧ w.grownBy w' (some g)

theorem Cur.below' {B g : Nat} {w w' : World} (h : Cur B g w) (hb : Below w.heap.size w w') : Cur B g w' := by
 have hl := h.lt
 obtain ⟨A, n, c, l, i, hh, hB, hBg, hr, hin, hn⟩ := h
 exact ⟨A, n, c, l, i, hh, hB.below hb hl, hBg, hr.below (hb.mono (by omega)), hin, hn⟩
theorem Cur.set_ {B g : Nat} {w : World} (h : Cur B g w) {p : Addr} (hp : g ≠ p.block) (hB : B ≤ p.block) (u : Value) : Cur B g (w.setCell p u) := by
 obtain ⟨A, n, c, l, i, hh, hB0, hBg, hr, hin, hn⟩ := h
 exact ⟨A, n, c, l, i, hh, hB0.far hp u, hBg, hr.setCell hB u, hin, hn⟩
theorem Cur.drew {B g : Nat} {w : World} (h : Cur B g w) : Cur B g w.drew := h
theorem grown_alloc {w w1 : World} {row : Option Nat} (h : w.grownBy w1 row) (o : Obj) : w.grownBy (w1.alloc o) row := h.trans (World.grownBy_alloc _ _ _)
theorem grown_set_new {w w1 : World} {g : Nat} (h : w.grownBy w1 (some g)) {p : Addr} (hp : w.heap.size ≤ p.block) (u : Value) : w.grownBy (w1.setCell p u) (some g) :=
 only_setCell h (.inr hp) u

set_option maxRecDepth 100000 in
set_option maxHeartbeats 4000000 in
theorem s_Table {B g : Nat} {w : World} (hcur : Cur B g w) : Calls Try.prog 52 #[.pointer (some ⟨g, 0, none⟩)] w (DrawTab B g w) := by
 have hl := hcur.lt
 have hle := hcur.le
 go_enter Try.func52, Try.ntmps52
 go_wp2_with fail
 refine (s_Below 5 (hcur.alloc _)).mono ?_
 rintro e w1 ⟨n, rfl, hx, hc1, hg1⟩
 obtain ⟨hn0, hn1⟩ := hx.1 (by omega)
 have HB1 := Lib.hid ((Blk.new w 31 #[.int .i64 0, .int .i64 0]).grown hg1 (by simp; omega))
 have Hg1 := Lib.hid ((World.grownBy_alloc w _ _).trans hg1)
 have Hc1 := Lib.hid hc1
 clear hx hc1 hg1 hcur
 have hn : inR n 0 4 = true := inR_iff.2 (by omega)
 have hf := full_le hn
 have hf0 := hf.1
 have hf1 := hf.2
 have Hn := Lib.hid hn
 have Hbits := Lib.hid (fun b => tOk_mk (b := b) hn)
 have Hfn := Lib.hid (full_nat hn)
 clear hf hn
 go_wp2_with fail
 refine (s_l02Full _ _ Hn.out).mono ?_
 rintro e w' ⟨rfl, rfl⟩
 go_wp2_with fail
 refine (s_Below _ Hc1.out).mono ?_
 rintro e w2 ⟨b, rfl, hx, hc2, hg2⟩
 obtain ⟨hb0, hb1⟩ := hx.1 (by omega)
 have HB2 := Lib.hid (HB1.out.grown hg2 (by simp; omega))
 have Hg2 := Lib.hid (Hg1.out.trans hg2)
 have Hc2 := Lib.hid hc2
 clear hx hc2 hg2
 have Hok := Lib.hid (show tOk n b = true by simp only [tOk, Hn.out, Bool.true_and]; apply inR_iff.2; omega)
 go_wp2_with fail
 refine (s_Once 3 Hc2.out).mono ?_
 rintro e w3 ⟨o, rfl, hc3, hg3⟩
 have HB3 := Lib.hid (HB2.out.grown hg3 (by simp; omega))
 have Hg3 := Lib.hid (Hg2.out.trans hg3)
 have Hc3 := Lib.hid hc3
 clear hc3 hg3
 have plain : ∀ (w3 : World), Blk w3 w.heap.size 31 #[.int .i64 0, .int .i64 0] → w.grownBy w3 (some g) → Cur B g w3 → 
  DrawTab B g w (.returned (.agg #[.int .i64 n, .int .i64 b])) ((w3.setCell ⟨w.heap.size, 0, none⟩ (.int .i64 n)).setCell ⟨w.heap.size, 1, none⟩ (.int .i64 b)) :=
  fun w3 hB hg hc => ⟨n, b, rfl, Hok.out, (hc.set_ (by simp; omega) (by simp; omega) _).set_ (by simp; omega) (by simp; omega) _, grown_set_new (grown_set_new hg (Nat.le_refl _) _) (Nat.le_refl _) _⟩
 have Plain := Lib.hid (plain w3 HB3.out Hg3.out Hc3.out)
 clear plain
 have b0 := HB3.out.cell 0
 have b1 := HB3.out.cell 1
 have f0 := HB3.out.frozen 0
 have f1 := HB3.out.frozen 1
 simp only [List.getElem?_toArray, List.getElem?_cons_zero, List.getElem?_cons_succ] at b0 b1
 cases o
 ·go_wp2_with fail
  exact bodyPost_ret (v := .agg #[.int .i64 n, .int .i64 b]) (by simp [results, Try.results52, go_sem, b0, b1]) rfl Plain.out
 ·by_cases hpos : 0 < n
  ·clear b0 b1 f0 f1
   go_wp2_with fail
   refine (s_Below _ Hc3.out).mono ?_
   rintro e w4 ⟨x, rfl, hx, hc4, hg4⟩
   obtain ⟨hx0, hx1⟩ := hx.1 (by omega)
   have HB4 := Lib.hid (HB3.out.grown hg4 (by simp; omega))
   have Hg4 := Lib.hid (Hg3.out.trans hg4)
   have Hc4 := Lib.hid hc4
   clear hx hc4 hg4
   obtain ⟨tv, htv, hov⟩ := tVar_ok Hn.out hx0 hx1
   have Hov := Lib.hid hov
   clear hov
   go_wp2_with fail
   refine (s_TableVar _ _ _).mono ?_
   rw [htv]
   rintro e w5 ⟨rfl, hb5⟩
   have HB5 := Lib.hid (HB4.out.below hb5 HB4.out.lt)
   have Hg5 := Lib.hid (grown_below Hg4.out hb5 Hg4.out.size)
   have Hc5 := Lib.hid (Hc4.out.below' hb5)
   clear hb5 htv
   go_wp2_with fail
   have l5 := HB5.out.lt
   have HB5' := Lib.hid (HB5.out.alloc (.cells #[.int .i64 n, .int .i64 tv] 31))
   have HD5 := Lib.hid (Blk.new w5 31 #[.int .i64 n, .int .i64 tv])
   have Hg5' := Lib.hid (grown_alloc Hg5.out (.cells #[.int .i64 n, .int .i64 tv] 31))
   refine (s_Below _ (Hc5.out.alloc _)).mono ?_
   rintro e w6 ⟨y, rfl, hy, hc6, hg6⟩
   obtain ⟨hy0, hy1⟩ := hy.1 (by omega)
   have lg5 := Hc5.out.lt
   have HB6 := Lib.hid (HB5'.out.grown hg6 (by simp; omega))
   have HD6 := Lib.hid (HD5.out.grown hg6 (by simp; omega))
   have Hg6 := Lib.hid (Hg5'.out.trans hg6)
   have Hc6 := Lib.hid hc6
   clear hy hc6 hg6
   obtain ⟨tu, htu, hou⟩ := tVar_ok Hn.out hy0 hy1
   have Hou := Lib.hid hou
   clear hou
   go_wp2_with fail
   refine (s_TableVar _ _ _).mono ?_
   rw [htu]
   rintro e w7 ⟨rfl, hb7⟩
   have HB7 := Lib.hid (HB6.out.below hb7 HB6.out.lt)
   have HD7 := Lib.hid (HD6.out.below hb7 HD6.out.lt)
   have Hg7 := Lib.hid (grown_below Hg6.out hb7 Hg6.out.size)
   have Hc7 := Lib.hid (Hc6.out.below' hb7)
   clear hb7 htu
   go_wp2_with fail
   have HB7' := Lib.hid (HB7.out.alloc (.cells #[.int .i64 n, .int .i64 tu] 31))
   have HD7' := Lib.hid (HD7.out.alloc (.cells #[.int .i64 n, .int .i64 tu] 31))
   have HE7 := Lib.hid (Blk.new w7 31 #[.int .i64 n, .int .i64 tu])
   have Hg7' := Lib.hid (grown_alloc Hg7.out (.cells #[.int .i64 n, .int .i64 tu] 31))
   refine (s_Once 2 (Hc7.out.alloc _)).mono ?_
   rintro e w8 ⟨o2, rfl, hc8, hg8⟩
   have lg7 := Hc7.out.lt
   have HB8 := Lib.hid (HB7'.out.grown hg8 (by simp; omega))
   have HD8 := Lib.hid (HD7'.out.grown hg8 (by simp; omega))
   have HE8 := Lib.hid (HE7.out.grown hg8 (by simp; omega))
   have Hg8 := Lib.hid (Hg7'.out.trans hg8)
   have Hc8 := Lib.hid hc8
   clear hc8 hg8
   have d0 := HD8.out.cell 0
   have d1 := HD8.out.cell 1
   have e0 := HE8.out.cell 0
   have e1 := HE8.out.cell 1
   simp only [List.getElem?_toArray, List.getElem?_cons_zero, List.getElem?_cons_succ] at d0 d1 e0 e1
   have fin : ∀ (w9 : World) (x : Int), tOk n x = true → Below w8.heap.size w8 w9 → w9.cell? ⟨w.heap.size, 0, none⟩ = some (.int .i64 0) ∧ w9.cell? ⟨w.heap.size, 1, none⟩ = some (.int .i64 0) ∧ w9.frozen? ⟨w.heap.size, 0, none⟩ = false ∧ w9.frozen? ⟨w.heap.size, 1, none⟩ = false ∧
     Hid (DrawTab B g w (.returned (.agg #[.int .i64 n, .int .i64 x])) ((w9.setCell ⟨w.heap.size, 0, none⟩ (.int .i64 n)).setCell ⟨w.heap.size, 1, none⟩ (.int .i64 x))) :=
    fun w9 x hx hb => by
     have hB := HB8.out.below hb HB8.out.lt
     have c0 := hB.cell 0
     have c1 := hB.cell 1
     simp only [List.getElem?_toArray, List.getElem?_cons_zero, List.getElem?_cons_succ] at c0 c1
     exact ⟨c0, c1, hB.frozen 0, hB.frozen 1, n, x, rfl, hx, ((Hc8.out.below' hb).set_ (by simp; omega) (by simp; omega) _).set_ (by simp; omega) (by simp; omega) _, grown_set_new (grown_set_new (grown_below Hg8.out hb Hg8.out.size) (Nat.le_refl _) _) (Nat.le_refl _) _⟩
   have Fin := Lib.hid fin
   clear fin
   cases o2
   ·obtain ⟨r, hr, hor⟩ := tXor_ok Hov.out Hou.out
    go_wp2_with fail
    refine (s_TableXor _ _ _ _ _).mono ?_
    rw [hr]
    rintro e w9 ⟨rfl, hb9⟩
    obtain ⟨b0, b1, f0, f1, hfin⟩ := Fin.out w9 r hor hb9
    clear hr d0 d1 e0 e1
    go_wp2_with fail
    exact bodyPost_ret (v := .agg #[.int .i64 n, .int .i64 r]) (by simp [results, Try.results52, go_sem, b0, b1]) rfl hfin
   ·obtain ⟨r, hr, hor⟩ := tAnd_ok Hov.out Hou.out
    obtain ⟨q, hq, hoq⟩ := tNot_ok hor
    go_wp2_with fail
    refine (s_TableAnd _ _ _ _ _).mono ?_
    rw [hr]
    rintro e w9 ⟨rfl, hb9⟩
    clear hr d0 d1 e0 e1
    go_wp2_with fail
    refine (s_TableNot _ _ _).mono ?_
    rw [hq]
    rintro e w10 ⟨rfl, hb10⟩
    obtain ⟨b0, b1, f0, f1, hfin⟩ := Fin.out w10 q hoq (hb9.trans (hb10.mono hb9.size))
    clear hq
    go_wp2_with fail
    exact bodyPost_ret (v := .agg #[.int .i64 n, .int .i64 q]) (by simp [results, Try.results52, go_sem, b0, b1]) rfl hfin
  ·have hpos' : n ≤ 0 := by omega
   go_wp2_with fail
   exact bodyPost_ret (v := .agg #[.int .i64 n, .int .i64 b]) (by simp [results, Try.results52, go_sem, b0, b1]) rfl Plain.out

theorem below_curL {w0 w w' : World} {B B0 g : Nat} (hb : Below B0 w0 w) (hc : Cur B g w) (hB : B0 ≤ g) (hg : w.grownBy w' (some g)) : Below B0 w0 w' :=
 hb.trans (below_of_grown hg (by have := hc.lt; omega) (fun k hk => by injection hk with hk; omega))
/-- a drawn valid table and an index of it -/
def DrawTabI (w : World) (e : Ending) (w' : World) : Prop := ∃ n b i : Int, e = .returned (.tuple #[.agg #[.int .i64 n, .int .i64 b], .int .i64 i]) ∧ tOk n b = true ∧ 0 ≤ i ∧ i < 2 ^ n.toNat ∧ Below w.heap.size w w'
set_option maxRecDepth 100000 in
set_option maxHeartbeats 4000000 in
theorem s_DrawTable {w : World} {A : Option Addr} {n c : Nat} {l : List UInt8} (hr : Reads w w.heap.size 1 A n (bys l)) (hn : n ≤ 1048576) : Calls Try.prog 18 #[.slice A n c] w (DrawTabI w) := by
 go_enter Try.func18, Try.ntmps18
 go_wp2_with fail
 refine (s_New ((hr.alloc (Nat.le_refl _) _).more (by simp)) hn).mono ?_
 rintro e w1 ⟨g, rfl, hc1, hb1⟩
 have HB1 := Lib.hid ((Blk.new w 31 #[.int .i64 0, .int .i64 0]).below hb1 (by simp))
 have Hb1 := Lib.hid (((Below.refl w.heap.size w).alloc (Nat.le_refl _) _).trans (hb1.mono (by simp)))
 have Hc1 := Lib.hid hc1
 have hgl := hc1.lt
 have hgb := hc1.le
 simp at hgb
 clear hb1 hc1
 go_wp2_with fail
 refine (s_Table Hc1.out).mono ?_
 rintro e w2 ⟨m, b, rfl, hok, hc2, hg2⟩
 have HB2 := Lib.hid (HB1.out.grown hg2 (by simp; omega))
 have Hb2 := Lib.hid (below_curL Hb1.out Hc1.out (by omega) hg2)
 have Hok := Lib.hid hok
 have Hc2 := Lib.hid hc2
 clear hg2 hok hc2
 have hm := (tOk_split Hok.out).1
 have hp := pow_bd hm
 have hp1 := hp.1
 have hp2 := hp.2
 have hm0 := (inR_iff.1 hm).1
 have hm1 := (inR_iff.1 hm).2
 obtain ⟨hw1, hw2⟩ := i64_pow hm
 clear hp hm hw2
 have mm : min m.toNat 64 = m.toNat := by omega
 have l1 := HB2.out.lt
 go_wp2_with fail
 have HB2' := Lib.hid (HB2.out.alloc (.cells #[.int .i64 m, .int .i64 b] 31))
 have HD2 := Lib.hid (Blk.new w2 31 #[.int .i64 m, .int .i64 b])
 have Hb2' := Lib.hid (Hb2.out.alloc Hb2.out.size (.cells #[.int .i64 m, .int .i64 b] 31))
 refine wp_region_lexC (by kernel_rfl) (by kernel_rfl) (fun x => Blk x w2.heap.size 31 #[.int .i64 m, .int .i64 b]) (HD2.out.drew) (fun lexNE => ?_)
 have c0 : ∀ W : Wd (fun x => Blk x w2.heap.size 31 #[.int .i64 m, .int .i64 b]), W.val.cell? ⟨w2.heap.size, 0, none⟩ = some (.int .i64 m) := fun W => W.ok.cell 0
 have c1 : ∀ W : Wd (fun x => Blk x w2.heap.size 31 #[.int .i64 m, .int .i64 b]), W.val.cell? ⟨w2.heap.size, 1, none⟩ = some (.int .i64 b) := fun W => W.ok.cell 1
 (repeat (first | (refine lex_r fun K hK => ?_; go_big_quiet_op; refine hK _ ?_; clear hK K) | (refine lex_k fun K hK => ?_; go_simp; refine hK _ ?_; clear hK K)))
 (refine lex_e fun K hK => ?_; go_big_op)
 refine (s_Below _ (Hc2.out.alloc _).drew).mono ?_
 rintro e w3 ⟨i, rfl, hi, hc3, hg3⟩
 obtain ⟨hi0, hi1⟩ := hi.1 (by omega)
 have HB3 := Lib.hid (HB2'.out.drew.grown hg3 (by simp; omega))
 have HD3 := Lib.hid (HD2.out.drew.grown hg3 (by simp; have := Hc2.out.lt; omega))
 have Hb3 := Lib.hid (below_curL Hb2'.out.drew (Hc2.out.alloc _).drew (by omega) hg3)
 have c2 := HB3.out.cell 0
 have c3 := HB3.out.cell 1
 have f2 := HB3.out.frozen 0
 have f3 := HB3.out.frozen 1
 simp only [List.getElem?_toArray, List.getElem?_cons_zero, List.getElem?_cons_succ] at c2 c3
 clear hi hc3 hg3
 refine hK _ _ (Cls.mk' HD3.out) ?_
 clear hK K
 (repeat (first | (refine lex_r fun K hK => ?_; go_big_quiet_op; refine hK _ ?_; clear hK K) | (refine lex_k fun K hK => ?_; go_simp; refine hK _ ?_; clear hK K)))
 (refine lex_e fun K hK => ?_; go_big_op)
 refine hK _ _ (Cls.mk' ((HD3.out.far (p := ⟨w.heap.size, 0, none⟩) (by simp; omega) _).far (p := ⟨w.heap.size, 1, none⟩) (by simp; omega) _)) ?_
 clear hK K
 (repeat (first | (refine lex_r fun K hK => ?_; go_big_quiet_op; refine hK _ ?_; clear hK K) | (refine lex_k fun K hK => ?_; go_simp; refine hK _ ?_; clear hK K)))
 (refine lex_nil ?_)
 clear lexNE c0 c1
 go_wp2_with fail
 refine bodyPost_ret (v := .tuple #[.agg #[.int .i64 m, .int .i64 b], .int .i64 i]) (by simp [results, Try.results18, go_sem, c2, c3]) rfl ⟨m, b, i, rfl, Hok.out, hi0, hi1, (Hb3.out.setCell (by simp) _).setCell (by simp) _⟩
end Go.Proofs.Ytbkgjgpoohlieaa

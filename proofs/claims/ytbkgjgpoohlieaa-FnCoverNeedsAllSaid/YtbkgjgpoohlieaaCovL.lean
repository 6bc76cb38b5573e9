/- Plain covers: what the laws of covers say. -/
import Derived.Test.YtbkgjgpoohlieaaMin
import Derived.Test.YtbkgjgpoohlieaaShn
namespace Go.Proofs.Ytbkgjgpoohlieaa
open Go.RowKit

theorem cEl {m : Int} {b : Nat} {L : List Tb.Cb} (hm : inR m 0 4 = true) (h : L.Sublist (Tb.prs m.toNat b)) {k : Nat} {x : Tb.Cb} (hx : L[k]? = some x) :
  cOk m x.1 x.2 = true ∧ x.1 < 16 ∧ x.2 < 16 := by
 have hc := cv_el (cv_prs hm h) _ (List.mem_of_getElem? (castL_get hx))
 have hb := cOk_bd hc
 have h16 := two16 hm
 simp only [Int.toNat_natCast] at hb
 exact ⟨hc, by omega, by omega⟩
/-- does a cube of a cover contain the index, as the program asks it -/
theorem cHas_hit {m i : Int} {x : Tb.Cb} (hc : cOk m x.1 x.2 = true) (_hm : inR m 0 4 = true) (h0 : 0 ≤ i) (h1 : i < 2 ^ m.toNat) : cHas m x.1 x.2 i = Tb.hit x i.toNat := by
 have : inR i 0 (top m) = true := inR_iff.2 (by simp only [top]; omega)
 obtain ⟨x1, x2⟩ := x
 rw [cHas, hc, this, hit_dec]
 simp
theorem minimal_sub {m : Int} {b : Nat} (hk : tOk m b = true) : (Tb.minimal m.toNat b).Sublist (Tb.prs m.toNat b) := by
 obtain ⟨_, b', e, hb⟩ := tOk_split hk
 obtain rfl : b = b' := by omega
 exact (Tb.minimal_spec hb).2.1
theorem minimal_tab {m : Int} {b : Nat} (hk : tOk m b = true) : Tb.ctab (2 ^ m.toNat) (Tb.minimal m.toNat b) = b := by
 obtain ⟨_, b', e, hb⟩ := tOk_split hk
 obtain rfl : b = b' := by omega
 exact (Tb.minimal_spec hb).1
theorem prs_tab {m : Int} {b : Nat} (hk : tOk m b = true) : Tb.ctab (2 ^ m.toNat) (Tb.prs m.toNat b) = b := by
 obtain ⟨_, b', e, hb⟩ := tOk_split hk
 obtain rfl : b = b' := by omega
 exact Tb.prs_cover hb
theorem minimal_needs {m : Int} {b : Nat} (hk : tOk m b = true) {k : Nat} (h : k < (Tb.minimal m.toNat b).length) : Tb.ctab (2 ^ m.toNat) ((Tb.minimal m.toNat b).eraseIdx k) ≠ b := by
 obtain ⟨_, b', e, hb⟩ := tOk_split hk
 obtain rfl : b = b' := by omega
 exact (Tb.minimal_spec hb).2.2 k h
/-- the index lies in a cube of a cover exactly if the table has the value true there -/
theorem any_ev {m : Int} {b : Nat} {L : List Tb.Cb} {i : Nat} (hk : tOk m b = true) (hi : i < 2 ^ m.toNat) (hL : Tb.ctab (2 ^ m.toNat) L = b) : (L.any fun x => Tb.hit x i) = tEv m b i := by
 rw [tEv_bit hk hi, ← hL, Tb.ctab_bit]
 simp [hi]
def anyT (L : List Tb.Cb) (i k : Nat) : Bool := (L.take k).any fun x => Tb.hit x i
theorem anyT_succ {L : List Tb.Cb} {i k : Nat} {x : Tb.Cb} (h : L[k]? = some x) : anyT L i (k + 1) = (anyT L i k || Tb.hit x i) := by
 unfold anyT
 rw [List.take_add_one, h]; simp
/-- is the cube among the first j -/
def isIn (P : List Tb.Cb) (x : Tb.Cb) (j : Nat) : Bool := (P.take j).any fun y => decide (y = x)
theorem isIn_succ {P : List Tb.Cb} {x y : Tb.Cb} {j : Nat} (h : P[j]? = some y) : isIn P x (j + 1) = (isIn P x j || decide (y = x)) := by
 unfold isIn
 rw [List.take_add_one, h]; simp
theorem isIn_all {P : List Tb.Cb} {x : Tb.Cb} (h : x ∈ P) {j : Nat} (hj : j = P.length) : isIn P x j = true := by
 subst hj
 unfold isIn
 rw [List.take_length, List.any_eq_true]
 exact ⟨x, h, by simp⟩

/-- a cover of primes, one of which is widened -/
theorem cv_wide {m : Int} {b k : Nat} {L : List Tb.Cb} {x : Tb.Cb} (hm : inR m 0 4 = true) (h : L.Sublist (Tb.prs m.toNat b)) (hl : L.length ≤ 80) (hx : x ∈ Tb.prs m.toNat b) : cvOk m (castL (L ++ [(Tb.andn x.1 (2 ^ k), Tb.andn x.2 (2 ^ k))])) = true := by
 have hc := cv_prs hm h
 simp only [cvOk, Bool.and_eq_true, hm, true_and] at hc ⊢
 rw [castL_len, List.length_append]
 refine ⟨by simp; omega, ?_⟩
 rw [castL_app, List.all_append, hc.2, Bool.true_and]
 obtain ⟨h1, h2, _⟩ := Tb.mem_prs.1 hx
 have h3 := Tb.andn_zero.1 (Tb.good_iff.1 h2).1
 have hz : Tb.andn (Tb.andn x.2 (2 ^ k)) (Tb.andn x.1 (2 ^ k)) = 0 := Tb.andn_zero.2 fun j hj => by
  rw [Tb.andn_pow_bit] at hj ⊢
  simp only [Bool.and_eq_true] at hj ⊢
  exact ⟨h3 j hj.1, hj.2⟩
 have l1 := Tb.andn_le x.1 (2 ^ k)
 have l2 := Tb.and_le_of_sub hz
 have hp := pow_nat m
 have e1 : inR ((Tb.andn x.1 (2 ^ k) : Nat) : Int) 0 (top m) = true := inR_iff.2 (by simp only [top]; omega)
 have e2 : inR ((Tb.andn x.2 (2 ^ k) : Nat) : Int) 0 (top m) = true := inR_iff.2 (by simp only [top]; omega)
 simp [castL, cOkP, cOk, hm, e1, e2, hz]
theorem cTab_wide {m : Int} {b k : Nat} {L : List Tb.Cb} {x : Tb.Cb} (hm : inR m 0 4 = true) (h : L.Sublist (Tb.prs m.toNat b)) (hl : L.length ≤ 80) (hx : x ∈ Tb.prs m.toNat b) :
  cTab m (castL (L ++ [(Tb.andn x.1 (2 ^ k), Tb.andn x.2 (2 ^ k))])) = (m, ((Tb.ctab (2 ^ m.toNat) (L ++ [(Tb.andn x.1 (2 ^ k), Tb.andn x.2 (2 ^ k))]) : Nat) : Int)) := by
 rw [cTab, if_pos (cv_wide hm h hl hx), castL_nat]
theorem cLit_prs {m : Int} {b : Nat} {L : List Tb.Cb} (hm : inR m 0 4 = true) (h : L.Sublist (Tb.prs m.toNat b)) : cLit m (castL L) = ((Tb.lits m.toNat L : Nat) : Int) := by
 rw [cLit, if_pos (cv_prs hm h), castL_nat]
end Go.Proofs.Ytbkgjgpoohlieaa

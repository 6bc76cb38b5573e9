/- Contracts: the prime implicants: the reference's function. -/
import Derived.Test.YtbkgjgpoohlieaaImp
import Derived.Test.YtbkgjgpoohlieaaCub
import Derived.Test.YtbkgjgpoohlieaaCovT
import Derived.Outline
import Derived.Deep.DeepCutAuto
namespace Go.Proofs.Ytbkgjgpoohlieaa
open Go.RowKit
attribute [local go_sem] i64_and1

def castL (l : List Tb.Cb) : List (Int × Int) := l.map fun x => ((x.1 : Int), (x.2 : Int))
theorem castL_len (l : List Tb.Cb) : (castL l).length = l.length := by simp [castL]
theorem castL_app (a b : List Tb.Cb) : castL (a ++ b) = castL a ++ castL b := by simp [castL]
theorem castL_nat (l : List Tb.Cb) : (castL l).map natC = l := by
 rw [castL, List.map_map]
 conv => rhs; rw [← List.map_id l]
 apply List.map_congr_left
 intro x _
 simp [natC]
theorem castL_get {l : List Tb.Cb} {k : Nat} {x : Tb.Cb} (h : l[k]? = some x) : (castL l)[k]? = some ((x.1 : Int), (x.2 : Int)) := by simp [castL, h]
/-- the prime implicants -/
def pCubes (n b : Int) : List (Int × Int) := if tOk n b then castL (Tb.prs n.toNat b.toNat) else []

def primeK (m b c v k : Nat) : Bool := (List.range k).all fun j => !(c.testBit j && Tb.impl m b (Tb.andn c (2 ^ j), Tb.andn v (2 ^ j)))
theorem primeK_succ {m b c v k : Nat} : primeK m b c v (k + 1) = (primeK m b c v k && !(c.testBit k && Tb.impl m b (Tb.andn c (2 ^ k), Tb.andn v (2 ^ k)))) := by
 simp [primeK, List.range_succ]
theorem rowS_succ {n m b c k : Nat} : Tb.rowS n m b c (k + 1) = Tb.rowS n m b c k ++ if Tb.good m b c k && Tb.primeS n m b (c, k) then [(c, k)] else [] := by
 unfold Tb.rowS
 rw [List.range_succ, List.filter_append, List.map_append]
 congr 1
 by_cases h : (Tb.good m b c k && Tb.primeS n m b (c, k)) = true
 ·rw [if_pos h]; simp [h]
 ·rw [if_neg h]; simp [h]
theorem rowS_not {n m b c k : Nat} (h : Tb.good m b c k = false) : Tb.rowS n m b c (k + 1) = Tb.rowS n m b c k := by rw [rowS_succ, h]; simp
theorem rowS_np {n m b c k : Nat} (h : Tb.primeS n m b (c, k) = false) : Tb.rowS n m b c (k + 1) = Tb.rowS n m b c k := by rw [rowS_succ, h]; simp
theorem rowS_yes {n m b c k : Nat} (h : Tb.good m b c k = true) (h2 : Tb.primeS n m b (c, k) = true) : Tb.rowS n m b c (k + 1) = Tb.rowS n m b c k ++ [(c, k)] := by rw [rowS_succ, h, h2]; rfl
theorem prS_succ {n m b c : Nat} : Tb.prS n m b (c + 1) = Tb.prS n m b c ++ Tb.rowS n m b c m := by
 simp [Tb.prS, List.range_succ]
theorem rowS_len {n m b c : Nat} (k : Nat) : (Tb.rowS n m b c k).length ≤ k := by
 unfold Tb.rowS
 rw [List.length_map]
 exact Nat.le_trans (List.length_filter_le _ _) (by simp)
theorem prS_len {n m b : Nat} : ∀ c, (Tb.prS n m b c).length ≤ c * m
 | 0 => by simp [Tb.prS]
 | c + 1 => by
  have := prS_len (n := n) (m := m) (b := b) c
  have h2 := rowS_len (n := n) (m := m) (b := b) (c := c) m
  rw [prS_succ, List.length_append, Nat.add_mul]
  omega
theorem good_split {m b c v : Nat} : Tb.good m b c v = (decide (Tb.andn v c = 0) && Tb.impl m b (c, v)) := by
 unfold Tb.good
 have : (Tb.andn v c == 0) = decide (Tb.andn v c = 0) := by rw [Bool.eq_iff_iff]; simp
 rw [this]

/-- what the loops keep: the list collected so far, in memory of the call's own; all older memory as it was -/
def PriRel (w : World) (m b : Int) (L : List Tb.Cb) (v : Value) (wr : World) : Prop :=
 wr.ownsRow (w.heap.size + 1) 61 2 v L.length (cbs (castL L)) ∧ Below (w.heap.size + 1) (w.alloc (.cells #[.int .i64 m, .int .i64 b] 31)) wr
theorem PriRel.box {w wr : World} {m b : Int} {L : List Tb.Cb} {v : Value} (h : PriRel w m b L v wr) : wr.cell? ⟨w.heap.size, 0, none⟩ = some (.int .i64 m) ∧ wr.cell? ⟨w.heap.size, 1, none⟩ = some (.int .i64 b) ∧ w.heap.size < wr.heap.size :=
 ⟨(h.2.cell (p := ⟨w.heap.size, 0, none⟩) (by simp)).trans (by simp [go_sem]), (h.2.cell (p := ⟨w.heap.size, 1, none⟩) (by simp)).trans (by simp [go_sem]), by have := h.2.size; simp at this; omega⟩
theorem PriRel.below {w wr w' : World} {m b : Int} {L : List Tb.Cb} {v : Value} (h : PriRel w m b L v wr) (hb : Below wr.heap.size wr w') : PriRel w m b L v w' :=
 ⟨own_below h.1 hb (Nat.le_refl _), h.2.trans (hb.mono h.box.2.2)⟩
theorem PriRel.form {w wr : World} {m b : Int} {L : List Tb.Cb} {v : Value} (h : PriRel w m b L v wr) : ∃ A c, v = .slice A L.length c := by
 obtain ⟨A, c, hv, _⟩ := own_form h.1
 exact ⟨A, c, hv⟩
theorem PriRel.done {w wr : World} {m b : Int} {L : List Tb.Cb} {A : Option Addr} {c : Nat} (h : PriRel w m b L (.slice A L.length c) wr) : OwnCubes (castL L) w (.returned (.slice A L.length c)) wr := by
 unfold OwnCubes
 rw [castL_len]
 refine ⟨A, c, rfl, own_mono h.1 (by omega), ?_⟩
 exact ((Below.refl w.heap.size w).alloc (Nat.le_refl _) _).trans (h.2.mono (by omega))
theorem PriRel.drew {w wr : World} {m b : Int} {L : List Tb.Cb} {v : Value} (h : PriRel w m b L v wr) : PriRel w m b L v wr.drew := ⟨own_drew h.1, h.2.drew⟩
/-- the cells of a block, in every world that has grown -/
theorem wd_blk {B : Nat} {W0 : World} {g : Nat} {x y : Value} (h0 : W0.cell? ⟨g, 0, none⟩ = some x) (h1 : W0.cell? ⟨g, 1, none⟩ = some y) (hg : g < B) :
  (∀ W : Wd (fun w => Below B W0 w), W.val.cell? ⟨g, 0, none⟩ = some x) ∧ (∀ W : Wd (fun w => Below B W0 w), W.val.cell? ⟨g, 1, none⟩ = some y) :=
 ⟨fun W => (W.ok.cell (p := ⟨g, 0, none⟩) hg).trans h0, fun W => (W.ok.cell (p := ⟨g, 1, none⟩) hg).trans h1⟩

set_option maxRecDepth 100000 in
set_option maxHeartbeats 8000000 in
theorem s_PrimeCubes (m b0 : Int) (w : World) : Calls Try.prog 38 #[.agg #[.int .i64 m, .int .i64 b0]] w (OwnCubes (pCubes m b0) w) := by
 obtain ⟨i0, hi, hz0, hz1, hz2⟩ := info_parts Try.infoCube
 by_cases hk : tOk m b0 = true
 ·obtain ⟨b, rfl, hbb, hb16, hm⟩ := tOk_nat hk
  have He := Lib.hid (show pCubes m b = castL (Tb.prs m.toNat b) by rw [pCubes, if_pos hk]; rfl)
  have hm0 := (inR_iff.1 hm).1
  have hm1 := (inR_iff.1 hm).2
  have hp := pow_bd hm
  obtain ⟨M, hM⟩ : ∃ M : Nat, M = 2 ^ m.toNat := ⟨_, rfl⟩
  have hpn := pow_nat m
  rw [← hM] at hpn
  have hM16 : M ≤ 16 := by omega
  have HW1 := Lib.hid (show wrap64 ((2 : Int) ^ m.toNat) = (M : Int) by rw [(w64_pow hm).1, hpn])
  have Hk := Lib.hid hk
  obtain ⟨N, hN⟩ : ∃ N : Nat, N = m.toNat := ⟨_, rfl⟩
  have hNm : (N : Int) = m := by omega
  have hMN : M = 2 ^ N := by rw [hM, hN]
  have Himp := Lib.hid (fun c v hc hv w => (show Calls Try.prog 68 #[.agg #[.int .i64 m, .int .i64 b], .agg #[.int .i64 (c : Nat), .int .i64 (v : Nat)]] w fun e w' => e = .returned (.bool (Tb.impl M b (c, v))) ∧ Below w.heap.size w w' by rw [hM]; exact s_l03Implicant m b c v hk hc hv w))
  have He2 := Lib.hid (show pCubes m b = castL (Tb.prS N M b M) by rw [He.out, Tb.prs, hMN, hN])
  have hN4 : N ≤ 4 := by omega
  have HN := Lib.hid hNm
  have hN1 : (N : Int) ≤ m := by omega
  have hN2 : m ≤ (N : Int) := by omega
  clear hbb hp hpn hM hm hk hN hNm hMN
  go_enter Try.func38, Try.ntmps38
  go_wp2_with fail
  refine (s_TableOk _ _ _).mono ?_
  rintro e w1 ⟨rfl, hb1⟩
  rw [Hk.out]
  have hown0 := own_below (World.ownsRow_made (base := w.heap.size + 1) (size := 2) (e := 61) (w.alloc (.cells #[.int .i64 m, .int .i64 b] 31)) #[] 0 (by simp) (by unfold maxLen; omega) rfl) hb1 (Nat.le_refl _)
  have hR0 : PriRel w m b [] (.slice (some ⟨w.heap.size + 1, 0, none⟩) 0 0) w1 := ⟨by simpa [cbs, castL, recs] using hown0, ((Below.refl _ _).alloc (by simp) _).trans (hb1.mono (by simp))⟩
  have HR0 := Lib.hid hR0
  obtain ⟨t0, t1, z1⟩ := hR0.box
  clear hown0 hR0 hb1
  go_wp2_with fail
  go_loopw [3, 4, 5, 6, 7, 8] (fun ov cv _ _ _ _ wr => ∃ c : Nat, c ≤ M ∧ cv = .int .i64 c ∧ PriRel w m b (Tb.prS N M b c) ov wr) (fun _ cv _ _ _ _ _ => 16 - (intOf cv).toNat)
  case atStart => exact ⟨0, Nat.zero_le _, rfl, by simpa [Tb.prS] using HR0.out⟩
  case round =>
   obtain ⟨c, hc, rfl, hR⟩ := hrel
   have HRo := Lib.hid hR
   obtain ⟨t0, t1, zr⟩ := hR.box
   obtain ⟨A, cap, rfl⟩ := hR.form
   clear hR
   by_cases hlt : c < M
   ·have hw1 := HW1.out
    go_wp2_with fail
    clear hw1 t0 t1
    obtain ⟨wo, hwo⟩ : ∃ wo : World, wo = wr := ⟨_, rfl⟩
    rw [← hwo] at HRo zr ⊢
    clear hwo
    go_loopw [3, 5, 6, 7, 8] (fun ov vv _ _ _ wx => ∃ v : Nat, v ≤ M ∧ vv = .int .i64 v ∧ PriRel w m b (Tb.prS N M b c ++ Tb.rowS N M b c v) ov wx) (fun _ vv _ _ _ _ => 16 - (intOf vv).toNat)
    case atStart => exact ⟨0, Nat.zero_le _, rfl, by simpa [Tb.rowS] using HRo.out⟩
    case round =>
     obtain ⟨v, hv, rfl, hR⟩ := hrel
     have HRm := Lib.hid hR
     obtain ⟨t0, t1, zx⟩ := hR.box
     obtain ⟨A, cap, rfl⟩ := hR.form
     have hlen : (Tb.prS N M b c ++ Tb.rowS N M b c v).length ≤ 272 := by
      have h1 := prS_len (n := N) (m := M) (b := b) c
      have h2 := rowS_len (n := N) (m := M) (b := b) (c := c) v
      have h3 : c * M ≤ 16 * 16 := Nat.mul_le_mul (by omega) hM16
      rw [List.length_append]
      omega
     obtain ⟨L, hL⟩ : ∃ L, L = Tb.prS N M b c ++ Tb.rowS N M b c v := ⟨_, rfl⟩
     rw [← hL] at HRm hlen ⊢
     have HL := Lib.hid hL
     clear hR hL
     by_cases hlv : v < M
     ·have hand := i64_andNot_nat v c (by omega) (by omega)
      have HBx := Lib.hid (Blk.new wr 61 #[.int .i64 c, .int .i64 v])
      have HR1 := Lib.hid (HRm.out.below ((Below.refl wr.heap.size wr).alloc (Nat.le_refl _) (.cells #[.int .i64 c, .int .i64 v] 61)))
      have Hg := Lib.hid (good_split (m := M) (b := b) (c := c) (v := v))
      have ha : v ^^^ (v &&& c) = Tb.andn v c := rfl
      rw [ha] at hand
      clear ha
      generalize Tb.andn v c = z at hand Hg
      by_cases hz : z = 0
      ·subst hz
       have hw1 := HW1.out
       go_upto_if 25 with fail
       clear hw1
       go_wp2_with fail
       clear t0 t1
       refine (Himp.out c v (by omega) (by omega) _).mono ?_
       rintro e w2 ⟨rfl, hb2⟩
       have HR2 := Lib.hid (HR1.out.below hb2)
       have HB2 := Lib.hid (HBx.out.below hb2 HBx.out.lt)
       have Hg2 := Lib.hid (show Tb.good M b c v = Tb.impl M b (c, v) by rw [Hg.out]; simp)
       clear hb2 Hg hand
       cases hX : Tb.impl M b (c, v)
       ·rw [hX] at Hg2
        have HS := Lib.hid (rowS_not (n := N) Hg2.out)
        clear hX
        go_wp2_with fail
        go_roundw
        case rel => exact ⟨v + 1, by omega, by go_num, by rw [HS.out, ← HL.out]; exact HR2.out⟩
        case measure => simp [intOf]; omega
       ·rw [hX] at Hg2
        clear hX
        obtain ⟨t0, t1, zx2⟩ := HR2.out.box
        go_wp2_with fail
        clear t0 t1
        obtain ⟨g6, hg6⟩ : ∃ g6, g6 = wr.heap.size := ⟨_, rfl⟩
        rw [← hg6] at HB2 ⊢
        clear hg6 HR1 HBx HRm
        go_loopw [7, 8] (fun pv kv wz => ∃ k : Nat, k ≤ N ∧ kv = .int .i64 k ∧ pv = .bool (primeK M b c v k) ∧ PriRel w m b L (.slice A L.length cap) wz ∧ Blk wz g6 61 #[.int .i64 c, .int .i64 v]) (fun _ kv _ => 4 - (intOf kv).toNat)
        case atStart => exact ⟨0, Nat.zero_le _, rfl, rfl, HR2.out, HB2.out⟩
        case round =>
         obtain ⟨k, hk, rfl, rfl, hR, hB⟩ := hrel
         have HR := Lib.hid hR
         have HB := Lib.hid hB
         obtain ⟨t0, t1, zz⟩ := hR.box
         have b0 := hB.cell 0
         have b1 := hB.cell 1
         have lB := hB.lt
         simp only [List.getElem?_toArray, List.getElem?_cons_zero, List.getElem?_cons_succ] at b0 b1
         clear hR hB
         by_cases hkN : k < N
         ·have g1 : (k : Int) < m := by omega
          have mk : min k 64 = k := by omega
          have Hs := Lib.hid (primeK_succ (m := M) (b := b) (c := c) (v := v) (k := k))
          have hbi := bit_int c k
          obtain ⟨P, hP⟩ : ∃ P, P = 2 ^ k := ⟨_, rfl⟩
          have hP16 : P ≤ 16 := by
           have : 2 ^ k ≤ 2 ^ 4 := Tb.pow_mono (by omega)
           omega
          have HP1 := Lib.hid (show wrap64 ((2 : Int) ^ k) = (P : Int) by rw [hP]; exact w64_two (by omega))
          have HP2 := Lib.hid (show IntKind.i64.wrap ((2 : Int) ^ k) = (P : Int) by rw [hP, two_nat]; have := IntWalk.i64_in ((2 ^ k : Nat) : Int) (by rw [← hP]; omega); rw [two_nat] at this; exact this)
          have hn1 := i64_andNot_nat c P (by omega) (by omega)
          have hn2 := i64_andNot_nat v P (by omega) (by omega)
          have e1 : c ^^^ (c &&& P) = Tb.andn c (2 ^ k) := by rw [hP]; rfl
          have e2 : v ^^^ (v &&& P) = Tb.andn v (2 ^ k) := by rw [hP]; rfl
          have l1 := Tb.andn_le c (2 ^ k)
          have l2 := Tb.andn_le v (2 ^ k)
          rw [e1] at hn1
          rw [e2] at hn2
          clear hP e1 e2
          cases ht : c.testBit k
          ·rw [ht] at hbi
           simp only [Bool.false_eq_true, if_false] at hbi
           have HS := Lib.hid (show primeK M b c v (k + 1) = primeK M b c v k by rw [Hs.out, ht]; simp)
           clear ht hn1 hn2 l1 l2
           go_wp2_with fail
           refine wp_region_lex (by kernel_rfl) (by kernel_rfl) (Cls (fun x => x = wr.drew)) (Cls.mk' rfl) ?_
           have lexNE : Nonempty (Wd (fun x => x = wr.drew)) := ⟨⟨_, rfl⟩⟩
           have lexW : ∀ W : Wd (fun x => x = wr.drew), W.val = wr.drew := fun W => W.ok
           (repeat (first | (refine lex_r fun K hK => ?_; go_big_quiet_op; refine hK _ ?_; clear hK K) | (refine lex_k fun K hK => ?_; go_simp; refine hK _ ?_; clear hK K)))
           (refine lex_nil ?_)
           clear lexNE lexW hbi
           go_wp2_with fail
           go_roundw
           case rel => exact ⟨k + 1, by omega, by go_num, by rw [HS.out], HR.out.drew, HB.out.drew⟩
           case measure => simp [intOf]; omega
          ·rw [ht] at hbi
           simp only [if_true] at hbi
           have HS := Lib.hid (show primeK M b c v (k + 1) = (primeK M b c v k && !Tb.impl M b (Tb.andn c (2 ^ k), Tb.andn v (2 ^ k))) by rw [Hs.out, ht]; simp)
           clear ht
           generalize Tb.andn c (2 ^ k) = c2 at hn1 l1 HS
           generalize Tb.andn v (2 ^ k) = v2 at hn2 l2 HS
           go_wp2_with fail
           refine wp_region_lexC (by kernel_rfl) (by kernel_rfl) (fun x => Below wr.heap.size wr x) ((Below.refl _ _).drew) (fun lexNE => ?_)
           have cT := wd_blk t0 t1 (show w.heap.size < wr.heap.size by omega)
           obtain ⟨cT0, cT1⟩ := cT
           have hp1 := HP1.out
           have hp2 := HP2.out
           (repeat (first | (refine lex_r fun K hK => ?_; go_big_quiet_op; refine hK _ ?_; clear hK K) | (refine lex_k fun K hK => ?_; go_simp; refine hK _ ?_; clear hK K)))
           (refine lex_e fun K hK => ?_; go_big_op)
           refine (Himp.out c2 v2 (by clear hp1 hp2 hn1 hn2 hbi; omega) (by clear hp1 hp2 hn1 hn2 hbi; omega) _).mono ?_
           rintro e w3 ⟨rfl, hb3⟩
           clear hp1 hp2 hbi
           have H3 := Lib.hid ((Below.refl wr.heap.size wr).drew.trans hb3)
           have HR3 := Lib.hid (HR.out.below H3.out)
           have HB3 := Lib.hid (HB.out.below H3.out lB)
           refine hK _ _ (Cls.mk' H3.out) ?_
           clear hK K hb3
           cases hX : Tb.impl M b (c2, v2)
           ·have HS2 := Lib.hid (show primeK M b c v (k + 1) = primeK M b c v k by rw [HS.out, hX]; simp)
            clear hX
            (repeat (first | (refine lex_r fun K hK => ?_; go_big_quiet_op; refine hK _ ?_; clear hK K) | (refine lex_k fun K hK => ?_; go_simp; refine hK _ ?_; clear hK K)))
            (refine lex_nil ?_)
            clear lexNE cT0 cT1
            go_wp2_with fail
            go_roundw
            case rel => exact ⟨k + 1, by omega, by go_num, by rw [HS2.out], HR3.out, HB3.out⟩
            case measure => simp [intOf]; omega
           ·have HS2 := Lib.hid (show primeK M b c v (k + 1) = false by rw [HS.out, hX]; simp)
            clear hX
            (repeat (first | (refine lex_r fun K hK => ?_; go_big_quiet_op; refine hK _ ?_; clear hK K) | (refine lex_k fun K hK => ?_; go_simp; refine hK _ ?_; clear hK K)))
            (refine lex_nil ?_)
            clear lexNE cT0 cT1
            go_wp2_with fail
            go_roundw
            case rel => exact ⟨k + 1, by omega, by go_num, by rw [HS2.out], HR3.out, HB3.out⟩
            case measure => simp [intOf]; omega
         ·obtain rfl : k = N := by omega
          have g1 : m ≤ (k : Int) := by omega
          have Hpk := Lib.hid (show primeK M b c v k = Tb.primeS k M b (c, v) from rfl)
          cases hX : primeK M b c v k
          ·rw [hX] at Hpk
           have HS := Lib.hid (rowS_np Hpk.out.symm)
           clear hX
           go_wp2_with fail
           go_roundw
           case rel => exact ⟨v + 1, by omega, by go_num, by rw [HS.out, ← HL.out]; exact HR.out⟩
           case measure => simp [intOf]; omega
          ·rw [hX] at Hpk
           have HS := Lib.hid (rowS_yes Hg2.out Hpk.out.symm)
           clear hX
           go_wp2_with (at_builtin; refine wpList_append_any _ rfl _ _ 49 rfl (w.heap.size + 1) 61 i0 (.agg #[.int .i64 0, .int .i64 0]) 2 16 Try.underlying49 hi hz0 hz1 hz2 rfl (by decide) _ _ _ rfl (HR.out.1.alloc _) _ _ 1 1 _ rfl (reads_new _ _ 1 2 rfl) (by intro u hu; simp at hu; first | (subst hu; rfl) | (rcases hu with rfl | rfl <;> rfl) | (rcases hu with rfl | rfl | rfl <;> rfl)) (by unfold maxLen; omega) (by omega) (by (try simp) <;> (try omega)) ?_; intro v5 w5 hown5 hgrow5 hblk5)
           have hbb := below_push HR.out.2 HR.out.1 (Nat.le_refl _) zz hgrow5
           have Hown5 := Lib.hid hown5
           have Hbb := Lib.hid hbb
           clear hown5 hgrow5 hblk5 hbb
           go_wp2_with fail
           go_roundw
           case rel =>
            refine ⟨v + 1, by omega, by go_num, ?_⟩
            have e5 : Tb.prS k M b c ++ Tb.rowS k M b c (v + 1) = L ++ [(c, v)] := by rw [HS.out, ← List.append_assoc, ← HL.out]
            rw [e5]
            refine ⟨?_, Hbb.out⟩
            rw [List.length_append, castL_app, show cbs (castL L ++ castL [(c, v)]) = cbs (castL L) ++ [.int .i64 c, .int .i64 v] by rw [cbs, recs_app]; rfl]
            exact Hown5.out
           case measure => simp [intOf]; omega
      ·have hne : ((z : Int) != 0) = true := by simp; omega
       have Hg2 := Lib.hid (show Tb.good M b c v = false by rw [Hg.out]; simp [hz])
       have HS := Lib.hid (rowS_not (n := N) Hg2.out)
       have hw1 := HW1.out
       clear hz
       go_upto_if 25 with fail
       clear hw1
       go_wp2_with fail
       clear t0 t1
       go_roundw
       case rel => exact ⟨v + 1, by omega, by go_num, by rw [HS.out, ← HL.out]; exact HR1.out⟩
       case measure => simp [intOf]; omega
     ·obtain rfl : v = M := by omega
      have HS := Lib.hid (prS_succ (n := N) (m := v) (b := b) (c := c))
      have hw1 := HW1.out
      go_upto_if 25 with fail
      clear hw1
      go_wp2_with fail
      go_roundw
      case rel => exact ⟨c + 1, by omega, by go_num, by rw [HS.out, ← HL.out]; exact HRm.out⟩
      case measure => simp [intOf]; omega
   ·obtain rfl : c = M := by omega
    have hw1 := HW1.out
    go_wp2_with fail
    clear hw1
    go_ret
    rw [He2.out]
    exact HRo.out.done
 ·have hk : tOk m b0 = false := by simpa using hk
  have He := Lib.hid (show pCubes m b0 = [] by rw [pCubes, hk]; rfl)
  have Hk := Lib.hid hk
  clear hk
  go_enter Try.func38, Try.ntmps38
  go_wp2_with fail
  refine (s_TableOk _ _ _).mono ?_
  rintro e w1 ⟨rfl, hb1⟩
  rw [Hk.out]
  have Hown0 := Lib.hid (own_below (World.ownsRow_made (base := w.heap.size) (size := 2) (e := 61) (w.alloc (.cells #[.int .i64 m, .int .i64 b0] 31)) #[] 0 (by simp) (by unfold maxLen; omega) rfl) hb1 (Nat.le_refl _))
  go_wp2_with fail
  go_ret
  unfold OwnCubes
  rw [He.out]
  exact ⟨_, _, rfl, by simpa [cbs, recs] using Hown0.out, bel_⟩
end Go.Proofs.Ytbkgjgpoohlieaa

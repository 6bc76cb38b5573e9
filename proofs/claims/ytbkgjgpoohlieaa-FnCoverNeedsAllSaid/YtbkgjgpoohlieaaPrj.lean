/- Contracts: the prime implicants: the program's function. -/
import Derived.Test.YtbkgjgpoohlieaaPri
import Derived.Test.YtbkgjgpoohlieaaStructEq
import Derived.Outline
import Derived.Deep.DeepCutAuto
namespace Go.Proofs.Ytbkgjgpoohlieaa
open Go.RowKit

theorem rowI_succ {m b c k : Nat} : Tb.rowI m b c (k + 1) = Tb.rowI m b c k ++ if Tb.good m b c k then [(c, k)] else [] := by
 unfold Tb.rowI
 rw [List.range_succ, List.filter_append, List.map_append]
 congr 1
 by_cases h : Tb.good m b c k = true
 ·rw [if_pos h]; simp [h]
 ·rw [if_neg h]; simp [h]
theorem rowI_not {m b c k : Nat} (h : Tb.good m b c k = false) : Tb.rowI m b c (k + 1) = Tb.rowI m b c k := by rw [rowI_succ, h]; simp
theorem rowI_yes {m b c k : Nat} (h : Tb.good m b c k = true) : Tb.rowI m b c (k + 1) = Tb.rowI m b c k ++ [(c, k)] := by rw [rowI_succ, h]; rfl
theorem allI_succ {m b c : Nat} : Tb.allI m b (c + 1) = Tb.allI m b c ++ Tb.rowI m b c (c + 1) := by simp [Tb.allI, List.range_succ]
theorem rowI_len {m b c : Nat} (k : Nat) : (Tb.rowI m b c k).length ≤ k := by
 unfold Tb.rowI
 rw [List.length_map]
 exact Nat.le_trans (List.length_filter_le _ _) (by simp)
theorem allI_len {m b : Nat} : ∀ c, c ≤ 16 → (Tb.allI m b c).length ≤ c * 16
 | 0, _ => by simp [Tb.allI]
 | c + 1, h => by
  have := allI_len (m := m) (b := b) c (by omega)
  have h2 := rowI_len (m := m) (b := b) (c := c) (c + 1)
  rw [allI_succ, List.length_append]
  omega
theorem allI_bd {m b : Nat} {x : Tb.Cb} (h : x ∈ Tb.allI m b m) : x.1 < m ∧ x.2 < m := by
 obtain ⟨h1, h2⟩ := Tb.mem_allI.1 h
 exact ⟨h1, Nat.lt_of_le_of_lt (Tb.and_le_of_sub (Tb.good_iff.1 h2).1) h1⟩

theorem pCubes_len (n b : Int) : (pCubes n b).length ≤ 81 := by
 unfold pCubes
 split
 ·rename_i h
  rw [castL_len]
  have := inR_iff.1 (tOk_nat h).choose_spec.2.2.2
  exact Tb.prs_len (by omega)
 ·simp
/-- prime as far as the first k of the list show -/
def primeN (AL : List Tb.Cb) (x : Tb.Cb) (k : Nat) : Bool := !(AL.take k).any (Tb.over x)
theorem primeN_succ {AL : List Tb.Cb} {x d : Tb.Cb} {k : Nat} (h : AL[k]? = some d) : primeN AL x (k + 1) = (primeN AL x k && !Tb.over x d) := by
 unfold primeN
 rw [List.take_add_one, h]
 simp
theorem primeN_all {AL : List Tb.Cb} {x : Tb.Cb} : primeN AL x AL.length = Tb.primeI AL x := by
 unfold primeN Tb.primeI
 rw [List.take_length]
theorem over_eq {x : Tb.Cb} : Tb.over x x = false := by simp [Tb.over]
theorem over_ne {d1 d2 x1 x2 : Nat} (h : (d1, d2) ≠ (x1, x2)) : Tb.over (x1, x2) (d1, d2) = (decide (Tb.andn d1 x1 = 0) && decide (x2 &&& d1 = d2)) := by
 have h1 : ((d1, d2) != (x1, x2)) = true := by simpa using h
 have h2 : (Tb.andn d1 x1 == 0) = decide (Tb.andn d1 x1 = 0) := by rw [Bool.eq_iff_iff]; simp
 have h3 : (x2 &&& d1 == d2) = decide (x2 &&& d1 = d2) := by rw [Bool.eq_iff_iff]; simp
 unfold Tb.over
 simp only
 rw [h1, h2, h3]
 simp

/-- what the second loops keep -/
def SecRel (w w2 : World) (A2 : Option Addr) (_c2 : Nat) (AL L : List Tb.Cb) (v : Value) (wr : World) : Prop :=
 wr.ownsRow w2.heap.size 61 2 v L.length (cbs (castL L)) ∧ Reads wr w2.heap.size 2 A2 AL.length (cbs (castL AL)) ∧ Below w2.heap.size w2 wr ∧ Below w.heap.size w w2
theorem SecRel.below {w w2 wr w' : World} {A2 : Option Addr} {c2 : Nat} {AL L : List Tb.Cb} {v : Value} (h : SecRel w w2 A2 c2 AL L v wr) (hb : Below wr.heap.size wr w') : SecRel w w2 A2 c2 AL L v w' :=
 ⟨own_below h.1 hb (Nat.le_refl _), h.2.1.below (hb.mono h.2.2.1.size), h.2.2.1.trans (hb.mono h.2.2.1.size), h.2.2.2⟩
theorem SecRel.form {w w2 wr : World} {A2 : Option Addr} {c2 : Nat} {AL L : List Tb.Cb} {v : Value} (h : SecRel w w2 A2 c2 AL L v wr) : ∃ A c, v = .slice A L.length c := by
 obtain ⟨A, c, hv, _⟩ := own_form h.1
 exact ⟨A, c, hv⟩
theorem SecRel.done {w w2 wr : World} {A2 A : Option Addr} {c2 c : Nat} {AL L : List Tb.Cb} (h : SecRel w w2 A2 c2 AL L (.slice A L.length c) wr) : OwnCubes (castL L) w (.returned (.slice A L.length c)) wr := by
 unfold OwnCubes
 rw [castL_len]
 exact ⟨A, c, rfl, own_mono h.1 h.2.2.2.size, h.2.2.2.trans (h.2.2.1.mono h.2.2.2.size)⟩
theorem take_filter_succ {α : Type} {p : α → Bool} {l : List α} {k : Nat} {x : α} (h : l[k]? = some x) : (l.take (k + 1)).filter p = (l.take k).filter p ++ if p x then [x] else [] := by
 rw [List.take_add_one, h, List.filter_append]
 congr 1
 cases hp : p x <;> simp [hp]

set_option maxRecDepth 100000 in
set_option maxHeartbeats 16000000 in
theorem i_PrimeCubes (m b0 : Int) (w : World) : Calls Try.prog 40 #[.agg #[.int .i64 m, .int .i64 b0]] w (OwnCubes (pCubes m b0) w) := by
 obtain ⟨i0, hi, hz0, hz1, hz2⟩ := info_parts Try.infoCube
 by_cases hk : tOk m b0 = true
 ·obtain ⟨b, rfl, hbb, hb16, hm⟩ := tOk_nat hk
  have hm0 := (inR_iff.1 hm).1
  have hm1 := (inR_iff.1 hm).2
  have hp := pow_bd hm
  obtain ⟨M, hM⟩ : ∃ M : Nat, M = 2 ^ m.toNat := ⟨_, rfl⟩
  have hpn := pow_nat m
  rw [← hM] at hpn
  have hM16 : M ≤ 16 := by omega
  have HW1 := Lib.hid (show wrap64 ((2 : Int) ^ m.toNat) = (M : Int) by rw [(w64_pow hm).1, hpn])
  have Hk := Lib.hid hk
  have Himp := Lib.hid (fun c v hc hv w => (show Calls Try.prog 69 #[.agg #[.int .i64 m, .int .i64 b], .agg #[.int .i64 (c : Nat), .int .i64 (v : Nat)]] w fun e w' => e = .returned (.bool (Tb.impl M b (c, v))) ∧ Below w.heap.size w w' by rw [hM]; exact i_isImplicant m b c v hk hc hv w))
  have He2 := Lib.hid (show pCubes m b = castL ((Tb.allI M b M).filter (Tb.primeI (Tb.allI M b M))) by rw [pCubes, if_pos hk]; show castL (Tb.prS m.toNat (2 ^ m.toNat) b (2 ^ m.toNat)) = _; rw [← Tb.prI_eq_prS, hM]; rfl)
  clear hbb hp hpn hM hm hk
  go_enter Try.func40, Try.ntmps40
  go_wp2_with fail
  refine (i_TableOk _ _ _).mono ?_
  rintro e w1 ⟨rfl, hb1⟩
  rw [Hk.out]
  have hR0 : PriRel w m b [] (.slice none 0 0) w1 := ⟨by simpa [cbs, castL, recs] using World.ownsRow_nil _ _ _ _, hb1.mono (by simp)⟩
  have HR0 := Lib.hid hR0
  obtain ⟨t0, t1, z1⟩ := hR0.box
  clear hR0 hb1
  go_wp2_with fail
  go_loopw [3, 5, 6, 7] (fun ov cv _ _ wr => ∃ c : Nat, c ≤ M ∧ cv = .int .i64 c ∧ PriRel w m b (Tb.allI M b c) ov wr) (fun _ cv _ _ _ => 16 - (intOf cv).toNat)
  case atStart => exact ⟨0, Nat.zero_le _, rfl, by simpa [Tb.allI] using HR0.out⟩
  case round =>
   obtain ⟨c, hc, rfl, hR⟩ := hrel
   have HRo := Lib.hid hR
   obtain ⟨t0, t1, zr⟩ := hR.box
   obtain ⟨A, cap, rfl⟩ := hR.form
   clear hR
   by_cases hlt : c < M
   ·have hw1 := HW1.out
    go_wp2_with fail
    clear hw1 t0 t1
    obtain ⟨wo, hwo⟩ : ∃ wo : World, wo = wr := ⟨_, rfl⟩
    rw [← hwo] at HRo zr ⊢
    clear hwo
    go_loopw [3, 6, 7] (fun ov vv _ wx => ∃ v : Nat, v ≤ c + 1 ∧ vv = .int .i64 v ∧ PriRel w m b (Tb.allI M b c ++ Tb.rowI M b c v) ov wx) (fun _ vv _ _ => 17 - (intOf vv).toNat)
    case atStart => exact ⟨0, Nat.zero_le _, rfl, by simpa [Tb.rowI] using HRo.out⟩
    case round =>
     obtain ⟨v, hv, rfl, hR⟩ := hrel
     have HR := Lib.hid hR
     obtain ⟨t0, t1, zx⟩ := hR.box
     obtain ⟨A, cap, rfl⟩ := hR.form
     have hlen : (Tb.allI M b c ++ Tb.rowI M b c v).length ≤ 273 := by
      have h1 := allI_len (m := M) (b := b) c (by omega)
      have h2 := rowI_len (m := M) (b := b) (c := c) v
      rw [List.length_append]
      omega
     obtain ⟨L, hL⟩ : ∃ L, L = Tb.allI M b c ++ Tb.rowI M b c v := ⟨_, rfl⟩
     rw [← hL] at HR hlen ⊢
     have HL := Lib.hid hL
     clear hR hL HRo
     by_cases hlv : v ≤ c
     ·have hand := i64_andNot_nat v c (by omega) (by omega)
      have HBx := Lib.hid (Blk.new wr 61 #[.int .i64 c, .int .i64 v])
      have HR1 := Lib.hid (HR.out.below ((Below.refl wr.heap.size wr).alloc (Nat.le_refl _) (.cells #[.int .i64 c, .int .i64 v] 61)))
      have Hg := Lib.hid (good_split (m := M) (b := b) (c := c) (v := v))
      have ha : v ^^^ (v &&& c) = Tb.andn v c := rfl
      rw [ha] at hand
      clear ha
      generalize Tb.andn v c = z at hand Hg
      by_cases hz : z = 0
      ·subst hz
       go_wp2_with fail
       clear t0 t1
       refine (Himp.out c v (by omega) (by omega) _).mono ?_
       rintro e w2 ⟨rfl, hb2⟩
       have HR2 := Lib.hid (HR1.out.below hb2)
       have HB2 := Lib.hid (HBx.out.below hb2 HBx.out.lt)
       have Hg2 := Lib.hid (show Tb.good M b c v = Tb.impl M b (c, v) by rw [Hg.out]; simp)
       obtain ⟨_, _, zr2⟩ := HR2.out.box
       clear hb2 Hg hand
       cases hX : Tb.impl M b (c, v)
       ·rw [hX] at Hg2
        have HS := Lib.hid (rowI_not Hg2.out)
        clear hX
        go_wp2_with fail
        go_roundw
        case rel => exact ⟨v + 1, by omega, by go_num, by rw [HS.out, ← HL.out]; exact HR2.out⟩
        case measure => simp [intOf]; omega
       ·rw [hX] at Hg2
        have HS := Lib.hid (rowI_yes Hg2.out)
        have b0 := HB2.out.cell 0
        have b1 := HB2.out.cell 1
        simp only [List.getElem?_toArray, List.getElem?_cons_zero, List.getElem?_cons_succ] at b0 b1
        clear hX
        go_wp2_with (at_builtin; refine wpList_append_any _ rfl _ _ 49 rfl (w.heap.size + 1) 61 i0 (.agg #[.int .i64 0, .int .i64 0]) 2 16 Try.underlying49 hi hz0 hz1 hz2 rfl (by decide) _ _ _ rfl (HR2.out.1.alloc _) _ _ 1 1 _ rfl (reads_new _ _ 1 2 rfl) (by intro u hu; simp at hu; first | (subst hu; rfl) | (rcases hu with rfl | rfl <;> rfl) | (rcases hu with rfl | rfl | rfl <;> rfl)) (by unfold maxLen; omega) (by omega) (by (try simp) <;> (try omega)) ?_; intro v5 w5 hown5 hgrow5 hblk5)
        have hbb := below_push HR2.out.2 HR2.out.1 (Nat.le_refl _) zr2 hgrow5
        have Hown5 := Lib.hid hown5
        have Hbb := Lib.hid hbb
        clear hown5 hgrow5 hblk5 hbb
        go_wp2_with fail
        go_roundw
        case rel =>
         refine ⟨v + 1, by omega, by go_num, ?_⟩
         have e5 : Tb.allI M b c ++ Tb.rowI M b c (v + 1) = L ++ [(c, v)] := by rw [HS.out, ← List.append_assoc, ← HL.out]
         rw [e5]
         refine ⟨?_, Hbb.out⟩
         rw [List.length_append, castL_app, show cbs (castL L ++ castL [(c, v)]) = cbs (castL L) ++ [.int .i64 c, .int .i64 v] by rw [cbs, recs_app]; rfl]
         exact Hown5.out
        case measure => simp [intOf]; omega
      ·have hne : ((z : Int) == 0) = false := by rw [cast0]; exact decide_eq_false hz
       have Hg2 := Lib.hid (show Tb.good M b c v = false by rw [Hg.out]; simp [hz])
       have HS := Lib.hid (rowI_not Hg2.out)
       clear hz
       go_wp2_with fail
       clear t0 t1
       go_roundw
       case rel => exact ⟨v + 1, by omega, by go_num, by rw [HS.out, ← HL.out]; exact HR1.out⟩
       case measure => simp [intOf]; omega
     ·obtain rfl : v = c + 1 := by omega
      have HS := Lib.hid (allI_succ (m := M) (b := b) (c := c))
      go_wp2_with fail
      go_roundw
      case rel => exact ⟨c + 1, by omega, by go_num, by rw [HS.out, ← HL.out]; exact HR.out⟩
      case measure => simp [intOf]; omega
   ·obtain rfl : c = M := by omega
    have hw1 := HW1.out
    have hlen : (Tb.allI c b c).length ≤ 256 := by have := allI_len (m := c) (b := b) c hM16; omega
    have Hbd := Lib.hid (fun x (hx : x ∈ Tb.allI c b c) => allI_bd hx)
    obtain ⟨AL, hAL⟩ : ∃ AL, AL = Tb.allI c b c := ⟨_, rfl⟩
    rw [← hAL] at He2 HRo hlen Hbd ⊢
    obtain ⟨w2, hw2⟩ : ∃ w2 : World, w2 = wr := ⟨_, rfl⟩
    rw [← hw2] at HRo zr t0 t1 ⊢
    have HS0 := Lib.hid (show SecRel w w2 A cap AL [] (.slice none 0 0) w2 from ⟨by simpa [cbs, castL, recs] using World.ownsRow_nil _ _ _ _, Reads.of_own HRo.out.1, Below.refl _ _, ((Below.refl w.heap.size w).alloc (Nat.le_refl _) _).trans (HRo.out.2.mono (by omega))⟩)
    clear hAL hw2
    go_wp2_with fail
    clear hw1 t0 t1
    go_loopw [4, 9, 10, 12, 47, 51, 52, 53] (fun ov _ _ _ iv _ _ _ wr => ∃ q : Nat, q ≤ AL.length ∧ iv = .int .i64 q ∧ SecRel w w2 A cap AL ((AL.take q).filter (Tb.primeI AL)) ov wr) (fun _ _ _ _ iv _ _ _ _ => AL.length - (intOf iv).toNat)
    case atStart => exact ⟨0, Nat.zero_le _, rfl, by simpa using HS0.out⟩
    case round =>
     obtain ⟨q, hq, rfl, hS⟩ := hrel
     have HSo := Lib.hid hS
     obtain ⟨Ao, co, rfl⟩ := hS.form
     have hlenO : ((AL.take q).filter (Tb.primeI AL)).length ≤ 256 := by
      have h1 := List.length_filter_le (Tb.primeI AL) (AL.take q)
      have h2 := List.length_take_le q AL
      omega
     obtain ⟨L, hL⟩ : ∃ L, L = (AL.take q).filter (Tb.primeI AL) := ⟨_, rfl⟩
     rw [← hL] at HSo hlenO ⊢
     have HL := Lib.hid hL
     have zo := hS.2.2.1.size
     clear hS hL
     by_cases hlt : q < AL.length
     ·obtain ⟨ad, xi, yi, hA, hab, hx, hc0, hc1⟩ := HSo.out.2.1.cube_at (l := castL AL) (by simpa using hlt)
      obtain ⟨x, hxq⟩ : ∃ x, AL[q]? = some x := ⟨_, List.getElem?_eq_getElem hlt⟩
      rw [castL_get hxq] at hx
      injection hx with hx
      injection hx with hx1 hx2
      have hxb := Hbd.out x (List.mem_of_getElem? hxq)
      obtain ⟨x1, x2⟩ := x
      simp only at hx1 hx2 hxb
      subst hx1 hx2 hA
      have Hxq := Lib.hid hxq
      have HB := Lib.hid (Blk.new wr 61 #[.int .i64 x1, .int .i64 x2])
      have HS1 := Lib.hid (HSo.out.below ((Below.refl wr.heap.size wr).alloc (Nat.le_refl _) (.cells #[.int .i64 x1, .int .i64 x2] 61)))
      have g1 : (0 : Int) ≤ (q : Int) := by omega
      have g2 : (q : Int) < (AL.length : Int) := by omega
      obtain ⟨g9, hg9⟩ : ∃ g9, g9 = wr.heap.size := ⟨_, rfl⟩
      have hxb1 := hxb.1
      have hxb2 := hxb.2
      rw [← hg9] at HB
      have zg : g9 < (wr.alloc (.cells #[.int .i64 x1, .int .i64 x2] 61)).heap.size := by rw [hg9]; simp
      clear hxq hxb
      go_wp2_with fail
      clear hc0 hc1
      rw [← hg9]
      clear hg9
      generalize wr.alloc (.cells #[.int .i64 x1, .int .i64 x2] 61) = wb at HB HS1 zg ⊢
      go_loopw [10, 12, 53] (fun pv _ kv wz => ∃ k : Nat, k ≤ AL.length ∧ kv = .int .i64 k ∧ pv = .bool (primeN AL (x1, x2) k) ∧ SecRel w w2 (some ad) cap AL L (.slice Ao L.length co) wz ∧ Blk wz g9 61 #[.int .i64 x1, .int .i64 x2]) (fun _ _ kv _ => AL.length - (intOf kv).toNat)
      case atStart => exact ⟨0, Nat.zero_le _, rfl, rfl, HS1.out, HB.out⟩
      case round =>
       obtain ⟨k, hk, rfl, rfl, hS, hB⟩ := hrel
       have HS := Lib.hid hS
       have HB := Lib.hid hB
       have b0 := hB.cell 0
       have b1 := hB.cell 1
       have lB := hB.lt
       simp only [List.getElem?_toArray, List.getElem?_cons_zero, List.getElem?_cons_succ] at b0 b1
       clear hS hB
       by_cases hkl : k < AL.length
       ·obtain ⟨ad', xi, yi, hA, hab', hx, hc0, hc1⟩ := HS.out.2.1.cube_at (l := castL AL) (by simpa using hkl)
        injection hA with hA
        subst hA
        obtain ⟨d, hdk⟩ : ∃ d, AL[k]? = some d := ⟨_, List.getElem?_eq_getElem hkl⟩
        rw [castL_get hdk] at hx
        injection hx with hx
        injection hx with hx1 hx2
        have hdb := Hbd.out d (List.mem_of_getElem? hdk)
        obtain ⟨d1, d2⟩ := d
        simp only at hx1 hx2 hdb
        subst hx1 hx2
        have Hdk := Lib.hid hdk
        have hdb1 := hdb.1
        have hdb2 := hdb.2
        have g3 : (0 : Int) ≤ (k : Int) := by omega
        have g4 : (k : Int) < (AL.length : Int) := by omega
        clear hdk hdb
        by_cases h1 : d1 = x1
        ·by_cases h2 : d2 = x2
         ·have HF := Lib.hid (show primeN AL (x1, x2) (k + 1) = primeN AL (x1, x2) k by rw [primeN_succ Hdk.out, h1, h2, over_eq]; simp)
          have q1 : ((d1 : Int) == (x1 : Int)) = true := by rw [castEq]; exact decide_eq_true h1
          have q2 : ((d2 : Int) == (x2 : Int)) = true := by rw [castEq]; exact decide_eq_true h2
          clear h1 h2
          go_wp2_with fail
          clear b0 b1
          have HB2 := Lib.hid (HB.out.alloc (.cells #[.int .i64 (d1 : Nat), .int .i64 (d2 : Nat)] 61))
          have HS2 := Lib.hid (HS.out.below ((Below.refl wr.heap.size wr).alloc (Nat.le_refl _) (.cells #[.int .i64 (d1 : Nat), .int .i64 (d2 : Nat)] 61)))
          go_roundw
          case rel => exact ⟨k + 1, by omega, by go_num, by rw [HF.out], HS2.out, HB2.out⟩
          case measure => simp [intOf]; omega
         ·have Hdx := Lib.hid (show (d1, d2) ≠ (x1, x2) from fun e => h2 (by injection e))
          have q1 : ((d1 : Int) == (x1 : Int)) = true := by rw [castEq]; exact decide_eq_true h1
          have q2 : ((d2 : Int) == (x2 : Int)) = false := by rw [castEq]; exact decide_eq_false h2
          clear h1 h2
          have Hv := Lib.hid (over_ne (d1 := d1) (d2 := d2) (x1 := x1) (x2 := x2) Hdx.out)
          have hn1 := i64_andNot_nat d1 x1 (by omega) (by omega)
          have hn2 := i64_and_nat x2 d1 (by omega) (by omega)
          have ha : d1 ^^^ (d1 &&& x1) = Tb.andn d1 x1 := rfl
          rw [ha] at hn1
          clear ha
          generalize Tb.andn d1 x1 = z at hn1 Hv
          generalize x2 &&& d1 = y at hn2 Hv
          by_cases hz : z = 0
          ·subst hz
           by_cases hy : y = d2
           ·have hy2 := hy.symm
            subst hy2
            have HF := Lib.hid (show primeN AL (x1, x2) (k + 1) = false by rw [primeN_succ Hdk.out, Hv.out]; simp)
            go_wp2_with fail
            clear b0 b1
            have HB2 := Lib.hid (HB.out.alloc (.cells #[.int .i64 (d1 : Nat), .int .i64 (d2 : Nat)] 61))
            have HS2 := Lib.hid (HS.out.below ((Below.refl wr.heap.size wr).alloc (Nat.le_refl _) (.cells #[.int .i64 (d1 : Nat), .int .i64 (d2 : Nat)] 61)))
            go_roundw
            case rel => exact ⟨k + 1, by omega, by go_num, by rw [HF.out], HS2.out, HB2.out⟩
            case measure => simp [intOf]; omega
           ·have hne3 : ((y : Int) == (d2 : Int)) = false := by rw [castEq]; exact decide_eq_false hy
            have HF := Lib.hid (show primeN AL (x1, x2) (k + 1) = primeN AL (x1, x2) k by rw [primeN_succ Hdk.out, Hv.out, decide_eq_false hy]; simp)
            clear hy
            go_wp2_with fail
            clear b0 b1
            have HB2 := Lib.hid (HB.out.alloc (.cells #[.int .i64 (d1 : Nat), .int .i64 (d2 : Nat)] 61))
            have HS2 := Lib.hid (HS.out.below ((Below.refl wr.heap.size wr).alloc (Nat.le_refl _) (.cells #[.int .i64 (d1 : Nat), .int .i64 (d2 : Nat)] 61)))
            go_roundw
            case rel => exact ⟨k + 1, by omega, by go_num, by rw [HF.out], HS2.out, HB2.out⟩
            case measure => simp [intOf]; omega
          ·have hne3 : ((z : Int) == 0) = false := by rw [cast0]; exact decide_eq_false hz
           have HF := Lib.hid (show primeN AL (x1, x2) (k + 1) = primeN AL (x1, x2) k by rw [primeN_succ Hdk.out, Hv.out, decide_eq_false hz]; simp)
           clear hz
           go_wp2_with fail
           clear b0 b1
           have HB2 := Lib.hid (HB.out.alloc (.cells #[.int .i64 (d1 : Nat), .int .i64 (d2 : Nat)] 61))
           have HS2 := Lib.hid (HS.out.below ((Below.refl wr.heap.size wr).alloc (Nat.le_refl _) (.cells #[.int .i64 (d1 : Nat), .int .i64 (d2 : Nat)] 61)))
           go_roundw
           case rel => exact ⟨k + 1, by omega, by go_num, by rw [HF.out], HS2.out, HB2.out⟩
           case measure => simp [intOf]; omega
        ·have Hdx := Lib.hid (show (d1, d2) ≠ (x1, x2) from fun e => h1 (by injection e))
         have q1 : ((d1 : Int) == (x1 : Int)) = false := by rw [castEq]; exact decide_eq_false h1
         clear h1
         have Hv := Lib.hid (over_ne (d1 := d1) (d2 := d2) (x1 := x1) (x2 := x2) Hdx.out)
         have hn1 := i64_andNot_nat d1 x1 (by omega) (by omega)
         have hn2 := i64_and_nat x2 d1 (by omega) (by omega)
         have ha : d1 ^^^ (d1 &&& x1) = Tb.andn d1 x1 := rfl
         rw [ha] at hn1
         clear ha
         generalize Tb.andn d1 x1 = z at hn1 Hv
         generalize x2 &&& d1 = y at hn2 Hv
         by_cases hz : z = 0
         ·subst hz
          by_cases hy : y = d2
          ·have hy2 := hy.symm
           subst hy2
           have HF := Lib.hid (show primeN AL (x1, x2) (k + 1) = false by rw [primeN_succ Hdk.out, Hv.out]; simp)
           go_wp2_with fail
           clear b0 b1
           have HB2 := Lib.hid (HB.out.alloc (.cells #[.int .i64 (d1 : Nat), .int .i64 (d2 : Nat)] 61))
           have HS2 := Lib.hid (HS.out.below ((Below.refl wr.heap.size wr).alloc (Nat.le_refl _) (.cells #[.int .i64 (d1 : Nat), .int .i64 (d2 : Nat)] 61)))
           go_roundw
           case rel => exact ⟨k + 1, by omega, by go_num, by rw [HF.out], HS2.out, HB2.out⟩
           case measure => simp [intOf]; omega
          ·have hne3 : ((y : Int) == (d2 : Int)) = false := by rw [castEq]; exact decide_eq_false hy
           have HF := Lib.hid (show primeN AL (x1, x2) (k + 1) = primeN AL (x1, x2) k by rw [primeN_succ Hdk.out, Hv.out, decide_eq_false hy]; simp)
           clear hy
           go_wp2_with fail
           clear b0 b1
           have HB2 := Lib.hid (HB.out.alloc (.cells #[.int .i64 (d1 : Nat), .int .i64 (d2 : Nat)] 61))
           have HS2 := Lib.hid (HS.out.below ((Below.refl wr.heap.size wr).alloc (Nat.le_refl _) (.cells #[.int .i64 (d1 : Nat), .int .i64 (d2 : Nat)] 61)))
           go_roundw
           case rel => exact ⟨k + 1, by omega, by go_num, by rw [HF.out], HS2.out, HB2.out⟩
           case measure => simp [intOf]; omega
         ·have hne3 : ((z : Int) == 0) = false := by rw [cast0]; exact decide_eq_false hz
          have HF := Lib.hid (show primeN AL (x1, x2) (k + 1) = primeN AL (x1, x2) k by rw [primeN_succ Hdk.out, Hv.out, decide_eq_false hz]; simp)
          clear hz
          go_wp2_with fail
          clear b0 b1
          have HB2 := Lib.hid (HB.out.alloc (.cells #[.int .i64 (d1 : Nat), .int .i64 (d2 : Nat)] 61))
          have HS2 := Lib.hid (HS.out.below ((Below.refl wr.heap.size wr).alloc (Nat.le_refl _) (.cells #[.int .i64 (d1 : Nat), .int .i64 (d2 : Nat)] 61)))
          go_roundw
          case rel => exact ⟨k + 1, by omega, by go_num, by rw [HF.out], HS2.out, HB2.out⟩
          case measure => simp [intOf]; omega
       ·have hkl' : k = AL.length := by omega
        have Hpk := Lib.hid (show primeN AL (x1, x2) k = Tb.primeI AL (x1, x2) by rw [hkl']; exact primeN_all)
        have g4 : (AL.length : Int) ≤ (k : Int) := by omega
        have Htf := Lib.hid (take_filter_succ (p := Tb.primeI AL) Hxq.out)
        clear hkl'
        cases hX : primeN AL (x1, x2) k
        ·rw [hX] at Hpk
         have HF := Lib.hid (show (AL.take (q + 1)).filter (Tb.primeI AL) = L by rw [Htf.out, ← HL.out, ← Hpk.out]; simp)
         clear hX
         go_wp2_with fail
         go_roundw
         case rel => exact ⟨q + 1, by omega, by go_num, by rw [HF.out]; exact HS.out⟩
         case measure => simp [intOf]; omega
        ·rw [hX] at Hpk
         have HF := Lib.hid (show (AL.take (q + 1)).filter (Tb.primeI AL) = L ++ [(x1, x2)] by rw [Htf.out, ← HL.out, ← Hpk.out]; simp)
         have zz := HS.out.2.2.1.size
         clear hX
         go_wp2_with (at_builtin; refine wpList_append_any _ rfl _ _ 49 rfl (w2.heap.size) 61 i0 (.agg #[.int .i64 0, .int .i64 0]) 2 16 Try.underlying49 hi hz0 hz1 hz2 rfl (by decide) _ _ _ rfl (HS.out.1.alloc _) _ _ 1 1 _ rfl (reads_new _ _ 1 2 rfl) (by intro u hu; simp at hu; first | (subst hu; rfl) | (rcases hu with rfl | rfl <;> rfl) | (rcases hu with rfl | rfl | rfl <;> rfl)) (by unfold maxLen; omega) (by omega) (by (try simp) <;> (try omega)) ?_; intro v5 w5 hown5 hgrow5 hblk5)
         have hbb := below_push HS.out.2.2.1 HS.out.1 (Nat.le_refl _) zz hgrow5
         have hrr := ((HS.out.2.1.alloc zz (.cells #[.int .i64 x1, .int .i64 x2] 61)).grown hgrow5 (by simp; omega) (fun g hg => (HS.out.1.lt g hg).1))
         have Hown5 := Lib.hid hown5
         have Hbb := Lib.hid hbb
         have Hrr := Lib.hid hrr
         clear hown5 hgrow5 hblk5 hbb hrr
         go_wp2_with fail
         go_roundw
         case rel =>
          refine ⟨q + 1, by omega, by go_num, ?_⟩
          rw [HF.out]
          refine ⟨?_, Hrr.out, Hbb.out, HS.out.2.2.2⟩
          rw [List.length_append, castL_app, show cbs (castL L ++ castL [(x1, x2)]) = cbs (castL L) ++ [.int .i64 x1, .int .i64 x2] by rw [cbs, recs_app]; rfl]
          exact Hown5.out
         case measure => simp [intOf]; omega
     ·have hql : q = AL.length := by omega
      have HF := Lib.hid (show L = AL.filter (Tb.primeI AL) by rw [HL.out, hql, List.take_length])
      have g2 : (AL.length : Int) ≤ (q : Int) := by omega
      clear hql
      go_wp2_with fail
      go_ret
      rw [He2.out, ← HF.out]
      exact HSo.out.done
 ·have hk : tOk m b0 = false := by simpa using hk
  have He := Lib.hid (show pCubes m b0 = [] by rw [pCubes, hk]; rfl)
  have Hk := Lib.hid hk
  clear hk
  go_enter Try.func40, Try.ntmps40
  go_wp2_with fail
  refine (i_TableOk _ _ _).mono ?_
  rintro e w1 ⟨rfl, hb1⟩
  rw [Hk.out]
  go_wp2_with fail
  go_ret
  unfold OwnCubes
  rw [He.out]
  exact ⟨none, 0, rfl, by simpa [cbs, recs] using World.ownsRow_nil _ _ _ _, bel_⟩
end Go.Proofs.Ytbkgjgpoohlieaa

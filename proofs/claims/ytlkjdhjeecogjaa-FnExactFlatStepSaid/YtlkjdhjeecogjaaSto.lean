/- Contracts: which signals hold a state: the program's and the reference's functions. -/
import Derived.Test.YtlkjdhjeecogjaaFokC
import Derived.Outline
namespace Go.Proofs.Ytlkjdhjeecogjaa
open Go.RowKit

/-- signal i is a register or the output of a memory -/
def stoB (m : TModule) (i : Nat) : Bool := decide (kindAt m.1 (i : Int) = 3) || m.2.2.2.any fun x => decide (x.2.2.2 = (i : Int))
def stoL (m : TModule) : List Bool := (List.range m.1.length).map (stoB m)
/-- .. so far -/
def stoK (m : TModule) (k : Nat) (l : List TMem) : List Bool := (List.range m.1.length).map fun i => (decide (i < k) && decide (kindAt m.1 (i : Int) = 3)) || l.any fun x => decide (x.2.2.2 = (i : Int))
theorem stoK_len (m : TModule) (k : Nat) (l : List TMem) : (stoK m k l).length = m.1.length := by simp [stoK]
theorem stoK_get {m : TModule} {k i : Nat} {l : List TMem} (h : i < m.1.length) : (stoK m k l)[i]? = some ((decide (i < k) && decide (kindAt m.1 (i : Int) = 3)) || l.any fun x => decide (x.2.2.2 = (i : Int))) := by simp [stoK, h]
theorem stoL_len (m : TModule) : (stoL m).length = m.1.length := by simp [stoL]
theorem stoL_get {m : TModule} {i : Nat} (h : i < m.1.length) : (stoL m)[i]? = some (stoB m i) := by simp [stoL, h]
theorem stoK_zero (m : TModule) : stoK m 0 [] = List.replicate m.1.length false := by
 apply List.ext_getElem?
 intro i
 by_cases h : i < m.1.length
 ·rw [stoK_get h]; simp [h]
 ·rw [List.getElem?_eq_none (by rw [stoK_len]; omega), List.getElem?_eq_none (by simp; omega)]
theorem stoK_end (m : TModule) : stoK m m.1.length m.2.2.2 = stoL m := by
 unfold stoK stoL stoB
 apply List.map_congr_left
 intro i hi
 rw [decide_eq_true (List.mem_range.1 hi), Bool.true_and]
theorem stoK_sig {m : TModule} {k : Nat} {x : TSignal} (h : m.1[k]? = some x) : (stoK m k []).set k (decide (x.1 = 3)) = stoK m (k + 1) [] := by
 have hk := (List.getElem?_eq_some_iff.1 h).1
 apply List.ext_getElem?
 intro j
 by_cases hj : j < m.1.length
 ·rw [stoK_get hj, List.getElem?_set, stoK_len, stoK_get hj]
  by_cases hkj : k = j
  ·subst hkj
   rw [if_pos rfl, if_pos hk, decide_eq_true (Nat.lt_succ_self k), kindAt_get h]
   simp
  ·rw [if_neg hkj]
   congr 3
   rw [decide_eq_decide]
   omega
 ·rw [List.getElem?_eq_none (by rw [List.length_set, stoK_len]; omega), List.getElem?_eq_none (by rw [stoK_len]; omega)]
theorem stoK_mem {m : TModule} {k s : Nat} {l : List TMem} {x : TMem} (hs : x.2.2.2 = (s : Int)) : (stoK m k l).set s true = stoK m k (l ++ [x]) := by
 apply List.ext_getElem?
 intro j
 by_cases hj : j < m.1.length
 ·rw [stoK_get hj, List.getElem?_set, stoK_len, stoK_get hj, List.any_append]
  simp only [List.any_cons, List.any_nil, Bool.or_false, hs]
  by_cases hsj : s = j
  ·subst hsj
   rw [if_pos rfl, if_pos hj]
   simp
  ·rw [if_neg hsj, decide_eq_false (show ¬ ((s : Int) = (j : Int)) by omega), Bool.or_false]
 ·rw [List.getElem?_eq_none (by rw [List.length_set, stoK_len]; omega), List.getElem?_eq_none (by rw [stoK_len]; omega)]

set_option maxRecDepth 100000 in
set_option maxHeartbeats 8000000 in
theorem i_isStored {w : World} {S : Nat → Prop} {v : Value} {m : TModule} (hok : okE m = true) (h : RModule w S v m) (hS : ∀ b, S b → b < w.heap.size) :
  Calls Try.prog 123 #[v] w fun e w' => ∃ g : Nat, e = .returned (.slice (some ⟨g, 0, none⟩) m.1.length m.1.length) ∧ w'.ownsRow w.heap.size 4 1 (.slice (some ⟨g, 0, none⟩) m.1.length m.1.length) m.1.length (bools (stoL m)) ∧ Below w.heap.size w w' := by
 obtain ⟨ib, hib, hbz0, hbz1, hbz2⟩ := info_parts Try.infoBoolE
 obtain ⟨hn30, hna30, hnm2⟩ := okE_na hok
 have HOK := Lib.hid hok
 obtain ⟨A0, c0, A1, c1, A2, c2, A3, c3, rfl, hSg, hAs, -, hMe, hm0, hm1, hm2, hm3⟩ := mod_open h
 obtain ⟨ns, hns⟩ : ∃ ns, m.1.length = ns := ⟨_, rfl⟩
 obtain ⟨na, hna⟩ : ∃ na, m.2.1.length = na := ⟨_, rfl⟩
 obtain ⟨ni, hni⟩ : ∃ ni, m.2.2.1.length = ni := ⟨_, rfl⟩
 obtain ⟨nm, hnm⟩ : ∃ nm, m.2.2.2.length = nm := ⟨_, rfl⟩
 rw [hns, hna, hni, hnm] at h ⊢
 rw [hns] at hSg hm0
 rw [hna] at hAs hm1
 rw [hni] at hm2
 rw [hnm] at hMe hm3
 unfold maxLen at hm0 hm1 hm2 hm3
 have Hn := Lib.hid (And.intro hns (And.intro hna (And.intro hni hnm)))
 have H := Lib.hid h
 have HSg := Lib.hid hSg
 have HAs := Lib.hid hAs
 have HMe := Lib.hid hMe
 have HB0 := Lib.hid ((Below.refl w.heap.size w).alloc (Nat.le_refl _) (.cells #[.slice A0 ns c0, .slice A1 na c1, .slice A2 ni c2, .slice A3 nm c3] 41))
 have HX0 := Lib.hid (Blk.new w 41 #[.slice A0 ns c0, .slice A1 na c1, .slice A2 ni c2, .slice A3 nm c3])
 clear hns hna hnm hni h hSg hAs hMe
 rw [Hn.out.1] at hn30
 rw [Hn.out.2.2.2] at hnm2
 obtain ⟨W0, hW0⟩ : ∃ W0, W0 = w.alloc (.cells #[.slice A0 ns c0, .slice A1 na c1, .slice A2 ni c2, .slice A3 nm c3] 41) := ⟨_, rfl⟩
 have hz0 : W0.heap.size = w.heap.size + 1 := by rw [hW0]; simp
 rw [← hW0] at HB0 HX0
 have HW0 := Lib.hid hW0
 have hmk := run_make_rowN (P := Try.prog) 81 4 ib (.bool false) Try.underlying81 hib hbz0 .i64 .i64 ns ns (Nat.le_refl _) (by rw [hbz2]; omega) (by omega) W0
 rw [hbz1] at hmk
 have hcs : (Value.bool false).cells = #[.bool false] := rfl
 rw [hcs, Nat.mul_one, hW0] at hmk
 clear hW0 hcs hok
 go_enter Try.func123, Try.ntmps123
 go_wp2_with fail
 clear hmk
 obtain ⟨W2, hW2⟩ : ∃ W2, W2 = W0.alloc (.cells (madeCells #[.bool false] ns) 4) := ⟨_, rfl⟩
 have HO2 := Lib.hid (show W2.ownsRow w.heap.size 4 1 (.slice (some ⟨w.heap.size + 1, 0, none⟩) ns ns) ns (bools (stoK m 0 [])) by rw [hW2, stoK_zero, Hn.out.1, ← hz0]; exact own_mono (own_bools (by unfold maxLen; omega)) (by omega))
 have HB2 := Lib.hid (show Below w.heap.size w W2 by rw [hW2]; exact HB0.out.alloc (by omega) _)
 have HX2 := Lib.hid (show Blk W2 w.heap.size 41 #[.slice A0 ns c0, .slice A1 na c1, .slice A2 ni c2, .slice A3 nm c3] by rw [hW2]; exact HX0.out.alloc _)
 have hz2 : W2.heap.size = W0.heap.size + 1 := by rw [hW2]; simp
 rw [← HW0.out, ← hW2]
 clear hW2
 go_loopw [4, 5, 15] (fun _ _ iv wr => ∃ k : Nat, k ≤ ns ∧ iv = .int .i64 k ∧ wr.ownsRow w.heap.size 4 1 (.slice (some ⟨w.heap.size + 1, 0, none⟩) ns ns) ns (bools (stoK m k [])) ∧ Only (fun b => b = w.heap.size + 1) W2 wr) (fun _ _ iv _ => ns - (intOf iv).toNat)
 case atStart => exact ⟨0, Nat.zero_le _, rfl, HO2.out, Only.refl _ _⟩
 case round =>
  obtain ⟨k, hk, rfl, hown, ho⟩ := hrel
  have Ho := Lib.hid ho
  have Hown := Lib.hid hown
  have hsz := ho.size
  have Hbw := Lib.hid (HB2.out.trans (ho.below (B := w.heap.size) (by omega) (fun b hb => by omega)))
  have HXr := Lib.hid (Only.blk ho HX2.out (by omega))
  obtain ⟨y0, y1, y2, y3⟩ := blkS4 HXr.out
  clear ho hown
  have g1 : (0 : Int) ≤ (k : Int) := by omega
  by_cases hlt : k < ns
  ·obtain ⟨ad, x0, x1, x2, rfl, hab, hx, e0, e1, e2⟩ := fSignalS_row (HSg.out.under hS Hbw.out) hlt
   have g2 : (k : Int) < (ns : Int) := by omega
   have Hs := Lib.hid (stoK_sig hx)
   have Hown2 := Lib.hid (Hown.out.alloc (.cells #[.int .i64 x0, .int .i64 x1, .int .i64 x2] 99))
   have Ho2 := Lib.hid (Ho.out.alloc (.cells #[.int .i64 x0, .int .i64 x1, .int .i64 x2] 99))
   have hc := Hown2.out.cellAt k (by omega)
   rw [bools_get, stoK_get (by have := Hn.out.1; omega)] at hc
   have hfz := Hown2.out.frozenAt k
   simp only [Option.map_some] at hc
   clear hx
   by_cases h3 : x0 = 3
   ·subst h3
    go_wp2_with fail
    go_roundw
    case rel => exact ⟨k + 1, by omega, by go_num, by rw [← Hs.out, ← bools_set]; exact (Hown2.out.stored k (.bool true)).1, Ho2.out.setCell (p := ⟨w.heap.size + 1, k, none⟩) (.inl rfl) _⟩
    case measure => simp [intOf]; omega
   ·have q3 : (x0 == 3) = false := by simpa using h3
    have Hs2 := Lib.hid (show (stoK m k []).set k false = stoK m (k + 1) [] by rw [← Hs.out]; simp [h3])
    clear h3
    go_wp2_with fail
    go_roundw
    case rel => exact ⟨k + 1, by omega, by go_num, by rw [← Hs2.out, ← bools_set]; exact (Hown2.out.stored k (.bool false)).1, Ho2.out.setCell (p := ⟨w.heap.size + 1, k, none⟩) (.inl rfl) _⟩
    case measure => simp [intOf]; omega
  ·have hge : (ns : Int) ≤ (k : Int) := by omega
   have hkn : k = ns := by omega
   have HOe := Lib.hid (show wr.ownsRow w.heap.size 4 1 (.slice (some ⟨w.heap.size + 1, 0, none⟩) ns ns) ns (bools (stoK m m.1.length (m.2.2.2.take 0))) by have h1 := Hown.out; rw [hkn] at h1; rw [Hn.out.1]; exact h1)
   clear hkn
   go_wp2_with fail
   clear y0 y1 y2 y3 hge
   go_loopw [7, 30] (fun _ iv wr => ∃ k : Nat, k ≤ nm ∧ iv = .int .i64 k ∧ wr.ownsRow w.heap.size 4 1 (.slice (some ⟨w.heap.size + 1, 0, none⟩) ns ns) ns (bools (stoK m m.1.length (m.2.2.2.take k))) ∧ Only (fun b => b = w.heap.size + 1) W2 wr) (fun _ iv _ => nm - (intOf iv).toNat)
   case atStart => exact ⟨0, Nat.zero_le _, rfl, HOe.out, Ho.out⟩
   case round =>
    clear HOe Hown Ho hsz Hbw HXr g1
    obtain ⟨k, hk, rfl, hown, ho⟩ := hrel
    have Ho := Lib.hid ho
    have Hown := Lib.hid hown
    have hsz := ho.size
    have Hbw := Lib.hid (HB2.out.trans (ho.below (B := w.heap.size) (by omega) (fun b hb => by omega)))
    have HXr := Lib.hid (Only.blk ho HX2.out (by omega))
    obtain ⟨y0, y1, y2, y3⟩ := blkS4 HXr.out
    clear ho hown
    have g1 : (0 : Int) ≤ (k : Int) := by omega
    by_cases hlt : k < nm
    ·obtain ⟨ad2, m0, m1, m2, m3, rfl, hab2, hx, t0, t1, t2, t3⟩ := fMemS_row (HMe.out.under hS Hbw.out) hlt
     obtain ⟨p, q, r, s, rfl, rfl, rfl, rfl, hp, hq, hr, hs⟩ := okE_mem HOK.out hx
     rw [Hn.out.1] at hs
     have g2 : (k : Int) < (nm : Int) := by omega
     have i4a : (0 : Int) ≤ (s : Int) := by omega
     have i4b : (s : Int) < (ns : Int) := by omega
     have Hs := Lib.hid (show (stoK m m.1.length (m.2.2.2.take k)).set s true = stoK m m.1.length (m.2.2.2.take (k + 1)) by rw [List.take_add_one, hx]; exact stoK_mem rfl)
     have Hown2 := Lib.hid (Hown.out.alloc (.cells #[.int .i64 (p : Int), .int .i64 (q : Int), .int .i64 (r : Int), .int .i64 (s : Int)] 103))
     have Ho2 := Lib.hid (Ho.out.alloc (.cells #[.int .i64 (p : Int), .int .i64 (q : Int), .int .i64 (r : Int), .int .i64 (s : Int)] 103))
     have hc := Hown2.out.cellAt s (by omega)
     rw [bools_get, stoK_get (by have := Hn.out.1; omega)] at hc
     have hfz := Hown2.out.frozenAt s
     simp only [Option.map_some] at hc
     clear hx hp hq hr
     go_wp2_with fail
     go_roundw
     case rel => exact ⟨k + 1, by omega, by go_num, by rw [← Hs.out, ← bools_set]; exact (Hown2.out.stored s (.bool true)).1, Ho2.out.setCell (p := ⟨w.heap.size + 1, s, none⟩) (.inl rfl) _⟩
     case measure => simp [intOf]; omega
    ·have hge : (nm : Int) ≤ (k : Int) := by omega
     have HOf := Lib.hid (show wr.ownsRow w.heap.size 4 1 (.slice (some ⟨w.heap.size + 1, 0, none⟩) ns ns) ns (bools (stoL m)) by
      have h1 := Hown.out
      rw [List.take_of_length_le (by have := Hn.out.2.2.2; omega), stoK_end] at h1
      exact h1)
     go_wp2_with fail
     go_ret
     exact ⟨_, rfl, HOf.out, Hbw.out⟩
set_option maxRecDepth 100000 in
set_option maxHeartbeats 8000000 in
theorem s_l07States {w : World} {S : Nat → Prop} {v : Value} {m : TModule} (hok : okE m = true) (h : RModule w S v m) (hS : ∀ b, S b → b < w.heap.size) :
  Calls Try.prog 114 #[v] w fun e w' => ∃ g : Nat, e = .returned (.slice (some ⟨g, 0, none⟩) m.1.length m.1.length) ∧ w'.ownsRow w.heap.size 4 1 (.slice (some ⟨g, 0, none⟩) m.1.length m.1.length) m.1.length (bools (stoL m)) ∧ Below w.heap.size w w' := by
 obtain ⟨ib, hib, hbz0, hbz1, hbz2⟩ := info_parts Try.infoBoolE
 obtain ⟨hn30, hna30, hnm2⟩ := okE_na hok
 have HOK := Lib.hid hok
 obtain ⟨A0, c0, A1, c1, A2, c2, A3, c3, rfl, hSg, hAs, -, hMe, hm0, hm1, hm2, hm3⟩ := mod_open h
 obtain ⟨ns, hns⟩ : ∃ ns, m.1.length = ns := ⟨_, rfl⟩
 obtain ⟨na, hna⟩ : ∃ na, m.2.1.length = na := ⟨_, rfl⟩
 obtain ⟨ni, hni⟩ : ∃ ni, m.2.2.1.length = ni := ⟨_, rfl⟩
 obtain ⟨nm, hnm⟩ : ∃ nm, m.2.2.2.length = nm := ⟨_, rfl⟩
 rw [hns, hna, hni, hnm] at h ⊢
 rw [hns] at hSg hm0
 rw [hna] at hAs hm1
 rw [hni] at hm2
 rw [hnm] at hMe hm3
 unfold maxLen at hm0 hm1 hm2 hm3
 have Hn := Lib.hid (And.intro hns (And.intro hna (And.intro hni hnm)))
 have H := Lib.hid h
 have HSg := Lib.hid hSg
 have HAs := Lib.hid hAs
 have HMe := Lib.hid hMe
 have HB0 := Lib.hid ((Below.refl w.heap.size w).alloc (Nat.le_refl _) (.cells #[.slice A0 ns c0, .slice A1 na c1, .slice A2 ni c2, .slice A3 nm c3] 41))
 have HX0 := Lib.hid (Blk.new w 41 #[.slice A0 ns c0, .slice A1 na c1, .slice A2 ni c2, .slice A3 nm c3])
 clear hns hna hnm hni h hSg hAs hMe
 rw [Hn.out.1] at hn30
 rw [Hn.out.2.2.2] at hnm2
 obtain ⟨W0, hW0⟩ : ∃ W0, W0 = w.alloc (.cells #[.slice A0 ns c0, .slice A1 na c1, .slice A2 ni c2, .slice A3 nm c3] 41) := ⟨_, rfl⟩
 have hz0 : W0.heap.size = w.heap.size + 1 := by rw [hW0]; simp
 rw [← hW0] at HB0 HX0
 have HW0 := Lib.hid hW0
 have hmk := run_make_rowN (P := Try.prog) 81 4 ib (.bool false) Try.underlying81 hib hbz0 .i64 .i64 ns ns (Nat.le_refl _) (by rw [hbz2]; omega) (by omega) W0
 rw [hbz1] at hmk
 have hcs : (Value.bool false).cells = #[.bool false] := rfl
 rw [hcs, Nat.mul_one, hW0] at hmk
 clear hW0 hcs hok
 go_enter Try.func114, Try.ntmps114
 go_wp2_with fail
 clear hmk
 obtain ⟨W2, hW2⟩ : ∃ W2, W2 = W0.alloc (.cells (madeCells #[.bool false] ns) 4) := ⟨_, rfl⟩
 have HO2 := Lib.hid (show W2.ownsRow w.heap.size 4 1 (.slice (some ⟨w.heap.size + 1, 0, none⟩) ns ns) ns (bools (stoK m 0 [])) by rw [hW2, stoK_zero, Hn.out.1, ← hz0]; exact own_mono (own_bools (by unfold maxLen; omega)) (by omega))
 have HB2 := Lib.hid (show Below w.heap.size w W2 by rw [hW2]; exact HB0.out.alloc (by omega) _)
 have HX2 := Lib.hid (show Blk W2 w.heap.size 41 #[.slice A0 ns c0, .slice A1 na c1, .slice A2 ni c2, .slice A3 nm c3] by rw [hW2]; exact HX0.out.alloc _)
 have hz2 : W2.heap.size = W0.heap.size + 1 := by rw [hW2]; simp
 rw [← HW0.out, ← hW2]
 clear hW2
 go_loopw [4] (fun iv wr => ∃ k : Nat, k ≤ ns ∧ iv = .int .i64 k ∧ wr.ownsRow w.heap.size 4 1 (.slice (some ⟨w.heap.size + 1, 0, none⟩) ns ns) ns (bools (stoK m k [])) ∧ Only (fun b => b = w.heap.size + 1) W2 wr) (fun iv _ => ns - (intOf iv).toNat)
 case atStart => exact ⟨0, Nat.zero_le _, rfl, HO2.out, Only.refl _ _⟩
 case round =>
  obtain ⟨k, hk, rfl, hown, ho⟩ := hrel
  have Ho := Lib.hid ho
  have Hown := Lib.hid hown
  have hsz := ho.size
  have Hbw := Lib.hid (HB2.out.trans (ho.below (B := w.heap.size) (by omega) (fun b hb => by omega)))
  have HXr := Lib.hid (Only.blk ho HX2.out (by omega))
  obtain ⟨y0, y1, y2, y3⟩ := blkS4 HXr.out
  clear ho hown
  have g1 : (0 : Int) ≤ (k : Int) := by omega
  by_cases hlt : k < ns
  ·obtain ⟨ad, x0, x1, x2, rfl, hab, hx, e0, e1, e2⟩ := fSignalS_row (HSg.out.under hS Hbw.out) hlt
   have g2 : (k : Int) < (ns : Int) := by omega
   have Hs := Lib.hid (stoK_sig hx)
   have hc := Hown.out.cellAt k (by omega)
   rw [bools_get, stoK_get (by have := Hn.out.1; omega)] at hc
   have hfz := Hown.out.frozenAt k
   simp only [Option.map_some] at hc
   clear hx
   by_cases h3 : x0 = 3
   ·subst h3
    go_wp2_with fail
    go_roundw
    case rel => exact ⟨k + 1, by omega, by go_num, by rw [← Hs.out, ← bools_set]; exact (Hown.out.stored k (.bool true)).1, Ho.out.setCell (p := ⟨w.heap.size + 1, k, none⟩) (.inl rfl) _⟩
    case measure => simp [intOf]; omega
   ·have q3 : (x0 == 3) = false := by simpa using h3
    have Hs2 := Lib.hid (show (stoK m k []).set k false = stoK m (k + 1) [] by rw [← Hs.out]; simp [h3])
    clear h3
    go_wp2_with fail
    go_roundw
    case rel => exact ⟨k + 1, by omega, by go_num, by rw [← Hs2.out, ← bools_set]; exact (Hown.out.stored k (.bool false)).1, Ho.out.setCell (p := ⟨w.heap.size + 1, k, none⟩) (.inl rfl) _⟩
    case measure => simp [intOf]; omega
  ·have hge : (ns : Int) ≤ (k : Int) := by omega
   have hkn : k = ns := by omega
   have HOe := Lib.hid (show wr.ownsRow w.heap.size 4 1 (.slice (some ⟨w.heap.size + 1, 0, none⟩) ns ns) ns (bools (stoK m m.1.length (m.2.2.2.take 0))) by have h1 := Hown.out; rw [hkn] at h1; rw [Hn.out.1]; exact h1)
   clear hkn
   go_wp2_with fail
   clear y0 y1 y2 y3 hge
   go_loopw [5] (fun iv wr => ∃ k : Nat, k ≤ nm ∧ iv = .int .i64 k ∧ wr.ownsRow w.heap.size 4 1 (.slice (some ⟨w.heap.size + 1, 0, none⟩) ns ns) ns (bools (stoK m m.1.length (m.2.2.2.take k))) ∧ Only (fun b => b = w.heap.size + 1) W2 wr) (fun iv _ => nm - (intOf iv).toNat)
   case atStart => exact ⟨0, Nat.zero_le _, rfl, HOe.out, Ho.out⟩
   case round =>
    clear HOe Hown Ho hsz Hbw HXr g1
    obtain ⟨k, hk, rfl, hown, ho⟩ := hrel
    have Ho := Lib.hid ho
    have Hown := Lib.hid hown
    have hsz := ho.size
    have Hbw := Lib.hid (HB2.out.trans (ho.below (B := w.heap.size) (by omega) (fun b hb => by omega)))
    have HXr := Lib.hid (Only.blk ho HX2.out (by omega))
    obtain ⟨y0, y1, y2, y3⟩ := blkS4 HXr.out
    clear ho hown
    have g1 : (0 : Int) ≤ (k : Int) := by omega
    by_cases hlt : k < nm
    ·obtain ⟨ad2, m0, m1, m2, m3, rfl, hab2, hx, t0, t1, t2, t3⟩ := fMemS_row (HMe.out.under hS Hbw.out) hlt
     obtain ⟨p, q, r, s, rfl, rfl, rfl, rfl, hp, hq, hr, hs⟩ := okE_mem HOK.out hx
     rw [Hn.out.1] at hs
     have g2 : (k : Int) < (nm : Int) := by omega
     have i4a : (0 : Int) ≤ (s : Int) := by omega
     have i4b : (s : Int) < (ns : Int) := by omega
     have Hs := Lib.hid (show (stoK m m.1.length (m.2.2.2.take k)).set s true = stoK m m.1.length (m.2.2.2.take (k + 1)) by rw [List.take_add_one, hx]; exact stoK_mem rfl)
     have hc := Hown.out.cellAt s (by omega)
     rw [bools_get, stoK_get (by have := Hn.out.1; omega)] at hc
     have hfz := Hown.out.frozenAt s
     simp only [Option.map_some] at hc
     clear hx hp hq hr
     go_wp2_with fail
     go_roundw
     case rel => exact ⟨k + 1, by omega, by go_num, by rw [← Hs.out, ← bools_set]; exact (Hown.out.stored s (.bool true)).1, Ho.out.setCell (p := ⟨w.heap.size + 1, s, none⟩) (.inl rfl) _⟩
     case measure => simp [intOf]; omega
    ·have hge : (nm : Int) ≤ (k : Int) := by omega
     have HOf := Lib.hid (show wr.ownsRow w.heap.size 4 1 (.slice (some ⟨w.heap.size + 1, 0, none⟩) ns ns) ns (bools (stoL m)) by
      have h1 := Hown.out
      rw [List.take_of_length_le (by have := Hn.out.2.2.2; omega), stoK_end] at h1
      exact h1)
     go_wp2_with fail
     go_ret
     exact ⟨_, rfl, HOf.out, Hbw.out⟩
end Go.Proofs.Ytlkjdhjeecogjaa

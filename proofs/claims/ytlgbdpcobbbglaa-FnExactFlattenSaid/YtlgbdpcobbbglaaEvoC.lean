/- Contracts: an order in which assignments can be evaluated: the reference's function. -/
import Derived.Test.YtlgbdpcobbbglaaEvoB
import Derived.Outline
namespace Go.Proofs.Ytlgbdpcobbbglaa
open Go.RowKit

theorem Try.infoBoolE : (Try.prog.info? 4).map (fun i => (i.zero, i.size, i.bytes)) = some (some (.bool false), 1, 1) := by kernel_rfl
theorem made_bools (n : Nat) : (madeCells #[.bool false] n).toList = bools (List.replicate n false) := by
 simp only [madeCells, bools, Array.toList_map, Array.toList_range, List.map_replicate]
 rw [List.eq_replicate_iff]
 refine ⟨by simp, fun b hb => ?_⟩
 obtain ⟨i, _, rfl⟩ := List.mem_map.1 hb
 show (#[Value.bool false])[i % 1]! = _
 rw [Nat.mod_one]
 rfl
theorem own_bools {w : World} {n : Nat} (hn : n ≤ maxLen) : (w.alloc (.cells (madeCells #[.bool false] n) 4)).ownsRow w.heap.size 4 1 (.slice (some ⟨w.heap.size, 0, none⟩) n n) n (bools (List.replicate n false)) :=
 ⟨by simp [bools], .inr ⟨w.heap.size, n, madeCells #[.bool false] n, rfl, Nat.le_refl _, heap_alloc_new w _, Nat.le_refl _, hn, by simp [size_madeCells], by rw [made_bools]; simp [bools]⟩⟩
theorem own_bool_at {w : World} {base g n c k : Nat} {e : TypeId} {l : List Bool} (h : w.ownsRow base e 1 (.slice (some ⟨g, 0, none⟩) n c) n (bools l)) (hk : k < n) : ∃ x : Bool, l[k]? = some x ∧ w.cell? ⟨g, k, none⟩ = some (.bool x) := by
 have h1 := h.cellAt k (by omega)
 have h2 : (bools l).length = n := by have := h.1; omega
 rw [bools_len] at h2
 have h3 : l[k]? = some l[k] := List.getElem?_eq_getElem (by omega)
 refine ⟨l[k], h3, ?_⟩
 rw [h1, bools_get, h3]
 rfl
theorem bools_set (l : List Bool) (k : Nat) (b : Bool) : (bools l).set k (.bool b) = bools (l.set k b) := by simp [bools, List.map_set]

/-- the signals that are still to be evaluated, as a list -/
def opnL (m : TModule) (todo : List Nat) : List Bool := (List.range m.1.length).map (opnB m todo)
theorem opnL_len (m : TModule) (todo : List Nat) : (opnL m todo).length = m.1.length := by simp [opnL]
theorem opnL_get {m : TModule} {todo : List Nat} {s : Nat} (h : s < m.1.length) : (opnL m todo)[s]? = some (opnB m todo s) := by simp [opnL, h]
theorem opnL_nil (m : TModule) : opnL m [] = List.replicate m.1.length false := by
 apply List.ext_getElem?
 intro i
 by_cases h : i < m.1.length
 ·rw [opnL_get h]; simp [opnB, h]
 ·rw [List.getElem?_eq_none (by rw [opnL_len]; omega), List.getElem?_eq_none (by simp; omega)]
theorem opnL_snoc {m : TModule} {L : List Nat} {i s : Nat} {a : TAssign} (hi : m.2.1[i]? = some a) (hs : a.1 = (s : Int)) : (opnL m L).set s true = opnL m (L ++ [i]) := by
 apply List.ext_getElem?
 intro j
 by_cases h : j < m.1.length
 ·rw [opnL_get h, List.getElem?_set, opnL_len, opnL_get h]
  unfold opnB
  rw [List.any_append]
  simp only [List.any_cons, List.any_nil, Bool.or_false, asgA_get hi, hs]
  by_cases hsj : s = j
  ·subst hsj
   rw [if_pos rfl, if_pos h]
   simp
  ·rw [if_neg hsj, decide_eq_false (show ¬ ((s : Int) = (j : Int)) by omega), Bool.or_false]
 ·rw [List.getElem?_eq_none (by rw [List.length_set, opnL_len]; omega), List.getElem?_eq_none (by rw [opnL_len]; omega)]
theorem opnL_erase {m : TModule} (h : okE m = true) {todo : List Nat} (hm : ∀ i ∈ todo, ∃ a, m.2.1[i]? = some a) (hs : todo.Pairwise (· < ·)) {k i s : Nat} {a : TAssign} (hk : todo[k]? = some i) (hi : m.2.1[i]? = some a) (has : a.1 = (s : Int)) :
  (opnL m todo).set s false = opnL m (todo.eraseIdx k) := by
 apply List.ext_getElem?
 intro j
 by_cases hj : j < m.1.length
 ·rw [opnL_get hj, List.getElem?_set, opnL_len, opnL_get hj, opn_erase h hm hs hk hi j, has]
  by_cases hsj : s = j
  ·subst hsj
   rw [if_pos rfl, if_pos hj, if_pos rfl]
  ·rw [if_neg hsj, if_neg (show ¬ ((s : Int) = (j : Int)) by omega)]
 ·rw [List.getElem?_eq_none (by rw [List.length_set, opnL_len]; omega), List.getElem?_eq_none (by rw [opnL_len]; omega)]
theorem waits_cong {f g : Nat → Bool} {N : Nat} {os : List TOp} (hsg : ∀ o ∈ os, (o.1 = 2 ∨ o.1 = 3) → 0 ≤ o.2.1 ∧ o.2.1 < (N : Int)) (h : ∀ s, s < N → f s = g s) : waitsB' f os = waitsB' g os := by
 unfold waitsB'
 rw [Bool.eq_iff_iff, List.any_eq_true, List.any_eq_true]
 constructor
 all_goals
  rintro ⟨o, ho, hx⟩
  refine ⟨o, ho, ?_⟩
  rw [Bool.and_eq_true, decide_eq_true_eq] at hx ⊢
  refine ⟨hx.1, ?_⟩
  have h1 := hsg o ho hx.1
  have h2 := h o.2.1.toNat (by omega)
  first | (rw [← h2]; exact hx.2) | (rw [h2]; exact hx.2)
/-- which index comes next -/
theorem next_some {m : TModule} {todo : List Nat} (hs : todo.Pairwise (· < ·)) {q : Nat} (hq : q ∈ todo) (hf : freeB m todo q = true) (hb : ∀ j, j < q → j ∈ todo → freeB m todo j = false) : ∃ k, todo.findIdx? (freeB m todo) = some k ∧ todo[k]? = some q := find_first hs hq hf hb
theorem next_none {m : TModule} {todo : List Nat} {N : Nat} (hm : ∀ i ∈ todo, i < N) (h : ∀ j, j < N → j ∈ todo → freeB m todo j = false) : todo.findIdx? (freeB m todo) = none := by
 rw [List.findIdx?_eq_none_iff]
 intro x hx
 rw [h x (hm x hx) hx]

theorem lt_succ_case {P : Nat → Prop} {i : Nat} (h : ∀ j, j < i → P j) (hi : P i) : ∀ j, j < i + 1 → P j := fun j hj =>
 (Nat.lt_or_ge j i).elim (h j) (fun h' => by rw [show j = i by omega]; exact hi)
set_option maxRecDepth 100000 in
set_option maxHeartbeats 16000000 in
theorem s_EvalOrder {w : World} {S : Nat → Prop} {v : Value} {m : TModule} (hz : sModule m ≤ 1048576) (h : RModule w S v m) (hS : ∀ b, S b → b < w.heap.size) :
  Calls Try.prog 39 #[v] w fun e w' => ∃ v', e = .returned (.tuple #[v', .bool (ordB m)]) ∧ QIntS w' (New w w') v' (ordL m) ∧ Below w.heap.size w w' := by
 obtain ⟨i0, hi, hz0, hz1, hz2⟩ := info_parts Try.infoIntC
 obtain ⟨ib, hib, hbz0, hbz1, hbz2⟩ := info_parts Try.infoBoolE
 obtain ⟨A0, c0, A1, c1, A2, c2, A3, c3, rfl, hSg, hAs, -, -, hm0, hm1, hm2, hm3⟩ := mod_open h
 obtain ⟨ns, hns⟩ : ∃ ns, m.1.length = ns := ⟨_, rfl⟩
 obtain ⟨na, hna⟩ : ∃ na, m.2.1.length = na := ⟨_, rfl⟩
 obtain ⟨ni, hni⟩ : ∃ ni, m.2.2.1.length = ni := ⟨_, rfl⟩
 obtain ⟨nm, hnm⟩ : ∃ nm, m.2.2.2.length = nm := ⟨_, rfl⟩
 rw [hns, hna, hni, hnm] at h ⊢
 rw [hns] at hSg hm0
 rw [hna] at hAs hm1
 rw [hni] at hm2
 rw [hnm] at hm3
 unfold maxLen at hm0 hm1 hm2 hm3
 have Hn := Lib.hid (And.intro hns (And.intro hna (And.intro hni hnm)))
 obtain ⟨WB, hWB⟩ : ∃ WB, WB = w.alloc (.cells #[.slice A0 ns c0, .slice A1 na c1, .slice A2 ni c2, .slice A3 nm c3] 31) := ⟨_, rfl⟩
 have hzB : WB.heap.size = w.heap.size + 1 := by rw [hWB]; simp
 have HBB := Lib.hid (show Below w.heap.size w WB by rw [hWB]; exact (Below.refl w.heap.size w).alloc (Nat.le_refl _) _)
 have HXB := Lib.hid (show Blk WB w.heap.size 31 #[.slice A0 ns c0, .slice A1 na c1, .slice A2 ni c2, .slice A3 nm c3] by rw [hWB]; exact Blk.new _ _ _)
 have HE0 := Lib.hid (own_empty w (.cells #[.slice A0 ns c0, .slice A1 na c1, .slice A2 ni c2, .slice A3 nm c3] 31))
 rw [← hWB] at HE0
 have HWB := Lib.hid hWB
 clear hWB
 clear hns hna hnm
 by_cases hi0 : ni = 0
 rotate_left
 ·have hp0 : (0 : Int) < (ni : Int) := by omega
  have Hno := Lib.hid (ord_no (show okE m = false by unfold okE; rw [hni, decide_eq_false hi0]; rfl))
  clear hi0 hni h hSg hAs
  go_enter Try.func39, Try.ntmps39
  go_wp2_with fail
  rw [← HWB.out]
  go_ret2
  refine ⟨_, ret_tup2 Hno.out.1, ?_, HBB.out.alloc (by omega) _⟩
  rw [Hno.out.2]
  exact sep_ints (by unfold maxLen; omega) HE0.out (fun g hg => ⟨by have := (HE0.out.lt g hg).1; omega, (HE0.out.lt g hg).2⟩)
 ·subst hi0
  obtain ⟨W0, hW0⟩ : ∃ W0, W0 = (WB.alloc (.cells #[] 3)).alloc (.cells #[.slice A0 ns c0, .slice A1 na c1, .slice A2 0 c2, .slice A3 nm c3] 31) := ⟨_, rfl⟩
  have hz0' : W0.heap.size = w.heap.size + 1 + 1 + 1 := by rw [hW0]; simp [hzB]
  have HB0 := Lib.hid (show Below (w.heap.size + 1) WB W0 by rw [hW0]; exact ((Below.refl _ _).alloc (by omega) _).alloc (by simp; omega) _)
  have HBw0 := Lib.hid (HBB.out.trans (HB0.out.mono (by omega)))
  have HE1 := Lib.hid (show W0.ownsRow (w.heap.size + 1) 3 1 (.slice (some ⟨w.heap.size + 1, 0, none⟩) 0 0) 0 [] by rw [hW0]; exact HE0.out.alloc _)
  have HD := Lib.hid (one_design (g := w.heap.size + 1 + 1) (t := 31) (RModule.under h hS HBw0.out) (by rw [hW0]; exact blk_new_at (by simp [hzB])))
  have hsd : ∀ b, (S b ∨ b = w.heap.size + 1 + 1) → b < W0.heap.size := by
   intro b hb
   rcases hb with hb | hb
   ·have := hS b hb; omega
   ·omega
  have HSg := Lib.hid hSg
  have HAs := Lib.hid hAs
  have hzd := one_sz hz
  have HW0 := Lib.hid hW0
  clear hW0
  cases hdq : designB [m] with
  | false =>
   have Hno := Lib.hid (ord_no (show okE m = false by unfold okE; rw [hdq, Bool.and_false]))
   have Hdq := Lib.hid hdq
   clear hdq h hSg hAs hni
   go_enter Try.func39, Try.ntmps39
   go_wp2_with fail
   rw [← HWB.out, ← HW0.out]
   refine (s_DesignOk (Nat.le_trans hzd (by decide)) HD.out hsd).mono ?_
   rintro e w1 ⟨rfl, hb1⟩
   rw [Hdq.out]
   have HE2 := Lib.hid (own_below HE1.out hb1 (Nat.le_refl _))
   have Hb1 := Lib.hid (HBw0.out.trans (hb1.mono (by omega)))
   clear hb1
   go_wp2_with fail
   go_ret2
   refine ⟨_, ret_tup2 Hno.out.1, ?_, Hb1.out⟩
   rw [Hno.out.2]
   exact sep_ints (by unfold maxLen; omega) HE2.out (fun g hg => ⟨by have := (HE2.out.lt g hg).1; omega, (HE2.out.lt g hg).2⟩)
  | true =>
   have Hok := Lib.hid (show okE m = true by unfold okE; rw [hdq, hni]; rfl)
   have Hdq := Lib.hid hdq
   obtain ⟨hn30, hna30, _⟩ := okE_na Hok.out
   rw [Hn.out.1] at hn30
   rw [Hn.out.2.1] at hna30
   clear hdq h hSg hAs hni
   go_enter Try.func39, Try.ntmps39
   go_wp2_with fail
   rw [← HWB.out, ← HW0.out]
   refine (s_DesignOk (Nat.le_trans hzd (by decide)) HD.out hsd).mono ?_
   rintro e w1 ⟨rfl, hb1⟩
   rw [Hdq.out]
   have HE2 := Lib.hid (own_below HE1.out hb1 (Nat.le_refl _))
   have HBm := Lib.hid (HB0.out.trans (hb1.mono (by omega)))
   have z1 := hb1.size
   have HX1 := Lib.hid (HXB.out.below HBm.out (by omega))
   obtain ⟨y0, y1, y2, y3⟩ := blkS4 HX1.out
   have hmk := run_make_rowN (P := Try.prog) 103 4 ib (.bool false) Try.underlying103 hib hbz0 .i64 .i64 ns ns (Nat.le_refl _) (by rw [hbz2]; omega) (by omega) w1
   rw [hbz1] at hmk
   have hcs : (Value.bool false).cells = #[.bool false] := rfl
   rw [hcs, Nat.mul_one] at hmk
   clear hb1 hsd hzd hcs
   go_wp2_with fail
   clear hmk y0 y1 y2 y3
   obtain ⟨W2, hW2⟩ : ∃ W2, W2 = w1.alloc (.cells (madeCells #[.bool false] ns) 4) := ⟨_, rfl⟩
   have HO2 := Lib.hid (show W2.ownsRow w1.heap.size 4 1 (.slice (some ⟨w1.heap.size, 0, none⟩) ns ns) ns (bools (opnL m [])) by rw [hW2, opnL_nil, Hn.out.1]; exact own_bools (by unfold maxLen; omega))
   have HB2 := Lib.hid (show Below (w.heap.size + 1) WB W2 by rw [hW2]; exact HBm.out.alloc (by omega) _)
   have HE3 := Lib.hid (show W2.ownsRow (w.heap.size + 1) 3 1 (.slice (some ⟨w.heap.size + 1, 0, none⟩) 0 0) 0 [] by rw [hW2]; exact HE2.out.alloc _)
   have hz2' : W2.heap.size = w1.heap.size + 1 := by rw [hW2]; simp
   rw [← hW2]
   clear hW2
   go_loopw [6, 7] (fun lv iv wr => ∃ i : Nat, i ≤ na ∧ iv = .int .i64 i ∧ lv = .int .i64 ((idxN (tdP m) (m.2.1.take i)).length : Nat) ∧ wr.ownsRow w1.heap.size 4 1 (.slice (some ⟨w1.heap.size, 0, none⟩) ns ns) ns (bools (opnL m (idxN (tdP m) (m.2.1.take i)))) ∧ Only (fun b => b = w1.heap.size) W2 wr) (fun _ iv _ => na - (intOf iv).toNat)
   case atStart => exact ⟨0, Nat.zero_le _, rfl, rfl, HO2.out, Only.refl _ _⟩
   case round =>
    obtain ⟨i, hia, rfl, rfl, hown, ho⟩ := hrel
    have Ho := Lib.hid ho
    have hsz := ho.size
    have Hb := Lib.hid (HB2.out.trans (ho.below (B := w.heap.size + 1) (by omega) (fun b hb => by omega)))
    have Hbw := Lib.hid (HBB.out.trans (Hb.out.mono (by omega)))
    have HXr := Lib.hid (HXB.out.below Hb.out (by omega))
    have hlk := idxN_len (p := tdP m) (m.2.1.take i)
    rw [List.length_take] at hlk
    obtain ⟨L, hL⟩ : ∃ L, L = idxN (tdP m) (m.2.1.take i) := ⟨_, rfl⟩
    rw [← hL] at hown hlk ⊢
    have HL := Lib.hid hL
    have hll : L.length ≤ 30 := by omega
    have Hown := Lib.hid hown
    clear ho hown hL hlk
    by_cases hlt : i < na
    ·obtain ⟨ad2, a, os, A1', c1', rfl, hab2, hx, hro, hom, t0, t1⟩ := asg_row (HAs.out.under hS Hbw.out) hlt
     obtain ⟨s, rfl, hsn, _, _⟩ := okE_asg Hok.out hx
     rw [Hn.out.1] at hsn
     obtain ⟨ad3, x0, x1, x2, rfl, hab3, hx3, e0, e1, e2⟩ := fSignalS_row (HSg.out.under hS Hbw.out) hsn
     have g1 : (0 : Int) ≤ (i : Int) := by omega
     have g2 : (i : Int) < (na : Int) := by omega
     have g3 : (0 : Int) ≤ (s : Int) := by omega
     have g4 : (s : Int) < (ns : Int) := by omega
     have Hs := Lib.hid (todo_succ hx x0 (by simp [kindAt, List.getD, hx3]))
     have Hx := Lib.hid hx
     have hb2 := hS _ hab2
     have hb3 := hS _ hab3
     obtain ⟨y0, y1, y2, y3⟩ := blkS4 HXr.out
     clear hx hx3 hro hom e1 e2
     go_wp2_with fail
     refine wp_region_lexC (by kernel_rfl) (by kernel_rfl) (fun x => Below wr.heap.size wr x) ((Below.refl _ _).drew) (fun lexNE => ?_)
     obtain ⟨cm0, cm1, cm2, cm3⟩ := bwS4 HXr.out HXr.out.lt
     have ci := wcell (B := wr.heap.size) t0 (by rw [block_of_add]; omega)
     have cs := wcell (B := wr.heap.size) e0 (by rw [block_of_add]; omega)
     (repeat (first | (refine lex_r fun K hK => ?_; go_big_quiet_op; refine hK _ ?_; clear hK K) | (refine lex_k fun K hK => ?_; go_simp; refine hK _ ?_; clear hK K)))
     (refine lex_nil ?_)
     clear lexNE cm0 cm1 cm2 cm3 ci cs
     by_cases h3 : x0 = 3
     ·subst h3
      go_wp2_with fail
      go_roundw
      case rel => exact ⟨i + 1, by omega, by go_num, by rw [Hs.out, if_pos rfl, List.append_nil, ← HL.out], by rw [Hs.out, if_pos rfl, List.append_nil, ← HL.out]; exact Hown.out, Ho.out.drew⟩
      case measure => simp [intOf]; omega
     ·have q3 : ((x0 : Int) != 3) = true := by simpa using h3
      have H3 := Lib.hid h3
      have hc := (own_drew Hown.out).cellAt s (by omega)
      rw [bools_get, opnL_get (by have := Hn.out.1; omega)] at hc
      have hfz := (own_drew Hown.out).frozenAt s
      simp only [Option.map_some] at hc
      clear h3
      go_wp2_with fail
      go_roundw
      case rel =>
       refine ⟨i + 1, by omega, by go_num, by rw [Hs.out, if_neg H3.out, ← HL.out, List.length_append]; go_num, ?_, ?_⟩
       ·rw [Hs.out, if_neg H3.out, ← HL.out, ← opnL_snoc Hx.out rfl, ← bools_set]
        exact ((own_drew Hown.out).stored s (.bool true)).1
       ·exact Ho.out.drew.setCell (p := ⟨w1.heap.size, s, none⟩) (.inl rfl) _
      case measure => simp [intOf]; omega
    ·have hge : (na : Int) ≤ (i : Int) := by omega
     have hin : i = na := by omega
     have HT := Lib.hid (show L = todo0 m by unfold todo0; rw [HL.out, List.take_of_length_le (by rw [Hn.out.2.1]; omega)])
     clear hin
     have hHT := HT.out
     subst hHT
     obtain ⟨y0, y1, y2, y3⟩ := blkS4 HXr.out
     go_wp2_with fail
     clear y0 y1 y2 y3
     have HE4 := Lib.hid (own_keep HE3.out (fun g hg => Ho.out.block g (by have := (HE3.out.lt g hg).2; exact this) (fun hc => by have hg : w.heap.size + 1 = g := (by injection hg); have hc : g = w1.heap.size := hc; omega)))
     go_loopw [4, 6, 8, 9] (fun ov lv _ _ wr => ∃ (todo out : List Nat), Hid (EvoI m todo out) ∧ lv = .int .i64 (todo.length : Nat) ∧ wr.ownsRow w1.heap.size 4 1 (.slice (some ⟨w1.heap.size, 0, none⟩) ns ns) ns (bools (opnL m todo)) ∧ wr.ownsRow (w.heap.size + 1) 3 1 ov out.length (ints (nI out)) ∧ ov.ownBlock ≠ some w1.heap.size ∧ Below (w.heap.size + 1) WB wr) (fun _ lv _ _ _ => (intOf lv).toNat)
     case atStart => exact ⟨todo0 m, [], Lib.hid (EvoI.start Hok.out), rfl, Hown.out, HE4.out, (fun hc => by have hc : w.heap.size + 1 = w1.heap.size := (by injection hc); omega), Hb.out⟩
     case round =>
      clear Hown Ho hsz Hb Hbw HXr HT HL hll hge HE4 HO2 HE3 HE2 HE1
      obtain ⟨todo, out, HI, rfl, hown1, hown2, hdis, hb⟩ := hrel
      obtain ⟨wo, hwo⟩ : ∃ wo, wo = wr := ⟨_, rfl⟩
      subst hwo
      have Hbo := Lib.hid hb
      have hszo := hb.size
      have HXo := Lib.hid (HXB.out.below hb (by omega))
      have hlen := HI.out.len
      obtain ⟨nt, hnt⟩ : ∃ nt, todo.length = nt := ⟨_, rfl⟩
      obtain ⟨no, hno⟩ : ∃ no, out.length = no := ⟨_, rfl⟩
      rw [hnt] at hlen ⊢
      rw [hno] at hown2 hlen
      obtain ⟨Ao, co, rfl, _, _, _⟩ := own_form hown2
      have HO1 := Lib.hid hown1
      have HO2 := Lib.hid hown2
      have HD := Lib.hid hdis
      have Hnt := Lib.hid hnt
      have Hno := Lib.hid hno
      have hw1o := (hown1.lt _ rfl).2
      clear hb hown1 hown2 hdis hnt hno
      by_cases h0 : nt = 0
      ·subst h0
       have HE := Lib.hid (ord_some Hok.out (show evoM m = some out by
        have h1 := HI.out
        rw [List.eq_nil_of_length_eq_zero Hnt.out] at h1
        exact h1.stop))
       go_wp2_with fail
       go_ret2
       refine ⟨_, ret_tup2 HE.out.1, ?_, HBB.out.trans (Hbo.out.mono (by omega))⟩
       rw [HE.out.2]
       have hO := HO2.out
       exact sep_ints (by unfold maxLen; omega) hO (fun g hg => ⟨by have := (hO.lt g hg).1; omega, (hO.lt g hg).2⟩)
      ·have hp0 : (0 : Int) < (nt : Int) := by omega
       go_wp2_with fail
       try simp only [decide_eq_true (show 0 < nt by omega)]
       go_loopw [8, 9] (fun nv iv wr => ∃ i : Nat, i ≤ na ∧ iv = .int .i64 i ∧ ((nv = .int .i64 (-1) ∧ Hid (∀ j, j < i → j ∈ todo → freeB m todo j = false)) ∨ (∃ q : Nat, nv = .int .i64 (q : Int) ∧ q < na ∧ Hid (q ∈ todo ∧ freeB m todo q = true ∧ ∀ j, j < q → j ∈ todo → freeB m todo j = false))) ∧ Below wo.heap.size wo wr) (fun _ iv _ => na - (intOf iv).toNat)
       case atStart => exact ⟨0, Nat.zero_le _, rfl, .inl ⟨rfl, Lib.hid (fun j hj => absurd hj (Nat.not_lt_zero _))⟩, Below.refl _ _⟩
       case round =>
        obtain ⟨i, hia, rfl, hnv, hb⟩ := hrel
        have Hb := Lib.hid hb
        have hsz := hb.size
        have Hbm := Lib.hid (Hbo.out.trans (hb.mono (by omega)))
        have Hbw := Lib.hid (HBB.out.trans (Hbm.out.mono (by omega)))
        have HXr := Lib.hid (HXo.out.below hb HXo.out.lt)
        clear hb
        obtain ⟨y0, y1, y2, y3⟩ := blkS4 HXr.out
        have g1 : (0 : Int) ≤ (i : Int) := by omega
        rcases hnv with ⟨rfl, Hnf⟩ | ⟨q, rfl, hqn, Hq⟩
        ·by_cases hlt : i < na
         ·have g2 : (i : Int) < (na : Int) := by omega
          obtain ⟨ad2, a, os, A1', c1', rfl, hab2, hx, hro, hom, t0, t1⟩ := asg_row (HAs.out.under hS Hbw.out) hlt
          obtain ⟨s, rfl, hsn, ho15, hsg⟩ := okE_asg Hok.out hx
          rw [Hn.out.1] at hsn hsg
          have g3 : (0 : Int) ≤ (s : Int) := by omega
          have g4 : (s : Int) < (ns : Int) := by omega
          have HO1r := Lib.hid (own_below HO1.out Hb.out (Nat.le_refl _))
          obtain ⟨bv, hbv, tb⟩ := own_bool_at HO1r.out hsn
          rw [opnL_get (by have := Hn.out.1; omega), opn_mem Hok.out HI.out.mem hx rfl] at hbv
          injection hbv with hbv
          by_cases hit : i ∈ todo
          ·rw [decide_eq_true hit] at hbv
           subst hbv
           have Hw := Lib.hid (show waitsB' (fun s => (opnL m todo).getD s false) os = !freeB m todo i by
            rw [← waits_free Hok.out HI.out.mem hx]
            exact waits_cong hsg (fun s hs => by simp [List.getD, opnL_get (m := m) (todo := todo) (s := s) (by have := Hn.out.1; omega)]))
           have Hit := Lib.hid hit
           have Hro := Lib.hid hro
           have Hsg := Lib.hid hsg
           clear hit hx hro hsg
           go_wp2_with fail
           refine (s_l06Waits (os := os) (L := opnL m todo) Hro.out hom (fun b hb => by have := hS b hb; omega) (Reads.of_own HO1r.out) Hsg.out).mono ?_
           rintro e w8 ⟨rfl, hb8⟩
           rw [Hw.out]
           have Hb8 := Lib.hid (Hb.out.trans (hb8.mono hsz))
           clear hb8 y0 y1 y2 y3 t0 t1 tb
           cases hq : freeB m todo i with
           | true =>
            have Hq := Lib.hid hq
            clear hq
            go_wp2_with fail
            go_roundw
            case rel => exact ⟨i + 1, by omega, by go_num, .inr ⟨i, rfl, hlt, Lib.hid ⟨Hit.out, Hq.out, Hnf.out⟩⟩, Hb8.out⟩
            case measure => simp [intOf]; omega
           | false =>
            have Hq := Lib.hid hq
            clear hq
            go_wp2_with fail
            go_roundw
            case rel => exact ⟨i + 1, by omega, by go_num, .inl ⟨rfl, Lib.hid (lt_succ_case (P := fun j => j ∈ todo → freeB m todo j = false) Hnf.out (fun _ => Hq.out))⟩, Hb8.out⟩
            case measure => simp [intOf]; omega
          ·rw [decide_eq_false hit] at hbv
           subst hbv
           have Hit := Lib.hid hit
           clear hit hx hro hsg
           go_wp2_with fail
           go_roundw
           case rel => exact ⟨i + 1, by omega, by go_num, .inl ⟨rfl, Lib.hid (lt_succ_case (P := fun j => j ∈ todo → freeB m todo j = false) Hnf.out (fun hm => absurd hm Hit.out))⟩, Hb.out⟩
           case measure => simp [intOf]; omega
         ·have hge : (na : Int) ≤ (i : Int) := by omega
          have HE := Lib.hid (ord_none (HI.out.fail (by have := Hnt.out; omega) (next_none (N := i) (fun j hj => by obtain ⟨a, ha⟩ := HI.out.mem j hj; have := (List.getElem?_eq_some_iff.1 ha).1; have := Hn.out.2.1; omega) Hnf.out)))
          go_wp2_with fail
          go_ret2
          refine ⟨_, ret_tup2 HE.out.1, ?_, Hbw.out.alloc (by have := Hbw.out.size; omega) _⟩
          rw [HE.out.2]
          have hO := World.ownsRow_made (base := wr.heap.size) (size := 1) (e := 3) wr #[] 0 (Nat.le_refl _) (by unfold maxLen; omega) rfl
          exact sep_ints (by unfold maxLen; omega) hO (fun g hg => ⟨by have := (hO.lt g hg).1; have := Hbw.out.size; omega, (hO.lt g hg).2⟩)
        ·have HO1r := Lib.hid (own_below HO1.out Hb.out (Nat.le_refl _))
         have HO2r := Lib.hid (own_below HO2.out Hb.out (Nat.le_refl _))
         by_cases hlt : i < na
         ·have g2 : (i : Int) < (na : Int) := by omega
          go_wp2_with (at_builtin; refine wpList_append_any _ rfl _ _ 47 rfl (w.heap.size + 1) 3 i0 (.int .i64 0) 1 8 Try.underlying47 hi hz0 hz1 hz2 rfl (by decide) _ _ _ rfl (HO2r.out.alloc _) _ _ 1 1 _ rfl (reads_new _ _ 1 1 rfl) (by intro u hu; simp at hu; first | (subst hu; rfl) | (rcases hu with rfl | rfl <;> rfl) | (rcases hu with rfl | rfl | rfl <;> rfl)) (by unfold maxLen; omega) (by omega) (by (try simp) <;> (try omega)) ?_; intro v7 w7 hown7 hgrow7 hblk7; refine stopX ?_)
          refine stopped ?_
          have hb7 := Lib.hid (below_push Hbm.out HO2r.out (Nat.le_refl _) (by omega) hgrow7)
          have HT7 := Lib.hid (own_keep (w' := w7) (HO1r.out.alloc (.cells #[.int .i64 (q : Int)] 3)) (fun g hg => hgrow7.block g (by have hg : w1.heap.size = g := (by injection hg); subst hg; simp; omega) (by have hg : w1.heap.size = g := (by injection hg); subst hg; exact fun e => HD.out e.symm)))
          have hdj : v7.ownBlock ≠ some w1.heap.size := by
           rcases hblk7 with h1 | h1
           ·rw [h1]; exact HD.out
           ·rw [h1]; intro hc; have hc : (wr.alloc (.cells #[.int .i64 (q : Int)] 3)).heap.size = w1.heap.size := (by injection hc); simp at hc; omega
          have Hdj := Lib.hid hdj
          obtain ⟨A7, c7, rfl, _, _, _⟩ := own_form hown7
          have Hown7 := Lib.hid hown7
          have Hbw7 := Lib.hid (HBB.out.trans (hb7.out.mono (by omega)))
          have z7 := hb7.out.size
          clear hown7 hgrow7 hblk7 hdj
          obtain ⟨y0, y1, y2, y3⟩ := blkS4 (HXB.out.below hb7.out (by omega))
          obtain ⟨ad2, a, os, A1', c1', rfl, hab2, hx, hro, hom, t0, t1⟩ := asg_row (HAs.out.under hS Hbw7.out) hqn
          obtain ⟨s, rfl, hsn, ho15, hsg⟩ := okE_asg Hok.out hx
          rw [Hn.out.1] at hsn
          have g3 : (0 : Int) ≤ (s : Int) := by omega
          have g4 : (s : Int) < (ns : Int) := by omega
          have g5 : (0 : Int) ≤ (q : Int) := by omega
          have g6 : (q : Int) < (na : Int) := by omega
          have hc := HT7.out.cellAt s (by omega)
          rw [bools_get, opnL_get (by have := Hn.out.1; omega)] at hc
          have hfz := HT7.out.frozenAt s
          simp only [Option.map_some] at hc
          obtain ⟨k, hfk, htk⟩ := next_some HI.out.srt Hq.out.1 Hq.out.2.1 Hq.out.2.2
          have Hs := Lib.hid (opnL_erase Hok.out HI.out.mem HI.out.srt htk hx rfl)
          have HF := Lib.hid (HI.out.step hfk htk)
          have Hel := Lib.hid (show (todo.eraseIdx k).length = nt - 1 by rw [List.length_eraseIdx, if_pos (List.getElem?_eq_some_iff.1 htk).1, Hnt.out])
          clear hfk htk hx hro hom hsg
          go_wp2_with fail
          go_roundw
          case rel =>
           refine ⟨todo.eraseIdx k, out ++ [q], HF, by rw [Hel.out]; go_num, ?_, ?_, Hdj.out, ?_⟩
           ·rw [← Hs.out, ← bools_set]
            exact (HT7.out.stored s (.bool false)).1
           ·rw [List.length_append, nI_app, ints_app, Hno.out]
            exact own_keep Hown7.out (fun g hg => Below.heap_setCell w7 ⟨w1.heap.size, s, none⟩ _ g (fun e => Hdj.out (by rw [hg]; exact congrArg some e)))
           ·exact hb7.out.setCell (p := ⟨w1.heap.size, s, none⟩) (by show _ ≤ w1.heap.size; omega) _
          case measure => simp [intOf]; omega
         ·have g2 : (na : Int) ≤ (i : Int) := by omega
          go_wp2_with (at_builtin; refine wpList_append_any _ rfl _ _ 47 rfl (w.heap.size + 1) 3 i0 (.int .i64 0) 1 8 Try.underlying47 hi hz0 hz1 hz2 rfl (by decide) _ _ _ rfl (HO2r.out.alloc _) _ _ 1 1 _ rfl (reads_new _ _ 1 1 rfl) (by intro u hu; simp at hu; first | (subst hu; rfl) | (rcases hu with rfl | rfl <;> rfl) | (rcases hu with rfl | rfl | rfl <;> rfl)) (by unfold maxLen; omega) (by omega) (by (try simp) <;> (try omega)) ?_; intro v7 w7 hown7 hgrow7 hblk7; refine stopX ?_)
          refine stopped ?_
          have hb7 := Lib.hid (below_push Hbm.out HO2r.out (Nat.le_refl _) (by omega) hgrow7)
          have HT7 := Lib.hid (own_keep (w' := w7) (HO1r.out.alloc (.cells #[.int .i64 (q : Int)] 3)) (fun g hg => hgrow7.block g (by have hg : w1.heap.size = g := (by injection hg); subst hg; simp; omega) (by have hg : w1.heap.size = g := (by injection hg); subst hg; exact fun e => HD.out e.symm)))
          have hdj : v7.ownBlock ≠ some w1.heap.size := by
           rcases hblk7 with h1 | h1
           ·rw [h1]; exact HD.out
           ·rw [h1]; intro hc; have hc : (wr.alloc (.cells #[.int .i64 (q : Int)] 3)).heap.size = w1.heap.size := (by injection hc); simp at hc; omega
          have Hdj := Lib.hid hdj
          obtain ⟨A7, c7, rfl, _, _, _⟩ := own_form hown7
          have Hown7 := Lib.hid hown7
          have Hbw7 := Lib.hid (HBB.out.trans (hb7.out.mono (by omega)))
          have z7 := hb7.out.size
          clear hown7 hgrow7 hblk7 hdj
          obtain ⟨y0, y1, y2, y3⟩ := blkS4 (HXB.out.below hb7.out (by omega))
          obtain ⟨ad2, a, os, A1', c1', rfl, hab2, hx, hro, hom, t0, t1⟩ := asg_row (HAs.out.under hS Hbw7.out) hqn
          obtain ⟨s, rfl, hsn, ho15, hsg⟩ := okE_asg Hok.out hx
          rw [Hn.out.1] at hsn
          have g3 : (0 : Int) ≤ (s : Int) := by omega
          have g4 : (s : Int) < (ns : Int) := by omega
          have g5 : (0 : Int) ≤ (q : Int) := by omega
          have g6 : (q : Int) < (na : Int) := by omega
          have hc := HT7.out.cellAt s (by omega)
          rw [bools_get, opnL_get (by have := Hn.out.1; omega)] at hc
          have hfz := HT7.out.frozenAt s
          simp only [Option.map_some] at hc
          obtain ⟨k, hfk, htk⟩ := next_some HI.out.srt Hq.out.1 Hq.out.2.1 Hq.out.2.2
          have Hs := Lib.hid (opnL_erase Hok.out HI.out.mem HI.out.srt htk hx rfl)
          have HF := Lib.hid (HI.out.step hfk htk)
          have Hel := Lib.hid (show (todo.eraseIdx k).length = nt - 1 by rw [List.length_eraseIdx, if_pos (List.getElem?_eq_some_iff.1 htk).1, Hnt.out])
          clear hfk htk hx hro hom hsg
          go_wp2_with fail
          go_roundw
          case rel =>
           refine ⟨todo.eraseIdx k, out ++ [q], HF, by rw [Hel.out]; go_num, ?_, ?_, Hdj.out, ?_⟩
           ·rw [← Hs.out, ← bools_set]
            exact (HT7.out.stored s (.bool false)).1
           ·rw [List.length_append, nI_app, ints_app, Hno.out]
            exact own_keep Hown7.out (fun g hg => Below.heap_setCell w7 ⟨w1.heap.size, s, none⟩ _ g (fun e => Hdj.out (by rw [hg]; exact congrArg some e)))
           ·exact hb7.out.setCell (p := ⟨w1.heap.size, s, none⟩) (by show _ ≤ w1.heap.size; omega) _
          case measure => simp [intOf]; omega
end Go.Proofs.Ytlgbdpcobbbglaa

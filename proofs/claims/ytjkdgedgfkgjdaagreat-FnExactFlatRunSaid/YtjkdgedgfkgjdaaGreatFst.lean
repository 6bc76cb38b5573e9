/- Contracts: the first state of a flat module: the program's and the reference's functions. -/
import Derived.Test.YtjkdgedgfkgjdaaGreatOrd
import Derived.Test.YtjkdgedgfkgjdaaGreatWskS
import Derived.Deep.Cut
import Derived.Outline
namespace Go.Proofs.YtjkdgedgfkgjdaaGreat
open Go.RowKit

def iniV (x : TSignal) : Nat := if x.1 = 3 then x.2.2.toNat &&& mskN x.2.1 else 0
/-- the values at the start -/
def startV (m : TModule) : List Nat := m.1.map iniV
def startK (m : TModule) (k : Nat) : List Nat := (m.1.take k).map iniV ++ List.replicate (m.1.length - k) 0
def startN (m : TModule) : TWordState := (nI (startV m), List.replicate (4 * m.2.2.2.length) 0)
def startS (m : TModule) : TWordState := if flatB m then startN m else ([], [])
theorem startK_len (m : TModule) {k : Nat} (h : k ≤ m.1.length) : (startK m k).length = m.1.length := by simp [startK]; omega
theorem startK_zero (m : TModule) : nI (startK m 0) = List.replicate m.1.length 0 := by simp [startK, nI]
theorem startK_end (m : TModule) : startK m m.1.length = startV m := by simp [startK, startV]
theorem startK_set {m : TModule} {k : Nat} {x : TSignal} (h : m.1[k]? = some x) : (startK m k).set k (iniV x) = startK m (k + 1) := by
 have hk := (List.getElem?_eq_some_iff.1 h).1
 unfold startK
 have hl : ((m.1.take k).map iniV).length = k := by simp; omega
 rw [List.set_append_right _ _ (by omega), hl, Nat.sub_self, List.take_add_one, h]
 obtain ⟨n, hn⟩ : ∃ n, m.1.length - k = n + 1 := ⟨m.1.length - k - 1, by omega⟩
 rw [hn, show m.1.length - (k + 1) = n by omega]
 simp [List.replicate_succ]
theorem startK_same {m : TModule} {k : Nat} {x : TSignal} (h : m.1[k]? = some x) (h0 : iniV x = 0) : startK m k = startK m (k + 1) := by
 rw [← startK_set h, h0]
 have hk := (List.getElem?_eq_some_iff.1 h).1
 have hl : ((m.1.take k).map iniV).length = k := by simp; omega
 apply List.ext_getElem?
 intro j
 rw [List.getElem?_set]
 by_cases hj : k = j
 ·subst hj
  rw [if_pos rfl, if_pos (by rw [startK_len m (by omega)]; exact hk)]
  unfold startK
  rw [List.getElem?_append_right (by omega), hl, Nat.sub_self]
  rw [List.getElem?_replicate, if_pos (by omega)]
 ·rw [if_neg hj]

theorem own_zeros {W : World} {g n : Nat} (hm : n ≤ maxLen) (hb : Blk W g 3 (madeCells #[.int .i64 0] n)) : W.ownsRow 0 3 1 (.slice (some ⟨g, 0, none⟩) n n) n (ints (List.replicate n 0)) := by
 have h1 := own_blk (n := n) (size := 1) hb hm (by simp [size_madeCells])
 rw [made_ints] at h1
 exact h1
theorem blk_two {W : World} {g : Nat} {t : TypeId} {a b a' b' : Value} (hb : Blk W g t #[a, b]) : Blk ((W.setCell ⟨g, 0, none⟩ a').setCell ⟨g, 1, none⟩ b') g t #[a', b'] := (hb.set_ 0 a').set_ 1 b'
/-- behind the makes: two rows of zeros and the state's block -/
def StartI (W0 wc : World) (ns nm gb g1 g2 : Nat) : Prop :=
 wc.ownsRow 0 3 1 (.slice (some ⟨g1, 0, none⟩) ns ns) ns (ints (List.replicate ns 0)) ∧ wc.ownsRow 0 3 1 (.slice (some ⟨g2, 0, none⟩) (4 * nm) (4 * nm)) (4 * nm) (ints (List.replicate (4 * nm) 0)) ∧
 Blk wc gb 52 #[.slice (some ⟨g1, 0, none⟩) ns ns, .slice (some ⟨g2, 0, none⟩) (4 * nm) (4 * nm)] ∧ (g1 ≠ g2 ∧ gb ≠ g1 ∧ gb ≠ g2) ∧ (W0.heap.size ≤ gb ∧ W0.heap.size ≤ g1 ∧ W0.heap.size ≤ g2) ∧ Below W0.heap.size W0 wc
set_option maxRecDepth 100000 in
set_option maxHeartbeats 8000000 in
theorem i_flatStart {w : World} {S : Nat → Prop} {v : Value} {m : TModule} (hf : flatB m = true) (h : RModule w S v m) (hS : ∀ b, S b → b < w.heap.size) :
  Calls Tryz.prog 55 #[v] w fun e w' => ∃ v', e = .returned v' ∧ QWordState w' (New w w') v' (startN m) ∧ Below w.heap.size w w' := by
 obtain ⟨i0, hi, hz0, hz1, hz2⟩ := info_parts Tryz.infoIntC
 have hok := (flat_ok hf).1
 obtain ⟨hn30, hna30, hnm2⟩ := okE_na hok
 obtain ⟨A0, c0, A1, c1, A2, c2, A3, c3, rfl, hSg, hAs, -, hMe, hm0, hm1, hm2, hm3⟩ := mod_open h
 obtain ⟨ns, hns⟩ : ∃ ns, m.1.length = ns := ⟨_, rfl⟩
 obtain ⟨na, hna⟩ : ∃ na, m.2.1.length = na := ⟨_, rfl⟩
 obtain ⟨ni, hni⟩ : ∃ ni, m.2.2.1.length = ni := ⟨_, rfl⟩
 obtain ⟨nm, hnm⟩ : ∃ nm, m.2.2.2.length = nm := ⟨_, rfl⟩
 rw [hns, hna, hni, hnm] at h ⊢
 rw [hns] at hSg hm0
 rw [hna] at hAs hm1
 rw [hni] at hm2
 rw [hnm] at hMe hm3
 unfold maxLen at hm0 hm1 hm2 hm3
 have Hn := Lib.hid (And.intro hns (And.intro hna (And.intro hni hnm)))
 have H := Lib.hid h
 have HSg := Lib.hid hSg
 have HAs := Lib.hid hAs
 have HMe := Lib.hid hMe
 have HB0 := Lib.hid ((Below.refl w.heap.size w).alloc (Nat.le_refl _) (.cells #[.slice A0 ns c0, .slice A1 na c1, .slice A2 ni c2, .slice A3 nm c3] 37))
 have HX0 := Lib.hid (Blk.new w 37 #[.slice A0 ns c0, .slice A1 na c1, .slice A2 ni c2, .slice A3 nm c3])
 clear hns hna hnm hni h hSg hAs hMe
 rw [Hn.out.1] at hn30
 rw [Hn.out.2.2.2] at hnm2
 have hcs : (Value.int .i64 0).cells = #[.int .i64 0] := rfl
 have hmk1 := fun W => run_make_rowN (P := Tryz.prog) 49 3 i0 (.int .i64 0) Tryz.underlying49 hi hz0 .i64 .i64 ns ns (Nat.le_refl _) (by rw [hz2]; omega) (by omega) W
 have hmk2 := fun W => run_make_rowN (P := Tryz.prog) 49 3 i0 (.int .i64 0) Tryz.underlying49 hi hz0 .i64 .i64 (4 * nm) (4 * nm) (Nat.le_refl _) (by rw [hz2]; omega) (by omega) W
 simp only [hz1, hcs, Nat.mul_one] at hmk1 hmk2
 rw [show ((4 * nm : Nat) : Int) = 4 * (nm : Int) by push_cast; rfl] at hmk2
 clear hcs
 obtain ⟨W0, hW0⟩ : ∃ W0, W0 = (w.alloc (.cells #[.slice A0 ns c0, .slice A1 na c1, .slice A2 ni c2, .slice A3 nm c3] 37)).alloc (.cells #[.slice none 0 0, .slice none 0 0] 52) := ⟨_, rfl⟩
 have hz0' : W0.heap.size = w.heap.size + 1 + 1 := by rw [hW0]; simp
 have HBW0 := Lib.hid (show Below w.heap.size w W0 by rw [hW0]; exact HB0.out.alloc (by simp) _)
 have HXM0 := Lib.hid (show Blk W0 w.heap.size 37 #[.slice A0 ns c0, .slice A1 na c1, .slice A2 ni c2, .slice A3 nm c3] by rw [hW0]; exact HX0.out.alloc _)
 have HXR0 := Lib.hid (show Blk W0 (w.heap.size + 1) 52 #[.slice none 0 0, .slice none 0 0] by rw [hW0]; exact blk_new_at (by simp))
 have HW0 := Lib.hid hW0
 have HZ0 := Lib.hid hz0'
 clear hW0 hz0'
 go_enter Tryz.func55, Tryz.ntmps55
 go_wp2_with fail
 rw [← HW0.out]
 go_cut [3] from 6 (fun pv wc => ∃ gb g1 g2 : Nat, pv = .pointer (some ⟨gb, 0, none⟩) ∧ StartI W0 wc ns nm gb g1 g2)
 case first =>
  refine wp_region_tree (.node 3 8 (.node 3 10 (.node 8 10 (.leaf [0, 1, 2, 3, 4, 5, 6, 7, 8, 10, 9, 11]) (.leaf [0, 1, 2, 3, 10, 4, 5, 6, 7, 8, 9, 11])) (.leaf [10, 0, 1, 2, 3, 4, 5, 6, 7, 8, 9, 11])) (.node 3 10 (.leaf [4, 5, 6, 7, 8, 0, 1, 2, 3, 10, 9, 11]) (.node 8 10 (.leaf [4, 5, 6, 7, 8, 10, 0, 1, 2, 3, 9, 11]) (.leaf [10, 4, 5, 6, 7, 8, 0, 1, 2, 3, 9, 11])))) (by kernel_rfl) (by kernel_rfl) (fun x => Below W0.heap.size W0 x) ((Below.refl _ _).drew) (fun lexNE => ?_)
  simp only [OrdT.orders, List.cons_append, List.nil_append, AllL, ordOps, List.filterMap_cons, List.filterMap_nil, List.getElem?_cons_zero, List.getElem?_cons_succ, and_true]
  refine ⟨?_, ?_, ?_, ?_, ?_, ?_⟩
  all_goals obtain ⟨cm0, cm1, cm2, cm3⟩ := bwS4 HXM0.out HXM0.out.lt
  ·(repeat (first | (refine lex_r fun K hK => ?_; go_big_quiet_op; refine hK _ ?_; clear hK K) | (refine lex_k fun K hK => ?_; go_simp; refine hK _ ?_; clear hK K)))
   (refine lex_e fun K hK => ?_; go_big_op)
   (refine hK _ _ (Cls.mk' bel_) ?_; clear hK K)
   (repeat (first | (refine lex_r fun K hK => ?_; go_big_quiet_op; refine hK _ ?_; clear hK K) | (refine lex_k fun K hK => ?_; go_simp; refine hK _ ?_; clear hK K)))
   (refine lex_e fun K hK => ?_; go_big_op)
   (refine hK _ _ (Cls.mk' bel_) ?_; clear hK K)
   (repeat (first | (refine lex_r fun K hK => ?_; go_big_quiet_op; refine hK _ ?_; clear hK K) | (refine lex_k fun K hK => ?_; go_simp; refine hK _ ?_; clear hK K)))
   (refine lex_e fun K hK => ?_; go_big_op)
   (refine hK _ _ (Cls.mk' bel_) ?_; clear hK K)
   (repeat (first | (refine lex_r fun K hK => ?_; go_big_quiet_op; refine hK _ ?_; clear hK K) | (refine lex_k fun K hK => ?_; go_simp; refine hK _ ?_; clear hK K)))
   (refine lex_e fun K hK => ?_; go_big_op)
   (refine hK _ _ (Cls.mk' bel_) ?_; clear hK K)
   (refine lex_nil ?_)
   clear lexNE cm0 cm1 cm2 cm3
   refine ⟨Cls.mk' bel_, ?_⟩
   go_wp2_with fail
   go_meet
   case rel =>
    refine ⟨W0.heap.size + 1 + 1, W0.heap.size, W0.heap.size + 1, rfl, ?_, ?_, ?_, by omega, by omega, bel_⟩
    ·exact own_zeros (by unfold maxLen; omega) blk_
    ·exact own_zeros (by unfold maxLen; omega) blk_
    ·first
     | exact blk_
     | exact blk_two blk_
  ·(repeat (first | (refine lex_r fun K hK => ?_; go_big_quiet_op; refine hK _ ?_; clear hK K) | (refine lex_k fun K hK => ?_; go_simp; refine hK _ ?_; clear hK K)))
   (refine lex_e fun K hK => ?_; go_big_op)
   (refine hK _ _ (Cls.mk' bel_) ?_; clear hK K)
   (repeat (first | (refine lex_r fun K hK => ?_; go_big_quiet_op; refine hK _ ?_; clear hK K) | (refine lex_k fun K hK => ?_; go_simp; refine hK _ ?_; clear hK K)))
   (refine lex_e fun K hK => ?_; go_big_op)
   (refine hK _ _ (Cls.mk' bel_) ?_; clear hK K)
   (repeat (first | (refine lex_r fun K hK => ?_; go_big_quiet_op; refine hK _ ?_; clear hK K) | (refine lex_k fun K hK => ?_; go_simp; refine hK _ ?_; clear hK K)))
   (refine lex_e fun K hK => ?_; go_big_op)
   (refine hK _ _ (Cls.mk' bel_) ?_; clear hK K)
   (repeat (first | (refine lex_r fun K hK => ?_; go_big_quiet_op; refine hK _ ?_; clear hK K) | (refine lex_k fun K hK => ?_; go_simp; refine hK _ ?_; clear hK K)))
   (refine lex_e fun K hK => ?_; go_big_op)
   (refine hK _ _ (Cls.mk' bel_) ?_; clear hK K)
   (refine lex_nil ?_)
   clear lexNE cm0 cm1 cm2 cm3
   refine ⟨Cls.mk' bel_, ?_⟩
   go_wp2_with fail
   go_meet
   case rel =>
    refine ⟨W0.heap.size + 1, W0.heap.size, W0.heap.size + 1 + 1, rfl, ?_, ?_, ?_, by omega, by omega, bel_⟩
    ·exact own_zeros (by unfold maxLen; omega) blk_
    ·exact own_zeros (by unfold maxLen; omega) blk_
    ·first
     | exact blk_
     | exact blk_two blk_
  ·(repeat (first | (refine lex_r fun K hK => ?_; go_big_quiet_op; refine hK _ ?_; clear hK K) | (refine lex_k fun K hK => ?_; go_simp; refine hK _ ?_; clear hK K)))
   (refine lex_e fun K hK => ?_; go_big_op)
   (refine hK _ _ (Cls.mk' bel_) ?_; clear hK K)
   (repeat (first | (refine lex_r fun K hK => ?_; go_big_quiet_op; refine hK _ ?_; clear hK K) | (refine lex_k fun K hK => ?_; go_simp; refine hK _ ?_; clear hK K)))
   (refine lex_e fun K hK => ?_; go_big_op)
   (refine hK _ _ (Cls.mk' bel_) ?_; clear hK K)
   (repeat (first | (refine lex_r fun K hK => ?_; go_big_quiet_op; refine hK _ ?_; clear hK K) | (refine lex_k fun K hK => ?_; go_simp; refine hK _ ?_; clear hK K)))
   (refine lex_e fun K hK => ?_; go_big_op)
   (refine hK _ _ (Cls.mk' bel_) ?_; clear hK K)
   (repeat (first | (refine lex_r fun K hK => ?_; go_big_quiet_op; refine hK _ ?_; clear hK K) | (refine lex_k fun K hK => ?_; go_simp; refine hK _ ?_; clear hK K)))
   (refine lex_e fun K hK => ?_; go_big_op)
   (refine hK _ _ (Cls.mk' bel_) ?_; clear hK K)
   (refine lex_nil ?_)
   clear lexNE cm0 cm1 cm2 cm3
   refine ⟨Cls.mk' bel_, ?_⟩
   go_wp2_with fail
   go_meet
   case rel =>
    refine ⟨W0.heap.size, W0.heap.size + 1, W0.heap.size + 1 + 1, rfl, ?_, ?_, ?_, by omega, by omega, bel_⟩
    ·exact own_zeros (by unfold maxLen; omega) blk_
    ·exact own_zeros (by unfold maxLen; omega) blk_
    ·first
     | exact blk_
     | exact blk_two blk_
  ·(repeat (first | (refine lex_r fun K hK => ?_; go_big_quiet_op; refine hK _ ?_; clear hK K) | (refine lex_k fun K hK => ?_; go_simp; refine hK _ ?_; clear hK K)))
   (refine lex_e fun K hK => ?_; go_big_op)
   (refine hK _ _ (Cls.mk' bel_) ?_; clear hK K)
   (repeat (first | (refine lex_r fun K hK => ?_; go_big_quiet_op; refine hK _ ?_; clear hK K) | (refine lex_k fun K hK => ?_; go_simp; refine hK _ ?_; clear hK K)))
   (refine lex_e fun K hK => ?_; go_big_op)
   (refine hK _ _ (Cls.mk' bel_) ?_; clear hK K)
   (repeat (first | (refine lex_r fun K hK => ?_; go_big_quiet_op; refine hK _ ?_; clear hK K) | (refine lex_k fun K hK => ?_; go_simp; refine hK _ ?_; clear hK K)))
   (refine lex_e fun K hK => ?_; go_big_op)
   (refine hK _ _ (Cls.mk' bel_) ?_; clear hK K)
   (repeat (first | (refine lex_r fun K hK => ?_; go_big_quiet_op; refine hK _ ?_; clear hK K) | (refine lex_k fun K hK => ?_; go_simp; refine hK _ ?_; clear hK K)))
   (refine lex_e fun K hK => ?_; go_big_op)
   (refine hK _ _ (Cls.mk' bel_) ?_; clear hK K)
   (refine lex_nil ?_)
   clear lexNE cm0 cm1 cm2 cm3
   refine ⟨Cls.mk' bel_, ?_⟩
   go_wp2_with fail
   go_meet
   case rel =>
    refine ⟨W0.heap.size + 1 + 1, W0.heap.size + 1, W0.heap.size, rfl, ?_, ?_, ?_, by omega, by omega, bel_⟩
    ·exact own_zeros (by unfold maxLen; omega) blk_
    ·exact own_zeros (by unfold maxLen; omega) blk_
    ·first
     | exact blk_
     | exact blk_two blk_
  ·(repeat (first | (refine lex_r fun K hK => ?_; go_big_quiet_op; refine hK _ ?_; clear hK K) | (refine lex_k fun K hK => ?_; go_simp; refine hK _ ?_; clear hK K)))
   (refine lex_e fun K hK => ?_; go_big_op)
   (refine hK _ _ (Cls.mk' bel_) ?_; clear hK K)
   (repeat (first | (refine lex_r fun K hK => ?_; go_big_quiet_op; refine hK _ ?_; clear hK K) | (refine lex_k fun K hK => ?_; go_simp; refine hK _ ?_; clear hK K)))
   (refine lex_e fun K hK => ?_; go_big_op)
   (refine hK _ _ (Cls.mk' bel_) ?_; clear hK K)
   (repeat (first | (refine lex_r fun K hK => ?_; go_big_quiet_op; refine hK _ ?_; clear hK K) | (refine lex_k fun K hK => ?_; go_simp; refine hK _ ?_; clear hK K)))
   (refine lex_e fun K hK => ?_; go_big_op)
   (refine hK _ _ (Cls.mk' bel_) ?_; clear hK K)
   (repeat (first | (refine lex_r fun K hK => ?_; go_big_quiet_op; refine hK _ ?_; clear hK K) | (refine lex_k fun K hK => ?_; go_simp; refine hK _ ?_; clear hK K)))
   (refine lex_e fun K hK => ?_; go_big_op)
   (refine hK _ _ (Cls.mk' bel_) ?_; clear hK K)
   (refine lex_nil ?_)
   clear lexNE cm0 cm1 cm2 cm3
   refine ⟨Cls.mk' bel_, ?_⟩
   go_wp2_with fail
   go_meet
   case rel =>
    refine ⟨W0.heap.size + 1, W0.heap.size + 1 + 1, W0.heap.size, rfl, ?_, ?_, ?_, by omega, by omega, bel_⟩
    ·exact own_zeros (by unfold maxLen; omega) blk_
    ·exact own_zeros (by unfold maxLen; omega) blk_
    ·first
     | exact blk_
     | exact blk_two blk_
  ·(repeat (first | (refine lex_r fun K hK => ?_; go_big_quiet_op; refine hK _ ?_; clear hK K) | (refine lex_k fun K hK => ?_; go_simp; refine hK _ ?_; clear hK K)))
   (refine lex_e fun K hK => ?_; go_big_op)
   (refine hK _ _ (Cls.mk' bel_) ?_; clear hK K)
   (repeat (first | (refine lex_r fun K hK => ?_; go_big_quiet_op; refine hK _ ?_; clear hK K) | (refine lex_k fun K hK => ?_; go_simp; refine hK _ ?_; clear hK K)))
   (refine lex_e fun K hK => ?_; go_big_op)
   (refine hK _ _ (Cls.mk' bel_) ?_; clear hK K)
   (repeat (first | (refine lex_r fun K hK => ?_; go_big_quiet_op; refine hK _ ?_; clear hK K) | (refine lex_k fun K hK => ?_; go_simp; refine hK _ ?_; clear hK K)))
   (refine lex_e fun K hK => ?_; go_big_op)
   (refine hK _ _ (Cls.mk' bel_) ?_; clear hK K)
   (repeat (first | (refine lex_r fun K hK => ?_; go_big_quiet_op; refine hK _ ?_; clear hK K) | (refine lex_k fun K hK => ?_; go_simp; refine hK _ ?_; clear hK K)))
   (refine lex_e fun K hK => ?_; go_big_op)
   (refine hK _ _ (Cls.mk' bel_) ?_; clear hK K)
   (refine lex_nil ?_)
   clear lexNE cm0 cm1 cm2 cm3
   refine ⟨Cls.mk' bel_, ?_⟩
   go_wp2_with fail
   go_meet
   case rel =>
    refine ⟨W0.heap.size, W0.heap.size + 1 + 1, W0.heap.size + 1, rfl, ?_, ?_, ?_, by omega, by omega, bel_⟩
    ·exact own_zeros (by unfold maxLen; omega) blk_
    ·exact own_zeros (by unfold maxLen; omega) blk_
    ·first
     | exact blk_
     | exact blk_two blk_
 case rest =>
  obtain ⟨gb, g1, g2, rfl, ho1, ho2, hbk, ⟨hd1, hd2, hd3⟩, ⟨hl1, hl2, hl3⟩, hbc⟩ := hcut
  have HX0' := Lib.hid (HXM0.out.below hbc HXM0.out.lt)
  have HR0' := Lib.hid (HXR0.out.below hbc HXR0.out.lt)
  have HO2 := Lib.hid ho2
  have HBc := Lib.hid hbc
  have hsc := hbc.size
  obtain ⟨y0, y1, y2, y3⟩ := blkS4 HX0'.out
  clear hbc ho2
  go_wp2_with fail
  clear y0 y1 y2 y3
  go_loopw [4, 5, 19] (fun _ _ iv wr => ∃ k : Nat, k ≤ ns ∧ iv = .int .i64 k ∧ wr.ownsRow 0 3 1 (.slice (some ⟨g1, 0, none⟩) ns ns) ns (ints (nI (startK m k))) ∧ Only (fun b => b = g1) wc wr) (fun _ _ iv _ => ns - (intOf iv).toNat)
  case atStart => exact ⟨0, Nat.zero_le _, rfl, by rw [startK_zero, Hn.out.1]; exact ho1, Only.refl _ _⟩
  case round =>
   obtain ⟨k, hk, rfl, hown, ho⟩ := hrel
   have Ho := Lib.hid ho
   have Hown := Lib.hid hown
   have hsz := ho.size
   have Hbr := Lib.hid (HBc.out.trans (ho.below (B := W0.heap.size) (by omega) (fun b hb => by omega)))
   have Hbw := Lib.hid (HBW0.out.trans (Hbr.out.mono (by have := HZ0.out; omega)))
   have HXr := Lib.hid (Only.blk ho HX0'.out (by have := HZ0.out; omega))
   have HRr := Lib.hid (Only.blk ho HR0'.out (by have := HZ0.out; omega))
   have HBr := Lib.hid (Only.blk ho hbk (by omega))
   obtain ⟨y0, y1, y2, y3⟩ := blkS4 HXr.out
   obtain ⟨z0, z1⟩ := blkS2 HBr.out
   have g1' : (0 : Int) ≤ (k : Int) := by omega
   clear ho hown
   by_cases hlt : k < ns
   ·obtain ⟨ad, x0, x1, x2, rfl, hab, hx, e0, e1, e2⟩ := fSignalS_row (HSg.out.under hS Hbw.out) hlt
    have g2' : (k : Int) < (ns : Int) := by omega
    have hw4 := flat_wid hf hx
    have hsg := okE_sig hok hx
    simp only at hw4 hsg
    have Hown2 := Lib.hid (Hown.out.alloc (.cells #[.int .i64 x0, .int .i64 x1, .int .i64 x2] 83))
    have Ho2 := Lib.hid (Ho.out.alloc (.cells #[.int .i64 x0, .int .i64 x1, .int .i64 x2] 83))
    by_cases h3 : x0 = 3
    ·subst h3
     obtain ⟨x2n, rfl⟩ := Int.eq_ofNat_of_zero_le hsg.2.2.1.1
     have hM := mskN_is hw4
     have hM15 := mask_le hM
     have hb := and_i64 x2n (mskN x1) (by omega) (by omega)
     have Hs := Lib.hid (startK_set hx)
     have Hiv := Lib.hid (show iniV (3, x1, (x2n : Int)) = x2n &&& mskN x1 by simp [iniV])
     obtain ⟨W1, hW1⟩ : ∃ W1, W1 = wr.alloc (.cells #[.int .i64 3, .int .i64 x1, .int .i64 (x2n : Int)] 83) := ⟨_, rfl⟩
     have HX1 := Lib.hid (show Blk W1 wr.heap.size 83 #[.int .i64 3, .int .i64 x1, .int .i64 (x2n : Int)] by rw [hW1]; exact Blk.new _ _ _)
     have HB1 := Lib.hid (show Blk W1 gb 52 #[.slice (some ⟨g1, 0, none⟩) ns ns, .slice (some ⟨g2, 0, none⟩) (4 * nm) (4 * nm)] by rw [hW1]; exact HBr.out.alloc _)
     rw [← hW1] at Hown2 Ho2
     clear hx hsg
     go_wp2_with fail
     rw [← hW1]
     clear hW1 y0 y1 y2 y3 z0 z1 e0 e1 e2
     obtain ⟨zo, hzo, hc⟩ := own_nat_at Hown2.out hlt
     have hfz := Hown2.out.frozenAt k
     clear hzo
     refine wp_region_lexC (by kernel_rfl) (by kernel_rfl) (fun x => Below W1.heap.size W1 x) ((Below.refl _ _).drew) (fun lexNE => ?_)
     obtain ⟨cb0, cb1⟩ := bwS2 HB1.out HB1.out.lt
     obtain ⟨cx0, cx1, cx2⟩ := bw3 HX1.out HX1.out.lt
     (repeat (first | (refine lex_r fun K hK => ?_; go_big_quiet_op; refine hK _ ?_; clear hK K) | (refine lex_k fun K hK => ?_; go_simp; refine hK _ ?_; clear hK K)))
     (refine lex_e fun K hK => ?_; go_big_op)
     refine (i_widthMask x1 (by omega) _).mono ?_
     rintro e w9 ⟨rfl, rfl⟩
     refine hK _ _ (Cls.mk' ((Below.refl _ _).drew)) ?_
     clear hK K
     (repeat (first | (refine lex_r fun K hK => ?_; go_big_quiet_op; refine hK _ ?_; clear hK K) | (refine lex_k fun K hK => ?_; go_simp; refine hK _ ?_; clear hK K)))
     (refine lex_l fun K hK => ?_; go_big_op)
     (refine hK _ _ ?_; clear hK K)
     clear lexNE cb0 cb1 cx0 cx1 cx2
     go_wp2_with fail
     go_roundw
     case rel =>
      refine ⟨k + 1, by omega, by go_num, ?_, ?_⟩
      ·rw [← Hs.out, Hiv.out]
       have h1 := Hown2.out.stored k (.int .i64 ((x2n &&& mskN x1 : Nat) : Int))
       rw [show ints (nI ((startK m k).set k (x2n &&& mskN x1))) = (ints (nI (startK m k))).set k (.int .i64 ((x2n &&& mskN x1 : Nat) : Int)) by rw [nI_lit, nI_lit, List.map_set]]
       exact own_drew h1.1
      ·exact (Ho2.out.setCell (p := ⟨g1, k, none⟩) (.inl rfl) _).drew
     case measure => simp [intOf]; omega
    ·have q3 : (x0 == 3) = false := by simpa using h3
     have Hs := Lib.hid (startK_same hx (by unfold iniV; rw [if_neg h3]))
     clear h3 hx hsg
     go_wp2_with fail
     go_roundw
     case rel => exact ⟨k + 1, by omega, by go_num, by rw [← Hs.out]; exact Hown2.out, Ho2.out⟩
     case measure => simp [intOf]; omega
   ·have hge : (ns : Int) ≤ (k : Int) := by omega
    have hkn : k = ns := by omega
    have HE := Lib.hid (show wr.ownsRow 0 3 1 (.slice (some ⟨g1, 0, none⟩) ns ns) ns (ints (nI (startV m))) by have h1 := Hown.out; rw [hkn, ← Hn.out.1, startK_end, Hn.out.1] at h1; exact h1)
    have HO2r := Lib.hid (own_keep HO2.out (fun g hg => Ho.out.block g (by exact (HO2.out.lt g hg).2) (fun hc => by have hg : g2 = g := (by injection hg); have hc : g = g1 := hc; omega)))
    obtain ⟨r0, r1⟩ := blkS2 HRr.out
    have f0 := HRr.out.frozen 0
    have f1 := HRr.out.frozen 1
    clear hkn
    go_wp2_with fail
    obtain ⟨wf, hwf⟩ : ∃ wf, wf = ((wr.setCell ⟨w.heap.size + 1, 0, none⟩ (.slice (some ⟨g1, 0, none⟩) ns ns)).setCell ⟨w.heap.size + 1, 1, none⟩ (.slice (some ⟨g2, 0, none⟩) (4 * nm) (4 * nm))) := ⟨_, rfl⟩
    have hne1 : g1 ≠ w.heap.size + 1 := by have := HZ0.out; omega
    have hne2 : g2 ≠ w.heap.size + 1 := by have := HZ0.out; omega
    have hRf : Blk wf (w.heap.size + 1) 52 #[.slice (some ⟨g1, 0, none⟩) ns ns, .slice (some ⟨g2, 0, none⟩) (4 * nm) (4 * nm)] := by rw [hwf]; exact blk_two HRr.out
    have hk2 : ∀ b, b ≠ w.heap.size + 1 → wf.heap[b]? = wr.heap[b]? := fun b hb => by
     rw [hwf]
     exact (Below.heap_setCell _ ⟨w.heap.size + 1, 1, none⟩ _ b hb).trans (Below.heap_setCell _ ⟨w.heap.size + 1, 0, none⟩ _ b hb)
    have hO1 := own_keep HE.out (w' := wf) (fun g hg => hk2 g (by have hg : g1 = g := (by injection hg); omega))
    have hO2 := own_keep HO2r.out (w' := wf) (fun g hg => hk2 g (by have hg : g2 = g := (by injection hg); omega))
    have hsf : wr.heap.size ≤ wf.heap.size := by rw [hwf]; simp
    have hBf : Below w.heap.size w wf := by rw [hwf]; exact (Hbw.out.setCell (by simp) _).setCell (by simp) _
    have l1 := (HE.out.lt g1 rfl).2
    have l2 := (HO2r.out.lt g2 rfl).2
    obtain ⟨s0, s1⟩ := blkS2 hRf
    rw [← hwf]
    refine bodyPost_ret (v := .agg #[.slice (some ⟨g1, 0, none⟩) ns ns, .slice (some ⟨g2, 0, none⟩) (4 * nm) (4 * nm)]) (by simp [results, Tryz.results55, go_sem, s0, s1]) rfl ⟨_, rfl, ⟨_, _, fun j b => (j = 0 ∧ b = g1) ∨ (j = 1 ∧ b = g2), rfl, ?_, ?_, ?_, ?_⟩, hBf⟩
    ·rintro j b (⟨_, rfl⟩ | ⟨_, rfl⟩)
     ·exact ⟨by have := HZ0.out; omega, by omega⟩
     ·exact ⟨by have := HZ0.out; omega, by omega⟩
    ·rintro i j b (⟨rfl, rfl⟩ | ⟨rfl, rfl⟩) (⟨rfl, h2⟩ | ⟨rfl, h2⟩)
     ·rfl
     ·exact absurd h2 hd1
     ·exact absurd h2.symm hd1
     ·rfl
    ·exact sep_ints (by unfold maxLen; omega) hO1 (fun g hg => .inl ⟨rfl, by have hg : g1 = g := (by injection hg); exact hg.symm⟩)
    ·rw [show (startN m).2 = List.replicate (4 * nm) 0 by unfold startN; rw [Hn.out.2.2.2]]
     exact sep_ints (by unfold maxLen; omega) hO2 (fun g hg => .inr ⟨rfl, by have hg : g2 = g := (by injection hg); exact hg.symm⟩)
end Go.Proofs.YtjkdgedgfkgjdaaGreat

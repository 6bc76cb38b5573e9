/- Contract: a line read into the open module: the program's function. -/
import Derived.Test.YthjdigcpgpiiiaaDoorGp
import Derived.Deep.CutRange
import Derived.Outline
namespace Go.Proofs.YthjdigcpgpiiiaaDoor
open Go.RowKit

def rlT : List TypeId := [66, 71, 78, 80]
theorem rlT_sig : 66 ∈ rlT := by decide
theorem rlT_asg : 71 ∈ rlT := by decide
theorem rlT_ins : 78 ∈ rlT := by decide
theorem rlT_mem : 80 ∈ rlT := by decide
def RlQ (lo gm q c : Nat) (xs0 : List Value) (m : TModule) (w : World) (e : Ending) (w' : World) : Prop :=
 e = .returned (.tuple #[]) ∧ ChP lo rlT (fun b => b = gm) w w' ∧ ∃ v0 v1 v2 v3, OpM w' lo gm q c xs0 v0 v1 v2 v3 m
section
variable {w w' : World} {lo gm q c : Nat} {xs0 : List Value} {v0 v1 v2 v3 : Value} {m : TModule}
theorem OpM.below (h : OpM w lo gm q c xs0 v0 v1 v2 v3 m) (hb : Below w.heap.size w w') : OpM w' lo gm q c xs0 v0 v1 v2 v3 m :=
 ⟨own_below h.row hb (Nat.le_refl _), h.len, h.lt, h.fl.below hb, h.ins.below hb⟩
theorem OpM.gmlt (h : OpM w lo gm q c xs0 v0 v1 v2 v3 m) : gm < w.heap.size := (h.row.lt gm rfl).2
theorem OpM.ofM (h : OpM w lo gm q c xs0 v0 v1 v2 v3 m) : OfT w 42 gm := own_of h.row rfl
theorem row_put {base g n cap size k : Nat} {e : TypeId} {xs ys : List Value} (h : w.ownsRow base e size (.slice (some ⟨g, 0, none⟩) n cap) n (xs ++ ys)) (hl : xs.length = k) (j : Nat) (u : Value) : (w.setCell ⟨g, k + j, none⟩ u).ownsRow base e size (.slice (some ⟨g, 0, none⟩) n cap) n (xs ++ ys.set j u) := by
 have h1 := (h.stored (k + j) u).1
 rw [List.set_append_right _ _ (by omega), hl, Nat.add_sub_cancel_left] at h1
 exact h1
theorem row_cells (h : w.ownsRow 0 42 4 (.slice (some ⟨gm, 0, none⟩) (q + 1) c) (q + 1) (xs0 ++ [v0, v1, v2, v3])) (hl : xs0.length = q * 4) :
  w.cell? ⟨gm, q * 4, none⟩ = some v0 ∧ w.cell? ⟨gm, q * 4 + 1, none⟩ = some v1 ∧ w.cell? ⟨gm, q * 4 + 2, none⟩ = some v2 ∧ w.cell? ⟨gm, q * 4 + 3, none⟩ = some v3 := by
 have h0 : ∀ j u, [v0, v1, v2, v3][j]? = some u → w.cell? ⟨gm, q * 4 + j, none⟩ = some u := fun j u hj => by
  have hj4 : j < 4 := (List.getElem?_eq_some_iff.1 hj).1
  have h1 := h.cellAt (q * 4 + j) (by omega)
  rw [List.getElem?_append_right (by rw [hl]; omega), hl, Nat.add_sub_cancel_left, hj] at h1
  exact h1
 exact ⟨h0 0 v0 rfl, h0 1 v1 rfl, h0 2 v2 rfl, h0 3 v3 rfl⟩
theorem row_kept {base size n k sz : Nat} {e t : TypeId} {v u : Value} {xs ys : List Value} (h : w.ownsRow base e size v n xs) (ho : w.ownsRow k t sz u q ys) (hne : t ≠ e) (hg : w.grownBy w' u.ownBlock) : w'.ownsRow base e size v n xs :=
 own_keep h (fun g hg' => (only_row hg).block g (h.lt g hg').2 (fun hC => hne ((own_of ho hC).inj (own_of h hg'))))
theorem at0_len {fs : List ByteArray} (hz : ∀ x ∈ fs, x.size ≤ 600) (i : Nat) : (at0 (fs.map byt) i).length ≤ 600 := by
 cases h : fs[i]? with
 | none => rw [at0_none (by rw [List.getElem?_eq_none_iff] at h; exact h)]; simp
 | some x => rw [at0_some h]; exact hz x (List.mem_of_getElem? h)
theorem byt_bt (l : Wd8) : byt (bt l) = l := rfl
theorem is_word {x : ByteArray} {L : List UInt8} (h : byt x = L) : (x.toList == L) = true := by rw [ByteArray.toList_eq, beq_iff_eq]; exact h
theorem not_word {x : ByteArray} {L : List UInt8} (h : ¬ byt x = L) : (x.toList == L) = false := by rw [ByteArray.toList_eq, beq_eq_false_iff_ne]; exact h
end
-- a field as a number: $1 its place $2 name $3 world $4 new world $5 $6 their facts $7 contract
-- $1 the new signal
-- 'set'
set_option maxRecDepth 100000 in
set_option maxHeartbeats 16000000 in
theorem i_readLine {w : World} {lo gm q c n cc fb : Nat} {A : Option Addr} {xs0 : List Value} {v0 v1 v2 v3 : Value} {m : TModule} {fs : List ByteArray} (hO : OpM w lo gm q c xs0 v0 v1 v2 v3 m) (hlo : lo ≤ w.heap.size) (hf : w.ownsRow fb 9 1 (.slice A n cc) n (strs fs)) (hn0 : 0 < n) (hn : n ≤ 40) (hz : ∀ x ∈ fs, x.size ≤ 600)
  (hl0 : m.1.length ≤ 1048576) (hl1 : m.2.1.length ≤ 1048576) (hl2 : m.2.2.1.length ≤ 1048576) (hl3 : m.2.2.2.length ≤ 1048576) (hsg : SignsAt w) :
  Calls Tryd.prog 20 #[.pointer (some ⟨gm, q * 4, none⟩), .slice A n cc] w (RlQ lo gm q c xs0 (rdLnI m (fs.map byt)) w) := by
 obtain ⟨g0, hg0⟩ : ∃ g, A = some ⟨g, 0, none⟩ := by
  obtain ⟨_, _, hv, _, _, h2⟩ := own_form hf
  injection hv with hA
  obtain ⟨g, h3, _⟩ := h2 hn0
  exact ⟨g, hA.trans h3⟩
 subst hg0
 have hlen : fs.length = n := (Reads.of_own hf).slen
 obtain ⟨x, hx⟩ : ∃ x, fs[0]? = some x := ⟨_, List.getElem?_eq_getElem (by omega)⟩
 have Ha := Lib.hid (at0_some hx)
 have Hfl := Lib.hid hlen
 have Hz := Lib.hid hz
 obtain ⟨W0, hW0⟩ : ∃ W0, W0 = w.alloc (.cells #[.slice (some ⟨g0, 0, none⟩) n cc] 43) := ⟨_, rfl⟩
 have HB0 := Lib.hid (show Below w.heap.size w W0 by rw [hW0]; exact (Below.refl _ _).alloc (Nat.le_refl _) _)
 have HX := Lib.hid (show Blk W0 w.heap.size 43 #[.slice (some ⟨g0, 0, none⟩) n cc] by rw [hW0]; exact Blk.new _ _ _)
 have HF := Lib.hid (own_below hf HB0.out (Nat.le_refl _))
 have HO0 := Lib.hid (hO.below HB0.out)
 have hgm0 := HO0.out.gmlt
 have z0 : w.heap.size < W0.heap.size := HX.out.lt
 have hc0 : W0.cell? ⟨g0, 0, none⟩ = some (.string x) := by
  have h1 := HF.out.cellAt 0 (by omega)
  rw [strs_get, hx] at h1
  exact h1
 have hmf : ∀ (fn : Fn) (first cap : Array Value) (w : World), (Instr.makeFunc fn first cap).run Tryd.prog w = .ok (.func fn first cap) w := fun _ _ _ _ => rfl
 have yb := blkS1 HX.out
 have g1 : (0 : Int) < (n : Int) := by omega
 clear hO hf hlen hx hz
 go_enter Tryd.func20, Tryd.ntmps20
 go_upto_region 1 with fail
 rw [← hW0]
 clear hW0
 go_upto_region 3 with fail
 by_cases k0 : byt x = [105, 110]
 ·have e0 := is_word k0
  have HR := Lib.hid (show rdLnI m (fs.map byt) = (m.1 ++ [(0, (pv (at0 (fs.map byt) 1) : Int), 0)], m.2) by unfold rdLnI; rw [Ha.out]; exact if_pos k0)
  clear k0
  go_upto_region 4 with fail
  obtain ⟨i0, hi, hz0, hz1, hz2⟩ := info_parts Tryd.infSignalC
  obtain ⟨as0, cs0, rfl, _, _, _⟩ := own_form HO0.out.fl.s0
  have ng : ¬ (Value.slice as0 m.1.length cs0).ownBlock = some gm := fun h1 => absurd ((own_of HO0.out.fl.s0 h1).inj HO0.out.ofM) (by decide)
  obtain ⟨q0, q1, q2, q3⟩ := HO0.out.cells
  have cg := ocel (S := fun b => (Value.slice as0 m.1.length cs0).ownBlock = some b) q0 hgm0 ng
  clear q0 q1 q2 q3
  have HBd := Lib.hid ((Below.refl W0.heap.size W0).drew)
  refine wp_region_lexC (by kernel_rfl) (by kernel_rfl) (fun x => Only (fun b => (Value.slice as0 m.1.length cs0).ownBlock = some b) W0 x) ((Only.refl _ _).drew) (fun lexNE => ?_)
  (repeat (first | (refine lex_r fun K hK => ?_; go_big_quiet_op; refine hK _ ?_; clear hK K) | (refine lex_k fun K hK => ?_; go_simp; refine hK _ ?_; clear hK K)))
  (refine lex_e fun K hK => ?_; go_big_op)
  refine (i_at (w := W0.drew) (HX.out.below HBd.out HX.out.lt) (own_below HF.out HBd.out (Nat.le_refl _)) 1).mono ?_
  rintro e wq ⟨rfl, rfl⟩
  refine hK _ _ (Cls.mk' (Only.of_below HBd.out _)) ?_
  clear hK K
  (repeat (first | (refine lex_r fun K hK => ?_; go_big_quiet_op; refine hK _ ?_; clear hK K) | (refine lex_k fun K hK => ?_; go_simp; refine hK _ ?_; clear hK K)))
  (refine lex_e fun K hK => ?_; go_big_op)
  obtain ⟨y1, hy1⟩ : ∃ y, y = at0 (fs.map byt) 1 := ⟨_, rfl⟩
  have hy1l : y1.length ≤ 600 := by rw [hy1]; exact at0_len Hz.out 1
  rw [← hy1] at HR ⊢
  clear hy1
  refine (i_plainNumber (bt y1) (by show y1.length ≤ maxLen; unfold maxLen; omega) _).mono ?_
  rintro e w1 ⟨rfl, hb1⟩
  have HB1 := Lib.hid (HBd.out.trans (hb1.mono HBd.out.size))
  refine hK _ _ (Cls.mk' (Only.of_below HB1.out _)) ?_
  clear hK K hb1
  have zz1 := HB1.out.size
  have HO1 := Lib.hid (HO0.out.below HB1.out)
  (repeat (first | (refine lex_r fun K hK => ?_; go_big_quiet_op; refine hK _ ?_; clear hK K) | (refine lex_k fun K hK => ?_; go_simp; refine hK _ ?_; clear hK K)))
  (refine lex_e fun K hK => ?_; go_big_op)
  refine hK _ _ (Cls.mk' ((Only.of_below HB1.out _).alloc _)) ?_
  clear hK K
  refine lex_e fun K hK => ?_
  refine wp_append_any _ _ _ 37 (by rfl) (lo) 66 i0 (.agg #[.int .i64 0, .int .i64 0, .int .i64 0]) 3 24 Tryd.underlying37 hi hz0 hz1 hz2 rfl (by decide) _ _ _ (by rfl) (HO1.out.fl.s0.alloc _) _ _ 1 1 _ (by rfl) (reads_new _ _ 1 3 rfl) (by intro u hu; simp at hu; first | (subst hu; rfl) | (rcases hu with rfl | rfl <;> rfl) | (rcases hu with rfl | rfl | rfl <;> rfl)) (by unfold maxLen; omega) (by omega) (by (try simp) <;> (try omega)) ?_
  intro v8 w8 hown8 hgrow8 hblk8
  go_simp
  refine hK _ _ (Cls.mk' (Only.grown2 ((Only.of_below HB1.out (fun b => (Value.slice as0 m.1.length cs0).ownBlock = some b)).alloc _) hgrow8 (fun g hg => .inl hg))) ?_
  clear hK K
  obtain ⟨A8, c8, rfl, _, _, _⟩ := own_form hown8
  have hbl := fun o : Obj => (Below.refl w1.heap.size w1).alloc (Nat.le_refl _) o
  have HS8 := Lib.hid ((HO1.out.fl.below (hbl _)).pushS (x := (0, (pv y1 : Int), 0)) hown8 hgrow8)
  have HI8 := Lib.hid ((HO1.out.ins.below (hbl _)).grown (own_below HO1.out.fl.s0 (hbl _) (Nat.le_refl _)) (by decide) hgrow8)
  have HR8 := Lib.hid (row_kept (own_below HO1.out.row (hbl _) (Nat.le_refl _)) (own_below HO1.out.fl.s0 (hbl _) (Nat.le_refl _)) (by decide) hgrow8)
  have K8 := Lib.hid ((((ChP.of_below lo rlT (fun b => b = gm) HB0.out).bel HB1.out).alloc _).row (own_below HO1.out.fl.s0 (hbl _) (Nat.le_refl _)) (Nat.le_refl _) rlT_sig hgrow8)
  clear hown8 hgrow8 hblk8 hbl
  (repeat (first | (refine lex_r fun K hK => ?_; go_big_quiet_op; refine hK _ ?_; clear hK K) | (refine lex_k fun K hK => ?_; go_simp; refine hK _ ?_; clear hK K)))
  obtain ⟨e0, e1, e2, e3⟩ := row_cells HR8.out HO1.out.len
  have f0 : w8.frozen? ⟨gm, q * 4, none⟩ = false := HR8.out.frozenAt (q * 4)
  (refine lex_l fun K hK => ?_; go_big_op)
  (refine hK _ _ ?_; clear hK K)
  clear lexNE e0 e1 e2 e3 f0
  clear cg ng
  obtain ⟨wf, hwf⟩ : ∃ wf, wf = (w8.setCell ⟨gm, q * 4, none⟩ (.slice A8 (m.1.length + 1) c8)) := ⟨_, rfl⟩
  have HOf := Lib.hid (show OpM wf lo gm q c xs0 (.slice A8 (m.1.length + 1) c8) v1 v2 v3 (m.1 ++ [(0, (pv y1 : Int), 0)], m.2) by
   rw [hwf]
   exact ⟨row_put HR8.out HO1.out.len 0 _, HO1.out.len, HO1.out.lt, HS8.out.set (own_of HR8.out rfl) (by decide) _ _, HI8.out.set (own_of HR8.out rfl) (by decide) _ _⟩)
  have Kf := Lib.hid (show ChP lo rlT (fun b => b = gm) w wf by rw [hwf]; exact K8.out.setP (p := ⟨gm, q * 4, none⟩) rfl _)
  rw [← hwf]
  clear hwf
  go_wp2_with fail
  go_end0
  rw [HR.out]
  exact ⟨rfl, Kf.out, _, _, _, _, HOf.out⟩
 have e0 := not_word k0
 by_cases k1 : byt x = [111, 117, 116]
 ·have e1 := is_word k1
  have HR := Lib.hid (show rdLnI m (fs.map byt) = (m.1 ++ [(1, (pv (at0 (fs.map byt) 1) : Int), 0)], m.2) by unfold rdLnI; rw [Ha.out]; exact (if_neg k0).trans (if_pos k1))
  clear k0 k1
  go_upto_region 6 with fail
  obtain ⟨i0, hi, hz0, hz1, hz2⟩ := info_parts Tryd.infSignalC
  obtain ⟨as0, cs0, rfl, _, _, _⟩ := own_form HO0.out.fl.s0
  have ng : ¬ (Value.slice as0 m.1.length cs0).ownBlock = some gm := fun h1 => absurd ((own_of HO0.out.fl.s0 h1).inj HO0.out.ofM) (by decide)
  obtain ⟨q0, q1, q2, q3⟩ := HO0.out.cells
  have cg := ocel (S := fun b => (Value.slice as0 m.1.length cs0).ownBlock = some b) q0 hgm0 ng
  clear q0 q1 q2 q3
  have HBd := Lib.hid ((Below.refl W0.heap.size W0).drew)
  refine wp_region_lexC (by kernel_rfl) (by kernel_rfl) (fun x => Only (fun b => (Value.slice as0 m.1.length cs0).ownBlock = some b) W0 x) ((Only.refl _ _).drew) (fun lexNE => ?_)
  (repeat (first | (refine lex_r fun K hK => ?_; go_big_quiet_op; refine hK _ ?_; clear hK K) | (refine lex_k fun K hK => ?_; go_simp; refine hK _ ?_; clear hK K)))
  (refine lex_e fun K hK => ?_; go_big_op)
  refine (i_at (w := W0.drew) (HX.out.below HBd.out HX.out.lt) (own_below HF.out HBd.out (Nat.le_refl _)) 1).mono ?_
  rintro e wq ⟨rfl, rfl⟩
  refine hK _ _ (Cls.mk' (Only.of_below HBd.out _)) ?_
  clear hK K
  (repeat (first | (refine lex_r fun K hK => ?_; go_big_quiet_op; refine hK _ ?_; clear hK K) | (refine lex_k fun K hK => ?_; go_simp; refine hK _ ?_; clear hK K)))
  (refine lex_e fun K hK => ?_; go_big_op)
  obtain ⟨y1, hy1⟩ : ∃ y, y = at0 (fs.map byt) 1 := ⟨_, rfl⟩
  have hy1l : y1.length ≤ 600 := by rw [hy1]; exact at0_len Hz.out 1
  rw [← hy1] at HR ⊢
  clear hy1
  refine (i_plainNumber (bt y1) (by show y1.length ≤ maxLen; unfold maxLen; omega) _).mono ?_
  rintro e w1 ⟨rfl, hb1⟩
  have HB1 := Lib.hid (HBd.out.trans (hb1.mono HBd.out.size))
  refine hK _ _ (Cls.mk' (Only.of_below HB1.out _)) ?_
  clear hK K hb1
  have zz1 := HB1.out.size
  have HO1 := Lib.hid (HO0.out.below HB1.out)
  (repeat (first | (refine lex_r fun K hK => ?_; go_big_quiet_op; refine hK _ ?_; clear hK K) | (refine lex_k fun K hK => ?_; go_simp; refine hK _ ?_; clear hK K)))
  (refine lex_e fun K hK => ?_; go_big_op)
  refine hK _ _ (Cls.mk' ((Only.of_below HB1.out _).alloc _)) ?_
  clear hK K
  refine lex_e fun K hK => ?_
  refine wp_append_any _ _ _ 37 (by rfl) (lo) 66 i0 (.agg #[.int .i64 0, .int .i64 0, .int .i64 0]) 3 24 Tryd.underlying37 hi hz0 hz1 hz2 rfl (by decide) _ _ _ (by rfl) (HO1.out.fl.s0.alloc _) _ _ 1 1 _ (by rfl) (reads_new _ _ 1 3 rfl) (by intro u hu; simp at hu; first | (subst hu; rfl) | (rcases hu with rfl | rfl <;> rfl) | (rcases hu with rfl | rfl | rfl <;> rfl)) (by unfold maxLen; omega) (by omega) (by (try simp) <;> (try omega)) ?_
  intro v8 w8 hown8 hgrow8 hblk8
  go_simp
  refine hK _ _ (Cls.mk' (Only.grown2 ((Only.of_below HB1.out (fun b => (Value.slice as0 m.1.length cs0).ownBlock = some b)).alloc _) hgrow8 (fun g hg => .inl hg))) ?_
  clear hK K
  obtain ⟨A8, c8, rfl, _, _, _⟩ := own_form hown8
  have hbl := fun o : Obj => (Below.refl w1.heap.size w1).alloc (Nat.le_refl _) o
  have HS8 := Lib.hid ((HO1.out.fl.below (hbl _)).pushS (x := (1, (pv y1 : Int), 0)) hown8 hgrow8)
  have HI8 := Lib.hid ((HO1.out.ins.below (hbl _)).grown (own_below HO1.out.fl.s0 (hbl _) (Nat.le_refl _)) (by decide) hgrow8)
  have HR8 := Lib.hid (row_kept (own_below HO1.out.row (hbl _) (Nat.le_refl _)) (own_below HO1.out.fl.s0 (hbl _) (Nat.le_refl _)) (by decide) hgrow8)
  have K8 := Lib.hid ((((ChP.of_below lo rlT (fun b => b = gm) HB0.out).bel HB1.out).alloc _).row (own_below HO1.out.fl.s0 (hbl _) (Nat.le_refl _)) (Nat.le_refl _) rlT_sig hgrow8)
  clear hown8 hgrow8 hblk8 hbl
  (repeat (first | (refine lex_r fun K hK => ?_; go_big_quiet_op; refine hK _ ?_; clear hK K) | (refine lex_k fun K hK => ?_; go_simp; refine hK _ ?_; clear hK K)))
  obtain ⟨e0, e1, e2, e3⟩ := row_cells HR8.out HO1.out.len
  have f0 : w8.frozen? ⟨gm, q * 4, none⟩ = false := HR8.out.frozenAt (q * 4)
  (refine lex_l fun K hK => ?_; go_big_op)
  (refine hK _ _ ?_; clear hK K)
  clear lexNE e0 e1 e2 e3 f0
  clear cg ng
  obtain ⟨wf, hwf⟩ : ∃ wf, wf = (w8.setCell ⟨gm, q * 4, none⟩ (.slice A8 (m.1.length + 1) c8)) := ⟨_, rfl⟩
  have HOf := Lib.hid (show OpM wf lo gm q c xs0 (.slice A8 (m.1.length + 1) c8) v1 v2 v3 (m.1 ++ [(1, (pv y1 : Int), 0)], m.2) by
   rw [hwf]
   exact ⟨row_put HR8.out HO1.out.len 0 _, HO1.out.len, HO1.out.lt, HS8.out.set (own_of HR8.out rfl) (by decide) _ _, HI8.out.set (own_of HR8.out rfl) (by decide) _ _⟩)
  have Kf := Lib.hid (show ChP lo rlT (fun b => b = gm) w wf by rw [hwf]; exact K8.out.setP (p := ⟨gm, q * 4, none⟩) rfl _)
  rw [← hwf]
  clear hwf
  go_wp2_with fail
  go_end0
  rw [HR.out]
  exact ⟨rfl, Kf.out, _, _, _, _, HOf.out⟩
 have e1 := not_word k1
 by_cases k2 : byt x = [119, 105, 114, 101]
 ·have e2 := is_word k2
  have HR := Lib.hid (show rdLnI m (fs.map byt) = (m.1 ++ [(2, (pv (at0 (fs.map byt) 1) : Int), 0)], m.2) by unfold rdLnI; rw [Ha.out]; exact (if_neg k0).trans ((if_neg k1).trans (if_pos k2)))
  clear k0 k1 k2
  go_upto_region 8 with fail
  obtain ⟨i0, hi, hz0, hz1, hz2⟩ := info_parts Tryd.infSignalC
  obtain ⟨as0, cs0, rfl, _, _, _⟩ := own_form HO0.out.fl.s0
  have ng : ¬ (Value.slice as0 m.1.length cs0).ownBlock = some gm := fun h1 => absurd ((own_of HO0.out.fl.s0 h1).inj HO0.out.ofM) (by decide)
  obtain ⟨q0, q1, q2, q3⟩ := HO0.out.cells
  have cg := ocel (S := fun b => (Value.slice as0 m.1.length cs0).ownBlock = some b) q0 hgm0 ng
  clear q0 q1 q2 q3
  have HBd := Lib.hid ((Below.refl W0.heap.size W0).drew)
  refine wp_region_lexC (by kernel_rfl) (by kernel_rfl) (fun x => Only (fun b => (Value.slice as0 m.1.length cs0).ownBlock = some b) W0 x) ((Only.refl _ _).drew) (fun lexNE => ?_)
  (repeat (first | (refine lex_r fun K hK => ?_; go_big_quiet_op; refine hK _ ?_; clear hK K) | (refine lex_k fun K hK => ?_; go_simp; refine hK _ ?_; clear hK K)))
  (refine lex_e fun K hK => ?_; go_big_op)
  refine (i_at (w := W0.drew) (HX.out.below HBd.out HX.out.lt) (own_below HF.out HBd.out (Nat.le_refl _)) 1).mono ?_
  rintro e wq ⟨rfl, rfl⟩
  refine hK _ _ (Cls.mk' (Only.of_below HBd.out _)) ?_
  clear hK K
  (repeat (first | (refine lex_r fun K hK => ?_; go_big_quiet_op; refine hK _ ?_; clear hK K) | (refine lex_k fun K hK => ?_; go_simp; refine hK _ ?_; clear hK K)))
  (refine lex_e fun K hK => ?_; go_big_op)
  obtain ⟨y1, hy1⟩ : ∃ y, y = at0 (fs.map byt) 1 := ⟨_, rfl⟩
  have hy1l : y1.length ≤ 600 := by rw [hy1]; exact at0_len Hz.out 1
  rw [← hy1] at HR ⊢
  clear hy1
  refine (i_plainNumber (bt y1) (by show y1.length ≤ maxLen; unfold maxLen; omega) _).mono ?_
  rintro e w1 ⟨rfl, hb1⟩
  have HB1 := Lib.hid (HBd.out.trans (hb1.mono HBd.out.size))
  refine hK _ _ (Cls.mk' (Only.of_below HB1.out _)) ?_
  clear hK K hb1
  have zz1 := HB1.out.size
  have HO1 := Lib.hid (HO0.out.below HB1.out)
  (repeat (first | (refine lex_r fun K hK => ?_; go_big_quiet_op; refine hK _ ?_; clear hK K) | (refine lex_k fun K hK => ?_; go_simp; refine hK _ ?_; clear hK K)))
  (refine lex_e fun K hK => ?_; go_big_op)
  refine hK _ _ (Cls.mk' ((Only.of_below HB1.out _).alloc _)) ?_
  clear hK K
  refine lex_e fun K hK => ?_
  refine wp_append_any _ _ _ 37 (by rfl) (lo) 66 i0 (.agg #[.int .i64 0, .int .i64 0, .int .i64 0]) 3 24 Tryd.underlying37 hi hz0 hz1 hz2 rfl (by decide) _ _ _ (by rfl) (HO1.out.fl.s0.alloc _) _ _ 1 1 _ (by rfl) (reads_new _ _ 1 3 rfl) (by intro u hu; simp at hu; first | (subst hu; rfl) | (rcases hu with rfl | rfl <;> rfl) | (rcases hu with rfl | rfl | rfl <;> rfl)) (by unfold maxLen; omega) (by omega) (by (try simp) <;> (try omega)) ?_
  intro v8 w8 hown8 hgrow8 hblk8
  go_simp
  refine hK _ _ (Cls.mk' (Only.grown2 ((Only.of_below HB1.out (fun b => (Value.slice as0 m.1.length cs0).ownBlock = some b)).alloc _) hgrow8 (fun g hg => .inl hg))) ?_
  clear hK K
  obtain ⟨A8, c8, rfl, _, _, _⟩ := own_form hown8
  have hbl := fun o : Obj => (Below.refl w1.heap.size w1).alloc (Nat.le_refl _) o
  have HS8 := Lib.hid ((HO1.out.fl.below (hbl _)).pushS (x := (2, (pv y1 : Int), 0)) hown8 hgrow8)
  have HI8 := Lib.hid ((HO1.out.ins.below (hbl _)).grown (own_below HO1.out.fl.s0 (hbl _) (Nat.le_refl _)) (by decide) hgrow8)
  have HR8 := Lib.hid (row_kept (own_below HO1.out.row (hbl _) (Nat.le_refl _)) (own_below HO1.out.fl.s0 (hbl _) (Nat.le_refl _)) (by decide) hgrow8)
  have K8 := Lib.hid ((((ChP.of_below lo rlT (fun b => b = gm) HB0.out).bel HB1.out).alloc _).row (own_below HO1.out.fl.s0 (hbl _) (Nat.le_refl _)) (Nat.le_refl _) rlT_sig hgrow8)
  clear hown8 hgrow8 hblk8 hbl
  (repeat (first | (refine lex_r fun K hK => ?_; go_big_quiet_op; refine hK _ ?_; clear hK K) | (refine lex_k fun K hK => ?_; go_simp; refine hK _ ?_; clear hK K)))
  obtain ⟨e0, e1, e2, e3⟩ := row_cells HR8.out HO1.out.len
  have f0 : w8.frozen? ⟨gm, q * 4, none⟩ = false := HR8.out.frozenAt (q * 4)
  (refine lex_l fun K hK => ?_; go_big_op)
  (refine hK _ _ ?_; clear hK K)
  clear lexNE e0 e1 e2 e3 f0
  clear cg ng
  obtain ⟨wf, hwf⟩ : ∃ wf, wf = (w8.setCell ⟨gm, q * 4, none⟩ (.slice A8 (m.1.length + 1) c8)) := ⟨_, rfl⟩
  have HOf := Lib.hid (show OpM wf lo gm q c xs0 (.slice A8 (m.1.length + 1) c8) v1 v2 v3 (m.1 ++ [(2, (pv y1 : Int), 0)], m.2) by
   rw [hwf]
   exact ⟨row_put HR8.out HO1.out.len 0 _, HO1.out.len, HO1.out.lt, HS8.out.set (own_of HR8.out rfl) (by decide) _ _, HI8.out.set (own_of HR8.out rfl) (by decide) _ _⟩)
  have Kf := Lib.hid (show ChP lo rlT (fun b => b = gm) w wf by rw [hwf]; exact K8.out.setP (p := ⟨gm, q * 4, none⟩) rfl _)
  rw [← hwf]
  clear hwf
  go_wp2_with fail
  go_end0
  rw [HR.out]
  exact ⟨rfl, Kf.out, _, _, _, _, HOf.out⟩
 have e2 := not_word k2
 by_cases k3 : byt x = [114, 101, 103]
 ·have e3 := is_word k3
  have HR := Lib.hid (show rdLnI m (fs.map byt) = (m.1 ++ [(3, (pv (at0 (fs.map byt) 1) : Int), (pv (at0 (fs.map byt) 2) : Int))], m.2) by unfold rdLnI; rw [Ha.out]; exact (if_neg k0).trans ((if_neg k1).trans ((if_neg k2).trans (if_pos k3))))
  clear k0 k1 k2 k3
  go_upto_region 10 with fail
  obtain ⟨i0, hi, hz0, hz1, hz2⟩ := info_parts Tryd.infSignalC
  obtain ⟨as0, cs0, rfl, _, _, _⟩ := own_form HO0.out.fl.s0
  have ng : ¬ (Value.slice as0 m.1.length cs0).ownBlock = some gm := fun h1 => absurd ((own_of HO0.out.fl.s0 h1).inj HO0.out.ofM) (by decide)
  obtain ⟨q0, q1, q2, q3⟩ := HO0.out.cells
  have cg := ocel (S := fun b => (Value.slice as0 m.1.length cs0).ownBlock = some b) q0 hgm0 ng
  clear q0 q1 q2 q3
  have HBd := Lib.hid ((Below.refl W0.heap.size W0).drew)
  refine wp_region_lexC (by kernel_rfl) (by kernel_rfl) (fun x => Only (fun b => (Value.slice as0 m.1.length cs0).ownBlock = some b) W0 x) ((Only.refl _ _).drew) (fun lexNE => ?_)
  (repeat (first | (refine lex_r fun K hK => ?_; go_big_quiet_op; refine hK _ ?_; clear hK K) | (refine lex_k fun K hK => ?_; go_simp; refine hK _ ?_; clear hK K)))
  (refine lex_e fun K hK => ?_; go_big_op)
  refine (i_at (w := W0.drew) (HX.out.below HBd.out HX.out.lt) (own_below HF.out HBd.out (Nat.le_refl _)) 1).mono ?_
  rintro e wq ⟨rfl, rfl⟩
  refine hK _ _ (Cls.mk' (Only.of_below HBd.out _)) ?_
  clear hK K
  (repeat (first | (refine lex_r fun K hK => ?_; go_big_quiet_op; refine hK _ ?_; clear hK K) | (refine lex_k fun K hK => ?_; go_simp; refine hK _ ?_; clear hK K)))
  (refine lex_e fun K hK => ?_; go_big_op)
  obtain ⟨y1, hy1⟩ : ∃ y, y = at0 (fs.map byt) 1 := ⟨_, rfl⟩
  have hy1l : y1.length ≤ 600 := by rw [hy1]; exact at0_len Hz.out 1
  rw [← hy1] at HR ⊢
  clear hy1
  refine (i_plainNumber (bt y1) (by show y1.length ≤ maxLen; unfold maxLen; omega) _).mono ?_
  rintro e w2 ⟨rfl, hb1⟩
  have HB2 := Lib.hid (HBd.out.trans (hb1.mono HBd.out.size))
  refine hK _ _ (Cls.mk' (Only.of_below HB2.out _)) ?_
  clear hK K hb1
  (repeat (first | (refine lex_r fun K hK => ?_; go_big_quiet_op; refine hK _ ?_; clear hK K) | (refine lex_k fun K hK => ?_; go_simp; refine hK _ ?_; clear hK K)))
  (refine lex_e fun K hK => ?_; go_big_op)
  refine (i_at (w := w2) (HX.out.below HB2.out HX.out.lt) (own_below HF.out HB2.out (Nat.le_refl _)) 2).mono ?_
  rintro e wq ⟨rfl, rfl⟩
  refine hK _ _ (Cls.mk' (Only.of_below HB2.out _)) ?_
  clear hK K
  (repeat (first | (refine lex_r fun K hK => ?_; go_big_quiet_op; refine hK _ ?_; clear hK K) | (refine lex_k fun K hK => ?_; go_simp; refine hK _ ?_; clear hK K)))
  (refine lex_e fun K hK => ?_; go_big_op)
  obtain ⟨y2, hy1⟩ : ∃ y, y = at0 (fs.map byt) 2 := ⟨_, rfl⟩
  have hy1l : y2.length ≤ 600 := by rw [hy1]; exact at0_len Hz.out 2
  rw [← hy1] at HR ⊢
  clear hy1
  refine (i_plainNumber (bt y2) (by show y2.length ≤ maxLen; unfold maxLen; omega) _).mono ?_
  rintro e w1 ⟨rfl, hb1⟩
  have HB1 := Lib.hid (HB2.out.trans (hb1.mono HB2.out.size))
  refine hK _ _ (Cls.mk' (Only.of_below HB1.out _)) ?_
  clear hK K hb1
  have zz1 := HB1.out.size
  have HO1 := Lib.hid (HO0.out.below HB1.out)
  (repeat (first | (refine lex_r fun K hK => ?_; go_big_quiet_op; refine hK _ ?_; clear hK K) | (refine lex_k fun K hK => ?_; go_simp; refine hK _ ?_; clear hK K)))
  (refine lex_e fun K hK => ?_; go_big_op)
  refine hK _ _ (Cls.mk' ((Only.of_below HB1.out _).alloc _)) ?_
  clear hK K
  refine lex_e fun K hK => ?_
  refine wp_append_any _ _ _ 37 (by rfl) (lo) 66 i0 (.agg #[.int .i64 0, .int .i64 0, .int .i64 0]) 3 24 Tryd.underlying37 hi hz0 hz1 hz2 rfl (by decide) _ _ _ (by rfl) (HO1.out.fl.s0.alloc _) _ _ 1 1 _ (by rfl) (reads_new _ _ 1 3 rfl) (by intro u hu; simp at hu; first | (subst hu; rfl) | (rcases hu with rfl | rfl <;> rfl) | (rcases hu with rfl | rfl | rfl <;> rfl)) (by unfold maxLen; omega) (by omega) (by (try simp) <;> (try omega)) ?_
  intro v8 w8 hown8 hgrow8 hblk8
  go_simp
  refine hK _ _ (Cls.mk' (Only.grown2 ((Only.of_below HB1.out (fun b => (Value.slice as0 m.1.length cs0).ownBlock = some b)).alloc _) hgrow8 (fun g hg => .inl hg))) ?_
  clear hK K
  obtain ⟨A8, c8, rfl, _, _, _⟩ := own_form hown8
  have hbl := fun o : Obj => (Below.refl w1.heap.size w1).alloc (Nat.le_refl _) o
  have HS8 := Lib.hid ((HO1.out.fl.below (hbl _)).pushS (x := (3, (pv y1 : Int), (pv y2 : Int))) hown8 hgrow8)
  have HI8 := Lib.hid ((HO1.out.ins.below (hbl _)).grown (own_below HO1.out.fl.s0 (hbl _) (Nat.le_refl _)) (by decide) hgrow8)
  have HR8 := Lib.hid (row_kept (own_below HO1.out.row (hbl _) (Nat.le_refl _)) (own_below HO1.out.fl.s0 (hbl _) (Nat.le_refl _)) (by decide) hgrow8)
  have K8 := Lib.hid ((((ChP.of_below lo rlT (fun b => b = gm) HB0.out).bel HB1.out).alloc _).row (own_below HO1.out.fl.s0 (hbl _) (Nat.le_refl _)) (Nat.le_refl _) rlT_sig hgrow8)
  clear hown8 hgrow8 hblk8 hbl
  (repeat (first | (refine lex_r fun K hK => ?_; go_big_quiet_op; refine hK _ ?_; clear hK K) | (refine lex_k fun K hK => ?_; go_simp; refine hK _ ?_; clear hK K)))
  obtain ⟨e0, e1, e2, e3⟩ := row_cells HR8.out HO1.out.len
  have f0 : w8.frozen? ⟨gm, q * 4, none⟩ = false := HR8.out.frozenAt (q * 4)
  (refine lex_l fun K hK => ?_; go_big_op)
  (refine hK _ _ ?_; clear hK K)
  clear lexNE e0 e1 e2 e3 f0
  clear cg ng
  obtain ⟨wf, hwf⟩ : ∃ wf, wf = (w8.setCell ⟨gm, q * 4, none⟩ (.slice A8 (m.1.length + 1) c8)) := ⟨_, rfl⟩
  have HOf := Lib.hid (show OpM wf lo gm q c xs0 (.slice A8 (m.1.length + 1) c8) v1 v2 v3 (m.1 ++ [(3, (pv y1 : Int), (pv y2 : Int))], m.2) by
   rw [hwf]
   exact ⟨row_put HR8.out HO1.out.len 0 _, HO1.out.len, HO1.out.lt, HS8.out.set (own_of HR8.out rfl) (by decide) _ _, HI8.out.set (own_of HR8.out rfl) (by decide) _ _⟩)
  have Kf := Lib.hid (show ChP lo rlT (fun b => b = gm) w wf by rw [hwf]; exact K8.out.setP (p := ⟨gm, q * 4, none⟩) rfl _)
  rw [← hwf]
  clear hwf
  go_wp2_with fail
  go_end0
  rw [HR.out]
  exact ⟨rfl, Kf.out, _, _, _, _, HOf.out⟩
 have e3 := not_word k3
 by_cases k4 : byt x = [115, 101, 116]
 ·have e4 := is_word k4
  have HR := Lib.hid (show rdLnI m (fs.map byt) = (m.1, m.2.1 ++ [(nA (at0 (fs.map byt) 1), ((fs.map byt).drop 2).map rdI)], m.2.2) by unfold rdLnI; rw [Ha.out]; exact (if_neg k0).trans ((if_neg k1).trans ((if_neg k2).trans ((if_neg k3).trans (if_pos k4)))))
  clear k0 k1 k2 k3 k4
  go_upto_region 12 with fail
  go_wp2_with fail
  refine (i_at (w := W0) HX.out HF.out 1).mono ?_
  rintro e wq ⟨rfl, rfl⟩
  obtain ⟨y1, hy1⟩ : ∃ y, y = at0 (fs.map byt) 1 := ⟨_, rfl⟩
  have hy1l : y1.length ≤ 600 := by rw [hy1]; exact at0_len Hz.out 1
  rw [← hy1] at HR ⊢
  clear hy1
  go_wp2_with fail
  have hcn := i_numberAfter (bt y1) (by show y1.length ≤ maxLen; unfold maxLen; omega) W0
  rw [byt_bt] at hcn
  refine hcn.mono ?_
  rintro e w1 ⟨rfl, hb1⟩
  clear hcn
  have HB1 := Lib.hid hb1
  have zz1 := hb1.size
  obtain ⟨B2, hB2⟩ : ∃ B2, B2 = w1.alloc (.cells #[.int .i64 (nA y1), .slice none 0 0] 71) := ⟨_, rfl⟩
  obtain ⟨gx, hgx⟩ : ∃ g, g = w1.heap.size := ⟨_, rfl⟩
  have HbB2 := Lib.hid (show Below W0.heap.size W0 B2 by rw [hB2]; exact HB1.out.alloc zz1 _)
  have HgB2 := Lib.hid (show Blk B2 gx 71 #[.int .i64 (nA y1), .slice none 0 0] by rw [hB2, hgx]; exact Blk.new _ _ _)
  have zgx : W0.heap.size ≤ gx := by omega
  have zB2 : gx < B2.heap.size := HgB2.out.lt
  have hgb : w.heap.size < B2.heap.size := by omega
  clear hb1 yb
  go_upto_region 13 with fail
  rw [← hB2, ← hgx]
  clear hB2 hgx
  go_wp2_with fail
  go_loopw [6] (fun iv wr => ∃ (k j : Nat) (L : List TOp) (vo : Value), Hid (k = j + 2) ∧ (k ≤ n ∨ j = 0) ∧ iv = .int .i64 k ∧ Blk wr gx 71 #[.int .i64 (nA y1), vo] ∧ wr.ownsRow B2.heap.size 73 3 vo j (recs eOp L) ∧ Hid (L = (((fs.map byt).drop 2).take j).map rdI) ∧ Only (fun b => b = gx) B2 wr) (fun iv _ => n - (intOf iv).toNat)
  case atStart => exact ⟨2, 0, [], _, Lib.hid rfl, .inr rfl, rfl, HgB2.out, World.ownsRow_nil _ _ _ _, Lib.hid rfl, Only.refl _ _⟩
  case round =>
   obtain ⟨k, j, L, vo, hkj, hj, rfl, hgb2, hro, hL, hon⟩ := hrel
   have zq := hon.size
   obtain ⟨Aq, cq, rfl, _, _, _⟩ := own_form hro
   have HGq := Lib.hid hgb2
   have HRq := Lib.hid hro
   have HOq := Lib.hid hon
   have HBq := Lib.hid (show Below W0.heap.size W0 wr from HbB2.out.trans (hon.below (by omega) (fun b hb => by omega)))
   have HXq := Lib.hid (HX.out.below HBq.out HX.out.lt)
   have HFq := Lib.hid (own_below HF.out HBq.out (Nat.le_refl _))
   have yb := blkS1 HXq.out
   have gy : (0 : Int) ≤ (k : Int) := by omega
   have hjn : j ≤ 40 := by have := hkj.out; omega
   clear hgb2 hro hon
   by_cases hlj : k < n
   ·have g7 : (k : Int) < (n : Int) := by omega
    obtain ⟨xi, hxi⟩ : ∃ xi, fs[k]? = some xi := ⟨_, List.getElem?_eq_getElem (by rw [Hfl.out]; exact hlj)⟩
    have hxz := Hz.out xi (List.mem_of_getElem? hxi)
    have hck : wr.cell? ⟨g0, k, none⟩ = some (.string xi) := by
     have h1 := HFq.out.cellAt k (by omega)
     rw [strs_get, hxi] at h1
     exact h1
    have Hs := Lib.hid (show (((fs.map byt).drop 2).take (j + 1)).map rdI = (((fs.map byt).drop 2).take j).map rdI ++ [rdI (byt xi)] by
     rw [List.take_add_one, List.map_append]
     congr 1
     rw [List.getElem?_drop, show 2 + j = k by have := hkj.out; omega, List.getElem?_map, hxi]
     rfl)
    have n1 : ¬ (Value.slice Aq j cq).ownBlock = some gx := fun h1 => by have := (HRq.out.lt _ h1).1; omega
    have n2 : ¬ (Value.slice Aq j cq).ownBlock = some w.heap.size := fun h1 => by have := (HRq.out.lt _ h1).1; omega
    have n3 : ¬ (Value.slice Aq j cq).ownBlock = some g0 := fun h1 => absurd ((own_of HRq.out h1).inj (own_of HFq.out rfl)) (by decide)
    have hg0l := (HFq.out.lt g0 rfl).2
    obtain ⟨q0, q1⟩ := blkS2 HGq.out
    have c1 := ocel (S := fun b => (Value.slice Aq j cq).ownBlock = some b) q1 HGq.out.lt n1
    have c2 := ocel (S := fun b => (Value.slice Aq j cq).ownBlock = some b) yb HXq.out.lt n2
    have c3 := ocel (S := fun b => (Value.slice Aq j cq).ownBlock = some b) hck hg0l n3
    have hsg2 := Lib.hid (hsg.below (HB0.out.trans ((HBq.out.mono (by omega)).drew)))
    obtain ⟨i0, hi, hz0, hz1, hz2⟩ := info_parts Tryd.infOpC
    clear hxi q0 q1 n2 n3 hck
    go_wp2_with fail
    refine wp_region_lexC (by kernel_rfl) (by kernel_rfl) (fun x => Only (fun b => (Value.slice Aq j cq).ownBlock = some b) wr x) ((Only.refl _ _).drew) (fun lexNE => ?_)
    (repeat (first | (refine lex_r fun K hK => ?_; go_big_quiet_op; refine hK _ ?_; clear hK K) | (refine lex_k fun K hK => ?_; go_simp; refine hK _ ?_; clear hK K)))
    (refine lex_e fun K hK => ?_; go_big_op)
    refine (i_parseOp xi (by unfold maxLen; omega) _ hsg2.out).mono ?_
    rintro e w3 ⟨rfl, hb3⟩
    have HB3 := Lib.hid ((Below.refl wr.heap.size wr).drew.trans hb3)
    have zz3 := HB3.out.size
    have HR3 := Lib.hid (own_below HRq.out HB3.out (Nat.le_refl _))
    refine hK _ _ (Cls.mk' (Only.of_below HB3.out _)) ?_
    clear hK K hb3
    (repeat (first | (refine lex_r fun K hK => ?_; go_big_quiet_op; refine hK _ ?_; clear hK K) | (refine lex_k fun K hK => ?_; go_simp; refine hK _ ?_; clear hK K)))
    (refine lex_e fun K hK => ?_; go_big_op)
    refine hK _ _ (Cls.mk' ((Only.of_below HB3.out _).alloc _)) ?_
    clear hK K
    obtain ⟨o0, ho0⟩ : ∃ o, o = rdI (byt xi) := ⟨_, rfl⟩
    refine lex_e fun K hK => ?_
    refine wp_append_any _ _ _ 69 (by rfl) (B2.heap.size) 73 i0 (.agg #[.int .i64 0, .int .i64 0, .int .i64 0]) 3 24 Tryd.underlying69 hi hz0 hz1 hz2 rfl (by decide) _ _ _ (by rfl) (HR3.out.alloc _) _ _ 1 1 _ (by rfl) (reads_new _ _ 1 3 rfl) (by intro u hu; simp at hu; first | (subst hu; rfl) | (rcases hu with rfl | rfl <;> rfl) | (rcases hu with rfl | rfl | rfl <;> rfl)) (by unfold maxLen; omega) (by omega) (by (try simp) <;> (try omega)) ?_
    intro v8 w8 hown8 hgrow8 hblk8
    go_simp
    refine hK _ _ (Cls.mk' (Only.grown2 ((Only.of_below HB3.out (fun b => (Value.slice Aq j cq).ownBlock = some b)).alloc _) hgrow8 (fun g hg => .inl hg))) ?_
    clear hK K
    obtain ⟨A8, c8, rfl, _, _, _⟩ := own_form hown8
    have HG8 := Lib.hid (((HGq.out.below HB3.out HGq.out.lt).alloc _).grown hgrow8 (fun e => n1 e.symm))
    have HO8 := Lib.hid (Only.grown2 ((HOq.out.trans (Only.of_below HB3.out _)).alloc _) hgrow8 (fun g hg => .inr (HR3.out.lt g hg).1))
    have HR8 := Lib.hid (show w8.ownsRow B2.heap.size 73 3 (.slice A8 (j + 1) c8) (j + 1) (recs eOp (L ++ [rdI (byt xi)])) by rw [recs_app]; exact hown8)
    clear hown8 hgrow8 hblk8
    (repeat (first | (refine lex_r fun K hK => ?_; go_big_quiet_op; refine hK _ ?_; clear hK K) | (refine lex_k fun K hK => ?_; go_simp; refine hK _ ?_; clear hK K)))
    obtain ⟨e5, e6⟩ := blkS2 HG8.out
    have f1 := HG8.out.frozen 1
    (refine lex_l fun K hK => ?_; go_big_op)
    (refine hK _ _ ?_; clear hK K)
    clear lexNE c1 c2 c3 e5 e6 f1 n1
    obtain ⟨wf, hwf⟩ : ∃ wf, wf = (w8.setCell ⟨gx, 1, none⟩ (.slice A8 (j + 1) c8)) := ⟨_, rfl⟩
    have HGf := Lib.hid (show Blk wf gx 71 #[.int .i64 (nA y1), .slice A8 (j + 1) c8] by rw [hwf]; exact HG8.out.set_ 1 _)
    have HRf := Lib.hid (show wf.ownsRow B2.heap.size 73 3 (.slice A8 (j + 1) c8) (j + 1) (recs eOp (L ++ [rdI (byt xi)])) by rw [hwf]; exact own_keep HR8.out (fun g hg => Below.heap_setCell _ ⟨gx, 1, none⟩ _ g (fun e => by have := (HR8.out.lt g hg).1; have e : g = gx := e; omega)))
    have HOf := Lib.hid (show Only (fun b => b = gx) B2 wf by rw [hwf]; exact HO8.out.setCell (.inl rfl) _)
    rw [← hwf]
    clear hwf
    go_wp2_with fail
    go_roundw
    case rel => exact ⟨k + 1, j + 1, L ++ [rdI (byt xi)], _, Lib.hid (by rw [hkj.out]), .inl (by omega), by go_num, HGf.out, HRf.out, Lib.hid (by rw [hL.out, Hs.out]), HOf.out⟩
    case measure => simp [intOf]; omega
   ·have hge : (n : Int) ≤ (k : Int) := by omega
    have HL := Lib.hid (show L = ((fs.map byt).drop 2).map rdI by
     rw [hL.out, List.take_of_length_le]
     rw [List.length_drop, List.length_map, Hfl.out]
     have := hkj.out
     omega)
    rw [← HL.out] at HR
    have HO1 := Lib.hid (HO0.out.below HBq.out)
    obtain ⟨R, xs, hrw⟩ := HO0.out.fl.s1
    have ho1 := hrw.own
    rw [List.length_map] at ho1
    obtain ⟨aa, ca, rfl, _, _, _⟩ := own_form ho1
    have hqR : ∀ b, R b → b < W0.heap.size := fun b hb => (hrw.rng b hb).2.lt
    have Hrq := Lib.hid (hrw.only (Only.of_below HBq.out (fun _ => False)) (NoT.none _ _ _))
    have Hoq := Lib.hid (own_below ho1 HBq.out (Nat.le_refl _))
    obtain ⟨i0, hi, hz0, hz1, hz2⟩ := info_parts Tryd.infAssignC
    have ng : ¬ (Value.slice aa m.2.1.length ca).ownBlock = some gm := fun h1 => absurd ((own_of Hoq.out h1).inj HO1.out.ofM) (by decide)
    have nx : ¬ (Value.slice aa m.2.1.length ca).ownBlock = some gx := fun h1 => by have := (ho1.lt _ h1).2; omega
    obtain ⟨q0, q1, q2, q3⟩ := HO1.out.cells
    obtain ⟨d0, d1⟩ := blkS2 HGq.out
    have c0 := ocel (S := fun b => (Value.slice aa m.2.1.length ca).ownBlock = some b) d0 HGq.out.lt nx
    have c1 := ocel (S := fun b => (Value.slice aa m.2.1.length ca).ownBlock = some b) d1 HGq.out.lt nx
    have cg := ocel (S := fun b => (Value.slice aa m.2.1.length ca).ownBlock = some b) q1 HO1.out.gmlt ng
    have hlw : lo ≤ wr.heap.size := by have := HBq.out.size; omega
    have hw0 : lo ≤ W0.heap.size := by omega
    have hwB : W0.heap.size ≤ B2.heap.size := by omega
    have hBw : B2.heap.size ≤ wr.heap.size := zq
    clear d0 d1 q0 q1 q2 q3 nx hrw ho1
    go_wp2_with fail
    refine wp_region_lexC (by kernel_rfl) (by kernel_rfl) (fun x => Only (fun b => (Value.slice aa m.2.1.length ca).ownBlock = some b) wr x) ((Only.refl _ _).drew) (fun lexNE => ?_)
    (repeat (first | (refine lex_r fun K hK => ?_; go_big_quiet_op; refine hK _ ?_; clear hK K) | (refine lex_k fun K hK => ?_; go_simp; refine hK _ ?_; clear hK K)))
    (refine lex_e fun K hK => ?_; go_big_op)
    refine hK _ _ (Cls.mk' (((Only.refl _ _).drew).alloc _)) ?_
    clear hK K
    have HO2 := Lib.hid (own_below Hoq.out (Below.refl wr.heap.size wr).drew (Nat.le_refl _))
    refine lex_e fun K hK => ?_
    refine wp_append_any _ _ _ 38 (by rfl) (lo) 71 i0 (.agg #[.int .i64 0, .slice none 0 0]) 2 32 Tryd.underlying38 hi hz0 hz1 hz2 rfl (by decide) _ _ _ (by rfl) (HO2.out.alloc _) _ _ 1 1 _ (by rfl) (reads_new _ _ 1 2 rfl) (by intro u hu; simp at hu; first | (subst hu; rfl) | (rcases hu with rfl | rfl <;> rfl) | (rcases hu with rfl | rfl | rfl <;> rfl)) (by unfold maxLen; omega) (by omega) (by (try simp) <;> (try omega)) ?_
    intro v8 w8 hown8 hgrow8 hblk8
    go_simp
    refine hK _ _ (Cls.mk' (Only.grown2 (((Only.refl (fun b => (Value.slice aa m.2.1.length ca).ownBlock = some b) wr).drew).alloc _) hgrow8 (fun g hg => .inl hg))) ?_
    clear hK K
    obtain ⟨A8, c8, rfl, _, _, _⟩ := own_form hown8
    have hbl := fun o : Obj => (Below.refl wr.heap.size wr).drew.alloc (Nat.le_refl _) o
    have HS8 := Lib.hid (FlS.pushA (w0 := W0) (HO1.out.fl.below (hbl _)) (Hrq.out.only (Only.of_below (hbl _) (fun _ => False)) (NoT.none _ _ _)) hqR hw0 hwB (own_below HRq.out (hbl _) (Nat.le_refl _)) (by unfold maxLen; omega) hown8 hgrow8)
    have HI8 := Lib.hid ((HO1.out.ins.below (hbl _)).grown (own_below Hoq.out (hbl _) (Nat.le_refl _)) (by decide) hgrow8)
    have HR8 := Lib.hid (row_kept (own_below HO1.out.row (hbl _) (Nat.le_refl _)) (own_below Hoq.out (hbl _) (Nat.le_refl _)) (by decide) hgrow8)
    have K8 := Lib.hid (((((ChP.of_below lo rlT (fun b => b = gm) HB0.out).bel HBq.out).drew).alloc _).row (own_below Hoq.out (hbl _) (Nat.le_refl _)) (Nat.le_refl _) rlT_asg hgrow8)
    clear hown8 hgrow8 hblk8 hbl
    (repeat (first | (refine lex_r fun K hK => ?_; go_big_quiet_op; refine hK _ ?_; clear hK K) | (refine lex_k fun K hK => ?_; go_simp; refine hK _ ?_; clear hK K)))
    obtain ⟨e0, e1, e2, e3⟩ := row_cells HR8.out HO1.out.len
    have f0 : w8.frozen? ⟨gm, q * 4 + 1, none⟩ = false := HR8.out.frozenAt (q * 4 + 1)
    (refine lex_l fun K hK => ?_; go_big_op)
    (refine hK _ _ ?_; clear hK K)
    clear lexNE e0 e1 e2 e3 f0
    clear c0 c1 cg ng
    obtain ⟨wf, hwf⟩ : ∃ wf, wf = (w8.setCell ⟨gm, q * 4 + 1, none⟩ (.slice A8 (m.2.1.length + 1) c8)) := ⟨_, rfl⟩
    have HOf := Lib.hid (show OpM wf lo gm q c xs0 v0 (.slice A8 (m.2.1.length + 1) c8) v2 v3 (m.1, m.2.1 ++ [(nA y1, L)], m.2.2) by
     rw [hwf]
     exact ⟨row_put HR8.out HO1.out.len 1 _, HO1.out.len, HO1.out.lt, HS8.out.set (own_of HR8.out rfl) (by decide) _ _, HI8.out.set (own_of HR8.out rfl) (by decide) _ _⟩)
    have Kf := Lib.hid (show ChP lo rlT (fun b => b = gm) w wf by rw [hwf]; exact K8.out.setP (p := ⟨gm, q * 4 + 1, none⟩) rfl _)
    rw [← hwf]
    clear hwf
    go_wp2_with fail
    go_end0
    rw [HR.out]
    exact ⟨rfl, Kf.out, _, _, _, _, HOf.out⟩
 have e4 := not_word k4
 by_cases k5 : byt x = [117, 115, 101]
 ·have e5 := is_word k5
  have HR := Lib.hid (show rdLnI m (fs.map byt) = (m.1, m.2.1, m.2.2.1 ++ [(nA (at0 (fs.map byt) 1), (pv (at0 (fs.map byt) 2) : Int), ((fs.map byt).drop 3).map nA)], m.2.2.2) by unfold rdLnI; rw [Ha.out]; exact (if_neg k0).trans ((if_neg k1).trans ((if_neg k2).trans ((if_neg k3).trans ((if_neg k4).trans (if_pos k5))))))
  clear k0 k1 k2 k3 k4 k5
  go_upto_region 19 with fail
  go_wp2_with fail
  refine (i_at (w := W0) HX.out HF.out 1).mono ?_
  rintro e wq ⟨rfl, rfl⟩
  obtain ⟨y1, hy1⟩ : ∃ y, y = at0 (fs.map byt) 1 := ⟨_, rfl⟩
  have hy1l : y1.length ≤ 600 := by rw [hy1]; exact at0_len Hz.out 1
  rw [← hy1] at HR ⊢
  clear hy1
  go_wp2_with fail
  have hcn := i_numberAfter (bt y1) (by show y1.length ≤ maxLen; unfold maxLen; omega) W0
  rw [byt_bt] at hcn
  refine hcn.mono ?_
  rintro e w1 ⟨rfl, hb1⟩
  clear hcn
  have HB1 := Lib.hid hb1
  have zz1' := hb1.size
  clear hb1
  go_wp2_with fail
  refine (i_at (w := w1) (HX.out.below HB1.out HX.out.lt) (own_below HF.out HB1.out (Nat.le_refl _)) 2).mono ?_
  rintro e wq ⟨rfl, rfl⟩
  obtain ⟨y2, hy2⟩ : ∃ y, y = at0 (fs.map byt) 2 := ⟨_, rfl⟩
  have hy2l : y2.length ≤ 600 := by rw [hy2]; exact at0_len Hz.out 2
  rw [← hy2] at HR ⊢
  clear hy2
  go_wp2_with fail
  have hcn := i_plainNumber (bt y2) (by show y2.length ≤ maxLen; unfold maxLen; omega) w1
  rw [byt_bt] at hcn
  refine hcn.mono ?_
  rintro e w2 ⟨rfl, hb1⟩
  clear hcn
  have HB2' := Lib.hid (HB1.out.trans (hb1.mono zz1'))
  have zz1 := HB2'.out.size
  obtain ⟨B2, hB2⟩ : ∃ B2, B2 = w2.alloc (.cells #[.int .i64 (nA y1), .int .i64 (pv y2 : Int), .slice none 0 0] 78) := ⟨_, rfl⟩
  obtain ⟨gx, hgx⟩ : ∃ g, g = w2.heap.size := ⟨_, rfl⟩
  have HbB2 := Lib.hid (show Below W0.heap.size W0 B2 by rw [hB2]; exact HB2'.out.alloc zz1 _)
  have HgB2 := Lib.hid (show Blk B2 gx 78 #[.int .i64 (nA y1), .int .i64 (pv y2 : Int), .slice none 0 0] by rw [hB2, hgx]; exact Blk.new _ _ _)
  have zgx : W0.heap.size ≤ gx := by omega
  have zB2 : gx < B2.heap.size := HgB2.out.lt
  have hgb : w.heap.size < B2.heap.size := by omega
  clear hb1 yb
  go_upto_region 20 with fail
  rw [← hB2, ← hgx]
  clear hB2 hgx
  go_wp2_with fail
  go_loopw [8] (fun iv wr => ∃ (k j : Nat) (L : List Int) (vo : Value), Hid (k = j + 3) ∧ (k ≤ n ∨ j = 0) ∧ iv = .int .i64 k ∧ Blk wr gx 78 #[.int .i64 (nA y1), .int .i64 (pv y2 : Int), vo] ∧ wr.ownsRow B2.heap.size 3 1 vo j (ints L) ∧ Hid (L = (((fs.map byt).drop 3).take j).map nA) ∧ Only (fun b => b = gx) B2 wr) (fun iv _ => n - (intOf iv).toNat)
  case atStart => exact ⟨3, 0, [], _, Lib.hid rfl, .inr rfl, rfl, HgB2.out, World.ownsRow_nil _ _ _ _, Lib.hid rfl, Only.refl _ _⟩
  case round =>
   obtain ⟨k, j, L, vo, hkj, hj, rfl, hgb2, hro, hL, hon⟩ := hrel
   have zq := hon.size
   obtain ⟨Aq, cq, rfl, _, _, _⟩ := own_form hro
   have HGq := Lib.hid hgb2
   have HRq := Lib.hid hro
   have HOq := Lib.hid hon
   have HBq := Lib.hid (show Below W0.heap.size W0 wr from HbB2.out.trans (hon.below (by omega) (fun b hb => by omega)))
   have HXq := Lib.hid (HX.out.below HBq.out HX.out.lt)
   have HFq := Lib.hid (own_below HF.out HBq.out (Nat.le_refl _))
   have yb := blkS1 HXq.out
   have gy : (0 : Int) ≤ (k : Int) := by omega
   have hjn : j ≤ 40 := by have := hkj.out; omega
   clear hgb2 hro hon
   by_cases hlj : k < n
   ·have g7 : (k : Int) < (n : Int) := by omega
    obtain ⟨xi, hxi⟩ : ∃ xi, fs[k]? = some xi := ⟨_, List.getElem?_eq_getElem (by rw [Hfl.out]; exact hlj)⟩
    have hxz := Hz.out xi (List.mem_of_getElem? hxi)
    have hck : wr.cell? ⟨g0, k, none⟩ = some (.string xi) := by
     have h1 := HFq.out.cellAt k (by omega)
     rw [strs_get, hxi] at h1
     exact h1
    have Hs := Lib.hid (show (((fs.map byt).drop 3).take (j + 1)).map nA = (((fs.map byt).drop 3).take j).map nA ++ [nA (byt xi)] by
     rw [List.take_add_one, List.map_append]
     congr 1
     rw [List.getElem?_drop, show 3 + j = k by have := hkj.out; omega, List.getElem?_map, hxi]
     rfl)
    have n1 : ¬ (Value.slice Aq j cq).ownBlock = some gx := fun h1 => by have := (HRq.out.lt _ h1).1; omega
    have n2 : ¬ (Value.slice Aq j cq).ownBlock = some w.heap.size := fun h1 => by have := (HRq.out.lt _ h1).1; omega
    have n3 : ¬ (Value.slice Aq j cq).ownBlock = some g0 := fun h1 => absurd ((own_of HRq.out h1).inj (own_of HFq.out rfl)) (by decide)
    have hg0l := (HFq.out.lt g0 rfl).2
    obtain ⟨q0, q1, q2⟩ := blkS3 HGq.out
    have c1 := ocel (S := fun b => (Value.slice Aq j cq).ownBlock = some b) q2 HGq.out.lt n1
    have c2 := ocel (S := fun b => (Value.slice Aq j cq).ownBlock = some b) yb HXq.out.lt n2
    have c3 := ocel (S := fun b => (Value.slice Aq j cq).ownBlock = some b) hck hg0l n3
    obtain ⟨i0, hi, hz0, hz1, hz2⟩ := info_parts Tryd.infoIntC
    clear hxi q0 q1 q2 n2 n3 hck
    go_wp2_with fail
    refine wp_region_lexC (by kernel_rfl) (by kernel_rfl) (fun x => Only (fun b => (Value.slice Aq j cq).ownBlock = some b) wr x) ((Only.refl _ _).drew) (fun lexNE => ?_)
    (repeat (first | (refine lex_r fun K hK => ?_; go_big_quiet_op; refine hK _ ?_; clear hK K) | (refine lex_k fun K hK => ?_; go_simp; refine hK _ ?_; clear hK K)))
    (refine lex_e fun K hK => ?_; go_big_op)
    refine (i_numberAfter xi (by unfold maxLen; omega) _).mono ?_
    rintro e w3 ⟨rfl, hb3⟩
    have HB3 := Lib.hid ((Below.refl wr.heap.size wr).drew.trans hb3)
    have zz3 := HB3.out.size
    have HR3 := Lib.hid (own_below HRq.out HB3.out (Nat.le_refl _))
    refine hK _ _ (Cls.mk' (Only.of_below HB3.out _)) ?_
    clear hK K hb3
    (repeat (first | (refine lex_r fun K hK => ?_; go_big_quiet_op; refine hK _ ?_; clear hK K) | (refine lex_k fun K hK => ?_; go_simp; refine hK _ ?_; clear hK K)))
    (refine lex_e fun K hK => ?_; go_big_op)
    refine hK _ _ (Cls.mk' ((Only.of_below HB3.out _).alloc _)) ?_
    clear hK K
    refine lex_e fun K hK => ?_
    refine wp_append_any _ _ _ 76 (by rfl) (B2.heap.size) 3 i0 (.int .i64 0) 1 8 Tryd.underlying76 hi hz0 hz1 hz2 rfl (by decide) _ _ _ (by rfl) (HR3.out.alloc _) _ _ 1 1 _ (by rfl) (reads_new _ _ 1 1 rfl) (by intro u hu; simp at hu; first | (subst hu; rfl) | (rcases hu with rfl | rfl <;> rfl) | (rcases hu with rfl | rfl | rfl <;> rfl)) (by unfold maxLen; omega) (by omega) (by (try simp) <;> (try omega)) ?_
    intro v8 w8 hown8 hgrow8 hblk8
    go_simp
    refine hK _ _ (Cls.mk' (Only.grown2 ((Only.of_below HB3.out (fun b => (Value.slice Aq j cq).ownBlock = some b)).alloc _) hgrow8 (fun g hg => .inl hg))) ?_
    clear hK K
    obtain ⟨A8, c8, rfl, _, _, _⟩ := own_form hown8
    have HG8 := Lib.hid (((HGq.out.below HB3.out HGq.out.lt).alloc _).grown hgrow8 (fun e => n1 e.symm))
    have HO8 := Lib.hid (Only.grown2 ((HOq.out.trans (Only.of_below HB3.out _)).alloc _) hgrow8 (fun g hg => .inr (HR3.out.lt g hg).1))
    have HR8 := Lib.hid (show w8.ownsRow B2.heap.size 3 1 (.slice A8 (j + 1) c8) (j + 1) (ints (L ++ [nA (byt xi)])) by rw [ints_app]; exact hown8)
    clear hown8 hgrow8 hblk8
    (repeat (first | (refine lex_r fun K hK => ?_; go_big_quiet_op; refine hK _ ?_; clear hK K) | (refine lex_k fun K hK => ?_; go_simp; refine hK _ ?_; clear hK K)))
    obtain ⟨e5, e6, e7⟩ := blkS3 HG8.out
    have f1 := HG8.out.frozen 2
    (refine lex_l fun K hK => ?_; go_big_op)
    (refine hK _ _ ?_; clear hK K)
    clear lexNE c1 c2 c3 e5 e6 e7 f1 n1
    obtain ⟨wf, hwf⟩ : ∃ wf, wf = (w8.setCell ⟨gx, 2, none⟩ (.slice A8 (j + 1) c8)) := ⟨_, rfl⟩
    have HGf := Lib.hid (show Blk wf gx 78 #[.int .i64 (nA y1), .int .i64 (pv y2 : Int), .slice A8 (j + 1) c8] by rw [hwf]; exact HG8.out.set_ 2 _)
    have HRf := Lib.hid (show wf.ownsRow B2.heap.size 3 1 (.slice A8 (j + 1) c8) (j + 1) (ints (L ++ [nA (byt xi)])) by rw [hwf]; exact own_keep HR8.out (fun g hg => Below.heap_setCell _ ⟨gx, 2, none⟩ _ g (fun e => by have := (HR8.out.lt g hg).1; have e : g = gx := e; omega)))
    have HOf := Lib.hid (show Only (fun b => b = gx) B2 wf by rw [hwf]; exact HO8.out.setCell (.inl rfl) _)
    rw [← hwf]
    clear hwf
    go_wp2_with fail
    go_roundw
    case rel => exact ⟨k + 1, j + 1, L ++ [nA (byt xi)], _, Lib.hid (by rw [hkj.out]), .inl (by omega), by go_num, HGf.out, HRf.out, Lib.hid (by rw [hL.out, Hs.out]), HOf.out⟩
    case measure => simp [intOf]; omega
   ·have hge : (n : Int) ≤ (k : Int) := by omega
    have HL := Lib.hid (show L = ((fs.map byt).drop 3).map nA by
     rw [hL.out, List.take_of_length_le]
     rw [List.length_drop, List.length_map, Hfl.out]
     have := hkj.out
     omega)
    rw [← HL.out] at HR
    have HO1 := Lib.hid (HO0.out.below HBq.out)
    obtain ⟨R, xs, hrw⟩ := HO0.out.ins
    have ho1 := hrw.own
    rw [List.length_map] at ho1
    obtain ⟨aa, ca, rfl, _, _, _⟩ := own_form ho1
    have hqR : ∀ b, R b → b < W0.heap.size := fun b hb => (hrw.rng b hb).2.lt
    have Hrq := Lib.hid (hrw.only (Only.of_below HBq.out (fun _ => False)) (NoT.none _ _ _))
    have Hoq := Lib.hid (own_below ho1 HBq.out (Nat.le_refl _))
    obtain ⟨i0, hi, hz0, hz1, hz2⟩ := info_parts Tryd.infInstC
    have ng : ¬ (Value.slice aa m.2.2.1.length ca).ownBlock = some gm := fun h1 => absurd ((own_of Hoq.out h1).inj HO1.out.ofM) (by decide)
    have nx : ¬ (Value.slice aa m.2.2.1.length ca).ownBlock = some gx := fun h1 => by have := (ho1.lt _ h1).2; omega
    obtain ⟨q0, q1, q2, q3⟩ := HO1.out.cells
    obtain ⟨d0, d1, d2⟩ := blkS3 HGq.out
    have c0 := ocel (S := fun b => (Value.slice aa m.2.2.1.length ca).ownBlock = some b) d0 HGq.out.lt nx
    have c1 := ocel (S := fun b => (Value.slice aa m.2.2.1.length ca).ownBlock = some b) d1 HGq.out.lt nx
    have c2 := ocel (S := fun b => (Value.slice aa m.2.2.1.length ca).ownBlock = some b) d2 HGq.out.lt nx
    have cg := ocel (S := fun b => (Value.slice aa m.2.2.1.length ca).ownBlock = some b) q2 HO1.out.gmlt ng
    have hlw : lo ≤ wr.heap.size := by have := HBq.out.size; omega
    have hw0 : lo ≤ W0.heap.size := by omega
    have hwB : W0.heap.size ≤ B2.heap.size := by omega
    have hBw : B2.heap.size ≤ wr.heap.size := zq
    clear d0 d1 d2 q0 q1 q2 q3 nx hrw ho1
    go_wp2_with fail
    refine wp_region_lexC (by kernel_rfl) (by kernel_rfl) (fun x => Only (fun b => (Value.slice aa m.2.2.1.length ca).ownBlock = some b) wr x) ((Only.refl _ _).drew) (fun lexNE => ?_)
    (repeat (first | (refine lex_r fun K hK => ?_; go_big_quiet_op; refine hK _ ?_; clear hK K) | (refine lex_k fun K hK => ?_; go_simp; refine hK _ ?_; clear hK K)))
    (refine lex_e fun K hK => ?_; go_big_op)
    refine hK _ _ (Cls.mk' (((Only.refl _ _).drew).alloc _)) ?_
    clear hK K
    have HO2 := Lib.hid (own_below Hoq.out (Below.refl wr.heap.size wr).drew (Nat.le_refl _))
    refine lex_e fun K hK => ?_
    refine wp_append_any _ _ _ 39 (by rfl) (lo) 78 i0 (.agg #[.int .i64 0, .int .i64 0, .slice none 0 0]) 3 40 Tryd.underlying39 hi hz0 hz1 hz2 rfl (by decide) _ _ _ (by rfl) (HO2.out.alloc _) _ _ 1 1 _ (by rfl) (reads_new _ _ 1 3 rfl) (by intro u hu; simp at hu; first | (subst hu; rfl) | (rcases hu with rfl | rfl <;> rfl) | (rcases hu with rfl | rfl | rfl <;> rfl)) (by unfold maxLen; omega) (by omega) (by (try simp) <;> (try omega)) ?_
    intro v8 w8 hown8 hgrow8 hblk8
    go_simp
    refine hK _ _ (Cls.mk' (Only.grown2 (((Only.refl (fun b => (Value.slice aa m.2.2.1.length ca).ownBlock = some b) wr).drew).alloc _) hgrow8 (fun g hg => .inl hg))) ?_
    clear hK K
    obtain ⟨A8, c8, rfl, _, _, _⟩ := own_form hown8
    have hbl := fun o : Obj => (Below.refl wr.heap.size wr).drew.alloc (Nat.le_refl _) o
    have HI8 := Lib.hid (InS.pushI (w0 := W0) (Hrq.out.only (Only.of_below (hbl _) (fun _ => False)) (NoT.none _ _ _)) hqR hw0 hwB (own_below HRq.out (hbl _) (Nat.le_refl _)) (by unfold maxLen; omega) hown8 hgrow8)
    have HS8 := Lib.hid ((HO1.out.fl.below (hbl _)).grown (own_below Hoq.out (hbl _) (Nat.le_refl _)) (by decide) hgrow8)
    have HR8 := Lib.hid (row_kept (own_below HO1.out.row (hbl _) (Nat.le_refl _)) (own_below Hoq.out (hbl _) (Nat.le_refl _)) (by decide) hgrow8)
    have K8 := Lib.hid (((((ChP.of_below lo rlT (fun b => b = gm) HB0.out).bel HBq.out).drew).alloc _).row (own_below Hoq.out (hbl _) (Nat.le_refl _)) (Nat.le_refl _) rlT_ins hgrow8)
    clear hown8 hgrow8 hblk8 hbl
    (repeat (first | (refine lex_r fun K hK => ?_; go_big_quiet_op; refine hK _ ?_; clear hK K) | (refine lex_k fun K hK => ?_; go_simp; refine hK _ ?_; clear hK K)))
    obtain ⟨e0, e1, e2, e3⟩ := row_cells HR8.out HO1.out.len
    have f0 : w8.frozen? ⟨gm, q * 4 + 2, none⟩ = false := HR8.out.frozenAt (q * 4 + 2)
    (refine lex_l fun K hK => ?_; go_big_op)
    (refine hK _ _ ?_; clear hK K)
    clear lexNE e0 e1 e2 e3 f0
    clear c0 c1 c2 cg ng
    obtain ⟨wf, hwf⟩ : ∃ wf, wf = (w8.setCell ⟨gm, q * 4 + 2, none⟩ (.slice A8 (m.2.2.1.length + 1) c8)) := ⟨_, rfl⟩
    have HOf := Lib.hid (show OpM wf lo gm q c xs0 v0 v1 (.slice A8 (m.2.2.1.length + 1) c8) v3 (m.1, m.2.1, m.2.2.1 ++ [(nA y1, (pv y2 : Int), L)], m.2.2.2) by
     rw [hwf]
     exact ⟨row_put HR8.out HO1.out.len 2 _, HO1.out.len, HO1.out.lt, HS8.out.set (own_of HR8.out rfl) (by decide) _ _, HI8.out.set (own_of HR8.out rfl) (by decide) _ _⟩)
    have Kf := Lib.hid (show ChP lo rlT (fun b => b = gm) w wf by rw [hwf]; exact K8.out.setP (p := ⟨gm, q * 4 + 2, none⟩) rfl _)
    rw [← hwf]
    clear hwf
    go_wp2_with fail
    go_end0
    rw [HR.out]
    exact ⟨rfl, Kf.out, _, _, _, _, HOf.out⟩
 have e5 := not_word k5
 by_cases k6 : byt x = [109, 101, 109]
 ·have e6 := is_word k6
  have HR := Lib.hid (show rdLnI m (fs.map byt) = (m.1, m.2.1, m.2.2.1, m.2.2.2 ++ [(nA (at0 (fs.map byt) 1), nA (at0 (fs.map byt) 2), nA (at0 (fs.map byt) 3), nA (at0 (fs.map byt) 4))]) by unfold rdLnI; rw [Ha.out]; exact (if_neg k0).trans ((if_neg k1).trans ((if_neg k2).trans ((if_neg k3).trans ((if_neg k4).trans ((if_neg k5).trans (if_pos k6)))))))
  clear k0 k1 k2 k3 k4 k5 k6
  go_upto_region 26 with fail
  obtain ⟨i0, hi, hz0, hz1, hz2⟩ := info_parts Tryd.infMemC
  obtain ⟨as0, cs0, rfl, _, _, _⟩ := own_form HO0.out.fl.s3
  have ng : ¬ (Value.slice as0 m.2.2.2.length cs0).ownBlock = some gm := fun h1 => absurd ((own_of HO0.out.fl.s3 h1).inj HO0.out.ofM) (by decide)
  obtain ⟨q0, q1, q2, q3⟩ := HO0.out.cells
  have cg := ocel (S := fun b => (Value.slice as0 m.2.2.2.length cs0).ownBlock = some b) q3 hgm0 ng
  clear q0 q1 q2 q3
  have HBd := Lib.hid ((Below.refl W0.heap.size W0).drew)
  refine wp_region_lexC (by kernel_rfl) (by kernel_rfl) (fun x => Only (fun b => (Value.slice as0 m.2.2.2.length cs0).ownBlock = some b) W0 x) ((Only.refl _ _).drew) (fun lexNE => ?_)
  (repeat (first | (refine lex_r fun K hK => ?_; go_big_quiet_op; refine hK _ ?_; clear hK K) | (refine lex_k fun K hK => ?_; go_simp; refine hK _ ?_; clear hK K)))
  (refine lex_e fun K hK => ?_; go_big_op)
  refine (i_at (w := W0.drew) (HX.out.below HBd.out HX.out.lt) (own_below HF.out HBd.out (Nat.le_refl _)) 1).mono ?_
  rintro e wq ⟨rfl, rfl⟩
  refine hK _ _ (Cls.mk' (Only.of_below HBd.out _)) ?_
  clear hK K
  (repeat (first | (refine lex_r fun K hK => ?_; go_big_quiet_op; refine hK _ ?_; clear hK K) | (refine lex_k fun K hK => ?_; go_simp; refine hK _ ?_; clear hK K)))
  (refine lex_e fun K hK => ?_; go_big_op)
  obtain ⟨y1, hy1⟩ : ∃ y, y = at0 (fs.map byt) 1 := ⟨_, rfl⟩
  have hy1l : y1.length ≤ 600 := by rw [hy1]; exact at0_len Hz.out 1
  rw [← hy1] at HR ⊢
  clear hy1
  refine (i_numberAfter (bt y1) (by show y1.length ≤ maxLen; unfold maxLen; omega) _).mono ?_
  rintro e w2 ⟨rfl, hb1⟩
  have HB2 := Lib.hid (HBd.out.trans (hb1.mono HBd.out.size))
  refine hK _ _ (Cls.mk' (Only.of_below HB2.out _)) ?_
  clear hK K hb1
  (repeat (first | (refine lex_r fun K hK => ?_; go_big_quiet_op; refine hK _ ?_; clear hK K) | (refine lex_k fun K hK => ?_; go_simp; refine hK _ ?_; clear hK K)))
  (refine lex_e fun K hK => ?_; go_big_op)
  refine (i_at (w := w2) (HX.out.below HB2.out HX.out.lt) (own_below HF.out HB2.out (Nat.le_refl _)) 2).mono ?_
  rintro e wq ⟨rfl, rfl⟩
  refine hK _ _ (Cls.mk' (Only.of_below HB2.out _)) ?_
  clear hK K
  (repeat (first | (refine lex_r fun K hK => ?_; go_big_quiet_op; refine hK _ ?_; clear hK K) | (refine lex_k fun K hK => ?_; go_simp; refine hK _ ?_; clear hK K)))
  (refine lex_e fun K hK => ?_; go_big_op)
  obtain ⟨y2, hy1⟩ : ∃ y, y = at0 (fs.map byt) 2 := ⟨_, rfl⟩
  have hy1l : y2.length ≤ 600 := by rw [hy1]; exact at0_len Hz.out 2
  rw [← hy1] at HR ⊢
  clear hy1
  refine (i_numberAfter (bt y2) (by show y2.length ≤ maxLen; unfold maxLen; omega) _).mono ?_
  rintro e w3 ⟨rfl, hb1⟩
  have HB3 := Lib.hid (HB2.out.trans (hb1.mono HB2.out.size))
  refine hK _ _ (Cls.mk' (Only.of_below HB3.out _)) ?_
  clear hK K hb1
  (repeat (first | (refine lex_r fun K hK => ?_; go_big_quiet_op; refine hK _ ?_; clear hK K) | (refine lex_k fun K hK => ?_; go_simp; refine hK _ ?_; clear hK K)))
  (refine lex_e fun K hK => ?_; go_big_op)
  refine (i_at (w := w3) (HX.out.below HB3.out HX.out.lt) (own_below HF.out HB3.out (Nat.le_refl _)) 3).mono ?_
  rintro e wq ⟨rfl, rfl⟩
  refine hK _ _ (Cls.mk' (Only.of_below HB3.out _)) ?_
  clear hK K
  (repeat (first | (refine lex_r fun K hK => ?_; go_big_quiet_op; refine hK _ ?_; clear hK K) | (refine lex_k fun K hK => ?_; go_simp; refine hK _ ?_; clear hK K)))
  (refine lex_e fun K hK => ?_; go_big_op)
  obtain ⟨y3, hy1⟩ : ∃ y, y = at0 (fs.map byt) 3 := ⟨_, rfl⟩
  have hy1l : y3.length ≤ 600 := by rw [hy1]; exact at0_len Hz.out 3
  rw [← hy1] at HR ⊢
  clear hy1
  refine (i_numberAfter (bt y3) (by show y3.length ≤ maxLen; unfold maxLen; omega) _).mono ?_
  rintro e w4 ⟨rfl, hb1⟩
  have HB4 := Lib.hid (HB3.out.trans (hb1.mono HB3.out.size))
  refine hK _ _ (Cls.mk' (Only.of_below HB4.out _)) ?_
  clear hK K hb1
  (repeat (first | (refine lex_r fun K hK => ?_; go_big_quiet_op; refine hK _ ?_; clear hK K) | (refine lex_k fun K hK => ?_; go_simp; refine hK _ ?_; clear hK K)))
  (refine lex_e fun K hK => ?_; go_big_op)
  refine (i_at (w := w4) (HX.out.below HB4.out HX.out.lt) (own_below HF.out HB4.out (Nat.le_refl _)) 4).mono ?_
  rintro e wq ⟨rfl, rfl⟩
  refine hK _ _ (Cls.mk' (Only.of_below HB4.out _)) ?_
  clear hK K
  (repeat (first | (refine lex_r fun K hK => ?_; go_big_quiet_op; refine hK _ ?_; clear hK K) | (refine lex_k fun K hK => ?_; go_simp; refine hK _ ?_; clear hK K)))
  (refine lex_e fun K hK => ?_; go_big_op)
  obtain ⟨y4, hy1⟩ : ∃ y, y = at0 (fs.map byt) 4 := ⟨_, rfl⟩
  have hy1l : y4.length ≤ 600 := by rw [hy1]; exact at0_len Hz.out 4
  rw [← hy1] at HR ⊢
  clear hy1
  refine (i_numberAfter (bt y4) (by show y4.length ≤ maxLen; unfold maxLen; omega) _).mono ?_
  rintro e w1 ⟨rfl, hb1⟩
  have HB1 := Lib.hid (HB4.out.trans (hb1.mono HB4.out.size))
  refine hK _ _ (Cls.mk' (Only.of_below HB1.out _)) ?_
  clear hK K hb1
  have zz1 := HB1.out.size
  have HO1 := Lib.hid (HO0.out.below HB1.out)
  (repeat (first | (refine lex_r fun K hK => ?_; go_big_quiet_op; refine hK _ ?_; clear hK K) | (refine lex_k fun K hK => ?_; go_simp; refine hK _ ?_; clear hK K)))
  (refine lex_e fun K hK => ?_; go_big_op)
  refine hK _ _ (Cls.mk' ((Only.of_below HB1.out _).alloc _)) ?_
  clear hK K
  refine lex_e fun K hK => ?_
  refine wp_append_any _ _ _ 40 (by rfl) (lo) 80 i0 (.agg #[.int .i64 0, .int .i64 0, .int .i64 0, .int .i64 0]) 4 32 Tryd.underlying40 hi hz0 hz1 hz2 rfl (by decide) _ _ _ (by rfl) (HO1.out.fl.s3.alloc _) _ _ 1 1 _ (by rfl) (reads_new _ _ 1 4 rfl) (by intro u hu; simp at hu; first | (subst hu; rfl) | (rcases hu with rfl | rfl <;> rfl) | (rcases hu with rfl | rfl | rfl <;> rfl) | (rcases hu with rfl | rfl | rfl | rfl <;> rfl)) (by unfold maxLen; omega) (by omega) (by (try simp) <;> (try omega)) ?_
  intro v8 w8 hown8 hgrow8 hblk8
  go_simp
  refine hK _ _ (Cls.mk' (Only.grown2 ((Only.of_below HB1.out (fun b => (Value.slice as0 m.2.2.2.length cs0).ownBlock = some b)).alloc _) hgrow8 (fun g hg => .inl hg))) ?_
  clear hK K
  obtain ⟨A8, c8, rfl, _, _, _⟩ := own_form hown8
  have hbl := fun o : Obj => (Below.refl w1.heap.size w1).alloc (Nat.le_refl _) o
  have HS8 := Lib.hid ((HO1.out.fl.below (hbl _)).pushM (x := (nA y1, nA y2, nA y3, nA y4)) hown8 hgrow8)
  have HI8 := Lib.hid ((HO1.out.ins.below (hbl _)).grown (own_below HO1.out.fl.s3 (hbl _) (Nat.le_refl _)) (by decide) hgrow8)
  have HR8 := Lib.hid (row_kept (own_below HO1.out.row (hbl _) (Nat.le_refl _)) (own_below HO1.out.fl.s3 (hbl _) (Nat.le_refl _)) (by decide) hgrow8)
  have K8 := Lib.hid ((((ChP.of_below lo rlT (fun b => b = gm) HB0.out).bel HB1.out).alloc _).row (own_below HO1.out.fl.s3 (hbl _) (Nat.le_refl _)) (Nat.le_refl _) rlT_mem hgrow8)
  clear hown8 hgrow8 hblk8 hbl
  (repeat (first | (refine lex_r fun K hK => ?_; go_big_quiet_op; refine hK _ ?_; clear hK K) | (refine lex_k fun K hK => ?_; go_simp; refine hK _ ?_; clear hK K)))
  obtain ⟨e0, e1, e2, e3⟩ := row_cells HR8.out HO1.out.len
  have f0 : w8.frozen? ⟨gm, q * 4 + 3, none⟩ = false := HR8.out.frozenAt (q * 4 + 3)
  (refine lex_l fun K hK => ?_; go_big_op)
  (refine hK _ _ ?_; clear hK K)
  clear lexNE e0 e1 e2 e3 f0
  clear cg ng
  obtain ⟨wf, hwf⟩ : ∃ wf, wf = (w8.setCell ⟨gm, q * 4 + 3, none⟩ (.slice A8 (m.2.2.2.length + 1) c8)) := ⟨_, rfl⟩
  have HOf := Lib.hid (show OpM wf lo gm q c xs0 v0 v1 v2 (.slice A8 (m.2.2.2.length + 1) c8) (m.1, m.2.1, m.2.2.1, m.2.2.2 ++ [(nA y1, nA y2, nA y3, nA y4)]) by
   rw [hwf]
   exact ⟨row_put HR8.out HO1.out.len 3 _, HO1.out.len, HO1.out.lt, HS8.out.set (own_of HR8.out rfl) (by decide) _ _, HI8.out.set (own_of HR8.out rfl) (by decide) _ _⟩)
  have Kf := Lib.hid (show ChP lo rlT (fun b => b = gm) w wf by rw [hwf]; exact K8.out.setP (p := ⟨gm, q * 4 + 3, none⟩) rfl _)
  rw [← hwf]
  clear hwf
  go_wp2_with fail
  go_end0
  rw [HR.out]
  exact ⟨rfl, Kf.out, _, _, _, _, HOf.out⟩
 have e6 := not_word k6
 have HR := Lib.hid (show rdLnI m (fs.map byt) = m by unfold rdLnI; rw [Ha.out]; exact (if_neg k0).trans ((if_neg k1).trans ((if_neg k2).trans ((if_neg k3).trans ((if_neg k4).trans ((if_neg k5).trans (if_neg k6)))))))
 clear k0 k1 k2 k3 k4 k5 k6
 go_wp2_with fail
 go_end0
 rw [HR.out]
 exact ⟨rfl, ChP.of_below _ _ _ HB0.out, _, _, _, _, HO0.out⟩
end Go.Proofs.YthjdigcpgpiiiaaDoor

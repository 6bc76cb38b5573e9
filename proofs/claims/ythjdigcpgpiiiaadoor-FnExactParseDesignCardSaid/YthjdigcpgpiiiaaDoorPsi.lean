/- Contract: a line read into the open module: the reference's function. -/
import Derived.Test.YthjdigcpgpiiiaaDoorGn
import Derived.Test.YthjdigcpgpiiiaaDoorGi
import Derived.Deep.CutRange
import Derived.Outline
namespace Go.Proofs.YthjdigcpgpiiiaaDoor
open Go.RowKit

def kdU (l : Wd8) : Nat → Int
 | 0 => -1
 | k + 1 => if l = kindW (k : Int) then (k : Int) else kdU l k
theorem kdU_four (l : Wd8) : kdU l 4 = kdS l := rfl
theorem kdU_yes {l : Wd8} {k : Nat} (h : l = kindW (k : Int)) : kdU l (k + 1) = (k : Int) := if_pos h
theorem kdU_no {l : Wd8} {k : Nat} (h : ¬ l = kindW (k : Int)) : kdU l (k + 1) = kdU l k := if_neg h
theorem kdS_cases (l : Wd8) : kdS l = -1 ∨ (kdS l = 0 ∧ l = kindW 0) ∨ (kdS l = 1 ∧ l = kindW 1) ∨ (kdS l = 2 ∧ l = kindW 2) ∨ (kdS l = 3 ∧ l = kindW 3) := by
 unfold kdS
 by_cases h3 : l = kindW 3
 ·rw [if_pos h3]; exact .inr (.inr (.inr (.inr ⟨rfl, h3⟩)))
 by_cases h2 : l = kindW 2
 ·rw [if_neg h3, if_pos h2]; exact .inr (.inr (.inr (.inl ⟨rfl, h2⟩)))
 by_cases h1 : l = kindW 1
 ·rw [if_neg h3, if_neg h2, if_pos h1]; exact .inr (.inr (.inl ⟨rfl, h1⟩))
 by_cases h0 : l = kindW 0
 ·rw [if_neg h3, if_neg h2, if_neg h1, if_pos h0]; exact .inr (.inl ⟨rfl, h0⟩)
 ·rw [if_neg h3, if_neg h2, if_neg h1, if_neg h0]; exact .inl rfl
theorem puV_eq (l : Wd8) : puV l = .tuple #[.int .i64 (pv l : Int), .bool (Tx.pu l).isSome] := by
 unfold puV pv
 cases Tx.pu l <;> rfl
def IsSl (v : Value) : Prop := ∃ A n c, v = .slice A n c
/-- what the call leaves -/
def LnQ (lo : Nat) (o : Option TModule) (w : World) (e : Ending) (w' : World) : Prop := ChP lo rlT (fun _ => False) w w' ∧ match o with
 | none => ∃ v0 v1 v2 v3, (IsSl v0 ∧ IsSl v1 ∧ IsSl v2 ∧ IsSl v3) ∧ e = .returned (.tuple #[.agg #[v0, v1, v2, v3], .bool false])
 | some m => ∃ v0 v1 v2 v3, e = .returned (.tuple #[.agg #[v0, v1, v2, v3], .bool true]) ∧ FlS w' lo v0 v1 v3 m.1 m.2.1 m.2.2.2 ∧ InS w' lo v2 m.2.2.1
/-- the module in its box, the result's box -/
structure LnM (w : World) (lo gm gr : Nat) (v0 v1 v2 v3 : Value) (m : TModule) : Prop where
 mod : Blk w gm 42 #[v0, v1, v2, v3]
 res : Blk w gr 42 #[.slice none 0 0, .slice none 0 0, .slice none 0 0, .slice none 0 0]
 fl : FlS w lo v0 v1 v3 m.1 m.2.1 m.2.2.2
 ins : InS w lo v2 m.2.2.1
section
variable {w w' : World} {lo gm gr : Nat} {v0 v1 v2 v3 u0 u1 u2 u3 : Value} {m : TModule}
theorem LnM.below (h : LnM w lo gm gr v0 v1 v2 v3 m) (hb : Below w.heap.size w w') : LnM w' lo gm gr v0 v1 v2 v3 m :=
 ⟨h.mod.below hb h.mod.lt, h.res.below hb h.res.lt, h.fl.below hb, h.ins.below hb⟩
theorem blk_row {base size n g : Nat} {e t : TypeId} {v : Value} {xs : List Value} {cs : Array Value} (h : Blk w g t cs) (ho : w.ownsRow base e size v n xs) (hne : e ≠ t) (hg : w.grownBy w' v.ownBlock) : Blk w' g t cs :=
 h.grown hg (fun he => hne ((own_of ho he.symm).inj h.of))
theorem blk_off {W : World} {g g' : Nat} {t : TypeId} {cs : Array Value} (h : Blk W g t cs) (hne : g ≠ g') (j : Nat) (u : Value) : Blk (W.setCell ⟨g', j, none⟩ u) g t cs := (Below.heap_setCell _ ⟨g', j, none⟩ _ g hne).trans h
/-- the result's box is written -/
theorem ln_ret (hf : FlS w lo v0 v1 v3 m.1 m.2.1 m.2.2.2) (hi : InS w lo v2 m.2.2.1) (hr : Blk w gr 42 #[u0, u1, u2, u3]) (a b c d : Value) :
  FlS ((((w.setCell ⟨gr, 0, none⟩ a).setCell ⟨gr, 1, none⟩ b).setCell ⟨gr, 2, none⟩ c).setCell ⟨gr, 3, none⟩ d) lo v0 v1 v3 m.1 m.2.1 m.2.2.2 ∧
  InS ((((w.setCell ⟨gr, 0, none⟩ a).setCell ⟨gr, 1, none⟩ b).setCell ⟨gr, 2, none⟩ c).setCell ⟨gr, 3, none⟩ d) lo v2 m.2.2.1 := by
 have h0 := hr.of
 have h1 := (hr.set_ 0 a).of
 have h2 := ((hr.set_ 0 a).set_ 1 b).of
 have h3 := (((hr.set_ 0 a).set_ 1 b).set_ 2 c).of
 exact ⟨(((hf.set h0 (by decide) 0 a).set h1 (by decide) 1 b).set h2 (by decide) 2 c).set h3 (by decide) 3 d, (((hi.set h0 (by decide) 0 a).set h1 (by decide) 1 b).set h2 (by decide) 2 c).set h3 (by decide) 3 d⟩
end
-- the result: $1 world $2 $3 $4 $5 the module's parts $6 bool $7 its box $8 the result's box $9 ChP
-- no line of a module: $1 world $2 LnM (hidden) $3 ChP
-- the end of a line that is right: $1 place $2 $3 $4 $5 the module's new parts $6 the new module $7 the region behind
theorem fld_at {w : World} {fb g0 n cc : Nat} {fs : List ByteArray} (h : w.ownsRow fb 9 1 (.slice (some ⟨g0, 0, none⟩) n cc) n (strs fs)) {i : Nat} (hi : i < n) :
  ∃ x, at0 (fs.map byt) i = byt x ∧ x ∈ fs ∧ w.cell? ⟨g0, i, none⟩ = some (.string x) := by
 have hl : fs.length = n := (Reads.of_own h).slen
 have hx : fs[i]? = some fs[i] := List.getElem?_eq_getElem (by omega)
 refine ⟨fs[i], at0_some hx, List.mem_of_getElem? hx, ?_⟩
 have h1 := h.cellAt i (by omega)
 rw [strs_get, hx] at h1
 exact h1
-- a field: $1 place $2 name $3 cell's fact
-- a signal: $1 its kind
-- .. is put behind: $1 the new signal $2 the world $3 its Below $4 its box
-- a kind of signal that is no register: $1 its number $2 its bytes
-- the line's first word is a signal's, but it has not so many fields
-- 'set'
-- 'use'
-- 'mem'
-- no line: $1 what is not so
-- one of the four words: $1 its number $2 its bytes
set_option maxRecDepth 100000 in
set_option maxHeartbeats 16000000 in
theorem s_l05Line {w : World} {lo n cc fb : Nat} {A : Option Addr} {v0 v1 v2 v3 : Value} {m : TModule} {fs : List ByteArray} (hO : FlS w lo v0 v1 v3 m.1 m.2.1 m.2.2.2) (hI : InS w lo v2 m.2.2.1) (hlo : lo ≤ w.heap.size) (hf : w.ownsRow fb 9 1 (.slice A n cc) n (strs fs)) (hn0 : 0 < n) (hn : n ≤ 40) (hz : ∀ x ∈ fs, x.size ≤ 600)
  (hm : sModule m ≤ 1048576) :
  Calls Tryd.prog 15 #[.agg #[v0, v1, v2, v3], .slice A n cc] w (LnQ lo (rdLnS m (fs.map byt)) w) := by
 obtain ⟨g0, hg0⟩ : ∃ g, A = some ⟨g, 0, none⟩ := by
  obtain ⟨_, _, hv, _, _, h2⟩ := own_form hf
  injection hv with hA
  obtain ⟨g, h3, _⟩ := h2 hn0
  exact ⟨g, hA.trans h3⟩
 subst hg0
 have hlen : fs.length = n := (Reads.of_own hf).slen
 obtain ⟨x, hx⟩ : ∃ x, fs[0]? = some x := ⟨_, List.getElem?_eq_getElem (by omega)⟩
 have Ha := Lib.hid (at0_some hx)
 have Hfl := Lib.hid hlen
 have Hz := Lib.hid hz
 obtain ⟨l0, l1, l2, l3⟩ := mod_lens m
 obtain ⟨n0, hn0'⟩ : ∃ k, m.1.length = k := ⟨_, rfl⟩
 obtain ⟨n1, hn1'⟩ : ∃ k, m.2.1.length = k := ⟨_, rfl⟩
 obtain ⟨n2, hn2'⟩ : ∃ k, m.2.2.1.length = k := ⟨_, rfl⟩
 obtain ⟨n3, hn3'⟩ : ∃ k, m.2.2.2.length = k := ⟨_, rfl⟩
 obtain ⟨a0, c0, rfl⟩ : ∃ a c, v0 = .slice a n0 c := by
  obtain ⟨a, c, h, _⟩ := own_form hO.s0
  exact ⟨a, c, by rw [h, hn0']⟩
 obtain ⟨a3, c3, rfl⟩ : ∃ a c, v3 = .slice a n3 c := by
  obtain ⟨a, c, h, _⟩ := own_form hO.s3
  exact ⟨a, c, by rw [h, hn3']⟩
 obtain ⟨a1, c1, rfl⟩ : ∃ a c, v1 = .slice a n1 c := by
  obtain ⟨R, xs, h1⟩ := hO.s1
  have h2 := h1.own
  rw [List.length_map] at h2
  obtain ⟨a, c, h, _⟩ := own_form h2
  exact ⟨a, c, by rw [h, hn1']⟩
 obtain ⟨a2, c2, rfl⟩ : ∃ a c, v2 = .slice a n2 c := by
  obtain ⟨R, xs, h1⟩ := hI
  have h2 := h1.own
  rw [List.length_map] at h2
  obtain ⟨a, c, h, _⟩ := own_form h2
  exact ⟨a, c, by rw [h, hn2']⟩
 rw [hn0'] at l0
 rw [hn1'] at l1
 rw [hn2'] at l2
 rw [hn3'] at l3
 have Hn := Lib.hid (And.intro hn0' (And.intro hn1' (And.intro hn2' hn3')))
 clear hn0' hn1' hn2' hn3'
 obtain ⟨U, hU⟩ : ∃ U, U = (w.alloc (.cells #[.slice a0 n0 c0, .slice a1 n1 c1, .slice a2 n2 c2, .slice a3 n3 c3] 42)).alloc (.cells #[.slice none 0 0, .slice none 0 0, .slice none 0 0, .slice none 0 0] 42) := ⟨_, rfl⟩
 have HBU := Lib.hid (show Below w.heap.size w U by rw [hU]; exact ((Below.refl _ _).alloc (Nat.le_refl _) _).alloc (by simp) _)
 have HMU := Lib.hid (show LnM U lo w.heap.size (w.heap.size + 1) (.slice a0 n0 c0) (.slice a1 n1 c1) (.slice a2 n2 c2) (.slice a3 n3 c3) m by
  refine ⟨?_, ?_, hO.below HBU.out, hI.below HBU.out⟩
  ·rw [hU]; exact (Blk.new _ _ _).alloc _
  ·rw [hU]; exact blk_new_at (by simp))
 have HFU := Lib.hid (own_below hf HBU.out (Nat.le_refl _))
 have hzU : w.heap.size + 1 < U.heap.size := HMU.out.res.lt
 have HU := Lib.hid hU
 have g1 : (0 : Int) < (n : Int) := by omega
 have Hx := Lib.hid hx
 clear hU hO hI hf hlen hx hz
 go_enter Tryd.func15, Tryd.ntmps15
 go_wp2_with fail
 rw [← HU.out]
 go_loopw [6, 7] (fun kv iv wr => ∃ k : Nat, k ≤ 4 ∧ iv = .int .i64 k ∧ kv = .int .i64 (kdU (byt x) k) ∧ Below U.heap.size U wr) (fun _ iv _ => 4 - (intOf iv).toNat)
 case atStart => exact ⟨0, Nat.zero_le _, rfl, rfl, Below.refl _ _⟩
 case round =>
  obtain ⟨k, hk, rfl, rfl, hb⟩ := hrel
  have Hb := Lib.hid hb
  have hsz := hb.size
  clear hb
  by_cases hlt : k < 4
  ·have hc0 : wr.cell? ⟨g0, 0, none⟩ = some (.string x) := by
    have h1 := (own_below HFU.out Hb.out (Nat.le_refl _)).cellAt 0 (by omega)
    rw [strs_get, Hx.out] at h1
    exact h1
   have hg0l : g0 < wr.heap.size := ((own_below HFU.out Hb.out (Nat.le_refl _)).lt g0 rfl).2
   have d0 := wcell (B := wr.heap.size) hc0 hg0l
   rcases (show k = 0 ∨ k = 1 ∨ k = 2 ∨ k = 3 by omega) with rfl | rfl | rfl | rfl
   ·by_cases he : byt x = [105, 110]
    ·have e0 := is_word he
     have HK := Lib.hid (kdU_yes (l := byt x) (k := 0) he)
     clear he
     go_wp2_with fail
     refine LM.wp_region_tree (X := [27]) (.leaf [3, 4, 5, 6, 0, 1, 2, 7]) (by kernel_rfl) (by kernel_rfl) (fun y => Below wr.heap.size wr y) (bel_) (fun lexNE => ?_)
     simp only [OrdT.orders, AllL, ordOps, List.filterMap_cons, List.filterMap_nil, List.getElem?_cons_zero, List.getElem?_cons_succ, and_true]
     (repeat (first | (refine LM.lex_r fun K hK => ?_; go_big_quiet_op; refine hK _ ?_; clear hK K) | (refine LM.lex_k fun K hK => ?_; go_simp; refine hK _ ?_; clear hK K)))
     (refine LM.lex_e fun K hK => ?_; go_big_op)
     (refine hK _ _ (Cls.mk' bel_) ?_; clear hK K)
     (repeat (first | (refine LM.lex_r fun K hK => ?_; go_big_quiet_op; refine hK _ ?_; clear hK K) | (refine LM.lex_k fun K hK => ?_; go_simp; refine hK _ ?_; clear hK K)))
     (refine LM.lex_e fun K hK => ?_; go_big_op)
     (refine hK _ _ (Cls.mk' bel_) ?_; clear hK K)
     (repeat (first | (refine LM.lex_r fun K hK => ?_; go_big_quiet_op; refine hK _ ?_; clear hK K) | (refine LM.lex_k fun K hK => ?_; go_simp; refine hK _ ?_; clear hK K)))
     (refine LM.lex_nil ?_)
     refine ⟨Cls.mk' bel_, ?_⟩
     clear lexNE
     go_wp2_with fail
     go_roundw
     case rel => exact ⟨0 + 1, by omega, by go_num, by rw [HK.out]; try rfl, by have hb := Hb.out; exact bel_⟩
     case measure => simp [intOf]
    ·have e0 := not_word he
     have HK := Lib.hid (kdU_no (l := byt x) (k := 0) he)
     clear he
     go_wp2_with fail
     refine LM.wp_region_tree (X := [27]) (.leaf [3, 4, 5, 6, 0, 1, 2, 7]) (by kernel_rfl) (by kernel_rfl) (fun y => Below wr.heap.size wr y) (bel_) (fun lexNE => ?_)
     simp only [OrdT.orders, AllL, ordOps, List.filterMap_cons, List.filterMap_nil, List.getElem?_cons_zero, List.getElem?_cons_succ, and_true]
     (repeat (first | (refine LM.lex_r fun K hK => ?_; go_big_quiet_op; refine hK _ ?_; clear hK K) | (refine LM.lex_k fun K hK => ?_; go_simp; refine hK _ ?_; clear hK K)))
     (refine LM.lex_e fun K hK => ?_; go_big_op)
     (refine hK _ _ (Cls.mk' bel_) ?_; clear hK K)
     (repeat (first | (refine LM.lex_r fun K hK => ?_; go_big_quiet_op; refine hK _ ?_; clear hK K) | (refine LM.lex_k fun K hK => ?_; go_simp; refine hK _ ?_; clear hK K)))
     (refine LM.lex_e fun K hK => ?_; go_big_op)
     (refine hK _ _ (Cls.mk' bel_) ?_; clear hK K)
     (repeat (first | (refine LM.lex_r fun K hK => ?_; go_big_quiet_op; refine hK _ ?_; clear hK K) | (refine LM.lex_k fun K hK => ?_; go_simp; refine hK _ ?_; clear hK K)))
     (refine LM.lex_nil ?_)
     refine ⟨Cls.mk' bel_, ?_⟩
     clear lexNE
     go_wp2_with fail
     go_roundw
     case rel => exact ⟨0 + 1, by omega, by go_num, by rw [HK.out]; try rfl, by have hb := Hb.out; exact bel_⟩
     case measure => simp [intOf]
   ·by_cases he : byt x = [111, 117, 116]
    ·have e0 := is_word he
     have HK := Lib.hid (kdU_yes (l := byt x) (k := 1) he)
     clear he
     go_wp2_with fail
     refine LM.wp_region_tree (X := [27]) (.leaf [3, 4, 5, 6, 0, 1, 2, 7]) (by kernel_rfl) (by kernel_rfl) (fun y => Below wr.heap.size wr y) (bel_) (fun lexNE => ?_)
     simp only [OrdT.orders, AllL, ordOps, List.filterMap_cons, List.filterMap_nil, List.getElem?_cons_zero, List.getElem?_cons_succ, and_true]
     (repeat (first | (refine LM.lex_r fun K hK => ?_; go_big_quiet_op; refine hK _ ?_; clear hK K) | (refine LM.lex_k fun K hK => ?_; go_simp; refine hK _ ?_; clear hK K)))
     (refine LM.lex_e fun K hK => ?_; go_big_op)
     (refine hK _ _ (Cls.mk' bel_) ?_; clear hK K)
     (repeat (first | (refine LM.lex_r fun K hK => ?_; go_big_quiet_op; refine hK _ ?_; clear hK K) | (refine LM.lex_k fun K hK => ?_; go_simp; refine hK _ ?_; clear hK K)))
     (refine LM.lex_e fun K hK => ?_; go_big_op)
     (refine hK _ _ (Cls.mk' bel_) ?_; clear hK K)
     (repeat (first | (refine LM.lex_r fun K hK => ?_; go_big_quiet_op; refine hK _ ?_; clear hK K) | (refine LM.lex_k fun K hK => ?_; go_simp; refine hK _ ?_; clear hK K)))
     (refine LM.lex_nil ?_)
     refine ⟨Cls.mk' bel_, ?_⟩
     clear lexNE
     go_wp2_with fail
     go_roundw
     case rel => exact ⟨1 + 1, by omega, by go_num, by rw [HK.out]; try rfl, by have hb := Hb.out; exact bel_⟩
     case measure => simp [intOf]
    ·have e0 := not_word he
     have HK := Lib.hid (kdU_no (l := byt x) (k := 1) he)
     clear he
     go_wp2_with fail
     refine LM.wp_region_tree (X := [27]) (.leaf [3, 4, 5, 6, 0, 1, 2, 7]) (by kernel_rfl) (by kernel_rfl) (fun y => Below wr.heap.size wr y) (bel_) (fun lexNE => ?_)
     simp only [OrdT.orders, AllL, ordOps, List.filterMap_cons, List.filterMap_nil, List.getElem?_cons_zero, List.getElem?_cons_succ, and_true]
     (repeat (first | (refine LM.lex_r fun K hK => ?_; go_big_quiet_op; refine hK _ ?_; clear hK K) | (refine LM.lex_k fun K hK => ?_; go_simp; refine hK _ ?_; clear hK K)))
     (refine LM.lex_e fun K hK => ?_; go_big_op)
     (refine hK _ _ (Cls.mk' bel_) ?_; clear hK K)
     (repeat (first | (refine LM.lex_r fun K hK => ?_; go_big_quiet_op; refine hK _ ?_; clear hK K) | (refine LM.lex_k fun K hK => ?_; go_simp; refine hK _ ?_; clear hK K)))
     (refine LM.lex_e fun K hK => ?_; go_big_op)
     (refine hK _ _ (Cls.mk' bel_) ?_; clear hK K)
     (repeat (first | (refine LM.lex_r fun K hK => ?_; go_big_quiet_op; refine hK _ ?_; clear hK K) | (refine LM.lex_k fun K hK => ?_; go_simp; refine hK _ ?_; clear hK K)))
     (refine LM.lex_nil ?_)
     refine ⟨Cls.mk' bel_, ?_⟩
     clear lexNE
     go_wp2_with fail
     go_roundw
     case rel => exact ⟨1 + 1, by omega, by go_num, by rw [HK.out]; try rfl, by have hb := Hb.out; exact bel_⟩
     case measure => simp [intOf]
   ·by_cases he : byt x = [119, 105, 114, 101]
    ·have e0 := is_word he
     have HK := Lib.hid (kdU_yes (l := byt x) (k := 2) he)
     clear he
     go_wp2_with fail
     refine LM.wp_region_tree (X := [27]) (.leaf [3, 4, 5, 6, 0, 1, 2, 7]) (by kernel_rfl) (by kernel_rfl) (fun y => Below wr.heap.size wr y) (bel_) (fun lexNE => ?_)
     simp only [OrdT.orders, AllL, ordOps, List.filterMap_cons, List.filterMap_nil, List.getElem?_cons_zero, List.getElem?_cons_succ, and_true]
     (repeat (first | (refine LM.lex_r fun K hK => ?_; go_big_quiet_op; refine hK _ ?_; clear hK K) | (refine LM.lex_k fun K hK => ?_; go_simp; refine hK _ ?_; clear hK K)))
     (refine LM.lex_e fun K hK => ?_; go_big_op)
     (refine hK _ _ (Cls.mk' bel_) ?_; clear hK K)
     (repeat (first | (refine LM.lex_r fun K hK => ?_; go_big_quiet_op; refine hK _ ?_; clear hK K) | (refine LM.lex_k fun K hK => ?_; go_simp; refine hK _ ?_; clear hK K)))
     (refine LM.lex_e fun K hK => ?_; go_big_op)
     (refine hK _ _ (Cls.mk' bel_) ?_; clear hK K)
     (repeat (first | (refine LM.lex_r fun K hK => ?_; go_big_quiet_op; refine hK _ ?_; clear hK K) | (refine LM.lex_k fun K hK => ?_; go_simp; refine hK _ ?_; clear hK K)))
     (refine LM.lex_nil ?_)
     refine ⟨Cls.mk' bel_, ?_⟩
     clear lexNE
     go_wp2_with fail
     go_roundw
     case rel => exact ⟨2 + 1, by omega, by go_num, by rw [HK.out]; try rfl, by have hb := Hb.out; exact bel_⟩
     case measure => simp [intOf]
    ·have e0 := not_word he
     have HK := Lib.hid (kdU_no (l := byt x) (k := 2) he)
     clear he
     go_wp2_with fail
     refine LM.wp_region_tree (X := [27]) (.leaf [3, 4, 5, 6, 0, 1, 2, 7]) (by kernel_rfl) (by kernel_rfl) (fun y => Below wr.heap.size wr y) (bel_) (fun lexNE => ?_)
     simp only [OrdT.orders, AllL, ordOps, List.filterMap_cons, List.filterMap_nil, List.getElem?_cons_zero, List.getElem?_cons_succ, and_true]
     (repeat (first | (refine LM.lex_r fun K hK => ?_; go_big_quiet_op; refine hK _ ?_; clear hK K) | (refine LM.lex_k fun K hK => ?_; go_simp; refine hK _ ?_; clear hK K)))
     (refine LM.lex_e fun K hK => ?_; go_big_op)
     (refine hK _ _ (Cls.mk' bel_) ?_; clear hK K)
     (repeat (first | (refine LM.lex_r fun K hK => ?_; go_big_quiet_op; refine hK _ ?_; clear hK K) | (refine LM.lex_k fun K hK => ?_; go_simp; refine hK _ ?_; clear hK K)))
     (refine LM.lex_e fun K hK => ?_; go_big_op)
     (refine hK _ _ (Cls.mk' bel_) ?_; clear hK K)
     (repeat (first | (refine LM.lex_r fun K hK => ?_; go_big_quiet_op; refine hK _ ?_; clear hK K) | (refine LM.lex_k fun K hK => ?_; go_simp; refine hK _ ?_; clear hK K)))
     (refine LM.lex_nil ?_)
     refine ⟨Cls.mk' bel_, ?_⟩
     clear lexNE
     go_wp2_with fail
     go_roundw
     case rel => exact ⟨2 + 1, by omega, by go_num, by rw [HK.out]; try rfl, by have hb := Hb.out; exact bel_⟩
     case measure => simp [intOf]
   ·by_cases he : byt x = [114, 101, 103]
    ·have e0 := is_word he
     have HK := Lib.hid (kdU_yes (l := byt x) (k := 3) he)
     clear he
     go_wp2_with fail
     refine LM.wp_region_tree (X := [27]) (.leaf [3, 4, 5, 6, 0, 1, 2, 7]) (by kernel_rfl) (by kernel_rfl) (fun y => Below wr.heap.size wr y) (bel_) (fun lexNE => ?_)
     simp only [OrdT.orders, AllL, ordOps, List.filterMap_cons, List.filterMap_nil, List.getElem?_cons_zero, List.getElem?_cons_succ, and_true]
     (repeat (first | (refine LM.lex_r fun K hK => ?_; go_big_quiet_op; refine hK _ ?_; clear hK K) | (refine LM.lex_k fun K hK => ?_; go_simp; refine hK _ ?_; clear hK K)))
     (refine LM.lex_e fun K hK => ?_; go_big_op)
     (refine hK _ _ (Cls.mk' bel_) ?_; clear hK K)
     (repeat (first | (refine LM.lex_r fun K hK => ?_; go_big_quiet_op; refine hK _ ?_; clear hK K) | (refine LM.lex_k fun K hK => ?_; go_simp; refine hK _ ?_; clear hK K)))
     (refine LM.lex_e fun K hK => ?_; go_big_op)
     (refine hK _ _ (Cls.mk' bel_) ?_; clear hK K)
     (repeat (first | (refine LM.lex_r fun K hK => ?_; go_big_quiet_op; refine hK _ ?_; clear hK K) | (refine LM.lex_k fun K hK => ?_; go_simp; refine hK _ ?_; clear hK K)))
     (refine LM.lex_nil ?_)
     refine ⟨Cls.mk' bel_, ?_⟩
     clear lexNE
     go_wp2_with fail
     go_roundw
     case rel => exact ⟨3 + 1, by omega, by go_num, by rw [HK.out]; try rfl, by have hb := Hb.out; exact bel_⟩
     case measure => simp [intOf]
    ·have e0 := not_word he
     have HK := Lib.hid (kdU_no (l := byt x) (k := 3) he)
     clear he
     go_wp2_with fail
     refine LM.wp_region_tree (X := [27]) (.leaf [3, 4, 5, 6, 0, 1, 2, 7]) (by kernel_rfl) (by kernel_rfl) (fun y => Below wr.heap.size wr y) (bel_) (fun lexNE => ?_)
     simp only [OrdT.orders, AllL, ordOps, List.filterMap_cons, List.filterMap_nil, List.getElem?_cons_zero, List.getElem?_cons_succ, and_true]
     (repeat (first | (refine LM.lex_r fun K hK => ?_; go_big_quiet_op; refine hK _ ?_; clear hK K) | (refine LM.lex_k fun K hK => ?_; go_simp; refine hK _ ?_; clear hK K)))
     (refine LM.lex_e fun K hK => ?_; go_big_op)
     (refine hK _ _ (Cls.mk' bel_) ?_; clear hK K)
     (repeat (first | (refine LM.lex_r fun K hK => ?_; go_big_quiet_op; refine hK _ ?_; clear hK K) | (refine LM.lex_k fun K hK => ?_; go_simp; refine hK _ ?_; clear hK K)))
     (refine LM.lex_e fun K hK => ?_; go_big_op)
     (refine hK _ _ (Cls.mk' bel_) ?_; clear hK K)
     (repeat (first | (refine LM.lex_r fun K hK => ?_; go_big_quiet_op; refine hK _ ?_; clear hK K) | (refine LM.lex_k fun K hK => ?_; go_simp; refine hK _ ?_; clear hK K)))
     (refine LM.lex_nil ?_)
     refine ⟨Cls.mk' bel_, ?_⟩
     clear lexNE
     go_wp2_with fail
     go_roundw
     case rel => exact ⟨3 + 1, by omega, by go_num, by rw [HK.out]; try rfl, by have hb := Hb.out; exact bel_⟩
     case measure => simp [intOf]
  ·have hk4 : k = 4 := by omega
   subst hk4
   rw [kdU_four, show ((4 : Nat) : Int) = 4 from rfl]
   obtain ⟨wo, hwo⟩ : ∃ wo, wo = wr := ⟨_, rfl⟩
   subst hwo
   have HM4 := Lib.hid (HMU.out.below Hb.out)
   have HB4 := Lib.hid (HBU.out.trans (Hb.out.mono (by omega)))
   have K4 := Lib.hid (ChP.of_below lo rlT (fun _ => False) HB4.out)
   have HF4 := Lib.hid (own_below HFU.out Hb.out (Nat.le_refl _))
   have zz4 := HB4.out.size
   have d0 : wo.cell? ⟨g0, 0, none⟩ = some (.string x) := by
    have h1 := HF4.out.cellAt 0 (by omega)
    rw [strs_get, Hx.out] at h1
    exact h1
   rcases kdS_cases (byt x) with hk | ⟨hk, hw⟩ | ⟨hk, hw⟩ | ⟨hk, hw⟩ | ⟨hk, hw⟩
   ·have HK := Lib.hid hk
    rw [hk]
    clear hk
    by_cases k4 : byt x = [115, 101, 116]
    ·have e4 := is_word k4
     by_cases hn2 : 2 < n
     ·have g2 : (2 : Int) < (n : Int) := by omega
      obtain ⟨x1, hx1a, hx1m, d1⟩ := fld_at HF4.out (i := 1) (by omega)
      have Hx1 := Lib.hid hx1a
      have hx1z := Hz.out x1 hx1m
      clear hx1a hx1m
      obtain ⟨F, hF⟩ : ∃ F, F = fs.map byt := ⟨_, rfl⟩
      have HFl := Lib.hid (show F.length = n by rw [hF, List.length_map, Hfl.out])
      have HR := Lib.hid (show rdLnS m (fs.map byt) = (if (F.drop 2).all (fun w => (opPR w).2) then some (m.1, m.2.1 ++ [(tlS (byt x1), (F.drop 2).map fun w => (opPR w).1)], m.2.2) else none) by
       rw [hF]
       unfold rdLnS
       rw [Ha.out, HK.out, Hx1.out, if_neg (by simp), if_pos ⟨k4, by rw [List.length_map, Hfl.out]; exact hn2⟩])
      have HFF := Lib.hid hF
      clear hF
      go_wp2_with fail
      refine (s_l05Tail x1 (by unfold maxLen; omega) wo).mono ?_
      rintro e w5 ⟨rfl, hb5⟩
      obtain ⟨z1, hz1⟩ : ∃ z, z = tlS (byt x1) := ⟨_, rfl⟩
      rw [← hz1] at HR
      rw [show tlS x1.data.toList = z1 from hz1.symm]
      clear hz1
      have HB5 := Lib.hid hb5
      have zz5 := hb5.size
      obtain ⟨B2, hB2⟩ : ∃ B2, B2 = w5.alloc (.cells #[.int .i64 z1, .slice none 0 0] 71) := ⟨_, rfl⟩
      obtain ⟨gx, hgx⟩ : ∃ g, g = w5.heap.size := ⟨_, rfl⟩
      have HbB2 := Lib.hid (show Below wo.heap.size wo B2 by rw [hB2]; exact HB5.out.alloc zz5 _)
      have HgB2 := Lib.hid (show Blk B2 gx 71 #[.int .i64 z1, .slice none 0 0] by rw [hB2, hgx]; exact Blk.new _ _ _)
      have zgx : wo.heap.size ≤ gx := by omega
      have zB2 : gx < B2.heap.size := HgB2.out.lt
      clear hb5 d0 d1 e4
      go_upto_region 16 with fail
      rw [← hB2, ← hgx]
      clear hB2 hgx
      go_wp2_with fail
      go_loopw [12, 13, 14] (fun iv _ _ wr => ∃ (k j : Nat) (L : List TOp) (vo : Value), Hid (k = j + 2) ∧ k ≤ n ∧ iv = .int .i64 k ∧ Blk wr gx 71 #[.int .i64 z1, vo] ∧ wr.ownsRow B2.heap.size 73 3 vo j (recs eOp L) ∧ Hid (L = ((F.drop 2).take j).map fun w => (opPR w).1) ∧ Hid (((F.drop 2).take j).all (fun w => (opPR w).2) = true) ∧ Only (fun b => b = gx) B2 wr) (fun iv _ _ _ => n - (intOf iv).toNat)
      case atStart => exact ⟨2, 0, [], _, Lib.hid rfl, by omega, rfl, HgB2.out, World.ownsRow_nil _ _ _ _, Lib.hid rfl, Lib.hid rfl, Only.refl _ _⟩
      case round =>
       obtain ⟨k, j, L, vo, hkj, hj, rfl, hgb2, hro, hL, hAl, hon⟩ := hrel
       have zq := hon.size
       obtain ⟨Aq, cq, rfl, _, _, _⟩ := own_form hro
       have HGq := Lib.hid hgb2
       have HRq := Lib.hid hro
       have HOq := Lib.hid hon
       have HBq := Lib.hid (show Below wo.heap.size wo wr from HbB2.out.trans (hon.below (by omega) (fun b hb => by omega)))
       have HFq := Lib.hid (own_below HF4.out HBq.out (Nat.le_refl _))
       have gy : (0 : Int) ≤ (k : Int) := by omega
       have hjn : j ≤ 40 := by have := hkj.out; omega
       clear hgb2 hro hon
       by_cases hlj : k < n
       ·have g7 : (k : Int) < (n : Int) := by omega
        obtain ⟨xi, hxi, hxm, hck⟩ := fld_at HFq.out hlj
        have hxz := Hz.out xi hxm
        have Hg := Lib.hid (show (F.drop 2)[j]? = some (byt xi) by
         have h2 := HFl.out
         rw [List.getElem?_drop, show 2 + j = k by have := hkj.out; omega, ← hxi, ← HFF.out]
         unfold at0
         rw [List.getD, List.getElem?_eq_getElem (by omega)]
         rfl)
        have Hs := Lib.hid (show ((F.drop 2).take (j + 1)).map (fun w => (opPR w).1) = ((F.drop 2).take j).map (fun w => (opPR w).1) ++ [(opPR (byt xi)).1] by rw [List.take_add_one, Hg.out, List.map_append]; rfl)
        clear hxi hxm
        go_wp2_with fail
        refine (s_ParseOp xi (by unfold maxLen; omega) _).mono ?_
        rintro e w3 ⟨rfl, hb3⟩
        obtain ⟨o0, ho0⟩ : ∃ o, o = (opPR xi.data.toList).1 := ⟨_, rfl⟩
        have HB3 := Lib.hid hb3
        have zz3 := hb3.size
        rw [← ho0]
        rw [show (opPR (byt xi)).1 = o0 from ho0.symm] at Hs
        clear hb3 ho0
        obtain ⟨B3, hB3⟩ : ∃ B3, B3 = w3.alloc (.cells #[.int .i64 o0.1, .int .i64 o0.2.1, .int .i64 o0.2.2] 73) := ⟨_, rfl⟩
        obtain ⟨gy, hgy⟩ : ∃ g, g = w3.heap.size := ⟨_, rfl⟩
        have HbB3 := Lib.hid (show Below wr.heap.size wr B3 by rw [hB3]; exact HB3.out.alloc zz3 _)
        have HgB3 := Lib.hid (show Blk B3 gy 73 #[.int .i64 o0.1, .int .i64 o0.2.1, .int .i64 o0.2.2] by rw [hB3, hgy]; exact Blk.new _ _ _)
        have zB3 : gy < B3.heap.size := HgB3.out.lt
        have zB23 : B2.heap.size ≤ B3.heap.size := by have := HbB3.out.size; omega
        go_upto_region 20 with fail
        rw [← hB3, ← hgy]
        clear hB3 hgy hck
        have HG3 := Lib.hid (HGq.out.below HbB3.out HGq.out.lt)
        have HR3 := Lib.hid (own_below HRq.out HbB3.out (Nat.le_refl _))
        have HO3 := Lib.hid (HOq.out.trans (Only.of_below HbB3.out _))
        cases hok : (opPR xi.data.toList).2 with
        | false =>
         have HN := Lib.hid (show rdLnS m (fs.map byt) = none by
          rw [HR.out]
          refine if_neg (fun h => ?_)
          have h1 := List.all_eq_true.1 h (byt xi) (List.mem_of_getElem? Hg.out)
          rw [show (opPR (byt xi)).2 = false from hok] at h1
          cases h1)
         have HBz := Lib.hid (HBq.out.trans (HbB3.out.mono HBq.out.size))
         have HMz := Lib.hid (HM4.out.below HBz.out)
         have Kz := Lib.hid (K4.out.bel HBz.out)
         clear hok
         have hmq := Lib.hid HMz.out.mod
         have hrq := Lib.hid HMz.out.res
         obtain ⟨r0, r1, r2, r3⟩ := blkS4 hrq.out
         obtain ⟨y0, y1, y2, y3⟩ := blkS4 hmq.out
         have f0 := hrq.out.frozen 0
         have f1 := hrq.out.frozen 1
         have f2 := hrq.out.frozen 2
         have f3 := hrq.out.frozen 3
         go_wp2_with fail
         obtain ⟨wf, hwf⟩ : ∃ wf, wf = ((((B3.setCell ⟨w.heap.size + 1, 0, none⟩ (.slice a0 n0 c0)).setCell ⟨w.heap.size + 1, 1, none⟩ (.slice a1 n1 c1)).setCell ⟨w.heap.size + 1, 2, none⟩ (.slice a2 n2 c2)).setCell ⟨w.heap.size + 1, 3, none⟩ (.slice a3 n3 c3)) := ⟨_, rfl⟩
         have hRf : Blk wf (w.heap.size + 1) 42 #[(.slice a0 n0 c0), (.slice a1 n1 c1), (.slice a2 n2 c2), (.slice a3 n3 c3)] := by rw [hwf]; exact blk_four hrq.out
         have hw1 : w.heap.size ≤ w.heap.size + 1 := Nat.le_succ _
         have hKf : ChP lo rlT (fun _ => False) w wf := by rw [hwf]; exact ((((Kz.out).setN (p := ⟨w.heap.size + 1, 0, none⟩) hw1 _).setN (p := ⟨w.heap.size + 1, 1, none⟩) hw1 _).setN (p := ⟨w.heap.size + 1, 2, none⟩) hw1 _).setN (p := ⟨w.heap.size + 1, 3, none⟩) hw1 _
         obtain ⟨s0, s1, s2, s3⟩ := blkS4 hRf
         rw [← hwf]
         refine bodyPost_ret (v := .tuple #[.agg #[(.slice a0 n0 c0), (.slice a1 n1 c1), (.slice a2 n2 c2), (.slice a3 n3 c3)], .bool false]) (by simp [results, Tryd.results15, go_sem, s0, s1, s2, s3]) rfl ?_
         rw [HN.out]
         exact ⟨hKf, _, _, _, _, ⟨⟨_, _, _, rfl⟩, ⟨_, _, _, rfl⟩, ⟨_, _, _, rfl⟩, ⟨_, _, _, rfl⟩⟩, rfl⟩
        | true =>
         have Ha1 := Lib.hid (show ((F.drop 2).take (j + 1)).all (fun w => (opPR w).2) = true by
          rw [List.take_add_one, Hg.out, List.all_append, hAl.out]
          simp
          exact hok)
         have n1 : ¬ (Value.slice Aq j cq).ownBlock = some gx := fun h1 => by have := (HRq.out.lt _ h1).1; omega
         obtain ⟨i0, hi, hz0, hz1, hz2⟩ := info_parts Tryd.infOpC
         obtain ⟨y0, y1⟩ := blkS2 HG3.out
         obtain ⟨q0, q1, q2⟩ := blkS3 HgB3.out
         clear hok
         go_wp2_with (at_builtin; refine wpList_append_any _ rfl _ _ 69 rfl (B2.heap.size) 73 i0 (.agg #[.int .i64 0, .int .i64 0, .int .i64 0]) 3 24 Tryd.underlying69 hi hz0 hz1 hz2 rfl (by decide) _ _ _ rfl (HR3.out.alloc _) _ _ 1 1 _ rfl (reads_new _ _ 1 3 rfl) (by intro u hu; simp at hu; first | (subst hu; rfl) | (rcases hu with rfl | rfl <;> rfl) | (rcases hu with rfl | rfl | rfl <;> rfl)) (by unfold maxLen; omega) (by omega) (by (try simp) <;> (try omega)) ?_; intro v8 w8 hown8 hgrow8 hblk8; refine stopX ?_)
         obtain ⟨A8, c8, rfl, _, _, _⟩ := own_form hown8
         have HG8 := Lib.hid ((HG3.out.alloc _).grown hgrow8 (fun e => n1 e.symm))
         have HO8 := Lib.hid (Only.grown2 (HO3.out.alloc _) hgrow8 (fun g hg => .inr (HR3.out.lt g hg).1))
         have HR8 := Lib.hid (show w8.ownsRow B2.heap.size 73 3 (.slice A8 (j + 1) c8) (j + 1) (recs eOp (L ++ [o0])) by rw [recs_app]; exact hown8)
         clear hown8 hgrow8 hblk8 y0 y1 q0 q1 q2 hi hz0 hz1 hz2
         have f8 := HG8.out.frozen 1
         obtain ⟨y0, y1⟩ := blkS2 HG8.out
         refine stopped ?_
         go_wp2_with fail
         obtain ⟨wf, hwf⟩ : ∃ wf, wf = (w8.setCell ⟨gx, 1, none⟩ (.slice A8 (j + 1) c8)) := ⟨_, rfl⟩
         have HGf := Lib.hid (show Blk wf gx 71 #[.int .i64 z1, .slice A8 (j + 1) c8] by rw [hwf]; exact HG8.out.set_ 1 _)
         have HRf := Lib.hid (show wf.ownsRow B2.heap.size 73 3 (.slice A8 (j + 1) c8) (j + 1) (recs eOp (L ++ [o0])) by rw [hwf]; exact own_keep HR8.out (fun g hg => Below.heap_setCell _ ⟨gx, 1, none⟩ _ g (fun e => by have := (HR8.out.lt g hg).1; have e : g = gx := e; omega)))
         have HOf := Lib.hid (show Only (fun b => b = gx) B2 wf by rw [hwf]; exact HO8.out.setCell (.inl rfl) _)
         rw [← hwf]
         clear hwf
         go_roundw
         case rel => exact ⟨k + 1, j + 1, L ++ [o0], _, Lib.hid (by rw [hkj.out]), by omega, by go_num, HGf.out, HRf.out, Lib.hid (by rw [hL.out, Hs.out]), Ha1, HOf.out⟩
         case measure => simp [intOf]; omega
       ·have hge : (n : Int) ≤ (k : Int) := by omega
        have hdl : (F.drop 2).take j = F.drop 2 := List.take_of_length_le (by rw [List.length_drop, HFl.out]; have := hkj.out; omega)
        have HN := Lib.hid (show rdLnS m (fs.map byt) = some (m.1, m.2.1 ++ [(z1, L)], m.2.2) by
         rw [HR.out, hL.out]
         have h2 := hAl.out
         rw [hdl] at h2 ⊢
         exact if_pos h2)
        have HO1 := Lib.hid (HM4.out.below HBq.out)
        obtain ⟨R, xs, hrw⟩ := HM4.out.fl.s1
        have ho1 := hrw.own
        rw [List.length_map, Hn.out.2.1] at ho1
        have hqR : ∀ b, R b → b < wo.heap.size := fun b hb => (hrw.rng b hb).2.lt
        have Hrq := Lib.hid (hrw.only (Only.of_below HBq.out (fun _ => False)) (NoT.none _ _ _))
        have Hoq := Lib.hid (own_below ho1 HBq.out (Nat.le_refl _))
        obtain ⟨i0, hi, hz0, hz1, hz2⟩ := info_parts Tryd.infAssignC
        obtain ⟨y0, y1, y2, y3⟩ := blkS4 HO1.out.mod
        obtain ⟨q0, q1⟩ := blkS2 HGq.out
        have hlw : lo ≤ wo.heap.size := by omega
        have hwB : wo.heap.size ≤ B2.heap.size := by omega
        clear hdl hrw ho1
        go_wp2_with (at_builtin; refine wpList_append_any _ rfl _ _ 38 rfl (lo) 71 i0 (.agg #[.int .i64 0, .slice none 0 0]) 2 32 Tryd.underlying38 hi hz0 hz1 hz2 rfl (by decide) _ _ _ rfl (Hoq.out.alloc _) _ _ 1 1 _ rfl (reads_new _ _ 1 2 rfl) (by intro u hu; simp at hu; first | (subst hu; rfl) | (rcases hu with rfl | rfl <;> rfl) | (rcases hu with rfl | rfl | rfl <;> rfl)) (by unfold maxLen; omega) (by omega) (by (try simp) <;> (try omega)) ?_; intro v8 w8 hown8 hgrow8 hblk8; refine stopX ?_)
        obtain ⟨A8, c8, rfl, _, _, _⟩ := own_form hown8
        have hbl := fun o : Obj => (Below.refl wr.heap.size wr).alloc (Nat.le_refl _) o
        have HS8 := Lib.hid (FlS.pushA (w0 := wo) (HO1.out.fl.below (hbl _)) (Hrq.out.only (Only.of_below (hbl _) (fun _ => False)) (NoT.none _ _ _)) hqR hlw hwB (own_below HRq.out (hbl _) (Nat.le_refl _)) (by unfold maxLen; omega) (by rw [Hn.out.2.1]; exact hown8) hgrow8)
        have HI8 := Lib.hid ((HO1.out.ins.below (hbl _)).grown (own_below Hoq.out (hbl _) (Nat.le_refl _)) (by decide) hgrow8)
        have HM8 := Lib.hid (blk_row (HO1.out.mod.below (hbl _) HO1.out.mod.lt) (own_below Hoq.out (hbl _) (Nat.le_refl _)) (by decide) hgrow8)
        have HR8 := Lib.hid (blk_row (HO1.out.res.below (hbl _) HO1.out.res.lt) (own_below Hoq.out (hbl _) (Nat.le_refl _)) (by decide) hgrow8)
        have K8 := Lib.hid (((K4.out.bel HBq.out).alloc _).row (own_below Hoq.out (hbl _) (Nat.le_refl _)) (Nat.le_refl _) rlT_asg hgrow8)
        clear hown8 hgrow8 hblk8 hbl y0 y1 y2 y3 q0 q1 hi hz0 hz1 hz2
        obtain ⟨y0, y1, y2, y3⟩ := blkS4 HM8.out
        refine stopped ?_
        have f9 := HM8.out.frozen 1
        go_upto_region 24 with fail
        clear f9
        obtain ⟨w9, hw9⟩ : ∃ w9, w9 = w8.setCell ⟨w.heap.size, 1, none⟩ (.slice A8 (n1 + 1) c8) := ⟨_, rfl⟩
        have HM9 := Lib.hid (show Blk w9 w.heap.size 42 #[(.slice a0 n0 c0), (.slice A8 (n1 + 1) c8), (.slice a2 n2 c2), (.slice a3 n3 c3)] by rw [hw9]; exact HM8.out.set_ 1 _)
        have HR9 := Lib.hid (show Blk w9 (w.heap.size + 1) 42 #[.slice none 0 0, .slice none 0 0, .slice none 0 0, .slice none 0 0] by rw [hw9]; exact blk_off HR8.out (by omega) _ _)
        have K9 := Lib.hid (show ChP lo rlT (fun _ => False) w w9 by rw [hw9]; exact K8.out.setN (p := ⟨w.heap.size, 1, none⟩) (Nat.le_refl _) _)
        have HF9 := Lib.hid (show FlS w9 lo (.slice a0 n0 c0) (.slice A8 (n1 + 1) c8) (.slice a3 n3 c3) ((m.1, m.2.1 ++ [(z1, L)], m.2.2) : TModule).1 ((m.1, m.2.1 ++ [(z1, L)], m.2.2) : TModule).2.1 ((m.1, m.2.1 ++ [(z1, L)], m.2.2) : TModule).2.2.2 by rw [hw9]; exact HS8.out.set HM8.out.of (by decide) _ _)
        have HI9 := Lib.hid (show InS w9 lo (.slice a2 n2 c2) ((m.1, m.2.1 ++ [(z1, L)], m.2.2) : TModule).2.2.1 by rw [hw9]; exact HI8.out.set HM8.out.of (by decide) _ _)
        rw [← hw9]
        clear hw9
        obtain ⟨r0, r1, r2, r3⟩ := blkS4 HR9.out
        obtain ⟨y0, y1, y2, y3⟩ := blkS4 HM9.out
        have f0 := HR9.out.frozen 0
        have f1 := HR9.out.frozen 1
        have f2 := HR9.out.frozen 2
        have f3 := HR9.out.frozen 3
        go_wp2_with fail
        obtain ⟨wf, hwf⟩ : ∃ wf, wf = ((((w9.setCell ⟨w.heap.size + 1, 0, none⟩ (.slice a0 n0 c0)).setCell ⟨w.heap.size + 1, 1, none⟩ (.slice A8 (n1 + 1) c8)).setCell ⟨w.heap.size + 1, 2, none⟩ (.slice a2 n2 c2)).setCell ⟨w.heap.size + 1, 3, none⟩ (.slice a3 n3 c3)) := ⟨_, rfl⟩
        have hRf : Blk wf (w.heap.size + 1) 42 #[(.slice a0 n0 c0), (.slice A8 (n1 + 1) c8), (.slice a2 n2 c2), (.slice a3 n3 c3)] := by rw [hwf]; exact blk_four HR9.out
        have hw1 : w.heap.size ≤ w.heap.size + 1 := Nat.le_succ _
        have hKf : ChP lo rlT (fun _ => False) w wf := by rw [hwf]; exact ((((K9.out).setN (p := ⟨w.heap.size + 1, 0, none⟩) hw1 _).setN (p := ⟨w.heap.size + 1, 1, none⟩) hw1 _).setN (p := ⟨w.heap.size + 1, 2, none⟩) hw1 _).setN (p := ⟨w.heap.size + 1, 3, none⟩) hw1 _
        obtain ⟨s0, s1, s2, s3⟩ := blkS4 hRf
        rw [← hwf]
        refine bodyPost_ret (v := .tuple #[.agg #[(.slice a0 n0 c0), (.slice A8 (n1 + 1) c8), (.slice a2 n2 c2), (.slice a3 n3 c3)], .bool true]) (by simp [results, Tryd.results15, go_sem, s0, s1, s2, s3]) rfl ?_
        rw [HN.out]
        have hll := ln_ret (m := (m.1, m.2.1 ++ [(z1, L)], m.2.2)) HF9.out HI9.out HR9.out (.slice a0 n0 c0) (.slice A8 (n1 + 1) c8) (.slice a2 n2 c2) (.slice a3 n3 c3)
        rw [← hwf] at hll
        exact ⟨hKf, _, _, _, _, rfl, hll.1, hll.2⟩
     ·have g2 : (n : Int) ≤ (2 : Int) := by omega
      have e5 : (x.toList == ([117, 115, 101] : List UInt8)) = false := not_word (by rw [k4]; decide)
      have e6 : (x.toList == ([109, 101, 109] : List UInt8)) = false := not_word (by rw [k4]; decide)
      have HN := Lib.hid (show rdLnS m (fs.map byt) = none by
       unfold rdLnS
       rw [Ha.out, HK.out, if_neg (by simp), if_neg (fun h => hn2 (by have h1 := h.2; rw [List.length_map, Hfl.out] at h1; exact h1)), if_neg (fun h => absurd (k4.symm.trans h.1) (by decide)), if_neg (fun h => absurd (k4.symm.trans h.1) (by decide))])
      clear k4
      have hmq := Lib.hid HM4.out.mod
      have hrq := Lib.hid HM4.out.res
      obtain ⟨r0, r1, r2, r3⟩ := blkS4 hrq.out
      obtain ⟨y0, y1, y2, y3⟩ := blkS4 hmq.out
      have f0 := hrq.out.frozen 0
      have f1 := hrq.out.frozen 1
      have f2 := hrq.out.frozen 2
      have f3 := hrq.out.frozen 3
      go_wp2_with fail
      obtain ⟨wf, hwf⟩ : ∃ wf, wf = ((((wo.setCell ⟨w.heap.size + 1, 0, none⟩ (.slice a0 n0 c0)).setCell ⟨w.heap.size + 1, 1, none⟩ (.slice a1 n1 c1)).setCell ⟨w.heap.size + 1, 2, none⟩ (.slice a2 n2 c2)).setCell ⟨w.heap.size + 1, 3, none⟩ (.slice a3 n3 c3)) := ⟨_, rfl⟩
      have hRf : Blk wf (w.heap.size + 1) 42 #[(.slice a0 n0 c0), (.slice a1 n1 c1), (.slice a2 n2 c2), (.slice a3 n3 c3)] := by rw [hwf]; exact blk_four hrq.out
      have hw1 : w.heap.size ≤ w.heap.size + 1 := Nat.le_succ _
      have hKf : ChP lo rlT (fun _ => False) w wf := by rw [hwf]; exact ((((K4.out).setN (p := ⟨w.heap.size + 1, 0, none⟩) hw1 _).setN (p := ⟨w.heap.size + 1, 1, none⟩) hw1 _).setN (p := ⟨w.heap.size + 1, 2, none⟩) hw1 _).setN (p := ⟨w.heap.size + 1, 3, none⟩) hw1 _
      obtain ⟨s0, s1, s2, s3⟩ := blkS4 hRf
      rw [← hwf]
      refine bodyPost_ret (v := .tuple #[.agg #[(.slice a0 n0 c0), (.slice a1 n1 c1), (.slice a2 n2 c2), (.slice a3 n3 c3)], .bool false]) (by simp [results, Tryd.results15, go_sem, s0, s1, s2, s3]) rfl ?_
      rw [HN.out]
      exact ⟨hKf, _, _, _, _, ⟨⟨_, _, _, rfl⟩, ⟨_, _, _, rfl⟩, ⟨_, _, _, rfl⟩, ⟨_, _, _, rfl⟩⟩, rfl⟩
    have e4 := not_word k4
    by_cases k5 : byt x = [117, 115, 101]
    ·have e5 := is_word k5
     by_cases hn2 : 2 < n
     ·have g2 : (2 : Int) < (n : Int) := by omega
      obtain ⟨x1, hx1a, hx1m, d1⟩ := fld_at HF4.out (i := 1) (by omega)
      have Hx1 := Lib.hid hx1a
      have hx1z := Hz.out x1 hx1m
      clear hx1a hx1m
      obtain ⟨x2, hx2a, hx2m, d2⟩ := fld_at HF4.out (i := 2) (by omega)
      have Hx2 := Lib.hid hx2a
      have hx2z := Hz.out x2 hx2m
      clear hx2a hx2m
      obtain ⟨F, hF⟩ : ∃ F, F = fs.map byt := ⟨_, rfl⟩
      have HFl := Lib.hid (show F.length = n by rw [hF, List.length_map, Hfl.out])
      obtain ⟨z1, hz1⟩ : ∃ z, z = tlS (byt x1) := ⟨_, rfl⟩
      obtain ⟨z2, hz2⟩ : ∃ z, z = szS (byt x2) := ⟨_, rfl⟩
      have HN := Lib.hid (show rdLnS m (fs.map byt) = some (m.1, m.2.1, m.2.2.1 ++ [(z1, z2, (F.drop 3).map tlS)], m.2.2.2) by
       rw [hz1, hz2, hF]
       unfold rdLnS
       rw [Ha.out, HK.out, Hx1.out, Hx2.out, if_neg (by simp), if_neg (fun h => k4 h.1), if_pos ⟨k5, by rw [List.length_map, Hfl.out]; exact hn2⟩])
      have HFF := Lib.hid hF
      have Hz1 := Lib.hid hz1.symm
      have Hz2 := Lib.hid hz2.symm
      have hgl : g0 < wo.heap.size := (HF4.out.lt g0 rfl).2
      clear hF hz1 hz2 k4 k5
      go_wp2_with fail
      go_cut [15] from 117 to 125 (fun pv wc => ∃ gx : Nat, pv = .pointer (some ⟨gx, 0, none⟩) ∧ wo.heap.size ≤ gx ∧ Blk wc gx 78 #[.int .i64 z1, .int .i64 z2, .slice none 0 0] ∧ Below wo.heap.size wo wc)
      case first =>
       have c1 := wcell (B := wo.heap.size) d1 hgl
       have c2 := wcell (B := wo.heap.size) d2 hgl
       refine wp_region_treeP (.node [] 3 9 (.node [0, 1, 2, 3] 7 9 (.leaf [4, 5, 6, 7, 9, 8, 10]) (.leaf [9, 4, 5, 6, 7, 8, 10])) (.leaf [9, 0, 1, 2, 3, 4, 5, 6, 7, 8, 10])) (by kernel_rfl) (by kernel_rfl) (fun x => Below wo.heap.size wo x) ((Below.refl _ _).drew) (fun lexNE => ?_)
       simp only [LexT, ordOps, List.filterMap_cons, List.filterMap_nil, List.getElem?_cons_zero, List.getElem?_cons_succ]
       obtain ⟨D, hD⟩ : ∃ D, D = wo.drew := ⟨_, rfl⟩
       rw [← hD]
       have zD : wo.heap.size ≤ D.heap.size := by rw [hD]; exact Nat.le_refl _
       have HA := Lib.hid (show Below wo.heap.size wo D by rw [hD]; exact (Below.refl _ _).drew)
       clear hD
       (refine lex_nil ?_)
       refine ⟨Cls.mk' HA.out, ?_, ?_⟩
       ·(repeat (first | (refine lex_r fun K hK => ?_; go_big_quiet_op; refine hK _ ?_; clear hK K) | (refine lex_k fun K hK => ?_; go_simp; refine hK _ ?_; clear hK K)))
        (refine lex_e fun K hK => ?_; go_big_op)
        refine (s_l05Tail x1 (by unfold maxLen; omega) _).mono ?_
        rintro e D1 ⟨rfl, hbc⟩
        rw [show tlS x1.data.toList = z1 from Hz1.out]
        (try have HXa := Lib.hid (HXa.out.below hbc HXa.out.lt))
        have zD1 := hbc.size
        have HA := Lib.hid (HA.out.trans (hbc.mono (by omega)))
        refine hK _ _ (Cls.mk' HA.out) ?_
        clear hK K hbc
        (refine lex_nil ?_)
        refine ⟨Cls.mk' HA.out, ?_, ?_⟩
        ·(repeat (first | (refine lex_r fun K hK => ?_; go_big_quiet_op; refine hK _ ?_; clear hK K) | (refine lex_k fun K hK => ?_; go_simp; refine hK _ ?_; clear hK K)))
         (refine lex_e fun K hK => ?_; go_big_op)
         refine (s_l05Size x2 (by unfold maxLen; omega) _).mono ?_
         rintro e D2 ⟨rfl, hbc⟩
         rw [show szS (byt x2) = z2 from Hz2.out]
         (try have HXa := Lib.hid (HXa.out.below hbc HXa.out.lt))
         have zD2 := hbc.size
         have HA := Lib.hid (HA.out.trans (hbc.mono (by omega)))
         refine hK _ _ (Cls.mk' HA.out) ?_
         clear hK K hbc
         (repeat (first | (refine lex_r fun K hK => ?_; go_big_quiet_op; refine hK _ ?_; clear hK K) | (refine lex_k fun K hK => ?_; go_simp; refine hK _ ?_; clear hK K)))
         (refine lex_e fun K hK => ?_; go_big_op)
         obtain ⟨D3, hD3⟩ : ∃ x, x = D2.alloc (.cells #[.int .i64 0, .int .i64 0, .slice none 0 0] 78) := ⟨_, rfl⟩
         rw [← hD3]
         have bD3 : Below D2.heap.size D2 D3 := by rw [hD3]; exact (Below.refl _ _).alloc (Nat.le_refl _) _
         have zD3 : D2.heap.size + 1 ≤ D3.heap.size := by rw [hD3]; simp
         obtain ⟨gx, hgx⟩ : ∃ g, g = D2.heap.size := ⟨_, rfl⟩
         have HXa := Lib.hid (show Blk D3 gx 78 #[.int .i64 0, .int .i64 0, .slice none 0 0] by rw [hD3, hgx]; exact Blk.new _ _ _)
         rw [← hgx]
         have gxa : wo.heap.size ≤ gx := by omega
         have gxb : gx < D3.heap.size := by omega
         have HA := Lib.hid (HA.out.trans (bD3.mono (by omega)))
         refine hK _ _ (Cls.mk' HA.out) ?_
         clear hK K hD3 bD3 hgx
         obtain ⟨q0, q1, q2⟩ := blkS3 HXa.out
         have fz0 := HXa.out.frozen 0
         have fz1 := HXa.out.frozen 1
         have fz2 := HXa.out.frozen 2
         (repeat (first | (refine lex_r fun K hK => ?_; go_big_quiet_op; refine hK _ ?_; clear hK K) | (refine lex_k fun K hK => ?_; go_simp; refine hK _ ?_; clear hK K)))
         (refine lex_e fun K hK => ?_; go_big_op)
         obtain ⟨wx, hwx⟩ : ∃ x, x = (((D3.setCell ⟨gx, 0, none⟩ (.int .i64 z1)).setCell ⟨gx, 1, none⟩ (.int .i64 z2)).setCell ⟨gx, 2, none⟩ (.slice none 0 0)) := ⟨_, rfl⟩
         rw [← hwx]
         have HA := Lib.hid (show Below wo.heap.size wo wx by rw [hwx]; exact ((HA.out.setCell (by show wo.heap.size ≤ gx; omega) _).setCell (by show wo.heap.size ≤ gx; omega) _).setCell (by show wo.heap.size ≤ gx; omega) _)
         refine hK _ _ (Cls.mk' HA.out) ?_
         clear hK K q0 q1 q2 fz0 fz1 fz2
         (repeat (first | (refine lex_r fun K hK => ?_; go_big_quiet_op; refine hK _ ?_; clear hK K) | (refine lex_k fun K hK => ?_; go_simp; refine hK _ ?_; clear hK K)))
         (refine lex_nil ?_)
         refine ⟨Cls.mk' HA.out, ?_⟩
         clear lexNE c1 c2
         go_wp2_with fail
         go_meet
         case rel => exact ⟨gx, rfl, gxa, by rw [hwx]; exact ((HXa.out.set_ 0 _).set_ 1 _).set_ 2 _, HA.out⟩
        ·(repeat (first | (refine lex_r fun K hK => ?_; go_big_quiet_op; refine hK _ ?_; clear hK K) | (refine lex_k fun K hK => ?_; go_simp; refine hK _ ?_; clear hK K)))
         (refine lex_e fun K hK => ?_; go_big_op)
         obtain ⟨D2, hD2⟩ : ∃ x, x = D1.alloc (.cells #[.int .i64 0, .int .i64 0, .slice none 0 0] 78) := ⟨_, rfl⟩
         rw [← hD2]
         have bD2 : Below D1.heap.size D1 D2 := by rw [hD2]; exact (Below.refl _ _).alloc (Nat.le_refl _) _
         have zD2 : D1.heap.size + 1 ≤ D2.heap.size := by rw [hD2]; simp
         obtain ⟨gx, hgx⟩ : ∃ g, g = D1.heap.size := ⟨_, rfl⟩
         have HXa := Lib.hid (show Blk D2 gx 78 #[.int .i64 0, .int .i64 0, .slice none 0 0] by rw [hD2, hgx]; exact Blk.new _ _ _)
         rw [← hgx]
         have gxa : wo.heap.size ≤ gx := by omega
         have gxb : gx < D2.heap.size := by omega
         have HA := Lib.hid (HA.out.trans (bD2.mono (by omega)))
         refine hK _ _ (Cls.mk' HA.out) ?_
         clear hK K hD2 bD2 hgx
         (repeat (first | (refine lex_r fun K hK => ?_; go_big_quiet_op; refine hK _ ?_; clear hK K) | (refine lex_k fun K hK => ?_; go_simp; refine hK _ ?_; clear hK K)))
         (refine lex_e fun K hK => ?_; go_big_op)
         refine (s_l05Size x2 (by unfold maxLen; omega) _).mono ?_
         rintro e D3 ⟨rfl, hbc⟩
         rw [show szS (byt x2) = z2 from Hz2.out]
         (try have HXa := Lib.hid (HXa.out.below hbc HXa.out.lt))
         have zD3 := hbc.size
         have HA := Lib.hid (HA.out.trans (hbc.mono (by omega)))
         refine hK _ _ (Cls.mk' HA.out) ?_
         clear hK K hbc
         obtain ⟨q0, q1, q2⟩ := blkS3 HXa.out
         have fz0 := HXa.out.frozen 0
         have fz1 := HXa.out.frozen 1
         have fz2 := HXa.out.frozen 2
         (repeat (first | (refine lex_r fun K hK => ?_; go_big_quiet_op; refine hK _ ?_; clear hK K) | (refine lex_k fun K hK => ?_; go_simp; refine hK _ ?_; clear hK K)))
         (refine lex_e fun K hK => ?_; go_big_op)
         obtain ⟨wx, hwx⟩ : ∃ x, x = (((D3.setCell ⟨gx, 0, none⟩ (.int .i64 z1)).setCell ⟨gx, 1, none⟩ (.int .i64 z2)).setCell ⟨gx, 2, none⟩ (.slice none 0 0)) := ⟨_, rfl⟩
         rw [← hwx]
         have HA := Lib.hid (show Below wo.heap.size wo wx by rw [hwx]; exact ((HA.out.setCell (by show wo.heap.size ≤ gx; omega) _).setCell (by show wo.heap.size ≤ gx; omega) _).setCell (by show wo.heap.size ≤ gx; omega) _)
         refine hK _ _ (Cls.mk' HA.out) ?_
         clear hK K q0 q1 q2 fz0 fz1 fz2
         (repeat (first | (refine lex_r fun K hK => ?_; go_big_quiet_op; refine hK _ ?_; clear hK K) | (refine lex_k fun K hK => ?_; go_simp; refine hK _ ?_; clear hK K)))
         (refine lex_nil ?_)
         refine ⟨Cls.mk' HA.out, ?_⟩
         clear lexNE c1 c2
         go_wp2_with fail
         go_meet
         case rel => exact ⟨gx, rfl, gxa, by rw [hwx]; exact ((HXa.out.set_ 0 _).set_ 1 _).set_ 2 _, HA.out⟩
       ·(repeat (first | (refine lex_r fun K hK => ?_; go_big_quiet_op; refine hK _ ?_; clear hK K) | (refine lex_k fun K hK => ?_; go_simp; refine hK _ ?_; clear hK K)))
        (refine lex_e fun K hK => ?_; go_big_op)
        obtain ⟨D1, hD1⟩ : ∃ x, x = D.alloc (.cells #[.int .i64 0, .int .i64 0, .slice none 0 0] 78) := ⟨_, rfl⟩
        rw [← hD1]
        have bD1 : Below D.heap.size D D1 := by rw [hD1]; exact (Below.refl _ _).alloc (Nat.le_refl _) _
        have zD1 : D.heap.size + 1 ≤ D1.heap.size := by rw [hD1]; simp
        obtain ⟨gx, hgx⟩ : ∃ g, g = D.heap.size := ⟨_, rfl⟩
        have HXa := Lib.hid (show Blk D1 gx 78 #[.int .i64 0, .int .i64 0, .slice none 0 0] by rw [hD1, hgx]; exact Blk.new _ _ _)
        rw [← hgx]
        have gxa : wo.heap.size ≤ gx := by omega
        have gxb : gx < D1.heap.size := by omega
        have HA := Lib.hid (HA.out.trans (bD1.mono (by omega)))
        refine hK _ _ (Cls.mk' HA.out) ?_
        clear hK K hD1 bD1 hgx
        (repeat (first | (refine lex_r fun K hK => ?_; go_big_quiet_op; refine hK _ ?_; clear hK K) | (refine lex_k fun K hK => ?_; go_simp; refine hK _ ?_; clear hK K)))
        (refine lex_e fun K hK => ?_; go_big_op)
        refine (s_l05Tail x1 (by unfold maxLen; omega) _).mono ?_
        rintro e D2 ⟨rfl, hbc⟩
        rw [show tlS x1.data.toList = z1 from Hz1.out]
        (try have HXa := Lib.hid (HXa.out.below hbc HXa.out.lt))
        have zD2 := hbc.size
        have HA := Lib.hid (HA.out.trans (hbc.mono (by omega)))
        refine hK _ _ (Cls.mk' HA.out) ?_
        clear hK K hbc
        (repeat (first | (refine lex_r fun K hK => ?_; go_big_quiet_op; refine hK _ ?_; clear hK K) | (refine lex_k fun K hK => ?_; go_simp; refine hK _ ?_; clear hK K)))
        (refine lex_e fun K hK => ?_; go_big_op)
        refine (s_l05Size x2 (by unfold maxLen; omega) _).mono ?_
        rintro e D3 ⟨rfl, hbc⟩
        rw [show szS (byt x2) = z2 from Hz2.out]
        (try have HXa := Lib.hid (HXa.out.below hbc HXa.out.lt))
        have zD3 := hbc.size
        have HA := Lib.hid (HA.out.trans (hbc.mono (by omega)))
        refine hK _ _ (Cls.mk' HA.out) ?_
        clear hK K hbc
        obtain ⟨q0, q1, q2⟩ := blkS3 HXa.out
        have fz0 := HXa.out.frozen 0
        have fz1 := HXa.out.frozen 1
        have fz2 := HXa.out.frozen 2
        (repeat (first | (refine lex_r fun K hK => ?_; go_big_quiet_op; refine hK _ ?_; clear hK K) | (refine lex_k fun K hK => ?_; go_simp; refine hK _ ?_; clear hK K)))
        (refine lex_e fun K hK => ?_; go_big_op)
        obtain ⟨wx, hwx⟩ : ∃ x, x = (((D3.setCell ⟨gx, 0, none⟩ (.int .i64 z1)).setCell ⟨gx, 1, none⟩ (.int .i64 z2)).setCell ⟨gx, 2, none⟩ (.slice none 0 0)) := ⟨_, rfl⟩
        rw [← hwx]
        have HA := Lib.hid (show Below wo.heap.size wo wx by rw [hwx]; exact ((HA.out.setCell (by show wo.heap.size ≤ gx; omega) _).setCell (by show wo.heap.size ≤ gx; omega) _).setCell (by show wo.heap.size ≤ gx; omega) _)
        refine hK _ _ (Cls.mk' HA.out) ?_
        clear hK K q0 q1 q2 fz0 fz1 fz2
        (repeat (first | (refine lex_r fun K hK => ?_; go_big_quiet_op; refine hK _ ?_; clear hK K) | (refine lex_k fun K hK => ?_; go_simp; refine hK _ ?_; clear hK K)))
        (refine lex_nil ?_)
        refine ⟨Cls.mk' HA.out, ?_⟩
        clear lexNE c1 c2
        go_wp2_with fail
        go_meet
        case rel => exact ⟨gx, rfl, gxa, by rw [hwx]; exact ((HXa.out.set_ 0 _).set_ 1 _).set_ 2 _, HA.out⟩
      case rest =>
       obtain ⟨gx, rfl, zgx, hgB, hbB⟩ := hcut
       obtain ⟨B2, hB2⟩ : ∃ B2, B2 = wc := ⟨_, rfl⟩
       rw [← hB2] at hgB hbB ⊢
       have HgB2 := Lib.hid hgB
       have HbB2 := Lib.hid hbB
       have zB2 : gx < B2.heap.size := hgB.lt
       have zwB := hbB.size
       clear hgB hbB hB2 d0 d1 d2 e4 e5
       go_upto_region 27 with fail
       go_wp2_with fail
       go_loopw [16] (fun iv wr => ∃ (k j : Nat) (L : List Int) (vo : Value), Hid (k = j + 3) ∧ k ≤ n ∧ iv = .int .i64 k ∧ Blk wr gx 78 #[.int .i64 z1, .int .i64 z2, vo] ∧ wr.ownsRow B2.heap.size 3 1 vo j (ints L) ∧ Hid (L = ((F.drop 3).take j).map tlS) ∧ Only (fun b => b = gx) B2 wr) (fun iv _ => n - (intOf iv).toNat)
       case atStart => exact ⟨3, 0, [], _, Lib.hid rfl, by omega, rfl, HgB2.out, World.ownsRow_nil _ _ _ _, Lib.hid rfl, Only.refl _ _⟩
       case round =>
        obtain ⟨k, j, L, vo, hkj, hj, rfl, hgb2, hro, hL, hon⟩ := hrel
        have zq := hon.size
        obtain ⟨Aq, cq, rfl, _, _, _⟩ := own_form hro
        have HGq := Lib.hid hgb2
        have HRq := Lib.hid hro
        have HOq := Lib.hid hon
        have HBq := Lib.hid (show Below wo.heap.size wo wr from HbB2.out.trans (hon.below (by omega) (fun b hb => by omega)))
        have HFq := Lib.hid (own_below HF4.out HBq.out (Nat.le_refl _))
        have gy : (0 : Int) ≤ (k : Int) := by omega
        have hjn : j ≤ 40 := by have := hkj.out; omega
        clear hgb2 hro hon
        by_cases hlj : k < n
        ·have g7 : (k : Int) < (n : Int) := by omega
         obtain ⟨xi, hxi, hxm, hck⟩ := fld_at HFq.out hlj
         have hxz := Hz.out xi hxm
         have Hg := Lib.hid (show (F.drop 3)[j]? = some (byt xi) by
          have h2 := HFl.out
          rw [List.getElem?_drop, show 3 + j = k by have := hkj.out; omega, ← hxi, ← HFF.out]
          unfold at0
          rw [List.getD, List.getElem?_eq_getElem (by omega)]
          rfl)
         obtain ⟨y, hy⟩ : ∃ y, y = tlS (byt xi) := ⟨_, rfl⟩
         have Hs := Lib.hid (show ((F.drop 3).take (j + 1)).map tlS = ((F.drop 3).take j).map tlS ++ [y] by rw [hy, List.take_add_one, Hg.out, List.map_append]; rfl)
         have Hy := Lib.hid hy.symm
         have n1 : ¬ (Value.slice Aq j cq).ownBlock = some gx := fun h1 => by have := (HRq.out.lt _ h1).1; omega
         have n3 : ¬ (Value.slice Aq j cq).ownBlock = some g0 := fun h1 => absurd ((own_of HRq.out h1).inj (own_of HFq.out rfl)) (by decide)
         have hg0l := (HFq.out.lt g0 rfl).2
         obtain ⟨q0, q1, q2⟩ := blkS3 HGq.out
         have c1 := ocel (S := fun b => (Value.slice Aq j cq).ownBlock = some b) q2 HGq.out.lt n1
         have c3 := ocel (S := fun b => (Value.slice Aq j cq).ownBlock = some b) hck hg0l n3
         obtain ⟨i0, hi, hz0, hz1, hz2⟩ := info_parts Tryd.infoIntC
         clear hxi hxm q0 q1 q2 n3 hck hy
         go_wp2_with fail
         refine wp_region_lexC (by kernel_rfl) (by kernel_rfl) (fun x => Only (fun b => (Value.slice Aq j cq).ownBlock = some b) wr x) ((Only.refl _ _).drew) (fun lexNE => ?_)
         (repeat (first | (refine lex_r fun K hK => ?_; go_big_quiet_op; refine hK _ ?_; clear hK K) | (refine lex_k fun K hK => ?_; go_simp; refine hK _ ?_; clear hK K)))
         (refine lex_e fun K hK => ?_; go_big_op)
         refine (s_l05Tail xi (by unfold maxLen; omega) _).mono ?_
         rintro e w3 ⟨rfl, hb3⟩
         rw [show tlS xi.data.toList = y from Hy.out]
         have HB3 := Lib.hid ((Below.refl wr.heap.size wr).drew.trans hb3)
         have zz3 := HB3.out.size
         have HR3 := Lib.hid (own_below HRq.out HB3.out (Nat.le_refl _))
         refine hK _ _ (Cls.mk' (Only.of_below HB3.out _)) ?_
         clear hK K hb3
         (repeat (first | (refine lex_r fun K hK => ?_; go_big_quiet_op; refine hK _ ?_; clear hK K) | (refine lex_k fun K hK => ?_; go_simp; refine hK _ ?_; clear hK K)))
         (refine lex_e fun K hK => ?_; go_big_op)
         refine hK _ _ (Cls.mk' ((Only.of_below HB3.out _).alloc _)) ?_
         clear hK K
         refine lex_e fun K hK => ?_
         refine wp_append_any _ _ _ 76 (by rfl) (B2.heap.size) 3 i0 (.int .i64 0) 1 8 Tryd.underlying76 hi hz0 hz1 hz2 rfl (by decide) _ _ _ (by rfl) (HR3.out.alloc _) _ _ 1 1 _ (by rfl) (reads_new _ _ 1 1 rfl) (by intro u hu; simp at hu; first | (subst hu; rfl) | (rcases hu with rfl | rfl <;> rfl) | (rcases hu with rfl | rfl | rfl <;> rfl)) (by unfold maxLen; omega) (by omega) (by (try simp) <;> (try omega)) ?_
         intro v8 w8 hown8 hgrow8 hblk8
         go_simp
         refine hK _ _ (Cls.mk' (Only.grown2 ((Only.of_below HB3.out (fun b => (Value.slice Aq j cq).ownBlock = some b)).alloc _) hgrow8 (fun g hg => .inl hg))) ?_
         clear hK K
         obtain ⟨A8, c8, rfl, _, _, _⟩ := own_form hown8
         have HG8 := Lib.hid (((HGq.out.below HB3.out HGq.out.lt).alloc _).grown hgrow8 (fun e => n1 e.symm))
         have HO8 := Lib.hid (Only.grown2 ((HOq.out.trans (Only.of_below HB3.out _)).alloc _) hgrow8 (fun g hg => .inr (HR3.out.lt g hg).1))
         have HR8 := Lib.hid (show w8.ownsRow B2.heap.size 3 1 (.slice A8 (j + 1) c8) (j + 1) (ints (L ++ [y])) by rw [ints_app]; exact hown8)
         clear hown8 hgrow8 hblk8
         (repeat (first | (refine lex_r fun K hK => ?_; go_big_quiet_op; refine hK _ ?_; clear hK K) | (refine lex_k fun K hK => ?_; go_simp; refine hK _ ?_; clear hK K)))
         obtain ⟨e5, e6, e7⟩ := blkS3 HG8.out
         have f1 := HG8.out.frozen 2
         (refine lex_l fun K hK => ?_; go_big_op)
         (refine hK _ _ ?_; clear hK K)
         clear lexNE c1 c3 e5 e6 e7 f1 n1
         obtain ⟨wf, hwf⟩ : ∃ wf, wf = (w8.setCell ⟨gx, 2, none⟩ (.slice A8 (j + 1) c8)) := ⟨_, rfl⟩
         have HGf := Lib.hid (show Blk wf gx 78 #[.int .i64 z1, .int .i64 z2, .slice A8 (j + 1) c8] by rw [hwf]; exact HG8.out.set_ 2 _)
         have HRf := Lib.hid (show wf.ownsRow B2.heap.size 3 1 (.slice A8 (j + 1) c8) (j + 1) (ints (L ++ [y])) by rw [hwf]; exact own_keep HR8.out (fun g hg => Below.heap_setCell _ ⟨gx, 2, none⟩ _ g (fun e => by have := (HR8.out.lt g hg).1; have e : g = gx := e; omega)))
         have HOf := Lib.hid (show Only (fun b => b = gx) B2 wf by rw [hwf]; exact HO8.out.setCell (.inl rfl) _)
         rw [← hwf]
         clear hwf
         go_wp2_with fail
         go_roundw
         case rel => exact ⟨k + 1, j + 1, L ++ [y], _, Lib.hid (by rw [hkj.out]), by omega, by go_num, HGf.out, HRf.out, Lib.hid (by rw [hL.out, Hs.out]), HOf.out⟩
         case measure => simp [intOf]; omega
        ·have hge : (n : Int) ≤ (k : Int) := by omega
         have hdl : (F.drop 3).take j = F.drop 3 := List.take_of_length_le (by rw [List.length_drop, HFl.out]; have := hkj.out; omega)
         have HN := Lib.hid (show rdLnS m (fs.map byt) = some (m.1, m.2.1, m.2.2.1 ++ [(z1, z2, L)], m.2.2.2) by rw [HN.out, hL.out, hdl])
         have HO1 := Lib.hid (HM4.out.below HBq.out)
         obtain ⟨R, xs, hrw⟩ := HM4.out.ins
         have ho1 := hrw.own
         rw [List.length_map, Hn.out.2.2.1] at ho1
         have hqR : ∀ b, R b → b < wo.heap.size := fun b hb => (hrw.rng b hb).2.lt
         have Hrq := Lib.hid (hrw.only (Only.of_below HBq.out (fun _ => False)) (NoT.none _ _ _))
         have Hoq := Lib.hid (own_below ho1 HBq.out (Nat.le_refl _))
         obtain ⟨i0, hi, hz0, hz1, hz2⟩ := info_parts Tryd.infInstC
         obtain ⟨y0, y1, y2, y3⟩ := blkS4 HO1.out.mod
         obtain ⟨q0, q1, q2⟩ := blkS3 HGq.out
         have hlw : lo ≤ wo.heap.size := by omega
         have hwB : wo.heap.size ≤ B2.heap.size := by omega
         clear hdl hrw ho1
         go_wp2_with (at_builtin; refine wpList_append_any _ rfl _ _ 39 rfl (lo) 78 i0 (.agg #[.int .i64 0, .int .i64 0, .slice none 0 0]) 3 40 Tryd.underlying39 hi hz0 hz1 hz2 rfl (by decide) _ _ _ rfl (Hoq.out.alloc _) _ _ 1 1 _ rfl (reads_new _ _ 1 3 rfl) (by intro u hu; simp at hu; first | (subst hu; rfl) | (rcases hu with rfl | rfl <;> rfl) | (rcases hu with rfl | rfl | rfl <;> rfl)) (by unfold maxLen; omega) (by omega) (by (try simp) <;> (try omega)) ?_; intro v8 w8 hown8 hgrow8 hblk8; refine stopX ?_)
         obtain ⟨A8, c8, rfl, _, _, _⟩ := own_form hown8
         have hbl := fun o : Obj => (Below.refl wr.heap.size wr).alloc (Nat.le_refl _) o
         have HI8 := Lib.hid (InS.pushI (w0 := wo) (Hrq.out.only (Only.of_below (hbl _) (fun _ => False)) (NoT.none _ _ _)) hqR hlw hwB (own_below HRq.out (hbl _) (Nat.le_refl _)) (by unfold maxLen; omega) (by rw [Hn.out.2.2.1]; exact hown8) hgrow8)
         have HS8 := Lib.hid ((HO1.out.fl.below (hbl _)).grown (own_below Hoq.out (hbl _) (Nat.le_refl _)) (by decide) hgrow8)
         have HM8 := Lib.hid (blk_row (HO1.out.mod.below (hbl _) HO1.out.mod.lt) (own_below Hoq.out (hbl _) (Nat.le_refl _)) (by decide) hgrow8)
         have HR8 := Lib.hid (blk_row (HO1.out.res.below (hbl _) HO1.out.res.lt) (own_below Hoq.out (hbl _) (Nat.le_refl _)) (by decide) hgrow8)
         have K8 := Lib.hid (((K4.out.bel HBq.out).alloc _).row (own_below Hoq.out (hbl _) (Nat.le_refl _)) (Nat.le_refl _) rlT_ins hgrow8)
         clear hown8 hgrow8 hblk8 hbl y0 y1 y2 y3 q0 q1 q2 hi hz0 hz1 hz2
         obtain ⟨y0, y1, y2, y3⟩ := blkS4 HM8.out
         refine stopped ?_
         have f9 := HM8.out.frozen 2
         go_upto_region 32 with fail
         clear f9
         obtain ⟨w9, hw9⟩ : ∃ w9, w9 = w8.setCell ⟨w.heap.size, 2, none⟩ (.slice A8 (n2 + 1) c8) := ⟨_, rfl⟩
         have HM9 := Lib.hid (show Blk w9 w.heap.size 42 #[(.slice a0 n0 c0), (.slice a1 n1 c1), (.slice A8 (n2 + 1) c8), (.slice a3 n3 c3)] by rw [hw9]; exact HM8.out.set_ 2 _)
         have HR9 := Lib.hid (show Blk w9 (w.heap.size + 1) 42 #[.slice none 0 0, .slice none 0 0, .slice none 0 0, .slice none 0 0] by rw [hw9]; exact blk_off HR8.out (by omega) _ _)
         have K9 := Lib.hid (show ChP lo rlT (fun _ => False) w w9 by rw [hw9]; exact K8.out.setN (p := ⟨w.heap.size, 2, none⟩) (Nat.le_refl _) _)
         have HF9 := Lib.hid (show FlS w9 lo (.slice a0 n0 c0) (.slice a1 n1 c1) (.slice a3 n3 c3) ((m.1, m.2.1, m.2.2.1 ++ [(z1, z2, L)], m.2.2.2) : TModule).1 ((m.1, m.2.1, m.2.2.1 ++ [(z1, z2, L)], m.2.2.2) : TModule).2.1 ((m.1, m.2.1, m.2.2.1 ++ [(z1, z2, L)], m.2.2.2) : TModule).2.2.2 by rw [hw9]; exact HS8.out.set HM8.out.of (by decide) _ _)
         have HI9 := Lib.hid (show InS w9 lo (.slice A8 (n2 + 1) c8) ((m.1, m.2.1, m.2.2.1 ++ [(z1, z2, L)], m.2.2.2) : TModule).2.2.1 by rw [hw9]; exact HI8.out.set HM8.out.of (by decide) _ _)
         rw [← hw9]
         clear hw9
         obtain ⟨r0, r1, r2, r3⟩ := blkS4 HR9.out
         obtain ⟨y0, y1, y2, y3⟩ := blkS4 HM9.out
         have f0 := HR9.out.frozen 0
         have f1 := HR9.out.frozen 1
         have f2 := HR9.out.frozen 2
         have f3 := HR9.out.frozen 3
         go_wp2_with fail
         obtain ⟨wf, hwf⟩ : ∃ wf, wf = ((((w9.setCell ⟨w.heap.size + 1, 0, none⟩ (.slice a0 n0 c0)).setCell ⟨w.heap.size + 1, 1, none⟩ (.slice a1 n1 c1)).setCell ⟨w.heap.size + 1, 2, none⟩ (.slice A8 (n2 + 1) c8)).setCell ⟨w.heap.size + 1, 3, none⟩ (.slice a3 n3 c3)) := ⟨_, rfl⟩
         have hRf : Blk wf (w.heap.size + 1) 42 #[(.slice a0 n0 c0), (.slice a1 n1 c1), (.slice A8 (n2 + 1) c8), (.slice a3 n3 c3)] := by rw [hwf]; exact blk_four HR9.out
         have hw1 : w.heap.size ≤ w.heap.size + 1 := Nat.le_succ _
         have hKf : ChP lo rlT (fun _ => False) w wf := by rw [hwf]; exact ((((K9.out).setN (p := ⟨w.heap.size + 1, 0, none⟩) hw1 _).setN (p := ⟨w.heap.size + 1, 1, none⟩) hw1 _).setN (p := ⟨w.heap.size + 1, 2, none⟩) hw1 _).setN (p := ⟨w.heap.size + 1, 3, none⟩) hw1 _
         obtain ⟨s0, s1, s2, s3⟩ := blkS4 hRf
         rw [← hwf]
         refine bodyPost_ret (v := .tuple #[.agg #[(.slice a0 n0 c0), (.slice a1 n1 c1), (.slice A8 (n2 + 1) c8), (.slice a3 n3 c3)], .bool true]) (by simp [results, Tryd.results15, go_sem, s0, s1, s2, s3]) rfl ?_
         rw [HN.out]
         have hll := ln_ret (m := (m.1, m.2.1, m.2.2.1 ++ [(z1, z2, L)], m.2.2.2)) HF9.out HI9.out HR9.out (.slice a0 n0 c0) (.slice a1 n1 c1) (.slice A8 (n2 + 1) c8) (.slice a3 n3 c3)
         rw [← hwf] at hll
         exact ⟨hKf, _, _, _, _, rfl, hll.1, hll.2⟩
     ·have g2 : (n : Int) ≤ (2 : Int) := by omega
      have e6 : (x.toList == ([109, 101, 109] : List UInt8)) = false := not_word (by rw [k5]; decide)
      have HN := Lib.hid (show rdLnS m (fs.map byt) = none by
       unfold rdLnS
       rw [Ha.out, HK.out, if_neg (by simp), if_neg (fun h => k4 h.1), if_neg (fun h => hn2 (by have h1 := h.2; rw [List.length_map, Hfl.out] at h1; exact h1)), if_neg (fun h => absurd (k5.symm.trans h.1) (by decide))])
      clear k4 k5
      have hmq := Lib.hid HM4.out.mod
      have hrq := Lib.hid HM4.out.res
      obtain ⟨r0, r1, r2, r3⟩ := blkS4 hrq.out
      obtain ⟨y0, y1, y2, y3⟩ := blkS4 hmq.out
      have f0 := hrq.out.frozen 0
      have f1 := hrq.out.frozen 1
      have f2 := hrq.out.frozen 2
      have f3 := hrq.out.frozen 3
      go_wp2_with fail
      obtain ⟨wf, hwf⟩ : ∃ wf, wf = ((((wo.setCell ⟨w.heap.size + 1, 0, none⟩ (.slice a0 n0 c0)).setCell ⟨w.heap.size + 1, 1, none⟩ (.slice a1 n1 c1)).setCell ⟨w.heap.size + 1, 2, none⟩ (.slice a2 n2 c2)).setCell ⟨w.heap.size + 1, 3, none⟩ (.slice a3 n3 c3)) := ⟨_, rfl⟩
      have hRf : Blk wf (w.heap.size + 1) 42 #[(.slice a0 n0 c0), (.slice a1 n1 c1), (.slice a2 n2 c2), (.slice a3 n3 c3)] := by rw [hwf]; exact blk_four hrq.out
      have hw1 : w.heap.size ≤ w.heap.size + 1 := Nat.le_succ _
      have hKf : ChP lo rlT (fun _ => False) w wf := by rw [hwf]; exact ((((K4.out).setN (p := ⟨w.heap.size + 1, 0, none⟩) hw1 _).setN (p := ⟨w.heap.size + 1, 1, none⟩) hw1 _).setN (p := ⟨w.heap.size + 1, 2, none⟩) hw1 _).setN (p := ⟨w.heap.size + 1, 3, none⟩) hw1 _
      obtain ⟨s0, s1, s2, s3⟩ := blkS4 hRf
      rw [← hwf]
      refine bodyPost_ret (v := .tuple #[.agg #[(.slice a0 n0 c0), (.slice a1 n1 c1), (.slice a2 n2 c2), (.slice a3 n3 c3)], .bool false]) (by simp [results, Tryd.results15, go_sem, s0, s1, s2, s3]) rfl ?_
      rw [HN.out]
      exact ⟨hKf, _, _, _, _, ⟨⟨_, _, _, rfl⟩, ⟨_, _, _, rfl⟩, ⟨_, _, _, rfl⟩, ⟨_, _, _, rfl⟩⟩, rfl⟩
    have e5 := not_word k5
    by_cases k6 : byt x = [109, 101, 109]
    ·have e6 := is_word k6
     by_cases hn2 : n = 5
     ·subst hn2
      obtain ⟨x1, hx1a, hx1m, d1⟩ := fld_at HF4.out (i := 1) (by omega)
      have Hx1 := Lib.hid hx1a
      have hx1z := Hz.out x1 hx1m
      clear hx1a hx1m
      obtain ⟨x2, hx2a, hx2m, d2⟩ := fld_at HF4.out (i := 2) (by omega)
      have Hx2 := Lib.hid hx2a
      have hx2z := Hz.out x2 hx2m
      clear hx2a hx2m
      obtain ⟨x3, hx3a, hx3m, d3⟩ := fld_at HF4.out (i := 3) (by omega)
      have Hx3 := Lib.hid hx3a
      have hx3z := Hz.out x3 hx3m
      clear hx3a hx3m
      obtain ⟨x4, hx4a, hx4m, d4⟩ := fld_at HF4.out (i := 4) (by omega)
      have Hx4 := Lib.hid hx4a
      have hx4z := Hz.out x4 hx4m
      clear hx4a hx4m
      obtain ⟨z1, hz1⟩ : ∃ z, z = tlS (byt x1) := ⟨_, rfl⟩
      obtain ⟨z2, hz2⟩ : ∃ z, z = tlS (byt x2) := ⟨_, rfl⟩
      obtain ⟨z3, hz3⟩ : ∃ z, z = tlS (byt x3) := ⟨_, rfl⟩
      obtain ⟨z4, hz4⟩ : ∃ z, z = tlS (byt x4) := ⟨_, rfl⟩
      have HN := Lib.hid (show rdLnS m (fs.map byt) = some (m.1, m.2.1, m.2.2.1, m.2.2.2 ++ [(z1, z2, z3, z4)]) by
       rw [hz1, hz2, hz3, hz4]
       unfold rdLnS
       rw [Ha.out, HK.out, Hx1.out, Hx2.out, Hx3.out, Hx4.out, if_neg (by simp), if_neg (fun h => k4 h.1), if_neg (fun h => k5 h.1), if_pos ⟨k6, by rw [List.length_map, Hfl.out]⟩])
      have Hz1 := Lib.hid hz1.symm
      have Hz2 := Lib.hid hz2.symm
      have Hz3 := Lib.hid hz3.symm
      have Hz4 := Lib.hid hz4.symm
      clear hz1 hz2 hz3 hz4
      have ho3 : wo.ownsRow lo 80 4 (.slice a3 n3 c3) n3 (recs eMm m.2.2.2) := by have h := HM4.out.fl.s3; rw [Hn.out.2.2.2] at h; exact h
      have Ho3 := Lib.hid ho3
      have hgl : g0 < wo.heap.size := (HF4.out.lt g0 rfl).2
      have n3' : ¬ (Value.slice a3 n3 c3).ownBlock = some g0 := fun h1 => absurd ((own_of ho3 h1).inj (own_of HF4.out rfl)) (by decide)
      have ng : ¬ (Value.slice a3 n3 c3).ownBlock = some w.heap.size := fun h1 => absurd ((own_of ho3 h1).inj HM4.out.mod.of) (by decide)
      obtain ⟨y0, y1, y2, y3⟩ := blkS4 HM4.out.mod
      have cg := ocel (S := fun b => (Value.slice a3 n3 c3).ownBlock = some b) y3 HM4.out.mod.lt ng
      have b1 := ocel (S := fun b => (Value.slice a3 n3 c3).ownBlock = some b) d1 hgl n3'
      have b2 := ocel (S := fun b => (Value.slice a3 n3 c3).ownBlock = some b) d2 hgl n3'
      have b3 := ocel (S := fun b => (Value.slice a3 n3 c3).ownBlock = some b) d3 hgl n3'
      have b4 := ocel (S := fun b => (Value.slice a3 n3 c3).ownBlock = some b) d4 hgl n3'
      obtain ⟨i0, hi, hz0, hz1, hz2⟩ := info_parts Tryd.infMemC
      clear k4 k5 k6 ho3 d1 d2 d3 d4 y0 y1 y2 y3
      go_wp2_with fail
      refine wp_region_lexC (by kernel_rfl) (by kernel_rfl) (fun x => Only (fun b => (Value.slice a3 n3 c3).ownBlock = some b) wo x) ((Only.refl _ _).drew) (fun lexNE => ?_)
      have HA := Lib.hid ((Below.refl wo.heap.size wo).drew)
      (repeat (first | (refine lex_r fun K hK => ?_; go_big_quiet_op; refine hK _ ?_; clear hK K) | (refine lex_k fun K hK => ?_; go_simp; refine hK _ ?_; clear hK K)))
      (refine lex_e fun K hK => ?_; go_big_op)
      refine (s_l05Tail x1 (by unfold maxLen; omega) _).mono ?_
      rintro e D1 ⟨rfl, hbc⟩
      rw [show tlS x1.data.toList = z1 from Hz1.out]
      have HA := Lib.hid (HA.out.trans (hbc.mono HA.out.size))
      refine hK _ _ (Cls.mk' (Only.of_below HA.out _)) ?_
      clear hK K hbc
      (repeat (first | (refine lex_r fun K hK => ?_; go_big_quiet_op; refine hK _ ?_; clear hK K) | (refine lex_k fun K hK => ?_; go_simp; refine hK _ ?_; clear hK K)))
      (refine lex_e fun K hK => ?_; go_big_op)
      refine (s_l05Tail x2 (by unfold maxLen; omega) _).mono ?_
      rintro e D2 ⟨rfl, hbc⟩
      rw [show tlS x2.data.toList = z2 from Hz2.out]
      have HA := Lib.hid (HA.out.trans (hbc.mono HA.out.size))
      refine hK _ _ (Cls.mk' (Only.of_below HA.out _)) ?_
      clear hK K hbc
      (repeat (first | (refine lex_r fun K hK => ?_; go_big_quiet_op; refine hK _ ?_; clear hK K) | (refine lex_k fun K hK => ?_; go_simp; refine hK _ ?_; clear hK K)))
      (refine lex_e fun K hK => ?_; go_big_op)
      refine (s_l05Tail x3 (by unfold maxLen; omega) _).mono ?_
      rintro e D3 ⟨rfl, hbc⟩
      rw [show tlS x3.data.toList = z3 from Hz3.out]
      have HA := Lib.hid (HA.out.trans (hbc.mono HA.out.size))
      refine hK _ _ (Cls.mk' (Only.of_below HA.out _)) ?_
      clear hK K hbc
      (repeat (first | (refine lex_r fun K hK => ?_; go_big_quiet_op; refine hK _ ?_; clear hK K) | (refine lex_k fun K hK => ?_; go_simp; refine hK _ ?_; clear hK K)))
      (refine lex_e fun K hK => ?_; go_big_op)
      refine (s_l05Tail x4 (by unfold maxLen; omega) _).mono ?_
      rintro e D4 ⟨rfl, hbc⟩
      rw [show tlS x4.data.toList = z4 from Hz4.out]
      have HA := Lib.hid (HA.out.trans (hbc.mono HA.out.size))
      refine hK _ _ (Cls.mk' (Only.of_below HA.out _)) ?_
      clear hK K hbc
      have zD4 := HA.out.size
      have HO1 := Lib.hid (HM4.out.below HA.out)
      have Hoq := Lib.hid (own_below Ho3.out HA.out (Nat.le_refl _))
      (repeat (first | (refine lex_r fun K hK => ?_; go_big_quiet_op; refine hK _ ?_; clear hK K) | (refine lex_k fun K hK => ?_; go_simp; refine hK _ ?_; clear hK K)))
      (refine lex_e fun K hK => ?_; go_big_op)
      refine hK _ _ (Cls.mk' ((Only.of_below HA.out _).alloc _)) ?_
      clear hK K
      refine lex_e fun K hK => ?_
      refine wp_append_any _ _ _ 40 (by rfl) (lo) 80 i0 (.agg #[.int .i64 0, .int .i64 0, .int .i64 0, .int .i64 0]) 4 32 Tryd.underlying40 hi hz0 hz1 hz2 rfl (by decide) _ _ _ (by rfl) (Hoq.out.alloc _) _ _ 1 1 _ (by rfl) (reads_new _ _ 1 4 rfl) (by intro u hu; simp at hu; first | (subst hu; rfl) | (rcases hu with rfl | rfl <;> rfl) | (rcases hu with rfl | rfl | rfl <;> rfl) | (rcases hu with rfl | rfl | rfl | rfl <;> rfl)) (by unfold maxLen; omega) (by omega) (by (try simp) <;> (try omega)) ?_
      intro v8 w8 hown8 hgrow8 hblk8
      go_simp
      refine hK _ _ (Cls.mk' (Only.grown2 ((Only.of_below HA.out (fun b => (Value.slice a3 n3 c3).ownBlock = some b)).alloc _) hgrow8 (fun g hg => .inl hg))) ?_
      clear hK K
      obtain ⟨A8, c8, rfl, _, _, _⟩ := own_form hown8
      have hbl := fun o : Obj => (Below.refl D4.heap.size D4).alloc (Nat.le_refl _) o
      have HS8 := Lib.hid ((HO1.out.fl.below (hbl _)).pushM (x := (z1, z2, z3, z4)) (by rw [Hn.out.2.2.2]; exact hown8) hgrow8)
      have HI8 := Lib.hid ((HO1.out.ins.below (hbl _)).grown (own_below Hoq.out (hbl _) (Nat.le_refl _)) (by decide) hgrow8)
      have HM8 := Lib.hid (blk_row (HO1.out.mod.below (hbl _) HO1.out.mod.lt) (own_below Hoq.out (hbl _) (Nat.le_refl _)) (by decide) hgrow8)
      have HR8 := Lib.hid (blk_row (HO1.out.res.below (hbl _) HO1.out.res.lt) (own_below Hoq.out (hbl _) (Nat.le_refl _)) (by decide) hgrow8)
      have K8 := Lib.hid (((K4.out.bel HA.out).alloc _).row (own_below Hoq.out (hbl _) (Nat.le_refl _)) (Nat.le_refl _) rlT_mem hgrow8)
      clear hown8 hgrow8 hblk8 hbl
      (repeat (first | (refine lex_r fun K hK => ?_; go_big_quiet_op; refine hK _ ?_; clear hK K) | (refine lex_k fun K hK => ?_; go_simp; refine hK _ ?_; clear hK K)))
      obtain ⟨y0, y1, y2, y3⟩ := blkS4 HM8.out
      have f9 := HM8.out.frozen 3
      (refine lex_l fun K hK => ?_; go_big_op)
      (refine hK _ _ ?_; clear hK K)
      clear lexNE cg b1 b2 b3 b4 ng n3' f9 y0 y1 y2 y3
      obtain ⟨w9, hw9⟩ : ∃ w9, w9 = w8.setCell ⟨w.heap.size, 3, none⟩ (.slice A8 (n3 + 1) c8) := ⟨_, rfl⟩
      have HM9 := Lib.hid (show Blk w9 w.heap.size 42 #[(.slice a0 n0 c0), (.slice a1 n1 c1), (.slice a2 n2 c2), (.slice A8 (n3 + 1) c8)] by rw [hw9]; exact HM8.out.set_ 3 _)
      have HR9 := Lib.hid (show Blk w9 (w.heap.size + 1) 42 #[.slice none 0 0, .slice none 0 0, .slice none 0 0, .slice none 0 0] by rw [hw9]; exact blk_off HR8.out (by omega) _ _)
      have K9 := Lib.hid (show ChP lo rlT (fun _ => False) w w9 by rw [hw9]; exact K8.out.setN (p := ⟨w.heap.size, 3, none⟩) (Nat.le_refl _) _)
      have HF9 := Lib.hid (show FlS w9 lo (.slice a0 n0 c0) (.slice a1 n1 c1) (.slice A8 (n3 + 1) c8) ((m.1, m.2.1, m.2.2.1, m.2.2.2 ++ [(z1, z2, z3, z4)]) : TModule).1 ((m.1, m.2.1, m.2.2.1, m.2.2.2 ++ [(z1, z2, z3, z4)]) : TModule).2.1 ((m.1, m.2.1, m.2.2.1, m.2.2.2 ++ [(z1, z2, z3, z4)]) : TModule).2.2.2 by rw [hw9]; exact HS8.out.set HM8.out.of (by decide) _ _)
      have HI9 := Lib.hid (show InS w9 lo (.slice a2 n2 c2) ((m.1, m.2.1, m.2.2.1, m.2.2.2 ++ [(z1, z2, z3, z4)]) : TModule).2.2.1 by rw [hw9]; exact HI8.out.set HM8.out.of (by decide) _ _)
      rw [← hw9]
      clear hw9
      obtain ⟨r0, r1, r2, r3⟩ := blkS4 HR9.out
      obtain ⟨y0, y1, y2, y3⟩ := blkS4 HM9.out
      have f0 := HR9.out.frozen 0
      have f1 := HR9.out.frozen 1
      have f2 := HR9.out.frozen 2
      have f3 := HR9.out.frozen 3
      go_wp2_with fail
      obtain ⟨wf, hwf⟩ : ∃ wf, wf = ((((w9.setCell ⟨w.heap.size + 1, 0, none⟩ (.slice a0 n0 c0)).setCell ⟨w.heap.size + 1, 1, none⟩ (.slice a1 n1 c1)).setCell ⟨w.heap.size + 1, 2, none⟩ (.slice a2 n2 c2)).setCell ⟨w.heap.size + 1, 3, none⟩ (.slice A8 (n3 + 1) c8)) := ⟨_, rfl⟩
      have hRf : Blk wf (w.heap.size + 1) 42 #[(.slice a0 n0 c0), (.slice a1 n1 c1), (.slice a2 n2 c2), (.slice A8 (n3 + 1) c8)] := by rw [hwf]; exact blk_four HR9.out
      have hw1 : w.heap.size ≤ w.heap.size + 1 := Nat.le_succ _
      have hKf : ChP lo rlT (fun _ => False) w wf := by rw [hwf]; exact ((((K9.out).setN (p := ⟨w.heap.size + 1, 0, none⟩) hw1 _).setN (p := ⟨w.heap.size + 1, 1, none⟩) hw1 _).setN (p := ⟨w.heap.size + 1, 2, none⟩) hw1 _).setN (p := ⟨w.heap.size + 1, 3, none⟩) hw1 _
      obtain ⟨s0, s1, s2, s3⟩ := blkS4 hRf
      rw [← hwf]
      refine bodyPost_ret (v := .tuple #[.agg #[(.slice a0 n0 c0), (.slice a1 n1 c1), (.slice a2 n2 c2), (.slice A8 (n3 + 1) c8)], .bool true]) (by simp [results, Tryd.results15, go_sem, s0, s1, s2, s3]) rfl ?_
      rw [HN.out]
      have hll := ln_ret (m := (m.1, m.2.1, m.2.2.1, m.2.2.2 ++ [(z1, z2, z3, z4)])) HF9.out HI9.out HR9.out (.slice a0 n0 c0) (.slice a1 n1 c1) (.slice a2 n2 c2) (.slice A8 (n3 + 1) c8)
      rw [← hwf] at hll
      exact ⟨hKf, _, _, _, _, rfl, hll.1, hll.2⟩
     ·have g2 : ((n : Int) == 5) = false := by simp; omega
      have HN := Lib.hid (show rdLnS m (fs.map byt) = none by
       unfold rdLnS
       rw [Ha.out, HK.out, if_neg (by simp), if_neg (fun h => k4 h.1), if_neg (fun h => k5 h.1), if_neg (fun h => hn2 (by have h1 := h.2; rw [List.length_map, Hfl.out] at h1; exact h1))])
      clear k4 k5 k6
      have hmq := Lib.hid HM4.out.mod
      have hrq := Lib.hid HM4.out.res
      obtain ⟨r0, r1, r2, r3⟩ := blkS4 hrq.out
      obtain ⟨y0, y1, y2, y3⟩ := blkS4 hmq.out
      have f0 := hrq.out.frozen 0
      have f1 := hrq.out.frozen 1
      have f2 := hrq.out.frozen 2
      have f3 := hrq.out.frozen 3
      go_wp2_with fail
      obtain ⟨wf, hwf⟩ : ∃ wf, wf = ((((wo.setCell ⟨w.heap.size + 1, 0, none⟩ (.slice a0 n0 c0)).setCell ⟨w.heap.size + 1, 1, none⟩ (.slice a1 n1 c1)).setCell ⟨w.heap.size + 1, 2, none⟩ (.slice a2 n2 c2)).setCell ⟨w.heap.size + 1, 3, none⟩ (.slice a3 n3 c3)) := ⟨_, rfl⟩
      have hRf : Blk wf (w.heap.size + 1) 42 #[(.slice a0 n0 c0), (.slice a1 n1 c1), (.slice a2 n2 c2), (.slice a3 n3 c3)] := by rw [hwf]; exact blk_four hrq.out
      have hw1 : w.heap.size ≤ w.heap.size + 1 := Nat.le_succ _
      have hKf : ChP lo rlT (fun _ => False) w wf := by rw [hwf]; exact ((((K4.out).setN (p := ⟨w.heap.size + 1, 0, none⟩) hw1 _).setN (p := ⟨w.heap.size + 1, 1, none⟩) hw1 _).setN (p := ⟨w.heap.size + 1, 2, none⟩) hw1 _).setN (p := ⟨w.heap.size + 1, 3, none⟩) hw1 _
      obtain ⟨s0, s1, s2, s3⟩ := blkS4 hRf
      rw [← hwf]
      refine bodyPost_ret (v := .tuple #[.agg #[(.slice a0 n0 c0), (.slice a1 n1 c1), (.slice a2 n2 c2), (.slice a3 n3 c3)], .bool false]) (by simp [results, Tryd.results15, go_sem, s0, s1, s2, s3]) rfl ?_
      rw [HN.out]
      exact ⟨hKf, _, _, _, _, ⟨⟨_, _, _, rfl⟩, ⟨_, _, _, rfl⟩, ⟨_, _, _, rfl⟩, ⟨_, _, _, rfl⟩⟩, rfl⟩
    have e6 := not_word k6
    have HN := Lib.hid (show rdLnS m (fs.map byt) = none by
     unfold rdLnS
     rw [Ha.out, HK.out, if_neg (by simp), if_neg (fun h => k4 h.1), if_neg (fun h => k5 h.1), if_neg (fun h => k6 h.1)])
    clear k4 k5 k6
    have hmq := Lib.hid HM4.out.mod
    have hrq := Lib.hid HM4.out.res
    obtain ⟨r0, r1, r2, r3⟩ := blkS4 hrq.out
    obtain ⟨y0, y1, y2, y3⟩ := blkS4 hmq.out
    have f0 := hrq.out.frozen 0
    have f1 := hrq.out.frozen 1
    have f2 := hrq.out.frozen 2
    have f3 := hrq.out.frozen 3
    go_wp2_with fail
    obtain ⟨wf, hwf⟩ : ∃ wf, wf = ((((wo.setCell ⟨w.heap.size + 1, 0, none⟩ (.slice a0 n0 c0)).setCell ⟨w.heap.size + 1, 1, none⟩ (.slice a1 n1 c1)).setCell ⟨w.heap.size + 1, 2, none⟩ (.slice a2 n2 c2)).setCell ⟨w.heap.size + 1, 3, none⟩ (.slice a3 n3 c3)) := ⟨_, rfl⟩
    have hRf : Blk wf (w.heap.size + 1) 42 #[(.slice a0 n0 c0), (.slice a1 n1 c1), (.slice a2 n2 c2), (.slice a3 n3 c3)] := by rw [hwf]; exact blk_four hrq.out
    have hw1 : w.heap.size ≤ w.heap.size + 1 := Nat.le_succ _
    have hKf : ChP lo rlT (fun _ => False) w wf := by rw [hwf]; exact ((((K4.out).setN (p := ⟨w.heap.size + 1, 0, none⟩) hw1 _).setN (p := ⟨w.heap.size + 1, 1, none⟩) hw1 _).setN (p := ⟨w.heap.size + 1, 2, none⟩) hw1 _).setN (p := ⟨w.heap.size + 1, 3, none⟩) hw1 _
    obtain ⟨s0, s1, s2, s3⟩ := blkS4 hRf
    rw [← hwf]
    refine bodyPost_ret (v := .tuple #[.agg #[(.slice a0 n0 c0), (.slice a1 n1 c1), (.slice a2 n2 c2), (.slice a3 n3 c3)], .bool false]) (by simp [results, Tryd.results15, go_sem, s0, s1, s2, s3]) rfl ?_
    rw [HN.out]
    exact ⟨hKf, _, _, _, _, ⟨⟨_, _, _, rfl⟩, ⟨_, _, _, rfl⟩, ⟨_, _, _, rfl⟩, ⟨_, _, _, rfl⟩⟩, rfl⟩
   ·have HK := Lib.hid hk
    rw [hk]
    clear hk
    by_cases hn2 : n = 2
    ·subst hn2
     obtain ⟨x1, hx1a, hx1m, d1⟩ := fld_at HF4.out (i := 1) (by omega)
     have Hx1 := Lib.hid hx1a
     have hx1z := Hz.out x1 hx1m
     clear hx1a hx1m
     have HNa := Lib.hid (show rdLnS m (fs.map byt) = some (m.1 ++ [(0, szS (byt x1), if (0 : Int) = 3 then (pv (at0 (fs.map byt) 2) : Int) else 0)], m.2) by
      unfold rdLnS
      rw [Ha.out, HK.out, Hx1.out, if_pos ⟨by decide, by rw [List.length_map, Hfl.out]; decide⟩])
     go_wp2_with fail
     refine (s_l05Size x1 (by unfold maxLen; omega) wo).mono ?_
     rintro e w5 ⟨rfl, hb5⟩
     obtain ⟨z1, hz1⟩ : ∃ z, z = szS (byt x1) := ⟨_, rfl⟩
     rw [← hz1] at HNa ⊢
     clear hz1
     have HB5 := Lib.hid hb5
     have zz5 := hb5.size
     obtain ⟨B2, hB2⟩ : ∃ B2, B2 = w5.alloc (.cells #[.int .i64 0, .int .i64 z1, .int .i64 0] 66) := ⟨_, rfl⟩
     obtain ⟨gx, hgx⟩ : ∃ g, g = w5.heap.size := ⟨_, rfl⟩
     have HbB2 := Lib.hid (show Below wo.heap.size wo B2 by rw [hB2]; exact HB5.out.alloc zz5 _)
     have HgB2 := Lib.hid (show Blk B2 gx 66 #[.int .i64 0, .int .i64 z1, .int .i64 0] by rw [hB2, hgx]; exact Blk.new _ _ _)
     have zgx : wo.heap.size ≤ gx := by omega
     clear hb5
     go_upto_region 9 with fail
     rw [← hB2, ← hgx]
     clear hB2 hgx
     have HN := Lib.hid (HNa.out.trans (show _ = some (m.1 ++ [(0, z1, 0)], m.2) from rfl))
     have HO6 := Lib.hid (HM4.out.below HbB2.out)
     obtain ⟨y0, y1, y2, y3⟩ := blkS4 HO6.out.mod
     obtain ⟨i0, hi, hz0, hz1, hz2⟩ := info_parts Tryd.infSignalC
     have ho0 : (B2).ownsRow lo 66 3 (.slice a0 n0 c0) n0 (recs eSg m.1) := by have h := HO6.out.fl.s0; rw [Hn.out.1] at h; exact h
     have Ho0 := Lib.hid ho0
     have zz6 := HbB2.out.size
     obtain ⟨q0, q1, q2⟩ := blkS3 HgB2.out
     clear ho0
     go_wp2_with (at_builtin; refine wpList_append_any _ rfl _ _ 37 rfl (lo) 66 i0 (.agg #[.int .i64 0, .int .i64 0, .int .i64 0]) 3 24 Tryd.underlying37 hi hz0 hz1 hz2 rfl (by decide) _ _ _ rfl (Ho0.out.alloc _) _ _ 1 1 _ rfl (reads_new _ _ 1 3 rfl) (by intro u hu; simp at hu; first | (subst hu; rfl) | (rcases hu with rfl | rfl <;> rfl) | (rcases hu with rfl | rfl | rfl <;> rfl)) (by unfold maxLen; omega) (by omega) (by (try simp) <;> (try omega)) ?_; intro v8 w8 hown8 hgrow8 hblk8; refine stopX ?_)
     obtain ⟨A8, c8, rfl, _, _, _⟩ := own_form hown8
     have hbl := fun o : Obj => (Below.refl (B2).heap.size B2).alloc (Nat.le_refl _) o
     have HS8 := Lib.hid ((HO6.out.fl.below (hbl _)).pushS (x := ((0, z1, 0))) (by rw [Hn.out.1]; exact hown8) hgrow8)
     have HI8 := Lib.hid ((HO6.out.ins.below (hbl _)).grown (own_below Ho0.out (hbl _) (Nat.le_refl _)) (by decide) hgrow8)
     have HM8 := Lib.hid (blk_row (HO6.out.mod.below (hbl _) HO6.out.mod.lt) (own_below Ho0.out (hbl _) (Nat.le_refl _)) (by decide) hgrow8)
     have HR8 := Lib.hid (blk_row (HO6.out.res.below (hbl _) HO6.out.res.lt) (own_below Ho0.out (hbl _) (Nat.le_refl _)) (by decide) hgrow8)
     have K8 := Lib.hid (((K4.out.bel HbB2.out).alloc _).row (own_below Ho0.out (hbl _) (Nat.le_refl _)) (Nat.le_refl _) rlT_sig hgrow8)
     clear hown8 hgrow8 hblk8 hbl y0 y1 y2 y3 q0 q1 q2 hi hz0 hz1 hz2
     obtain ⟨y0, y1, y2, y3⟩ := blkS4 HM8.out
     refine stopped ?_
     have f9 := HM8.out.frozen 0
     go_upto_region 13 with fail
     clear f9
     obtain ⟨w9, hw9⟩ : ∃ w9, w9 = w8.setCell ⟨w.heap.size, 0, none⟩ (.slice A8 (n0 + 1) c8) := ⟨_, rfl⟩
     have HM9 := Lib.hid (show Blk w9 w.heap.size 42 #[(.slice A8 (n0 + 1) c8), (.slice a1 n1 c1), (.slice a2 n2 c2), (.slice a3 n3 c3)] by rw [hw9]; exact HM8.out.set_ 0 _)
     have HR9 := Lib.hid (show Blk w9 (w.heap.size + 1) 42 #[.slice none 0 0, .slice none 0 0, .slice none 0 0, .slice none 0 0] by rw [hw9]; exact blk_off HR8.out (by omega) _ _)
     have K9 := Lib.hid (show ChP lo rlT (fun _ => False) w w9 by rw [hw9]; exact K8.out.setN (p := ⟨w.heap.size, 0, none⟩) (Nat.le_refl _) _)
     have HF9 := Lib.hid (show FlS w9 lo (.slice A8 (n0 + 1) c8) (.slice a1 n1 c1) (.slice a3 n3 c3) ((m.1 ++ [((0, z1, 0))], m.2) : TModule).1 ((m.1 ++ [((0, z1, 0))], m.2) : TModule).2.1 ((m.1 ++ [((0, z1, 0))], m.2) : TModule).2.2.2 by rw [hw9]; exact HS8.out.set HM8.out.of (by decide) _ _)
     have HI9 := Lib.hid (show InS w9 lo (.slice a2 n2 c2) ((m.1 ++ [((0, z1, 0))], m.2) : TModule).2.2.1 by rw [hw9]; exact HI8.out.set HM8.out.of (by decide) _ _)
     rw [← hw9]
     clear hw9
     obtain ⟨r0, r1, r2, r3⟩ := blkS4 HR9.out
     obtain ⟨y0, y1, y2, y3⟩ := blkS4 HM9.out
     have f0 := HR9.out.frozen 0
     have f1 := HR9.out.frozen 1
     have f2 := HR9.out.frozen 2
     have f3 := HR9.out.frozen 3
     go_wp2_with fail
     obtain ⟨wf, hwf⟩ : ∃ wf, wf = ((((w9.setCell ⟨w.heap.size + 1, 0, none⟩ (.slice A8 (n0 + 1) c8)).setCell ⟨w.heap.size + 1, 1, none⟩ (.slice a1 n1 c1)).setCell ⟨w.heap.size + 1, 2, none⟩ (.slice a2 n2 c2)).setCell ⟨w.heap.size + 1, 3, none⟩ (.slice a3 n3 c3)) := ⟨_, rfl⟩
     have hRf : Blk wf (w.heap.size + 1) 42 #[(.slice A8 (n0 + 1) c8), (.slice a1 n1 c1), (.slice a2 n2 c2), (.slice a3 n3 c3)] := by rw [hwf]; exact blk_four HR9.out
     have hw1 : w.heap.size ≤ w.heap.size + 1 := Nat.le_succ _
     have hKf : ChP lo rlT (fun _ => False) w wf := by rw [hwf]; exact ((((K9.out).setN (p := ⟨w.heap.size + 1, 0, none⟩) hw1 _).setN (p := ⟨w.heap.size + 1, 1, none⟩) hw1 _).setN (p := ⟨w.heap.size + 1, 2, none⟩) hw1 _).setN (p := ⟨w.heap.size + 1, 3, none⟩) hw1 _
     obtain ⟨s0, s1, s2, s3⟩ := blkS4 hRf
     rw [← hwf]
     refine bodyPost_ret (v := .tuple #[.agg #[(.slice A8 (n0 + 1) c8), (.slice a1 n1 c1), (.slice a2 n2 c2), (.slice a3 n3 c3)], .bool true]) (by simp [results, Tryd.results15, go_sem, s0, s1, s2, s3]) rfl ?_
     rw [HN.out]
     have hll := ln_ret (m := (m.1 ++ [((0, z1, 0))], m.2)) HF9.out HI9.out HR9.out (.slice A8 (n0 + 1) c8) (.slice a1 n1 c1) (.slice a2 n2 c2) (.slice a3 n3 c3)
     rw [← hwf] at hll
     exact ⟨hKf, _, _, _, _, rfl, hll.1, hll.2⟩
    ·have hq : ((n : Int) == 2) = false := by simp; omega
     have e4 : (x.toList == ([115, 101, 116] : List UInt8)) = false := not_word (by rw [hw]; decide)
     have e5 : (x.toList == ([117, 115, 101] : List UInt8)) = false := not_word (by rw [hw]; decide)
     have e6 : (x.toList == ([109, 101, 109] : List UInt8)) = false := not_word (by rw [hw]; decide)
     have HN := Lib.hid (show rdLnS m (fs.map byt) = none by
      unfold rdLnS
      rw [Ha.out, HK.out, if_neg (fun h => hn2 (by have h1 := h.2; rw [List.length_map, Hfl.out] at h1; have h2 : (2 : Int) + Int.tdiv 0 3 = 2 := (by decide); omega)), if_neg (fun h => absurd (hw.symm.trans h.1) (by decide)), if_neg (fun h => absurd (hw.symm.trans h.1) (by decide)), if_neg (fun h => absurd (hw.symm.trans h.1) (by decide))])
     clear hw hn2
     have hmq := Lib.hid HM4.out.mod
     have hrq := Lib.hid HM4.out.res
     obtain ⟨r0, r1, r2, r3⟩ := blkS4 hrq.out
     obtain ⟨y0, y1, y2, y3⟩ := blkS4 hmq.out
     have f0 := hrq.out.frozen 0
     have f1 := hrq.out.frozen 1
     have f2 := hrq.out.frozen 2
     have f3 := hrq.out.frozen 3
     go_wp2_with fail
     obtain ⟨wf, hwf⟩ : ∃ wf, wf = ((((wo.setCell ⟨w.heap.size + 1, 0, none⟩ (.slice a0 n0 c0)).setCell ⟨w.heap.size + 1, 1, none⟩ (.slice a1 n1 c1)).setCell ⟨w.heap.size + 1, 2, none⟩ (.slice a2 n2 c2)).setCell ⟨w.heap.size + 1, 3, none⟩ (.slice a3 n3 c3)) := ⟨_, rfl⟩
     have hRf : Blk wf (w.heap.size + 1) 42 #[(.slice a0 n0 c0), (.slice a1 n1 c1), (.slice a2 n2 c2), (.slice a3 n3 c3)] := by rw [hwf]; exact blk_four hrq.out
     have hw1 : w.heap.size ≤ w.heap.size + 1 := Nat.le_succ _
     have hKf : ChP lo rlT (fun _ => False) w wf := by rw [hwf]; exact ((((K4.out).setN (p := ⟨w.heap.size + 1, 0, none⟩) hw1 _).setN (p := ⟨w.heap.size + 1, 1, none⟩) hw1 _).setN (p := ⟨w.heap.size + 1, 2, none⟩) hw1 _).setN (p := ⟨w.heap.size + 1, 3, none⟩) hw1 _
     obtain ⟨s0, s1, s2, s3⟩ := blkS4 hRf
     rw [← hwf]
     refine bodyPost_ret (v := .tuple #[.agg #[(.slice a0 n0 c0), (.slice a1 n1 c1), (.slice a2 n2 c2), (.slice a3 n3 c3)], .bool false]) (by simp [results, Tryd.results15, go_sem, s0, s1, s2, s3]) rfl ?_
     rw [HN.out]
     exact ⟨hKf, _, _, _, _, ⟨⟨_, _, _, rfl⟩, ⟨_, _, _, rfl⟩, ⟨_, _, _, rfl⟩, ⟨_, _, _, rfl⟩⟩, rfl⟩
   ·have HK := Lib.hid hk
    rw [hk]
    clear hk
    by_cases hn2 : n = 2
    ·subst hn2
     obtain ⟨x1, hx1a, hx1m, d1⟩ := fld_at HF4.out (i := 1) (by omega)
     have Hx1 := Lib.hid hx1a
     have hx1z := Hz.out x1 hx1m
     clear hx1a hx1m
     have HNa := Lib.hid (show rdLnS m (fs.map byt) = some (m.1 ++ [(1, szS (byt x1), if (1 : Int) = 3 then (pv (at0 (fs.map byt) 2) : Int) else 0)], m.2) by
      unfold rdLnS
      rw [Ha.out, HK.out, Hx1.out, if_pos ⟨by decide, by rw [List.length_map, Hfl.out]; decide⟩])
     go_wp2_with fail
     refine (s_l05Size x1 (by unfold maxLen; omega) wo).mono ?_
     rintro e w5 ⟨rfl, hb5⟩
     obtain ⟨z1, hz1⟩ : ∃ z, z = szS (byt x1) := ⟨_, rfl⟩
     rw [← hz1] at HNa ⊢
     clear hz1
     have HB5 := Lib.hid hb5
     have zz5 := hb5.size
     obtain ⟨B2, hB2⟩ : ∃ B2, B2 = w5.alloc (.cells #[.int .i64 1, .int .i64 z1, .int .i64 0] 66) := ⟨_, rfl⟩
     obtain ⟨gx, hgx⟩ : ∃ g, g = w5.heap.size := ⟨_, rfl⟩
     have HbB2 := Lib.hid (show Below wo.heap.size wo B2 by rw [hB2]; exact HB5.out.alloc zz5 _)
     have HgB2 := Lib.hid (show Blk B2 gx 66 #[.int .i64 1, .int .i64 z1, .int .i64 0] by rw [hB2, hgx]; exact Blk.new _ _ _)
     have zgx : wo.heap.size ≤ gx := by omega
     clear hb5
     go_upto_region 9 with fail
     rw [← hB2, ← hgx]
     clear hB2 hgx
     have HN := Lib.hid (HNa.out.trans (show _ = some (m.1 ++ [(1, z1, 0)], m.2) from rfl))
     have HO6 := Lib.hid (HM4.out.below HbB2.out)
     obtain ⟨y0, y1, y2, y3⟩ := blkS4 HO6.out.mod
     obtain ⟨i0, hi, hz0, hz1, hz2⟩ := info_parts Tryd.infSignalC
     have ho0 : (B2).ownsRow lo 66 3 (.slice a0 n0 c0) n0 (recs eSg m.1) := by have h := HO6.out.fl.s0; rw [Hn.out.1] at h; exact h
     have Ho0 := Lib.hid ho0
     have zz6 := HbB2.out.size
     obtain ⟨q0, q1, q2⟩ := blkS3 HgB2.out
     clear ho0
     go_wp2_with (at_builtin; refine wpList_append_any _ rfl _ _ 37 rfl (lo) 66 i0 (.agg #[.int .i64 0, .int .i64 0, .int .i64 0]) 3 24 Tryd.underlying37 hi hz0 hz1 hz2 rfl (by decide) _ _ _ rfl (Ho0.out.alloc _) _ _ 1 1 _ rfl (reads_new _ _ 1 3 rfl) (by intro u hu; simp at hu; first | (subst hu; rfl) | (rcases hu with rfl | rfl <;> rfl) | (rcases hu with rfl | rfl | rfl <;> rfl)) (by unfold maxLen; omega) (by omega) (by (try simp) <;> (try omega)) ?_; intro v8 w8 hown8 hgrow8 hblk8; refine stopX ?_)
     obtain ⟨A8, c8, rfl, _, _, _⟩ := own_form hown8
     have hbl := fun o : Obj => (Below.refl (B2).heap.size B2).alloc (Nat.le_refl _) o
     have HS8 := Lib.hid ((HO6.out.fl.below (hbl _)).pushS (x := ((1, z1, 0))) (by rw [Hn.out.1]; exact hown8) hgrow8)
     have HI8 := Lib.hid ((HO6.out.ins.below (hbl _)).grown (own_below Ho0.out (hbl _) (Nat.le_refl _)) (by decide) hgrow8)
     have HM8 := Lib.hid (blk_row (HO6.out.mod.below (hbl _) HO6.out.mod.lt) (own_below Ho0.out (hbl _) (Nat.le_refl _)) (by decide) hgrow8)
     have HR8 := Lib.hid (blk_row (HO6.out.res.below (hbl _) HO6.out.res.lt) (own_below Ho0.out (hbl _) (Nat.le_refl _)) (by decide) hgrow8)
     have K8 := Lib.hid (((K4.out.bel HbB2.out).alloc _).row (own_below Ho0.out (hbl _) (Nat.le_refl _)) (Nat.le_refl _) rlT_sig hgrow8)
     clear hown8 hgrow8 hblk8 hbl y0 y1 y2 y3 q0 q1 q2 hi hz0 hz1 hz2
     obtain ⟨y0, y1, y2, y3⟩ := blkS4 HM8.out
     refine stopped ?_
     have f9 := HM8.out.frozen 0
     go_upto_region 13 with fail
     clear f9
     obtain ⟨w9, hw9⟩ : ∃ w9, w9 = w8.setCell ⟨w.heap.size, 0, none⟩ (.slice A8 (n0 + 1) c8) := ⟨_, rfl⟩
     have HM9 := Lib.hid (show Blk w9 w.heap.size 42 #[(.slice A8 (n0 + 1) c8), (.slice a1 n1 c1), (.slice a2 n2 c2), (.slice a3 n3 c3)] by rw [hw9]; exact HM8.out.set_ 0 _)
     have HR9 := Lib.hid (show Blk w9 (w.heap.size + 1) 42 #[.slice none 0 0, .slice none 0 0, .slice none 0 0, .slice none 0 0] by rw [hw9]; exact blk_off HR8.out (by omega) _ _)
     have K9 := Lib.hid (show ChP lo rlT (fun _ => False) w w9 by rw [hw9]; exact K8.out.setN (p := ⟨w.heap.size, 0, none⟩) (Nat.le_refl _) _)
     have HF9 := Lib.hid (show FlS w9 lo (.slice A8 (n0 + 1) c8) (.slice a1 n1 c1) (.slice a3 n3 c3) ((m.1 ++ [((1, z1, 0))], m.2) : TModule).1 ((m.1 ++ [((1, z1, 0))], m.2) : TModule).2.1 ((m.1 ++ [((1, z1, 0))], m.2) : TModule).2.2.2 by rw [hw9]; exact HS8.out.set HM8.out.of (by decide) _ _)
     have HI9 := Lib.hid (show InS w9 lo (.slice a2 n2 c2) ((m.1 ++ [((1, z1, 0))], m.2) : TModule).2.2.1 by rw [hw9]; exact HI8.out.set HM8.out.of (by decide) _ _)
     rw [← hw9]
     clear hw9
     obtain ⟨r0, r1, r2, r3⟩ := blkS4 HR9.out
     obtain ⟨y0, y1, y2, y3⟩ := blkS4 HM9.out
     have f0 := HR9.out.frozen 0
     have f1 := HR9.out.frozen 1
     have f2 := HR9.out.frozen 2
     have f3 := HR9.out.frozen 3
     go_wp2_with fail
     obtain ⟨wf, hwf⟩ : ∃ wf, wf = ((((w9.setCell ⟨w.heap.size + 1, 0, none⟩ (.slice A8 (n0 + 1) c8)).setCell ⟨w.heap.size + 1, 1, none⟩ (.slice a1 n1 c1)).setCell ⟨w.heap.size + 1, 2, none⟩ (.slice a2 n2 c2)).setCell ⟨w.heap.size + 1, 3, none⟩ (.slice a3 n3 c3)) := ⟨_, rfl⟩
     have hRf : Blk wf (w.heap.size + 1) 42 #[(.slice A8 (n0 + 1) c8), (.slice a1 n1 c1), (.slice a2 n2 c2), (.slice a3 n3 c3)] := by rw [hwf]; exact blk_four HR9.out
     have hw1 : w.heap.size ≤ w.heap.size + 1 := Nat.le_succ _
     have hKf : ChP lo rlT (fun _ => False) w wf := by rw [hwf]; exact ((((K9.out).setN (p := ⟨w.heap.size + 1, 0, none⟩) hw1 _).setN (p := ⟨w.heap.size + 1, 1, none⟩) hw1 _).setN (p := ⟨w.heap.size + 1, 2, none⟩) hw1 _).setN (p := ⟨w.heap.size + 1, 3, none⟩) hw1 _
     obtain ⟨s0, s1, s2, s3⟩ := blkS4 hRf
     rw [← hwf]
     refine bodyPost_ret (v := .tuple #[.agg #[(.slice A8 (n0 + 1) c8), (.slice a1 n1 c1), (.slice a2 n2 c2), (.slice a3 n3 c3)], .bool true]) (by simp [results, Tryd.results15, go_sem, s0, s1, s2, s3]) rfl ?_
     rw [HN.out]
     have hll := ln_ret (m := (m.1 ++ [((1, z1, 0))], m.2)) HF9.out HI9.out HR9.out (.slice A8 (n0 + 1) c8) (.slice a1 n1 c1) (.slice a2 n2 c2) (.slice a3 n3 c3)
     rw [← hwf] at hll
     exact ⟨hKf, _, _, _, _, rfl, hll.1, hll.2⟩
    ·have hq : ((n : Int) == 2) = false := by simp; omega
     have e4 : (x.toList == ([115, 101, 116] : List UInt8)) = false := not_word (by rw [hw]; decide)
     have e5 : (x.toList == ([117, 115, 101] : List UInt8)) = false := not_word (by rw [hw]; decide)
     have e6 : (x.toList == ([109, 101, 109] : List UInt8)) = false := not_word (by rw [hw]; decide)
     have HN := Lib.hid (show rdLnS m (fs.map byt) = none by
      unfold rdLnS
      rw [Ha.out, HK.out, if_neg (fun h => hn2 (by have h1 := h.2; rw [List.length_map, Hfl.out] at h1; have h2 : (2 : Int) + Int.tdiv 1 3 = 2 := (by decide); omega)), if_neg (fun h => absurd (hw.symm.trans h.1) (by decide)), if_neg (fun h => absurd (hw.symm.trans h.1) (by decide)), if_neg (fun h => absurd (hw.symm.trans h.1) (by decide))])
     clear hw hn2
     have hmq := Lib.hid HM4.out.mod
     have hrq := Lib.hid HM4.out.res
     obtain ⟨r0, r1, r2, r3⟩ := blkS4 hrq.out
     obtain ⟨y0, y1, y2, y3⟩ := blkS4 hmq.out
     have f0 := hrq.out.frozen 0
     have f1 := hrq.out.frozen 1
     have f2 := hrq.out.frozen 2
     have f3 := hrq.out.frozen 3
     go_wp2_with fail
     obtain ⟨wf, hwf⟩ : ∃ wf, wf = ((((wo.setCell ⟨w.heap.size + 1, 0, none⟩ (.slice a0 n0 c0)).setCell ⟨w.heap.size + 1, 1, none⟩ (.slice a1 n1 c1)).setCell ⟨w.heap.size + 1, 2, none⟩ (.slice a2 n2 c2)).setCell ⟨w.heap.size + 1, 3, none⟩ (.slice a3 n3 c3)) := ⟨_, rfl⟩
     have hRf : Blk wf (w.heap.size + 1) 42 #[(.slice a0 n0 c0), (.slice a1 n1 c1), (.slice a2 n2 c2), (.slice a3 n3 c3)] := by rw [hwf]; exact blk_four hrq.out
     have hw1 : w.heap.size ≤ w.heap.size + 1 := Nat.le_succ _
     have hKf : ChP lo rlT (fun _ => False) w wf := by rw [hwf]; exact ((((K4.out).setN (p := ⟨w.heap.size + 1, 0, none⟩) hw1 _).setN (p := ⟨w.heap.size + 1, 1, none⟩) hw1 _).setN (p := ⟨w.heap.size + 1, 2, none⟩) hw1 _).setN (p := ⟨w.heap.size + 1, 3, none⟩) hw1 _
     obtain ⟨s0, s1, s2, s3⟩ := blkS4 hRf
     rw [← hwf]
     refine bodyPost_ret (v := .tuple #[.agg #[(.slice a0 n0 c0), (.slice a1 n1 c1), (.slice a2 n2 c2), (.slice a3 n3 c3)], .bool false]) (by simp [results, Tryd.results15, go_sem, s0, s1, s2, s3]) rfl ?_
     rw [HN.out]
     exact ⟨hKf, _, _, _, _, ⟨⟨_, _, _, rfl⟩, ⟨_, _, _, rfl⟩, ⟨_, _, _, rfl⟩, ⟨_, _, _, rfl⟩⟩, rfl⟩
   ·have HK := Lib.hid hk
    rw [hk]
    clear hk
    by_cases hn2 : n = 2
    ·subst hn2
     obtain ⟨x1, hx1a, hx1m, d1⟩ := fld_at HF4.out (i := 1) (by omega)
     have Hx1 := Lib.hid hx1a
     have hx1z := Hz.out x1 hx1m
     clear hx1a hx1m
     have HNa := Lib.hid (show rdLnS m (fs.map byt) = some (m.1 ++ [(2, szS (byt x1), if (2 : Int) = 3 then (pv (at0 (fs.map byt) 2) : Int) else 0)], m.2) by
      unfold rdLnS
      rw [Ha.out, HK.out, Hx1.out, if_pos ⟨by decide, by rw [List.length_map, Hfl.out]; decide⟩])
     go_wp2_with fail
     refine (s_l05Size x1 (by unfold maxLen; omega) wo).mono ?_
     rintro e w5 ⟨rfl, hb5⟩
     obtain ⟨z1, hz1⟩ : ∃ z, z = szS (byt x1) := ⟨_, rfl⟩
     rw [← hz1] at HNa ⊢
     clear hz1
     have HB5 := Lib.hid hb5
     have zz5 := hb5.size
     obtain ⟨B2, hB2⟩ : ∃ B2, B2 = w5.alloc (.cells #[.int .i64 2, .int .i64 z1, .int .i64 0] 66) := ⟨_, rfl⟩
     obtain ⟨gx, hgx⟩ : ∃ g, g = w5.heap.size := ⟨_, rfl⟩
     have HbB2 := Lib.hid (show Below wo.heap.size wo B2 by rw [hB2]; exact HB5.out.alloc zz5 _)
     have HgB2 := Lib.hid (show Blk B2 gx 66 #[.int .i64 2, .int .i64 z1, .int .i64 0] by rw [hB2, hgx]; exact Blk.new _ _ _)
     have zgx : wo.heap.size ≤ gx := by omega
     clear hb5
     go_upto_region 9 with fail
     rw [← hB2, ← hgx]
     clear hB2 hgx
     have HN := Lib.hid (HNa.out.trans (show _ = some (m.1 ++ [(2, z1, 0)], m.2) from rfl))
     have HO6 := Lib.hid (HM4.out.below HbB2.out)
     obtain ⟨y0, y1, y2, y3⟩ := blkS4 HO6.out.mod
     obtain ⟨i0, hi, hz0, hz1, hz2⟩ := info_parts Tryd.infSignalC
     have ho0 : (B2).ownsRow lo 66 3 (.slice a0 n0 c0) n0 (recs eSg m.1) := by have h := HO6.out.fl.s0; rw [Hn.out.1] at h; exact h
     have Ho0 := Lib.hid ho0
     have zz6 := HbB2.out.size
     obtain ⟨q0, q1, q2⟩ := blkS3 HgB2.out
     clear ho0
     go_wp2_with (at_builtin; refine wpList_append_any _ rfl _ _ 37 rfl (lo) 66 i0 (.agg #[.int .i64 0, .int .i64 0, .int .i64 0]) 3 24 Tryd.underlying37 hi hz0 hz1 hz2 rfl (by decide) _ _ _ rfl (Ho0.out.alloc _) _ _ 1 1 _ rfl (reads_new _ _ 1 3 rfl) (by intro u hu; simp at hu; first | (subst hu; rfl) | (rcases hu with rfl | rfl <;> rfl) | (rcases hu with rfl | rfl | rfl <;> rfl)) (by unfold maxLen; omega) (by omega) (by (try simp) <;> (try omega)) ?_; intro v8 w8 hown8 hgrow8 hblk8; refine stopX ?_)
     obtain ⟨A8, c8, rfl, _, _, _⟩ := own_form hown8
     have hbl := fun o : Obj => (Below.refl (B2).heap.size B2).alloc (Nat.le_refl _) o
     have HS8 := Lib.hid ((HO6.out.fl.below (hbl _)).pushS (x := ((2, z1, 0))) (by rw [Hn.out.1]; exact hown8) hgrow8)
     have HI8 := Lib.hid ((HO6.out.ins.below (hbl _)).grown (own_below Ho0.out (hbl _) (Nat.le_refl _)) (by decide) hgrow8)
     have HM8 := Lib.hid (blk_row (HO6.out.mod.below (hbl _) HO6.out.mod.lt) (own_below Ho0.out (hbl _) (Nat.le_refl _)) (by decide) hgrow8)
     have HR8 := Lib.hid (blk_row (HO6.out.res.below (hbl _) HO6.out.res.lt) (own_below Ho0.out (hbl _) (Nat.le_refl _)) (by decide) hgrow8)
     have K8 := Lib.hid (((K4.out.bel HbB2.out).alloc _).row (own_below Ho0.out (hbl _) (Nat.le_refl _)) (Nat.le_refl _) rlT_sig hgrow8)
     clear hown8 hgrow8 hblk8 hbl y0 y1 y2 y3 q0 q1 q2 hi hz0 hz1 hz2
     obtain ⟨y0, y1, y2, y3⟩ := blkS4 HM8.out
     refine stopped ?_
     have f9 := HM8.out.frozen 0
     go_upto_region 13 with fail
     clear f9
     obtain ⟨w9, hw9⟩ : ∃ w9, w9 = w8.setCell ⟨w.heap.size, 0, none⟩ (.slice A8 (n0 + 1) c8) := ⟨_, rfl⟩
     have HM9 := Lib.hid (show Blk w9 w.heap.size 42 #[(.slice A8 (n0 + 1) c8), (.slice a1 n1 c1), (.slice a2 n2 c2), (.slice a3 n3 c3)] by rw [hw9]; exact HM8.out.set_ 0 _)
     have HR9 := Lib.hid (show Blk w9 (w.heap.size + 1) 42 #[.slice none 0 0, .slice none 0 0, .slice none 0 0, .slice none 0 0] by rw [hw9]; exact blk_off HR8.out (by omega) _ _)
     have K9 := Lib.hid (show ChP lo rlT (fun _ => False) w w9 by rw [hw9]; exact K8.out.setN (p := ⟨w.heap.size, 0, none⟩) (Nat.le_refl _) _)
     have HF9 := Lib.hid (show FlS w9 lo (.slice A8 (n0 + 1) c8) (.slice a1 n1 c1) (.slice a3 n3 c3) ((m.1 ++ [((2, z1, 0))], m.2) : TModule).1 ((m.1 ++ [((2, z1, 0))], m.2) : TModule).2.1 ((m.1 ++ [((2, z1, 0))], m.2) : TModule).2.2.2 by rw [hw9]; exact HS8.out.set HM8.out.of (by decide) _ _)
     have HI9 := Lib.hid (show InS w9 lo (.slice a2 n2 c2) ((m.1 ++ [((2, z1, 0))], m.2) : TModule).2.2.1 by rw [hw9]; exact HI8.out.set HM8.out.of (by decide) _ _)
     rw [← hw9]
     clear hw9
     obtain ⟨r0, r1, r2, r3⟩ := blkS4 HR9.out
     obtain ⟨y0, y1, y2, y3⟩ := blkS4 HM9.out
     have f0 := HR9.out.frozen 0
     have f1 := HR9.out.frozen 1
     have f2 := HR9.out.frozen 2
     have f3 := HR9.out.frozen 3
     go_wp2_with fail
     obtain ⟨wf, hwf⟩ : ∃ wf, wf = ((((w9.setCell ⟨w.heap.size + 1, 0, none⟩ (.slice A8 (n0 + 1) c8)).setCell ⟨w.heap.size + 1, 1, none⟩ (.slice a1 n1 c1)).setCell ⟨w.heap.size + 1, 2, none⟩ (.slice a2 n2 c2)).setCell ⟨w.heap.size + 1, 3, none⟩ (.slice a3 n3 c3)) := ⟨_, rfl⟩
     have hRf : Blk wf (w.heap.size + 1) 42 #[(.slice A8 (n0 + 1) c8), (.slice a1 n1 c1), (.slice a2 n2 c2), (.slice a3 n3 c3)] := by rw [hwf]; exact blk_four HR9.out
     have hw1 : w.heap.size ≤ w.heap.size + 1 := Nat.le_succ _
     have hKf : ChP lo rlT (fun _ => False) w wf := by rw [hwf]; exact ((((K9.out).setN (p := ⟨w.heap.size + 1, 0, none⟩) hw1 _).setN (p := ⟨w.heap.size + 1, 1, none⟩) hw1 _).setN (p := ⟨w.heap.size + 1, 2, none⟩) hw1 _).setN (p := ⟨w.heap.size + 1, 3, none⟩) hw1 _
     obtain ⟨s0, s1, s2, s3⟩ := blkS4 hRf
     rw [← hwf]
     refine bodyPost_ret (v := .tuple #[.agg #[(.slice A8 (n0 + 1) c8), (.slice a1 n1 c1), (.slice a2 n2 c2), (.slice a3 n3 c3)], .bool true]) (by simp [results, Tryd.results15, go_sem, s0, s1, s2, s3]) rfl ?_
     rw [HN.out]
     have hll := ln_ret (m := (m.1 ++ [((2, z1, 0))], m.2)) HF9.out HI9.out HR9.out (.slice A8 (n0 + 1) c8) (.slice a1 n1 c1) (.slice a2 n2 c2) (.slice a3 n3 c3)
     rw [← hwf] at hll
     exact ⟨hKf, _, _, _, _, rfl, hll.1, hll.2⟩
    ·have hq : ((n : Int) == 2) = false := by simp; omega
     have e4 : (x.toList == ([115, 101, 116] : List UInt8)) = false := not_word (by rw [hw]; decide)
     have e5 : (x.toList == ([117, 115, 101] : List UInt8)) = false := not_word (by rw [hw]; decide)
     have e6 : (x.toList == ([109, 101, 109] : List UInt8)) = false := not_word (by rw [hw]; decide)
     have HN := Lib.hid (show rdLnS m (fs.map byt) = none by
      unfold rdLnS
      rw [Ha.out, HK.out, if_neg (fun h => hn2 (by have h1 := h.2; rw [List.length_map, Hfl.out] at h1; have h2 : (2 : Int) + Int.tdiv 2 3 = 2 := (by decide); omega)), if_neg (fun h => absurd (hw.symm.trans h.1) (by decide)), if_neg (fun h => absurd (hw.symm.trans h.1) (by decide)), if_neg (fun h => absurd (hw.symm.trans h.1) (by decide))])
     clear hw hn2
     have hmq := Lib.hid HM4.out.mod
     have hrq := Lib.hid HM4.out.res
     obtain ⟨r0, r1, r2, r3⟩ := blkS4 hrq.out
     obtain ⟨y0, y1, y2, y3⟩ := blkS4 hmq.out
     have f0 := hrq.out.frozen 0
     have f1 := hrq.out.frozen 1
     have f2 := hrq.out.frozen 2
     have f3 := hrq.out.frozen 3
     go_wp2_with fail
     obtain ⟨wf, hwf⟩ : ∃ wf, wf = ((((wo.setCell ⟨w.heap.size + 1, 0, none⟩ (.slice a0 n0 c0)).setCell ⟨w.heap.size + 1, 1, none⟩ (.slice a1 n1 c1)).setCell ⟨w.heap.size + 1, 2, none⟩ (.slice a2 n2 c2)).setCell ⟨w.heap.size + 1, 3, none⟩ (.slice a3 n3 c3)) := ⟨_, rfl⟩
     have hRf : Blk wf (w.heap.size + 1) 42 #[(.slice a0 n0 c0), (.slice a1 n1 c1), (.slice a2 n2 c2), (.slice a3 n3 c3)] := by rw [hwf]; exact blk_four hrq.out
     have hw1 : w.heap.size ≤ w.heap.size + 1 := Nat.le_succ _
     have hKf : ChP lo rlT (fun _ => False) w wf := by rw [hwf]; exact ((((K4.out).setN (p := ⟨w.heap.size + 1, 0, none⟩) hw1 _).setN (p := ⟨w.heap.size + 1, 1, none⟩) hw1 _).setN (p := ⟨w.heap.size + 1, 2, none⟩) hw1 _).setN (p := ⟨w.heap.size + 1, 3, none⟩) hw1 _
     obtain ⟨s0, s1, s2, s3⟩ := blkS4 hRf
     rw [← hwf]
     refine bodyPost_ret (v := .tuple #[.agg #[(.slice a0 n0 c0), (.slice a1 n1 c1), (.slice a2 n2 c2), (.slice a3 n3 c3)], .bool false]) (by simp [results, Tryd.results15, go_sem, s0, s1, s2, s3]) rfl ?_
     rw [HN.out]
     exact ⟨hKf, _, _, _, _, ⟨⟨_, _, _, rfl⟩, ⟨_, _, _, rfl⟩, ⟨_, _, _, rfl⟩, ⟨_, _, _, rfl⟩⟩, rfl⟩
   ·have HK := Lib.hid hk
    rw [hk]
    clear hk
    by_cases hn2 : n = 3
    ·subst hn2
     obtain ⟨x1, hx1a, hx1m, d1⟩ := fld_at HF4.out (i := 1) (by omega)
     have Hx1 := Lib.hid hx1a
     have hx1z := Hz.out x1 hx1m
     clear hx1a hx1m
     have HNa := Lib.hid (show rdLnS m (fs.map byt) = some (m.1 ++ [(3, szS (byt x1), if (3 : Int) = 3 then (pv (at0 (fs.map byt) 2) : Int) else 0)], m.2) by
      unfold rdLnS
      rw [Ha.out, HK.out, Hx1.out, if_pos ⟨by decide, by rw [List.length_map, Hfl.out]; decide⟩])
     go_wp2_with fail
     refine (s_l05Size x1 (by unfold maxLen; omega) wo).mono ?_
     rintro e w5 ⟨rfl, hb5⟩
     obtain ⟨z1, hz1⟩ : ∃ z, z = szS (byt x1) := ⟨_, rfl⟩
     rw [← hz1] at HNa ⊢
     clear hz1
     have HB5 := Lib.hid hb5
     have zz5 := hb5.size
     obtain ⟨B2, hB2⟩ : ∃ B2, B2 = w5.alloc (.cells #[.int .i64 3, .int .i64 z1, .int .i64 0] 66) := ⟨_, rfl⟩
     obtain ⟨gx, hgx⟩ : ∃ g, g = w5.heap.size := ⟨_, rfl⟩
     have HbB2 := Lib.hid (show Below wo.heap.size wo B2 by rw [hB2]; exact HB5.out.alloc zz5 _)
     have HgB2 := Lib.hid (show Blk B2 gx 66 #[.int .i64 3, .int .i64 z1, .int .i64 0] by rw [hB2, hgx]; exact Blk.new _ _ _)
     have zgx : wo.heap.size ≤ gx := by omega
     clear hb5
     go_upto_region 9 with fail
     rw [← hB2, ← hgx]
     clear hB2 hgx
     obtain ⟨x2, hx2a, hx2m, d2⟩ := fld_at HF4.out (i := 2) (by omega)
     have Hx2 := Lib.hid hx2a
     have hx2z := Hz.out x2 hx2m
     clear hx2a hx2m
     have d2' := (HbB2.out.cell (p := ⟨g0, 2, none⟩) ((HF4.out.lt g0 rfl).2)).trans d2
     have hpu := s_ParseUint x2 (by unfold maxLen; omega) B2
     rw [puV_eq] at hpu
     have HN := Lib.hid (HNa.out.trans (show _ = some (m.1 ++ [(3, z1, (pv (byt x2) : Int))], m.2) by rw [Hx2.out]; rfl))
     clear HNa d1 d2
     go_wp2_with fail
     refine hpu.mono ?_
     rintro e w6 ⟨rfl, hb6⟩
     clear hpu
     obtain ⟨zq, hzq⟩ : ∃ z, z = (pv (byt x2) : Int) := ⟨_, rfl⟩
     rw [← hzq] at HN
     rw [show (pv x2.data.toList : Int) = zq from hzq.symm]
     have HB6 := Lib.hid (HbB2.out.trans (hb6.mono HbB2.out.size))
     have HG6 := Lib.hid (HgB2.out.below hb6 HgB2.out.lt)
     have f6 := HG6.out.frozen 2
     obtain ⟨q0, q1, q2⟩ := blkS3 HG6.out
     clear hzq hb6 d0 d2'
     go_upto_region 12 with fail
     obtain ⟨B3, hB3⟩ : ∃ B3, B3 = w6.setCell ⟨gx, 2, none⟩ (.int .i64 zq) := ⟨_, rfl⟩
     have HB7 := Lib.hid (show Below wo.heap.size wo B3 by rw [hB3]; exact HB6.out.setCell (p := ⟨gx, 2, none⟩) zgx _)
     have HG7 := Lib.hid (show Blk B3 gx 66 #[.int .i64 3, .int .i64 z1, .int .i64 zq] by rw [hB3]; exact HG6.out.set_ 2 _)
     rw [← hB3]
     clear hB3 f6 q0 q1 q2
     have HO6 := Lib.hid (HM4.out.below HB7.out)
     obtain ⟨y0, y1, y2, y3⟩ := blkS4 HO6.out.mod
     obtain ⟨i0, hi, hz0, hz1, hz2⟩ := info_parts Tryd.infSignalC
     have ho0 : (B3).ownsRow lo 66 3 (.slice a0 n0 c0) n0 (recs eSg m.1) := by have h := HO6.out.fl.s0; rw [Hn.out.1] at h; exact h
     have Ho0 := Lib.hid ho0
     have zz6 := HB7.out.size
     obtain ⟨q0, q1, q2⟩ := blkS3 HG7.out
     clear ho0
     go_wp2_with (at_builtin; refine wpList_append_any _ rfl _ _ 37 rfl (lo) 66 i0 (.agg #[.int .i64 0, .int .i64 0, .int .i64 0]) 3 24 Tryd.underlying37 hi hz0 hz1 hz2 rfl (by decide) _ _ _ rfl (Ho0.out.alloc _) _ _ 1 1 _ rfl (reads_new _ _ 1 3 rfl) (by intro u hu; simp at hu; first | (subst hu; rfl) | (rcases hu with rfl | rfl <;> rfl) | (rcases hu with rfl | rfl | rfl <;> rfl)) (by unfold maxLen; omega) (by omega) (by (try simp) <;> (try omega)) ?_; intro v8 w8 hown8 hgrow8 hblk8; refine stopX ?_)
     obtain ⟨A8, c8, rfl, _, _, _⟩ := own_form hown8
     have hbl := fun o : Obj => (Below.refl (B3).heap.size B3).alloc (Nat.le_refl _) o
     have HS8 := Lib.hid ((HO6.out.fl.below (hbl _)).pushS (x := ((3, z1, zq))) (by rw [Hn.out.1]; exact hown8) hgrow8)
     have HI8 := Lib.hid ((HO6.out.ins.below (hbl _)).grown (own_below Ho0.out (hbl _) (Nat.le_refl _)) (by decide) hgrow8)
     have HM8 := Lib.hid (blk_row (HO6.out.mod.below (hbl _) HO6.out.mod.lt) (own_below Ho0.out (hbl _) (Nat.le_refl _)) (by decide) hgrow8)
     have HR8 := Lib.hid (blk_row (HO6.out.res.below (hbl _) HO6.out.res.lt) (own_below Ho0.out (hbl _) (Nat.le_refl _)) (by decide) hgrow8)
     have K8 := Lib.hid (((K4.out.bel HB7.out).alloc _).row (own_below Ho0.out (hbl _) (Nat.le_refl _)) (Nat.le_refl _) rlT_sig hgrow8)
     clear hown8 hgrow8 hblk8 hbl y0 y1 y2 y3 q0 q1 q2 hi hz0 hz1 hz2
     obtain ⟨y0, y1, y2, y3⟩ := blkS4 HM8.out
     refine stopped ?_
     have f9 := HM8.out.frozen 0
     go_upto_region 13 with fail
     clear f9
     obtain ⟨w9, hw9⟩ : ∃ w9, w9 = w8.setCell ⟨w.heap.size, 0, none⟩ (.slice A8 (n0 + 1) c8) := ⟨_, rfl⟩
     have HM9 := Lib.hid (show Blk w9 w.heap.size 42 #[(.slice A8 (n0 + 1) c8), (.slice a1 n1 c1), (.slice a2 n2 c2), (.slice a3 n3 c3)] by rw [hw9]; exact HM8.out.set_ 0 _)
     have HR9 := Lib.hid (show Blk w9 (w.heap.size + 1) 42 #[.slice none 0 0, .slice none 0 0, .slice none 0 0, .slice none 0 0] by rw [hw9]; exact blk_off HR8.out (by omega) _ _)
     have K9 := Lib.hid (show ChP lo rlT (fun _ => False) w w9 by rw [hw9]; exact K8.out.setN (p := ⟨w.heap.size, 0, none⟩) (Nat.le_refl _) _)
     have HF9 := Lib.hid (show FlS w9 lo (.slice A8 (n0 + 1) c8) (.slice a1 n1 c1) (.slice a3 n3 c3) ((m.1 ++ [((3, z1, zq))], m.2) : TModule).1 ((m.1 ++ [((3, z1, zq))], m.2) : TModule).2.1 ((m.1 ++ [((3, z1, zq))], m.2) : TModule).2.2.2 by rw [hw9]; exact HS8.out.set HM8.out.of (by decide) _ _)
     have HI9 := Lib.hid (show InS w9 lo (.slice a2 n2 c2) ((m.1 ++ [((3, z1, zq))], m.2) : TModule).2.2.1 by rw [hw9]; exact HI8.out.set HM8.out.of (by decide) _ _)
     rw [← hw9]
     clear hw9
     obtain ⟨r0, r1, r2, r3⟩ := blkS4 HR9.out
     obtain ⟨y0, y1, y2, y3⟩ := blkS4 HM9.out
     have f0 := HR9.out.frozen 0
     have f1 := HR9.out.frozen 1
     have f2 := HR9.out.frozen 2
     have f3 := HR9.out.frozen 3
     go_wp2_with fail
     obtain ⟨wf, hwf⟩ : ∃ wf, wf = ((((w9.setCell ⟨w.heap.size + 1, 0, none⟩ (.slice A8 (n0 + 1) c8)).setCell ⟨w.heap.size + 1, 1, none⟩ (.slice a1 n1 c1)).setCell ⟨w.heap.size + 1, 2, none⟩ (.slice a2 n2 c2)).setCell ⟨w.heap.size + 1, 3, none⟩ (.slice a3 n3 c3)) := ⟨_, rfl⟩
     have hRf : Blk wf (w.heap.size + 1) 42 #[(.slice A8 (n0 + 1) c8), (.slice a1 n1 c1), (.slice a2 n2 c2), (.slice a3 n3 c3)] := by rw [hwf]; exact blk_four HR9.out
     have hw1 : w.heap.size ≤ w.heap.size + 1 := Nat.le_succ _
     have hKf : ChP lo rlT (fun _ => False) w wf := by rw [hwf]; exact ((((K9.out).setN (p := ⟨w.heap.size + 1, 0, none⟩) hw1 _).setN (p := ⟨w.heap.size + 1, 1, none⟩) hw1 _).setN (p := ⟨w.heap.size + 1, 2, none⟩) hw1 _).setN (p := ⟨w.heap.size + 1, 3, none⟩) hw1 _
     obtain ⟨s0, s1, s2, s3⟩ := blkS4 hRf
     rw [← hwf]
     refine bodyPost_ret (v := .tuple #[.agg #[(.slice A8 (n0 + 1) c8), (.slice a1 n1 c1), (.slice a2 n2 c2), (.slice a3 n3 c3)], .bool true]) (by simp [results, Tryd.results15, go_sem, s0, s1, s2, s3]) rfl ?_
     rw [HN.out]
     have hll := ln_ret (m := (m.1 ++ [((3, z1, zq))], m.2)) HF9.out HI9.out HR9.out (.slice A8 (n0 + 1) c8) (.slice a1 n1 c1) (.slice a2 n2 c2) (.slice a3 n3 c3)
     rw [← hwf] at hll
     exact ⟨hKf, _, _, _, _, rfl, hll.1, hll.2⟩
    ·have hq : ((n : Int) == 3) = false := by simp; omega
     have e4 : (x.toList == ([115, 101, 116] : List UInt8)) = false := not_word (by rw [hw]; decide)
     have e5 : (x.toList == ([117, 115, 101] : List UInt8)) = false := not_word (by rw [hw]; decide)
     have e6 : (x.toList == ([109, 101, 109] : List UInt8)) = false := not_word (by rw [hw]; decide)
     have HN := Lib.hid (show rdLnS m (fs.map byt) = none by
      unfold rdLnS
      rw [Ha.out, HK.out, if_neg (fun h => hn2 (by have h1 := h.2; rw [List.length_map, Hfl.out] at h1; have h2 : (2 : Int) + Int.tdiv 3 3 = 3 := (by decide); omega)), if_neg (fun h => absurd (hw.symm.trans h.1) (by decide)), if_neg (fun h => absurd (hw.symm.trans h.1) (by decide)), if_neg (fun h => absurd (hw.symm.trans h.1) (by decide))])
     clear hw hn2
     have hmq := Lib.hid HM4.out.mod
     have hrq := Lib.hid HM4.out.res
     obtain ⟨r0, r1, r2, r3⟩ := blkS4 hrq.out
     obtain ⟨y0, y1, y2, y3⟩ := blkS4 hmq.out
     have f0 := hrq.out.frozen 0
     have f1 := hrq.out.frozen 1
     have f2 := hrq.out.frozen 2
     have f3 := hrq.out.frozen 3
     go_wp2_with fail
     obtain ⟨wf, hwf⟩ : ∃ wf, wf = ((((wo.setCell ⟨w.heap.size + 1, 0, none⟩ (.slice a0 n0 c0)).setCell ⟨w.heap.size + 1, 1, none⟩ (.slice a1 n1 c1)).setCell ⟨w.heap.size + 1, 2, none⟩ (.slice a2 n2 c2)).setCell ⟨w.heap.size + 1, 3, none⟩ (.slice a3 n3 c3)) := ⟨_, rfl⟩
     have hRf : Blk wf (w.heap.size + 1) 42 #[(.slice a0 n0 c0), (.slice a1 n1 c1), (.slice a2 n2 c2), (.slice a3 n3 c3)] := by rw [hwf]; exact blk_four hrq.out
     have hw1 : w.heap.size ≤ w.heap.size + 1 := Nat.le_succ _
     have hKf : ChP lo rlT (fun _ => False) w wf := by rw [hwf]; exact ((((K4.out).setN (p := ⟨w.heap.size + 1, 0, none⟩) hw1 _).setN (p := ⟨w.heap.size + 1, 1, none⟩) hw1 _).setN (p := ⟨w.heap.size + 1, 2, none⟩) hw1 _).setN (p := ⟨w.heap.size + 1, 3, none⟩) hw1 _
     obtain ⟨s0, s1, s2, s3⟩ := blkS4 hRf
     rw [← hwf]
     refine bodyPost_ret (v := .tuple #[.agg #[(.slice a0 n0 c0), (.slice a1 n1 c1), (.slice a2 n2 c2), (.slice a3 n3 c3)], .bool false]) (by simp [results, Tryd.results15, go_sem, s0, s1, s2, s3]) rfl ?_
     rw [HN.out]
     exact ⟨hKf, _, _, _, _, ⟨⟨_, _, _, rfl⟩, ⟨_, _, _, rfl⟩, ⟨_, _, _, rfl⟩, ⟨_, _, _, rfl⟩⟩, rfl⟩
end Go.Proofs.YthjdigcpgpiiiaaDoor

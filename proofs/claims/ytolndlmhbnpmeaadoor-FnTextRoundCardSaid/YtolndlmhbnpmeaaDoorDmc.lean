/- Contract: a drawn module: the reference's l04Module. -/
import Derived.Test.YtolndlmhbnpmeaaDoorDmb
import Derived.Test.YtolndlmhbnpmeaaDoorGi
import Derived.Test.YtolndlmhbnpmeaaDoorOrdL
import Derived.Deep.CutRange
import Derived.Outline
namespace Go.Proofs.YtolndlmhbnpmeaaDoor
open Go.RowKit

theorem idxL_cnt {α : Type} (p : α → Bool) (l : List α) : (idxL p l).length = l.countP p := by
 unfold idxL
 rw [List.length_map]
 induction l using Tx.snoc_ind with
 | nil => rfl
 | snoc l x ih =>
  rw [List.zipIdx_append, List.filter_append, List.length_append, ih, List.countP_append]
  cases hp : p x <;> simp [hp]
theorem portsM_cnt (m : TModule) : (portsM m).length ≤ m.1.countP isPort := by
 unfold portsM portsL
 split
 ·rw [idxL_cnt]; exact Nat.le_refl _
 ·simp
theorem cnt_snoc (sg : List TSignal) (x : TSignal) : (sg ++ [x]).countP isPort = sg.countP isPort + if x.1 = 0 ∨ x.1 = 1 then 1 else 0 := by
 rw [List.countP_append]
 by_cases h : x.1 = 0 ∨ x.1 = 1 <;> simp [isPort, h]
theorem lit_at {W : World} {l : List Int} {j : Nat} {x : Int} (hj : l[j]? = some x) : (W.alloc (.cells (ints l).toArray 3)).cell? ((⟨W.heap.size, 0, none⟩ : Addr).add j) = some (.int .i64 x) := by
 rw [show (⟨W.heap.size, 0, none⟩ : Addr).add j = ⟨W.heap.size, j, none⟩ by unfold Addr.add; split <;> simp_all]
 rw [(Blk.new W 3 _).cell j]
 simp [ints_get, hj]
theorem sig_in {x : Int} (h : 0 ≤ x ∧ x ≤ 4) : sigB (0, x, 0) = true := by simp [sigB, inR, h.1, h.2]
theorem sig_reg {x i : Int} (h : 0 ≤ x ∧ x ≤ 4) (hi : 0 ≤ i ∧ i ≤ 15) : sigB (3, x, i) = true := by simp [sigB, inR, h.1, h.2, hi.1, hi.2]
theorem sig_k {k x : Int} (hk : k = 1 ∨ k = 2) (h : 0 ≤ x ∧ x ≤ 4) : sigB (k, x, 0) = true := by rcases hk with rfl | rfl <;> simp [sigB, inR, h.1, h.2]
theorem wid_in {x : Int} {l : List Int} (h : x ∈ l) (hl : l.all (fun y => decide (0 ≤ y ∧ y ≤ 4)) = true) : 0 ≤ x ∧ x ≤ 4 := of_decide_eq_true (List.all_eq_true.1 hl x h)
/-- what the call leaves -/
def ModQ (B g : Nat) (d : TDesign) (w : World) (e : Ending) (w' : World) : Prop :=
 ∃ (v0 v1 v2 v3 : Value) (m : TModule), e = .returned (.agg #[v0, v1, v2, v3]) ∧ FlS w' w.heap.size v0 v1 v3 m.1 m.2.1 m.2.2.2 ∧ InS w' w.heap.size v2 m.2.2.1 ∧ GMod d m ∧ Cur B g w' ∧ w.grownBy w' (some g)
theorem row_int0 {W : World} {lo : Nat} (h : lo ≤ W.heap.size) : (W.alloc (.cells #[] 3)).ownsRow lo 3 1 (.slice (some ⟨W.heap.size, 0, none⟩) 0 0) 0 (ints []) :=
 World.ownsRow_made (base := lo) (size := 1) (e := 3) W #[] 0 h (by unfold maxLen; omega) rfl
theorem FlS.form0 {w : World} {lo : Nat} {v0 v1 v3 : Value} {sg : List TSignal} {ag : List TAssign} {mm : List TMem} {k : Nat} (h : FlS w lo v0 v1 v3 sg ag mm) (hk : sg.length = k) : ∃ a c, v0 = .slice a k c := by
 obtain ⟨a, c, h1, _⟩ := own_form h.s0
 exact ⟨a, c, by rw [h1, hk]⟩
theorem int_form {w : World} {lo k : Nat} {v : Value} {L : List Int} (h : w.ownsRow lo 3 1 v L.length (ints L)) (hk : L.length = k) : ∃ a c, v = .slice a k c := by
 obtain ⟨a, c, h1, _⟩ := own_form h
 exact ⟨a, c, by rw [h1, hk]⟩
theorem mod_four4 {W : World} {g : Nat} {t : TypeId} {cs : Array Value} (_ : Blk W g t cs) (a' b' c' d' : Value) : Only (fun k => k = g) W ((((W.setCell ⟨g, 0, none⟩ a').setCell ⟨g, 1, none⟩ b').setCell ⟨g, 2, none⟩ c').setCell ⟨g, 3, none⟩ d') :=
 ((((Only.refl (fun k => k = g) W).setCell (p := ⟨g, 0, none⟩) (.inl rfl) a').setCell (p := ⟨g, 1, none⟩) (.inl rfl) b').setCell (p := ⟨g, 2, none⟩) (.inl rfl) c').setCell (p := ⟨g, 3, none⟩) (.inl rfl) d'
/-- what the ports' loop changes of the world ahead of it -/
def CcI (g lo : Nat) (v0 : Value) (gx go : Nat) (b : Nat) : Prop := b = g ∨ b = lo + 2 ∨ v0.ownBlock = some b ∨ b = gx ∨ b = go
theorem sig_kd {sg : List TSignal} {i : Nat} {y : TSignal} (h : sg[i]? = some y) : kindAt sg (i : Int) = y.1 := by simp [kindAt, h]
theorem lit_blk {W : World} {q : Nat} {l : List Int} {j : Nat} {x : Int} (h : Blk W q 3 (ints l).toArray) (hj : l[j]? = some x) : W.cell? ((⟨q, 0, none⟩ : Addr).add j) = some (.int .i64 x) := by
 rw [show (⟨q, 0, none⟩ : Addr).add j = ⟨q, j, none⟩ by unfold Addr.add; split <;> simp_all]
 rw [h.cell j]
 simp [ints_get, hj]
/-- the signals' row is written in place -/
theorem LmS.sigSet {w0 w w' : World} {B g lo n1 nr : Nat} {dv u0 u1 u2 u3 av rg : Value} {m : TModule} {R : Nat → Prop} {avL : List Int} (h : LmS w0 w B g lo dv u0 u1 u2 u3 m R av avL rg n1 nr) {sg' : List TSignal} (hown : w'.ownsRow lo 66 3 u0 sg'.length (recs eSg sg')) (hg : w.grownBy w' u0.ownBlock) :
  LmS w0 w' B g lo dv u0 u1 u2 u3 (sg', m.2) R av avL rg n1 nr := by
 obtain ⟨h0, ⟨R1, x1, h1⟩, h3⟩ := h.fl
 have hr : ∀ b, u0.ownBlock = some b → lo ≤ b := fun b hb => (h0.lt b hb).1
 have kr : ∀ {u : Value} {t : TypeId} {s k : Nat} {xs : List Value}, w.ownsRow lo t s u k xs → 66 ≠ t → w'.ownsRow lo t s u k xs := fun {u t s k xs} hu hne => own_keep hu (fun b hb => hg.block b (hu.lt b hb).2 (fun e => hne ((own_of h0 e.symm).inj (own_of hu hb))))
 obtain ⟨xs, hin⟩ := h.ins
 exact ⟨h.curG hg hr, h.groG hg hr, h.hlo, blk_row2 h.dbx h0 (by decide) hg, blk_row2 h.res h0 (by decide) hg, blk_row2 h.mod h0 (by decide) hg, ⟨hown, ⟨R1, x1, h1.only (only_row hg) (grown_not h0 (by decide))⟩, kr h3 (by decide)⟩, ⟨xs, hin.only (only_row hg) (grown_not h0 (by decide))⟩, kr h.avr (by decide), kr h.rgr (by decide), h.dR, h.dA⟩
-- the bounds of numbers that may be read
theorem av_len {L : List Int} {x : Int} {k : Nat} (h : L.length = k) : (L ++ [x]).length = k + 1 := by rw [List.length_append, h]; rfl
-- a number (a Nat) is put behind the list that may be read: $1 world $2 LmS $3 the list's count $4 number $5 suffix of names
-- the same number is put behind the registers
-- an assignment is drawn and put behind: $1 world $2 LmS $3 the signal's number (a Nat) $4 signals $5 assigns $6 count of av $7 bounds of av $8 u0 $9 u3
-- .. and is laid in the box
-- behind the drawn reading of the port's kind
-- into a drawn region that puts a signal behind: $1 $2 $3 the list's slice
-- a literal of numbers is laid, one of them is drawn: $1 the list $2 count $3 LmS $4 Only $5 new world $6 the number $7 new LmS $8 new Only
-- the drawn signal is put behind: $1 LmS $2 Only $3 the signal $4 count of signals
-- region 54: the drawn world
-- a literal of numbers is laid: $1 cells $2 world $3 new world $4 its number
-- an earlier literal is kept by the new one
-- a number is drawn from a literal: $1 list $2 count $3 world $4 new world $5 number $6 the literal's number
-- an earlier literal is kept by the call
-- the drawn signal is put behind, the region ends
set_option maxRecDepth 100000 in
set_option maxHeartbeats 32000000 in
theorem s_l04Module {w : World} {B g : Nat} {S : Nat → Prop} {v : Value} {d : TDesign} (hcur : Cur B g w) (hd : RDesign w S v d) (hS : ∀ b, S b → g < b ∧ b < w.heap.size) (hG : GDs d) (hdl : d.length ≤ 3) :
  Calls Tryd.prog 18 #[.pointer (some ⟨g, 0, none⟩), v] w (ModQ B g d w) := by
 obtain ⟨Ad, cd, rfl, hr, hm⟩ := dsn_open hd
 obtain ⟨nd, hnd⟩ : ∃ n, d.length = n := ⟨_, rfl⟩
 rw [hnd] at hr hdl ⊢
 have Hnd := Lib.hid hnd
 have Hr := Lib.hid hr
 have HS := Lib.hid hS
 have HG := Lib.hid hG
 have hgw := hcur.lt
 have hgB := hcur.le
 obtain ⟨lo, hlo⟩ : ∃ lo, lo = w.heap.size := ⟨_, rfl⟩
 obtain ⟨U, hU⟩ : ∃ U, U = ((((w.alloc (.cells #[.slice Ad nd cd] 26)).alloc (.cells #[.slice none 0 0, .slice none 0 0, .slice none 0 0, .slice none 0 0] 50)).alloc (.cells #[.slice none 0 0, .slice none 0 0, .slice none 0 0, .slice none 0 0] 50)).alloc (.cells #[] 3)).alloc (.cells #[] 3) := ⟨_, rfl⟩
 have hzU : U.heap.size = lo + 5 := by rw [hU, hlo]; simp
 have H0 := Lib.hid (show LmS w U B g lo (.slice Ad nd cd) (.slice none 0 0) (.slice none 0 0) (.slice none 0 0) (.slice none 0 0) noMod (fun _ => False) (.slice (some ⟨lo + 3, 0, none⟩) 0 0) [] (.slice (some ⟨lo + 4, 0, none⟩) 0 0) 0 0 by
  refine ⟨by rw [hU]; exact ((((hcur.alloc _).alloc _).alloc _).alloc _).alloc _, by rw [hU]; exact ((((World.grownBy_alloc _ _ _).trans (World.grownBy_alloc _ _ _)).trans (World.grownBy_alloc _ _ _)).trans (World.grownBy_alloc _ _ _)).trans (World.grownBy_alloc _ _ _), ⟨hlo.symm, by omega⟩, ?_, ?_, ?_, FlS.nil _ _, ⟨_, RwS.nil _ _ _ _ _⟩, ?_, ?_, fun b hb => hb.elim, fun b hb hb2 => ?_⟩
  ·rw [hU, hlo]; exact ((((Blk.new _ _ _).alloc _).alloc _).alloc _).alloc _
  ·rw [hU, hlo]; exact (((blk_new_at (by simp)).alloc _).alloc _).alloc _
  ·rw [hU, hlo]; exact ((blk_new_at (by simp)).alloc _).alloc _
  ·have h := row_int0 (W := ((w.alloc (.cells #[.slice Ad nd cd] 26)).alloc (.cells #[.slice none 0 0, .slice none 0 0, .slice none 0 0, .slice none 0 0] 50)).alloc (.cells #[.slice none 0 0, .slice none 0 0, .slice none 0 0, .slice none 0 0] 50)) (lo := lo) (by rw [hlo]; simp; omega)
   rw [hU]
   have h2 := h.alloc (.cells #[] 3)
   simp only [World.size_alloc] at h2
   rw [← hlo] at h2
   exact h2
  ·have h := row_int0 (W := (((w.alloc (.cells #[.slice Ad nd cd] 26)).alloc (.cells #[.slice none 0 0, .slice none 0 0, .slice none 0 0, .slice none 0 0] 50)).alloc (.cells #[.slice none 0 0, .slice none 0 0, .slice none 0 0, .slice none 0 0] 50)).alloc (.cells #[] 3)) (lo := lo) (by rw [hlo]; simp; omega)
   rw [hU]
   simp only [World.size_alloc] at h
   rw [← hlo] at h
   exact h
  ·have h1 := own_gm hb
   have h2 := own_gm hb2
   omega)
 have HU := Lib.hid hU
 have Hlo := Lib.hid hlo
 have hgl : g < lo := by omega
 have HSl := Lib.hid (show ∀ b, S b → g < b ∧ b < lo from fun b hb => by have := hS b hb; omega)
 clear hcur hd hr hS hG hnd hU
 clear hlo hgw
 go_enter Tryd.func18, Tryd.ntmps18
 go_upto_region 4 with fail
 rw [← HU.out, ← Hlo.out, show lo + 1 + 1 + 1 + 1 = lo + 4 from rfl, show lo + 1 + 1 + 1 = lo + 3 from rfl, show lo + 1 + 1 = lo + 2 from rfl]
 go_wp2_with fail
 refine (s_Below 2 H0.out.cur).mono ?_
 rintro e w1 ⟨kk, rfl, hk, hc1, hg1⟩
 obtain ⟨hk0, hk1⟩ := hk.1 (by omega)
 obtain ⟨kn, rfl⟩ := Int.eq_ofNat_of_zero_le hk0
 have H1 := Lib.hid (H0.out.call hg1 hc1)
 clear hk hc1 hg1
 go_upto_region 5 with fail
 rw [show (1 : Int) + (kn : Int) = ((kn + 1 : Nat) : Int) by omega]
 obtain ⟨nI, hnI⟩ : ∃ n, n = kn + 1 := ⟨_, rfl⟩
 rw [← hnI]
 have hnI1 : 1 ≤ nI := by omega
 have hnI2 : nI ≤ 2 := by omega
 clear hnI hk0 hk1
 go_wp2_with fail
 go_loopw [6, 9] (fun avv iv wr => ∃ (k : Nat) (u0 : Value) (sg : List TSignal) (avL : List Int), k ≤ nI ∧ iv = .int .i64 k ∧ LmS w wr B g lo (.slice Ad nd cd) u0 (.slice none 0 0) (.slice none 0 0) (.slice none 0 0) (sg, [], [], []) (fun _ => False) avv avL (.slice (some ⟨lo + 4, 0, none⟩) 0 0) 0 0 ∧ GdM d (sg, [], [], []) (fun _ => False) ∧ (sg.length = k ∧ avL.length = k ∧ sg.countP isPort ≤ k ∧ ∀ x ∈ avL, 0 ≤ x ∧ x < (sg.length : Int))) (fun _ iv _ => nI - (intOf iv).toNat)
 case atStart => exact ⟨0, _, [], [], Nat.zero_le _, rfl, H1.out, GdM.nil d, ⟨rfl, rfl, Nat.zero_le _, fun x hx => by simp at hx⟩⟩
 case round =>
  obtain ⟨k, u0, sg, avL, hk, rfl, hL, hgd, hsl, hal, hpc, hab⟩ := hrel
  obtain ⟨wa, hwa⟩ : ∃ x, x = wr := ⟨_, rfl⟩
  subst hwa
  obtain ⟨a0, c0, rfl⟩ := hL.fl.form0 hsl
  obtain ⟨aa, ca, rfl⟩ := int_form hL.avr hal
  have HL := Lib.hid hL
  have Hgd := Lib.hid hgd
  have g1 : (0 : Int) ≤ (k : Int) := by omega
  clear hL hgd
  by_cases hlt : k < nI
  ·have g2 : (k : Int) < (nI : Int) := by omega
   -- <A>
   have hav := HL.out.avr
   rw [hal] at hav
   have Hav := Lib.hid hav
   obtain ⟨y0, y1, y2, y3⟩ := blkS4 HL.out.mod
   obtain ⟨i0, hi, hz0, hz1, hz2⟩ := info_parts Tryd.infoIntC
   have zz8 : lo + 2 < (wa).heap.size := HL.out.mod.lt
   clear hav
   go_wp2_with (at_builtin; refine wpList_append_any _ rfl _ _ 73 rfl (lo) 3 i0 (.int .i64 0) 1 8 Tryd.underlying73 hi hz0 hz1 hz2 rfl (by decide) _ _ _ rfl (Hav.out.alloc _) _ _ 1 1 _ rfl (reads_new _ _ 1 1 rfl) (by intro u hu; simp at hu; first | (subst hu; rfl) | (rcases hu with rfl | rfl <;> rfl) | (rcases hu with rfl | rfl | rfl <;> rfl)) (by unfold maxLen; omega) (by omega) (by (try simp) <;> (try omega)) ?_; intro v8 w8 hown8 hgrow8 hblk8; refine stopX ?_)
   have HL8 := Lib.hid ((HL.out.alloc _).pushAv (L := [((k : Nat) : Int)]) (by rw [List.length_append, List.length_singleton, hal, ints_app]; exact hown8) hgrow8 hblk8)
   clear hown8 hgrow8 hblk8 hi hz0 hz1 hz2 y0 y1 y2 y3 Hav
   refine stopped ?_
   obtain ⟨y0, y1, y2, y3⟩ := blkS4 HL8.out.mod
   have cy := ocel (S := fun b => b = g ∨ (Value.slice a0 k c0).ownBlock = some b) y0 HL8.out.mod.lt HL8.out.ne0
   clear y0 y1 y2 y3
   go_wp2_with fail
   refine wp_region_lexC (by kernel_rfl) (by kernel_rfl) (fun x => Only (fun b => b = g ∨ (Value.slice a0 k c0).ownBlock = some b) w8 x) ((Only.refl _ _).drew) (fun lexNE => ?_)
   have HLd := Lib.hid HL8.out.drew
   have HOd := Lib.hid ((Only.refl (fun b => b = g ∨ (Value.slice a0 k c0).ownBlock = some b) w8).drew)
   obtain ⟨i0, hi, hz0, hz1, hz2⟩ := info_parts Tryd.infSignalC
   (repeat (first | (refine lex_r fun K hK => ?_; go_big_quiet_op; refine hK _ ?_; clear hK K) | (refine lex_k fun K hK => ?_; go_simp; refine hK _ ?_; clear hK K)))
   (refine lex_e fun K hK => ?_; go_big_op)
   refine hK _ _ (Cls.mk' (HOd.out.alloc _)) ?_
   clear hK K
   (repeat (first | (refine lex_r fun K hK => ?_; go_big_quiet_op; refine hK _ ?_; clear hK K) | (refine lex_k fun K hK => ?_; go_simp; refine hK _ ?_; clear hK K)))
   (refine lex_e fun K hK => ?_; go_big_op)
   have zq : g < (w8).heap.size := HLd.out.cur.lt
   refine (s_PickInt (l := [1, 1, 2, 0]) (n := 4) (HLd.out.alloc _).cur (by omega) (by omega) rfl (by show (w8).heap.size ≠ g; omega) (by simp) (fun j x hj => lit_at hj)).mono ?_
   rintro e wp ⟨x, rfl, hx, hcwp, hgwp⟩
   have HLp := Lib.hid ((HLd.out.alloc _).call hgwp hcwp)
   have HOp := Lib.hid ((HOd.out.alloc _).trans ((only_row hgwp).more (fun b hb => .inl (by injection hb with hb; exact hb.symm))))
   refine hK _ _ (Cls.mk' HOp.out) ?_
   clear hK K hcwp hgwp zq
   have hs0 := HLp.out.fl.s0
   have zs : lo + 2 < (wp).heap.size := HLp.out.mod.lt
   rw [hsl] at hs0
   have Hs0 := Lib.hid hs0
   clear hs0
   (repeat (first | (refine lex_r fun K hK => ?_; go_big_quiet_op; refine hK _ ?_; clear hK K) | (refine lex_k fun K hK => ?_; go_simp; refine hK _ ?_; clear hK K)))
   (refine lex_e fun K hK => ?_; go_big_op)
   refine hK _ _ (Cls.mk' (HOp.out.alloc _)) ?_
   clear hK K
   refine lex_e fun K hK => ?_
   refine wp_append_any _ _ _ 45 (by rfl) (lo) 66 i0 (.agg #[.int .i64 0, .int .i64 0, .int .i64 0]) 3 24 Tryd.underlying45 hi hz0 hz1 hz2 rfl (by decide) _ _ _ (by rfl) (Hs0.out.alloc _) _ _ 1 1 _ (by rfl) (reads_new _ _ 1 3 rfl) (by intro u hu; simp at hu; first | (subst hu; rfl) | (rcases hu with rfl | rfl <;> rfl) | (rcases hu with rfl | rfl | rfl <;> rfl)) (by unfold maxLen; omega) (by omega) (by (try simp) <;> (try omega)) ?_
   intro v9 w9 hown9 hgrow9 hblk9
   go_simp
   refine hK _ _ (Cls.mk' (Only.grown2 (HOp.out.alloc _) hgrow9 (fun b hb => .inl (.inr hb)))) ?_
   clear hK K
   obtain ⟨A9, c9, rfl, _, _, _⟩ := own_form hown9
   have HLf := Lib.hid ((HLp.out.alloc _).pushSig (x := (0, x, 0)) (by rw [hsl]; exact hown9) hgrow9)
   have hmod9 := blk_row2 ((HLp.out.alloc _).mod) ((HLp.out.alloc _).fl.s0) (by decide) hgrow9
   obtain ⟨y0, y1, y2, y3⟩ := blkS4 hmod9
   have f9 := hmod9.frozen 0
   clear hown9 hgrow9 hblk9 hmod9
   (repeat (first | (refine lex_r fun K hK => ?_; go_big_quiet_op; refine hK _ ?_; clear hK K) | (refine lex_k fun K hK => ?_; go_simp; refine hK _ ?_; clear hK K)))
   (refine lex_l fun K hK => ?_; go_big_op)
   (refine hK _ _ ?_; clear hK K)
   clear lexNE cy y0 y1 y2 y3 f9
   obtain ⟨wf, hwf⟩ : ∃ wf, wf = w9.setCell ⟨lo + 2, 0, none⟩ (.slice A9 (k + 1) c9) := ⟨_, rfl⟩
   rw [← hwf] at HLf ⊢
   clear hwf
   go_wp2_with fail
   go_roundw
   case rel => exact ⟨k + 1, _, sg ++ [(0, x, 0)], avL ++ [((k : Nat) : Int)], by omega, by go_num, HLf.out, Hgd.out.push (sig_in (wid_in hx (by decide))) (fun s => by simp), by simp [hsl], by simp [hal], by rw [cnt_snoc]; simp; omega, fun y hy => by
    rw [List.length_append, List.length_singleton]
    rcases List.mem_append.1 hy with hy | hy
    ·have := hab y hy; omega
    ·rw [List.mem_singleton.1 hy]; omega⟩
   case measure => simp [intOf]; omega
   -- </A>
  ·have hkI : k = nI := by omega
   rw [hkI] at hsl hal hpc
   have g2 : (nI : Int) ≤ (k : Int) := by omega
   clear hkI hlt g1 hk
   go_wp2_with fail
   clear g2
   refine (s_Below 3 HL.out.cur).mono ?_
   rintro e w2 ⟨kk, rfl, hk2, hc2, hg2⟩
   obtain ⟨hk0, hk1⟩ := hk2.1 (by omega)
   obtain ⟨nR, rfl⟩ := Int.eq_ofNat_of_zero_le hk0
   have HLB := Lib.hid ((HL.out.call hg2 hc2).reb nI)
   have HgB := Lib.hid (Hgd.out.same (P' := fun s => nI ≤ s ∧ s < nI + 0) (fun s => ⟨fun h => h.elim, fun h => by omega⟩))
   have hnR : nR ≤ 2 := by omega
   clear hk2 hc2 hg2 hk0 hk1 HL Hgd
   go_wp2_with fail
   go_loopw [6, 7, 10] (fun avv rgv iv wr => ∃ (j q : Nat) (u0 : Value) (sg : List TSignal) (avL : List Int), j ≤ nR ∧ Hid (q = nI + j) ∧ iv = .int .i64 j ∧ LmS w wr B g lo (.slice Ad nd cd) u0 (.slice none 0 0) (.slice none 0 0) (.slice none 0 0) (sg, [], [], []) (fun _ => False) avv avL rgv nI j ∧ GdM d (sg, [], [], []) (fun s => nI ≤ s ∧ s < nI + j) ∧ (sg.length = q ∧ avL.length = q ∧ sg.countP isPort ≤ 2 ∧ ∀ x ∈ avL, 0 ≤ x ∧ x < (sg.length : Int))) (fun _ _ iv _ => nR - (intOf iv).toNat)
   case atStart => exact ⟨0, nI, _, sg, avL, Nat.zero_le _, Lib.hid rfl, rfl, HLB.out, HgB.out, ⟨hsl, hal, by omega, hab⟩⟩
   case round =>
    clear hsl hal hpc hab HLB HgB
    obtain ⟨j, q, u0, sg, avL, hj, hq, rfl, hL, hgd, hsl, hal, hpc, hab⟩ := hrel
    obtain ⟨wb, hwb⟩ : ∃ x, x = wr := ⟨_, rfl⟩
    subst hwb
    obtain ⟨a0, c0, rfl⟩ := hL.fl.form0 hsl
    obtain ⟨aa, ca, rfl⟩ := int_form hL.avr hal
    obtain ⟨ar, cr, rfl, _, _, _⟩ := own_form hL.rgr
    have HL := Lib.hid hL
    have Hgd := Lib.hid hgd
    have g1 : (0 : Int) ≤ (j : Int) := by omega
    have hq4 : q ≤ 4 := by have := hq.out; omega
    clear hL hgd
    by_cases hlt : j < nR
    ·have g2 : (j : Int) < (nR : Int) := by omega
     -- <B>
     have hav := HL.out.avr
     rw [hal] at hav
     have Hav := Lib.hid hav
     obtain ⟨y0, y1, y2, y3⟩ := blkS4 HL.out.mod
     obtain ⟨i0, hi, hz0, hz1, hz2⟩ := info_parts Tryd.infoIntC
     have zz7 : lo + 2 < (wb).heap.size := HL.out.mod.lt
     clear hav
     go_wp2_with (at_builtin; refine wpList_append_any _ rfl _ _ 73 rfl (lo) 3 i0 (.int .i64 0) 1 8 Tryd.underlying73 hi hz0 hz1 hz2 rfl (by decide) _ _ _ rfl (Hav.out.alloc _) _ _ 1 1 _ rfl (reads_new _ _ 1 1 rfl) (by intro u hu; simp at hu; first | (subst hu; rfl) | (rcases hu with rfl | rfl <;> rfl) | (rcases hu with rfl | rfl | rfl <;> rfl)) (by unfold maxLen; omega) (by omega) (by (try simp) <;> (try omega)) ?_; intro v7 w7 hown7 hgrow7 hblk7; refine stopX ?_)
     have HL7 := Lib.hid ((HL.out.alloc _).pushAv (L := [((q : Nat) : Int)]) (by rw [List.length_append, List.length_singleton, hal, ints_app]; exact hown7) hgrow7 hblk7)
     clear hown7 hgrow7 hblk7 hi hz0 hz1 hz2 y0 y1 y2 y3 Hav
     refine stopped ?_
     have Hrg := Lib.hid HL7.out.rgr
     have zz8 : lo + 2 < w7.heap.size := HL7.out.mod.lt
     obtain ⟨y0, y1, y2, y3⟩ := blkS4 HL7.out.mod
     obtain ⟨i0, hi, hz0, hz1, hz2⟩ := info_parts Tryd.infoIntC
     go_wp2_with (at_builtin; refine wpList_append_any _ rfl _ _ 73 rfl (lo) 3 i0 (.int .i64 0) 1 8 Tryd.underlying73 hi hz0 hz1 hz2 rfl (by decide) _ _ _ rfl (Hrg.out.alloc _) _ _ 1 1 _ rfl (reads_new _ _ 1 1 rfl) (by intro u hu; simp at hu; first | (subst hu; rfl) | (rcases hu with rfl | rfl <;> rfl) | (rcases hu with rfl | rfl | rfl <;> rfl)) (by unfold maxLen; omega) (by omega) (by (try simp) <;> (try omega)) ?_; intro v8 w8 hown8 hgrow8 hblk8; refine stopX ?_)
     have HL8 := Lib.hid ((HL7.out.alloc _).pushRg (by rw [fromN_succ, ints_app, ← hq.out]; exact hown8) hgrow8 hblk8)
     clear hown8 hgrow8 hblk8 hi hz0 hz1 hz2 y0 y1 y2 y3 Hrg
     refine stopped ?_
     obtain ⟨y0, y1, y2, y3⟩ := blkS4 HL8.out.mod
     have cy := ocel (S := fun b => b = g ∨ (Value.slice a0 q c0).ownBlock = some b) y0 HL8.out.mod.lt HL8.out.ne0
     clear y0 y1 y2 y3
     go_wp2_with fail
     refine wp_region_lexC (by kernel_rfl) (by kernel_rfl) (fun x => Only (fun b => b = g ∨ (Value.slice a0 q c0).ownBlock = some b) w8 x) ((Only.refl _ _).drew) (fun lexNE => ?_)
     have HLd := Lib.hid HL8.out.drew
     have HOd := Lib.hid ((Only.refl (fun b => b = g ∨ (Value.slice a0 q c0).ownBlock = some b) w8).drew)
     obtain ⟨i0, hi, hz0, hz1, hz2⟩ := info_parts Tryd.infSignalC
     (repeat (first | (refine lex_r fun K hK => ?_; go_big_quiet_op; refine hK _ ?_; clear hK K) | (refine lex_k fun K hK => ?_; go_simp; refine hK _ ?_; clear hK K)))
     (refine lex_e fun K hK => ?_; go_big_op)
     refine hK _ _ (Cls.mk' (HOd.out.alloc _)) ?_
     clear hK K
     (repeat (first | (refine lex_r fun K hK => ?_; go_big_quiet_op; refine hK _ ?_; clear hK K) | (refine lex_k fun K hK => ?_; go_simp; refine hK _ ?_; clear hK K)))
     (refine lex_e fun K hK => ?_; go_big_op)
     have zq : g < (w8).heap.size := HLd.out.cur.lt
     refine (s_PickInt (l := [1, 2, 0]) (n := 3) (HLd.out.alloc _).cur (by omega) (by omega) rfl (by show (w8).heap.size ≠ g; omega) (by simp) (fun j x hj => lit_at hj)).mono ?_
     rintro e wp ⟨x, rfl, hx, hcwp, hgwp⟩
     have HLp := Lib.hid ((HLd.out.alloc _).call hgwp hcwp)
     have HOp := Lib.hid ((HOd.out.alloc _).trans ((only_row hgwp).more (fun b hb => .inl (by injection hb with hb; exact hb.symm))))
     refine hK _ _ (Cls.mk' HOp.out) ?_
     clear hK K hcwp hgwp zq
     (repeat (first | (refine lex_r fun K hK => ?_; go_big_quiet_op; refine hK _ ?_; clear hK K) | (refine lex_k fun K hK => ?_; go_simp; refine hK _ ?_; clear hK K)))
     (refine lex_e fun K hK => ?_; go_big_op)
     refine (s_Below 4 HLp.out.cur).mono ?_
     rintro e w5 ⟨y, rfl, hy, hc5, hg5⟩
     obtain ⟨hy0, hy1⟩ := hy.1 (by omega)
     have HL5 := Lib.hid (HLp.out.call hg5 hc5)
     have HO5 := Lib.hid (HOp.out.trans ((only_row hg5).more (fun b hb => .inl (by injection hb with hb; exact hb.symm))))
     refine hK _ _ (Cls.mk' HO5.out) ?_
     clear hK K hy hc5 hg5
     have hs0 := HL5.out.fl.s0
     have zs : lo + 2 < (w5).heap.size := HL5.out.mod.lt
     rw [hsl] at hs0
     have Hs0 := Lib.hid hs0
     clear hs0
     (repeat (first | (refine lex_r fun K hK => ?_; go_big_quiet_op; refine hK _ ?_; clear hK K) | (refine lex_k fun K hK => ?_; go_simp; refine hK _ ?_; clear hK K)))
     (refine lex_e fun K hK => ?_; go_big_op)
     refine hK _ _ (Cls.mk' (HO5.out.alloc _)) ?_
     clear hK K
     refine lex_e fun K hK => ?_
     refine wp_append_any _ _ _ 45 (by rfl) (lo) 66 i0 (.agg #[.int .i64 0, .int .i64 0, .int .i64 0]) 3 24 Tryd.underlying45 hi hz0 hz1 hz2 rfl (by decide) _ _ _ (by rfl) (Hs0.out.alloc _) _ _ 1 1 _ (by rfl) (reads_new _ _ 1 3 rfl) (by intro u hu; simp at hu; first | (subst hu; rfl) | (rcases hu with rfl | rfl <;> rfl) | (rcases hu with rfl | rfl | rfl <;> rfl)) (by unfold maxLen; omega) (by omega) (by (try simp) <;> (try omega)) ?_
     intro v9 w9 hown9 hgrow9 hblk9
     go_simp
     refine hK _ _ (Cls.mk' (Only.grown2 (HO5.out.alloc _) hgrow9 (fun b hb => .inl (.inr hb)))) ?_
     clear hK K
     obtain ⟨A9, c9, rfl, _, _, _⟩ := own_form hown9
     have HLf := Lib.hid ((HL5.out.alloc _).pushSig (x := (3, x, y)) (by rw [hsl]; exact hown9) hgrow9)
     have hmod9 := blk_row2 ((HL5.out.alloc _).mod) ((HL5.out.alloc _).fl.s0) (by decide) hgrow9
     obtain ⟨y0, y1, y2, y3⟩ := blkS4 hmod9
     have f9 := hmod9.frozen 0
     clear hown9 hgrow9 hblk9 hmod9
     (repeat (first | (refine lex_r fun K hK => ?_; go_big_quiet_op; refine hK _ ?_; clear hK K) | (refine lex_k fun K hK => ?_; go_simp; refine hK _ ?_; clear hK K)))
     (refine lex_l fun K hK => ?_; go_big_op)
     (refine hK _ _ ?_; clear hK K)
     clear lexNE cy y0 y1 y2 y3 f9
     obtain ⟨wf, hwf⟩ : ∃ wf, wf = w9.setCell ⟨lo + 2, 0, none⟩ (.slice A9 (q + 1) c9) := ⟨_, rfl⟩
     rw [← hwf] at HLf ⊢
     clear hwf
     go_wp2_with fail
     go_roundw
     case rel => exact ⟨j + 1, q + 1, _, sg ++ [(3, x, y)], avL ++ [((q : Nat) : Int)], by omega, Lib.hid (by rw [hq.out]; rfl), by go_num, HLf.out, Hgd.out.push (sig_reg (wid_in hx (by decide)) ⟨hy0, by omega⟩) (fun s => by
      have h1 := hq.out
      constructor
      ·intro h
       by_cases h2 : s < nI + j
       ·exact .inl ⟨h.1, h2⟩
       ·exact .inr ⟨by show s = sg.length; omega, by show (3 : Int) ≠ 0; decide⟩
      ·rintro (h | ⟨h, _⟩)
       ·exact ⟨h.1, by omega⟩
       ·have h : s = sg.length := h
        exact ⟨by omega, by omega⟩), by simp [hsl], by simp [hal], by rw [cnt_snoc]; simp; omega, fun y hy => by
      rw [List.length_append, List.length_singleton]
      rcases List.mem_append.1 hy with hy | hy
      ·have := hab y hy; omega
      ·rw [List.mem_singleton.1 hy]; omega⟩
     case measure => simp [intOf]; omega
     -- </B>
    ·have hjR : nR = j := by omega
     obtain rfl := hjR
     have g2 : (nR : Int) ≤ (nR : Int) := Int.le_refl _
     have hmin : nI + nR ≤ sg.length := by rw [hsl, hq.out]; exact Nat.le_refl _
     have hq5 : sg.length ≤ 4 ∧ avL.length ≤ 4 := by omega
     clear hlt g1 hj
     go_wp2_with fail
     clear g2
     go_loopw [6, 11, 12, 13, 14, 15, 16, 17, 18] (fun avv iv _ _ _ _ _ _ _ wr => ∃ (k : Nat) (u0 u1 u2 : Value) (sg : List TSignal) (ag : List TAssign) (ins : List TInst) (R : Nat → Prop) (avL : List Int), k ≤ 2 ∧ k ≤ nd ∧ iv = .int .i64 k ∧ LmS w wr B g lo (.slice Ad nd cd) u0 u1 u2 (.slice none 0 0) (sg, ag, ins, []) R avv avL (.slice ar nR cr) nI nR ∧ GdM d (sg, ag, ins, []) (fun s => nI ≤ s ∧ s < nI + nR) ∧ (nI + nR ≤ sg.length ∧ sg.length ≤ 4 + 4 * k ∧ ag.length ≤ 4 * k ∧ ins.length ≤ k ∧ sg.countP isPort ≤ 2 ∧ avL.length ≤ 4 + 4 * k ∧ ∀ x ∈ avL, 0 ≤ x ∧ x < (sg.length : Int))) (fun _ iv _ _ _ _ _ _ _ _ => 2 - (intOf iv).toNat)
     case atStart => exact ⟨0, _, _, _, sg, [], [], _, avL, by omega, Nat.zero_le _, rfl, HL.out, Hgd.out, ⟨hmin, by omega, by simp, by simp, hpc, by omega, hab⟩⟩
     case round =>
      clear hsl hal hpc hab hmin hq5 HL Hgd hq hq4
      obtain ⟨k, u0, u1, u2, sg, ag, ins, R, avL, hk, hkn, rfl, hL, hgd, hmin, hsl, hagl, hil, hpc, hal, hab⟩ := hrel
      obtain ⟨wc, hwc⟩ : ∃ x, x = wr := ⟨_, rfl⟩
      subst hwc
      obtain ⟨na, hna⟩ : ∃ n, avL.length = n := ⟨_, rfl⟩
      obtain ⟨aa, ca, rfl⟩ := int_form hL.avr hna
      obtain ⟨n0, hn0⟩ : ∃ n, sg.length = n := ⟨_, rfl⟩
      obtain ⟨a0, c0, rfl⟩ := hL.fl.form0 hn0
      obtain ⟨A2, n2, c2, rfl⟩ : ∃ A n c, u2 = .slice A n c := by
       obtain ⟨xs, hin⟩ := hL.ins
       obtain ⟨A, c, h, _⟩ := own_form hin.own
       exact ⟨A, _, c, h⟩
      have HL := Lib.hid hL
      have Hgd := Lib.hid hgd
      have Hna := Lib.hid hna
      have Hn0 := Lib.hid hn0
      have g1 : (0 : Int) ≤ (k : Int) := by omega
      have yd := blkS1 hL.dbx
      have hnd0 : (nd : Int) ≤ 3 := by omega
      rw [hn0] at hmin hsl
      rw [hna] at hal
      clear hL hgd hna hn0
      by_cases hlt : k < nd ∧ k < 2
      ·-- <E>
       obtain ⟨hl1, hl2⟩ := hlt
       have g2 : (k : Int) < (nd : Int) := by omega
       have g3 : (k : Int) < 2 := by omega
       go_upto_region 20 with fail
       go_cut [98] from 92 to 97 (fun sv wx => ∃ b : Bool, sv = .bool b ∧ LmS w wx B g lo (.slice Ad nd cd) (.slice a0 n0 c0) u1 (.slice A2 n2 c2) (.slice none 0 0) (sg, ag, ins, []) R (.slice aa na ca) avL (.slice ar nR cr) nI nR)
       case first =>
        go_wp2_with fail
        refine (s_Once 2 HL.out.cur).mono ?_
        rintro e w2 ⟨o, rfl, hc2, hg2⟩
        have HL2 := Lib.hid (HL.out.call hg2 hc2)
        clear hc2 hg2
        cases o
        ·by_cases hk0 : 0 < k
         ·have g4 : (0 : Int) < (k : Int) := by omega
          go_wp2_with fail
          go_meet
          case rel => exact ⟨true, rfl, HL2.out⟩
         ·have g4 : (k : Int) ≤ 0 := by omega
          have hk00 : k = 0 := by omega
          subst hk00
          go_wp2_with fail
          go_meet
          case rel => exact ⟨false, rfl, HL2.out⟩
        ·go_wp2_with fail
         go_meet
         case rel => exact ⟨false, rfl, HL2.out⟩
       case rest =>
       obtain ⟨bc, rfl, hL2⟩ := hcut
       have HL2 := Lib.hid hL2
       clear hL2 yd
       cases bc with
       | true =>
        go_wp2_with fail
        go_roundw
        case rel => exact ⟨k + 1, .slice a0 n0 c0, u1, .slice A2 n2 c2, sg, ag, ins, R, avL, by omega, by omega, by go_num, HL2.out, Hgd.out, by rw [Hn0.out]; exact hmin, by rw [Hn0.out]; omega, by omega, by omega, hpc, by rw [Hna.out]; omega, hab⟩
        case measure => simp [intOf]; omega
       | false =>
       have yd := blkS1 HL2.out.dbx
       have hnd1 : (0 : Int) < (nd : Int) := by omega
       go_wp2_with fail
       refine (s_Below (nd : Int) HL2.out.cur).mono ?_
       rintro e w3 ⟨qq, rfl, hq3, hc3, hg3⟩
       obtain ⟨hq0, hq1⟩ := hq3.1 hnd1
       obtain ⟨qn, rfl⟩ := Int.eq_ofNat_of_zero_le hq0
       have HL3 := Lib.hid (HL2.out.call hg3 hc3)
       have zq3 : g < w3.heap.size := HL3.out.cur.lt
       clear hq3 hc3 hg3 yd
       go_wp2_with fail
       refine (s_PickInt (l := [0, 0, 1, 2]) (n := 4) (HL3.out.alloc _).cur (by omega) (by omega) rfl (by show w3.heap.size ≠ g; omega) (by simp) (fun j x hj => lit_at hj)).mono ?_
       rintro e w4 ⟨pr, rfl, hpr, hc4, hg4⟩
       have hprb := wid_in hpr (by decide)
       have HL4 := Lib.hid ((HL3.out.alloc _).call hg4 hc4)
       obtain ⟨B2, hB2⟩ : ∃ B2, B2 = w4.alloc (.cells #[.int .i64 (qn : Int), .int .i64 pr, .slice none 0 0] 75) := ⟨_, rfl⟩
       obtain ⟨gx, hgx⟩ : ∃ g, g = w4.heap.size := ⟨_, rfl⟩
       have HLx := Lib.hid (show LmS w B2 B g lo (.slice Ad nd cd) (.slice a0 n0 c0) u1 (.slice A2 n2 c2) (.slice none 0 0) (sg, ag, ins, []) R (.slice aa na ca) avL (.slice ar nR cr) nI nR by rw [hB2]; exact HL4.out.alloc _)
       have Hgx := Lib.hid (show Blk B2 gx 75 #[.int .i64 (qn : Int), .int .i64 pr, .slice none 0 0] by rw [hB2, hgx]; exact Blk.new _ _ _)
       have zgx : gx < B2.heap.size := Hgx.out.lt
       have zlo : lo + 2 < gx := by have h : lo + 2 < w4.heap.size := HL4.out.mod.lt; omega
       have hu2 : ∀ b, (Value.slice A2 n2 c2).ownBlock = some b → b < gx := fun b hb => by
        obtain ⟨xs, hin⟩ := HL4.out.ins
        have := (hin.own.lt b hb).2
        omega
       have ha0 : ∀ b, (Value.slice a0 n0 c0).ownBlock = some b → lo ≤ b ∧ b < gx := fun b hb => by
        have h1 := HL4.out.fl.s0.lt b hb
        exact ⟨h1.1, by omega⟩
       clear hpr hc4 hg4
       go_upto_region 22 with fail
       rw [← hB2, ← hgx]
       clear hB2 hgx
       -- the child
       have hqn : qn < nd := by omega
       have hrB := rep_gro Hr.out HLx.out.gro HS.out
       obtain ⟨adD, ch, E0, k0, E1, k1, E2, k2, E3, k3, rfl, habD, hxD, hro, ⟨ml0, ml1, ml2, ml3⟩, t0, t1, t2, t3⟩ := mod_row hrB hqn
       have HgC := Lib.hid (HG.out qn ch hxD)
       have Hmd := Lib.hid (md_get hxD)
       obtain ⟨m0, hm0⟩ : ∃ n, ch.1.length = n := ⟨_, rfl⟩
       obtain ⟨m1, hm1⟩ : ∃ n, ch.2.1.length = n := ⟨_, rfl⟩
       obtain ⟨m2, hm2⟩ : ∃ n, ch.2.2.1.length = n := ⟨_, rfl⟩
       obtain ⟨m3, hm3⟩ : ∃ n, ch.2.2.2.length = n := ⟨_, rfl⟩
       rw [hm0, hm1, hm2, hm3] at hro
       rw [hm0] at t0
       rw [hm1] at t1
       rw [hm2] at t2
       rw [hm3] at t3
       have hro2 := hro
       obtain ⟨_, _, _, _, hv, rp0, _, _, _⟩ := hro2
       injection hv with hv
       injection hv with hv
       injection hv with hva hv
       subst hva
       clear hv
       have Hro := Lib.hid hro
       have Hrp := Lib.hid rp0
       have Hm0 := Lib.hid hm0
       have hm30 : m0 ≤ 30 := by rw [← hm0]; exact HgC.out.n0
       have yd := blkS1 HLx.out.dbx
       obtain ⟨q0, q1, q2⟩ := blkS3 Hgx.out
       have g5 : (0 : Int) ≤ (qn : Int) := by omega
       have g6 : (qn : Int) < (nd : Int) := by omega
       obtain ⟨B3, hB3⟩ : ∃ B3, B3 = B2.alloc (.cells #[.slice E0 m0 k0, .slice E1 m1 k1, .slice E2 m2 k2, .slice E3 m3 k3] 50) := ⟨_, rfl⟩
       obtain ⟨gc, hgc⟩ : ∃ g, g = B2.heap.size := ⟨_, rfl⟩
       have HL3' := Lib.hid (show LmS w B3 B g lo (.slice (some adD) nd cd) (.slice a0 n0 c0) u1 (.slice A2 n2 c2) (.slice none 0 0) (sg, ag, ins, []) R (.slice aa na ca) avL (.slice ar nR cr) nI nR by rw [hB3]; exact HLx.out.alloc _)
       have Hgx3 := Lib.hid (show Blk B3 gx 75 #[.int .i64 (qn : Int), .int .i64 pr, .slice none 0 0] by rw [hB3]; exact Hgx.out.alloc _)
       have Hgc3 := Lib.hid (show Blk B3 gc 50 #[.slice E0 m0 k0, .slice E1 m1 k1, .slice E2 m2 k2, .slice E3 m3 k3] by rw [hB3, hgc]; exact Blk.new _ _ _)
       have zB3 : gc < B3.heap.size := Hgc3.out.lt
       have zgc : gx < gc := by omega
       have hbl3 : Below B2.heap.size B2 B3 := by rw [hB3]; exact (Below.refl _ _).alloc (Nat.le_refl _) _
       have hSB : ∀ b, S b → b < B2.heap.size := fun b hb => by have := (HSl.out b hb).2; omega
       have Hro3 := Lib.hid (RModule.under hro hSB hbl3)
       have Hrp3 := Lib.hid (rp0.under hSB hbl3)
       clear hro rp0 hrB hxD hm0 hm1 hm2 hm3 ml0 ml1 ml2 ml3 hbl3 Hro Hrp
       go_upto_region 23 with fail
       rw [← hB3, ← hgc]
       clear hB3 hgc yd q0 q1 q2 t0 t1 t2 t3
       obtain ⟨y0, y1, y2, y3⟩ := blkS4 Hgc3.out
       go_wp2_with fail
       refine (s_PortsOf Hro3.out (fun b hb => by have := (HSl.out b hb).2; omega)).mono ?_
       rintro e w5 ⟨pv, rfl, hq5, hb5⟩
       obtain ⟨Ap, np, cp, rfl⟩ := slv_of hq5.rep
       obtain ⟨ps, hps⟩ : ∃ ps, ps = portsM ch := ⟨_, rfl⟩
       rw [← hps] at hq5
       have Hps := Lib.hid hps
       have hnp : ps.length = np := by have := hq5.len; rw [List.length_map] at this; exact this
       have hnp4 : np ≤ 4 := by rw [← hnp, hps]; exact HgC.out.np
       have Hnp := Lib.hid hnp
       have HL5 := Lib.hid (HL3'.out.below hb5)
       have Hgx5 := Lib.hid (Hgx3.out.below hb5 Hgx3.out.lt)
       have Hgc5 := Lib.hid (Hgc3.out.below hb5 Hgc3.out.lt)
       have Hp5 := Lib.hid hq5.rep
       have Hrp5 := Lib.hid (Hrp3.out.under (B := B3.heap.size) (fun b hb => by have := (HSl.out b hb).2; omega) hb5)
       have z5 := hb5.size
       have hR5 := Lib.hid HL5.out.lt
       clear hq5 hb5 y0 y1 y2 y3 hps hnp Hro3 Hrp3
       obtain ⟨B6, hB6⟩ : ∃ B6, B6 = w5.alloc (.cells #[] 3) := ⟨_, rfl⟩
       obtain ⟨go, hgo⟩ : ∃ g, g = w5.heap.size := ⟨_, rfl⟩
       have hbl6 : Below w5.heap.size w5 B6 := by rw [hB6]; exact (Below.refl _ _).alloc (Nat.le_refl _) _
       have HL6 := Lib.hid (show LmS w B6 B g lo (.slice (some adD) nd cd) (.slice a0 n0 c0) u1 (.slice A2 n2 c2) (.slice none 0 0) (sg, ag, ins, []) R (.slice aa na ca) avL (.slice ar nR cr) nI nR by rw [hB6]; exact HL5.out.alloc _)
       have Hgx6 := Lib.hid (Hgx5.out.below hbl6 Hgx5.out.lt)
       have Hgc6 := Lib.hid (Hgc5.out.below hbl6 Hgc5.out.lt)
       have Hou6 := Lib.hid (show B6.ownsRow go 3 1 (.slice (some ⟨go, 0, none⟩) 0 0) 0 (ints []) by rw [hB6, hgo]; exact row_int0 (Nat.le_refl _))
       have Hp6 := Lib.hid (Hp5.out.under (B := w5.heap.size) (fun b hb => hb.2) hbl6)
       have Hrp6 := Lib.hid (Hrp5.out.under (B := w5.heap.size) (fun b hb => by have := (HSl.out b hb).2; omega) hbl6)
       have z6 : go < B6.heap.size := by rw [hB6, hgo]; simp
       have z56 : w5.heap.size ≤ go := by omega
       have HzB6 := Lib.hid (show B6.heap.size = go + 1 by rw [hB6, hgo]; simp)
       go_upto_region 25 with fail
       rw [← hB6, ← hgo]
       clear hB6 hgo hbl6 HL5 Hgx5 Hgc5 Hp5 Hrp5
       obtain ⟨al, hagl2⟩ : ∃ n, ag.length = n := ⟨_, rfl⟩
       rw [hagl2] at hagl
       go_wp2_with fail
       go_loopw [15, 16, 17, 18] (fun ouv iv _ _ wr => ∃ (j q : Nat) (v0 v1 : Value) (sg2 : List TSignal) (ag2 : List TAssign) (px : Value) (ouL : List Int), j ≤ np ∧ Hid (q = n0 + j) ∧ iv = .int .i64 j ∧ LmS w wr B g lo (.slice (some adD) nd cd) v0 v1 (.slice A2 n2 c2) (.slice none 0 0) (sg2, ag2, ins, []) R (.slice aa na ca) avL (.slice ar nR cr) nI nR ∧ Blk wr gx 75 #[.int .i64 (qn : Int), .int .i64 pr, px] ∧ wr.ownsRow B6.heap.size 3 1 px j (ints (fromN n0 j)) ∧ wr.ownsRow go 3 1 ouv ouL.length (ints ouL) ∧ (∀ b, px.ownBlock = some b → ouv.ownBlock ≠ some b) ∧ (∀ b, v0.ownBlock = some b → (Value.slice a0 n0 c0).ownBlock = some b ∨ B6.heap.size ≤ b) ∧ Only (CcI g lo (.slice a0 n0 c0) gx go) B6 wr ∧ GdM d (sg2, ag2, ins, []) (fun s => (nI ≤ s ∧ s < nI + nR) ∨ ∃ i, i < j ∧ s = n0 + i ∧ outP ch.1 ps i) ∧ (sg2.length = q ∧ ag2.length ≤ al + j ∧ sg2.countP isPort ≤ 2 ∧ (∀ i, i < j → kindAt sg2 ((n0 + i : Nat) : Int) = 2) ∧ ouL.length ≤ j ∧ ∀ x ∈ ouL, 0 ≤ x ∧ x < (sg2.length : Int))) (fun _ iv _ _ _ => np - (intOf iv).toNat)
       case atStart => exact ⟨0, n0, _, _, sg, ag, _, [], Nat.zero_le _, Lib.hid rfl, rfl, HL6.out, Hgx6.out, World.ownsRow_nil _ _ _ _, Hou6.out, fun b hb => by simp [Value.ownBlock] at hb, fun b hb => .inl hb, Only.refl _ _, Hgd.out.same (fun s => ⟨fun h => .inl h, fun h => h.elim id (fun ⟨i, hi, _⟩ => by omega)⟩), ⟨Hn0.out, by omega, hpc, fun i hi => by omega, Nat.le_refl _, fun x hx => by simp at hx⟩⟩
       case round =>
        obtain ⟨j, q, v0, v1, sg2, ag2, px, ouL, hj, hq, rfl, hL, hgxb, hpx, hou, hdj, hv0, hon, hgd, hsl2, hal2, hpc2, hk2, hol, hob⟩ := hrel
        obtain ⟨wd, hwd⟩ : ∃ x, x = wr := ⟨_, rfl⟩
        subst hwd
        obtain ⟨b0, e0', rfl⟩ := hL.fl.form0 hsl2
        obtain ⟨ol, hol2⟩ : ∃ n, ouL.length = n := ⟨_, rfl⟩
        rw [hol2] at hou hol
        obtain ⟨ao, co, rfl, _, _, _⟩ := own_form hou
        obtain ⟨ax, cx, rfl, _, _, _⟩ := own_form hpx
        have HL := Lib.hid hL
        have Hgdj := Lib.hid hgd
        have Hgxj := Lib.hid hgxb
        have Hpx := Lib.hid hpx
        have Hou := Lib.hid hou
        have Hon := Lib.hid hon
        have Hol := Lib.hid hol2
        have g7 : (0 : Int) ≤ (j : Int) := by omega
        have zon := hon.size
        have hq30 : q ≤ 16 := by have := hq.out; omega
        clear hL hgd hgxb hpx hou hon hol2
        by_cases hlj : j < np
        ·have g8 : (j : Int) < (np : Int) := by omega
         have Hgcj := Lib.hid (Hon.out.blk Hgc6.out (by
          rintro (h | h | h | h | h)
          ·omega
          ·omega
          ·have := (ha0 _ h).2; omega
          ·omega
          ·omega))
         have Hpj := Lib.hid (rep_only Hp6.out Hon.out (fun b hb => by
          have h1 : B3.heap.size ≤ b ∧ b < w5.heap.size := hb
          refine ⟨by omega, ?_⟩
          rintro (h | h | h | h | h)
          ·omega
          ·omega
          ·have := (ha0 _ h).2; omega
          ·omega
          ·omega))
         have Hrpj := Lib.hid (rep_only Hrp6.out Hon.out (fun b hb => by
          have h1 := HSl.out b hb
          refine ⟨by omega, ?_⟩
          rintro (h | h | h | h | h)
          ·omega
          ·omega
          ·have := (ha0 _ h).1; omega
          ·omega
          ·omega))
         obtain ⟨adP, x0, rfl, habp, hxp, ep⟩ := fIntS_row Hpj.out hlj
         obtain ⟨ci, cy, rfl, hci⟩ := ports_mem (m := ch) (q := j) (x := x0) (by rw [← Hps.out]; exact hxp)
         have hcm : ci < m0 := by rw [← Hm0.out]; exact (List.getElem?_eq_some_iff.1 hci).1
         obtain ⟨adS, s0, s1, s2, rfl, habs, hxs, es0, es1, es2⟩ := fSignalS_row Hrpj.out hcm
         have ltP : adP.block < B6.heap.size := by have h1 : B3.heap.size ≤ adP.block ∧ adP.block < w5.heap.size := habp; omega
         have hnP : ¬ CcI g lo (.slice a0 n0 c0) gx go adP.block := by
          have h1 : B3.heap.size ≤ adP.block ∧ adP.block < w5.heap.size := habp
          rintro (h | h | h | h | h)
          ·omega
          ·omega
          ·have := (ha0 _ h).2; omega
          ·omega
          ·omega
         have ltS : adS.block < B6.heap.size := by have h1 := HSl.out _ habs; omega
         have hnS : ¬ CcI g lo (.slice a0 n0 c0) gx go adS.block := by
          have h1 := HSl.out _ habs
          rintro (h | h | h | h | h)
          ·omega
          ·omega
          ·have := (ha0 _ h).1; omega
          ·omega
          ·omega
         have hsB := HgC.out.gd.sig _ (List.mem_of_getElem? hxs)
         simp only [sigB, Bool.and_eq_true] at hsB
         have hs1b := inR_iff.1 hsB.2.1
         have HoP := Lib.hid (show outP ch.1 ps j ↔ s0 = 1 from ⟨fun ⟨p, hp, hk⟩ => by
          rw [hxp] at hp
          injection hp with hp
          subst hp
          rw [sig_kd hxs] at hk
          exact hk, fun h => ⟨_, hxp, by rw [sig_kd hxs]; exact h⟩⟩)
         obtain ⟨y0, y1, y2, y3⟩ := blkS4 Hgcj.out
         have g9 : (0 : Int) ≤ (ci : Int) := by omega
         have g10 : (ci : Int) < (m0 : Int) := by omega
         clear hsB hxp hci hxs
         go_wp2_with fail
         refine wp_region_lex (by kernel_rfl) (by kernel_rfl) (Cls (fun x => x = wd.drew)) (Cls.mk' rfl) ?_
         have lexNE : Nonempty (Wd (fun x => x = wd.drew)) := ⟨⟨_, rfl⟩⟩
         have lexW : ∀ W : Wd (fun x => x = wd.drew), W.val = wd.drew := fun W => W.ok
         (repeat (first | (refine lex_r fun K hK => ?_; go_big_quiet_op; refine hK _ ?_; clear hK K) | (refine lex_k fun K hK => ?_; go_simp; refine hK _ ?_; clear hK K)))
         (refine lex_nil ?_)
         clear lexNE lexW
         obtain ⟨we, hwe⟩ : ∃ we, we = wd.drew := ⟨_, rfl⟩
         have HLe := Lib.hid (show LmS w we B g lo (.slice (some adD) nd cd) (.slice b0 q e0') v1 (.slice A2 n2 c2) (.slice none 0 0) (sg2, ag2, ins, []) R (.slice aa na ca) avL (.slice ar nR cr) nI nR by rw [hwe]; exact HL.out.drew)
         have Hone := Lib.hid (show Only (CcI g lo (.slice a0 n0 c0) gx go) B6 we by rw [hwe]; exact Hon.out.drew)
         have Hgxe := Lib.hid (show Blk we gx 75 #[.int .i64 (qn : Int), .int .i64 pr, .slice ax j cx] by rw [hwe]; exact Hgxj.out)
         have Hgce := Lib.hid (show Blk we gc 50 #[.slice (some adS) m0 k0, .slice E1 m1 k1, .slice E2 m2 k2, .slice E3 m3 k3] by rw [hwe]; exact Hgcj.out)
         have Hpxe := Lib.hid (show we.ownsRow B6.heap.size 3 1 (.slice ax j cx) j (ints (fromN n0 j)) by rw [hwe]; exact Hpx.out)
         have Houe := Lib.hid (show we.ownsRow go 3 1 (.slice ao ol co) ol (ints ouL) by rw [hwe]; exact Hou.out)
         have hepe : we.cell? (adP.add j) = some (.int .i64 (ci : Int)) := by rw [hwe]; exact ep
         have hes0 : we.cell? (adS.add (ci * 3)) = some (.int .i64 s0) := by rw [hwe]; exact es0
         rw [← hwe]
         clear hwe y0 y1 y2 y3 ep es0 es1 es2 HL Hon Hgxj Hgcj Hpx Hou
         obtain ⟨q0, q1, q2⟩ := blkS3 Hgxe.out
         go_upto_if 133 with fail
         go_cut [17] from 132 to 135 (fun sv wx => ∃ wv : Int, sv = .int .i64 wv ∧ (0 ≤ wv ∧ wv ≤ 4) ∧ wx = we)
         case first =>
          by_cases hw0 : s1 = 0
          ·subst hw0
           go_wp2_with fail
           go_meet
           case rel => exact ⟨pr, rfl, hprb, rfl⟩
          ·have hw1 : (s1 == 0) = false := by simpa using hw0
           go_wp2_with fail
           go_meet
           case rel => exact ⟨s1, rfl, hs1b, rfl⟩
         case rest =>
         obtain ⟨wv, rfl, hwv, hwx⟩ := hcut
         obtain rfl := hwx.symm
         have hs0 := HLe.out.fl.s0
         have hs0 : we.ownsRow lo 66 3 (.slice b0 q e0') q (recs eSg sg2) := by rw [hsl2] at hs0; exact hs0
         have Hs0 := Lib.hid hs0
         have zwe : lo + 2 < we.heap.size := HLe.out.mod.lt
         obtain ⟨y0, y1, y2, y3⟩ := blkS4 HLe.out.mod
         obtain ⟨i0, hi, hz0, hz1, hz2⟩ := info_parts Tryd.infSignalC
         clear hs0 q0 q1 q2
         go_wp2_with (at_builtin; refine wpList_append_any _ rfl _ _ 45 rfl (lo) 66 i0 (.agg #[.int .i64 0, .int .i64 0, .int .i64 0]) 3 24 Tryd.underlying45 hi hz0 hz1 hz2 rfl (by decide) _ _ _ rfl (Hs0.out.alloc _) _ _ 1 1 _ rfl (reads_new _ _ 1 3 rfl) (by intro u hu; simp at hu; first | (subst hu; rfl) | (rcases hu with rfl | rfl <;> rfl) | (rcases hu with rfl | rfl | rfl <;> rfl)) (by unfold maxLen; omega) (by omega) (by (try simp) <;> (try omega)) ?_; intro v9 w9 hown9 hgrow9 hblk9; refine stopX ?_)
         obtain ⟨A9, c9, rfl, _, _, _⟩ := own_form hown9
         obtain ⟨wf, hwf⟩ : ∃ wf, wf = w9.setCell ⟨lo + 2, 0, none⟩ (.slice A9 (q + 1) c9) := ⟨_, rfl⟩
         have HLf := Lib.hid (show LmS w wf B g lo (.slice (some adD) nd cd) (.slice A9 (q + 1) c9) v1 (.slice A2 n2 c2) (.slice none 0 0) (sg2 ++ [(2, wv, 0)], ag2, ins, []) R (.slice aa na ca) avL (.slice ar nR cr) nI nR by rw [hwf]; exact (HLe.out.alloc _).pushSig (x := (2, wv, 0)) (by rw [hsl2]; exact hown9) hgrow9)
         have hmod9 := blk_row2 ((HLe.out.alloc _).mod) ((HLe.out.alloc _).fl.s0) (by decide) hgrow9
         have hrs := (HLe.out.alloc (.cells #[.int .i64 2, .int .i64 wv, .int .i64 0] 66)).fl.s0
         have hof9 : Only (fun b => b = lo + 2) w9 wf := by rw [hwf]; exact (Only.refl (fun b => b = lo + 2) w9).setCell (p := ⟨lo + 2, 0, none⟩) (.inl rfl) _
         have Honf := Lib.hid (show Only (CcI g lo (.slice a0 n0 c0) gx go) B6 wf by
          rw [hwf]
          exact (Only.grown2 (Hone.out.alloc _) hgrow9 (fun b hb => (hv0 b hb).elim (fun h => .inl (.inr (.inr (.inl h)))) .inr)).setCell (p := ⟨lo + 2, 0, none⟩) (.inl (.inr (.inl rfl))) _)
         have Hgxf := Lib.hid (hof9.blk (blk_row2 (Hgxe.out.alloc _) hrs (by decide) hgrow9) (by omega))
         have hpx9 := row_kept (Hpxe.out.alloc _) hrs (by decide) hgrow9
         have Hpxf := Lib.hid (own_keep hpx9 (fun b hb => hof9.block b (hpx9.lt b hb).2 (fun e => by have := (hpx9.lt b hb).1; omega)))
         have hou9 := row_kept (Houe.out.alloc _) hrs (by decide) hgrow9
         have Houf := Lib.hid (own_keep hou9 (fun b hb => hof9.block b (hou9.lt b hb).2 (fun e => by have := (hou9.lt b hb).1; omega)))
         have hv9 : ∀ b, (Value.slice A9 (q + 1) c9).ownBlock = some b → (Value.slice a0 n0 c0).ownBlock = some b ∨ B6.heap.size ≤ b := fun b hb => by
          rcases hblk9 with e | e
          ·rw [e] at hb; exact hv0 b hb
          ·rw [e] at hb
           injection hb with hb
           have h1 := Hone.out.size
           simp at hb
           exact .inr (by omega)
         obtain ⟨y0', y1', y2', y3'⟩ := blkS4 hmod9
         have f9 := hmod9.frozen 0
         clear hown9 hgrow9 hblk9 hmod9 hrs hof9 hpx9 hou9 y0 y1 y2 y3 hi hz0 hz1 hz2 Hs0 hv0
         refine stopped ?_
         go_upto_region 33 with fail
         rw [← hwf]
         clear hwf y0' y1' y2' y3' f9
         -- its number joins the instance's ports
         obtain ⟨q0, q1, q2⟩ := blkS3 Hgxf.out
         obtain ⟨i0, hi, hz0, hz1, hz2⟩ := info_parts Tryd.infoIntC
         have zwf : lo + 2 < wf.heap.size := HLf.out.mod.lt
         have zwf2 := Honf.out.size
         go_wp2_with (at_builtin; refine wpList_append_any _ rfl _ _ 73 rfl (B6.heap.size) 3 i0 (.int .i64 0) 1 8 Tryd.underlying73 hi hz0 hz1 hz2 rfl (by decide) _ _ _ rfl (Hpxf.out.alloc _) _ _ 1 1 _ rfl (reads_new _ _ 1 1 rfl) (by intro u hu; simp at hu; first | (subst hu; rfl) | (rcases hu with rfl | rfl <;> rfl) | (rcases hu with rfl | rfl | rfl <;> rfl)) (by unfold maxLen; omega) (by omega) (by (try simp) <;> (try omega)) ?_; intro v7 w7 hown7 hgrow7 hblk7; refine stopX ?_)
         obtain ⟨A7, c7, rfl, _, _, _⟩ := own_form hown7
         have hpxa := Hpxf.out.alloc (.cells #[.int .i64 (q : Int)] 3)
         have hdpx : ∀ b, (Value.slice ax j cx).ownBlock = some b → ¬ R b ∧ (Value.slice aa na ca).ownBlock ≠ some b ∧ (Value.slice ar nR cr).ownBlock ≠ some b := fun b hb => by
          have h1 := (Hpxf.out.lt b hb).1
          exact ⟨fun h => by have := hR5.out b (.inl h); omega, fun h => by have := hR5.out b (.inr (.inl h)); omega, fun h => by have := hR5.out b (.inr (.inr h)); omega⟩
         have HL7 := Lib.hid ((HLf.out.alloc _).introw hpxa (by omega) hgrow7 hdpx)
         have Hgx7 := Lib.hid (blk_row2 (Hgxf.out.alloc _) hpxa (by decide) hgrow7)
         have Hon7 := Lib.hid (Only.grown2 (Honf.out.alloc _) hgrow7 (fun b hb => .inr (Hpxf.out.lt b hb).1))
         have hoa := Houf.out.alloc (.cells #[.int .i64 (q : Int)] 3)
         have Hou7 := Lib.hid (own_keep hoa (fun b hb => hgrow7.block b (hoa.lt b hb).2 (fun e => hdj b e.symm hb)))
         have Hpx7 := Lib.hid (show w7.ownsRow B6.heap.size 3 1 (.slice A7 (j + 1) c7) (j + 1) (ints (fromN n0 (j + 1))) by rw [fromN_succ, ints_app, ← hq.out]; exact hown7)
         have hdj7 : ∀ b, (Value.slice A7 (j + 1) c7).ownBlock = some b → (Value.slice ao ol co).ownBlock ≠ some b := fun b hb => by
          rcases hblk7 with e | e
          ·rw [e] at hb; exact hdj b hb
          ·rw [e] at hb
           injection hb with hb
           intro h2
           have := (Houf.out.lt b h2).2
           simp at hb
           omega
         clear hown7 hgrow7 hblk7 hpxa hoa hdpx hdj q0 q1 q2 hi hz0 hz1 hz2
         obtain ⟨q0, q1, q2⟩ := blkS3 Hgx7.out
         have f7 := Hgx7.out.frozen 2
         obtain ⟨wg, hwg⟩ : ∃ wg, wg = w7.setCell ⟨gx, 2, none⟩ (.slice A7 (j + 1) c7) := ⟨_, rfl⟩
         have HLg := Lib.hid (show LmS w wg B g lo (.slice (some adD) nd cd) (.slice A9 (q + 1) c9) v1 (.slice A2 n2 c2) (.slice none 0 0) (sg2 ++ [(2, wv, 0)], ag2, ins, []) R (.slice aa na ca) avL (.slice ar nR cr) nI nR by rw [hwg]; exact HL7.out.put Hgx7.out.of (by omega) (by decide) (fun _ b hb => by have := hu2 b hb; omega) _ _)
         have hog : Only (fun b => b = gx) w7 wg := by rw [hwg]; exact (Only.refl (fun b => b = gx) w7).setCell (p := ⟨gx, 2, none⟩) (.inl rfl) _
         have Hgxg := Lib.hid (show Blk wg gx 75 #[.int .i64 (qn : Int), .int .i64 pr, .slice A7 (j + 1) c7] by rw [hwg]; exact Hgx7.out.set_ 2 _)
         have Hong := Lib.hid (show Only (CcI g lo (.slice a0 n0 c0) gx go) B6 wg by rw [hwg]; exact Hon7.out.setCell (p := ⟨gx, 2, none⟩) (.inl (.inr (.inr (.inr (.inl rfl))))) _)
         have Houg := Lib.hid (own_keep Hou7.out (fun b hb => hog.block b (Hou7.out.lt b hb).2 (fun e => by have := (Hou7.out.lt b hb).1; omega)))
         have Hpxg := Lib.hid (own_keep Hpx7.out (fun b hb => hog.block b (Hpx7.out.lt b hb).2 (fun e => by have := (Hpx7.out.lt b hb).1; omega)))
         clear hog HL7 Hgx7 Hon7 Hou7 Hpx7 HLf Honf Hgxf Hpxf Houf HLe Hgxe Hpxe Houe
         refine stopped ?_
         go_upto_region 34 with fail
         rw [← hwg]
         clear hwg q0 q1 q2 f7
         -- the port's kind
         have hep2 := (Hong.out.cell (p := adP.add j) (by rw [block_of_add]; exact ltP) (by rw [block_of_add]; exact hnP)).trans ((Hone.out.cell (p := adP.add j) (by rw [block_of_add]; exact ltP) (by rw [block_of_add]; exact hnP)).symm.trans hepe)
         have hes2 := (Hong.out.cell (p := adS.add (ci * 3)) (by rw [block_of_add]; exact ltS) (by rw [block_of_add]; exact hnS)).trans ((Hone.out.cell (p := adS.add (ci * 3)) (by rw [block_of_add]; exact ltS) (by rw [block_of_add]; exact hnS)).symm.trans hes0)
         have Hgcg := Hong.out.blk Hgc6.out (by
          rintro (h | h | h | h | h)
          ·omega
          ·omega
          ·have := (ha0 _ h).2; omega
          ·omega
          ·omega)
         obtain ⟨y0, y1, y2, y3⟩ := blkS4 Hgcg
         have HgP := Lib.hid (Hgdj.out.push (x := (2, wv, 0)) (sig_k (.inr rfl) hwv) (P' := fun s => ((nI ≤ s ∧ s < nI + nR) ∨ ∃ i, i < j ∧ s = n0 + i ∧ outP ch.1 ps i) ∨ s = q) (fun s => by
          constructor
          ·rintro (h | h)
           ·exact .inl h
           ·exact .inr ⟨by show s = sg2.length; omega, by show (2 : Int) ≠ 0; decide⟩
          ·rintro (h | ⟨h, _⟩)
           ·exact .inl h
           ·have h : s = sg2.length := h
            exact .inr (by omega)))
         have hk3 : ∀ i, i < j + 1 → kindAt (sg2 ++ [((2 : Int), wv, (0 : Int))]) ((n0 + i : Nat) : Int) = 2 := fun i hi => by
          have h1 := hq.out
          by_cases hij : i < j
          ·rw [kindAt_old (by omega) (by omega)]; exact hk2 i hij
          ·have e : n0 + i = sg2.length := by omega
           rw [e]; exact kindAt_new
         have hob3 : ∀ x ∈ ouL, 0 ≤ x ∧ x < ((sg2 ++ [((2 : Int), wv, (0 : Int))]).length : Int) := fun x hx => by have := hob x hx; simp; omega
         have hcp3 : (sg2 ++ [((2 : Int), wv, (0 : Int))]).countP isPort ≤ 2 := by rw [cnt_snoc, if_neg (by show ¬ ((2 : Int) = 0 ∨ (2 : Int) = 1); decide)]; exact hpc2
         have hsl3 : (sg2 ++ [((2 : Int), wv, (0 : Int))]).length = q + 1 := by simp [hsl2]
         clear hepe hes0 Hone Hgdj hk2 hob hpc2
         by_cases hs1' : s0 = 1
         ·-- <C>
          subst hs1'
          have HoPy := Lib.hid (HoP.out.2 rfl)
          go_wp2_with fail
          refine wp_region_lex (by kernel_rfl) (by kernel_rfl) (Cls (fun x => x = wg.drew)) (Cls.mk' rfl) ?_
          have lexNE : Nonempty (Wd (fun x => x = wg.drew)) := ⟨⟨_, rfl⟩⟩
          have lexW : ∀ W : Wd (fun x => x = wg.drew), W.val = wg.drew := fun W => W.ok
          (repeat (first | (refine lex_r fun K hK => ?_; go_big_quiet_op; refine hK _ ?_; clear hK K) | (refine lex_k fun K hK => ?_; go_simp; refine hK _ ?_; clear hK K)))
          (refine lex_nil ?_)
          clear lexNE lexW
          obtain ⟨wh, hwh⟩ : ∃ wh, wh = wg.drew := ⟨_, rfl⟩
          have HLh := Lib.hid (show LmS w wh B g lo (.slice (some adD) nd cd) (.slice A9 (q + 1) c9) v1 (.slice A2 n2 c2) (.slice none 0 0) (sg2 ++ [(2, wv, 0)], ag2, ins, []) R (.slice aa na ca) avL (.slice ar nR cr) nI nR by rw [hwh]; exact HLg.out.drew)
          have Honh := Lib.hid (show Only (CcI g lo (.slice a0 n0 c0) gx go) B6 wh by rw [hwh]; exact Hong.out.drew)
          have Hgxh := Lib.hid (show Blk wh gx 75 #[.int .i64 (qn : Int), .int .i64 pr, .slice A7 (j + 1) c7] by rw [hwh]; exact Hgxg.out)
          have Hpxh := Lib.hid (show wh.ownsRow B6.heap.size 3 1 (.slice A7 (j + 1) c7) (j + 1) (ints (fromN n0 (j + 1))) by rw [hwh]; exact Hpxg.out)
          have Houh := Lib.hid (show wh.ownsRow go 3 1 (.slice ao ol co) ol (ints ouL) by rw [hwh]; exact Houg.out)
          have zwh := Honh.out.size
          rw [← hwh]
          clear hwh hep2 hes2 Hgcg y0 y1 y2 y3 HLg Hong Hgxg Hpxg Houg
          obtain ⟨i0, hi, hz0, hz1, hz2⟩ := info_parts Tryd.infoIntC
          go_wp2_with (at_builtin; refine wpList_append_any _ rfl _ _ 73 rfl (go) 3 i0 (.int .i64 0) 1 8 Tryd.underlying73 hi hz0 hz1 hz2 rfl (by decide) _ _ _ rfl (Houh.out.alloc _) _ _ 1 1 _ rfl (reads_new _ _ 1 1 rfl) (by intro u hu; simp at hu; first | (subst hu; rfl) | (rcases hu with rfl | rfl <;> rfl) | (rcases hu with rfl | rfl | rfl <;> rfl)) (by unfold maxLen; omega) (by omega) (by (try simp) <;> (try omega)) ?_; intro v6 w6 hown6 hgrow6 hblk6; refine stopX ?_)
          obtain ⟨A6, c6, rfl, _, _, _⟩ := own_form hown6
          have hoa := Houh.out.alloc (.cells #[.int .i64 (q : Int)] 3)
          have HL6' := Lib.hid ((HLh.out.alloc _).introw hoa (by omega) hgrow6 (fun b hb => by
           have h1 := (Houh.out.lt b hb).1
           exact ⟨fun h => by have := hR5.out b (.inl h); omega, fun h => by have := hR5.out b (.inr (.inl h)); omega, fun h => by have := hR5.out b (.inr (.inr h)); omega⟩))
          have Hgx6' := Lib.hid (blk_row2 (Hgxh.out.alloc _) hoa (by decide) hgrow6)
          have Hon6 := Lib.hid (Only.grown2 (Honh.out.alloc _) hgrow6 (fun b hb => by
           have h1 := (Houh.out.lt b hb).1
           by_cases e : b = go
           ·exact .inl (.inr (.inr (.inr (.inr e))))
           ·exact .inr (by have := HzB6.out; omega)))
          have hpa := Hpxh.out.alloc (.cells #[.int .i64 (q : Int)] 3)
          have Hpx6 := Lib.hid (own_keep hpa (fun b hb => hgrow6.block b (hpa.lt b hb).2 (fun e => hdj7 b hb e.symm)))
          have hdj6 : ∀ b, (Value.slice A7 (j + 1) c7).ownBlock = some b → (Value.slice A6 (ol + 1) c6).ownBlock ≠ some b := fun b hb => by
           rcases hblk6 with e | e
           ·rw [e]; exact hdj7 b hb
           ·rw [e]
            intro h2
            injection h2 with h2
            have := (Hpxh.out.lt b hb).2
            simp at h2
            omega
          have Hou6' := Lib.hid (show w6.ownsRow go 3 1 (.slice A6 (ol + 1) c6) (ouL ++ [(q : Int)]).length (ints (ouL ++ [(q : Int)])) by rw [List.length_append, Hol.out, ints_app]; exact hown6)
          clear hown6 hgrow6 hblk6 hoa hpa hi hz0 hz1 hz2
          refine stopped ?_
          go_wp2_with fail
          go_roundw
          case rel => exact ⟨j + 1, q + 1, _, v1, sg2 ++ [(2, wv, 0)], ag2, _, ouL ++ [(q : Int)], by omega, Lib.hid (by rw [hq.out]; rfl), by go_num, HL6'.out, Hgx6'.out, Hpx6.out, Hou6'.out, hdj6, hv9, Hon6.out, HgP.out.same (fun s => by
           have h1 := hq.out
           constructor
           ·rintro ((h | ⟨i, hi, hs, ho⟩) | h)
            ·exact .inl h
            ·exact .inr ⟨i, by omega, hs, ho⟩
            ·exact .inr ⟨j, by omega, by omega, HoPy.out⟩
           ·rintro (h | ⟨i, hi, hs, ho⟩)
            ·exact .inl (.inl h)
            ·by_cases hij : i < j
             ·exact .inl (.inr ⟨i, hij, hs, ho⟩)
             ·exact .inr (by omega)), ⟨hsl3, by omega, hcp3, hk3, by rw [List.length_append, Hol.out, List.length_singleton]; omega, fun x hx => by
           rcases List.mem_append.1 hx with hx | hx
           ·exact hob3 x hx
           ·rw [List.mem_singleton.1 hx, hsl3]; omega⟩⟩
          case measure => simp [intOf]; omega
          -- </C>
         ·-- <D>
          have hs2' : (s0 == 1) = false := by simpa using hs1'
          have HoPn := Lib.hid (fun h => hs1' (HoP.out.1 h))
          clear hs1'
          go_wp2_with fail
          refine wp_region_lex (by kernel_rfl) (by kernel_rfl) (Cls (fun x => x = wg.drew)) (Cls.mk' rfl) ?_
          have lexNE : Nonempty (Wd (fun x => x = wg.drew)) := ⟨⟨_, rfl⟩⟩
          have lexW : ∀ W : Wd (fun x => x = wg.drew), W.val = wg.drew := fun W => W.ok
          (repeat (first | (refine lex_r fun K hK => ?_; go_big_quiet_op; refine hK _ ?_; clear hK K) | (refine lex_k fun K hK => ?_; go_simp; refine hK _ ?_; clear hK K)))
          (refine lex_nil ?_)
          clear lexNE lexW
          obtain ⟨wh, hwh⟩ : ∃ wh, wh = wg.drew := ⟨_, rfl⟩
          have HLh := Lib.hid (show LmS w wh B g lo (.slice (some adD) nd cd) (.slice A9 (q + 1) c9) v1 (.slice A2 n2 c2) (.slice none 0 0) (sg2 ++ [(2, wv, 0)], ag2, ins, []) R (.slice aa na ca) avL (.slice ar nR cr) nI nR by rw [hwh]; exact HLg.out.drew)
          have Honh := Lib.hid (show Only (CcI g lo (.slice a0 n0 c0) gx go) B6 wh by rw [hwh]; exact Hong.out.drew)
          have Hgxh := Lib.hid (show Blk wh gx 75 #[.int .i64 (qn : Int), .int .i64 pr, .slice A7 (j + 1) c7] by rw [hwh]; exact Hgxg.out)
          have Hpxh := Lib.hid (show wh.ownsRow B6.heap.size 3 1 (.slice A7 (j + 1) c7) (j + 1) (ints (fromN n0 (j + 1))) by rw [hwh]; exact Hpxg.out)
          have Houh := Lib.hid (show wh.ownsRow go 3 1 (.slice ao ol co) ol (ints ouL) by rw [hwh]; exact Houg.out)
          have zwh := Honh.out.size
          rw [← hwh]
          clear hwh hep2 hes2 Hgcg y0 y1 y2 y3 HLg Hong Hgxg Hpxg Houg
          obtain ⟨Ra, xa, hra⟩ := HLh.out.fl.s1
          obtain ⟨n1, hn1⟩ : ∃ n, ag2.length = n := ⟨_, rfl⟩
          have hrao := hra.own
          rw [List.length_map, hn1] at hrao
          obtain ⟨A1, c1, rfl, _, _, _⟩ := own_form hrao
          obtain ⟨y0, y1, y2, y3⟩ := blkS4 HLh.out.mod
          have havr := HLh.out.avr
          rw [Hna.out] at havr
          have zlh : lo + 2 < wh.heap.size := HLh.out.mod.lt
          go_wp2_with fail
          refine (s_l04Assign (N := ((sg2 ++ [((2 : Int), wv, (0 : Int))]).length : Int)) (q : Int) HLh.out.cur hgl (by omega) hra (by omega) (by omega) havr (fun x hx => by have := hab x hx; rw [hsl3]; rw [Hn0.out] at this; have := hq.out; omega)).mono ?_
          rintro e w6 ⟨v1', os, Rb, xb, rfl, hrb, hops, hcb, hgb⟩
          obtain ⟨A1', c1', rfl⟩ : ∃ A c, v1' = .slice A (n1 + 1) c := by
           obtain ⟨A, c, h, _⟩ := own_form hrb.own
           exact ⟨A, c, by rw [h, List.length_map, List.length_append, hn1]; rfl⟩
          have HL6' := Lib.hid (HLh.out.call hgb hcb)
          have Hrb := Lib.hid hrb
          have Hops := Lib.hid hops
          have Hgx6' := Lib.hid (Hgxh.out.grown hgb (fun e => by injection e with e; omega))
          have Hpx6 := Lib.hid (own_keep Hpxh.out (fun b hb => hgb.block b (Hpxh.out.lt b hb).2 (fun e => by injection e with e; have := (Hpxh.out.lt b hb).1; omega)))
          have Hou6' := Lib.hid (own_keep Houh.out (fun b hb => hgb.block b (Houh.out.lt b hb).2 (fun e => by injection e with e; have := (Houh.out.lt b hb).1; omega)))
          have Hon6 := Lib.hid (Only.grown2 Honh.out hgb (fun b hb => .inl (.inl (by injection hb with hb; exact hb.symm))))
          clear hra hrao havr hrb hops hcb hgb y0 y1 y2 y3
          obtain ⟨y0, y1, y2, y3⟩ := blkS4 HL6'.out.mod
          have f0 := HL6'.out.mod.frozen 0
          have f1 := HL6'.out.mod.frozen 1
          have f2 := HL6'.out.mod.frozen 2
          have f3 := HL6'.out.mod.frozen 3
          go_wp2_with fail
          obtain ⟨wz, hwz⟩ : ∃ wz, wz = ((((w6.setCell ⟨lo + 2, 0, none⟩ (.slice A9 (q + 1) c9)).setCell ⟨lo + 2, 1, none⟩ (.slice A1' (n1 + 1) c1')).setCell ⟨lo + 2, 2, none⟩ (.slice A2 n2 c2)).setCell ⟨lo + 2, 3, none⟩ (.slice none 0 0)) := ⟨_, rfl⟩
          rw [← hwz]
          have HLz := Lib.hid (show LmS w wz B g lo (.slice (some adD) nd cd) (.slice A9 (q + 1) c9) (.slice A1' (n1 + 1) c1') (.slice A2 n2 c2) (.slice none 0 0) (sg2 ++ [(2, wv, 0)], ag2 ++ [((q : Int), os)], ins, []) R (.slice aa na ca) avL (.slice ar nR cr) nI nR by rw [hwz]; exact HL6'.out.assigned Hrb.out)
          have hoz : Only (fun b => b = lo + 2) w6 wz := by rw [hwz]; exact mod_four4 HL6'.out.mod _ _ _ _
          have Hgxz := Lib.hid (hoz.blk Hgx6'.out (by omega))
          have Hpxz := Lib.hid (own_keep Hpx6.out (fun b hb => hoz.block b (Hpx6.out.lt b hb).2 (fun e => by have := (Hpx6.out.lt b hb).1; omega)))
          have Houz := Lib.hid (own_keep Hou6'.out (fun b hb => hoz.block b (Hou6'.out.lt b hb).2 (fun e => by have := (Hou6'.out.lt b hb).1; omega)))
          have Honz := Lib.hid (Hon6.out.trans (hoz.more (fun b hb => (.inr (.inl hb) : CcI g lo (.slice a0 n0 c0) gx go b))))
          clear hwz hoz y0 y1 y2 y3 f0 f1 f2 f3
          go_roundw
          case rel => exact ⟨j + 1, q + 1, _, _, sg2 ++ [(2, wv, 0)], ag2 ++ [((q : Int), os)], _, ouL, by omega, Lib.hid (by rw [hq.out]; rfl), by go_num, HLz.out, Hgxz.out, Hpxz.out, by rw [Hol.out]; exact Houz.out, hdj7, hv9, Honz.out, HgP.out.assign (s := q) (.inr rfl) Hops.out (fun s => by
           have h1 := hq.out
           constructor
           ·rintro (h | ⟨i, hi, hs, ho⟩)
            ·exact ⟨.inl (.inl h), by omega⟩
            ·by_cases hij : i < j
             ·exact ⟨.inl (.inr ⟨i, hij, hs, ho⟩), by omega⟩
             ·obtain rfl : i = j := by omega
              exact absurd ho HoPn.out
           ·rintro ⟨((h | ⟨i, hi, hs, ho⟩) | h), hne⟩
            ·exact .inl h
            ·exact .inr ⟨i, by omega, hs, ho⟩
            ·exact absurd h hne), ⟨hsl3, by rw [List.length_append]; simp; omega, hcp3, hk3, by rw [Hol.out]; omega, hob3⟩⟩
          case measure => simp [intOf]; omega
          -- </D>
        ·have hjn : np = j := by omega
         obtain rfl := hjn
         have g8 : (np : Int) ≤ (np : Int) := Int.le_refl _
         have HgI := Hgdj.out.inst (q := qn) (pr := pr) (b := n0) (P' := fun s => nI ≤ s ∧ s < nI + nR) (by rw [Hnd.out]; exact hqn) hprb (by rw [Hmd.out, ← Hps.out, Hnp.out]; show n0 + np ≤ sg2.length; rw [hsl2]; have := hq.out; omega) (fun i hi => by rw [Hmd.out, ← Hps.out, Hnp.out] at hi; exact hk2 i hi) (fun i ho => by
          rw [Hmd.out, ← Hps.out] at ho
          have hi : i < np := by obtain ⟨p, hp, _⟩ := ho; have h1 := (List.getElem?_eq_some_iff.1 hp).1; rw [Hnp.out] at h1; exact h1
          exact .inr ⟨i, hi, rfl, ho⟩) (fun s => by
          rw [Hmd.out, ← Hps.out]
          constructor
          ·intro h
           exact ⟨.inl h, fun ⟨i, hi, _⟩ => by omega⟩
          ·rintro ⟨h | ⟨i, hi, hs, ho⟩, hn⟩
           ·exact h
           ·exact absurd ⟨i, hs, ho⟩ hn)
         rw [Hmd.out, ← Hps.out, Hnp.out] at HgI
         have HgI2 := Lib.hid HgI
         obtain ⟨xi, hini⟩ := HL.out.ins
         have hn2 : ins.length = n2 := by
          obtain ⟨A, c, h, _⟩ := own_form hini.own
          injection h with _ h
          rw [List.length_map] at h
          exact h.symm
         have hino := hini.own
         rw [List.length_map, hn2] at hino
         have Hino := Lib.hid hino
         have Hini := Lib.hid hini
         have Hn2 := Lib.hid hn2
         have hn2k : n2 ≤ 2 := by rw [← hn2]; omega
         obtain ⟨y0, y1, y2, y3⟩ := blkS4 HL.out.mod
         obtain ⟨q0, q1, q2⟩ := blkS3 Hgxj.out
         obtain ⟨i0, hi, hz0, hz1, hz2⟩ := info_parts Tryd.infInstC
         have zwd : lo + 2 < wd.heap.size := HL.out.mod.lt
         clear HgI hini hino hn2 hk2
         go_wp2_with (at_builtin; refine wpList_append_any _ rfl _ _ 47 rfl (lo) 75 i0 (.agg #[.int .i64 0, .int .i64 0, .slice none 0 0]) 3 40 Tryd.underlying47 hi hz0 hz1 hz2 rfl (by decide) _ _ _ rfl (Hino.out.alloc _) _ _ 1 1 _ rfl (reads_new _ _ 1 3 rfl) (by intro u hu; simp at hu; first | (subst hu; rfl) | (rcases hu with rfl | rfl <;> rfl) | (rcases hu with rfl | rfl | rfl <;> rfl)) (by unfold maxLen; omega) (by omega) (by (try simp) <;> (try omega)) ?_; intro v9 w9 hown9 hgrow9 hblk9; refine stopX ?_)
         obtain ⟨A9, c9, rfl, _, _, _⟩ := own_form hown9
         obtain ⟨wf, hwf⟩ : ∃ wf, wf = w9.setCell ⟨lo + 2, 2, none⟩ (.slice A9 (n2 + 1) c9) := ⟨_, rfl⟩
         have hpxa := own_mono (Hpx.out.alloc (.cells #[.int .i64 (qn : Int), .int .i64 pr, .slice ax np cx] 75)) (show lo ≤ B6.heap.size by omega)
         have hA : ∀ b, (Value.slice ax np cx).ownBlock = some b → ¬ R b ∧ (Value.slice aa na ca).ownBlock ≠ some b ∧ (Value.slice ar nR cr).ownBlock ≠ some b := fun b hb => by
          have h1 := (Hpx.out.lt b hb).1
          exact ⟨fun h => by have := hR5.out b (.inl h); omega, fun h => by have := hR5.out b (.inr (.inl h)); omega, fun h => by have := hR5.out b (.inr (.inr h)); omega⟩
         have HLf := Lib.hid (show LmS w wf B g lo (.slice (some adD) nd cd) (.slice b0 q e0') v1 (.slice A9 (n2 + 1) c9) (.slice none 0 0) (sg2, ag2, ins ++ [((qn : Int), pr, fromN n0 np)], []) (fun k => R k ∨ (Value.slice ax np cx).ownBlock = some k) (.slice aa na ca) avL (.slice ar nR cr) nI nR by
          rw [hwf]
          exact (HL.out.alloc _).pushInst (Hini.out.only ((Only.refl (fun _ => False) wd).alloc _) (NoT.none _ _ _)) hpxa (by unfold maxLen; omega) hA (by rw [Hn2.out]; exact hown9) hgrow9)
         have hmod9 := blk_row2 ((HL.out.alloc (.cells #[.int .i64 (qn : Int), .int .i64 pr, .slice ax np cx] 75)).mod) (Hino.out.alloc _) (by decide) hgrow9
         have hof9 : Only (fun b => b = lo + 2) w9 wf := by rw [hwf]; exact (Only.refl (fun b => b = lo + 2) w9).setCell (p := ⟨lo + 2, 2, none⟩) (.inl rfl) _
         have hou9 := row_kept (Hou.out.alloc _) (Hino.out.alloc (.cells #[.int .i64 (qn : Int), .int .i64 pr, .slice ax np cx] 75)) (by decide) hgrow9
         have Houf := Lib.hid (own_keep hou9 (fun b hb => hof9.block b (hou9.lt b hb).2 (fun e => by have := (hou9.lt b hb).1; omega)))
         obtain ⟨y0', y1', y2', y3'⟩ := blkS4 hmod9
         have f9 := hmod9.frozen 2
         clear hown9 hgrow9 hblk9 hmod9 hof9 hou9 hpxa hA y0 y1 y2 y3 q0 q1 q2 hi hz0 hz1 hz2
         refine stopped ?_
         go_upto_region 38 with fail
         rw [← hwf]
         clear hwf y0' y1' y2' y3' f9
         have hav := HLf.out.avr
         rw [Hna.out] at hav
         have Hav := Lib.hid hav
         have HRo := Lib.hid (Reads.of_own Houf.out)
         have zwf : lo + 2 < wf.heap.size := HLf.out.mod.lt
         obtain ⟨i0, hi, hz0, hz1, hz2⟩ := info_parts Tryd.infoIntC
         clear hav
         go_wp2_with (at_builtin; refine wpList_append_any _ rfl _ _ 73 rfl (lo) 3 i0 (.int .i64 0) 1 8 Tryd.underlying73 hi hz0 hz1 hz2 rfl (by decide) _ _ _ rfl Hav.out _ _ ol co (ints ouL) rfl HRo.out (ints_one _) (by unfold maxLen; omega) (by omega) (by omega) ?_; intro v7 w7 hown7 hgrow7 hblk7; refine stopX ?_)
         have HLz := Lib.hid (HLf.out.pushAv (L := ouL) (by rw [List.length_append, Hna.out, Hol.out, show ints (avL ++ ouL) = ints avL ++ ints ouL by simp [ints]]; exact hown7) hgrow7 hblk7)
         clear hown7 hgrow7 hblk7 hi hz0 hz1 hz2
         refine stopped ?_
         go_wp2_with fail
         go_roundw
         case rel => exact ⟨k + 1, _, v1, _, sg2, ag2, ins ++ [((qn : Int), pr, fromN n0 np)], _, avL ++ ouL, by omega, by omega, by go_num, HLz.out, HgI2.out, by rw [hsl2]; have := hq.out; omega, by rw [hsl2]; have := hq.out; omega, by omega, by rw [List.length_append]; simp; omega, hpc2, by rw [List.length_append, Hna.out, Hol.out]; omega, fun x hx => by
          rcases List.mem_append.1 hx with hx | hx
          ·have h1 := hab x hx
           rw [hsl2]
           rw [Hn0.out] at h1
           have := hq.out
           omega
          ·exact hob x hx⟩
         case measure => simp [intOf]; omega
       -- </E>
      ·go_upto_region 18 with fail
       go_cut [89] from 81 to 88 (fun v wx => v = .bool false ∧ wx = wc)
       case first =>
        by_cases hl1 : k < nd
        ·have g2 : (k : Int) < (nd : Int) := by omega
         have hk2 : k = 2 := by omega
         subst hk2
         go_wp2_with fail
         go_meet
         case rel => exact ⟨rfl, rfl⟩
        ·have g2 : (nd : Int) ≤ (k : Int) := by omega
         go_wp2_with fail
         go_meet
         case rel => exact ⟨rfl, rfl⟩
       case rest =>
       obtain ⟨rfl, hwx⟩ := hcut
       obtain rfl := hwx.symm
       clear yd hlt
       have hsl12 : n0 ≤ 12 := by omega
       have hal12 : na ≤ 12 := by omega
       have hag8 : ag.length ≤ 8 := by omega
       have hil2 : ins.length ≤ 2 := by omega
       clear hsl hal hagl hil g1
       go_wp2_with fail
       refine (s_Once 4 HL.out.cur).mono ?_
       rintro e w2 ⟨o, rfl, hc2, hg2⟩
       have HLm := Lib.hid (HL.out.call hg2 hc2)
       clear hc2 hg2 HL
       go_upto_if 181 with fail
       go_cut [6, 19, 20, 21] from 182 to 227 (fun avv _ _ _ wx => ∃ (u0 u1 u3 : Value) (sg : List TSignal) (ag : List TAssign) (mm : List TMem) (avL : List Int), LmS w wx B g lo (.slice Ad nd cd) u0 u1 (.slice A2 n2 c2) u3 (sg, ag, ins, mm) R avv avL (.slice ar nR cr) nI nR ∧ GdM d (sg, ag, ins, mm) (fun s => nI ≤ s ∧ s < nI + nR) ∧ (nI + nR ≤ sg.length ∧ sg.length ≤ 16 ∧ ag.length ≤ 11 ∧ mm.length ≤ 1 ∧ sg.countP isPort ≤ 2 ∧ avL.length ≤ 13 ∧ ∀ x ∈ avL, 0 ≤ x ∧ x < (sg.length : Int)))
       case first =>
        -- <F>
        cases o
        ·go_wp2_with fail
         go_meet
         case rel => exact ⟨_, u1, _, sg, ag, [], avL, HLm.out, Hgd.out, by rw [Hn0.out]; exact hmin, by rw [Hn0.out]; omega, by omega, by simp, hpc, by rw [Hna.out]; omega, hab⟩
        ·have HS3 := HLm.out.fl.s0
         rw [Hn0.out] at HS3
         obtain ⟨y0, y1, y2, y3⟩ := blkS4 HLm.out.mod
         go_wp2_with fail
         refine (s_Below 2 HLm.out.cur).mono ?_
         rintro e w3 ⟨kk, rfl, hk3, hc3, hg3⟩
         obtain ⟨hk0, hk1⟩ := hk3.1 (by omega)
         have HL3 := Lib.hid (HLm.out.call hg3 hc3)
         clear hk3 hc3 hg3 y0 y1 y2 y3 HS3
         go_upto_region 42 with fail
         obtain ⟨wv, hwv⟩ : ∃ wv : Int, wv = 1 + kk := ⟨_, rfl⟩
         rw [← hwv]
         have hwvb : 0 ≤ wv ∧ wv ≤ 4 := by omega
         clear hwv hk0 hk1
         -- four signals
         obtain ⟨L4, hL4⟩ : ∃ L : List TSignal, L = [(2, 2, 0), (2, wv, 0), (2, 1, 0), (2, wv, 0)] := ⟨_, rfl⟩
         have hs0 := HL3.out.fl.s0
         rw [Hn0.out] at hs0
         have Hs0 := Lib.hid hs0
         obtain ⟨y0, y1, y2, y3⟩ := blkS4 HL3.out.mod
         obtain ⟨i0, hi, hz0, hz1, hz2⟩ := info_parts Tryd.infSignalC
         have zw3 : lo + 2 < w3.heap.size := HL3.out.mod.lt
         have HL4e := Lib.hid hL4
         clear hs0 hL4
         go_wp2_with (at_builtin; refine wpList_append_any _ rfl _ _ 45 rfl (lo) 66 i0 (.agg #[.int .i64 0, .int .i64 0, .int .i64 0]) 3 24 Tryd.underlying45 hi hz0 hz1 hz2 rfl (by decide) _ _ _ rfl (Hs0.out.alloc _) _ _ 4 4 _ rfl (reads_new _ _ 4 3 rfl) (fun u hu => ints_one [2, 2, 0, 2, wv, 0, 2, 1, 0, 2, wv, 0] u hu) (by unfold maxLen; omega) (by first | omega | (simp; omega)) (by first | omega | (simp; omega)) ?_; intro v9 w9 hown9 hgrow9 hblk9; refine stopX ?_)
         obtain ⟨A9, c9, rfl, _, _, _⟩ := own_form hown9
         obtain ⟨wf, hwf⟩ : ∃ wf, wf = w9.setCell ⟨lo + 2, 0, none⟩ (.slice A9 (n0 + 4) c9) := ⟨_, rfl⟩
         have HLf := Lib.hid (show LmS w wf B g lo (.slice Ad nd cd) (.slice A9 (n0 + 4) c9) u1 (.slice A2 n2 c2) (.slice none 0 0) (sg ++ L4, ag, ins, []) R (.slice aa na ca) avL (.slice ar nR cr) nI nR by
          rw [hwf]
          exact (HL3.out.alloc _).pushSigL (L := L4) (by rw [List.length_append, Hn0.out, HL4e.out, recs_app]; exact hown9) hgrow9)
         have hmod9 := blk_row2 ((HL3.out.alloc _).mod) ((HL3.out.alloc _).fl.s0) (by decide) hgrow9
         obtain ⟨y0', y1', y2', y3'⟩ := blkS4 hmod9
         have f9 := hmod9.frozen 0
         clear hown9 hgrow9 hblk9 hmod9 y0 y1 y2 y3 hi hz0 hz1 hz2 Hs0
         refine stopped ?_
         go_upto_region 43 with fail
         rw [← hwf]
         clear hwf y0' y1' y2' y3' f9
         have HgW := Hgd.out.wires L4 (by rw [HL4e.out]; intro x hx; simp only [List.mem_cons, List.not_mem_nil, or_false] at hx; rcases hx with rfl | rfl | rfl | rfl <;> first | exact ⟨rfl, sig_k (.inr rfl) hwvb⟩ | exact ⟨rfl, by decide⟩)
         have hL4l : L4.length = 4 := by rw [HL4e.out]; rfl
         have hk4 : kindAt (sg ++ L4) ((n0 + 3 : Nat) : Int) = 2 := by
          have h1 := Hn0.out
          unfold kindAt
          rw [List.getD_eq_getElem?_getD, Int.toNat_natCast, List.getElem?_append_right (by omega), show n0 + 3 - sg.length = 3 by omega, HL4e.out]
          rfl
         have hn0' := Hn0.out
         have HgM := Lib.hid (HgW.memory (a := n0) (b := n0 + 1) (c := n0 + 2) (e := n0 + 3) (by show _ < (sg ++ L4).length ∧ _ < (sg ++ L4).length ∧ _ < (sg ++ L4).length; rw [List.length_append, hL4l]; omega) (.inr (by show sg.length ≤ n0 + 3 ∧ n0 + 3 < sg.length + L4.length; omega)) hk4 (P' := fun s => (nI ≤ s ∧ s < nI + nR) ∨ (n0 + 0 ≤ s ∧ s < n0 + 3)) (fun s => by
          show _ ↔ ((nI ≤ s ∧ s < nI + nR) ∨ (sg.length ≤ s ∧ s < sg.length + L4.length)) ∧ s ≠ n0 + 3
          rw [hL4l]
          omega))
         have hc4 : (sg ++ L4).countP isPort ≤ 2 := by
          rw [List.countP_append, HL4e.out]
          show sg.countP isPort + 0 ≤ 2
          omega
         have hs4 : (sg ++ L4).length = n0 + 4 := by rw [List.length_append, hL4l, hn0']
         have hab4 : ∀ x ∈ avL ++ [((n0 + 3 : Nat) : Int)], 0 ≤ x ∧ x < ((sg ++ L4).length : Int) := fun x hx => by
          rw [hs4]
          rcases List.mem_append.1 hx with hx | hx
          ·have := hab x hx; omega
          ·rw [List.mem_singleton.1 hx]; omega
         clear HgW hL4l hk4 hn0'
         -- the memory
         have hs3 := HLf.out.fl.s3
         have Hs3 := Lib.hid (show wf.ownsRow lo 77 4 (.slice none 0 0) 0 [] from hs3)
         obtain ⟨y0, y1, y2, y3⟩ := blkS4 HLf.out.mod
         obtain ⟨i0, hi, hz0, hz1, hz2⟩ := info_parts Tryd.infMemC
         have zwf : lo + 2 < wf.heap.size := HLf.out.mod.lt
         clear hs3
         go_wp2_with (at_builtin; refine wpList_append_any _ rfl _ _ 48 rfl (lo) 77 i0 (.agg #[.int .i64 0, .int .i64 0, .int .i64 0, .int .i64 0]) 4 32 Tryd.underlying48 hi hz0 hz1 hz2 rfl (by decide) _ _ _ rfl (Hs3.out.alloc _) _ _ 1 1 _ rfl (reads_new _ _ 1 4 rfl) (by intro u hu; simp at hu; first | (subst hu; rfl) | (rcases hu with rfl | rfl <;> rfl) | (rcases hu with rfl | rfl | rfl <;> rfl) | (rcases hu with rfl | rfl | rfl | rfl <;> rfl)) (by unfold maxLen; omega) (by omega) (by (try simp) <;> (try omega)) ?_; intro v8 w8 hown8 hgrow8 hblk8; refine stopX ?_)
         obtain ⟨A8, c8, rfl, _, _, _⟩ := own_form hown8
         obtain ⟨wg, hwg⟩ : ∃ wg, wg = w8.setCell ⟨lo + 2, 3, none⟩ (.slice A8 1 c8) := ⟨_, rfl⟩
         have HLg := Lib.hid (show LmS w wg B g lo (.slice Ad nd cd) (.slice A9 (n0 + 4) c9) u1 (.slice A2 n2 c2) (.slice A8 1 c8) (sg ++ L4, ag, ins, [(((n0 : Nat) : Int), ((n0 + 1 : Nat) : Int), ((n0 + 2 : Nat) : Int), ((n0 + 3 : Nat) : Int))]) R (.slice aa na ca) avL (.slice ar nR cr) nI nR by
          rw [hwg]
          exact (HLf.out.alloc _).pushMem (x := (((n0 : Nat) : Int), ((n0 + 1 : Nat) : Int), ((n0 + 2 : Nat) : Int), ((n0 + 3 : Nat) : Int))) hown8 hgrow8)
         have hmod8 := blk_row2 ((HLf.out.alloc (.cells #[.int .i64 (n0 : Int), .int .i64 ((n0 : Int) + 1), .int .i64 ((n0 : Int) + 2), .int .i64 ((n0 : Int) + 3)] 77)).mod) (Hs3.out.alloc _) (by decide) hgrow8
         obtain ⟨y0', y1', y2', y3'⟩ := blkS4 hmod8
         have f9 := hmod8.frozen 3
         clear hown8 hgrow8 hblk8 hmod8 y0 y1 y2 y3 hi hz0 hz1 hz2 Hs3
         refine stopped ?_
         go_upto_region 44 with fail
         rw [← hwg]
         clear hwg y0' y1' y2' y3' f9
         have hav := HLg.out.avr
         rw [Hna.out] at hav
         have Hav := Lib.hid hav
         obtain ⟨i0, hi, hz0, hz1, hz2⟩ := info_parts Tryd.infoIntC
         have zwg : lo + 2 < wg.heap.size := HLg.out.mod.lt
         clear hav
         go_wp2_with (at_builtin; refine wpList_append_any _ rfl _ _ 73 rfl (lo) 3 i0 (.int .i64 0) 1 8 Tryd.underlying73 hi hz0 hz1 hz2 rfl (by decide) _ _ _ rfl (Hav.out.alloc _) _ _ 1 1 _ rfl (reads_new _ _ 1 1 rfl) (by intro u hu; simp at hu; first | (subst hu; rfl) | (rcases hu with rfl | rfl <;> rfl) | (rcases hu with rfl | rfl | rfl <;> rfl)) (by unfold maxLen; omega) (by omega) (by (try simp) <;> (try omega)) ?_; intro v7 w7 hown7 hgrow7 hblk7; refine stopX ?_)
         obtain ⟨A7, c7, rfl, _, _, _⟩ := own_form hown7
         have HL7 := Lib.hid ((HLg.out.alloc _).pushAv (L := [((n0 + 3 : Nat) : Int)]) (by rw [List.length_append, List.length_singleton, Hna.out, ints_app]; exact hown7) hgrow7 hblk7)
         have hna7 : (avL ++ [((n0 + 3 : Nat) : Int)]).length = na + 1 := by rw [List.length_append, Hna.out]; rfl
         have Hna7 := Lib.hid hna7
         have Hs4 := Lib.hid hs4
         have Hab4 := Lib.hid hab4
         obtain ⟨sg4, hsg4⟩ : ∃ l, l = sg ++ L4 := ⟨_, rfl⟩
         obtain ⟨av4, hav4⟩ : ∃ l, l = avL ++ [((n0 + 3 : Nat) : Int)] := ⟨_, rfl⟩
         obtain ⟨mm4, hmm4⟩ : ∃ l : List TMem, l = [(((n0 : Nat) : Int), ((n0 + 1 : Nat) : Int), ((n0 + 2 : Nat) : Int), ((n0 + 3 : Nat) : Int))] := ⟨_, rfl⟩
         have hm1 : mm4.length ≤ 1 := by rw [hmm4]; exact Nat.le_refl _
         rw [← hsg4, ← hav4, ← hmm4] at HL7
         rw [← hsg4, ← hmm4] at HgM
         rw [← hsg4] at Hs4 hc4
         rw [← hav4, ← hsg4] at Hab4
         rw [← hav4] at Hna7
         clear hown7 hgrow7 hblk7 hi hz0 hz1 hz2 Hav hna7 hs4 hab4 hsg4 hav4 hmm4 HLg HLf
         refine stopped ?_
         go_wp2_with fail
         go_loopw [21] (fun iv wr => ∃ (i : Nat) (u1 : Value) (ag : List TAssign), i ≤ 3 ∧ iv = .int .i64 i ∧ LmS w wr B g lo (.slice Ad nd cd) (.slice A9 (n0 + 4) c9) u1 (.slice A2 n2 c2) (.slice A8 1 c8) (sg4, ag, ins, mm4) R (.slice A7 (na + 1) c7) av4 (.slice ar nR cr) nI nR ∧ GdM d (sg4, ag, ins, mm4) (fun s => (nI ≤ s ∧ s < nI + nR) ∨ (n0 + i ≤ s ∧ s < n0 + 3)) ∧ ag.length ≤ 8 + i) (fun iv _ => 3 - (intOf iv).toNat)
         case atStart => exact ⟨0, _, ag, Nat.zero_le _, rfl, HL7.out, HgM.out, by omega⟩
         case round =>
          obtain ⟨i, v1, ag2, hi3, rfl, hL, hgd, hal2⟩ := hrel
          obtain ⟨we, hwe⟩ : ∃ x, x = wr := ⟨_, rfl⟩
          subst hwe
          have HLe := Lib.hid hL
          have Hge := Lib.hid hgd
          have gi : (0 : Int) ≤ (i : Int) := by omega
          clear hL hgd
          by_cases hlt : i < 3
          ·have gi2 : (i : Int) < 3 := by omega
           obtain ⟨Ra, xa, hra⟩ := HLe.out.fl.s1
           obtain ⟨n1, hn1⟩ : ∃ n, (ag2).length = n := ⟨_, rfl⟩
           have hrao := hra.own
           rw [List.length_map, hn1] at hrao
           obtain ⟨A1, c1, rfl, _, _, _⟩ := own_form hrao
           obtain ⟨y0, y1, y2, y3⟩ := blkS4 HLe.out.mod
           have havr := HLe.out.avr
           rw [Hna7.out] at havr
           have zlh : lo + 2 < (we).heap.size := HLe.out.mod.lt
           have hn1k : n1 ≤ 30 := by omega
           go_wp2_with fail
           refine (s_l04Assign (N := ((sg4).length : Int)) ((n0 + i : Nat) : Int) HLe.out.cur hgl (by omega) hra (by omega) (by omega) havr Hab4.out).mono ?_
           rintro e w6 ⟨v1', os, Rb, xb, rfl, hrb, hops, hcb, hgb⟩
           obtain ⟨A1', c1', rfl⟩ : ∃ A c, v1' = .slice A (n1 + 1) c := by
            obtain ⟨A, c, h, _⟩ := own_form hrb.own
            exact ⟨A, c, by rw [h, List.length_map, List.length_append, hn1]; rfl⟩
           have HL6' := Lib.hid (HLe.out.call hgb hcb)
           have Hrb := Lib.hid hrb
           have Hops := Lib.hid hops
           clear hra hrao havr hrb hops hcb hgb y0 y1 y2 y3
           obtain ⟨y0, y1, y2, y3⟩ := blkS4 HL6'.out.mod
           have f0 := HL6'.out.mod.frozen 0
           have f1 := HL6'.out.mod.frozen 1
           have f2 := HL6'.out.mod.frozen 2
           have f3 := HL6'.out.mod.frozen 3
           go_wp2_with fail
           obtain ⟨wz, hwz⟩ : ∃ wz, wz = ((((w6.setCell ⟨lo + 2, 0, none⟩ (.slice A9 (n0 + 4) c9)).setCell ⟨lo + 2, 1, none⟩ (.slice A1' (n1 + 1) c1')).setCell ⟨lo + 2, 2, none⟩ (.slice A2 n2 c2)).setCell ⟨lo + 2, 3, none⟩ (.slice A8 1 c8)) := ⟨_, rfl⟩
           have hz := HL6'.out.assigned Hrb.out
           rw [← hwz] at hz ⊢
           have HLz := Lib.hid hz
           clear hz hwz y0 y1 y2 y3 f0 f1 f2 f3 HL6' hn1k
           go_roundw
           case rel => exact ⟨i + 1, _, ag2 ++ [(((n0 + i : Nat) : Int), os)], by omega, by go_num, HLz.out, Hge.out.assign (s := n0 + i) (.inr ⟨by omega, by omega⟩) Hops.out (fun s => by omega), by rw [List.length_append, List.length_singleton]; omega⟩
           case measure => simp [intOf]; omega
          ·have hi33 : i = 3 := by omega
           subst hi33
           go_wp2_with fail
           go_meet
           case rel => exact ⟨_, v1, _, sg4, ag2, mm4, av4, HLe.out, Hge.out.same (fun s => by omega), by rw [Hs4.out]; omega, by rw [Hs4.out]; omega, by omega, hm1, hc4, by rw [Hna7.out]; omega, Hab4.out⟩
        -- </F>
       case rest =>
       obtain ⟨u0, u1, u3, sg, ag, mm, avL, hL, hgd, hmin, hsl, hagl, hml, hpc, hal, hab⟩ := hcut
       obtain ⟨w3, hw3⟩ : ∃ x, x = wc := ⟨_, rfl⟩
       subst hw3
       obtain ⟨A3, n3, c3, rfl⟩ : ∃ A n c, u3 = .slice A n c := by
        obtain ⟨A, c, h, _⟩ := own_form hL.fl.s3
        exact ⟨A, _, c, h⟩
       have HLr := Lib.hid hL
       have Hgr := Lib.hid hgd
       clear hL hgd
       go_wp2_with fail
       refine (s_Below 2 HLr.out.cur).mono ?_
       rintro e w4 ⟨kk, rfl, hk4, hc4, hg4⟩
       obtain ⟨hk0, hk1⟩ := hk4.1 (by omega)
       obtain ⟨kn, rfl⟩ := Int.eq_ofNat_of_zero_le hk0
       have HLs := Lib.hid (HLr.out.call hg4 hc4)
       clear hk4 hc4 hg4 HLr
       go_upto_region 50 with fail
       rw [show (1 : Int) + (kn : Int) = ((kn + 1 : Nat) : Int) by omega]
       obtain ⟨nO, hnO⟩ : ∃ n, n = kn + 1 := ⟨_, rfl⟩
       rw [← hnO]
       have hnO2 : nO ≤ 2 := by omega
       clear hnO hk0 hk1
       go_wp2_with fail
       go_loopw [6, 22, 23] (fun avv iv _ wr => ∃ (k : Nat) (u0 u1 : Value) (sg : List TSignal) (ag : List TAssign) (avL : List Int), k ≤ nO ∧ iv = .int .i64 k ∧ LmS w wr B g lo (.slice Ad nd cd) u0 u1 (.slice A2 n2 c2) (.slice A3 n3 c3) (sg, ag, ins, mm) R avv avL (.slice ar nR cr) nI nR ∧ GdM d (sg, ag, ins, mm) (fun s => nI ≤ s ∧ s < nI + nR) ∧ (nI + nR ≤ sg.length ∧ sg.length ≤ 16 + k ∧ ag.length ≤ 11 + k ∧ sg.countP isPort ≤ 2 + k ∧ avL.length ≤ 13 + k ∧ ∀ x ∈ avL, 0 ≤ x ∧ x < (sg.length : Int))) (fun _ iv _ _ => nO - (intOf iv).toNat)
       case atStart => exact ⟨0, _, u1, sg, ag, avL, Nat.zero_le _, rfl, HLs.out, Hgr.out, ⟨hmin, hsl, hagl, hpc, hal, hab⟩⟩
       case round =>
        clear hmin hsl hagl hpc hal hab HLs Hgr
        obtain ⟨k, u0, u1, sg, ag, avL, hk, rfl, hL, hgd, hmin, hsl, hagl, hpc, hal, hab⟩ := hrel
        obtain ⟨w8, hw8⟩ : ∃ x, x = wr := ⟨_, rfl⟩
        subst hw8
        obtain ⟨na, hna⟩ : ∃ n, avL.length = n := ⟨_, rfl⟩
        obtain ⟨aa, ca, rfl⟩ := int_form hL.avr hna
        obtain ⟨n0, hn0⟩ : ∃ n, sg.length = n := ⟨_, rfl⟩
        obtain ⟨a0, c0, rfl⟩ := hL.fl.form0 hn0
        have HL8 := Lib.hid hL
        have Hgd := Lib.hid hgd
        have Hna := Lib.hid hna
        have Hn0 := Lib.hid hn0
        have g1 : (0 : Int) ≤ (k : Int) := by omega
        rw [hn0] at hmin hsl
        rw [hna] at hal
        have Hhab := Lib.hid hab
        clear hL hgd hna hn0 hab
        by_cases hlt : k < nO
        ·-- <G>
         have g2 : (k : Int) < (nO : Int) := by omega
         obtain ⟨y0, y1, y2, y3⟩ := blkS4 HL8.out.mod
         go_upto_region 54 with fail
         go_cut [] from 239 to 250 (fun wx => ∃ (A9 : Option Addr) (c9 : Nat) (k1 x : Int), (k1 = 1 ∨ k1 = 2) ∧ (0 ≤ x ∧ x ≤ 4) ∧ LmS w wx B g lo (.slice Ad nd cd) (.slice A9 (n0 + 1) c9) u1 (.slice A2 n2 c2) (.slice A3 n3 c3) (sg ++ [(k1, x, 0)], ag, ins, mm) R (.slice aa na ca) avL (.slice ar nR cr) nI nR)
         case first =>
          have cy := ocel (S := fun b => b = g ∨ (Value.slice a0 n0 c0).ownBlock = some b) y0 HL8.out.mod.lt HL8.out.ne0
          have HLd := Lib.hid HL8.out.drew
          have HOd := Lib.hid ((Only.refl (fun b => b = g ∨ (Value.slice a0 n0 c0).ownBlock = some b) w8).drew)
          obtain ⟨i0, hi, hz0, hz1, hz2⟩ := info_parts Tryd.infSignalC
          clear y0 y1 y2 y3
          refine wp_region_treeL (.node 3 6 (.node 4 6 (.leaf [2, 3, 4, 5, 6, 7, 0, 1, 8, 9, 10, 11, 12]) (.leaf [2, 3, 5, 6, 4, 7, 0, 1, 8, 9, 10, 11, 12])) (.leaf [5, 6, 2, 3, 4, 7, 0, 1, 8, 9, 10, 11, 12])) (by kernel_rfl) (by kernel_rfl) (fun x => Only (fun b => b = g ∨ (Value.slice a0 n0 c0).ownBlock = some b) w8 x) ((Only.refl _ _).drew) (fun lexNE => ?_)
          simp only [OrdT.orders, List.cons_append, List.nil_append, AllL, ordOps, List.filterMap_cons, List.filterMap_nil, List.getElem?_cons_zero, List.getElem?_cons_succ, and_true]
          refine ⟨?_, ?_, ?_⟩
          ·obtain ⟨D, hD⟩ : ∃ D, D = w8.drew := ⟨_, rfl⟩
           rw [← hD] at HLd HOd ⊢
           clear hD
           (repeat (first | (refine lex_r fun K hK => ?_; go_big_quiet_op; refine hK _ ?_; clear hK K) | (refine lex_k fun K hK => ?_; go_simp; refine hK _ ?_; clear hK K)))
           (refine lex_e fun K hK => ?_; go_big_op)
           obtain ⟨D1, hD1⟩ : ∃ x, x = D.alloc (.cells #[.int .i64 1, .int .i64 2] 3) := ⟨_, rfl⟩
           rw [← hD1]
           obtain ⟨gp1, hgp1⟩ : ∃ g, g = D.heap.size := ⟨_, rfl⟩
           have HB1 := Lib.hid (show Blk D1 gp1 3 #[.int .i64 1, .int .i64 2] by rw [hD1, hgp1]; exact Blk.new _ _ _)
           have zp1 : g < gp1 := by rw [hgp1]; exact HLd.out.cur.lt
           rw [← hgp1]
           have hx := HLd.out.alloc (.cells #[.int .i64 1, .int .i64 2] 3)
           rw [← hD1] at hx
           have HLd := Lib.hid hx
           have hx2 := HOd.out.alloc (.cells #[.int .i64 1, .int .i64 2] 3)
           rw [← hD1] at hx2
           have HOd := Lib.hid hx2
           have Hal := Lib.hid (show ∀ (q : Nat) (t : TypeId) (cs : Array Value), Blk D q t cs → Blk D1 q t cs from fun q t cs h => by rw [hD1]; exact h.alloc _)
           refine hK _ _ (Cls.mk' HOd.out) ?_
           clear hK K hD1 hgp1 hx hx2
           (repeat (first | (refine lex_r fun K hK => ?_; go_big_quiet_op; refine hK _ ?_; clear hK K) | (refine lex_k fun K hK => ?_; go_simp; refine hK _ ?_; clear hK K)))
           (refine lex_e fun K hK => ?_; go_big_op)
           refine (s_PickInt (l := [1, 2]) (n := 2) HLd.out.cur (by omega) (by omega) rfl (by show gp1 ≠ g; omega) HB1.out.lt (fun j y hj => lit_blk (l := [1, 2]) HB1.out hj)).mono ?_
           rintro e D2 ⟨k1, rfl, hk1, hcD2, hgD2⟩
           have HLd := Lib.hid (HLd.out.call hgD2 hcD2)
           have HOd := Lib.hid (HOd.out.trans ((only_row hgD2).more (fun b hb => .inl (by injection hb with hb; exact hb.symm))))
           refine hK _ _ (Cls.mk' HOd.out) ?_
           clear hK K hcD2
           (repeat (first | (refine lex_r fun K hK => ?_; go_big_quiet_op; refine hK _ ?_; clear hK K) | (refine lex_k fun K hK => ?_; go_simp; refine hK _ ?_; clear hK K)))
           (refine lex_e fun K hK => ?_; go_big_op)
           obtain ⟨D3, hD3⟩ : ∃ x, x = D2.alloc (.cells #[.int .i64 1, .int .i64 2, .int .i64 0] 3) := ⟨_, rfl⟩
           rw [← hD3]
           obtain ⟨gp2, hgp2⟩ : ∃ g, g = D2.heap.size := ⟨_, rfl⟩
           have HB2 := Lib.hid (show Blk D3 gp2 3 #[.int .i64 1, .int .i64 2, .int .i64 0] by rw [hD3, hgp2]; exact Blk.new _ _ _)
           have zp2 : g < gp2 := by rw [hgp2]; exact HLd.out.cur.lt
           rw [← hgp2]
           have hx := HLd.out.alloc (.cells #[.int .i64 1, .int .i64 2, .int .i64 0] 3)
           rw [← hD3] at hx
           have HLd := Lib.hid hx
           have hx2 := HOd.out.alloc (.cells #[.int .i64 1, .int .i64 2, .int .i64 0] 3)
           rw [← hD3] at hx2
           have HOd := Lib.hid hx2
           have Hal := Lib.hid (show ∀ (q : Nat) (t : TypeId) (cs : Array Value), Blk D2 q t cs → Blk D3 q t cs from fun q t cs h => by rw [hD3]; exact h.alloc _)
           refine hK _ _ (Cls.mk' HOd.out) ?_
           clear hK K hD3 hgp2 hx hx2
           (repeat (first | (refine lex_r fun K hK => ?_; go_big_quiet_op; refine hK _ ?_; clear hK K) | (refine lex_k fun K hK => ?_; go_simp; refine hK _ ?_; clear hK K)))
           (refine lex_e fun K hK => ?_; go_big_op)
           refine (s_PickInt (l := [1, 2, 0]) (n := 3) HLd.out.cur (by omega) (by omega) rfl (by show gp2 ≠ g; omega) HB2.out.lt (fun j y hj => lit_blk (l := [1, 2, 0]) HB2.out hj)).mono ?_
           rintro e D4 ⟨x, rfl, hx, hcD4, hgD4⟩
           have HLd := Lib.hid (HLd.out.call hgD4 hcD4)
           have HOd := Lib.hid (HOd.out.trans ((only_row hgD4).more (fun b hb => .inl (by injection hb with hb; exact hb.symm))))
           refine hK _ _ (Cls.mk' HOd.out) ?_
           clear hK K hcD4
           have hs0 := HLd.out.fl.s0
           have zs : lo + 2 < (D4).heap.size := HLd.out.mod.lt
           rw [Hn0.out] at hs0
           have Hs0 := Lib.hid hs0
           clear hs0
           (repeat (first | (refine lex_r fun K hK => ?_; go_big_quiet_op; refine hK _ ?_; clear hK K) | (refine lex_k fun K hK => ?_; go_simp; refine hK _ ?_; clear hK K)))
           (refine lex_e fun K hK => ?_; go_big_op)
           refine hK _ _ (Cls.mk' (HOd.out.alloc _)) ?_
           clear hK K
           refine lex_e fun K hK => ?_
           refine wp_append_any _ _ _ 45 (by rfl) (lo) 66 i0 (.agg #[.int .i64 0, .int .i64 0, .int .i64 0]) 3 24 Tryd.underlying45 hi hz0 hz1 hz2 rfl (by decide) _ _ _ (by rfl) (Hs0.out.alloc _) _ _ 1 1 _ (by rfl) (reads_new _ _ 1 3 rfl) (by intro u hu; simp at hu; first | (subst hu; rfl) | (rcases hu with rfl | rfl <;> rfl) | (rcases hu with rfl | rfl | rfl <;> rfl)) (by unfold maxLen; omega) (by omega) (by (try simp) <;> (try omega)) ?_
           intro v9 w9 hown9 hgrow9 hblk9
           go_simp
           refine hK _ _ (Cls.mk' (Only.grown2 (HOd.out.alloc _) hgrow9 (fun b hb => .inl (.inr hb)))) ?_
           clear hK K
           obtain ⟨A9, c9, rfl, _, _, _⟩ := own_form hown9
           have HLf := Lib.hid ((HLd.out.alloc _).pushSig (x := (k1, x, 0)) (by rw [Hn0.out]; exact hown9) hgrow9)
           have hmod9 := blk_row2 ((HLd.out.alloc _).mod) ((HLd.out.alloc _).fl.s0) (by decide) hgrow9
           obtain ⟨y0, y1, y2, y3⟩ := blkS4 hmod9
           have f9 := hmod9.frozen 0
           clear hown9 hgrow9 hblk9 hmod9
           (repeat (first | (refine lex_r fun K hK => ?_; go_big_quiet_op; refine hK _ ?_; clear hK K) | (refine lex_k fun K hK => ?_; go_simp; refine hK _ ?_; clear hK K)))
           (refine lex_l fun K hK => ?_; go_big_op)
           (refine hK _ _ ?_; clear hK K)
           clear lexNE cy y0 y1 y2 y3 f9
           obtain ⟨wf, hwf⟩ : ∃ wf, wf = w9.setCell ⟨lo + 2, 0, none⟩ (.slice A9 (n0 + 1) c9) := ⟨_, rfl⟩
           rw [← hwf] at HLf ⊢
           clear hwf
           go_wp2_with fail
           go_meet
           case rel => exact ⟨A9, c9, k1, x, by simpa using hk1, wid_in hx (by decide), HLf.out⟩
          ·obtain ⟨D, hD⟩ : ∃ D, D = w8.drew := ⟨_, rfl⟩
           rw [← hD] at HLd HOd ⊢
           clear hD
           (repeat (first | (refine lex_r fun K hK => ?_; go_big_quiet_op; refine hK _ ?_; clear hK K) | (refine lex_k fun K hK => ?_; go_simp; refine hK _ ?_; clear hK K)))
           (refine lex_e fun K hK => ?_; go_big_op)
           obtain ⟨D1, hD1⟩ : ∃ x, x = D.alloc (.cells #[.int .i64 1, .int .i64 2] 3) := ⟨_, rfl⟩
           rw [← hD1]
           obtain ⟨gp1, hgp1⟩ : ∃ g, g = D.heap.size := ⟨_, rfl⟩
           have HB1 := Lib.hid (show Blk D1 gp1 3 #[.int .i64 1, .int .i64 2] by rw [hD1, hgp1]; exact Blk.new _ _ _)
           have zp1 : g < gp1 := by rw [hgp1]; exact HLd.out.cur.lt
           rw [← hgp1]
           have hx := HLd.out.alloc (.cells #[.int .i64 1, .int .i64 2] 3)
           rw [← hD1] at hx
           have HLd := Lib.hid hx
           have hx2 := HOd.out.alloc (.cells #[.int .i64 1, .int .i64 2] 3)
           rw [← hD1] at hx2
           have HOd := Lib.hid hx2
           have Hal := Lib.hid (show ∀ (q : Nat) (t : TypeId) (cs : Array Value), Blk D q t cs → Blk D1 q t cs from fun q t cs h => by rw [hD1]; exact h.alloc _)
           refine hK _ _ (Cls.mk' HOd.out) ?_
           clear hK K hD1 hgp1 hx hx2
           (repeat (first | (refine lex_r fun K hK => ?_; go_big_quiet_op; refine hK _ ?_; clear hK K) | (refine lex_k fun K hK => ?_; go_simp; refine hK _ ?_; clear hK K)))
           (refine lex_e fun K hK => ?_; go_big_op)
           obtain ⟨D2, hD2⟩ : ∃ x, x = D1.alloc (.cells #[.int .i64 1, .int .i64 2, .int .i64 0] 3) := ⟨_, rfl⟩
           rw [← hD2]
           obtain ⟨gp2, hgp2⟩ : ∃ g, g = D1.heap.size := ⟨_, rfl⟩
           have HB2 := Lib.hid (show Blk D2 gp2 3 #[.int .i64 1, .int .i64 2, .int .i64 0] by rw [hD2, hgp2]; exact Blk.new _ _ _)
           have zp2 : g < gp2 := by rw [hgp2]; exact HLd.out.cur.lt
           rw [← hgp2]
           have hx := HLd.out.alloc (.cells #[.int .i64 1, .int .i64 2, .int .i64 0] 3)
           rw [← hD2] at hx
           have HLd := Lib.hid hx
           have hx2 := HOd.out.alloc (.cells #[.int .i64 1, .int .i64 2, .int .i64 0] 3)
           rw [← hD2] at hx2
           have HOd := Lib.hid hx2
           have Hal := Lib.hid (show ∀ (q : Nat) (t : TypeId) (cs : Array Value), Blk D1 q t cs → Blk D2 q t cs from fun q t cs h => by rw [hD2]; exact h.alloc _)
           refine hK _ _ (Cls.mk' HOd.out) ?_
           clear hK K hD2 hgp2 hx hx2
           have HB1 := Lib.hid (Hal.out _ _ _ HB1.out)
           (repeat (first | (refine lex_r fun K hK => ?_; go_big_quiet_op; refine hK _ ?_; clear hK K) | (refine lex_k fun K hK => ?_; go_simp; refine hK _ ?_; clear hK K)))
           (refine lex_e fun K hK => ?_; go_big_op)
           refine (s_PickInt (l := [1, 2]) (n := 2) HLd.out.cur (by omega) (by omega) rfl (by show gp1 ≠ g; omega) HB1.out.lt (fun j y hj => lit_blk (l := [1, 2]) HB1.out hj)).mono ?_
           rintro e D3 ⟨k1, rfl, hk1, hcD3, hgD3⟩
           have HLd := Lib.hid (HLd.out.call hgD3 hcD3)
           have HOd := Lib.hid (HOd.out.trans ((only_row hgD3).more (fun b hb => .inl (by injection hb with hb; exact hb.symm))))
           refine hK _ _ (Cls.mk' HOd.out) ?_
           clear hK K hcD3
           have HB2 := Lib.hid (HB2.out.grown hgD3 (fun e => by injection e with e; omega))
           (repeat (first | (refine lex_r fun K hK => ?_; go_big_quiet_op; refine hK _ ?_; clear hK K) | (refine lex_k fun K hK => ?_; go_simp; refine hK _ ?_; clear hK K)))
           (refine lex_e fun K hK => ?_; go_big_op)
           refine (s_PickInt (l := [1, 2, 0]) (n := 3) HLd.out.cur (by omega) (by omega) rfl (by show gp2 ≠ g; omega) HB2.out.lt (fun j y hj => lit_blk (l := [1, 2, 0]) HB2.out hj)).mono ?_
           rintro e D4 ⟨x, rfl, hx, hcD4, hgD4⟩
           have HLd := Lib.hid (HLd.out.call hgD4 hcD4)
           have HOd := Lib.hid (HOd.out.trans ((only_row hgD4).more (fun b hb => .inl (by injection hb with hb; exact hb.symm))))
           refine hK _ _ (Cls.mk' HOd.out) ?_
           clear hK K hcD4
           have hs0 := HLd.out.fl.s0
           have zs : lo + 2 < (D4).heap.size := HLd.out.mod.lt
           rw [Hn0.out] at hs0
           have Hs0 := Lib.hid hs0
           clear hs0
           (repeat (first | (refine lex_r fun K hK => ?_; go_big_quiet_op; refine hK _ ?_; clear hK K) | (refine lex_k fun K hK => ?_; go_simp; refine hK _ ?_; clear hK K)))
           (refine lex_e fun K hK => ?_; go_big_op)
           refine hK _ _ (Cls.mk' (HOd.out.alloc _)) ?_
           clear hK K
           refine lex_e fun K hK => ?_
           refine wp_append_any _ _ _ 45 (by rfl) (lo) 66 i0 (.agg #[.int .i64 0, .int .i64 0, .int .i64 0]) 3 24 Tryd.underlying45 hi hz0 hz1 hz2 rfl (by decide) _ _ _ (by rfl) (Hs0.out.alloc _) _ _ 1 1 _ (by rfl) (reads_new _ _ 1 3 rfl) (by intro u hu; simp at hu; first | (subst hu; rfl) | (rcases hu with rfl | rfl <;> rfl) | (rcases hu with rfl | rfl | rfl <;> rfl)) (by unfold maxLen; omega) (by omega) (by (try simp) <;> (try omega)) ?_
           intro v9 w9 hown9 hgrow9 hblk9
           go_simp
           refine hK _ _ (Cls.mk' (Only.grown2 (HOd.out.alloc _) hgrow9 (fun b hb => .inl (.inr hb)))) ?_
           clear hK K
           obtain ⟨A9, c9, rfl, _, _, _⟩ := own_form hown9
           have HLf := Lib.hid ((HLd.out.alloc _).pushSig (x := (k1, x, 0)) (by rw [Hn0.out]; exact hown9) hgrow9)
           have hmod9 := blk_row2 ((HLd.out.alloc _).mod) ((HLd.out.alloc _).fl.s0) (by decide) hgrow9
           obtain ⟨y0, y1, y2, y3⟩ := blkS4 hmod9
           have f9 := hmod9.frozen 0
           clear hown9 hgrow9 hblk9 hmod9
           (repeat (first | (refine lex_r fun K hK => ?_; go_big_quiet_op; refine hK _ ?_; clear hK K) | (refine lex_k fun K hK => ?_; go_simp; refine hK _ ?_; clear hK K)))
           (refine lex_l fun K hK => ?_; go_big_op)
           (refine hK _ _ ?_; clear hK K)
           clear lexNE cy y0 y1 y2 y3 f9
           obtain ⟨wf, hwf⟩ : ∃ wf, wf = w9.setCell ⟨lo + 2, 0, none⟩ (.slice A9 (n0 + 1) c9) := ⟨_, rfl⟩
           rw [← hwf] at HLf ⊢
           clear hwf
           go_wp2_with fail
           go_meet
           case rel => exact ⟨A9, c9, k1, x, by simpa using hk1, wid_in hx (by decide), HLf.out⟩
          ·obtain ⟨D, hD⟩ : ∃ D, D = w8.drew := ⟨_, rfl⟩
           rw [← hD] at HLd HOd ⊢
           clear hD
           (repeat (first | (refine lex_r fun K hK => ?_; go_big_quiet_op; refine hK _ ?_; clear hK K) | (refine lex_k fun K hK => ?_; go_simp; refine hK _ ?_; clear hK K)))
           (refine lex_e fun K hK => ?_; go_big_op)
           obtain ⟨D1, hD1⟩ : ∃ x, x = D.alloc (.cells #[.int .i64 1, .int .i64 2, .int .i64 0] 3) := ⟨_, rfl⟩
           rw [← hD1]
           obtain ⟨gp2, hgp2⟩ : ∃ g, g = D.heap.size := ⟨_, rfl⟩
           have HB2 := Lib.hid (show Blk D1 gp2 3 #[.int .i64 1, .int .i64 2, .int .i64 0] by rw [hD1, hgp2]; exact Blk.new _ _ _)
           have zp2 : g < gp2 := by rw [hgp2]; exact HLd.out.cur.lt
           rw [← hgp2]
           have hx := HLd.out.alloc (.cells #[.int .i64 1, .int .i64 2, .int .i64 0] 3)
           rw [← hD1] at hx
           have HLd := Lib.hid hx
           have hx2 := HOd.out.alloc (.cells #[.int .i64 1, .int .i64 2, .int .i64 0] 3)
           rw [← hD1] at hx2
           have HOd := Lib.hid hx2
           have Hal := Lib.hid (show ∀ (q : Nat) (t : TypeId) (cs : Array Value), Blk D q t cs → Blk D1 q t cs from fun q t cs h => by rw [hD1]; exact h.alloc _)
           refine hK _ _ (Cls.mk' HOd.out) ?_
           clear hK K hD1 hgp2 hx hx2
           (repeat (first | (refine lex_r fun K hK => ?_; go_big_quiet_op; refine hK _ ?_; clear hK K) | (refine lex_k fun K hK => ?_; go_simp; refine hK _ ?_; clear hK K)))
           (refine lex_e fun K hK => ?_; go_big_op)
           obtain ⟨D2, hD2⟩ : ∃ x, x = D1.alloc (.cells #[.int .i64 1, .int .i64 2] 3) := ⟨_, rfl⟩
           rw [← hD2]
           obtain ⟨gp1, hgp1⟩ : ∃ g, g = D1.heap.size := ⟨_, rfl⟩
           have HB1 := Lib.hid (show Blk D2 gp1 3 #[.int .i64 1, .int .i64 2] by rw [hD2, hgp1]; exact Blk.new _ _ _)
           have zp1 : g < gp1 := by rw [hgp1]; exact HLd.out.cur.lt
           rw [← hgp1]
           have hx := HLd.out.alloc (.cells #[.int .i64 1, .int .i64 2] 3)
           rw [← hD2] at hx
           have HLd := Lib.hid hx
           have hx2 := HOd.out.alloc (.cells #[.int .i64 1, .int .i64 2] 3)
           rw [← hD2] at hx2
           have HOd := Lib.hid hx2
           have Hal := Lib.hid (show ∀ (q : Nat) (t : TypeId) (cs : Array Value), Blk D1 q t cs → Blk D2 q t cs from fun q t cs h => by rw [hD2]; exact h.alloc _)
           refine hK _ _ (Cls.mk' HOd.out) ?_
           clear hK K hD2 hgp1 hx hx2
           have HB2 := Lib.hid (Hal.out _ _ _ HB2.out)
           (repeat (first | (refine lex_r fun K hK => ?_; go_big_quiet_op; refine hK _ ?_; clear hK K) | (refine lex_k fun K hK => ?_; go_simp; refine hK _ ?_; clear hK K)))
           (refine lex_e fun K hK => ?_; go_big_op)
           refine (s_PickInt (l := [1, 2]) (n := 2) HLd.out.cur (by omega) (by omega) rfl (by show gp1 ≠ g; omega) HB1.out.lt (fun j y hj => lit_blk (l := [1, 2]) HB1.out hj)).mono ?_
           rintro e D3 ⟨k1, rfl, hk1, hcD3, hgD3⟩
           have HLd := Lib.hid (HLd.out.call hgD3 hcD3)
           have HOd := Lib.hid (HOd.out.trans ((only_row hgD3).more (fun b hb => .inl (by injection hb with hb; exact hb.symm))))
           refine hK _ _ (Cls.mk' HOd.out) ?_
           clear hK K hcD3
           have HB2 := Lib.hid (HB2.out.grown hgD3 (fun e => by injection e with e; omega))
           (repeat (first | (refine lex_r fun K hK => ?_; go_big_quiet_op; refine hK _ ?_; clear hK K) | (refine lex_k fun K hK => ?_; go_simp; refine hK _ ?_; clear hK K)))
           (refine lex_e fun K hK => ?_; go_big_op)
           refine (s_PickInt (l := [1, 2, 0]) (n := 3) HLd.out.cur (by omega) (by omega) rfl (by show gp2 ≠ g; omega) HB2.out.lt (fun j y hj => lit_blk (l := [1, 2, 0]) HB2.out hj)).mono ?_
           rintro e D4 ⟨x, rfl, hx, hcD4, hgD4⟩
           have HLd := Lib.hid (HLd.out.call hgD4 hcD4)
           have HOd := Lib.hid (HOd.out.trans ((only_row hgD4).more (fun b hb => .inl (by injection hb with hb; exact hb.symm))))
           refine hK _ _ (Cls.mk' HOd.out) ?_
           clear hK K hcD4
           have hs0 := HLd.out.fl.s0
           have zs : lo + 2 < (D4).heap.size := HLd.out.mod.lt
           rw [Hn0.out] at hs0
           have Hs0 := Lib.hid hs0
           clear hs0
           (repeat (first | (refine lex_r fun K hK => ?_; go_big_quiet_op; refine hK _ ?_; clear hK K) | (refine lex_k fun K hK => ?_; go_simp; refine hK _ ?_; clear hK K)))
           (refine lex_e fun K hK => ?_; go_big_op)
           refine hK _ _ (Cls.mk' (HOd.out.alloc _)) ?_
           clear hK K
           refine lex_e fun K hK => ?_
           refine wp_append_any _ _ _ 45 (by rfl) (lo) 66 i0 (.agg #[.int .i64 0, .int .i64 0, .int .i64 0]) 3 24 Tryd.underlying45 hi hz0 hz1 hz2 rfl (by decide) _ _ _ (by rfl) (Hs0.out.alloc _) _ _ 1 1 _ (by rfl) (reads_new _ _ 1 3 rfl) (by intro u hu; simp at hu; first | (subst hu; rfl) | (rcases hu with rfl | rfl <;> rfl) | (rcases hu with rfl | rfl | rfl <;> rfl)) (by unfold maxLen; omega) (by omega) (by (try simp) <;> (try omega)) ?_
           intro v9 w9 hown9 hgrow9 hblk9
           go_simp
           refine hK _ _ (Cls.mk' (Only.grown2 (HOd.out.alloc _) hgrow9 (fun b hb => .inl (.inr hb)))) ?_
           clear hK K
           obtain ⟨A9, c9, rfl, _, _, _⟩ := own_form hown9
           have HLf := Lib.hid ((HLd.out.alloc _).pushSig (x := (k1, x, 0)) (by rw [Hn0.out]; exact hown9) hgrow9)
           have hmod9 := blk_row2 ((HLd.out.alloc _).mod) ((HLd.out.alloc _).fl.s0) (by decide) hgrow9
           obtain ⟨y0, y1, y2, y3⟩ := blkS4 hmod9
           have f9 := hmod9.frozen 0
           clear hown9 hgrow9 hblk9 hmod9
           (repeat (first | (refine lex_r fun K hK => ?_; go_big_quiet_op; refine hK _ ?_; clear hK K) | (refine lex_k fun K hK => ?_; go_simp; refine hK _ ?_; clear hK K)))
           (refine lex_l fun K hK => ?_; go_big_op)
           (refine hK _ _ ?_; clear hK K)
           clear lexNE cy y0 y1 y2 y3 f9
           obtain ⟨wf, hwf⟩ : ∃ wf, wf = w9.setCell ⟨lo + 2, 0, none⟩ (.slice A9 (n0 + 1) c9) := ⟨_, rfl⟩
           rw [← hwf] at HLf ⊢
           clear hwf
           go_wp2_with fail
           go_meet
           case rel => exact ⟨A9, c9, k1, x, by simpa using hk1, wid_in hx (by decide), HLf.out⟩
         case rest =>
         obtain ⟨A9, c9, k1, x, hk1, hx, hL9⟩ := hcut
         obtain ⟨w9, hw9⟩ : ∃ x, x = wc := ⟨_, rfl⟩
         subst hw9
         have HL9 := Lib.hid hL9
         clear hL9 HL8 y0 y1 y2 y3
         go_upto_if 252 with fail
         go_cut [] from 251 to 257 (fun wx => ∃ (k1 : Int), (k1 = 1 ∨ k1 = 2) ∧ LmS w wx B g lo (.slice Ad nd cd) (.slice A9 (n0 + 1) c9) u1 (.slice A2 n2 c2) (.slice A3 n3 c3) (sg ++ [(k1, x, 0)], ag, ins, mm) R (.slice aa na ca) avL (.slice ar nR cr) nI nR)
         case first =>
          -- <G1>
          by_cases hk0 : k = 0
          ·subst hk0
           obtain ⟨y0, y1, y2, y3⟩ := blkS4 HL9.out.mod
           have hs0 := HL9.out.fl.s0
           rw [show (sg ++ [(k1, x, (0 : Int))]).length = n0 + 1 by rw [List.length_append, Hn0.out]; rfl] at hs0
           obtain ⟨A, c, hA, _, _, h3⟩ := own_form hs0
           obtain ⟨gq, rfl, _, _⟩ := h3 (by omega)
           injection hA with hA hA2 hA3
           subst hA
           have hl3 : (recs eSg sg).length = n0 * 3 := by rw [recs_len eSg_len, Hn0.out]
           have hc0 : w9.cell? ⟨gq, n0 * 3, none⟩ = some (.int .i64 k1) := by
            rw [hs0.cellAt (n0 * 3) (by omega), recs_app, List.getElem?_append_right (by omega), hl3, Nat.sub_self]
            rfl
           have fz0 := hs0.frozenAt (n0 * 3)
           have hst := hs0.stored (n0 * 3) (.int .i64 1)
           have hset : (recs eSg (sg ++ [(k1, x, (0 : Int))])).set (n0 * 3) (.int .i64 1) = recs eSg (sg ++ [(1, x, 0)]) := by
            rw [recs_app, recs_app, List.set_append_right _ _ (by omega), hl3, Nat.sub_self]
            rfl
           rw [hset] at hst
           have HLq := Lib.hid (HL9.out.sigSet (sg' := sg ++ [(1, x, 0)]) (by rw [List.length_append, Hn0.out]; exact hst.1) hst.2)
           have g3 : (n0 : Int) < ((n0 + 1 : Nat) : Int) := by omega
           have g4 : (0 : Int) ≤ (n0 : Int) := by omega
           clear hs0 hA2 hA3 h3 hl3 hst hset
           go_wp2_with fail
           go_meet
           case rel => exact ⟨1, .inl rfl, HLq.out⟩
          ·have g3 : ((k : Int) == 0) = false := by simpa using hk0
           go_wp2_with fail
           go_meet
           case rel => exact ⟨k1, hk1, HL9.out⟩
          -- </G1>
         case rest =>
         -- <G2>
         obtain ⟨k2, hk2, hL2⟩ := hcut
         obtain ⟨wb, hwb⟩ : ∃ x, x = wc := ⟨_, rfl⟩
         subst hwb
         have HLb := Lib.hid hL2
         obtain ⟨sg2, hsg2⟩ : ∃ l, l = sg ++ [(k2, x, (0 : Int))] := ⟨_, rfl⟩
         have Hls := Lib.hid (show sg2.length = n0 + 1 by rw [hsg2, List.length_append, Hn0.out]; rfl)
         have HgP := Lib.hid (Hgd.out.push (x := (k2, x, 0)) (sig_k hk2 hx) (P' := fun s => (nI ≤ s ∧ s < nI + nR) ∨ s = n0) (fun s => by
          constructor
          ·rintro (h | h)
           ·exact .inl h
           ·exact .inr ⟨by show s = sg.length; rw [Hn0.out]; exact h, by show k2 ≠ 0; rcases hk2 with rfl | rfl <;> decide⟩
          ·rintro (h | ⟨h, _⟩)
           ·exact .inl h
           ·have h : s = sg.length := h
            exact .inr (by rw [h, Hn0.out])))
         have hpc2 : sg2.countP isPort ≤ 2 + (k + 1) := by
          rw [hsg2, cnt_snoc]
          split <;> omega
         have Hab2 := Lib.hid (show ∀ y ∈ avL, 0 ≤ y ∧ y < (sg2.length : Int) from fun y hy => by
          have := Hhab.out y hy
          rw [Hn0.out] at this
          rw [Hls.out]
          omega)
         rw [← hsg2] at HLb HgP
         clear hL2 hk1 HL9 Hgd Hhab hsg2 hpc hk2 hx g1 g2
         obtain ⟨Ra, xa, hra⟩ := HLb.out.fl.s1
         obtain ⟨n1, hn1⟩ : ∃ n, (ag).length = n := ⟨_, rfl⟩
         have hrao := hra.own
         rw [List.length_map, hn1] at hrao
         obtain ⟨A1, c1, rfl, _, _, _⟩ := own_form hrao
         obtain ⟨y0, y1, y2, y3⟩ := blkS4 HLb.out.mod
         have havr := HLb.out.avr
         rw [Hna.out] at havr
         have zlh : lo + 2 < (wb).heap.size := HLb.out.mod.lt
         have hn1k : n1 ≤ 30 := by omega
         go_wp2_with fail
         refine (s_l04Assign (N := ((sg2).length : Int)) ((n0 : Nat) : Int) HLb.out.cur hgl (by omega) hra (by omega) (by omega) havr Hab2.out).mono ?_
         rintro e w6 ⟨v1', os, Rb, xb, rfl, hrb, hops, hcb, hgb⟩
         obtain ⟨A1', c1', rfl⟩ : ∃ A c, v1' = .slice A (n1 + 1) c := by
          obtain ⟨A, c, h, _⟩ := own_form hrb.own
          exact ⟨A, c, by rw [h, List.length_map, List.length_append, hn1]; rfl⟩
         have HL6' := Lib.hid (HLb.out.call hgb hcb)
         have Hrb := Lib.hid hrb
         have Hops := Lib.hid hops
         clear hra hrao havr hrb hops hcb hgb y0 y1 y2 y3
         obtain ⟨y0, y1, y2, y3⟩ := blkS4 HL6'.out.mod
         have f0 := HL6'.out.mod.frozen 0
         have f1 := HL6'.out.mod.frozen 1
         have f2 := HL6'.out.mod.frozen 2
         have f3 := HL6'.out.mod.frozen 3
         go_upto_region 58 with fail
         obtain ⟨wz, hwz⟩ : ∃ wz, wz = ((((w6.setCell ⟨lo + 2, 0, none⟩ (.slice A9 (n0 + 1) c9)).setCell ⟨lo + 2, 1, none⟩ (.slice A1' (n1 + 1) c1')).setCell ⟨lo + 2, 2, none⟩ (.slice A2 n2 c2)).setCell ⟨lo + 2, 3, none⟩ (.slice A3 n3 c3)) := ⟨_, rfl⟩
         have hz := HL6'.out.assigned Hrb.out
         rw [← hwz] at hz ⊢
         have HLz := Lib.hid hz
         clear hz hwz y0 y1 y2 y3 f0 f1 f2 f3 HL6' hn1k
         have hav := HLz.out.avr
         rw [Hna.out] at hav
         have Hav := Lib.hid hav
         obtain ⟨y0, y1, y2, y3⟩ := blkS4 HLz.out.mod
         obtain ⟨i0, hi, hz0, hz1, hz2⟩ := info_parts Tryd.infoIntC
         have zz7 : lo + 2 < (wz).heap.size := HLz.out.mod.lt
         clear hav
         go_wp2_with (at_builtin; refine wpList_append_any _ rfl _ _ 73 rfl (lo) 3 i0 (.int .i64 0) 1 8 Tryd.underlying73 hi hz0 hz1 hz2 rfl (by decide) _ _ _ rfl (Hav.out.alloc _) _ _ 1 1 _ rfl (reads_new _ _ 1 1 rfl) (by intro u hu; simp at hu; first | (subst hu; rfl) | (rcases hu with rfl | rfl <;> rfl) | (rcases hu with rfl | rfl | rfl <;> rfl)) (by unfold maxLen; omega) (by omega) (by (try simp) <;> (try omega)) ?_; intro v7 w7 hown7 hgrow7 hblk7; refine stopX ?_)
         have HL7 := Lib.hid ((HLz.out.alloc _).pushAv (L := [((n0 : Nat) : Int)]) (by rw [List.length_append, List.length_singleton, Hna.out, ints_app]; exact hown7) hgrow7 hblk7)
         clear hown7 hgrow7 hblk7 hi hz0 hz1 hz2 y0 y1 y2 y3 Hav
         refine stopped ?_
         go_wp2_with fail
         go_roundw
         case rel => exact ⟨k + 1, _, _, sg2, ag ++ [(((n0 : Nat) : Int), os)], avL ++ [((n0 : Nat) : Int)], by omega, by go_num, HL7.out, HgP.out.assign (s := n0) (.inr rfl) Hops.out (fun s => by
          constructor
          ·intro h
           exact ⟨.inl h, by omega⟩
          ·rintro ⟨h | h, hne⟩
           ·exact h
           ·exact absurd h hne), by rw [Hls.out]; omega, by rw [Hls.out]; omega, by rw [List.length_append]; simp; omega, hpc2, by rw [List.length_append, Hna.out]; simp; omega, fun y hy => by
          rcases List.mem_append.1 hy with hy | hy
          ·exact Hab2.out y hy
          ·rw [List.mem_singleton.1 hy, Hls.out]; omega⟩
         case measure => simp [intOf]; omega
         -- </G2>
         -- </G>
        ·have hkO : nO = k := by omega
         obtain rfl := hkO
         have g2 : (nO : Int) ≤ (nO : Int) := Int.le_refl _
         have Hsl := Lib.hid (show nI + nR ≤ n0 ∧ n0 ≤ 18 by omega)
         have hag13 : ag.length ≤ 13 := by omega
         have hpc4 : sg.countP isPort ≤ 4 := by omega
         have hna15 : na ≤ 15 := by omega
         clear hlt g1 hk hmin hsl hagl hpc hal
         go_wp2_with fail
         clear g2
         go_loopw [24] (fun iv wr => ∃ (j : Nat) (u1 : Value) (ag : List TAssign), j ≤ nR ∧ iv = .int .i64 j ∧ LmS w wr B g lo (.slice Ad nd cd) (.slice a0 n0 c0) u1 (.slice A2 n2 c2) (.slice A3 n3 c3) (sg, ag, ins, mm) R (.slice aa na ca) avL (.slice ar nR cr) nI nR ∧ GdM d (sg, ag, ins, mm) (fun s => nI + j ≤ s ∧ s < nI + nR) ∧ ag.length ≤ 13 + j) (fun iv _ => nR - (intOf iv).toNat)
         case atStart => exact ⟨0, u1, ag, Nat.zero_le _, rfl, HL8.out, Hgd.out, by omega⟩
         case round =>
          obtain ⟨j, v1, ag2, hj, rfl, hL, hgd, hal2⟩ := hrel
          obtain ⟨we, hwe⟩ : ∃ x, x = wr := ⟨_, rfl⟩
          subst hwe
          have HLe := Lib.hid hL
          have Hge := Lib.hid hgd
          have gi : (0 : Int) ≤ (j : Int) := by omega
          clear hL hgd HL8 Hgd
          by_cases hlj : j < nR
          ·-- <H>
           have gi2 : (j : Int) < (nR : Int) := by omega
           obtain ⟨ad, xr, had, hadb, hadl, hxr, hcr⟩ := own_atD HLe.out.rgr hlj
           obtain rfl := had
           obtain ⟨rfl, _⟩ := fromN_get hxr
           obtain ⟨Ra, xa, hra⟩ := HLe.out.fl.s1
           obtain ⟨n1, hn1⟩ : ∃ n, ag2.length = n := ⟨_, rfl⟩
           have hrao := hra.own
           rw [List.length_map, hn1] at hrao
           obtain ⟨A1, c1, rfl, _, _, _⟩ := own_form hrao
           obtain ⟨y0, y1, y2, y3⟩ := blkS4 HLe.out.mod
           have zle := HLe.out.mod.lt
           have hneM : ¬ (lo + 2 = g) := by omega
           have hneA : ¬ (ad.block = g) := by omega
           have kc0 := ocel (S := fun b => b = g) y0 zle hneM
           have kc1 := ocel (S := fun b => b = g) y1 zle hneM
           have kc2 := ocel (S := fun b => b = g) y2 zle hneM
           have kc3 := ocel (S := fun b => b = g) y3 zle hneM
           have kc4 := ocel (S := fun b => b = g) hcr (by rw [block_of_add]; exact hadb) (by rw [block_of_add]; exact hneA)
           have hn1k : n1 ≤ 15 := by omega
           have havr := HLe.out.drew.avr
           rw [Hna.out] at havr
           have HLd := Lib.hid HLe.out.drew
           have zlh : lo + 2 < we.heap.size := zle
           have hrad := hra.only ((Only.refl (fun _ => False) we).drew) (NoT.none _ _ _)
           clear y0 y1 y2 y3 zle hneM hneA hcr hxr hrao
           go_wp2_with fail
           refine wp_region_lexC (by kernel_rfl) (by kernel_rfl) (fun x => Only (fun b => b = g) we x) ((Only.refl _ _).drew) (fun lexNE => ?_)
           (repeat (first | (refine lex_r fun K hK => ?_; go_big_quiet_op; refine hK _ ?_; clear hK K) | (refine lex_k fun K hK => ?_; go_simp; refine hK _ ?_; clear hK K)))
           (refine lex_e fun K hK => ?_; go_big_op)
           refine (s_l04Assign (N := (sg.length : Int)) ((nI + j : Nat) : Int) HLd.out.cur hgl (by show lo ≤ we.heap.size; omega) hrad (by omega) (by omega) havr Hhab.out).mono ?_
           rintro e w6 ⟨v1', os, Rb, xb, rfl, hrb, hops, hcb, hgb⟩
           obtain ⟨A1', c1', rfl⟩ : ∃ A c, v1' = .slice A (n1 + 1) c := by
            obtain ⟨A, c, h, _⟩ := own_form hrb.own
            exact ⟨A, c, by rw [h, List.length_map, List.length_append, hn1]; rfl⟩
           have HL6' := Lib.hid (HLd.out.call hgb hcb)
           have Hrb := Lib.hid hrb
           have Hops := Lib.hid hops
           refine hK _ _ (Cls.mk' (((Only.refl (fun b => b = g) we).drew).trans ((only_row hgb).more (fun b hb => by injection hb with hb; exact hb.symm)))) ?_
           clear hK K hra havr hrad hrb hops hcb hgb
           obtain ⟨y0, y1, y2, y3⟩ := blkS4 HL6'.out.mod
           have f0 := HL6'.out.mod.frozen 0
           have f1 := HL6'.out.mod.frozen 1
           have f2 := HL6'.out.mod.frozen 2
           have f3 := HL6'.out.mod.frozen 3
           (repeat (first | (refine lex_r fun K hK => ?_; go_big_quiet_op; refine hK _ ?_; clear hK K) | (refine lex_k fun K hK => ?_; go_simp; refine hK _ ?_; clear hK K)))
           (refine lex_l fun K hK => ?_; go_big_op)
           (refine hK _ _ ?_; clear hK K)
           clear lexNE kc0 kc1 kc2 kc3 kc4 y0 y1 y2 y3 f0 f1 f2 f3
           obtain ⟨wz, hwz⟩ : ∃ wz, wz = ((((w6.setCell ⟨lo + 2, 0, none⟩ (.slice a0 n0 c0)).setCell ⟨lo + 2, 1, none⟩ (.slice A1' (n1 + 1) c1')).setCell ⟨lo + 2, 2, none⟩ (.slice A2 n2 c2)).setCell ⟨lo + 2, 3, none⟩ (.slice A3 n3 c3)) := ⟨_, rfl⟩
           have hz := HL6'.out.assigned Hrb.out
           rw [← hwz] at hz ⊢
           have HLz := Lib.hid hz
           clear hz hwz HL6' hn1k
           go_wp2_with fail
           go_roundw
           case rel => exact ⟨j + 1, _, ag2 ++ [(((nI + j : Nat) : Int), os)], by omega, by go_num, HLz.out, Hge.out.assign (s := nI + j) ⟨by omega, by omega⟩ Hops.out (fun s => by omega), by rw [List.length_append, List.length_singleton]; omega⟩
           case measure => simp [intOf]; omega
           -- </H>
          ·have hjR : nR = j := by omega
           obtain rfl := hjR
           have gi2 : (nR : Int) ≤ (nR : Int) := Int.le_refl _
           obtain ⟨n1, hn1⟩ : ∃ n, ag2.length = n := ⟨_, rfl⟩
           obtain ⟨A1, c1, rfl⟩ : ∃ A c, v1 = .slice A n1 c := by
            obtain ⟨Ra, xa, hra⟩ := HLe.out.fl.s1
            obtain ⟨A, c, h, _⟩ := own_form hra.own
            exact ⟨A, c, by rw [h, List.length_map, hn1]⟩
           obtain ⟨y0, y1, y2, y3⟩ := blkS4 HLe.out.mod
           obtain ⟨r0, r1, r2, r3⟩ := blkS4 HLe.out.res
           have f0 := HLe.out.res.frozen 0
           have f1 := HLe.out.res.frozen 1
           have f2 := HLe.out.res.frozen 2
           have f3 := HLe.out.res.frozen 3
           go_wp2_with fail
           obtain ⟨wf, hwf⟩ : ∃ wf, wf = ((((we.setCell ⟨lo + 1, 0, none⟩ (.slice a0 n0 c0)).setCell ⟨lo + 1, 1, none⟩ (.slice A1 n1 c1)).setCell ⟨lo + 1, 2, none⟩ (.slice A2 n2 c2)).setCell ⟨lo + 1, 3, none⟩ (.slice A3 n3 c3)) := ⟨_, rfl⟩
           have hRf : Blk wf (lo + 1) 50 #[.slice a0 n0 c0, .slice A1 n1 c1, .slice A2 n2 c2, .slice A3 n3 c3] := by rw [hwf]; exact blk_four HLe.out.res
           have hof : Only (fun b => b = lo + 1) we wf := by rw [hwf]; exact mod_four4 HLe.out.res _ _ _ _
           obtain ⟨s0, s1, s2, s3⟩ := blkS4 hRf
           rw [← hwf]
           refine bodyPost_ret (v := .agg #[.slice a0 n0 c0, .slice A1 n1 c1, .slice A2 n2 c2, .slice A3 n3 c3]) (by simp [results, Tryd.results18, go_sem, s0, s1, s2, s3]) rfl ?_
           have hnt : ∀ ts, 50 ∉ ts → NoT we lo (fun b => b = lo + 1) ts := fun ts hts b t hb _ ht hm' => by subst hb; exact hts (ht.inj HLe.out.res.of ▸ hm')
           obtain ⟨xs, hin⟩ := HLe.out.ins
           refine ⟨_, _, _, _, (sg, ag2, ins, mm), rfl, ?_, ?_, ⟨Hge.out.same (fun s => ⟨fun h => by omega, fun h => h.elim⟩), ?_, ?_, ?_, ?_, ?_⟩, ?_, ?_⟩
           ·rw [← Hlo.out]; exact HLe.out.fl.only hof (hnt _ (by decide))
           ·rw [← Hlo.out]; exact ⟨_, _, hin.only hof (hnt _ (by decide))⟩
           ·show sg.length ≤ 30
            rw [Hn0.out]; have := Hsl.out; omega
           ·show ag2.length ≤ 30
            omega
           ·show ins.length ≤ 3
            omega
           ·show mm.length ≤ 2
            omega
           ·exact Nat.le_trans (portsM_cnt _) hpc4
           ·exact cur_only HLe.out.cur hof (fun b hb => by have := HLe.out.cur.le; omega)
           ·exact grown_only HLe.out.gro hof (fun b hb => by have := Hlo.out; omega)
end Go.Proofs.YtolndlmhbnpmeaaDoor

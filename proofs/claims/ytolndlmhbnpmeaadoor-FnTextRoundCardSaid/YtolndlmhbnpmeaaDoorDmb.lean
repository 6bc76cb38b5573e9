/- Words: a module that is drawn, in memory. -/
import Derived.Test.YtolndlmhbnpmeaaDoorDma
import Derived.Test.YtolndlmhbnpmeaaDoorDmp
import Derived.Outline
namespace Go.Proofs.YtolndlmhbnpmeaaDoor
open Go.RowKit

theorem RwS.only2 {w w' : World} {lo size : Nat} {e p : TypeId} {v : Value} {rows : List (List Fd)} {R C : Nat → Prop} {xs : List Value} (h : RwS w lo e p size v rows R xs) (ho : Only C w w') (h1 : ∀ g, v.ownBlock = some g → ¬ C g) (h2 : ∀ b, R b → ¬ C b) : RwS w' lo e p size v rows R xs := by
 have k1 : ∀ g, v.ownBlock = some g → w'.heap[g]? = w.heap[g]? := fun g hg => ho.block g (h.own.lt g hg).2 (h1 g hg)
 have k2 : ∀ b, R b → w'.heap[b]? = w.heap[b]? := fun b hb => ho.block b (h.rng b hb).2.lt (h2 b hb)
 exact ⟨own_keep h.own k1, fun b hb => ⟨(h.rng b hb).1, (h.rng b hb).2.keep (k2 b hb)⟩, h.parts.keep k2 (fun _ hb => hb), h.lens⟩
/-- the module's box, its lists, the signals that may be read (av), the registers (rg) -/
structure LmS (w0 w : World) (B g lo : Nat) (dv u0 u1 u2 u3 : Value) (m : TModule) (R : Nat → Prop) (av : Value) (avL : List Int) (rg : Value) (n1 nr : Nat) : Prop where
 cur : Cur B g w
 gro : w0.grownBy w (some g)
 hlo : w0.heap.size = lo ∧ g < lo
 dbx : Blk w lo 26 #[dv]
 res : Blk w (lo + 1) 50 #[.slice none 0 0, .slice none 0 0, .slice none 0 0, .slice none 0 0]
 mod : Blk w (lo + 2) 50 #[u0, u1, u2, u3]
 fl : FlS w lo u0 u1 u3 m.1 m.2.1 m.2.2.2
 ins : ∃ xs, RwS w lo 75 3 3 u2 (m.2.2.1.map rInst) R xs
 avr : w.ownsRow lo 3 1 av avL.length (ints avL)
 rgr : w.ownsRow lo 3 1 rg nr (ints (fromN n1 nr))
 dR : ∀ b, R b → av.ownBlock ≠ some b ∧ rg.ownBlock ≠ some b
 dA : ∀ b, rg.ownBlock = some b → av.ownBlock ≠ some b
section
variable {w0 w w' : World} {B g lo n1 nr : Nat} {dv u0 u1 u2 u3 v' av rg : Value} {m : TModule} {R C : Nat → Prop} {avL : List Int}
/-- what is kept when other blocks change -/
theorem LmS.only (h : LmS w0 w B g lo dv u0 u1 u2 u3 m R av avL rg n1 nr) (ho : Only C w w') (hc : Cur B g w') (hg : w0.grownBy w' (some g))
  (hC : ∀ b t, C b → lo ≤ b → OfT w t b → t ∉ [26, 50, 66, 69, 71, 75, 77] ∧ (t = 3 → ¬ R b ∧ av.ownBlock ≠ some b ∧ rg.ownBlock ≠ some b)) : LmS w0 w' B g lo dv u0 u1 u2 u3 m R av avL rg n1 nr := by
 have kb : ∀ {b t} {cs : Array Value}, Blk w b t cs → lo ≤ b → t ∈ [26, 50] → Blk w' b t cs := fun {b t cs} hb hl ht => ho.blk hb (fun hcb => (hC b t hcb hl hb.of).1 (by
  rcases List.mem_cons.1 ht with rfl | ht
  ·simp
  ·rw [List.mem_singleton.1 ht]; simp))
 have kr : ∀ {v : Value} {k : Nat} {xs : List Value}, w.ownsRow lo 3 1 v k xs → (∀ b, v.ownBlock = some b → ¬ C b) → w'.ownsRow lo 3 1 v k xs := fun {v k xs} hr hn => own_keep hr (fun b hb => ho.block b (hr.lt b hb).2 (hn b hb))
 obtain ⟨xs, hin⟩ := h.ins
 refine ⟨hc, hg, h.hlo, kb h.dbx (Nat.le_refl _) (by simp), kb h.res (by omega) (by simp), kb h.mod (by omega) (by simp), h.fl.only ho (fun b t hb hl ht hm => (hC b t hb hl ht).1 (by
  simp only [List.mem_cons, List.not_mem_nil, or_false] at hm ⊢
  rcases hm with rfl | rfl | rfl | rfl <;> simp)), ⟨xs, hin.only2 ho (fun b hb hcb => (hC b _ hcb (hin.own.lt b hb).1 (own_of hin.own hb)).1 (by simp)) (fun b hb hcb => ((hC b _ hcb (hin.rng b hb).1 (hin.rng b hb).2).2 rfl).1 hb)⟩, kr h.avr (fun b hb hcb => ((hC b _ hcb (h.avr.lt b hb).1 (own_of h.avr hb)).2 rfl).2.1 hb), kr h.rgr (fun b hb hcb => ((hC b _ hcb (h.rgr.lt b hb).1 (own_of h.rgr hb)).2 rfl).2.2 hb), h.dR, h.dA⟩
theorem LmS.call (h : LmS w0 w B g lo dv u0 u1 u2 u3 m R av avL rg n1 nr) (hg : w.grownBy w' (some g)) (hc : Cur B g w') : LmS w0 w' B g lo dv u0 u1 u2 u3 m R av avL rg n1 nr :=
 h.only (only_row hg) hc (h.gro.trans hg) (fun b t hb hl _ => by injection hb with hb; have := h.hlo.2; omega)
theorem LmS.alloc (h : LmS w0 w B g lo dv u0 u1 u2 u3 m R av avL rg n1 nr) (o : Obj) : LmS w0 (w.alloc o) B g lo dv u0 u1 u2 u3 m R av avL rg n1 nr :=
 h.only (C := fun _ => False) ((Only.refl _ _).alloc o) (h.cur.alloc o) (h.gro.trans (World.grownBy_alloc _ _ _)) (fun _b _t hb => hb.elim)
theorem LmS.below (h : LmS w0 w B g lo dv u0 u1 u2 u3 m R av avL rg n1 nr) (hb : Below w.heap.size w w') : LmS w0 w' B g lo dv u0 u1 u2 u3 m R av avL rg n1 nr :=
 h.only (C := fun _ => False) (Only.of_below hb _) (cur_only h.cur (Only.of_below hb (fun _ => False)) (fun _b hb => hb.elim)) (grown_only h.gro (Only.of_below hb (fun _ => False)) (fun _b hb => hb.elim)) (fun _b _t hb => hb.elim)
theorem LmS.drew (h : LmS w0 w B g lo dv u0 u1 u2 u3 m R av avL rg n1 nr) : LmS w0 w.drew B g lo dv u0 u1 u2 u3 m R av avL rg n1 nr :=
 h.only (C := fun _ => False) ((Only.refl _ _).drew) (cur_drew h.cur) (only_drew h.gro) (fun _b _t hb => hb.elim)
theorem LmS.curG (h : LmS w0 w B g lo dv u0 u1 u2 u3 m R av avL rg n1 nr) {row : Option Nat} (hg : w.grownBy w' row) (hr : ∀ b, row = some b → lo ≤ b) : Cur B g w' :=
 h.cur.grown hg (fun b hb => by have := hr b hb; have := h.cur.le; have := h.hlo.2; exact ⟨by omega, by omega⟩)
theorem LmS.groG (h : LmS w0 w B g lo dv u0 u1 u2 u3 m R av avL rg n1 nr) {row : Option Nat} (hg : w.grownBy w' row) (hr : ∀ b, row = some b → lo ≤ b) : w0.grownBy w' (some g) :=
 grown_more h.gro hg (fun b hb => by have := hr b hb; have := h.hlo.1; omega)
/-- another row of numbers grows -/
theorem LmS.introw (h : LmS w0 w B g lo dv u0 u1 u2 u3 m R av avL rg n1 nr) {base k : Nat} {v : Value} {xs : List Value} (ho : w.ownsRow base 3 1 v k xs) (hl : lo ≤ base) (hg : w.grownBy w' v.ownBlock)
  (hd : ∀ b, v.ownBlock = some b → ¬ R b ∧ av.ownBlock ≠ some b ∧ rg.ownBlock ≠ some b) : LmS w0 w' B g lo dv u0 u1 u2 u3 m R av avL rg n1 nr :=
 h.only (only_row hg) (h.curG hg (fun b hb => by have := (ho.lt b hb).1; omega)) (h.groG hg (fun b hb => by have := (ho.lt b hb).1; omega)) (fun b t hb _ ht => by
  rw [← (own_of ho hb).inj ht]
  exact ⟨by decide, fun _ => hd b hb⟩)
/-- a cell of a block of another type -/
theorem LmS.put (h : LmS w0 w B g lo dv u0 u1 u2 u3 m R av avL rg n1 nr) {b0 : Nat} {t0 : TypeId} (hb0 : OfT w t0 b0) (hl : lo ≤ b0) (ht0 : t0 ∉ [26, 50, 66, 69, 71, 77, 3]) (hi : t0 = 75 → ∀ b, u2.ownBlock = some b → b ≠ b0) (i : Nat) (u : Value) : LmS w0 (w.setCell ⟨b0, i, none⟩ u) B g lo dv u0 u1 u2 u3 m R av avL rg n1 nr := by
 have ho : Only (fun b => b = b0) w (w.setCell ⟨b0, i, none⟩ u) := (Only.refl (fun b => b = b0) w).setCell (p := ⟨b0, i, none⟩) (.inl rfl) u
 have hne : ∀ {b t}, OfT w t b → t ∈ [26, 50, 66, 69, 71, 77, 3] → ¬ b = b0 := fun {b t} hb ht e => by subst e; exact ht0 (hb0.inj hb ▸ ht)
 obtain ⟨xs, hin⟩ := h.ins
 have hl1 := h.hlo
 refine ⟨cur_only h.cur ho (fun b hb => by omega), grown_only h.gro ho (fun b hb => by omega), h.hlo, ho.blk h.dbx (hne h.dbx.of (by simp)), ho.blk h.res (hne h.res.of (by simp)), ho.blk h.mod (hne h.mod.of (by simp)), h.fl.only ho (fun b t hb _ ht hm => hne ht (by
  simp only [List.mem_cons, List.not_mem_nil, or_false] at hm ⊢
  rcases hm with rfl | rfl | rfl | rfl <;> simp) hb), ⟨xs, hin.only2 ho (fun b hb e => ?_) (fun b hb => hne (hin.rng b hb).2 (by simp))⟩, own_keep h.avr (fun b hb => ho.block b (h.avr.lt b hb).2 (hne (own_of h.avr hb) (by simp))), own_keep h.rgr (fun b hb => ho.block b (h.rgr.lt b hb).2 (hne (own_of h.rgr hb) (by simp))), h.dR, h.dA⟩
 subst e
 exact hi (hb0.inj (own_of hin.own hb)) b hb rfl
theorem LmS.reb (h : LmS w0 w B g lo dv u0 u1 u2 u3 m R av avL rg n1 0) (k : Nat) : LmS w0 w B g lo dv u0 u1 u2 u3 m R av avL rg k 0 :=
 ⟨h.cur, h.gro, h.hlo, h.dbx, h.res, h.mod, h.fl, h.ins, h.avr, h.rgr, h.dR, h.dA⟩
theorem LmS.ne0 (h : LmS w0 w B g lo dv u0 u1 u2 u3 m R av avL rg n1 nr) : ¬ (lo + 2 = g ∨ u0.ownBlock = some (lo + 2)) := by
 rintro (h1 | h1)
 ·have := h.hlo.2; omega
 ·exact absurd ((own_of h.fl.s0 h1).inj h.mod.of) (by decide)
theorem LmS.lt (h : LmS w0 w B g lo dv u0 u1 u2 u3 m R av avL rg n1 nr) : ∀ b, R b ∨ av.ownBlock = some b ∨ rg.ownBlock = some b → b < w.heap.size := by
 rintro b (hb | hb | hb)
 ·obtain ⟨xs, hin⟩ := h.ins
  exact (hin.rng b hb).2.lt
 ·exact (h.avr.lt b hb).2
 ·exact (h.rgr.lt b hb).2
theorem rep_gro {w w' : World} {g : Nat} {S : Nat → Prop} {v : Value} {f : Fd} (h : Rep w S v f) (hg : w.grownBy w' (some g)) (hS : ∀ b, S b → g < b ∧ b < w.heap.size) : Rep w' S v f :=
 h.keep (fun p hp => World.cell?_of_block (hg.block p.block (hS _ hp).2 (fun e => by injection e with e; have := (hS _ hp).1; omega)))
theorem rep_only {w w' : World} {S C : Nat → Prop} {v : Value} {f : Fd} (h : Rep w S v f) (ho : Only C w w') (hS : ∀ b, S b → b < w.heap.size ∧ ¬ C b) : Rep w' S v f :=
 h.keep (fun p hp => World.cell?_of_block (ho.block p.block (hS _ hp).1 (hS _ hp).2))
/-- a number more to read -/
theorem LmS.pushAv (h : LmS w0 w B g lo dv u0 u1 u2 u3 m R av avL rg n1 nr) {L : List Int} (hown : w'.ownsRow lo 3 1 v' (avL ++ L).length (ints (avL ++ L))) (hg : w.grownBy w' av.ownBlock)
  (hb : v'.ownBlock = av.ownBlock ∨ v'.ownBlock = some w.heap.size) : LmS w0 w' B g lo dv u0 u1 u2 u3 m R v' (avL ++ L) rg n1 nr := by
 have hr : ∀ b, av.ownBlock = some b → lo ≤ b := fun b hb => (h.avr.lt b hb).1
 have ho := only_row hg
 obtain ⟨xs, hin⟩ := h.ins
 refine ⟨h.curG hg hr, h.groG hg hr, h.hlo, blk_row2 h.dbx h.avr (by decide) hg, blk_row2 h.res h.avr (by decide) hg, blk_row2 h.mod h.avr (by decide) hg, h.fl.only ho (grown_not h.avr (by decide)), ⟨xs, hin.only2 ho (fun b hb hc => absurd ((own_of hin.own hb).inj (own_of h.avr hc)) (by decide)) (fun b hb => (h.dR b hb).1)⟩, hown, own_keep h.rgr (fun b hb => ho.block b (h.rgr.lt b hb).2 (h.dA b hb)), fun b hb' => ⟨?_, (h.dR b hb').2⟩, fun b hb' => ?_⟩
 ·rcases hb with e | e
  ·rw [e]; exact (h.dR b hb').1
  ·rw [e]
   have := (hin.rng b hb').2.lt
   intro e2
   injection e2 with e2
   omega
 ·rcases hb with e | e
  ·rw [e]; exact h.dA b hb'
  ·rw [e]
   have := (h.rgr.lt b hb').2
   intro e2
   injection e2 with e2
   omega
/-- a register more -/
theorem LmS.pushRg (h : LmS w0 w B g lo dv u0 u1 u2 u3 m R av avL rg n1 nr) (hown : w'.ownsRow lo 3 1 v' (nr + 1) (ints (fromN n1 (nr + 1)))) (hg : w.grownBy w' rg.ownBlock)
  (hb : v'.ownBlock = rg.ownBlock ∨ v'.ownBlock = some w.heap.size) : LmS w0 w' B g lo dv u0 u1 u2 u3 m R av avL v' n1 (nr + 1) := by
 have hr : ∀ b, rg.ownBlock = some b → lo ≤ b := fun b hb => (h.rgr.lt b hb).1
 have ho := only_row hg
 obtain ⟨xs, hin⟩ := h.ins
 refine ⟨h.curG hg hr, h.groG hg hr, h.hlo, blk_row2 h.dbx h.rgr (by decide) hg, blk_row2 h.res h.rgr (by decide) hg, blk_row2 h.mod h.rgr (by decide) hg, h.fl.only ho (grown_not h.rgr (by decide)), ⟨xs, hin.only2 ho (fun b hb hc => absurd ((own_of hin.own hb).inj (own_of h.rgr hc)) (by decide)) (fun b hb => (h.dR b hb).2)⟩, own_keep h.avr (fun b hb => ho.block b (h.avr.lt b hb).2 (fun hc => h.dA b hc hb)), hown, fun b hb' => ⟨(h.dR b hb').1, ?_⟩, fun b hb' => ?_⟩
 ·rcases hb with e | e
  ·rw [e]; exact (h.dR b hb').2
  ·rw [e]
   have := (hin.rng b hb').2.lt
   intro e2
   injection e2 with e2
   omega
 ·rcases hb with e | e
  ·rw [e] at hb'; exact h.dA b hb'
  ·rw [e] at hb'
   injection hb' with hb'
   intro e2
   have := (h.avr.lt b e2).2
   omega
/-- a row of the module has grown; its cell in the box is written -/
theorem LmS.base {t : TypeId} {k size j : Nat} {v : Value} {xs : List Value} (h : LmS w0 w B g lo dv u0 u1 u2 u3 m R av avL rg n1 nr) (hor : w.ownsRow lo t size v k xs) (ht : t ∉ [26, 50, 3]) (hg : w.grownBy w' v.ownBlock) :
  Cur B g (w'.setCell ⟨lo + 2, j, none⟩ v') ∧ w0.grownBy (w'.setCell ⟨lo + 2, j, none⟩ v') (some g) ∧ Blk (w'.setCell ⟨lo + 2, j, none⟩ v') lo 26 #[dv] ∧ Blk (w'.setCell ⟨lo + 2, j, none⟩ v') (lo + 1) 50 #[.slice none 0 0, .slice none 0 0, .slice none 0 0, .slice none 0 0] ∧
  Blk w' (lo + 2) 50 #[u0, u1, u2, u3] ∧ (w'.setCell ⟨lo + 2, j, none⟩ v').ownsRow lo 3 1 av avL.length (ints avL) ∧ (w'.setCell ⟨lo + 2, j, none⟩ v').ownsRow lo 3 1 rg nr (ints (fromN n1 nr)) := by
 simp only [List.mem_cons, List.not_mem_nil, or_false, not_or] at ht
 have hr : ∀ b, v.ownBlock = some b → lo ≤ b := fun b hb => (hor.lt b hb).1
 have hl := h.hlo
 have ho : Only (fun b => b = lo + 2) w' (w'.setCell ⟨lo + 2, j, none⟩ v') := (Only.refl (fun b => b = lo + 2) w').setCell (p := ⟨lo + 2, j, none⟩) (.inl rfl) v'
 have km := blk_row2 h.mod hor ht.2.1 hg
 have kr : ∀ {u : Value} {k : Nat} {xs : List Value}, w.ownsRow lo 3 1 u k xs → (w'.setCell ⟨lo + 2, j, none⟩ v').ownsRow lo 3 1 u k xs := fun {u k xs} hu => by
  have h1 := own_keep hu (fun b hb => hg.block b (hu.lt b hb).2 (fun e => ht.2.2 ((own_of hor e.symm).inj (own_of hu hb))))
  exact own_keep h1 (fun b hb => ho.block b (h1.lt b hb).2 (fun e => by subst e; exact absurd ((own_of h1 hb).inj km.of) (by decide)))
 exact ⟨cur_only (h.curG hg hr) ho (fun b hb => by omega), grown_only (h.groG hg hr) ho (fun b hb => by omega), blk_off2 (blk_row2 h.dbx hor ht.1 hg) (by omega) _ _, blk_off2 (blk_row2 h.res hor ht.2.1 hg) (by omega) _ _, km, kr h.avr, kr h.rgr⟩
theorem LmS.pushSig (h : LmS w0 w B g lo dv u0 u1 u2 u3 m R av avL rg n1 nr) {x : TSignal} (hown : w'.ownsRow lo 66 3 v' (m.1.length + 1) (recs eSg m.1 ++ [.int .i64 x.1, .int .i64 x.2.1, .int .i64 x.2.2])) (hg : w.grownBy w' u0.ownBlock) :
  LmS w0 (w'.setCell ⟨lo + 2, 0, none⟩ v') B g lo dv v' u1 u2 u3 (m.1 ++ [x], m.2) R av avL rg n1 nr := by
 obtain ⟨k1, k2, k3, k4, k5, k6, k7⟩ := h.base (v' := v') (j := 0) h.fl.s0 (by decide) hg
 obtain ⟨xs, hin⟩ := h.ins
 have hi := (hin.only (only_row hg) (grown_not h.fl.s0 (by decide))).only ((Only.refl (fun b => b = lo + 2) w').setCell (p := ⟨lo + 2, 0, none⟩) (.inl rfl) v') (fun b t hb _ ht hm => by subst hb; rw [← k5.of.inj ht] at hm; exact absurd hm (by decide))
 exact ⟨k1, k2, h.hlo, k3, k4, k5.set_ 0 _, (h.fl.pushS hown hg).set k5.of (by decide) _ _, ⟨xs, hi⟩, k6, k7, h.dR, h.dA⟩
theorem LmS.pushSigL (h : LmS w0 w B g lo dv u0 u1 u2 u3 m R av avL rg n1 nr) {L : List TSignal} (hown : w'.ownsRow lo 66 3 v' (m.1 ++ L).length (recs eSg (m.1 ++ L))) (hg : w.grownBy w' u0.ownBlock) :
  LmS w0 (w'.setCell ⟨lo + 2, 0, none⟩ v') B g lo dv v' u1 u2 u3 (m.1 ++ L, m.2) R av avL rg n1 nr := by
 obtain ⟨k1, k2, k3, k4, k5, k6, k7⟩ := h.base (v' := v') (j := 0) h.fl.s0 (by decide) hg
 obtain ⟨xs, hin⟩ := h.ins
 obtain ⟨h0, ⟨R1, x1, h1⟩, h3⟩ := h.fl
 have hi := (hin.only (only_row hg) (grown_not h0 (by decide))).only ((Only.refl (fun b => b = lo + 2) w').setCell (p := ⟨lo + 2, 0, none⟩) (.inl rfl) v') (fun b t hb _ ht hm => by subst hb; rw [← k5.of.inj ht] at hm; exact absurd hm (by decide))
 have hf : FlS w' lo v' u1 u3 (m.1 ++ L) m.2.1 m.2.2.2 := ⟨hown, ⟨R1, x1, h1.only (only_row hg) (grown_not h0 (by decide))⟩, own_keep h3 (fun b hb => (only_row hg).block b (h3.lt b hb).2 (fun hC => absurd ((own_of h0 hC).inj (own_of h3 hb)) (by decide)))⟩
 exact ⟨k1, k2, h.hlo, k3, k4, k5.set_ 0 _, hf.set k5.of (by decide) _ _, ⟨xs, hi⟩, k6, k7, h.dR, h.dA⟩
theorem LmS.pushMem (h : LmS w0 w B g lo dv u0 u1 u2 u3 m R av avL rg n1 nr) {x : TMem} (hown : w'.ownsRow lo 77 4 v' (m.2.2.2.length + 1) (recs eMm m.2.2.2 ++ [.int .i64 x.1, .int .i64 x.2.1, .int .i64 x.2.2.1, .int .i64 x.2.2.2])) (hg : w.grownBy w' u3.ownBlock) :
  LmS w0 (w'.setCell ⟨lo + 2, 3, none⟩ v') B g lo dv u0 u1 u2 v' (m.1, m.2.1, m.2.2.1, m.2.2.2 ++ [x]) R av avL rg n1 nr := by
 obtain ⟨k1, k2, k3, k4, k5, k6, k7⟩ := h.base (v' := v') (j := 3) h.fl.s3 (by decide) hg
 obtain ⟨xs, hin⟩ := h.ins
 have hi := (hin.only (only_row hg) (grown_not h.fl.s3 (by decide))).only ((Only.refl (fun b => b = lo + 2) w').setCell (p := ⟨lo + 2, 3, none⟩) (.inl rfl) v') (fun b t hb _ ht hm => by subst hb; rw [← k5.of.inj ht] at hm; exact absurd hm (by decide))
 exact ⟨k1, k2, h.hlo, k3, k4, k5.set_ 3 _, (h.fl.pushM hown hg).set k5.of (by decide) _ _, ⟨xs, hi⟩, k6, k7, h.dR, h.dA⟩
/-- an instance; its ports' row (A) joins the module's -/
theorem LmS.pushInst (h : LmS w0 w B g lo dv u0 u1 u2 u3 m R av avL rg n1 nr) {xs : List Value} {a b : Int} {ps : List Int} {A : Option Addr} {no c : Nat} (hin : RwS w lo 75 3 3 u2 (m.2.2.1.map rInst) R xs) (ho : w.ownsRow lo 3 1 (.slice A no c) no (ints ps)) (hm : no ≤ maxLen)
  (hA : ∀ b, (Value.slice A no c).ownBlock = some b → ¬ R b ∧ av.ownBlock ≠ some b ∧ rg.ownBlock ≠ some b)
  (hown : w'.ownsRow lo 75 3 v' (m.2.2.1.length + 1) (xs ++ [.int .i64 a, .int .i64 b, .slice A no c])) (hg : w.grownBy w' u2.ownBlock) :
  LmS w0 (w'.setCell ⟨lo + 2, 2, none⟩ v') B g lo dv u0 u1 v' u3 (m.1, m.2.1, m.2.2.1 ++ [(a, b, ps)], m.2.2.2) (fun k => R k ∨ (Value.slice A no c).ownBlock = some k) av avL rg n1 nr := by
 have hl2 : (m.2.2.1.map rInst).length = m.2.2.1.length := List.length_map _
 have hio := hin.own
 obtain ⟨k1, k2, k3, k4, k5, k6, k7⟩ := h.base (v' := v') (j := 2) hio (by decide) hg
 have kp : ∀ b, OfT w 3 b → w'.heap[b]? = w.heap[b]? := fun b hb => hg.block b hb.lt (fun he => absurd ((own_of hio he.symm).inj hb) (by decide))
 have hpar : RowsOf w' (fun k => R k ∨ (Value.slice A no c).ownBlock = some k) ((m.2.2.1 ++ [(a, b, ps)]).map rInst) 3 (xs ++ [.int .i64 a, .int .i64 b, .slice A no c]) := by
  rw [List.map_append]
  refine RowsOf.snoc (S := R) (Q := fun j b => j = 2 ∧ (Value.slice A no c).ownBlock = some b) (row := rInst (a, b, ps)) (hin.parts.keep (fun b hb => kp b (hin.rng b hb).2) (fun _ hb => hb)) hin.lens hin.own.1 (fun b hb => .inl hb) (fun j b hj => ⟨.inr hj.2, (hA b hj.2).1⟩) (fun j j' b h1 h2 => h1.1.trans h2.1.symm) (fun j f hf => ?_)
  match j, hf with
  | 0, hf => simp [rInst] at hf; subst hf; exact ⟨_, rfl, .int _ _⟩
  | 1, hf => simp [rInst] at hf; subst hf; exact ⟨_, rfl, .int _ _⟩
  | 2, hf =>
   simp [rInst] at hf
   subst hf
   have ho' := own_keep ho (fun b hb => kp b (own_of ho hb))
   exact ⟨_, rfl, sep_ints hm (own_mono ho' (Nat.zero_le _)) (fun g hg => ⟨rfl, hg⟩)⟩
  | j + 3, hf => simp [rInst] at hf
 have hnew : RwS w' lo 75 3 3 v' ((m.2.2.1 ++ [(a, b, ps)]).map rInst) (fun k => R k ∨ (Value.slice A no c).ownBlock = some k) (xs ++ [.int .i64 a, .int .i64 b, .slice A no c]) := by
  refine ⟨by rw [List.length_map, List.length_append]; exact hown, fun k hk => ?_, hpar, fun r hr => ?_⟩
  ·rcases hk with hk | hk
   ·exact ⟨(hin.rng k hk).1, (hin.rng k hk).2.keep (kp k (hin.rng k hk).2)⟩
   ·exact ⟨(ho.lt k hk).1, (own_of ho hk).keep (kp k (own_of ho hk))⟩
  ·obtain ⟨y, _, rfl⟩ := List.mem_map.1 hr
   rfl
 have hi := hnew.only ((Only.refl (fun b => b = lo + 2) w').setCell (p := ⟨lo + 2, 2, none⟩) (.inl rfl) v') (fun b t hb _ ht hm => by subst hb; rw [← k5.of.inj ht] at hm; exact absurd hm (by decide))
 exact ⟨k1, k2, h.hlo, k3, k4, k5.set_ 2 _, (h.fl.only (only_row hg) (grown_not hio (by decide))).set k5.of (by decide) _ _, ⟨_, hi⟩, k6, k7, fun k hk => by
  rcases hk with hk | hk
  ·exact h.dR k hk
  ·exact (hA k hk).2, h.dA⟩
/-- an assignment has been put behind; the module is laid in its box -/
theorem LmS.assigned (h : LmS w0 w B g lo dv u0 u1 u2 u3 m R av avL rg n1 nr) {ag : List TAssign} {R1 : Nat → Prop} {xs1 : List Value} (hr : RwS w lo 69 71 2 v' (ag.map rAssign) R1 xs1) :
  LmS w0 ((((w.setCell ⟨lo + 2, 0, none⟩ u0).setCell ⟨lo + 2, 1, none⟩ v').setCell ⟨lo + 2, 2, none⟩ u2).setCell ⟨lo + 2, 3, none⟩ u3) B g lo dv u0 v' u2 u3 (m.1, ag, m.2.2) R av avL rg n1 nr := by
 obtain ⟨wf, hwf⟩ : ∃ wf, wf = ((((w.setCell ⟨lo + 2, 0, none⟩ u0).setCell ⟨lo + 2, 1, none⟩ v').setCell ⟨lo + 2, 2, none⟩ u2).setCell ⟨lo + 2, 3, none⟩ u3) := ⟨_, rfl⟩
 have hm := h.mod
 have ho : Only (fun b => b = lo + 2) w wf := by
  rw [hwf]
  exact ((((Only.refl (fun b => b = lo + 2) w).setCell (p := ⟨lo + 2, 0, none⟩) (.inl rfl) u0).setCell (p := ⟨lo + 2, 1, none⟩) (.inl rfl) v').setCell (p := ⟨lo + 2, 2, none⟩) (.inl rfl) u2).setCell (p := ⟨lo + 2, 3, none⟩) (.inl rfl) u3
 have hn : ∀ ts, 50 ∉ ts → NoT w lo (fun b => b = lo + 2) ts := fun ts hts b t hb _ ht hm' => by subst hb; exact hts (ht.inj hm.of ▸ hm')
 have kr : ∀ {u : Value} {k : Nat} {xs : List Value}, w.ownsRow lo 3 1 u k xs → wf.ownsRow lo 3 1 u k xs := fun {u k xs} hu => own_keep hu (fun b hb => ho.block b (hu.lt b hb).2 (fun e => by subst e; exact absurd ((own_of hu hb).inj hm.of) (by decide)))
 have hl := h.hlo
 obtain ⟨h0, _, h3⟩ := h.fl
 obtain ⟨xs, hin⟩ := h.ins
 have hfl : FlS w lo u0 v' u3 m.1 ag m.2.2.2 := ⟨h0, ⟨_, _, hr⟩, h3⟩
 rw [← hwf]
 exact ⟨cur_only h.cur ho (fun b hb => by omega), grown_only h.gro ho (fun b hb => by omega), h.hlo, ho.blk h.dbx (by omega), ho.blk h.res (by omega), by rw [hwf]; exact blk_four hm, hfl.only ho (hn _ (by decide)), ⟨xs, hin.only ho (hn _ (by decide))⟩, kr h.avr, kr h.rgr, h.dR, h.dA⟩
end
end Go.Proofs.YtolndlmhbnpmeaaDoor

/- Rows told apart by their elements' type: a module that grows in memory. -/
import Derived.Test.YtolndlmhbnpmeaaDoorCpyP
import Derived.Test.YtolndlmhbnpmeaaDoorGrw
import Derived.Outline
namespace Go.Proofs.YtolndlmhbnpmeaaDoor
open Go.RowKit

/-- block b holds elements of type t -/
def OfT (w : World) (t : TypeId) (b : Nat) : Prop := ∃ cs, Blk w b t cs
section
variable {w w' : World} {t t' : TypeId} {b : Nat}
theorem OfT.inj (h : OfT w t b) (h' : OfT w t' b) : t = t' := by
 obtain ⟨cs, h⟩ := h
 obtain ⟨cs', h'⟩ := h'
 by_cases e : t = t'
 ·exact e
 ·exact absurd rfl (h.ne_ h' e)
theorem OfT.keep (h : OfT w t b) (hk : w'.heap[b]? = w.heap[b]?) : OfT w' t b := by
 obtain ⟨cs, h⟩ := h
 exact ⟨cs, hk.trans h⟩
theorem OfT.lt (h : OfT w t b) : b < w.heap.size := by
 obtain ⟨cs, h⟩ := h
 exact h.lt
theorem Blk.of {cs : Array Value} (h : Blk w b t cs) : OfT w t b := ⟨cs, h⟩
end
theorem own_of {w : World} {base size n g : Nat} {e : TypeId} {v : Value} {xs : List Value} (h : w.ownsRow base e size v n xs) (hg : v.ownBlock = some g) : OfT w e g := by
 rcases h.2 with ⟨rfl, _⟩ | ⟨g', cap, cur, rfl, _, hh, _⟩
 ·simp [Value.ownBlock] at hg
 ·have : g' = g := by simpa [Value.ownBlock] using hg
  subst this
  exact ⟨cur, hh⟩
/-- what is changed is of none of these types (or lies below lo) -/
def NoT (w : World) (lo : Nat) (C : Nat → Prop) (ts : List TypeId) : Prop := ∀ b t, C b → lo ≤ b → OfT w t b → t ∉ ts
/-- rows of type e, their parts in blocks R of type p -/
structure RwS (w : World) (lo : Nat) (e p : TypeId) (size : Nat) (v : Value) (rows : List (List Fd)) (R : Nat → Prop) (xs : List Value) : Prop where
 own : w.ownsRow lo e size v rows.length xs
 rng : ∀ b, R b → lo ≤ b ∧ OfT w p b
 parts : RowsOf w R rows size xs
 lens : ∀ r ∈ rows, r.length = size
section
variable {w w' w0 : World} {lo size : Nat} {e p : TypeId} {v v' : Value} {rows : List (List Fd)} {R C : Nat → Prop} {xs : List Value}
theorem RwS.nil (w : World) (lo size : Nat) (e p : TypeId) : RwS w lo e p size (.slice none 0 0) [] (fun _ => False) [] :=
 ⟨World.ownsRow_nil _ _ _ _, fun _ h => h.elim, RowsOf.nil _ _ _ _, fun _ h => by simp at h⟩
theorem RwS.empty (h : w.ownsRow lo e size v 0 []) : RwS w lo e p size v [] (fun _ => False) [] :=
 ⟨h, fun _ h => h.elim, RowsOf.nil _ _ _ _, fun _ h => by simp at h⟩
theorem RwS.only (h : RwS w lo e p size v rows R xs) (ho : Only C w w') (hc : NoT w lo C [e, p]) : RwS w' lo e p size v rows R xs := by
 have k1 : ∀ g, v.ownBlock = some g → w'.heap[g]? = w.heap[g]? := fun g hg => ho.block g (h.own.lt g hg).2 (fun hC => hc g e hC (h.own.lt g hg).1 (own_of h.own hg) (by simp))
 have k2 : ∀ b, R b → w'.heap[b]? = w.heap[b]? := fun b hb => ho.block b (h.rng b hb).2.lt (fun hC => hc b p hC (h.rng b hb).1 (h.rng b hb).2 (by simp))
 exact ⟨own_keep h.own k1, fun b hb => ⟨(h.rng b hb).1, (h.rng b hb).2.keep (k2 b hb)⟩, h.parts.keep k2 (fun _ hb => hb), h.lens⟩
theorem RwS.push {row : List Fd} {vs : List Value} {Q : Nat → Nat → Prop} (h0 : ∀ b, R b → b < w0.heap.size) (h : RwS w lo e p size v rows R xs) (hlo : lo ≤ w0.heap.size) (hep : e ≠ p)
  (hown : w'.ownsRow lo e size v' (rows.length + 1) (xs ++ vs)) (hg : w.grownBy w' v.ownBlock) (hrow : row.length = size)
  (hQ : ∀ j b, Q j b → w0.heap.size ≤ b ∧ OfT w p b) (hq : ∀ j j' b, Q j b → Q j' b → j = j')
  (h2 : ∀ (j : Nat) (f : Fd), row[j]? = some f → ∃ u, vs[j]? = some u ∧ Sep w (Q j) u f) : RwS w' lo e p size v' (rows ++ [row]) (fun b => R b ∨ ∃ j, Q j b) (xs ++ vs) := by
 have kp : ∀ b, OfT w p b → w'.heap[b]? = w.heap[b]? := fun b hb => hg.block b hb.lt (fun he => hep ((own_of h.own he.symm).inj hb))
 refine ⟨by rw [List.length_append]; exact hown, fun b hb => ?_, ?_, fun r hr => ?_⟩
 ·rcases hb with hb | ⟨j, hb⟩
  ·exact ⟨(h.rng b hb).1, (h.rng b hb).2.keep (kp b (h.rng b hb).2)⟩
  ·exact ⟨Nat.le_trans hlo (hQ j b hb).1, (hQ j b hb).2.keep (kp b (hQ j b hb).2)⟩
 ·refine RowsOf.snoc (S := R) (Q := Q) (h.parts.keep (fun b hb => kp b (h.rng b hb).2) (fun _ hb => hb)) h.lens h.own.1 (fun b hb => .inl hb) (fun j b hj => ⟨.inr ⟨j, hj⟩, fun hR => ?_⟩) hq (fun j f hf => ?_)
  ·have h3 := h0 b hR
   have h4 := (hQ j b hj).1
   omega
  ·obtain ⟨u, hu, hs⟩ := h2 j f hf
   exact ⟨u, hu, hs.keep (fun b hj => kp b (hQ j b hj).2)⟩
 ·rcases List.mem_append.1 hr with hr | hr
  ·exact h.lens r hr
  ·rw [List.mem_singleton.1 hr]
   exact hrow
theorem RwS.sep {A : Option Addr} {n c : Nat} (h : RwS w lo e p size (.slice A n c) rows R xs) (hn : rows.length = n) (hm : n ≤ maxLen) (hep : e ≠ p) : Sep w (fun b => lo ≤ b ∧ (OfT w e b ∨ OfT w p b)) (.slice A n c) (.sl rows) :=
 h.parts.sep hn hm h.lens (hn ▸ h.own) (fun g hg => ⟨⟨(h.own.lt g hg).1, .inl (own_of h.own hg)⟩, fun hR => hep ((own_of h.own hg).inj (h.rng g hR).2)⟩) (fun b hb => ⟨(h.rng b hb).1, .inr (h.rng b hb).2⟩)
end
/-- a flat module that grows: signals, assigns, memories -/
structure FlS (w : World) (lo : Nat) (v0 v1 v3 : Value) (sg : List TSignal) (ag : List TAssign) (mm : List TMem) : Prop where
 s0 : w.ownsRow lo 66 3 v0 sg.length (recs eSg sg)
 s1 : ∃ R xs, RwS w lo 69 71 2 v1 (ag.map rAssign) R xs
 s3 : w.ownsRow lo 77 4 v3 mm.length (recs eMm mm)
/-- .. and instances -/
def InS (w : World) (lo : Nat) (v2 : Value) (ins : List TInst) : Prop := ∃ R xs, RwS w lo 75 3 3 v2 (ins.map rInst) R xs
section
variable {w w' w0 : World} {lo : Nat} {v0 v1 v2 v3 v' : Value} {sg : List TSignal} {ag : List TAssign} {mm : List TMem} {ins : List TInst} {C : Nat → Prop}
theorem FlS.nil (w : World) (lo : Nat) : FlS w lo (.slice none 0 0) (.slice none 0 0) (.slice none 0 0) [] [] [] :=
 ⟨World.ownsRow_nil _ _ _ _, ⟨_, _, RwS.nil _ _ _ _ _⟩, World.ownsRow_nil _ _ _ _⟩
theorem InS.nil (w : World) (lo : Nat) : InS w lo (.slice none 0 0) [] := ⟨_, _, RwS.nil _ _ _ _ _⟩
theorem FlS.only (h : FlS w lo v0 v1 v3 sg ag mm) (ho : Only C w w') (hc : NoT w lo C [66, 69, 71, 77]) : FlS w' lo v0 v1 v3 sg ag mm := by
 obtain ⟨h0, ⟨R, xs, h1⟩, h3⟩ := h
 refine ⟨own_keep h0 (fun g hg => ho.block g (h0.lt g hg).2 (fun hC => hc g _ hC (h0.lt g hg).1 (own_of h0 hg) (by simp))), ⟨R, xs, h1.only ho (fun b t hb hl ht hm => hc b t hb hl ht ?_)⟩, own_keep h3 (fun g hg => ho.block g (h3.lt g hg).2 (fun hC => hc g _ hC (h3.lt g hg).1 (own_of h3 hg) (by simp)))⟩
 simp only [List.mem_cons, List.not_mem_nil, or_false] at hm ⊢
 rcases hm with hm | hm
 ·exact .inr (.inl hm)
 ·exact .inr (.inr (.inl hm))
theorem InS.only (h : InS w lo v2 ins) (ho : Only C w w') (hc : NoT w lo C [75, 3]) : InS w' lo v2 ins := by
 obtain ⟨R, xs, h⟩ := h
 exact ⟨R, xs, h.only ho hc⟩
theorem NoT.none (w : World) (lo : Nat) (ts : List TypeId) : NoT w lo (fun _ => False) ts := fun _ _ h => h.elim
theorem FlS.below (h : FlS w lo v0 v1 v3 sg ag mm) (hb : Below w.heap.size w w') : FlS w' lo v0 v1 v3 sg ag mm := h.only (Only.of_below hb (fun _ => False)) (NoT.none _ _ _)
theorem InS.below (h : InS w lo v2 ins) (hb : Below w.heap.size w w') : InS w' lo v2 ins := h.only (Only.of_below hb (fun _ => False)) (NoT.none _ _ _)
theorem FlS.alloc (h : FlS w lo v0 v1 v3 sg ag mm) (o : Obj) : FlS (w.alloc o) lo v0 v1 v3 sg ag mm := h.below ((Below.refl _ _).alloc (Nat.le_refl _) o)
theorem FlS.drew (h : FlS w lo v0 v1 v3 sg ag mm) : FlS w.drew lo v0 v1 v3 sg ag mm := h.below (Below.refl _ _).drew
theorem InS.alloc (h : InS w lo v2 ins) (o : Obj) : InS (w.alloc o) lo v2 ins := h.below ((Below.refl _ _).alloc (Nat.le_refl _) o)
/-- a row of type t grows -/
theorem grown_not {base size n : Nat} {t : TypeId} {v : Value} {xs : List Value} {ts : List TypeId} (h : w.ownsRow base t size v n xs) (ht : t ∉ ts) : NoT w lo (fun b => v.ownBlock = some b) ts :=
 fun b t' hb _ ho => by rw [← (own_of h hb).inj ho]; exact ht
theorem only_row {row : Option Nat} (hg : w.grownBy w' row) : Only (fun b => row = some b) w w' := ⟨hg.os, hg.tape, hg.output, hg.size, fun b hb hn => hg.block b hb (fun e => hn e.symm)⟩
theorem FlS.pushS {x : TSignal} (h : FlS w lo v0 v1 v3 sg ag mm) (hown : w'.ownsRow lo 66 3 v' (sg.length + 1) (recs eSg sg ++ [.int .i64 x.1, .int .i64 x.2.1, .int .i64 x.2.2])) (hg : w.grownBy w' v0.ownBlock) : FlS w' lo v' v1 v3 (sg ++ [x]) ag mm := by
 obtain ⟨h0, ⟨R, xs, h1⟩, h3⟩ := h
 refine ⟨?_, ⟨R, xs, h1.only (only_row hg) (grown_not h0 (by decide))⟩, own_keep h3 (fun g hg' => (only_row hg).block g (h3.lt g hg').2 (fun hC => absurd ((own_of h0 hC).inj (own_of h3 hg')) (by decide)))⟩
 rw [List.length_append, recs, List.flatMap_append]
 simpa [recs, eSg] using hown
theorem FlS.pushM {x : TMem} (h : FlS w lo v0 v1 v3 sg ag mm) (hown : w'.ownsRow lo 77 4 v' (mm.length + 1) (recs eMm mm ++ [.int .i64 x.1, .int .i64 x.2.1, .int .i64 x.2.2.1, .int .i64 x.2.2.2])) (hg : w.grownBy w' v3.ownBlock) : FlS w' lo v0 v1 v' sg ag (mm ++ [x]) := by
 obtain ⟨h0, ⟨R, xs, h1⟩, h3⟩ := h
 refine ⟨own_keep h0 (fun g hg' => (only_row hg).block g (h0.lt g hg').2 (fun hC => absurd ((own_of h3 hC).inj (own_of h0 hg')) (by decide))), ⟨R, xs, h1.only (only_row hg) (grown_not h3 (by decide))⟩, ?_⟩
 rw [List.length_append, recs, List.flatMap_append]
 simpa [recs, eMm] using hown
/-- an assign; its operators lie in a block of their own, made since w0 -/
theorem FlS.pushA {a : Int} {os : List TOp} {A : Option Addr} {no c base : Nat} {R : Nat → Prop} {xs : List Value} (h : FlS w lo v0 v1 v3 sg ag mm) (h1 : RwS w lo 69 71 2 v1 (ag.map rAssign) R xs) (hR : ∀ b, R b → b < w0.heap.size) (hlo : lo ≤ w0.heap.size) (hb : w0.heap.size ≤ base)
  (ho : w.ownsRow base 71 3 (.slice A no c) no (recs eOp os)) (hm : no ≤ maxLen)
  (hown : w'.ownsRow lo 69 2 v' (ag.length + 1) (xs ++ [.int .i64 a, .slice A no c])) (hg : w.grownBy w' v1.ownBlock) : FlS w' lo v0 v' v3 sg (ag ++ [(a, os)]) mm := by
 obtain ⟨h0, _, h3⟩ := h
 have hl : os.length = no := by
  have h := ho.1
  rw [recs_len eOp_len] at h
  omega
 refine ⟨own_keep h0 (fun g hg' => (only_row hg).block g (h0.lt g hg').2 (fun hC => absurd ((own_of h1.own hC).inj (own_of h0 hg')) (by decide))), ⟨fun b => R b ∨ ∃ j : Nat, j = 1 ∧ (Value.slice A no c).ownBlock = some b, xs ++ [.int .i64 a, .slice A no c], ?_⟩, own_keep h3 (fun g hg' => (only_row hg).block g (h3.lt g hg').2 (fun hC => absurd ((own_of h1.own hC).inj (own_of h3 hg')) (by decide)))⟩
 rw [List.map_append]
 refine RwS.push (w0 := w0) (row := rAssign (a, os)) (Q := fun j b => j = 1 ∧ (Value.slice A no c).ownBlock = some b) hR h1 hlo (by decide) (by rw [List.length_map]; exact hown) hg rfl (fun j b hj => ⟨Nat.le_trans hb (ho.lt b hj.2).1, own_of ho hj.2⟩) (fun j j' b h1 h2 => h1.1.trans h2.1.symm) (fun j f hf => ?_)
 match j, hf with
 | 0, hf => simp [rAssign] at hf; subst hf; exact ⟨_, rfl, .int _ _⟩
 | 1, hf =>
  simp [rAssign] at hf
  subst hf
  exact ⟨_, rfl, sep_recs (enc := eOp) eOp_len (by decide) hm (own_mono ho (Nat.zero_le _)) (fun g hg => ⟨rfl, hg⟩)⟩
 | j + 2, hf => simp [rAssign] at hf
end
/-- a module that has grown -/
theorem mod_sep {w : World} {lo : Nat} {v0 v1 v2 v3 : Value} {m : TModule} (h : FlS w lo v0 v1 v3 m.1 m.2.1 m.2.2.2) (hi : InS w lo v2 m.2.2.1) (n0 : m.1.length ≤ maxLen) (n1 : m.2.1.length ≤ maxLen) (n2 : m.2.2.1.length ≤ maxLen) (n3 : m.2.2.2.length ≤ maxLen) :
  QModule w (fun b => lo ≤ b ∧ b < w.heap.size) (.agg #[v0, v1, v2, v3]) m := by
 obtain ⟨h0, ⟨R1, x1, h1⟩, h3⟩ := h
 obtain ⟨R2, x2, h2⟩ := hi
 have o1 := h1.own
 have o2 := h2.own
 rw [List.length_map] at o1 o2
 obtain ⟨A0, c0, rfl, _, _, _⟩ := own_form h0
 obtain ⟨A1, c1, rfl, _, _, _⟩ := own_form o1
 obtain ⟨A2, c2, rfl, _, _, _⟩ := own_form o2
 obtain ⟨A3, c3, rfl, _, _, _⟩ := own_form h3
 refine ⟨_, _, _, _, fun j b => lo ≤ b ∧ ((j = 0 ∧ OfT w 66 b) ∨ (j = 1 ∧ (OfT w 69 b ∨ OfT w 71 b)) ∨ (j = 2 ∧ (OfT w 75 b ∨ OfT w 3 b)) ∨ (j = 3 ∧ OfT w 77 b)), rfl, ?_, ?_, ?_, ?_, ?_, ?_⟩
 ·rintro j b ⟨hl, ⟨_, h⟩ | ⟨_, h | h⟩ | ⟨_, h | h⟩ | ⟨_, h⟩⟩ <;> exact ⟨hl, h.lt⟩
 ·rintro i j b ⟨_, ⟨e, h⟩ | ⟨e, h | h⟩ | ⟨e, h | h⟩ | ⟨e, h⟩⟩ ⟨_, ⟨e', h'⟩ | ⟨e', h' | h'⟩ | ⟨e', h' | h'⟩ | ⟨e', h'⟩⟩ <;> first | exact e.trans e'.symm | exact absurd (h.inj h') (by decide)
 ·exact sep_recs eSg_len (by decide) n0 h0 (fun g hg => ⟨(h0.lt g hg).1, .inl ⟨rfl, own_of h0 hg⟩⟩)
 ·exact (h1.sep (by rw [List.length_map]) n1 (by decide)).mono (fun b hb => ⟨hb.1, .inr (.inl ⟨rfl, hb.2⟩)⟩)
 ·exact (h2.sep (by rw [List.length_map]) n2 (by decide)).mono (fun b hb => ⟨hb.1, .inr (.inr (.inl ⟨rfl, hb.2⟩))⟩)
 ·exact sep_recs eMm_len (by decide) n3 h3 (fun g hg => ⟨(h3.lt g hg).1, .inr (.inr (.inr ⟨rfl, own_of h3 hg⟩))⟩)
end Go.Proofs.YtolndlmhbnpmeaaDoor

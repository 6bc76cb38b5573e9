/- Words for a text's reading: the modules that are closed, and the open one. -/
import Derived.Test.YthjdigcpgpiiiaaDoorPsf
import Derived.Outline
namespace Go.Proofs.YthjdigcpgpiiiaaDoor
open Go.RowKit

/-- types of a module's rows -/
def clT : List TypeId := [66, 71, 73, 78, 3, 80]
def OfC (w : World) (b : Nat) : Prop := ∃ t, t ∈ clT ∧ OfT w t b
def ClB (w : World) (lo0 lo : Nat) (b : Nat) : Prop := (lo0 ≤ b ∧ b < lo) ∧ OfC w b
section
variable {w w' : World} {lo0 lo n : Nat} {v0 v1 v2 v3 ov ov' : Value} {m : TModule} {D : TDesign} {xs : List Value} {C : Nat → Prop}
theorem OfC.of {t : TypeId} {b : Nat} (h : OfT w t b) (ht : t ∈ clT) : OfC w b := ⟨t, ht, h⟩
theorem OfC.keep {b : Nat} (h : OfC w b) (hk : w'.heap[b]? = w.heap[b]?) : OfC w' b := by
 obtain ⟨t, ht, h⟩ := h
 exact ⟨t, ht, h.keep hk⟩
theorem OfC.lt {b : Nat} (h : OfC w b) : b < w.heap.size := by
 obtain ⟨t, ht, h⟩ := h
 exact h.lt
theorem OfC.ne {b : Nat} {t : TypeId} (h : OfC w b) (h' : OfT w t b) (ht : t ∉ clT) : False := by
 obtain ⟨t', ht', h⟩ := h
 exact ht (h.inj h' ▸ ht')
theorem own_gm {gm g n c : Nat} (h : (Value.slice (some ⟨gm, 0, none⟩) n c).ownBlock = some g) : gm = g := by simpa [Value.ownBlock] using h
theorem mod_sepT (h : FlS w lo v0 v1 v3 m.1 m.2.1 m.2.2.2) (hi : InS w lo v2 m.2.2.1) (hz : sModule m ≤ 1048576) :
  QModule w (fun b => lo ≤ b ∧ OfC w b) (.agg #[v0, v1, v2, v3]) m := by
 obtain ⟨n0, n1, n2, n3⟩ := mod_lens m
 obtain ⟨h0, ⟨R1, x1, h1⟩, h3⟩ := h
 obtain ⟨R2, x2, h2⟩ := hi
 have o1 := h1.own
 have o2 := h2.own
 rw [List.length_map] at o1 o2
 obtain ⟨A0, c0, rfl, _, _, _⟩ := own_form h0
 obtain ⟨A1, c1, rfl, _, _, _⟩ := own_form o1
 obtain ⟨A2, c2, rfl, _, _, _⟩ := own_form o2
 obtain ⟨A3, c3, rfl, _, _, _⟩ := own_form h3
 have hm : ∀ k : Nat, k ≤ sModule m → k ≤ maxLen := fun k hk => by unfold maxLen; omega
 refine ⟨_, _, _, _, fun j b => lo ≤ b ∧ ((j = 0 ∧ OfT w 66 b) ∨ (j = 1 ∧ (OfT w 71 b ∨ OfT w 73 b)) ∨ (j = 2 ∧ (OfT w 78 b ∨ OfT w 3 b)) ∨ (j = 3 ∧ OfT w 80 b)), rfl, ?_, ?_, ?_, ?_, ?_, ?_⟩
 ·rintro j b ⟨hl, ⟨_, h⟩ | ⟨_, h | h⟩ | ⟨_, h | h⟩ | ⟨_, h⟩⟩ <;> exact ⟨hl, .of h (by decide)⟩
 ·rintro i j b ⟨_, ⟨e, h⟩ | ⟨e, h | h⟩ | ⟨e, h | h⟩ | ⟨e, h⟩⟩ ⟨_, ⟨e', h'⟩ | ⟨e', h' | h'⟩ | ⟨e', h' | h'⟩ | ⟨e', h'⟩⟩ <;> first | exact e.trans e'.symm | exact absurd (h.inj h') (by decide)
 ·exact sep_recs eSg_len (by decide) (hm _ n0) h0 (fun g hg => ⟨(h0.lt g hg).1, .inl ⟨rfl, own_of h0 hg⟩⟩)
 ·exact (h1.sep (by rw [List.length_map]) (hm _ n1) (by decide)).mono (fun b hb => ⟨hb.1, .inr (.inl ⟨rfl, hb.2⟩)⟩)
 ·exact (h2.sep (by rw [List.length_map]) (hm _ n2) (by decide)).mono (fun b hb => ⟨hb.1, .inr (.inr (.inl ⟨rfl, hb.2⟩))⟩)
 ·exact sep_recs eMm_len (by decide) (hm _ n3) h3 (fun g hg => ⟨(h3.lt g hg).1, .inr (.inr (.inr ⟨rfl, own_of h3 hg⟩))⟩)
/-- modules that are closed, in a row of their own -/
def MdC (w : World) (lo0 lo : Nat) (ov : Value) (D : TDesign) (xs : List Value) : Prop := w.ownsRow lo0 42 4 ov D.length xs ∧ RowsOf w (ClB w lo0 lo) (D.map rModule) 4 xs
theorem NoT.tail {t : TypeId} {ts : List TypeId} (h : NoT w lo C (t :: ts)) : NoT w lo C ts := fun b t' hb hl ht hm => h b t' hb hl ht (List.mem_cons_of_mem _ hm)
theorem rows_only (h : RowsOf w (ClB w lo0 lo) (D.map rModule) 4 xs) (ho : Only C w w') (hc : NoT w lo0 C clT) (_hlo : lo ≤ w.heap.size) : RowsOf w' (ClB w' lo0 lo) (D.map rModule) 4 xs := by
 have hk : ∀ b, ClB w lo0 lo b → w'.heap[b]? = w.heap[b]? := fun b hb => ho.block b hb.2.lt (fun hC => by
  obtain ⟨t, ht, h⟩ := hb.2
  exact hc b t hC hb.1.1 h ht)
 exact h.keep hk (fun b hb => ⟨hb.1, hb.2.keep (hk b hb)⟩)
theorem MdC.nil (w : World) (lo0 lo : Nat) : MdC w lo0 lo (.slice none 0 0) [] [] := ⟨World.ownsRow_nil _ _ _ _, RowsOf.nil _ _ _ _⟩
theorem MdC.only (h : MdC w lo0 lo ov D xs) (ho : Only C w w') (hc : NoT w lo0 C (42 :: clT)) (hlo : lo ≤ w.heap.size) : MdC w' lo0 lo ov D xs :=
 ⟨own_keep h.1 (fun g hg => ho.block g (h.1.lt g hg).2 (fun hC => hc g _ hC (h.1.lt g hg).1 (own_of h.1 hg) (by simp))), rows_only h.2 ho hc.tail hlo⟩
theorem MdC.below (h : MdC w lo0 lo ov D xs) (hb : Below w.heap.size w w') (hlo : lo ≤ w.heap.size) : MdC w' lo0 lo ov D xs := h.only (Only.of_below hb (fun _ => False)) (NoT.none _ _ _) hlo
theorem rows_snoc (h : RowsOf w (ClB w lo0 lo) (D.map rModule) 4 xs) (hx : xs.length = D.length * 4) (hq : QModule w (fun b => lo ≤ b ∧ OfC w b) (.agg #[v0, v1, v2, v3]) m) (hlo0 : lo0 ≤ lo) (hlo : lo ≤ w.heap.size) :
  RowsOf w (ClB w lo0 w.heap.size) ((D ++ [m]).map rModule) 4 (xs ++ [v0, v1, v2, v3]) := by
 obtain ⟨u0, u1, u2, u3, P, e, hP, hd, s0, s1, s2, s3⟩ := hq
 injection e with e
 injection e with e
 injection e with e0 e
 injection e with e1 e
 injection e with e2 e
 injection e with e3 e
 subst e0 e1 e2 e3
 rw [List.map_append]
 refine RowsOf.snoc (S := ClB w lo0 lo) (Q := P) (row := rModule m) h (rModule_lens D) (by rw [List.length_map]; exact hx) (fun b hb => ⟨⟨hb.1.1, by have := hb.1.2; omega⟩, hb.2⟩) (fun j b hj => ?_) hd (fun j f hf => ?_)
 ·have h1 := hP j b hj
  exact ⟨⟨⟨by omega, h1.2.lt⟩, h1.2⟩, fun h2 => by have := h2.1.2; omega⟩
 ·match j, hf with
  | 0, hf => simp [rModule] at hf; subst hf; exact ⟨_, rfl, s0⟩
  | 1, hf => simp [rModule] at hf; subst hf; exact ⟨_, rfl, s1⟩
  | 2, hf => simp [rModule] at hf; subst hf; exact ⟨_, rfl, s2⟩
  | 3, hf => simp [rModule] at hf; subst hf; exact ⟨_, rfl, s3⟩
  | j + 4, hf => simp [rModule] at hf
/-- .. as a design -/
theorem MdC.form (h : MdC w lo0 lo ov D xs) : ∃ A c, ov = .slice A D.length c := by
 obtain ⟨A, c, h1, _⟩ := own_form h.1
 exact ⟨A, c, h1⟩
theorem MdC.sep {S : Nat → Prop} (h : MdC w lo0 lo ov D xs) (hn : D.length ≤ 1048576) (hS : ∀ b, lo0 ≤ b → b < w.heap.size → S b) : Sep w S ov (fModuleS D) := by
 obtain ⟨A, c, rfl⟩ := h.form
 exact h.2.sep (by rw [List.length_map]) (by unfold maxLen; omega) (rModule_lens D) h.1 (fun g hg => ⟨hS g (h.1.lt g hg).1 (h.1.lt g hg).2, fun hc => hc.2.ne (own_of h.1 hg) (by decide)⟩) (fun b hb => hS b hb.1.1 hb.2.lt)
theorem MdC.dsn {S : Nat → Prop} (h : MdC w lo0 lo ov D xs) (hn : D.length ≤ 1048576) (hS : ∀ b, lo0 ≤ b → b < w.heap.size → S b) : QDesign w S (.agg #[ov]) D :=
 ⟨ov, fun j b => j = 0 ∧ S b, rfl, fun _j _b hb => hb.2, fun _i _j _b h1 h2 => h1.1.trans h2.1.symm, (h.sep hn hS).mono (fun _b hb => ⟨rfl, hb⟩)⟩
theorem dsn_nil (w : World) (S : Nat → Prop) : QDesign w S (.agg #[.slice none 0 0]) [] :=
 ⟨_, fun _ _ => False, rfl, fun _ _ h => h.elim, fun _ _ _ h => h.elim, (MdC.nil w 0 0).2.sep (S' := fun _ => False) (e := 42) rfl (Nat.zero_le _) (fun _ h => by simp at h) (World.ownsRow_nil w 0 42 4) (fun g hg => by simp [Value.ownBlock] at hg) (fun _ h => by have h1 := h.1; omega)⟩

/-- modules of which the last is open: its rows grow from lo on -/
def MdI (w : World) (lo0 lo : Nat) (ov : Value) (D : TDesign) : Prop :=
 (D = [] ∧ ov = .slice none 0 0) ∨ ∃ (D' : TDesign) (m : TModule) (gm c : Nat) (xs0 : List Value) (v0 v1 v2 v3 : Value), D = D' ++ [m] ∧ ov = .slice (some ⟨gm, 0, none⟩) (D'.length + 1) c ∧ lo0 ≤ gm ∧ OpM w lo gm D'.length c xs0 v0 v1 v2 v3 m ∧ RowsOf w (ClB w lo0 lo) (D'.map rModule) 4 xs0
theorem MdI.only (h : MdI w lo0 lo ov D) (ho : Only C w w') (hc : NoT w lo0 C (42 :: clT)) (hlo0 : lo0 ≤ lo) (hlo : lo ≤ w.heap.size) : MdI w' lo0 lo ov D := by
 rcases h with h | ⟨D', m, gm, c, xs0, v0, v1, v2, v3, e1, e2, h1, h2, h3⟩
 ·exact .inl h
 ·have hn : ∀ ts : List TypeId, (∀ t, t ∈ ts → t ∈ clT) → NoT w lo C ts := fun ts hts b t hC hl ht hm => hc b t hC (by omega) ht (List.mem_cons_of_mem _ (hts t hm))
  exact .inr ⟨D', m, gm, c, xs0, v0, v1, v2, v3, e1, e2, h1, ⟨own_keep h2.row (fun g hg => ho.block g (h2.row.lt g hg).2 (fun hC => hc g _ hC (own_gm hg ▸ h1) (own_of h2.row hg) (by simp))), h2.len, h2.lt, h2.fl.only ho (hn _ (by decide)), h2.ins.only ho (hn _ (by decide))⟩, rows_only h3 ho hc.tail hlo⟩
theorem MdI.below (h : MdI w lo0 lo ov D) (hb : Below w.heap.size w w') (hlo0 : lo0 ≤ lo) (hlo : lo ≤ w.heap.size) : MdI w' lo0 lo ov D := h.only (Only.of_below hb (fun _ => False)) (NoT.none _ _ _) hlo0 hlo
theorem MdI.close (h : MdI w lo0 lo ov D) (hlo0 : lo0 ≤ lo) (hlo : lo ≤ w.heap.size) (hz : sDesign D ≤ 1048576) : ∃ xs, MdC w lo0 w.heap.size ov D xs := by
 rcases h with ⟨rfl, rfl⟩ | ⟨D', m, gm, c, xs0, v0, v1, v2, v3, rfl, rfl, h1, h2, h3⟩
 ·exact ⟨[], MdC.nil _ _ _⟩
 ·have h4 := dsn_last D' m
  refine ⟨xs0 ++ [v0, v1, v2, v3], ?_, rows_snoc h3 h2.len (mod_sepT h2.fl h2.ins (by omega)) hlo0 hlo⟩
  rw [List.length_append]
  exact own_up' h2.row (fun g hg => own_gm hg ▸ h1)
/-- a new module is put behind -/
theorem MdC.opened (h : MdC w lo0 lo ov D xs) (hown : w'.ownsRow lo0 42 4 ov' (D.length + 1) (xs ++ [.slice none 0 0, .slice none 0 0, .slice none 0 0, .slice none 0 0])) (hg : w.grownBy w' ov.ownBlock) (hlo : lo ≤ w.heap.size) : MdI w' lo0 w'.heap.size ov' (D ++ [noMod]) := by
 obtain ⟨A, c, rfl, _, _, h2⟩ := own_form hown
 obtain ⟨gm, rfl, _⟩ := h2 (by omega)
 have h3 := hown.lt gm rfl
 have hsz := hg.size
 have hr := rows_only h.2 (only_row hg) (grown_not h.1 (by decide)) hlo
 refine .inr ⟨D, noMod, gm, c, xs, _, _, _, _, rfl, rfl, h3.1, ⟨own_mono hown (Nat.zero_le _), h.1.1, h3.2, FlS.nil _ _, InS.nil _ _⟩, hr.keep (fun _ _ => rfl) (fun b hb => ⟨⟨hb.1.1, by have := hb.1.2; omega⟩, hb.2⟩)⟩
/-- a line is read into the open module -/
theorem MdI.read {D' : TDesign} {m' : TModule} {gm c : Nat} {xs0 : List Value} (h1 : lo0 ≤ gm) (h2 : OpM w' lo gm D'.length c xs0 v0 v1 v2 v3 m') (h3 : RowsOf w (ClB w lo0 lo) (D'.map rModule) 4 xs0) (hgm : OfT w 42 gm) (hc : ChP lo rlT (fun b => b = gm) w w') : MdI w' lo0 lo (.slice (some ⟨gm, 0, none⟩) (D'.length + 1) c) (D' ++ [m']) := by
 have hk : ∀ b, ClB w lo0 lo b → w'.heap[b]? = w.heap[b]? := fun b hb => by
  obtain ⟨C, c1, c2⟩ := hc
  refine c1.block b hb.2.lt (fun hC => ?_)
  rcases c2 b hC hb.2.lt with rfl | ⟨c3, _⟩
  ·exact hb.2.ne hgm (by decide)
  ·have := hb.1.2
   omega
 exact .inr ⟨D', m', gm, c, xs0, v0, v1, v2, v3, rfl, rfl, h1, h2, h3.keep hk (fun b hb => ⟨hb.1, hb.2.keep (hk b hb)⟩)⟩
end
end Go.Proofs.YthjdigcpgpiiiaaDoor

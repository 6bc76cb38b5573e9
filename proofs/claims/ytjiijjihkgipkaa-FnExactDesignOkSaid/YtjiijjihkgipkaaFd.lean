/- Data in memory: numbers, and slices of rows of data, to any depth. -/
import Derived.Test.YtjiijjihkgipkaaRec
namespace Go.Proofs.Ytjiijjihkgipkaa
open Go.RowKit

/-- a datum: a number, or the rows of a slice (a row: the data of one element's fields) -/
inductive Fd where
  | int (x : Int)
  | sl (rows : List (List Fd))

/-- value v reads as datum f, in blocks that S holds of -/
inductive Rep (w : World) (S : Nat → Prop) : Value → Fd → Prop
  | int (x : Int) : Rep w S (.int .i64 x) (.int x)
  | sl (A : Option Addr) (n c size : Nat) (rows : List (List Fd)) (V : Nat → Nat → Value) (hn : rows.length = n) (hm : n ≤ maxLen) (hs : ∀ r ∈ rows, r.length = size)
      (hA : 0 < n → ∃ ad, A = some ad ∧ S ad.block ∧ ∀ i j, i < n → j < size → w.cell? (ad.add (i * size + j)) = some (V i j))
      (hr : ∀ i j r f, rows[i]? = some r → r[j]? = some f → Rep w S (V i j) f) : Rep w S (.slice A n c) (.sl rows)
/-- .. in memory below B -/
abbrev RepB (w : World) (B : Nat) (v : Value) (f : Fd) : Prop := Rep w (· < B) v f

section
variable {w w' : World} {S S' : Nat → Prop} {B B' : Nat} {v : Value} {f : Fd}
theorem Rep.keep (h : Rep w S v f) (hk : ∀ p : Addr, S p.block → w'.cell? p = w.cell? p) : Rep w' S v f := by
  induction h with
  | int x => exact .int x
  | sl A n c size rows V hn hm hs hA _ ih =>
    refine .sl A n c size rows V hn hm hs (fun h0 => ?_) ih
    obtain ⟨ad, e, hb, hc⟩ := hA h0
    exact ⟨ad, e, hb, fun i j hi hj => (hk _ (by rw [block_of_add]; exact hb)).trans (hc i j hi hj)⟩
theorem Rep.mono (h : Rep w S v f) (hS : ∀ b, S b → S' b) : Rep w S' v f := by
  induction h with
  | int x => exact .int x
  | sl A n c size rows V hn hm hs hA _ ih =>
    refine .sl A n c size rows V hn hm hs (fun h0 => ?_) ih
    obtain ⟨ad, e, hb, hc⟩ := hA h0
    exact ⟨ad, e, hS _ hb, hc⟩
theorem Rep.under (h : Rep w S v f) (hS : ∀ b, S b → b < B) (hb : Below B w w') : Rep w' S v f := h.keep fun _p hp => hb.cell (hS _ hp)
theorem Rep.more (h : RepB w B v f) (hB : B ≤ B') : RepB w B' v f := h.mono fun _ hb => Nat.lt_of_lt_of_le hb hB
theorem Rep.below_ (h : RepB w B v f) (hb : Below B w w') : RepB w' B v f := h.under (fun _ h => h) hb
theorem Rep.grow (h : RepB w w.heap.size v f) (hb : Below w.heap.size w w') : RepB w' w'.heap.size v f := (h.below_ hb).more hb.size
theorem Rep.drew (h : Rep w S v f) : Rep w.drew S v f := h.keep fun _ _ => rfl
theorem Rep.drewN (h : Rep w S v f) (k : Nat) : Rep (w.drewN k) S v f := h.keep fun _ _ => rfl
theorem Rep.alloc (h : Rep w S v f) (hS : ∀ b, S b → b < w.heap.size) (o : Obj) : Rep (w.alloc o) S v f := h.keep fun p hp => World.cell?_alloc_lt w o p (hS _ hp)
theorem Rep.setCell (h : Rep w S v f) {p : Addr} (hp : ¬ S p.block) (u : Value) : Rep (w.setCell p u) S v f :=
  h.keep fun q hq => World.cell?_setCell_other w p q u (fun e => by subst e; exact hp hq)
theorem Rep.int_val {x : Int} (h : Rep w S v (.int x)) : v = .int .i64 x := by cases h; rfl
theorem Rep.sl_val {rows : List (List Fd)} (h : Rep w S v (.sl rows)) : ∃ A c, v = .slice A rows.length c ∧ rows.length ≤ maxLen := by
  cases h with
  | sl A n c size rows V hn hm => subst hn; exact ⟨A, c, rfl, hm⟩
/-- a row of a slice -/
theorem Rep.row {A : Option Addr} {n c k : Nat} {rows : List (List Fd)} (h : Rep w S (.slice A n c) (.sl rows)) (hk : k < n) :
    ∃ (ad : Addr) (r : List Fd), A = some ad ∧ S ad.block ∧ rows[k]? = some r ∧ r ∈ rows ∧ ∀ j f, r[j]? = some f → ∃ v, w.cell? (ad.add (k * r.length + j)) = some v ∧ Rep w S v f := by
  cases h with
  | sl A n c size rows V hn hm hs hA hr =>
    obtain ⟨ad, rfl, hb, hc⟩ := hA (by omega)
    have hx : rows[k]? = some rows[k] := List.getElem?_eq_getElem (by omega)
    have hmem : rows[k] ∈ rows := List.getElem_mem _
    refine ⟨ad, rows[k], rfl, hb, hx, hmem, fun j f hf => ⟨V k j, ?_, hr k j _ f hx hf⟩⟩
    rw [hs _ hmem]
    exact hc k j hk (by rw [← hs _ hmem]; exact (List.getElem?_eq_some_iff.1 hf).1)
theorem Rep.len {A : Option Addr} {n c : Nat} {rows : List (List Fd)} (h : Rep w S (.slice A n c) (.sl rows)) : rows.length = n := by
  cases h with
  | sl A n c size rows V hn => exact hn
/-- rows that lie in a row of cells -/
theorem Rep.of_cells {A : Option Addr} {n c size : Nat} {rows : List (List Fd)} {xs : List Value} (hm : n ≤ maxLen) (hn : rows.length = n) (hs : ∀ r ∈ rows, r.length = size) (hR : Reads w B size A n xs) (hS : ∀ ad, A = some ad → S ad.block)
    (hr : ∀ (i j : Nat) (r : List Fd) (f : Fd), rows[i]? = some r → r[j]? = some f → ∃ v, xs[i * size + j]? = some v ∧ Rep w S v f) : Rep w S (.slice A n c) (.sl rows) := by
  refine .sl A n c size rows (fun i j => (xs[i * size + j]?).getD undef) hn hm hs (fun h0 => ?_) (fun i j r f h1 h2 => ?_)
  · obtain ⟨ad, e, _, hc⟩ := hR.2 h0
    refine ⟨ad, e, hS ad e, fun i j hi hj => ?_⟩
    have hlt : i * size + j < xs.length := by
      rw [hR.1]
      calc i * size + j < i * size + size := by omega
        _ = (i + 1) * size := by rw [Nat.add_mul, Nat.one_mul]
        _ ≤ n * size := Nat.mul_le_mul_right _ (by omega)
    have hx := List.getElem?_eq_getElem hlt
    show w.cell? _ = some ((xs[i * size + j]?).getD undef)
    rw [hx]
    exact hc _ _ hx
  · obtain ⟨v, hv, hrep⟩ := hr i j r f h1 h2
    show Rep w S ((xs[i * size + j]?).getD undef) f
    rw [hv]
    exact hrep
end

/-! ### rows that are written one by one -/
def RowsTo (w : World) (S : Nat → Prop) (rows : List (List Fd)) (size k : Nat) (xs : List Value) : Prop :=
  ∀ (i j : Nat) (r : List Fd) (f : Fd), i < k → rows[i]? = some r → r[j]? = some f → ∃ v, xs[i * size + j]? = some v ∧ Rep w S v f
theorem RowsTo.zero (w : World) (S : Nat → Prop) (rows : List (List Fd)) (size : Nat) (xs : List Value) : RowsTo w S rows size 0 xs := fun _ _ _ _ h => absurd h (Nat.not_lt_zero _)
theorem RowsTo.keep {w w' : World} {S S' : Nat → Prop} {rows : List (List Fd)} {size k : Nat} {xs : List Value} (h : RowsTo w S rows size k xs) (hk : ∀ p : Addr, S p.block → w'.cell? p = w.cell? p) (hS : ∀ b, S b → S' b) : RowsTo w' S' rows size k xs :=
  fun i j r f hi hr hf => by
    obtain ⟨v, hv, hrep⟩ := h i j r f hi hr hf
    exact ⟨v, hv, (hrep.keep hk).mono hS⟩
theorem RowsTo.step {w : World} {S : Nat → Prop} {rows : List (List Fd)} {size k : Nat} {xs xs' : List Value} {row : List Fd} (h : RowsTo w S rows size k xs) (hrow : rows[k]? = some row) (hs : ∀ r ∈ rows, r.length = size)
    (h1 : ∀ p, p < k * size → xs'[p]? = xs[p]?) (h2 : ∀ (j : Nat) (f : Fd), row[j]? = some f → ∃ v, xs'[k * size + j]? = some v ∧ Rep w S v f) : RowsTo w S rows size (k + 1) xs' := by
  intro i j r f hi hr hf
  by_cases hik : i = k
  · subst hik
    rw [hrow] at hr
    injection hr with hr
    subst hr
    exact h2 j f hf
  · obtain ⟨v, hv, hrep⟩ := h i j r f (by omega) hr hf
    refine ⟨v, ?_, hrep⟩
    have hj : j < size := by
      rw [← hs r (List.mem_of_getElem? hr)]
      exact (List.getElem?_eq_some_iff.1 hf).1
    rw [h1]
    · exact hv
    · calc i * size + j < i * size + size := by omega
        _ = (i + 1) * size := by rw [Nat.add_mul, Nat.one_mul]
        _ ≤ k * size := Nat.mul_le_mul_right _ (by omega)

/-! ### rows of numbers -/
def fints (l : List Int) : Fd := .sl (l.map fun x => [Fd.int x])
def frow {α : Type} (enc : α → List Int) (x : α) : List Fd := (enc x).map Fd.int
def frecs {α : Type} (enc : α → List Int) (l : List α) : Fd := .sl (l.map (frow enc))
theorem fints_recs (l : List Int) : fints l = frecs (fun x => [x]) l := rfl
theorem ints_recs (l : List Int) : ints l = recs (fun x => [x]) l := by
  induction l with
  | nil => rfl
  | cons x l ih => rw [recs_cons, ← ih]; rfl
theorem Rep.to_reads {α : Type} {enc : α → List Int} {size : Nat} (hE : ∀ x, (enc x).length = size) (h0 : 0 < size) {w : World} {S : Nat → Prop} {B n c : Nat} {A : Option Addr} {l : List α} (h : Rep w S (.slice A n c) (frecs enc l)) (hS : ∀ b, S b → b < B) : Reads w B size A n (recs enc l) := by
  have hl := h.len
  rw [List.length_map] at hl
  refine ⟨by rw [recs_len hE, hl], fun hn => ?_⟩
  obtain ⟨ad, r, rfl, hb, _⟩ := h.row hn
  refine ⟨ad, rfl, hS _ hb, fun j u hu => ?_⟩
  have hjl := (List.getElem?_eq_some_iff.1 hu).1
  rw [recs_len hE] at hjl
  have hj : j = j / size * size + j % size := by rw [Nat.mul_comm]; exact (Nat.div_add_mod j size).symm
  have hk : j / size < l.length := (Nat.div_lt_iff_lt_mul h0).2 hjl
  have hg := recs_get hE (j % size) (Nat.mod_lt _ h0) l (j / size)
  rw [← hj, hu] at hg
  obtain ⟨ad', r', he, _, hr', _, hc⟩ := h.row (k := j / size) (by omega)
  injection he with he
  subst he
  rw [List.getElem?_map, List.getElem?_eq_getElem hk] at hr'
  injection hr' with hr'
  rw [List.getElem?_eq_getElem hk] at hg
  simp only [Option.bind_some] at hg
  have hm : j % size < (enc l[j / size]).length := by rw [hE]; exact Nat.mod_lt _ h0
  rw [List.getElem?_eq_getElem hm] at hg
  injection hg with hg
  obtain ⟨v, hv, hrep⟩ := hc (j % size) (.int ((enc l[j / size])[j % size])) (by rw [← hr', frow, List.getElem?_map, List.getElem?_eq_getElem hm]; rfl)
  rw [← hr', frow, List.length_map, hE, ← hj] at hv
  rw [hv, hg, hrep.int_val]
theorem Rep.of_reads {α : Type} {enc : α → List Int} {size : Nat} (hE : ∀ x, (enc x).length = size) {w : World} {S : Nat → Prop} {B n c : Nat} {A : Option Addr} {l : List α} (hn : n ≤ maxLen) (hl : l.length = n) (h : Reads w B size A n (recs enc l)) (hS : ∀ ad, A = some ad → S ad.block) : Rep w S (.slice A n c) (frecs enc l) := by
  refine Rep.of_cells (size := size) hn (by rw [List.length_map]; exact hl) (fun r hr => ?_) h hS (fun i j r f hr hf => ?_)
  · obtain ⟨x, _, rfl⟩ := List.mem_map.1 hr
    rw [frow, List.length_map, hE]
  · rw [List.getElem?_map] at hr
    cases hx : l[i]? with
    | none => rw [hx] at hr; cases hr
    | some x =>
      rw [hx] at hr
      injection hr with hr
      subst hr
      rw [frow, List.getElem?_map] at hf
      cases hy : (enc x)[j]? with
      | none => rw [hy] at hf; cases hf
      | some y =>
        rw [hy] at hf
        injection hf with hf
        subst hf
        have hj : j < size := by rw [← hE x]; exact (List.getElem?_eq_some_iff.1 hy).1
        exact ⟨_, by rw [recs_get hE j hj, hx]; simp only [Option.bind_some, hy, Option.map_some], .int y⟩
theorem Rep.ints_ {w : World} {S : Nat → Prop} {B n c : Nat} {A : Option Addr} {l : List Int} (h : Rep w S (.slice A n c) (fints l)) (hS : ∀ b, S b → b < B) : Reads w B 1 A n (ints l) := by
  rw [ints_recs]
  exact Rep.to_reads (enc := fun x : Int => [x]) (fun _ => rfl) (by decide) h hS
theorem Rep.of_ints {w : World} {S : Nat → Prop} {B n c : Nat} {A : Option Addr} {l : List Int} (hn : n ≤ maxLen) (hl : l.length = n) (h : Reads w B 1 A n (ints l)) (hS : ∀ ad, A = some ad → S ad.block) : Rep w S (.slice A n c) (fints l) := by
  rw [ints_recs] at h
  exact Rep.of_reads (enc := fun x : Int => [x]) (fun _ => rfl) hn hl h hS
end Go.Proofs.Ytjiijjihkgipkaa

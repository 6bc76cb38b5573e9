/- Data in memory of which each slice lies in a block of its own: what a mark changes, and what it leaves. -/
import Derived.Test.YtjiijjihkgipkaaIntC
namespace Go.Proofs.Ytjiijjihkgipkaa
open Go.RowKit

/-- w' is w but for blocks that S holds of, and new blocks -/
structure Only (S : Nat → Prop) (w w' : World) : Prop where
  os : w'.os = w.os
  tape : w'.tape = w.tape
  output : w'.output = w.output
  size : w.heap.size ≤ w'.heap.size
  block : ∀ k, k < w.heap.size → ¬ S k → w'.heap[k]? = w.heap[k]?

section
variable {S S' : Nat → Prop} {w w' w'' : World}
theorem Only.refl (S : Nat → Prop) (w : World) : Only S w w := ⟨rfl, rfl, rfl, Nat.le_refl _, fun _ _ _ => rfl⟩
theorem Only.trans (h : Only S w w') (k : Only S w' w'') : Only S w w'' :=
  ⟨k.os.trans h.os, k.tape.trans h.tape, k.output.trans h.output, Nat.le_trans h.size k.size, fun b hb hs => (k.block b (Nat.lt_of_lt_of_le hb h.size) hs).trans (h.block b hb hs)⟩
theorem Only.more (h : Only S w w') (hS : ∀ b, S b → S' b) : Only S' w w' := ⟨h.os, h.tape, h.output, h.size, fun b hb hs => h.block b hb (fun x => hs (hS b x))⟩
theorem Only.of_below (h : Below w.heap.size w w') (S : Nat → Prop) : Only S w w' := ⟨h.os, h.tape, h.output, h.size, fun b hb _ => h.block b hb⟩
theorem Only.drew (h : Only S w w') : Only S w w'.drew := ⟨h.os, h.tape, h.output, h.size, h.block⟩
theorem Only.alloc (h : Only S w w') (o : Obj) : Only S w (w'.alloc o) :=
  ⟨h.os, h.tape, h.output, Nat.le_trans h.size (by simp), fun b hb hs => (Below.heap_alloc w' o b (Nat.lt_of_lt_of_le hb h.size)).trans (h.block b hb hs)⟩
theorem Only.setCell (h : Only S w w') {p : Addr} (hp : S p.block ∨ w.heap.size ≤ p.block) (u : Value) : Only S w (w'.setCell p u) :=
  ⟨h.os, h.tape, h.output, by simpa [World.setCell] using h.size, fun b hb hs => (Below.heap_setCell w' p u b (by
    rintro rfl
    rcases hp with hp | hp
    · exact hs hp
    · omega)).trans (h.block b hb hs)⟩
theorem Only.below (h : Only S w w') {B : Nat} (hB : B ≤ w.heap.size) (hS : ∀ b, S b → B ≤ b) : Below B w w' :=
  ⟨h.os, h.tape, h.output, h.size, fun b hb => h.block b (by omega) (fun x => by have := hS b x; omega)⟩
theorem Only.cell (h : Only S w w') {p : Addr} (hp : p.block < w.heap.size) (hs : ¬ S p.block) : w'.cell? p = w.cell? p := World.cell?_of_block (h.block p.block hp hs)
theorem Only.blk (h : Only S w w') {g : Nat} {t : TypeId} {cs : Array Value} (hb : Blk w g t cs) (hs : ¬ S g) : Blk w' g t cs := (h.block g hb.lt hs).trans hb
theorem own_keep {base size n : Nat} {e : TypeId} {v : Value} {xs : List Value} (h : w.ownsRow base e size v n xs) (hk : ∀ g, v.ownBlock = some g → w'.heap[g]? = w.heap[g]?) : w'.ownsRow base e size v n xs := by
  refine ⟨h.1, h.2.imp id ?_⟩
  rintro ⟨g, cap, cur, hv, hb, hh, r⟩
  exact ⟨g, cap, cur, hv, hb, (hk g (by rw [hv]; rfl)).trans hh, r⟩
end

/-- v reads as f; each slice of it lies in a block of its own; all these blocks are ones that S holds of -/
inductive Sep (w : World) : (Nat → Prop) → Value → Fd → Prop
  | int (S : Nat → Prop) (x : Int) : Sep w S (.int .i64 x) (.int x)
  | sl (S : Nat → Prop) (A : Option Addr) (n c size : Nat) (e : TypeId) (rows : List (List Fd)) (xs : List Value) (V : Nat → Nat → Value) (P : Nat → Nat → Nat → Prop)
      (hn : rows.length = n) (hm : n ≤ maxLen) (hs : ∀ r ∈ rows, r.length = size)
      (ho : w.ownsRow 0 e size (.slice A n c) n xs) (hS : ∀ g, (Value.slice A n c).ownBlock = some g → S g)
      (hP : ∀ i j b, P i j b → S b ∧ (Value.slice A n c).ownBlock ≠ some b)
      (hd : ∀ i j i' j' b, P i j b → P i' j' b → i = i' ∧ j = j')
      (hx : ∀ i j, i < n → j < size → xs[i * size + j]? = some (V i j))
      (hr : ∀ i j r f, rows[i]? = some r → r[j]? = some f → Sep w (P i j) (V i j) f) : Sep w S (.slice A n c) (.sl rows)

section
variable {S S' : Nat → Prop} {w w' : World} {v : Value} {f : Fd}
theorem Sep.keep (h : Sep w S v f) (hk : ∀ b, S b → w'.heap[b]? = w.heap[b]?) : Sep w' S v f := by
  induction h with
  | int S x => exact .int S x
  | sl S A n c size e rows xs V P hn hm hs ho hS hP hd hx _ ih =>
    exact .sl S A n c size e rows xs V P hn hm hs (own_keep ho (fun g hg => hk g (hS g hg))) hS hP hd hx (fun i j r f h1 h2 => ih i j r f h1 h2 (fun b hb => hk b (hP i j b hb).1))
theorem Sep.mono (h : Sep w S v f) (hS : ∀ b, S b → S' b) : Sep w S' v f := by
  cases h with
  | int S x => exact .int S' x
  | sl S A n c size e rows xs V P hn hm hs ho hS1 hP hd hx hr =>
    exact .sl S' A n c size e rows xs V P hn hm hs ho (fun g hg => hS g (hS1 g hg)) (fun i j b hb => ⟨hS b (hP i j b hb).1, (hP i j b hb).2⟩) hd hx hr
theorem Sep.rep (h : Sep w S v f) : Rep w S v f := by
  induction h with
  | int S x => exact .int x
  | sl S A n c size e rows xs V P hn hm hs ho hS hP hd hx _ ih =>
    refine .sl A n c size rows V hn hm hs (fun h0 => ?_) (fun i j r f h1 h2 => (ih i j r f h1 h2).mono (fun b hb => (hP i j b hb).1))
    obtain ⟨g, cap, hv, _, _⟩ := ho.form h0
    injection hv with hv
    subst hv
    exact ⟨_, rfl, hS g rfl, fun i j hi hj => ho.cells (g := g) rfl _ _ (hx i j hi hj)⟩
theorem Sep.under {B : Nat} (h : Sep w S v f) (hS : ∀ b, S b → b < B) (hb : Below B w w') : Sep w' S v f := h.keep fun b hs => hb.block b (hS b hs)
theorem Sep.drew (h : Sep w S v f) : Sep w.drew S v f := h.keep fun _ _ => rfl
theorem Sep.alloc (h : Sep w S v f) (hS : ∀ b, S b → b < w.heap.size) (o : Obj) : Sep (w.alloc o) S v f := h.keep fun b hb => Below.heap_alloc w o b (hS b hb)
theorem Sep.setCell (h : Sep w S v f) {p : Addr} (hp : ¬ S p.block) (u : Value) : Sep (w.setCell p u) S v f := h.keep fun b hb => Below.heap_setCell w p u b (fun e => by subst e; exact hp hb)
theorem Sep.only (h : Sep w S v f) (hS : ∀ b, S b → b < w.heap.size) (ho : Only S' w w') (hd : ∀ b, S b → ¬ S' b) : Sep w' S v f := h.keep fun b hb => ho.block b (hS b hb) (hd b hb)
theorem Sep.int_val {x : Int} (h : Sep w S v (.int x)) : v = .int .i64 x := by cases h; rfl
theorem Sep.sl_val {rows : List (List Fd)} (h : Sep w S v (.sl rows)) : ∃ A c, v = .slice A rows.length c ∧ rows.length ≤ maxLen := h.rep.sl_val
theorem Sep.len {A : Option Addr} {n c : Nat} {rows : List (List Fd)} (h : Sep w S (.slice A n c) (.sl rows)) : rows.length = n := h.rep.len

/-- an element of a slice, and what writing it leaves -/
theorem Sep.at_ {α : Type} {ra : α → List Fd} {size : Nat} (hsz : ∀ x, (ra x).length = size) {l : List α} {A : Option Addr} {n c k : Nat} {x : α} (h : Sep w S (.slice A n c) (.sl (l.map ra))) (hS : ∀ b, S b → b < w.heap.size) (hx : l[k]? = some x) :
    ∃ g : Nat, A = some ⟨g, 0, none⟩ ∧ S g ∧ (∀ j f, (ra x)[j]? = some f → ∃ u P, w.cell? ⟨g, k * size + j, none⟩ = some u ∧ w.frozen? ⟨g, k * size + j, none⟩ = false ∧ (∀ b, P b → S b ∧ b ≠ g) ∧ Sep w P u f ∧
      (∀ (w' : World) (f' : Fd) (y : α), Only P w w' → Sep w' P u f' → ra y = (ra x).set j f' → Sep w' S (.slice A n c) (.sl ((l.set k y).map ra)))) ∧
      (∀ (j : Nat) (b : Int) (y : α), j < size → ra y = (ra x).set j (.int b) → Sep (w.setCell ⟨g, k * size + j, none⟩ (.int .i64 b)) S (.slice A n c) (.sl ((l.set k y).map ra))) := by
  cases h with
  | sl S A n c size' e rows xs V P hn hm hs ho hS1 hP hd hV hr =>
    have hkl : k < l.length := (List.getElem?_eq_some_iff.1 hx).1
    rw [List.length_map] at hn
    have hrow : (l.map ra)[k]? = some (ra x) := by rw [List.getElem?_map, hx]; rfl
    have hse : size' = size := by rw [← hs _ (List.mem_of_getElem? hrow), hsz]
    subst hse
    obtain ⟨g, cap, hv, _, hlt⟩ := ho.form (by omega)
    injection hv with hv
    subst hv
    have hset : ∀ y : α, ((l.set k y).map ra) = (l.map ra).set k (ra y) := fun y => by rw [List.map_set]
    refine ⟨g, rfl, hS1 g rfl, fun j f hf => ?_, fun j b y hj hy => ?_⟩
    · have hj : j < size' := by rw [← hsz x]; exact (List.getElem?_eq_some_iff.1 hf).1
      have hlin : k * size' + j < n * size' := by
        calc k * size' + j < k * size' + size' := by omega
          _ = (k + 1) * size' := by rw [Nat.add_mul, Nat.one_mul]
          _ ≤ n * size' := Nat.mul_le_mul_right _ (by omega)
      refine ⟨V k j, P k j, (ho.cellAt _ hlin).trans (hV k j (by omega) hj), ho.frozenAt _, fun b hb => ⟨(hP k j b hb).1, fun e => (hP k j b hb).2 (by rw [e]; rfl)⟩, hr k j _ f hrow hf, fun w' f' y hw hf' hy => ?_⟩
      refine .sl S _ n c size' e _ xs V P (by rw [List.length_map, List.length_set]; exact hn) hm (fun r hmem => ?_) (own_keep ho (fun g' hg' => ?_)) hS1 hP hd hV (fun i j' r0 f0 hi hj' => ?_)
      · obtain ⟨z, _, rfl⟩ := List.mem_map.1 hmem
        exact hsz z
      · exact hw.block g' (hS _ (hS1 g' hg')) (fun hc => (hP k j g' hc).2 hg')
      · rw [hset, List.getElem?_set] at hi
        by_cases hik : k = i
        · subst hik
          rw [if_pos rfl, if_pos (by rw [List.length_map]; exact hkl)] at hi
          injection hi with hi
          subst hi
          rw [hy, List.getElem?_set] at hj'
          by_cases hjj : j = j'
          · subst hjj
            rw [if_pos rfl, if_pos (by rw [hsz]; exact hj)] at hj'
            injection hj' with hj'
            subst hj'
            exact hf'
          · rw [if_neg hjj] at hj'
            exact (hr k j' _ f0 hrow hj').keep (fun b hb => hw.block b (hS b (hP k j' b hb).1) (fun hc => hjj (hd k j k j' b hc hb).2))
        · rw [if_neg hik] at hi
          exact (hr i j' r0 f0 hi hj').keep (fun b hb => hw.block b (hS b (hP i j' b hb).1) (fun hc => hik (hd k j i j' b hc hb).1))
    · have hlin : k * size' + j < n * size' := by
        calc k * size' + j < k * size' + size' := by omega
          _ = (k + 1) * size' := by rw [Nat.add_mul, Nat.one_mul]
          _ ≤ n * size' := Nat.mul_le_mul_right _ (by omega)
      have hxl := ho.1
      refine .sl S _ n c size' e _ (xs.set (k * size' + j) (.int .i64 b)) (fun i j' => if i = k ∧ j' = j then .int .i64 b else V i j') P (by rw [List.length_map, List.length_set]; exact hn) hm (fun r hmem => ?_) (ho.stored (k * size' + j) (.int .i64 b)).1 hS1 hP hd (fun i j' hi hj' => ?_) (fun i j' r0 f0 hi hj' => ?_)
      · obtain ⟨z, _, rfl⟩ := List.mem_map.1 hmem
        exact hsz z
      · rw [List.getElem?_set]
        by_cases hik : i = k ∧ j' = j
        · obtain ⟨rfl, rfl⟩ := hik
          rw [if_pos rfl, if_pos (by omega)]
          simp
        · rw [if_neg hik, if_neg]
          · exact hV i j' hi hj'
          · intro hc
            apply hik
            have h1 : k = i := by
              have e1 : (k * size' + j) / size' = k := by rw [Nat.mul_comm, Nat.mul_add_div (by omega), Nat.div_eq_of_lt hj, Nat.add_zero]
              have e2 : (i * size' + j') / size' = i := by rw [Nat.mul_comm, Nat.mul_add_div (by omega), Nat.div_eq_of_lt hj', Nat.add_zero]
              rw [← e1, hc, e2]
            subst h1
            exact ⟨rfl, by omega⟩
      · rw [hset, List.getElem?_set] at hi
        have hother : ∀ i j' f0, Sep w (P i j') (V i j') f0 → ¬ (i = k ∧ j' = j) → Sep (w.setCell ⟨g, k * size' + j, none⟩ (.int .i64 b)) (P i j') (if i = k ∧ j' = j then .int .i64 b else V i j') f0 := fun i j' f0 hs0 hne => by
          rw [if_neg hne]
          exact hs0.setCell (fun hc => (hP i j' g hc).2 rfl) _
        by_cases hik : k = i
        · subst hik
          rw [if_pos rfl, if_pos (by rw [List.length_map]; exact hkl)] at hi
          injection hi with hi
          subst hi
          rw [hy, List.getElem?_set] at hj'
          by_cases hjj : j = j'
          · subst hjj
            rw [if_pos rfl, if_pos (by rw [hsz]; exact hj)] at hj'
            injection hj' with hj'
            subst hj'
            rw [if_pos ⟨rfl, rfl⟩]
            exact .int _ b
          · rw [if_neg hjj] at hj'
            exact hother k j' f0 (hr k j' _ f0 hrow hj') (fun hc => hjj hc.2.symm)
        · rw [if_neg hik] at hi
          exact hother i j' f0 (hr i j' r0 f0 hi hj') (fun hc => hik hc.1.symm)
end

/-! ### rows that are written one by one, each part of a row in new blocks -/
/-- the first k rows of xs read so, in blocks from lo on below hi, all parts apart -/
def RowsSep (w : World) (lo hi : Nat) (rows : List (List Fd)) (size k : Nat) (xs : List Value) : Prop :=
  ∃ (P : Nat → Nat → Nat → Prop), (∀ i j b, P i j b → lo ≤ b ∧ b < hi) ∧ (∀ i j i' j' b, P i j b → P i' j' b → i = i' ∧ j = j') ∧
    ∀ (i j : Nat) (r : List Fd) (f : Fd), i < k → rows[i]? = some r → r[j]? = some f → ∃ v, xs[i * size + j]? = some v ∧ Sep w (P i j) v f
section
variable {w w' : World} {lo hi hi' size k : Nat} {rows : List (List Fd)} {xs xs' : List Value}
theorem RowsSep.zero (w : World) (lo : Nat) (rows : List (List Fd)) (size : Nat) (xs : List Value) : RowsSep w lo lo rows size 0 xs :=
  ⟨fun _ _ _ => False, fun _ _ _ h => h.elim, fun _ _ _ _ _ h => h.elim, fun _ _ _ _ h => absurd h (Nat.not_lt_zero _)⟩
theorem RowsSep.zero' (w : World) {lo hi : Nat} (rows : List (List Fd)) (size : Nat) (xs : List Value) : RowsSep w lo hi rows size 0 xs :=
  ⟨fun _ _ _ => False, fun _ _ _ h => h.elim, fun _ _ _ _ _ h => h.elim, fun _ _ _ _ h => absurd h (Nat.not_lt_zero _)⟩
theorem RowsSep.keep (h : RowsSep w lo hi rows size k xs) (hk : ∀ b, lo ≤ b → b < hi → w'.heap[b]? = w.heap[b]?) (hh : hi ≤ hi') : RowsSep w' lo hi' rows size k xs := by
  obtain ⟨P, h1, h2, h3⟩ := h
  refine ⟨P, fun i j b hb => ⟨(h1 i j b hb).1, by have := (h1 i j b hb).2; omega⟩, h2, fun i j r f hi hr hf => ?_⟩
  obtain ⟨v, hv, hs⟩ := h3 i j r f hi hr hf
  exact ⟨v, hv, hs.keep (fun b hb => hk b (h1 i j b hb).1 (h1 i j b hb).2)⟩
theorem RowsSep.step {row : List Fd} {Q : Nat → Nat → Prop} (h : RowsSep w lo hi rows size k xs) (hrow : rows[k]? = some row) (hs : ∀ r ∈ rows, r.length = size) (hh : hi ≤ hi') (hl : lo ≤ hi)
    (h1 : ∀ p, p < k * size → xs'[p]? = xs[p]?) (hQ : ∀ j b, Q j b → hi ≤ b ∧ b < hi') (hq : ∀ j j' b, Q j b → Q j' b → j = j')
    (h2 : ∀ (j : Nat) (f : Fd), row[j]? = some f → ∃ v, xs'[k * size + j]? = some v ∧ Sep w (Q j) v f) : RowsSep w lo hi' rows size (k + 1) xs' := by
  obtain ⟨P, p1, p2, p3⟩ := h
  refine ⟨fun i j b => if i = k then Q j b else P i j b, fun i j b hb => ?_, fun i j i' j' b hb hb' => ?_, fun i j r f hi hr hf => ?_⟩
  · dsimp only at hb
    split at hb
    · have := hQ j b hb; omega
    · have := p1 i j b hb; omega
  · dsimp only at hb hb'
    split at hb <;> split at hb'
    · exact ⟨by omega, hq _ _ _ hb hb'⟩
    · have a1 := hQ _ _ hb; have a2 := p1 _ _ _ hb'; omega
    · have a1 := hQ _ _ hb'; have a2 := p1 _ _ _ hb; omega
    · exact p2 _ _ _ _ _ hb hb'
  · by_cases hik : i = k
    · subst hik
      rw [hrow] at hr
      injection hr with hr
      subst hr
      simp only [if_true]
      exact h2 j f hf
    · simp only [if_neg hik]
      obtain ⟨v, hv, hs0⟩ := p3 i j r f (by omega) hr hf
      refine ⟨v, ?_, hs0⟩
      have hj : j < size := by
        rw [← hs r (List.mem_of_getElem? hr)]
        exact (List.getElem?_eq_some_iff.1 hf).1
      rw [h1]
      · exact hv
      · calc i * size + j < i * size + size := by omega
          _ = (i + 1) * size := by rw [Nat.add_mul, Nat.one_mul]
          _ ≤ k * size := Nat.mul_le_mul_right _ (by omega)
/-- all rows written: the slice -/
theorem RowsSep.sep {S : Nat → Prop} {A : Option Addr} {n c base : Nat} {e : TypeId} (h : RowsSep w lo hi rows size n xs) (hn : rows.length = n) (hm : n ≤ maxLen) (hs : ∀ r ∈ rows, r.length = size) (ho : w.ownsRow base e size (.slice A n c) n xs)
    (hS : ∀ g, (Value.slice A n c).ownBlock = some g → S g ∧ ¬ (lo ≤ g ∧ g < hi)) (hL : ∀ b, lo ≤ b → b < hi → S b) : Sep w S (.slice A n c) (.sl rows) := by
  obtain ⟨P, p1, p2, p3⟩ := h
  refine .sl S A n c size e rows xs (fun i j => (xs[i * size + j]?).getD undef) P hn hm hs (own_mono ho (Nat.zero_le _)) (fun g hg => (hS g hg).1) (fun i j b hb => ⟨hL b (p1 i j b hb).1 (p1 i j b hb).2, fun hg => (hS b hg).2 (p1 i j b hb)⟩) p2 (fun i j hi hj => ?_) (fun i j r f hr hf => ?_)
  · have hlt : i * size + j < xs.length := by
      rw [ho.1]
      calc i * size + j < i * size + size := by omega
        _ = (i + 1) * size := by rw [Nat.add_mul, Nat.one_mul]
        _ ≤ n * size := Nat.mul_le_mul_right _ (by omega)
    rw [List.getElem?_eq_getElem hlt]
    rfl
  · obtain ⟨v, hv, hs0⟩ := p3 i j r f (by rw [← hn]; exact (List.getElem?_eq_some_iff.1 hr).1) hr hf
    rw [hv]
    exact hs0
end

/-! ### sizes -/
/-- the answer of a size that is reckoned down -/
def leftD (left n : Nat) : Int := if n ≤ left then ((left - n : Nat) : Int) else -1
theorem leftD_yes {left n : Nat} (h : n ≤ left) : leftD left n = ((left - n : Nat) : Int) := by rw [leftD, if_pos h]
theorem leftD_no {left n : Nat} (h : ¬ n ≤ left) : leftD left n = -1 := by rw [leftD, if_neg h]

/-! ### marks -/
section
variable {α : Type} (mk : Nat → α → α) (nu : α → Nat)
/-- a list with its numbers replaced by k, k + 1, .. -/
def mkL (k : Nat) : List α → List α
  | [] => []
  | x :: l => mk k x :: mkL (k + nu x) l
def nuL (l : List α) : Nat := (l.map nu).sum
/-- elements and their parts, counted -/
def szL (l : List α) : Nat := l.length + nuL nu l
/-- the first i elements marked -/
def partL (k i : Nat) (l : List α) : List α := mkL mk nu k (l.take i) ++ l.drop i
theorem mkL_len (k : Nat) (l : List α) : (mkL mk nu k l).length = l.length := by
  induction l generalizing k with
  | nil => rfl
  | cons x l ih => simp [mkL, ih]
theorem mkL_app (k : Nat) (a b : List α) : mkL mk nu k (a ++ b) = mkL mk nu k a ++ mkL mk nu (k + nuL nu a) b := by
  induction a generalizing k with
  | nil => simp [mkL, nuL]
  | cons x a ih => simp [mkL, nuL, ih, Nat.add_assoc]
theorem partL_zero (k : Nat) (l : List α) : partL mk nu k 0 l = l := by simp [partL, mkL]
theorem partL_all (k : Nat) (l : List α) {n : Nat} (h : l.length = n) : partL mk nu k n l = mkL mk nu k l := by simp [partL, ← h]
theorem partL_len (k i : Nat) (l : List α) : (partL mk nu k i l).length = l.length := by
  unfold partL
  rw [List.length_append, mkL_len, List.length_take, List.length_drop]
  omega
theorem partL_get {k i : Nat} {l : List α} {x : α} (h : l[i]? = some x) : (partL mk nu k i l)[i]? = some x := by
  have hi := (List.getElem?_eq_some_iff.1 h).1
  unfold partL
  have hlen : (mkL mk nu k (l.take i)).length = i := by rw [mkL_len, List.length_take]; omega
  rw [List.getElem?_append_right (by rw [hlen]; exact Nat.le_refl _), hlen, Nat.sub_self, List.getElem?_drop]
  exact h
theorem partL_succ {k i : Nat} {l : List α} {x : α} (h : l[i]? = some x) : (partL mk nu k i l).set i (mk (k + nuL nu (l.take i)) x) = partL mk nu k (i + 1) l := by
  have hi := (List.getElem?_eq_some_iff.1 h).1
  unfold partL
  have hlen : (mkL mk nu k (l.take i)).length = i := by rw [mkL_len, List.length_take]; omega
  rw [List.set_append_right _ _ (by rw [hlen]; exact Nat.le_refl _), hlen, Nat.sub_self]
  have hd : l.drop i = x :: l.drop (i + 1) := by
    rw [List.drop_eq_getElem_cons hi]
    congr 1
    exact (List.getElem?_eq_some_iff.1 h).2
  rw [hd, List.set_cons_zero, List.take_add_one, h, mkL_app]
  simp [mkL]
theorem nuL_succ {i : Nat} {l : List α} {x : α} (h : l[i]? = some x) : nuL nu (l.take (i + 1)) = nuL nu (l.take i) + nu x := by
  unfold nuL
  rw [List.take_add_one, h]
  simp
theorem nuL_zero {l : List α} (h : ∀ x, nu x = 0) : nuL nu l = 0 := by
  unfold nuL
  induction l with
  | nil => rfl
  | cons x l ih => simp only [List.map_cons, List.sum_cons, ih, h]
theorem nuL_le4 {n s : α → Nat} (h : ∀ x, n x ≤ 4 + 4 * s x) (l : List α) : nuL n l ≤ 4 * szL s l := by
  unfold szL nuL
  induction l with
  | nil => simp
  | cons x l ih =>
    have h1 := h x
    simp only [List.map_cons, List.sum_cons, List.length_cons] at ih ⊢
    omega
theorem szL_eq (l : List α) : szL nu l = l.length + nuL nu l := rfl
theorem mkL_get (k : Nat) {i : Nat} {l : List α} {x : α} (h : l[i]? = some x) : (mkL mk nu k l)[i]? = some (mk (k + nuL nu (l.take i)) x) := by
  induction l generalizing i k with
  | nil => simp at h
  | cons y l ih =>
    cases i with
    | zero => simp at h; subst h; simp [mkL, nuL]
    | succ i =>
      simp only [List.getElem?_cons_succ] at h
      simp only [mkL, List.getElem?_cons_succ]
      rw [ih (k + nu y) h]
      simp [nuL, Nat.add_assoc]
theorem nuL_take (l : List α) : ∀ i, nuL nu (l.take i) ≤ nuL nu l := by
  intro i
  induction l generalizing i with
  | nil => simp
  | cons x l ih =>
    cases i with
    | zero => simp [nuL]
    | succ i => simp only [nuL, List.take_succ_cons, List.map_cons, List.sum_cons] at ih ⊢; have := ih i; omega
theorem nuL_el {l : List α} {x : α} (h : x ∈ l) : nu x ≤ nuL nu l := by
  unfold nuL
  induction l with
  | nil => simp at h
  | cons y l ih =>
    simp only [List.map_cons, List.sum_cons]
    rcases List.mem_cons.1 h with rfl | h
    · omega
    · have := ih h; omega
end
/-- a list of numbers of the call's own -/
theorem sep_ints {w : World} {S : Nat → Prop} {base n c : Nat} {e : TypeId} {A : Option Addr} {l : List Int} (hm : n ≤ maxLen) (h : w.ownsRow base e 1 (.slice A n c) n (ints l)) (hS : ∀ g, (Value.slice A n c).ownBlock = some g → S g) : Sep w S (.slice A n c) (fints l) := by
  have hl : l.length = n := by have := h.1; rw [ints_len] at this; omega
  refine .sl S A n c 1 e _ (ints l) (fun i _ => ((ints l)[i]?).getD undef) (fun _ _ _ => False) (by rw [List.length_map]; exact hl) hm (fun r hr => ?_) (own_mono h (Nat.zero_le _)) hS (fun _ _ _ h => h.elim) (fun _ _ _ _ _ h => h.elim) (fun i j hi hj => ?_) (fun i j r f hr hf => ?_)
  · obtain ⟨x, _, rfl⟩ := List.mem_map.1 hr
    rfl
  · obtain rfl : j = 0 := by omega
    rw [Nat.mul_one, Nat.add_zero, List.getElem?_eq_getElem (by rw [ints_len]; omega)]
    rfl
  · rw [List.getElem?_map] at hr
    cases hx : l[i]? with
    | none => rw [hx] at hr; cases hr
    | some x =>
      rw [hx] at hr
      injection hr with hr
      subst hr
      cases j with
      | zero =>
        simp at hf
        subst hf
        rw [ints_get, hx]
        exact .int _ x
      | succ j => simp at hf
theorem slv_of {w : World} {S : Nat → Prop} {v : Value} {rows : List (List Fd)} (h : Rep w S v (.sl rows)) : ∃ A n c, v = .slice A n c := by
  obtain ⟨A, c, rfl, _⟩ := h.sl_val
  exact ⟨_, _, _, rfl⟩
theorem blkS1 {w : World} {g : Nat} {t : TypeId} {a : Value} (h : Blk w g t #[a]) : w.cell? ⟨g, 0, none⟩ = some a := h.cell 0
theorem blkS4 {w : World} {g : Nat} {t : TypeId} {a b c d : Value} (h : Blk w g t #[a, b, c, d]) : w.cell? ⟨g, 0, none⟩ = some a ∧ w.cell? ⟨g, 1, none⟩ = some b ∧ w.cell? ⟨g, 2, none⟩ = some c ∧ w.cell? ⟨g, 3, none⟩ = some d := ⟨h.cell 0, h.cell 1, h.cell 2, h.cell 3⟩
theorem blkS2 {w : World} {g : Nat} {t : TypeId} {a b : Value} (h : Blk w g t #[a, b]) : w.cell? ⟨g, 0, none⟩ = some a ∧ w.cell? ⟨g, 1, none⟩ = some b := ⟨h.cell 0, h.cell 1⟩
end Go.Proofs.Ytjiijjihkgipkaa

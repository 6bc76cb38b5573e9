/- Words and contracts that later texts use. -/
import Derived.WalkKit
import Derived.Below
import Derived.Laws.OwnMore
import Derived.Deep.AppendLies
import Derived.Deep.Draws
import Derived.Deep.OwnRows
import Derived.Maps.AppendAt
import Derived.RegionTactic
import Derived.OwnWalk
import Derived.Deep.QuietTactic
import Derived.BigQuiet
import Derived.Lib.Hide
import Derived.Laws.BitsAllLaws
import Derived.Laws.BitsLemmas
import Derived.Laws.Rows
import Derived.Laws.MakeOwn
import Derived.Laws.Entries
import Derived.Deep.Quiet
import Derived.Test.YtolndlmhbnpmeaaDoorChecked
import Derived.Deep.Slices
import Derived.Deep.Fields
import Derived.ChangeSame
import Derived.Outline
/- Plain bits: a table's bits as a number; no program in sight. -/
namespace Go.Proofs.YtolndlmhbnpmeaaDoor.Tb

def tab (f : Nat → Bool) : Nat → Nat
 | 0 => 0
 | k + 1 => tab f k + if f k then 2 ^ k else 0

theorem tab_lt (f : Nat → Bool) (k : Nat) : tab f k < 2 ^ k := by
 induction k with
 | zero => simp [tab]
 | succ k ih => rw [tab, Nat.pow_succ]; split <;> omega

theorem pow_mono {a b : Nat} (h : a ≤ b) : 2 ^ a ≤ 2 ^ b := Nat.pow_le_pow_right (by omega) h

theorem bit_big {x k i : Nat} (h : x < 2 ^ k) (hi : k ≤ i) : x.testBit i = false :=
 Nat.testBit_lt_two_pow (Nat.lt_of_lt_of_le h (pow_mono hi))

theorem tab_bit (f : Nat → Bool) (k i : Nat) : (tab f k).testBit i = (decide (i < k) && f i) := by
 induction k with
 | zero => simp [tab]
 | succ k ih =>
  have hlt := tab_lt f k
  rw [tab]
  by_cases hf : f k = true
  ·rw [if_pos hf, Nat.add_comm]
   rcases Nat.lt_trichotomy i k with h | h | h
   ·rw [Nat.testBit_two_pow_add_gt h, ih]
    simp [h, Nat.lt_succ_of_lt h]
   ·subst h
    rw [Nat.testBit_two_pow_add_eq, ih]
    simp [hf]
   ·rw [bit_big (k := k + 1) (by rw [Nat.pow_succ]; omega) (by omega)]
    simp; omega
  ·rw [if_neg hf, Nat.add_zero, ih]
   rcases Nat.lt_trichotomy i k with h | h | h
   ·simp [h, Nat.lt_succ_of_lt h]
   ·subst h; simpa using hf
   ·have h1 : ¬ i < k := by omega
    have h2 : ¬ i < k + 1 := by omega
    simp [h1, h2]

theorem tab_congr {f g : Nat → Bool} {k : Nat} (h : ∀ i, i < k → f i = g i) : tab f k = tab g k := by
 apply Nat.eq_of_testBit_eq
 intro i
 rw [tab_bit, tab_bit]
 by_cases hi : i < k
 ·simp [hi, h i hi]
 ·simp [hi]

theorem tab_or (f : Nat → Bool) (k : Nat) : tab f k ||| 2 ^ k = tab f k + 2 ^ k := by
 apply Nat.eq_of_testBit_eq
 intro i
 have hlt := tab_lt f k
 rw [Nat.testBit_or, Nat.testBit_two_pow, Nat.add_comm (tab f k)]
 rcases Nat.lt_trichotomy i k with h | h | h
 ·rw [Nat.testBit_two_pow_add_gt h]
  have : ¬ k = i := by omega
  simp [this]
 ·subst h
  rw [Nat.testBit_two_pow_add_eq, bit_big hlt (Nat.le_refl _)]
  simp
 ·rw [bit_big hlt (Nat.le_of_lt h), bit_big (k := k + 1) (by rw [Nat.pow_succ]; omega) (by omega)]
  have : ¬ k = i := by omega
  simp [this]

theorem eq_tab {b k : Nat} (h : b < 2 ^ k) : tab b.testBit k = b := by
 apply Nat.eq_of_testBit_eq
 intro i
 rw [tab_bit]
 by_cases hi : i < k
 ·simp [hi]
 ·rw [bit_big h (by omega)]; simp

theorem tab_not {b k : Nat} (h : b < 2 ^ k) : tab (fun i => !b.testBit i) k = 2 ^ k - 1 - b := by
 apply Nat.eq_of_testBit_eq
 intro i
 rw [tab_bit, show 2 ^ k - 1 - b = 2 ^ k - (b + 1) from by omega, Nat.testBit_two_pow_sub_succ h]

/-- the i-th bit, as the code asks for it -/
theorem bit_num (b i : Nat) : b / 2 ^ i % 2 = if b.testBit i then 1 else 0 := by
 rw [Nat.testBit_eq_decide_div_mod_eq]
 have := Nat.mod_two_eq_zero_or_one (b / 2 ^ i)
 rcases this with h | h <;> simp [h]

theorem or_disj {a b : Nat} (h : a &&& b = 0) : a ||| b = a + b := by
 have hlt : a + b < 2 ^ (a + b) := Nat.lt_two_pow_self
 have ha : a % 2 ^ (a + b) = a := Nat.mod_eq_of_lt (by omega)
 have hb : b % 2 ^ (a + b) = b := Nat.mod_eq_of_lt (by omega)
 have h1 := BitVec.add_eq_or_of_and_eq_zero (BitVec.ofNat (a + b) a) (BitVec.ofNat (a + b) b) (by
  apply BitVec.eq_of_toNat_eq
  rw [BitVec.toNat_and, BitVec.toNat_ofNat, BitVec.toNat_ofNat, ha, hb, h]
  simp)
 have h2 := congrArg BitVec.toNat h1
 rw [BitVec.toNat_add, BitVec.toNat_or, BitVec.toNat_ofNat, BitVec.toNat_ofNat, ha, hb, Nat.mod_eq_of_lt hlt] at h2
 exact h2.symm

/-- a without the bits of b -/
def andn (a b : Nat) : Nat := a ^^^ (a &&& b)
theorem andn_bit (a b i : Nat) : (andn a b).testBit i = (a.testBit i && !b.testBit i) := by
 unfold andn
 rw [Nat.testBit_xor, Nat.testBit_and]
 cases a.testBit i <;> cases b.testBit i <;> rfl
theorem andn_zero {a b : Nat} : andn a b = 0 ↔ ∀ i, a.testBit i = true → b.testBit i = true := by
 constructor
 ·intro h i ha
  have := andn_bit a b i
  rw [h] at this
  simp [ha] at this
  exact this
 ·intro h
  apply Nat.eq_of_testBit_eq
  intro i
  rw [andn_bit, Nat.zero_testBit]
  cases ha : a.testBit i
  ·rfl
  ·simp [h i ha]
theorem andn_le (a b : Nat) : andn a b ≤ a := by
 have : andn a b &&& a = andn a b := by
  apply Nat.eq_of_testBit_eq
  intro i
  rw [Nat.testBit_and, andn_bit]
  cases a.testBit i <;> simp
 rw [← this]; exact Nat.and_le_right
theorem and_le_of_sub {a b : Nat} (h : andn a b = 0) : a ≤ b := by
 have : a &&& b = a := by
  apply Nat.eq_of_testBit_eq
  intro i
  rw [Nat.testBit_and]
  have := andn_zero.1 h i
  cases ha : a.testBit i
  ·rfl
  ·simp [this ha]
 rw [← this]; exact Nat.and_le_right

/-- index i with bit k set to v -/
def setb (k : Nat) (v : Bool) (i : Nat) : Nat := if v then andn i (2 ^ k) + 2 ^ k else andn i (2 ^ k)
theorem andn_pow_bit (i k j : Nat) : (andn i (2 ^ k)).testBit j = (i.testBit j && !decide (k = j)) := by
 rw [andn_bit, Nat.testBit_two_pow]
theorem andn_pow_or (i k : Nat) : andn i (2 ^ k) ||| 2 ^ k = andn i (2 ^ k) + 2 ^ k := by
 have h : andn i (2 ^ k) &&& 2 ^ k = 0 := by
  apply Nat.eq_of_testBit_eq
  intro j
  rw [Nat.testBit_and, andn_pow_bit, Nat.testBit_two_pow, Nat.zero_testBit]
  by_cases hk : k = j <;> simp [hk]
 exact or_disj h
theorem setb_bit (k : Nat) (v : Bool) (i j : Nat) : (setb k v i).testBit j = if k = j then v else i.testBit j := by
 unfold setb
 cases v
 ·rw [if_neg (by simp), andn_pow_bit]
  by_cases hk : k = j <;> simp [hk]
 ·rw [if_pos rfl, ← andn_pow_or, Nat.testBit_or, andn_pow_bit, Nat.testBit_two_pow]
  by_cases hk : k = j <;> simp [hk]
theorem setb_lt {k n i : Nat} {v : Bool} (hk : k < n) (hi : i < 2 ^ n) : setb k v i < 2 ^ n := by
 apply Nat.lt_pow_two_of_testBit
 intro j hj
 rw [setb_bit, if_neg (by omega), bit_big hi hj]

/-- a cofactor's bits -/
def cof (n b k : Nat) (v : Bool) : Nat := tab (fun i => b.testBit (setb k v i)) (2 ^ n)
end Go.Proofs.YtolndlmhbnpmeaaDoor.Tb

/- Words for memory (lemmas that the guide gives for copying): a slice that reads as a list, a block known whole, append from any source; bits on int64; small words on worlds. -/
namespace Go.Proofs.YtolndlmhbnpmeaaDoor
open Go.RowKit

theorem block_of_add (a : Addr) (n : Nat) : (a.add n).block = a.block := by unfold Addr.add; split <;> rfl
theorem add_of_add (a : Addr) (i j : Nat) : (a.add i).add j = a.add (i + j) := by
 unfold Addr.add
 by_cases hi : i = 0 <;> by_cases hj : j = 0 <;> simp [hi, hj, Nat.add_assoc]

def Reads (w : World) (B size : Nat) (A : Option Addr) (n : Nat) (xs : List Value) : Prop :=
 xs.length = n * size ∧ (0 < n → ∃ ad, A = some ad ∧ ad.block < B ∧ ∀ j u, xs[j]? = some u → w.cell? (ad.add j) = some u)

section
variable {w w' : World} {B B' size n : Nat} {A : Option Addr} {xs : List Value}
theorem Reads.none_ : Reads w B size A 0 [] := ⟨by simp, fun h => absurd h (by omega)⟩
theorem Reads.at_ {k : Nat} (h : Reads w B 1 A n xs) (hk : k < n) : ∃ ad u, A = some ad ∧ ad.block < B ∧ xs[k]? = some u ∧ w.cell? (ad.add k) = some u := by
 obtain ⟨ad, e, hb, hc⟩ := h.2 (by omega)
 have hl : k < xs.length := by have := h.1; omega
 exact ⟨ad, xs[k], e, hb, List.getElem?_eq_getElem hl, hc k _ (List.getElem?_eq_getElem hl)⟩
theorem Reads.keep (h : Reads w B size A n xs) (hk : ∀ p : Addr, p.block < B → w'.cell? p = w.cell? p) : Reads w' B size A n xs :=
 ⟨h.1, fun hn => by
  obtain ⟨ad, e, hb, hc⟩ := h.2 hn
  exact ⟨ad, e, hb, fun j u hu => (hk _ (by rw [block_of_add]; exact hb)).trans (hc j u hu)⟩⟩
theorem Reads.more (h : Reads w B size A n xs) (hB : B ≤ B') : Reads w B' size A n xs :=
 ⟨h.1, fun hn => by
  obtain ⟨ad, e, hb, hc⟩ := h.2 hn
  exact ⟨ad, e, by omega, hc⟩⟩
theorem Reads.below (h : Reads w B size A n xs) (hb : Below B w w') : Reads w' B size A n xs := h.keep fun _ hp => hb.cell hp
theorem Reads.drew (h : Reads w B size A n xs) : Reads w.drew B size A n xs := h
theorem Reads.drewN (h : Reads w B size A n xs) (k : Nat) : Reads (w.drewN k) B size A n xs := h
theorem Reads.alloc (h : Reads w B size A n xs) (hB : B ≤ w.heap.size) (o : Obj) : Reads (w.alloc o) B size A n xs := h.keep fun p hp => World.cell?_alloc_lt w o p (by omega)
theorem Reads.setCell (h : Reads w B size A n xs) {p : Addr} (hB : B ≤ p.block) (u : Value) : Reads (w.setCell p u) B size A n xs :=
 h.keep fun q hq => World.cell?_setCell_other w p q u (fun e => by subst e; omega)
theorem Reads.grown (h : Reads w B size A n xs) {row : Option Nat} (hg : w.grownBy w' row) (hB : B ≤ w.heap.size) (hr : ∀ g, row = some g → B ≤ g) : Reads w' B size A n xs :=
 h.keep fun p hp => World.cell?_of_block (hg.block p.block (by omega) (fun e => by have := hr _ e.symm; omega))
theorem Reads.cut (h : Reads w B size A n xs) {k cap : Nat} (hk : k ≤ n) (hc : n ≤ cap) :
  Reads w B size (if cap = k then A else A.map (·.add (k * size))) (n - k) (xs.drop (k * size)) := by
 refine ⟨by rw [List.length_drop, h.1, Nat.sub_mul], fun hn => ?_⟩
 obtain ⟨ad, rfl, hb, hcell⟩ := h.2 (by omega)
 rw [if_neg (by omega)]
 refine ⟨ad.add (k * size), rfl, by rw [block_of_add]; exact hb, fun j u hu => ?_⟩
 rw [add_of_add]
 exact hcell _ u (by rw [← hu, List.getElem?_drop])
theorem Reads.of_own {base : Nat} {e : TypeId} {c : Nat} (h : w.ownsRow base e size (.slice A n c) n xs) : Reads w w.heap.size size A n xs := by
 refine ⟨h.1, fun hn => ?_⟩
 obtain ⟨g, cap, hv, _, hlt⟩ := h.form hn
 have hA : A = some ⟨g, 0, none⟩ := by injection hv
 subst hA
 exact ⟨_, rfl, hlt, h.cells (g := g) rfl⟩
end

def Blk (w : World) (g : Nat) (t : TypeId) (cs : Array Value) : Prop := w.heap[g]? = some (.cells cs t (0, 0))

section
variable {w w' : World} {g : Nat} {t : TypeId} {cs : Array Value}
theorem Blk.lt (h : Blk w g t cs) : g < w.heap.size := by
 rcases Nat.lt_or_ge g w.heap.size with hlt | hge
 ·exact hlt
 ·unfold Blk at h; rw [Array.getElem?_eq_none hge] at h; cases h
theorem Blk.cell (h : Blk w g t cs) (i : Nat) : w.cell? ⟨g, i, none⟩ = cs[i]? := cell_of_row w g i cs t (0, 0) h
theorem Blk.frozen (h : Blk w g t cs) (i : Nat) : w.frozen? ⟨g, i, none⟩ = false := by
 unfold Blk at h
 simp [World.frozen?, h]
theorem Blk.new (w : World) (t : TypeId) (cs : Array Value) : Blk (w.alloc (.cells cs t)) w.heap.size t cs := heap_alloc_new w _
theorem Blk.drew (h : Blk w g t cs) : Blk w.drew g t cs := h
theorem Blk.drewN (h : Blk w g t cs) (n : Nat) : Blk (w.drewN n) g t cs := h
theorem Blk.alloc (h : Blk w g t cs) (o : Obj) : Blk (w.alloc o) g t cs := (Below.heap_alloc w o g h.lt).trans h
theorem Blk.set_ (h : Blk w g t cs) (i : Nat) (u : Value) : Blk (w.setCell ⟨g, i, none⟩ u) g t (cs.setIfInBounds i u) := by
 unfold Blk at h ⊢
 simp [World.setCell, Array.getElem?_modify, h]
theorem Blk.far (h : Blk w g t cs) {p : Addr} (hp : g ≠ p.block) (u : Value) : Blk (w.setCell p u) g t cs := (Below.heap_setCell w p u g hp).trans h
theorem Blk.below {B : Nat} (h : Blk w g t cs) (hb : Below B w w') (hg : g < B) : Blk w' g t cs := (hb.block g hg).trans h
theorem Blk.grown {row : Option Nat} (h : Blk w g t cs) (hb : w.grownBy w' row) (hg : some g ≠ row) : Blk w' g t cs := (hb.block g h.lt hg).trans h
theorem Blk.ne_ {g' : Nat} {t' : TypeId} {cs' : Array Value} (h : Blk w g t cs) (h' : Blk w g' t' cs') (hne : t ≠ t') : g ≠ g' := by
 rintro rfl
 unfold Blk at h h'
 rw [h] at h'
 injection h' with h'
 injection h' with _ ht
 exact hne ht
theorem own_blk_ne {base : Nat} {e : TypeId} {size n : Nat} {v : Value} {xs : List Value} (h : w.ownsRow base e size v n xs) (hg : Blk w g t cs) (hne : e ≠ t) : v.ownBlock ≠ some g := by
 rcases h.2 with ⟨rfl, _⟩ | ⟨g', cap, cur, rfl, _, hh, _⟩
 ·simp [Value.ownBlock]
 ·intro he
  have : g' = g := by simpa [Value.ownBlock] using he
  subst this
  exact Blk.ne_ (t := e) hh hg hne rfl
end

section
variable {P : Program} (w : World)

theorem run_append_of_nil (base : Nat) (t ty e : TypeId) (i : TypeInfo) (size : Nat) (ht : P.underlying t = some (.slice e)) (hi : P.info? e = some i)
  (v : Value) (n : Nat) (xs : List Value) (hown : w.ownsRow base e size v n xs) (c : Nat) : (Builtin.append_ #[t, t] ty #[v, .slice none 0 c]).run P w = .ok v w := by
 rcases hown.2 with ⟨rfl, rfl⟩ | ⟨g, cap, cur, rfl, _, _, hnc, _⟩
 ·simp [Builtin.append_, run_underlying ht, sizeOf, typeInfo, hi, Builtin.lenOf, Builtin.firstCells]
 ·simp [Builtin.append_, run_underlying ht, sizeOf, typeInfo, hi, Builtin.lenOf, Builtin.firstCells, hnc, storeCells]

theorem run_append_any (base : Nat) (t ty e : TypeId) (i : TypeInfo) (z : Value) (size bytes : Nat) (ht : P.underlying t = some (.slice e)) (hi : P.info? e = some i) (hz : i.zero = some z)
  (hsize : i.size = size) (hby : i.bytes = bytes) (hzs : z.cells.size = size) (hsz : 0 < size)
  (v : Value) (n : Nat) (xs : List Value) (hown : w.ownsRow base e size v n xs)
  (B : Nat) (A : Option Addr) (m c : Nat) (news : List Value) (hr : Reads w B size A m news) (h1 : ∀ u ∈ news, u.oneCell' = true)
  (h63 : n + m ≤ maxLen) (hbytes : (n + m) * bytes ≤ 140737488355328) (hbase : base ≤ w.heap.size) :
  ∃ v' w', (Builtin.append_ #[t, t] ty #[v, .slice A m c]).run P w = .ok v' w' ∧ w'.ownsRow base e size v' (n + m) (xs ++ news) ∧ w.grownBy w' v.ownBlock ∧
   (v'.ownBlock = v.ownBlock ∨ v'.ownBlock = some w.heap.size) := by
 rcases A with _ | ad
 ·have hm : m = 0 := by
   rcases Nat.eq_zero_or_pos m with h0 | h0
   ·exact h0
   ·obtain ⟨ad, h, _⟩ := hr.2 h0
    cases h
  subst hm
  have hn : news = [] := List.eq_nil_of_length_eq_zero (by simpa using hr.1)
  subst hn
  exact ⟨v, w, run_append_of_nil w base t ty e i size ht hi v n xs hown c, by simpa using hown, World.grownBy.refl w _, .inl rfl⟩
 ·have hcells : ∀ j u, news[j]? = some u → w.cell? (ad.add j) = some u := by
   intro j u hu
   rcases Nat.eq_zero_or_pos m with h0 | h0
   ·subst h0
    have hn : news = [] := List.eq_nil_of_length_eq_zero (by simpa using hr.1)
    subst hn
    simp at hu
   ·obtain ⟨ad', h, _, hc⟩ := hr.2 h0
    injection h with h
    subst h
    exact hc j u hu
  obtain ⟨v', w', hrun, h2, h3, _, h5⟩ := run_append_own_at (P := P) w base t ty e i z size bytes ht hi hz hsize hby hzs hsz v n xs hown ad m c news hr.1 hcells h1 h63 hbytes hbase
  exact ⟨v', w', hrun, h2, h3, h5⟩

theorem wp_append_any {o : Oper} {a : Act} {K : Act → World → Prop} {Q : Exit → Act → World → Prop} (s x : Operand) (t : TypeId)
  (ho : o.op = .call { callee := .builtin .append, args := #[s, x], argTypes := #[t, t] })
  (base : Nat) (e : TypeId) (i : TypeInfo) (z : Value) (size bytes : Nat) (ht : P.underlying t = some (.slice e)) (hi : P.info? e = some i) (hz : i.zero = some z)
  (hsize : i.size = size) (hby : i.bytes = bytes) (hzs : z.cells.size = size) (hsz : 0 < size)
  (v : Value) (n : Nat) (xs : List Value) (hs : a.eval s = v) (hown : w.ownsRow base e size v n xs)
  (B : Nat) (A : Option Addr) (m c : Nat) (news : List Value) (hx : a.eval x = .slice A m c) (hr : Reads w B size A m news) (h1 : ∀ u ∈ news, u.oneCell' = true)
  (h63 : n + m ≤ maxLen) (hbytes : (n + m) * bytes ≤ 140737488355328) (hbase : base ≤ w.heap.size)
  (h : ∀ v' w', w'.ownsRow base e size v' (n + m) (xs ++ news) → w.grownBy w' v.ownBlock → (v'.ownBlock = v.ownBlock ∨ v'.ownBlock = some w.heap.size) → K (a.put o.dst v') w') : o.wp P a w K Q := by
 obtain ⟨v', w', hrun, h2, h3, h4⟩ := run_append_any (P := P) w base t o.type e i z size bytes ht hi hz hsize hby hzs hsz v n xs hown B A m c news hr h1 h63 hbytes hbase
 unfold Oper.wp execOp
 simp only [ho, resolve, invoke, builtin, Sem.run_bind, Sem.run_pure, Result.andThen_ok, List.map_toArray, List.map_cons, List.map_nil, hs, hx, hrun]
 exact h v' w' h2 h3 h4

theorem wpList_append_any {ops : Array Oper} {rest : List Oper} {o : Oper} {a : Act} {Q : Exit → Act → World → Prop} (hgd : o.guard = none) (s x : Operand) (t : TypeId)
  (ho : o.op = .call { callee := .builtin .append, args := #[s, x], argTypes := #[t, t] })
  (base : Nat) (e : TypeId) (i : TypeInfo) (z : Value) (size bytes : Nat) (ht : P.underlying t = some (.slice e)) (hi : P.info? e = some i) (hz : i.zero = some z)
  (hsize : i.size = size) (hby : i.bytes = bytes) (hzs : z.cells.size = size) (hsz : 0 < size)
  (v : Value) (n : Nat) (xs : List Value) (hs : a.eval s = v) (hown : w.ownsRow base e size v n xs)
  (B : Nat) (A : Option Addr) (m c : Nat) (news : List Value) (hx : a.eval x = .slice A m c) (hr : Reads w B size A m news) (h1 : ∀ u ∈ news, u.oneCell' = true)
  (h63 : n + m ≤ maxLen) (hbytes : (n + m) * bytes ≤ 140737488355328) (hbase : base ≤ w.heap.size)
  (h : ∀ v' w', w'.ownsRow base e size v' (n + m) (xs ++ news) → w.grownBy w' v.ownBlock → (v'.ownBlock = v.ownBlock ∨ v'.ownBlock = some w.heap.size) → wpList P ops Q rest (a.put o.dst v') w') : wpList P ops Q (o :: rest) a w :=
 wpList_plain hgd fun _ hK => wp_append_any w s x t ho base e i z size bytes ht hi hz hsize hby hzs hsz v n xs hs hown B A m c news hx hr h1 h63 hbytes hbase fun v' w' h2 h3 h4 => hK _ _ (h v' w' h2 h3 h4)

theorem step_append_any {ops : Array Oper} {o : Oper} {a : Act} {K : Act → World → Prop} {Q : Exit → Act → World → Prop} {E : Prop} (hgd : o.guard = none) (s x : Operand) (t : TypeId)
  (ho : o.op = .call { callee := .builtin .append, args := #[s, x], argTypes := #[t, t] })
  (base : Nat) (e : TypeId) (i : TypeInfo) (z : Value) (size bytes : Nat) (ht : P.underlying t = some (.slice e)) (hi : P.info? e = some i) (hz : i.zero = some z)
  (hsize : i.size = size) (hby : i.bytes = bytes) (hzs : z.cells.size = size) (hsz : 0 < size)
  (v : Value) (n : Nat) (xs : List Value) (hs : a.eval s = v) (hown : w.ownsRow base e size v n xs)
  (B : Nat) (A : Option Addr) (m c : Nat) (news : List Value) (hx : a.eval x = .slice A m c) (hr : Reads w B size A m news) (h1 : ∀ u ∈ news, u.oneCell' = true)
  (h63 : n + m ≤ maxLen) (hbytes : (n + m) * bytes ≤ 140737488355328) (hbase : base ≤ w.heap.size)
  (h : ∀ v' w', w'.ownsRow base e size v' (n + m) (xs ++ news) → w.grownBy w' v.ownBlock → (v'.ownBlock = v.ownBlock ∨ v'.ownBlock = some w.heap.size) → K (a.put o.dst v') w') :
  if Region.wanted o (yielded ops a.tmps) = true then Oper.wp P o a w K Q else E := by
 have hw : Region.wanted o (yielded ops a.tmps) = true := by simp [Region.wanted, hgd]
 rw [if_pos hw]
 exact wp_append_any w s x t ho base e i z size bytes ht hi hz hsize hby hzs hsz v n xs hs hown B A m c news hx hr h1 h63 hbytes hbase h
end

theorem hide {p : Prop} (h : p) : Hid p := h
theorem unhide {p : Prop} (h : Hid p) : p := h

theorem quiet_add {P : Program} {f : FuncId} {args : Array Value} {w : World} {a n : Nat} {v : Value}
  (h : Calls P f args (w.drewN (a + n)) fun e w' => e = .returned v ∧ ∃ m, w' = (w.drewN (a + n)).drewN m) :
  Calls P f args (w.drewN (a + n)) fun e w'' => e = .returned v ∧ ∃ m, w'' = w.drewN (a + m) :=
 h.mono fun _ _ ⟨he, m, hm⟩ => ⟨he, n + m, by rw [hm, World.drewN_drewN, Nat.add_assoc]⟩
theorem quiet_add_same {P : Program} {f : FuncId} {args : Array Value} {w : World} {a n : Nat} {v : Value}
  (h : Calls P f args (w.drewN (a + n)) fun e w' => e = .returned v ∧ w' = w.drewN (a + n)) :
  Calls P f args (w.drewN (a + n)) fun e w'' => e = .returned v ∧ ∃ m, w'' = w.drewN (a + m) :=
 h.mono fun _ _ ⟨he, hm⟩ => ⟨he, n, hm⟩
theorem quiet_add_left {P : Program} {f : FuncId} {args : Array Value} {w : World} {a n : Nat} {v : Value}
  (h : Calls P f args (w.drewN (a + n)) fun e w' => e = .returned v ∧ w.drewN (a + n) = w') :
  Calls P f args (w.drewN (a + n)) fun e w'' => e = .returned v ∧ ∃ m, w'' = w.drewN (a + m) :=
 h.mono fun _ _ ⟨he, hm⟩ => ⟨he, n, hm.symm⟩
theorem quiet_left {P : Program} {f : FuncId} {args : Array Value} {w : World} {n : Nat} {v : Value}
  (h : Calls P f args (w.drewN n) fun e w' => e = .returned v ∧ w.drewN n = w') : Calls P f args (w.drewN n) fun e w'' => e = .returned v ∧ ∃ m, w'' = w.drewN m :=
 h.mono fun _ _ ⟨he, hm⟩ => ⟨he, n, hm.symm⟩

theorem results_tmp4 {fn : Func} {t u v x : Tmp} (h : fn.results = #[.tmp t, .tmp u, .tmp v, .tmp x]) (tmps : Array Value) (P : Program) (w : World) :
  (results fn tmps).run P w = .ok (.tuple #[tmps.getD t undef, tmps.getD u undef, tmps.getD v undef, tmps.getD x undef]) w := by simp [results, h]
theorem results_tmp5 {fn : Func} {t u v x y : Tmp} (h : fn.results = #[.tmp t, .tmp u, .tmp v, .tmp x, .tmp y]) (tmps : Array Value) (P : Program) (w : World) :
  (results fn tmps).run P w = .ok (.tuple #[tmps.getD t undef, tmps.getD u undef, tmps.getD v undef, tmps.getD x undef, tmps.getD y undef]) w := by simp [results, h]

theorem below_drewN {B : Nat} {a w : World} (h : Below B a w) (n : Nat) : Below B a (w.drewN n) := ⟨h.os, h.tape, h.output, h.size, h.block⟩
theorem rowIs_drewN {w : World} {b : Nat} {t : TypeId} {n : Nat} {f : Nat → Value} (h : w.rowIs b t n f) (k : Nat) : (w.drewN k).rowIs b t n f := h
theorem grown_trans {a b c : World} (h : Grown a b) (k : Grown b c) : Grown a c :=
 ⟨World.keptBut_trans h.1 k.1, fun x => (k.2.1 x).trans (h.2.1 x), Nat.le_trans h.2.2 k.2.2⟩

theorem only_drewN {a w : World} {row : Option Nat} (h : a.grownBy w row) (n : Nat) : a.grownBy (w.drewN n) row := ⟨h.os, h.tape, h.output, h.size, h.block⟩
theorem only_drew {a w : World} {row : Option Nat} (h : a.grownBy w row) : a.grownBy w.drew row := ⟨h.os, h.tape, h.output, h.size, h.block⟩
theorem only_alloc {a w : World} {row : Option Nat} (h : a.grownBy w row) (o : Obj) : a.grownBy (w.alloc o) row :=
 ⟨h.os, h.tape, h.output, Nat.le_trans h.size (by simp), fun i hi hne => (Below.heap_alloc w o i (Nat.lt_of_lt_of_le hi h.size)).trans (h.block i hi hne)⟩
theorem only_setCell {a w : World} {g : Nat} (h : a.grownBy w (some g)) {p : Addr} (hp : p.block = g ∨ a.heap.size ≤ p.block) (u : Value) : a.grownBy (w.setCell p u) (some g) :=
 ⟨h.os, h.tape, h.output, by simpa [World.setCell] using h.size, fun i hi hne => (Below.heap_setCell w p u i (by
  rintro rfl
  rcases hp with hp | hp
  ·exact hne (by rw [hp])
  ·omega)).trans (h.block i hi hne)⟩
theorem only_of_below {a w : World} (h : Below a.heap.size a w) (row : Option Nat) : a.grownBy w row := ⟨h.os, h.tape, h.output, h.size, fun i hi _ => h.block i hi⟩

theorem run_make_rowN {P : Program} (t e : TypeId) (i : TypeInfo) (z : Value) (ht : P.underlying t = some (.slice e)) (hi : P.info? e = some i) (hz : i.zero = some z)
  (kl kc : IntKind) (n c : Nat) (hnc : n ≤ c) (hbytes : i.bytes * c ≤ 281474976710656) (h63 : c ≤ 9223372036854775807) (w : World) :
  (Instr.makeSlice t (.int kl (n : Int)) (.int kc (c : Int))).run P w = .ok (.slice (some ⟨w.heap.size, 0, none⟩) n c) (w.alloc (.cells (madeCells z.cells (c * i.size)) e)) := by
 have hb : (i.bytes : Int) * (c : Int) ≤ 281474976710656 := by
  have h : ((i.bytes * c : Nat) : Int) ≤ 281474976710656 := by omega
  rwa [Int.natCast_mul] at h
 have hr := run_make (P := P) w t e i z ht hi hz kl kc n c (by omega) (by omega) hb (by omega)
 simp only [Int.toNat_natCast] at hr
 exact hr
theorem run_makeMap_hint {P : Program} (t k e : TypeId) (kd : IntKind) (n : Int) (ht : P.underlying t = some (.map k e)) (w : World) :
  (Instr.makeMap t (some (.int kd n))).run P w = .ok (.map (some w.heap.size)) (w.alloc (.map #[] 0)) := by
 simp [Instr.makeMap, run_underlying ht]; rfl

theorem ofInt_i64 (a : Nat) (ha : a < 9223372036854775808) : (BitVec.ofInt 64 (a : Int)).toNat = a := by
 rw [BitVec.ofInt_natCast, BitVec.toNat_ofNat]; exact Nat.mod_eq_of_lt (by omega)
theorem i64_and_nat (a b : Nat) (ha : a < 9223372036854775808) (hb : b < 9223372036854775808) : bits .and .i64 (a : Int) (b : Int) = ((a &&& b : Nat) : Int) := by
 have hx : a &&& b < 2 ^ 63 := Nat.and_lt_two_pow _ (by omega)
 show IntKind.i64.wrap ((BitVec.ofInt 64 (a : Int) &&& BitVec.ofInt 64 (b : Int)).toNat : Int) = _
 rw [BitVec.toNat_and, ofInt_i64 a ha, ofInt_i64 b hb, IntKind.wrap_i64]
 omega
theorem i64_or_nat (a b : Nat) (ha : a < 9223372036854775808) (hb : b < 9223372036854775808) : bits .or .i64 (a : Int) (b : Int) = ((a ||| b : Nat) : Int) := by
 have hx : a ||| b < 2 ^ 63 := Nat.or_lt_two_pow (by omega) (by omega)
 show IntKind.i64.wrap ((BitVec.ofInt 64 (a : Int) ||| BitVec.ofInt 64 (b : Int)).toNat : Int) = _
 rw [BitVec.toNat_or, ofInt_i64 a ha, ofInt_i64 b hb, IntKind.wrap_i64]
 omega
theorem i64_xor_nat (a b : Nat) (ha : a < 9223372036854775808) (hb : b < 9223372036854775808) : bits .xor .i64 (a : Int) (b : Int) = ((a ^^^ b : Nat) : Int) := by
 have hx : a ^^^ b < 2 ^ 63 := Nat.xor_lt_two_pow (by omega) (by omega)
 show IntKind.i64.wrap ((BitVec.ofInt 64 (a : Int) ^^^ BitVec.ofInt 64 (b : Int)).toNat : Int) = _
 rw [BitVec.toNat_xor, ofInt_i64 a ha, ofInt_i64 b hb, IntKind.wrap_i64]
 omega


/-! ## more words of mine -/
theorem bcell {W w1 : World} (hb : Below W.heap.size W w1) : (∀ b o, b < W.heap.size → w1.cell? ⟨b, o, none⟩ = W.cell? ⟨b, o, none⟩) ∧ (∀ b o, b < W.heap.size → w1.frozen? ⟨b, o, none⟩ = W.frozen? ⟨b, o, none⟩) :=
 ⟨fun b o h => hb.cell (p := ⟨b, o, none⟩) h, fun b o h => hb.frozen (p := ⟨b, o, none⟩) h⟩
theorem ret_int {k : IntKind} {a b : Int} (h : a = b) : Ending.returned (.int k a) = .returned (.int k b) := by rw [h]
theorem ret_bool {a b : Bool} (h : a = b) : Ending.returned (.bool a) = .returned (.bool b) := by rw [h]
theorem toSym {P : Program} {f : FuncId} {args : Array Value} {w : World} {v : Value} (h : Calls P f args w fun e w' => e = .returned v ∧ w = w') :
  Calls P f args w fun e w' => e = .returned v ∧ w' = w := h.mono fun _ _ h => ⟨h.1, h.2.symm⟩
theorem toBelow {P : Program} {f : FuncId} {args : Array Value} {w : World} {v : Value} (h : Calls P f args w fun e w' => e = .returned v ∧ w = w') :
  Calls P f args w fun e w' => e = .returned v ∧ Below w.heap.size w w' := h.mono fun _ _ h => ⟨h.1, by rw [← h.2]; exact Below.refl _ _⟩

/-! ## bits and shifts on int64 -/
theorem i64_and1 (z : Int) : bits .and .i64 z 1 = z % 2 := by
 have h := BitVec.toNat_and (BitVec.ofInt 64 z) 1#64
 show IntKind.i64.wrap ((BitVec.ofInt 64 z &&& BitVec.ofInt 64 1).toNat : Int) = _
 have e1 : (BitVec.ofInt 64 1) = 1#64 := by decide
 rw [e1, h]
 have e2 : (1#64 : BitVec 64).toNat = 1 := rfl
 rw [e2, Nat.and_one_is_mod, BitVec.toNat_ofInt, IntKind.wrap_i64]
 omega
theorem i64_andNot_nat (a b : Nat) (ha : a < 9223372036854775808) (hb : b < 9223372036854775808) : bits .andNot .i64 (a : Int) (b : Int) = ((a ^^^ (a &&& b) : Nat) : Int) := by
 have h1 : a ^^^ (a &&& b) < 2 ^ 63 := Nat.xor_lt_two_pow (by omega) (Nat.and_lt_two_pow _ (by omega))
 have e : (BitVec.ofInt 64 (a : Int) &&& ~~~ BitVec.ofInt 64 (b : Int)).toNat = a ^^^ (a &&& b) := by
  apply Nat.eq_of_testBit_eq
  intro i
  rw [Nat.testBit_xor, Nat.testBit_and]
  rw [BitVec.testBit_toNat, BitVec.getLsbD_and, BitVec.getLsbD_not]
  rw [← BitVec.testBit_toNat, ← BitVec.testBit_toNat, ofInt_i64 a ha, ofInt_i64 b hb]
  by_cases hi : i < 64
  ·simp only [hi, decide_true, Bool.true_and]
   cases a.testBit i <;> cases b.testBit i <;> rfl
  ·have ht : a.testBit i = false := Nat.testBit_lt_two_pow (Nat.lt_of_lt_of_le (show a < 2 ^ 63 by omega) (Nat.pow_le_pow_right (by omega) (by omega)))
   rw [ht]
   simp
 show IntKind.i64.wrap ((BitVec.ofInt 64 (a : Int) &&& ~~~ BitVec.ofInt 64 (b : Int)).toNat : Int) = _
 rw [e, IntKind.wrap_i64]
 omega
theorem min64 {i : Nat} (h : i ≤ 64) : min i 64 = i := Nat.min_eq_left h
theorem wr_0 : IntKind.i64.wrap 0 = 0 := rfl
theorem wr_1 : IntKind.i64.wrap 1 = 1 := rfl
theorem wr_2 : IntKind.i64.wrap 2 = 2 := rfl
theorem wr_3 : IntKind.i64.wrap 3 = 3 := rfl
theorem wr_4 : IntKind.i64.wrap 4 = 4 := rfl
theorem wr_7 : IntKind.i64.wrap 7 = 7 := rfl
theorem wr_8 : IntKind.i64.wrap 8 = 8 := rfl
theorem wr_15 : IntKind.i64.wrap 15 = 15 := rfl
theorem wr_16 : IntKind.i64.wrap 16 = 16 := rfl
theorem wr_65535 : IntKind.i64.wrap 65535 = 65535 := rfl
theorem wr_65536 : IntKind.i64.wrap 65536 = 65536 := rfl
@[go_sem] theorem drew_size (w : World) : w.drew.heap.size = w.heap.size := rfl
@[go_sem] theorem drewN_size (w : World) (n : Nat) : (w.drewN n).heap.size = w.heap.size := rfl
theorem blk_new_at {w : World} {g : Nat} {t : TypeId} {cs : Array Value} (h : g = w.heap.size) : Blk (w.alloc (.cells cs t)) g t cs := by
 subst h; exact Blk.new w t cs
/-- tactics of some length, said once -/
theorem bel_ {P : Prop} (h : P := by repeat (first | with_reducible exact Below.refl _ _ | with_reducible assumption | with_reducible refine below_drewN ?_ _ | with_reducible refine Below.drew ?_ | ((with_reducible refine Below.alloc ?_ ?_ _); rotate_left; (((try simp) <;> (try omega)) <;> done)) | ((with_reducible refine Below.setCell ?_ ?_ _); rotate_left; (((try simp) <;> (try omega)) <;> done)) | ((with_reducible refine Below.trans ?_ (Below.mono (by with_reducible assumption) ?_)); rotate_left; (((try simp) <;> (try omega)) <;> done)))) : P := h
theorem blk_ {P : Prop} (h : P := by repeat (first | with_reducible assumption | with_reducible refine Blk.drew ?_ | with_reducible refine Blk.drewN ?_ _ | ((with_reducible refine blk_new_at ?_); (((try simp) <;> (try omega)) <;> done)) | with_reducible refine Blk.alloc ?_ _ | ((with_reducible refine Blk.far ?_ ?_ _); rotate_left; (((try simp) <;> (try omega)) <;> done)) | ((with_reducible refine Blk.below ?_ (by with_reducible assumption) ?_); rotate_left; (((try simp) <;> (try omega)) <;> done)))) : P := h
end Go.Proofs.YtolndlmhbnpmeaaDoor

/- A region that draws its order, walked once in the order of the text, with effects (calls, new blocks, appends, stores) in it: the effects stand in one forced order, all else only reads, in a class of worlds. -/
namespace Go.Proofs.YtolndlmhbnpmeaaDoor

section
variable {P : Program} {ops : Array Oper} {md : Region.Mode} {C : World → Prop} {z : Nat}

/-- no way out but on -/
def NoExit : Exit → Act → World → Prop := fun _ _ _ => False

/-- what only reads -/
def readB (o : Oper) : Bool :=
 match o.op with
 | .move _ | .assign _ | .pick .. | .binOp .. | .unOp .. | .convert .. | .slice .. | .fieldAddr .. | .field .. | .indexAddr .. | .index .. | .extract .. | .load .. | .build .. | .nilCheck .. => true
 | .call c => match c.callee with | .builtin .len | .builtin .max | .builtin .min => true | _ => false
 | _ => false

theorem noEnterV {s : Sem Value} {w w' : World} {f : FuncId} {args : Array Value} : ((do pure (Next.value (← s))) : Sem Next).run P w ≠ .ok (.enter f args) w' := by
 rw [Sem.run_bind]
 cases s.run P w <;> simp
theorem noEnter {o : Oper} (h : readB o = true) {ρ : Operand → Value} {w w' : World} {f : FuncId} {args : Array Value} : (execOp ρ o).run P w ≠ .ok (.enter f args) w' := by
 unfold readB at h
 unfold execOp
 cases hop : o.op <;> rw [hop] at h <;> simp only [] at h ⊢
 case nilCheck x =>
  split
  ·intro hc; simp [runtimePanic] at hc
  ·intro hc; simp [runtimePanic] at hc
  ·intro hc; simp [runtimePanic] at hc
  ·split
   ·intro hc; simp [runtimePanic] at hc
   ·rw [Sem.run_bind]
    cases Sem.run P program w with
    | halt x w1 => simp
    | ok a w1 =>
     rw [Result.andThen_ok, Sem.run_bind]
     generalize Sem.run P (nilAhead _ _ _ _) w1 = r2
     cases r2 with
     | halt x w2 => simp
     | ok b w2 =>
      rw [Result.andThen_ok]
      split
      ·rw [Sem.run_bind]
       generalize Sem.run P (unsupported _) w2 = r3
       cases r3 <;> simp
      ·simp
   ·intro hc; simp at hc
  ·intro hc; simp at hc
 case call c =>
  split at h
  case h_4 => cases h
  all_goals
   rename_i hb
   simp only [resolve, hb, Sem.run_bind, Sem.run_pure, Result.andThen_ok, invoke]
   simp only [builtin]
   exact noEnterV
 all_goals first
  | exact noEnterV
  | (simp only [Sem.run_pure]; intro hc; cases hc; done)
  | (cases h; done)
  | (rw [Sem.run_bind]; generalize Sem.run P _ w = r; cases r <;> simp; done)

def ValAt (P : Program) (o : Oper) (a : Act) (w : World) (v : Value) : Prop :=
 (execOp a.eval o).run P w = .ok (.value v) w ∨ ((execOp a.eval o).run P w = .ok .skip w ∧ v = undef)

theorem valAt_of_quiet {o : Oper} {a : Act} {w : World} {v : Value} (hr : readB o = true) (h : o.quietAt P a C w v) : ValAt P o a w v := by
 unfold Oper.quietAt at h
 unfold ValAt
 have hn := @noEnter P o hr a.eval w
 generalize (execOp a.eval o).run P w = r at *
 cases r with
 | ok n w' =>
  cases n <;> simp only [Oper.quietUpon] at h
  case value u => obtain ⟨rfl, rfl⟩ := h; exact .inl rfl
  case skip => obtain ⟨rfl, rfl⟩ := h; exact .inr ⟨rfl, rfl⟩
  case enter f args => exact absurd rfl (hn (w' := w') (f := f) (args := args))
 | halt x w' => simp only [Oper.quietUpon] at h

theorem ValAt.det {o : Oper} {a : Act} {w : World} {u v : Value} (h : ValAt P o a w u) (h' : ValAt P o a w v) : u = v := by
 rcases h with h | ⟨h, rfl⟩ <;> rcases h' with h' | ⟨h', rfl⟩ <;> rw [h] at h'
 ·injection h' with h' _; injection h'
 ·injection h' with h' _; cases h'
 ·injection h' with h' _; cases h'

theorem wp_of_val {o : Oper} {a : Act} {w : World} {v : Value} {K : Act → World → Prop} {Q : Exit → Act → World → Prop} (h : ValAt P o a w v) (hK : K (a.put o.dst v) w) : o.wp P a w K Q := by
 unfold Oper.wp
 rcases h with h | ⟨h, rfl⟩ <;> rw [h] <;> exact hK

/-- one operation of the walk -/
def xOp (P : Program) (ops : Array Oper) (C : World → Prop) (z : Nat) (i : Nat) (K : Act → World → Prop) (a : Act) (w : World) : Prop :=
 match ops[i]? with
 | none => K a w
 | some o => if Region.wanted o (yielded ops a.tmps) then
   (if readB o then ∃ v, (∀ w, C w → ValAt P o a w v) ∧ K (a.put o.dst v) w else o.wp P a w (fun a' w' => (i ≠ z → C w') ∧ K a' w') NoExit)
  else K (a.put o.dst undef) w

theorem xOp_mono {i : Nat} {a : Act} {w : World} {K K' : Act → World → Prop} (h : ∀ a w, K a w → K' a w) (hh : xOp P ops C z i K a w) : xOp P ops C z i K' a w := by
 unfold xOp at *
 split
 ·exact h _ _ (by simpa [*] using hh)
 ·rename_i o ho
  simp only [ho] at hh
  split
  ·rename_i hw
   simp only [hw, if_true] at hh
   split
   ·rename_i hr; simp only [hr, if_true] at hh; obtain ⟨v, h1, h2⟩ := hh; exact ⟨v, h1, h _ _ h2⟩
   ·rename_i hr; simp only [hr] at hh; exact Oper.wp_mono (fun a' w' hk => ⟨hk.1, h _ _ hk.2⟩) hh
  ·rename_i hw; simp only [hw] at hh; exact h _ _ hh

theorem xOp_monoC {i : Nat} {a : Act} {w : World} {K K' : Act → World → Prop} (hC : C w) (h : ∀ a w, (i ≠ z → C w) → K a w → K' a w) (hh : xOp P ops C z i K a w) : xOp P ops C z i K' a w := by
 unfold xOp at *
 split
 ·exact h _ _ (fun _ => hC) (by simpa [*] using hh)
 ·rename_i o ho
  simp only [ho] at hh
  split
  ·rename_i hw
   simp only [hw, if_true] at hh
   split
   ·rename_i hr; simp only [hr, if_true] at hh; obtain ⟨v, h1, h2⟩ := hh; exact ⟨v, h1, h _ _ (fun _ => hC) h2⟩
   ·rename_i hr; simp only [hr] at hh; exact Oper.wp_mono (fun a' w' hk => ⟨hk.1, h _ _ hk.1 hk.2⟩) hh
  ·rename_i hw; simp only [hw] at hh; exact h _ _ (fun _ => hC) hh

/-- whatever order is picked from here on -/
def wpAnyX (P : Program) (md : Region.Mode) (ops : Array Oper) (C : World → Prop) (z : Nat) (Q : Act → World → Prop) : Nat → Array Bool → Act → World → Prop
 | 0, listed, a, w => Region.ready md ops listed = [] ∧ Q a w
 | fuel + 1, listed, a, w => C w ∧ (Region.ready md ops listed = [] → Q a w) ∧
  ∀ i ∈ Region.ready md ops listed, xOp P ops C z i (wpAnyX P md ops C z Q fuel (listed.setIfInBounds i true)) a w

theorem upon_noExit {o : Oper} {a : Act} {K : Act → World → Prop} {Q : Exit → Act → World → Prop} {w : World} (h : o.wp P a w K NoExit) : o.wp P a w K Q := by
 unfold Oper.wp at *
 generalize (execOp a.eval o).run P w = r at *
 cases r with
 | ok n w' =>
  cases n <;> simp only [Oper.upon] at h ⊢ <;> try exact h
  case enter f args =>
   refine Calls.mono h fun e w'' he => ?_
   cases e with
   | returned v => exact he
   | panicked c => exact he.elim
   | outgrown => obtain ⟨_, _, hf⟩ := he; exact hf.elim
 | halt x w' => cases x <;> simp only [Oper.upon] at h ⊢ <;> exact h.elim

theorem wpOp_of_xOp {i : Nat} {a : Act} {w : World} {K : Act → World → Prop} {Q : Exit → Act → World → Prop} (hC : C w) (hh : xOp P ops C z i K a w) : wpOp P ops Q i K a w := by
 unfold xOp at hh
 unfold wpOp
 split
 ·rename_i ho; simp only [ho] at hh; exact hh
 ·rename_i o ho
  simp only [ho] at hh
  split
  ·rename_i hw
   simp only [hw, if_true] at hh
   split at hh
   ·obtain ⟨v, h1, h2⟩ := hh; exact .inl (wp_of_val (h1 w hC) h2)
   ·exact .inl (upon_noExit (Oper.wp_mono (fun _ _ hk => hk.2) hh))
  ·rename_i hw; simp only [hw] at hh; exact hh

theorem wpAny_of_X {Q : Act → World → Prop} {Q' : Exit → Act → World → Prop} (hQ : ∀ a w, Q a w → Q' .normal a w) : ∀ (fuel : Nat) (listed : Array Bool) (a : Act) (w : World),
  wpAnyX P md ops C z Q fuel listed a w → wpAny P md ops Q' fuel listed a w
 | 0, _, _, _, h => ⟨h.1, hQ _ _ h.2⟩
 | fuel + 1, _, _, _, h => ⟨fun h0 => hQ _ _ (h.2.1 h0), fun i hi => wpOp_mono (fun a' w' => wpAny_of_X hQ fuel _ a' w') (wpOp_of_xOp h.1 (h.2.2 i hi))⟩

/-- operation o yields v in every world of the class (or is passed over) -/
def YieldsC (P : Program) (ops : Array Oper) (C : World → Prop) (o : Oper) (v : Value) (a : Act) : Prop :=
 (Region.wanted o (yielded ops a.tmps) = true ∧ readB o = true ∧ ∀ w, C w → ValAt P o a w v) ∨ (Region.wanted o (yielded ops a.tmps) = false ∧ v = undef)

theorem YieldsC.xOp {i : Nat} {o : Oper} {v : Value} {a : Act} {w : World} (hi : ops[i]? = some o) (hy : YieldsC P ops C o v a) {K : Act → World → Prop} (h : K (a.put o.dst v) w) : xOp P ops C z i K a w := by
 unfold Go.Proofs.YtolndlmhbnpmeaaDoor.xOp
 simp only [hi]
 rcases hy with ⟨hw, hr, hv⟩ | ⟨hw, rfl⟩
 ·simp only [hw, if_true, hr]; exact ⟨v, hv, h⟩
 ·simp only [hw, Bool.false_eq_true, if_false]; exact h

theorem YieldsC.of_same {o : Oper} {v : Value} {a a' : Act} (hy : YieldsC P ops C o v a) (he : execOp a'.eval o = execOp a.eval o)
  (hw : Region.wanted o (yielded ops a'.tmps) = Region.wanted o (yielded ops a.tmps)) : YieldsC P ops C o v a' := by
 unfold YieldsC ValAt at *
 rw [he, hw]
 exact hy

theorem yieldsC_of_xOp {i : Nat} {o : Oper} {a : Act} {w : World} {K : Act → World → Prop} (hi : ops[i]? = some o) (hr : readB o = true ∨ Region.wanted o (yielded ops a.tmps) = false) (h : xOp P ops C z i K a w) :
  ∃ v, YieldsC P ops C o v a ∧ K (a.put o.dst v) w := by
 unfold xOp at h
 simp only [hi] at h
 by_cases hw : Region.wanted o (yielded ops a.tmps) = true
 ·rcases hr with hr | hr
  ·simp only [hw, if_true, hr] at h
   obtain ⟨v, h1, h2⟩ := h
   exact ⟨v, .inl ⟨hw, hr, h1⟩, h2⟩
  ·rw [hw] at hr; cases hr
 ·simp only [hw] at h
  exact ⟨undef, .inr ⟨by simpa using hw, rfl⟩, h⟩

/-- a frame with other deferred calls -/
theorem put_defers (a : Act) (d : Option Tmp) (v : Value) (l : List Deferred) : ({ a with defers := l } : Act).put d v = { a.put d v with defers := l } := by
 cases d <;> rfl
theorem eval_defers (a : Act) (l : List Deferred) : ({ a with defers := l } : Act).eval = a.eval := by
 funext x; cases x <;> rfl

theorem put2 (a : Act) (l : List Deferred) {x y : Option Tmp} (v u : Value) (h : ∀ d, x = some d → y ≠ some d) : ({ a.put x v with defers := l } : Act).put y u = (({ a with defers := l } : Act).put y u).put x v := by
 have e1 := put_defers (a.put x v) y u l
 have e2 := put_defers a y u l
 have e3 := put_defers (a.put y u) x v l
 rw [e1, e2, e3, Act.put_comm a v u h]
theorem defers_put (a : Act) (x : Option Tmp) (v : Value) : (a.put x v).defers = a.defers := by cases x <;> rfl

/-- the operation's outcome: where the frame stands behind it -/
theorem wp_out {o : Oper} {a b : Act} {w : World} {K K' : Act → World → Prop} (he : execOp b.eval o = execOp a.eval o)
  (h : ∀ (u : Value) (l : List Deferred → List Deferred) (w' : World), K ({ a with defers := l a.defers }.put o.dst u) w' → K' ({ b with defers := l b.defers }.put o.dst u) w') (hh : o.wp P a w K NoExit) : o.wp P b w K' NoExit := by
 unfold Oper.wp at *
 rw [he]
 generalize (execOp a.eval o).run P w = r at *
 cases r with
 | ok n w' =>
  cases n <;> simp only [Oper.upon] at hh ⊢
  case value u => exact h u id w' hh
  case skip => exact h undef id w' hh
  case defer d => exact h undef (d :: ·) w' hh
  case enter f args =>
   refine Calls.mono hh fun e w'' hk => ?_
   cases e with
   | returned v => exact h v id w'' hk
   | panicked c => exact hk.elim
   | outgrown => obtain ⟨_, _, hf⟩ := hk; exact hf.elim
  case row row args => exact Rows.mono hh fun v w'' hk => h v id w'' hk
 | halt x w' => cases x <;> simp only [Oper.upon] at hh ⊢ <;> exact hh.elim

/-- .. and there is one -/
theorem wp_some {o : Oper} {a : Act} {w : World} {K : Act → World → Prop} (hh : o.wp P a w K NoExit) : ∃ (u : Value) (l : List Deferred → List Deferred) (w' : World), K ({ a with defers := l a.defers }.put o.dst u) w' := by
 unfold Oper.wp at *
 generalize (execOp a.eval o).run P w = r at *
 cases r with
 | ok n w' =>
  cases n <;> simp only [Oper.upon] at hh
  case value u => exact ⟨u, id, w', hh⟩
  case skip => exact ⟨undef, id, w', hh⟩
  case defer d => exact ⟨undef, (d :: ·), w', hh⟩
  case enter f args =>
   obtain ⟨e, w'', fr, hk, _⟩ := hh []
   cases e with
   | returned v => exact ⟨v, id, w'', hk⟩
   | panicked c => exact hk.elim
   | outgrown => obtain ⟨_, _, hf⟩ := hk; exact hf.elim
  case row row args =>
   obtain ⟨v, w'', hk, _⟩ := hh (Frame.enter P 0 #[] .normal) []
   exact ⟨v, id, w'', hk⟩
 | halt x w' => cases x <;> simp only [Oper.upon] at hh <;> exact hh.elim

/-- oj, apart from oi whose value is known: it makes no difference whether oi's value stands already -/
theorem xOp_put {j : Nat} {oi oj : Oper} {v : Value} (hj : ops[j]? = some oj) (hap : oi.apart ops oj = true)
  (hsi : ∀ cs b, oi.op ≠ .select cs b) (hsj : ∀ cs b, oj.op ≠ .select cs b) {K : Act → World → Prop} {a : Act} {w : World}
  (hy : YieldsC P ops C oi v a) (h : xOp P ops C z j K (a.put oi.dst v) w) :
  xOp P ops C z j (fun a' w' => YieldsC P ops C oi v a' ∧ K (a'.put oi.dst v) w') a w := by
 obtain ⟨h1, h2, h3⟩ := Oper.apart_spec hap
 have keep : ∀ (a : Act), YieldsC P ops C oi v a → ∀ u, YieldsC P ops C oi v (a.put oj.dst u) := fun a hy u =>
  hy.of_same (execOp_put oi hsi a oj.dst u h3) (wanted_put oi a oj.dst u h3)
 unfold xOp at *
 simp only [hj] at *
 rw [wanted_put oj a oi.dst v h1] at h
 split
 ·rename_i hw
  simp only [hw, if_true] at h
  split
  ·rename_i hr
   simp only [hr, if_true] at h
   obtain ⟨u, hu, hk⟩ := h
   refine ⟨u, fun w' hw' => ?_, keep a hy u, by rw [← Act.put_comm a v u h2]; exact hk⟩
   have := hu w' hw'
   unfold ValAt at this ⊢
   rwa [execOp_put oj hsj a oi.dst v h1] at this
  ·rename_i hr
   simp only [hr] at h
   refine wp_out (a := a.put oi.dst v) (b := a) (execOp_put oj hsj a oi.dst v h1).symm (fun u l w' hk => ⟨hk.1, ?_, ?_⟩) h
   ·rw [put_defers]
    have := keep a hy u
    exact this.of_same (by rw [eval_defers]) rfl
   ·have hk := hk.2
    rw [defers_put, put2 a _ v u h2] at hk
    exact hk
 ·rename_i hw
  simp only [hw] at h
  exact ⟨keep a hy _, by rw [← Act.put_comm a v undef h2]; exact h⟩

/-- does t wait for i (through others)? -/
def waitsB (md : Region.Mode) (ops : Array Oper) (i : Nat) : Nat → Nat → Bool
 | 0, _ => false
 | f + 1, t => match ops[t]? with
  | none => false
  | some o => o.after.any fun e => Region.binds md e && (e.on == i || waitsB md ops i f e.on)

/-- what is listed is closed under waiting -/
def Closed (md : Region.Mode) (ops : Array Oper) (listed : Array Bool) : Prop :=
 ∀ j oj, ops[j]? = some oj → listed.getD j false = true → ∀ e ∈ oj.after, Region.binds md e = true → listed.getD e.on false = true

theorem Closed.set {i : Nat} {listed : Array Bool} (inv : Closed md ops listed) (hi : i ∈ Region.ready md ops listed) : Closed md ops (listed.setIfInBounds i true) := by
 obtain ⟨_, oi, hoi, hall⟩ := mem_ready.1 hi
 intro j oj hj hl e he hb
 by_cases hij : i = j
 ·subst hij
  have : oj = oi := Option.some.inj (hj.symm.trans hoi)
  subst this
  exact getD_set_true (hall e he hb)
 ·rw [getD_set_ne false hij] at hl
  exact getD_set_true (inv j oj hj hl e he hb)

theorem getD_both' {listed : Array Bool} {i : Nat} (h : listed.getD i true = false) : listed.getD i false = false := by
 rcases Nat.lt_or_ge i listed.size with h' | h'
 ·simp [h'] at h ⊢; exact h
 ·simp [Array.getElem?_eq_none h'] at h

theorem waits_unlisted {i : Nat} {listed : Array Bool} (inv : Closed md ops listed) (hi : listed.getD i false = false) : ∀ (f t : Nat), waitsB md ops i f t = true →
  listed.getD t false = false ∧ ∃ o, ops[t]? = some o ∧ ∃ e ∈ o.after, Region.binds md e = true ∧ listed.getD e.on false = false
 | 0, _, h => by cases h
 | f + 1, t, h => by
  unfold waitsB at h
  split at h
  ·cases h
  ·rename_i o ho
   obtain ⟨e, he, hb⟩ := Array.any_eq_true'.1 h
   simp only [Bool.and_eq_true, Bool.or_eq_true, beq_iff_eq] at hb
   have hun : listed.getD e.on false = false := by
    rcases hb.2 with h' | h'
    ·rw [h']; exact hi
    ·exact (waits_unlisted inv hi f _ h').1
   refine ⟨?_, o, ho, e, he, hb.1, hun⟩
   cases hl : listed.getD t false with
   | false => rfl
   | true => rw [inv t o ho hl e he hb.1] at hun; cases hun

theorem waits_not_ready {i f t : Nat} {listed : Array Bool} (inv : Closed md ops listed) (hi : listed.getD i false = false) (h : waitsB md ops i f t = true) : t ∉ Region.ready md ops listed := by
 intro hr
 obtain ⟨_, o, ho, e, he, hb, hun⟩ := waits_unlisted inv hi f t h
 obtain ⟨_, o', ho', hall⟩ := mem_ready.1 hr
 have : o' = o := Option.some.inj (ho'.symm.trans ho)
 subst this
 rw [hall e he hb] at hun
 cases hun

/-- THE FIRST operation of the text, one that only reads, may as well be carried out first. -/
theorem wpAnyX_first {Q : Act → World → Prop} {i : Nat} {oi : Oper} {v : Value} (hi : ops[i]? = some oi) (hsel : ∀ (j : Nat) (o : Oper) cs b, ops[j]? = some o → o.op ≠ .select cs b)
  (hz : i = z ∨ z = ops.size ∨ ∃ f, waitsB md ops i f z = true) :
  ∀ (fuel : Nat) (listed : Array Bool) (a : Act) (w : World), C w → Closed md ops listed →
   (∀ j oj, ops[j]? = some oj → j ≠ i → listed.getD j true = false → (∀ e ∈ oj.after, Region.binds md e = true → e.on ≠ i) → oi.apart ops oj = true) →
   i ∈ Region.ready md ops listed → YieldsC P ops C oi v a →
   wpAnyX P md ops C z Q fuel (listed.setIfInBounds i true) (a.put oi.dst v) w → wpAnyX P md ops C z Q (fuel + 1) listed a w := by
 intro fuel
 induction fuel with
 | zero =>
  intro listed a w hC _ _ hr hy H
  refine ⟨hC, fun h => (by rw [h] at hr; cases hr), fun j hj => ?_⟩
  by_cases hji : j = i
  ·subst hji; exact hy.xOp hi H
  ·have := ready_mono hj hji
   rw [H.1] at this
   cases this
 | succ fuel ih =>
  intro listed a w hC hcl hfree hr hy H
  refine ⟨hC, fun h => (by rw [h] at hr; cases hr), fun j hj => ?_⟩
  by_cases hji : j = i
  ·subst hji; exact hy.xOp hi H
  ·have h1 := H.2.2 j (ready_mono hj hji)
   obtain ⟨hjun, oj, hoj, hall⟩ := mem_ready.1 hj
   have hnot : ∀ e ∈ oj.after, Region.binds md e = true → e.on ≠ i := fun e he hb heq => by
    have h1 := hall e he hb
    have h0 := (mem_ready.1 hr).1
    rw [heq] at h1
    rcases Nat.lt_or_ge i listed.size with h' | h'
    ·simp [h'] at h0 h1; rw [h0] at h1; cases h1
    ·simp [Array.getElem?_eq_none h'] at h1
   have h2 := xOp_put hoj (hfree j oj hoj hji hjun hnot) (fun cs b => hsel i oi cs b hi) (fun cs b => hsel j oj cs b hoj) hy h1
   have hfree' : ∀ k ok, ops[k]? = some ok → k ≠ i → (listed.setIfInBounds j true).getD k true = false →
     (∀ e ∈ ok.after, Region.binds md e = true → e.on ≠ i) → oi.apart ops ok = true := fun k ok hk hki hun hno => by
    refine hfree k ok hk hki ?_ hno
    by_cases hjk : j = k
    ·subst hjk; exact hjun
    ·rw [getD_set_ne true hjk] at hun; exact hun
   have hjz : j ≠ z := by
    rintro rfl
    rcases hz with h' | h' | ⟨f, h'⟩
    ·exact hji h'.symm
    ·have := (Array.getElem?_eq_some_iff.1 hoj).1; omega
    ·exact waits_not_ready hcl (getD_both' (mem_ready.1 hr).1) h' hj
   refine xOp_monoC hC (fun a' w' hC' h3 => ih (listed.setIfInBounds j true) a' w' (hC' hjz) (hcl.set hj) hfree' (ready_mono hr (Ne.symm hji)) h3.1 ?_) h2
   rw [Array.setIfInBounds_comm _ _ hji]
   exact h3.2

/-- THE FIRST operation of the text, an effect: all other effects wait for it, and what only reads may as well be carried out behind it. -/
theorem wpAnyX_eff {Q : Act → World → Prop} {i : Nat} {oi : Oper} (hi : ops[i]? = some oi) (hsel : ∀ (j : Nat) (o : Oper) cs b, ops[j]? = some o → o.op ≠ .select cs b)
  (hri : readB oi = false) (hwait : ∀ j oj, ops[j]? = some oj → j ≠ i → readB oj = false → (∃ f, waitsB md ops i f j = true) ∨ j < i) :
  ∀ (fuel : Nat) (listed : Array Bool) (a : Act) (w : World), C w → Closed md ops listed → (∀ j, j < i → listed.getD j true = true) →
   (∀ j oj, ops[j]? = some oj → j ≠ i → listed.getD j true = false → (∀ e ∈ oj.after, Region.binds md e = true → e.on ≠ i) → oi.apart ops oj = true) →
   i ∈ Region.ready md ops listed → Region.wanted oi (yielded ops a.tmps) = true →
   oi.wp P a w (fun a' w' => (i ≠ z → C w') ∧ wpAnyX P md ops C z Q fuel (listed.setIfInBounds i true) a' w') NoExit → wpAnyX P md ops C z Q (fuel + 1) listed a w := by
 intro fuel
 have here : ∀ (fuel : Nat) (listed : Array Bool) (a : Act) (w : World), Region.wanted oi (yielded ops a.tmps) = true →
   oi.wp P a w (fun a' w' => (i ≠ z → C w') ∧ wpAnyX P md ops C z Q fuel (listed.setIfInBounds i true) a' w') NoExit → xOp P ops C z i (wpAnyX P md ops C z Q fuel (listed.setIfInBounds i true)) a w := by
  intro fuel listed a w hw H
  unfold xOp
  simp only [hi, hw, if_true, hri]
  exact H
 induction fuel with
 | zero =>
  intro listed a w hC _ _ _ hr hw H
  refine ⟨hC, fun h => (by rw [h] at hr; cases hr), fun j hj => ?_⟩
  by_cases hji : j = i
  ·subst hji; exact here 0 listed a w hw H
  ·obtain ⟨u, l, w', H'⟩ := wp_some H
   have := ready_mono hj hji
   rw [H'.2.1] at this
   cases this
 | succ fuel ih =>
  intro listed a w hC hcl hlow hfree hr hw H
  refine ⟨hC, fun h => (by rw [h] at hr; cases hr), fun j hj => ?_⟩
  by_cases hji : j = i
  ·subst hji; exact here (fuel + 1) listed a w hw H
  ·obtain ⟨hjun, oj, hoj, hall⟩ := mem_ready.1 hj
   have hiun := (mem_ready.1 hr).1
   have hji' : ¬ j < i := fun hlt => by rw [hlow j hlt] at hjun; cases hjun
   have hrj : readB oj = true := by
    cases hb : readB oj with
    | true => rfl
    | false =>
     rcases hwait j oj hoj hji hb with ⟨f, hf⟩ | h'
     ·exact absurd hj (waits_not_ready hcl (getD_both' hiun) hf)
     ·exact absurd h' hji'
   have hnot : ∀ e ∈ oj.after, Region.binds md e = true → e.on ≠ i := fun e he hb heq => by
    have h1 := hall e he hb
    rw [heq] at h1
    rw [getD_both' hiun] at h1
    cases h1
   have hap := hfree j oj hoj hji hjun hnot
   obtain ⟨h1, h2, h3⟩ := Oper.apart_spec hap
   have hsj := fun cs b => hsel j oj cs b hoj
   have hsi := fun cs b => hsel i oi cs b hi
   -- what oj yields, seen behind oi
   have peek : ∀ (u : Value) (l : List Deferred → List Deferred) (w' : World), wpAnyX P md ops C z Q (fuel + 1) (listed.setIfInBounds i true) ({ a with defers := l a.defers }.put oi.dst u) w' →
     ∃ v, YieldsC P ops C oj v a ∧ wpAnyX P md ops C z Q fuel ((listed.setIfInBounds i true).setIfInBounds j true) (({ a with defers := l a.defers }.put oi.dst u).put oj.dst v) w' := by
    intro u l w' H'
    obtain ⟨v, hy, hk⟩ := yieldsC_of_xOp hoj (.inl hrj) (H'.2.2 j (ready_mono hj hji))
    refine ⟨v, hy.of_same ?_ ?_, hk⟩
    ·rw [put_defers]
     exact ((congrArg (fun f => execOp f oj) (eval_defers (a.put oi.dst u) _)).trans (execOp_put oj hsj a oi.dst u h1)).symm
    ·rw [put_defers]
     exact (wanted_put oj a oi.dst u h1).symm
   obtain ⟨u0, l0, w0, H0⟩ := wp_some H
   obtain ⟨v, hy, _⟩ := peek u0 l0 w0 H0.2
   refine hy.xOp hoj ?_
   refine ih (listed.setIfInBounds j true) (a.put oj.dst v) w hC (hcl.set hj) (fun k hk => ?_) (fun k ok hk hki hun hno => ?_) (ready_mono hr (Ne.symm hji)) ?_ ?_
   ·by_cases hjk : j = k
    ·omega
    ·rw [getD_set_ne true hjk]; exact hlow k hk
   ·refine hfree k ok hk hki ?_ hno
    by_cases hjk : j = k
    ·subst hjk; exact hjun
    ·rw [getD_set_ne true hjk] at hun; exact hun
   ·rw [wanted_put oi a oj.dst v h3]; exact hw
   ·refine wp_out (a := a) (b := a.put oj.dst v) (execOp_put oi hsi a oj.dst v h3) (fun u l w' H' => ?_) H
    obtain ⟨v', hy', hk⟩ := peek u l w' H'.2
    refine ⟨H'.1, ?_⟩
    have hvv : v' = v := by
     rcases hy' with ⟨hw1, _, hv1⟩ | ⟨hw1, rfl⟩ <;> rcases hy with ⟨hw2, _, hv2⟩ | ⟨hw2, rfl⟩
     ·exact (hv1 w hC).det (hv2 w hC)
     ·rw [hw1] at hw2; cases hw2
     ·rw [hw1] at hw2; cases hw2
     ·rfl
    subst hvv
    rw [Array.setIfInBounds_comm _ _ hji]
    rw [defers_put, put2 a _ v' u (fun d hd hd' => h2 d hd' hd)]
    exact hk

/-- does the last operation wait for all others? -/
def sinkAll (ops : Array Oper) : Bool := (List.range (ops.size - 1)).all fun i => waitsB .any ops i ops.size (ops.size - 1)
def sinkAt (ops : Array Oper) : Nat := if sinkAll ops then ops.size - 1 else ops.size

/-- THE WALK: the operations in the text's order. -/
def LexE (P : Program) (ops : Array Oper) (C : World → Prop) (Q : Act → World → Prop) : List Oper → Act → World → Prop
 | [], a, w => Q a w
 | o :: rest, a, w => if Region.wanted o (yielded ops a.tmps) then
   (if readB o then ∃ v, (∀ w', C w' → ValAt P o a w' v) ∧ LexE P ops C Q rest (a.put o.dst v) w else o.wp P a w (fun a' w' => (rest ≠ [] ∨ sinkAll ops = false → C w') ∧ LexE P ops C Q rest a' w') NoExit)
  else LexE P ops C Q rest (a.put o.dst undef) w

def chainX (md : Region.Mode) (ops : Array Oper) : Bool :=
 (List.range ops.size).all fun i => (ops[i]?.map readB).getD true || (List.range ops.size).all fun t => decide (t ≤ i) || (ops[t]?.map readB).getD true || waitsB md ops i ops.size t

def lexX (md : Region.Mode) (ops : Array Oper) : Bool := Region.lexB md ops && chainX md ops

theorem chain_spec {md : Region.Mode} (h : chainX md ops = true) {i : Nat} {oi : Oper} (hi : ops[i]? = some oi) (hri : readB oi = false) :
  ∀ j oj, ops[j]? = some oj → j ≠ i → readB oj = false → (∃ f, waitsB md ops i f j = true) ∨ j < i := by
 intro j oj hj hne hr
 have h1 := List.all_eq_true.1 h i (List.mem_range.2 (Array.getElem?_eq_some_iff.1 hi).1)
 simp only [hi, Option.map_some, Option.getD_some, hri, Bool.false_or] at h1
 have h2 := List.all_eq_true.1 h1 j (List.mem_range.2 (Array.getElem?_eq_some_iff.1 hj).1)
 simp only [hj, Option.map_some, Option.getD_some, hr, Bool.or_false, Bool.or_eq_true, decide_eq_true_eq] at h2
 rcases h2 with h2 | h2
 ·right; omega
 ·left; exact ⟨_, h2⟩

theorem sinkAt_spec {i : Nat} {oi : Oper} (hi : ops[i]? = some oi) : i = sinkAt ops ∨ sinkAt ops = ops.size ∨ ∃ f, waitsB .any ops i f (sinkAt ops) = true := by
 unfold sinkAt
 split
 ·rename_i h
  have hlt := (Array.getElem?_eq_some_iff.1 hi).1
  by_cases he : i = ops.size - 1
  ·exact .inl he
  ·exact .inr (.inr ⟨_, List.all_eq_true.1 h i (List.mem_range.2 (by omega))⟩)
 ·exact .inr (.inl rfl)

theorem wpAnyX_lex {Q : Act → World → Prop} (hs : Region.noSelect ops = true) (hch : chainX .any ops = true) : ∀ (l : List Oper) (k : Nat) (listed : Array Bool) (a : Act) (w : World), (∀ j, l[j]? = ops[k + j]?) →
  (l ≠ [] → C w) → Closed .any ops listed → (∀ j, j < k → listed.getD j true = true) →
  Region.lexFrom .any ops l.length k listed = true → LexE P ops C Q l a w → wpAnyX P .any ops C (sinkAt ops) Q l.length listed a w
 | [], _, _, _, _, _, _, _, _, hB, h => ⟨by simpa [Region.lexFrom] using hB, h⟩
 | o :: l, k, listed, a, w, hl, hC, hcl, hlow, hB, h => by
  have hC := hC (by simp)
  have h0 : ops[k]? = some o := by simpa using (hl 0).symm
  simp only [List.length_cons, Region.lexFrom, Bool.and_eq_true] at hB
  obtain ⟨⟨hr, hf⟩, hB'⟩ := hB
  have hr' : k ∈ Region.ready .any ops listed := by simpa using hr
  have hl' : ∀ j, l[j]? = ops[k + 1 + j]? := fun j => by have := hl (j + 1); simpa [Nat.add_assoc, Nat.add_comm 1 j] using this
  have hcl' := hcl.set hr'
  have hlow' : ∀ j, j < k + 1 → (listed.setIfInBounds k true).getD j true = true := fun j hj => by
   by_cases hkj : k = j
   ·subst hkj
    rcases Nat.lt_or_ge k listed.size with h' | h'
    ·simp [h']
    ·simp [h']
   ·rw [getD_set_ne true hkj]; exact hlow j (by omega)
  have hap := Region.free_spec (md := .any) h0 hf
  have hklt := (Array.getElem?_eq_some_iff.1 h0).1
  unfold LexE at h
  by_cases hw : Region.wanted o (yielded ops a.tmps) = true
  ·simp only [hw, if_true] at h
   by_cases hrd : readB o = true
   ·simp only [hrd, if_true] at h
    obtain ⟨v, hv, hK⟩ := h
    exact wpAnyX_first h0 (Region.noSelect_spec hs) (sinkAt_spec h0) l.length listed a w hC hcl hap hr' (.inl ⟨hw, hrd, hv⟩) (wpAnyX_lex hs hch l (k + 1) _ _ w hl' (fun _ => hC) hcl' hlow' hB' hK)
   ·have hrd : readB o = false := by simpa using hrd
    simp only [hrd] at h
    have hpost : ∀ w', (l ≠ [] ∨ sinkAll ops = false → C w') → k ≠ sinkAt ops → C w' := fun w' hk hne => by
     refine hk ?_
     by_cases hs' : sinkAll ops = true
     ·left
      rintro rfl
      have h1 := hl' 0
      have h2 : ops[k + 1]? = none := by simpa using h1.symm
      have h3 : ops.size ≤ k + 1 := by
       rcases Nat.lt_or_ge (k + 1) ops.size with h' | h'
       ·rw [Array.getElem?_eq_getElem h'] at h2; cases h2
       ·exact h'
      apply hne
      unfold sinkAt
      rw [if_pos hs']
      omega
     ·right; simpa using hs'
    exact wpAnyX_eff h0 (Region.noSelect_spec hs) hrd (chain_spec hch h0 hrd) l.length listed a w hC hcl hlow hap hr' hw
     (Oper.wp_mono (fun a' w' hk => ⟨hpost w' hk.1, wpAnyX_lex hs hch l (k + 1) _ a' w' hl' (fun hne => hk.1 (.inl hne)) hcl' hlow' hB' hk.2⟩) h)
  ·have hw : Region.wanted o (yielded ops a.tmps) = false := by simpa using hw
   simp only [hw] at h
   exact wpAnyX_first h0 (Region.noSelect_spec hs) (sinkAt_spec h0) l.length listed a w hC hcl hap hr' (.inr ⟨hw, rfl⟩) (wpAnyX_lex hs hch l (k + 1) _ _ w hl' (fun _ => hC) hcl' hlow' hB' h)

/-- THE LAW. -/
theorem wp_region_lex {id : Nat} {Q : Exit → Act → World → Prop} {a : Act} {w : World} {l : List Oper} (hm : P.follows .mixedOrders = true) (hB : lexX .any l.toArray = true) (C : World → Prop) (hC : C w.drew)
  (h : LexE P l.toArray C (fun a' w' => Q .normal a' w') l a w.drew) : (Code.region id l.toArray true).wp P Q a w := by
 simp only [lexX, Region.lexB, Bool.and_eq_true] at hB
 refine wp_region_any hm (wpAny_of_X (Q := fun a' w' => Q .normal a' w') (C := C) (z := sinkAt l.toArray) (fun _ _ h => h) _ _ _ _ ?_)
 have := wpAnyX_lex (P := P) (C := C) hB.1.1 hB.2 l 0 (Array.replicate l.toArray.size false) a w.drew (by simp) (fun _ => hC)
  (fun j oj _ hl => by simp [Array.getElem?_replicate] at hl; split at hl <;> simp at hl) (by omega) (by simpa using hB.1.2) h
 simpa using this

/-! ### the steps -/
theorem lex_skip {Q : Act → World → Prop} {o : Oper} {rest : List Oper} {a : Act} {w : World} (hw : Region.wanted o (yielded ops a.tmps) = false) (h : LexE P ops C Q rest (a.put o.dst undef) w) : LexE P ops C Q (o :: rest) a w := by
 unfold LexE; simp only [hw, Bool.false_eq_true, if_false]; exact h
theorem lex_read {Q : Act → World → Prop} {o : Oper} {rest : List Oper} {a : Act} {w : World} (hw : Region.wanted o (yielded ops a.tmps) = true) (hr : readB o = true)
  (h : ∀ K : Act → Prop, (∀ a, LexE P ops C Q rest a w → K a) → o.quiet P a C K) : LexE P ops C Q (o :: rest) a w := by
 unfold LexE; simp only [hw, if_true, hr]
 obtain ⟨v, h1, h2⟩ := h _ fun _ h => h
 exact ⟨v, fun w' hw' => valAt_of_quiet hr (h1 w' hw'), h2⟩
theorem lex_move {Q : Act → World → Prop} {o : Oper} {rest : List Oper} {a : Act} {w : World} (x : Operand) (ho : o.op = .move x) (hw : Region.wanted o (yielded ops a.tmps) = true)
  (h : LexE P ops C Q rest (a.put o.dst (a.eval x)) w) : LexE P ops C Q (o :: rest) a w := by
 unfold LexE
 have hr : readB o = true := by unfold readB; rw [ho]
 simp only [hw, if_true, hr]
 refine ⟨a.eval x, fun w' _ => .inl ?_, h⟩
 simp [execOp, ho]
theorem lex_eff {Q : Act → World → Prop} {o : Oper} {rest : List Oper} {a : Act} {w : World} (hw : Region.wanted o (yielded ops a.tmps) = true) (hr : readB o = false)
  (h : ∀ K : Act → World → Prop, (∀ a w, C w → LexE P ops C Q rest a w → K a w) → o.wp P a w K NoExit) : LexE P ops C Q (o :: rest) a w := by
 unfold LexE; simp only [hw, if_true, hr]
 exact h _ fun _ _ h1 h2 => ⟨fun _ => h1, h2⟩
theorem lex_last {Q : Act → World → Prop} {o : Oper} {a : Act} {w : World} (hw : Region.wanted o (yielded ops a.tmps) = true) (hr : readB o = false) (hs : sinkAll ops = true)
  (h : ∀ K : Act → World → Prop, (∀ a w, Q a w → K a w) → o.wp P a w K NoExit) : LexE P ops C Q [o] a w := by
 unfold LexE; simp only [hw, if_true, hr]
 exact h _ fun _ _ h2 => ⟨fun hh => (by rcases hh with hh | hh; exact absurd rfl hh; rw [hs] at hh; cases hh), h2⟩
theorem lex_skip' {Q : Act → World → Prop} {o : Oper} {rest : List Oper} {a : Act} {w : World} (hw : Region.wanted o (yielded ops a.tmps) = false)
  (h : ∀ K : Act → Prop, (∀ a, LexE P ops C Q rest a w → K a) → K (a.put o.dst undef)) : LexE P ops C Q (o :: rest) a w :=
 lex_skip hw (h _ fun _ h => h)
theorem wanted_g {l : List Oper} {tl : List Value} {ds : List Deferred} {o : Oper} {j d : Nat} {want b c : Bool} (hg : o.guard = some (j, want)) (hj : (l[j]?).bind (·.dst) = some d) (hv : tl[d]? = some (.bool b)) (hb : (b == want) = c) :
  Region.wanted o (yielded l.toArray (Act.mk tl.toArray ds).tmps) = c := by
 unfold Region.wanted
 rw [hg]
 simp only [yielded, List.getElem?_toArray, hj, Option.bind_some, hv]
 rw [← hb]
 cases b <;> cases want <;> rfl
theorem wanted_n {y : Nat → Option Bool} {o : Oper} (hg : o.guard = none) : Region.wanted o y = true := by
 unfold Region.wanted; rw [hg]
theorem lex_nil {Q : Act → World → Prop} {a : Act} {w : World} (h : Q a w) : LexE P ops C Q [] a w := h
theorem lex_r {Q : Act → World → Prop} {o : Oper} {rest : List Oper} {a : Act} {w : World} (h : ∀ K : Act → Prop, (∀ a, LexE P ops C Q rest a w → K a) → o.quiet P a C K)
  (hw : Region.wanted o (yielded ops a.tmps) = true := by first | exact wanted_n rfl | exact wanted_g rfl rfl rfl rfl) (hr : readB o = true := by exact rfl) : LexE P ops C Q (o :: rest) a w := lex_read hw hr h
theorem lex_e {Q : Act → World → Prop} {o : Oper} {rest : List Oper} {a : Act} {w : World} (h : ∀ K : Act → World → Prop, (∀ a w, C w → LexE P ops C Q rest a w → K a w) → o.wp P a w K NoExit)
  (hw : Region.wanted o (yielded ops a.tmps) = true := by first | exact wanted_n rfl | exact wanted_g rfl rfl rfl rfl) (hr : readB o = false := by exact rfl) : LexE P ops C Q (o :: rest) a w := lex_eff hw hr h
theorem lex_k {Q : Act → World → Prop} {o : Oper} {rest : List Oper} {a : Act} {w : World} (h : ∀ K : Act → Prop, (∀ a, LexE P ops C Q rest a w → K a) → K (a.put o.dst undef))
  (hw : Region.wanted o (yielded ops a.tmps) = false := by exact wanted_g rfl rfl rfl rfl) : LexE P ops C Q (o :: rest) a w := lex_skip' hw h
theorem lex_l {Q : Act → World → Prop} {o : Oper} {a : Act} {w : World} (h : ∀ K : Act → World → Prop, (∀ a w, Q a w → K a w) → o.wp P a w K NoExit)
  (hw : Region.wanted o (yielded ops a.tmps) = true := by first | exact wanted_n rfl | exact wanted_g rfl rfl rfl rfl) (hr : readB o = false := by exact rfl) (hs : sinkAll ops = true := by kernel_rfl) : LexE P ops C Q [o] a w := lex_last hw hr hs h
attribute [irreducible] LexE
end

/-- a world of a class, under a name that the walk sees through -/
structure Wd (C : World → Prop) where
 val : World
 ok : C val
/-- the class as the walk wants it -/
def Cls (C : World → Prop) (w : World) : Prop := ∃ W : Wd C, w = W.val
theorem Cls.mk' {C : World → Prop} {w : World} (h : C w) : Cls C w := ⟨⟨w, h⟩, rfl⟩
theorem Cls.get {C : World → Prop} {w : World} (h : Cls C w) : C w := by obtain ⟨W, rfl⟩ := h; exact W.ok
@[go_sem] theorem forall_cls {C : World → Prop} {p : World → Prop} : (∀ w, Cls C w → p w) ↔ ∀ W : Wd C, p W.val :=
 ⟨fun h W => h _ ⟨W, rfl⟩, fun h _w ⟨W, e⟩ => e ▸ h W⟩
theorem wp_region_lexC {P : Program} {id : Nat} {Q : Exit → Act → World → Prop} {a : Act} {w : World} {l : List Oper} (hm : P.follows .mixedOrders = true) (hB : lexX .any l.toArray = true) (C : World → Prop) (hC : C w.drew)
  (h : Nonempty (Wd C) → LexE P l.toArray (Cls C) (fun a' w' => Q .normal a' w') l a w.drew) : (Code.region id l.toArray true).wp P Q a w :=
 wp_region_lex hm hB (Cls C) (Cls.mk' hC) (h ⟨⟨_, hC⟩⟩)
end Go.Proofs.YtolndlmhbnpmeaaDoor

/- Contracts: ranges, clamping, validity of tables and cubes: the program's and the reference's functions. -/
namespace Go.Proofs.YtolndlmhbnpmeaaDoor
open Go.RowKit

def inR (n lo hi : Int) : Bool := decide (lo ≤ n ∧ n ≤ hi)
theorem inR_iff {n lo hi : Int} : inR n lo hi = true ↔ lo ≤ n ∧ n ≤ hi := by simp [inR]

theorem i_inRange (n lo hi : Int) (w : World) :
  Calls Tryd.prog 37 #[.int .i64 n, .int .i64 lo, .int .i64 hi] w fun e w' => e = .returned (.bool (inR n lo hi)) ∧ w = w' := by
 go_enter Tryd.func37, Tryd.ntmps37
 go_wp2
 all_goals go_ret
 all_goals refine ⟨?_, rfl⟩
 all_goals simp [inR]; try omega

theorem s_l01In (n lo hi : Int) (w : World) :
  Calls Tryd.prog 60 #[.int .i64 n, .int .i64 lo, .int .i64 hi] w fun e w' => e = .returned (.bool (inR n lo hi)) ∧ w = w' := by
 go_enter Tryd.func60, Tryd.ntmps60
 go_wp2
 all_goals go_ret
 all_goals refine ⟨?_, rfl⟩
 all_goals simp [inR]; try omega

def full (n : Int) : Int := 2^(2^n.toNat) - 1
def tOk (n b : Int) : Bool := inR n 0 4 && inR b 0 (full n)

theorem five {n : Int} (h : inR n 0 4 = true) : n = 0 ∨ n = 1 ∨ n = 2 ∨ n = 3 ∨ n = 4 := by
 have := inR_iff.1 h; omega

def clamp (n lo hi : Int) : Int := if hi < lo ∨ n < lo then lo else if hi < n then hi else n
end Go.Proofs.YtolndlmhbnpmeaaDoor

/- Contracts: lists of numbers in the laws: equality, marks, whether the marks are held. -/
namespace Go.Proofs.YtolndlmhbnpmeaaDoor
open Go.RowKit

def ints (l : List Int) : List Value := l.map (Value.int .i64)
theorem ints_len (l : List Int) : (ints l).length = l.length := by simp [ints]
theorem ints_get (l : List Int) (k : Nat) : (ints l)[k]? = l[k]?.map (Value.int .i64) := by simp [ints]
theorem ints_one (l : List Int) : ∀ u ∈ ints l, u.oneCell' = true := by
 intro u hu
 simp only [ints, List.mem_map] at hu
 obtain ⟨x, _, rfl⟩ := hu
 rfl

/-- what is owned, with a lower bound -/
theorem own_mono {w : World} {base base' : Nat} {e : TypeId} {size n : Nat} {v : Value} {xs : List Value} (h : w.ownsRow base e size v n xs) (hb : base' ≤ base) : w.ownsRow base' e size v n xs := by
 refine ⟨h.1, ?_⟩
 rcases h.2 with h' | ⟨g, cap, cur, h1, h2, h3⟩
 ·exact .inl h'
 ·exact .inr ⟨g, cap, cur, h1, Nat.le_trans hb h2, h3⟩
theorem own_form {w : World} {base : Nat} {e : TypeId} {size n : Nat} {v : Value} {xs : List Value} (h : w.ownsRow base e size v n xs) :
  ∃ A c, v = .slice A n c ∧ n ≤ c ∧ c ≤ maxLen ∧ (0 < n → ∃ g, A = some ⟨g, 0, none⟩ ∧ base ≤ g ∧ g < w.heap.size) := by
 rcases h.2 with ⟨rfl, rfl⟩ | ⟨g, cap, cur, rfl, h2, h3, h4, h5, _⟩
 ·exact ⟨none, 0, rfl, Nat.le_refl _, by unfold maxLen; omega, fun h => absurd h (by omega)⟩
 ·refine ⟨_, cap, rfl, h4, h5, fun _ => ⟨g, rfl, h2, ?_⟩⟩
  exact (Array.getElem?_eq_some_iff.1 h3).1
theorem own_below {w w' : World} {base B : Nat} {e : TypeId} {size n : Nat} {v : Value} {xs : List Value} (h : w.ownsRow base e size v n xs) (hb : Below B w w') (hB : w.heap.size ≤ B) : w'.ownsRow base e size v n xs := by
 refine h.kept (row := none) ⟨hb.os, hb.tape, hb.output, hb.size, fun k hk _ => hb.block k (by omega)⟩ ?_
 cases hv : v.ownBlock
 ·exact .inl rfl
 ·exact .inr (by simp)
theorem own_drew {w : World} {base : Nat} {e : TypeId} {size n : Nat} {v : Value} {xs : List Value} (h : w.ownsRow base e size v n xs) : w.drew.ownsRow base e size v n xs := h
/-- what a fresh literal reads as -/
theorem reads_new {w : World} (t : TypeId) (cs : Array Value) (n size : Nat) (h : cs.size = n * size) : Reads (w.alloc (.cells cs t)) (w.heap.size + 1) size (some ⟨w.heap.size, 0, none⟩) n cs.toList := by
 refine ⟨by simpa using h, fun _ => ⟨_, rfl, by simp, fun j u hu => ?_⟩⟩
 have hadd : (⟨w.heap.size, 0, none⟩ : Addr).add j = ⟨w.heap.size, j, none⟩ := by unfold Addr.add; split <;> simp_all
 rw [hadd, (Blk.new w t cs).cell j, ← hu]
 simp

theorem below_of_grown {w w' : World} {row : Option Nat} {B : Nat} (h : w.grownBy w' row) (hB : B ≤ w.heap.size) (hr : ∀ g, row = some g → B ≤ g) : Below B w w' :=
 ⟨h.os, h.tape, h.output, h.size, fun k hk => h.block k (by omega) (fun e => by have := hr k e.symm; omega)⟩
theorem grown_below {w w1 w' : World} {row : Option Nat} (h : w.grownBy w1 row) {B : Nat} (hb : Below B w1 w') (hB : w.heap.size ≤ B) : w.grownBy w' row :=
 ⟨hb.os.trans h.os, hb.tape.trans h.tape, hb.output.trans h.output, Nat.le_trans h.size hb.size, fun k hk hne => (hb.block k (by omega)).trans (h.block k hk hne)⟩

/-- behind an append of a literal -/
theorem below_push {w0 w1 w2 : World} {B base n size : Nat} {e : TypeId} {o : Obj} {v : Value} {xs : List Value} (hb : Below B w0 w1) (hown : w1.ownsRow base e size v n xs) (hB : B ≤ base) (hs : B ≤ w1.heap.size)
  (hg : (w1.alloc o).grownBy w2 v.ownBlock) : Below B w0 w2 := by
 refine (hb.alloc hs o).trans (below_of_grown hg (by simp; omega) fun g hgv => ?_)
 have := hown.lt g hgv
 omega
theorem grown_push {w1 w2 : World} {o : Obj} {row : Option Nat} (hg : (w1.alloc o).grownBy w2 row) : w1.grownBy w2 row :=
 (World.grownBy_alloc w1 o row).trans hg

/-- the cell of a list's element -/
theorem Reads.int_at {w : World} {B n : Nat} {A : Option Addr} {l : List Int} (h : Reads w B 1 A n (ints l)) {k : Nat} (hk : k < n) :
  ∃ ad x, A = some ad ∧ ad.block < B ∧ l[k]? = some x ∧ w.cell? (ad.add k) = some (.int .i64 x) := by
 obtain ⟨ad, u, rfl, hb, hu, hc⟩ := h.at_ hk
 rw [ints_get] at hu
 cases hx : l[k]? with
 | none => rw [hx] at hu; cases hu
 | some x => rw [hx] at hu; injection hu with hu; subst hu; exact ⟨ad, x, rfl, hb, rfl, hc⟩
theorem Reads.len {w : World} {B n : Nat} {A : Option Addr} {l : List Int} (h : Reads w B 1 A n (ints l)) : l.length = n := by
 have := h.1; rw [ints_len] at this; omega

/-- the marks from k on -/
def marks (k : Int) (n : Nat) : List Int := (List.range n).map fun i => k + ((i : Nat) : Int)
theorem marks_len (k : Int) (n : Nat) : (marks k n).length = n := by simp [marks]
theorem marks_get {k : Int} {n i : Nat} (h : i < n) : (marks k n)[i]? = some (k + (i : Int)) := by
 simp [marks, List.getElem?_range h]
/-- the first i marked, the others as they were -/
def part (k : Int) (i : Nat) (l : List Int) : List Int := marks k i ++ l.drop i
theorem part_zero (k : Int) (l : List Int) : part k 0 l = l := by simp [part, marks]
theorem part_all {k : Int} {l : List Int} {n : Nat} (h : l.length = n) : part k n l = marks k n := by simp [part, ← h]
theorem part_succ {k : Int} {i : Nat} {l : List Int} (h : i < l.length) : (part k i l).set i (k + (i : Int)) = part k (i + 1) l := by
 unfold part
 rw [List.set_append_right _ _ (by rw [marks_len]; exact Nat.le_refl _), marks_len, Nat.sub_self, List.drop_eq_getElem_cons h, List.set_cons_zero]
 unfold marks
 rw [List.range_succ, List.map_append, List.append_assoc]
 rfl

end Go.Proofs.YtolndlmhbnpmeaaDoor

/- Words for memory: slices of structs of numbers. -/
namespace Go.Proofs.YtolndlmhbnpmeaaDoor
open Go.RowKit

/-- the address of a later field, as the walk writes it -/
abbrev nxt (a : Addr) (j : Nat) : Addr := ⟨a.block, a.off + j, none⟩
theorem nxt_add (a : Addr) {i : Nat} (j : Nat) (h : 0 < j) : nxt (a.add i) j = a.add (i + j) := by
 rw [← add_of_add]
 show _ = (if j = 0 then a.add i else _)
 rw [if_neg (by omega)]
theorem nxt_block (a : Addr) (i j : Nat) : (nxt (a.add i) j).block = a.block := block_of_add a i
/-- structs of numbers, laid one behind the other -/
def recs {α : Type} (enc : α → List Int) (l : List α) : List Value := l.flatMap fun x => (enc x).map (Value.int .i64)

section
variable {α : Type} {enc : α → List Int} {size : Nat}
theorem recs_nil : recs enc [] = [] := rfl
theorem recs_cons (x : α) (l : List α) : recs enc (x :: l) = (enc x).map (Value.int .i64) ++ recs enc l := by simp [recs]
theorem recs_app (a b : List α) : recs enc (a ++ b) = recs enc a ++ recs enc b := by simp [recs]
theorem recs_len (hE : ∀ x, (enc x).length = size) : ∀ l : List α, (recs enc l).length = l.length * size
 | [] => by simp [recs]
 | x :: l => by rw [recs_cons, List.length_append, recs_len hE l, List.length_map, hE, List.length_cons, Nat.add_mul]; omega
theorem recs_get (hE : ∀ x, (enc x).length = size) (j : Nat) (hj : j < size) : ∀ (l : List α) (k : Nat), (recs enc l)[k * size + j]? = l[k]?.bind fun x => (enc x)[j]?.map (Value.int .i64)
 | [], k => by simp [recs]
 | x :: l, 0 => by
  rw [recs_cons, Nat.zero_mul, Nat.zero_add, List.getElem?_append_left (by rw [List.length_map, hE]; exact hj)]
  simp
 | x :: l, k + 1 => by
  rw [recs_cons, List.getElem?_append_right (by rw [List.length_map, hE, Nat.add_mul]; omega), List.length_map, hE, show (k + 1) * size + j - size = k * size + j by rw [Nat.add_mul]; omega, recs_get hE j hj l k]
  simp
theorem recs_one (l : List α) : ∀ u ∈ recs enc l, u.oneCell' = true := by
 intro u hu
 simp only [recs, List.mem_flatMap, List.mem_map] at hu
 obtain ⟨x, _, y, _, rfl⟩ := hu
 rfl
theorem Reads.rlen (hE : ∀ x, (enc x).length = size) (hs : 0 < size) {w : World} {B n : Nat} {A : Option Addr} {l : List α} (h : Reads w B size A n (recs enc l)) : l.length = n := by
 have := h.1
 rw [recs_len hE] at this
 exact Nat.eq_of_mul_eq_mul_right hs this
theorem Reads.rec_at (hE : ∀ x, (enc x).length = size) (hs : 0 < size) {w : World} {B n : Nat} {A : Option Addr} {l : List α} (h : Reads w B size A n (recs enc l)) {k : Nat} (hk : k < n) :
  ∃ ad x, A = some ad ∧ ad.block < B ∧ l[k]? = some x ∧ ∀ j y, (enc x)[j]? = some y → w.cell? (ad.add (k * size + j)) = some (.int .i64 y) := by
 have hl := h.rlen hE hs
 obtain ⟨ad, rfl, hb, hc⟩ := h.2 (by omega)
 have hx : l[k]? = some l[k] := List.getElem?_eq_getElem (by omega)
 refine ⟨ad, l[k], rfl, hb, hx, fun j y hy => hc _ _ ?_⟩
 have hj : j < size := by
  rw [← hE l[k]]
  exact (List.getElem?_eq_some_iff.1 hy).1
 rw [recs_get hE j hj, hx]
 simp [hy]
end

/-! ### cubes -/
def cbE (c : Int × Int) : List Int := [c.1, c.2]
theorem cbE_len (c : Int × Int) : (cbE c).length = 2 := rfl
def cbs (l : List (Int × Int)) : List Value := recs cbE l
theorem cbs_len (l : List (Int × Int)) : (cbs l).length = l.length * 2 := recs_len cbE_len l
theorem cbs_one (l : List (Int × Int)) : ∀ u ∈ cbs l, u.oneCell' = true := recs_one l
theorem Reads.clen {w : World} {B n : Nat} {A : Option Addr} {l : List (Int × Int)} (h : Reads w B 2 A n (cbs l)) : l.length = n := Reads.rlen cbE_len (by decide) h
theorem Reads.cube_at {w : World} {B n : Nat} {A : Option Addr} {l : List (Int × Int)} (h : Reads w B 2 A n (cbs l)) {k : Nat} (hk : k < n) :
  ∃ ad c v, A = some ad ∧ ad.block < B ∧ l[k]? = some (c, v) ∧ w.cell? (ad.add (k * 2)) = some (.int .i64 c) ∧ w.cell? (nxt (ad.add (k * 2)) 1) = some (.int .i64 v) := by
 obtain ⟨ad, x, rfl, hb, hx, hc⟩ := Reads.rec_at cbE_len (by decide) h hk
 exact ⟨ad, x.1, x.2, rfl, hb, hx, hc 0 x.1 rfl, by rw [nxt_add _ _ (by decide)]; exact hc 1 x.2 rfl⟩
end Go.Proofs.YtolndlmhbnpmeaaDoor

/- Data in memory: numbers, and slices of rows of data, to any depth. -/
namespace Go.Proofs.YtolndlmhbnpmeaaDoor
open Go.RowKit

/-- a datum: a number, or the rows of a slice (a row: the data of one element's fields) -/
inductive Fd where
 | int (x : Int)
 | str (s : ByteArray)
 | sl (rows : List (List Fd))

/-- value v reads as datum f, in blocks that S holds of -/
inductive Rep (w : World) (S : Nat → Prop) : Value → Fd → Prop
 | int (x : Int) : Rep w S (.int .i64 x) (.int x)
 | str (s : ByteArray) : Rep w S (.string s) (.str s)
 | sl (A : Option Addr) (n c size : Nat) (rows : List (List Fd)) (V : Nat → Nat → Value) (hn : rows.length = n) (hm : n ≤ maxLen) (hs : ∀ r ∈ rows, r.length = size)
   (hA : 0 < n → ∃ ad, A = some ad ∧ S ad.block ∧ ∀ i j, i < n → j < size → w.cell? (ad.add (i * size + j)) = some (V i j))
   (hr : ∀ i j r f, rows[i]? = some r → r[j]? = some f → Rep w S (V i j) f) : Rep w S (.slice A n c) (.sl rows)
/-- .. in memory below B -/
abbrev RepB (w : World) (B : Nat) (v : Value) (f : Fd) : Prop := Rep w (· < B) v f

section
variable {w w' : World} {S S' : Nat → Prop} {B B' : Nat} {v : Value} {f : Fd}
theorem Rep.keep (h : Rep w S v f) (hk : ∀ p : Addr, S p.block → w'.cell? p = w.cell? p) : Rep w' S v f := by
 induction h with
 | int x => exact .int x
 | str s => exact .str s
 | sl A n c size rows V hn hm hs hA _ ih =>
  refine .sl A n c size rows V hn hm hs (fun h0 => ?_) ih
  obtain ⟨ad, e, hb, hc⟩ := hA h0
  exact ⟨ad, e, hb, fun i j hi hj => (hk _ (by rw [block_of_add]; exact hb)).trans (hc i j hi hj)⟩
theorem Rep.mono (h : Rep w S v f) (hS : ∀ b, S b → S' b) : Rep w S' v f := by
 induction h with
 | int x => exact .int x
 | str s => exact .str s
 | sl A n c size rows V hn hm hs hA _ ih =>
  refine .sl A n c size rows V hn hm hs (fun h0 => ?_) ih
  obtain ⟨ad, e, hb, hc⟩ := hA h0
  exact ⟨ad, e, hS _ hb, hc⟩
theorem Rep.under (h : Rep w S v f) (hS : ∀ b, S b → b < B) (hb : Below B w w') : Rep w' S v f := h.keep fun _p hp => hb.cell (hS _ hp)
theorem Rep.more (h : RepB w B v f) (hB : B ≤ B') : RepB w B' v f := h.mono fun _ hb => Nat.lt_of_lt_of_le hb hB
theorem Rep.below_ (h : RepB w B v f) (hb : Below B w w') : RepB w' B v f := h.under (fun _ h => h) hb
theorem Rep.grow (h : RepB w w.heap.size v f) (hb : Below w.heap.size w w') : RepB w' w'.heap.size v f := (h.below_ hb).more hb.size
theorem Rep.drew (h : Rep w S v f) : Rep w.drew S v f := h.keep fun _ _ => rfl
theorem Rep.drewN (h : Rep w S v f) (k : Nat) : Rep (w.drewN k) S v f := h.keep fun _ _ => rfl
theorem Rep.alloc (h : Rep w S v f) (hS : ∀ b, S b → b < w.heap.size) (o : Obj) : Rep (w.alloc o) S v f := h.keep fun p hp => World.cell?_alloc_lt w o p (hS _ hp)
theorem Rep.setCell (h : Rep w S v f) {p : Addr} (hp : ¬ S p.block) (u : Value) : Rep (w.setCell p u) S v f :=
 h.keep fun q hq => World.cell?_setCell_other w p q u (fun e => by subst e; exact hp hq)
theorem Rep.int_val {x : Int} (h : Rep w S v (.int x)) : v = .int .i64 x := by cases h; rfl
theorem Rep.str_val {s : ByteArray} (h : Rep w S v (.str s)) : v = .string s := by cases h; rfl
theorem Rep.sl_val {rows : List (List Fd)} (h : Rep w S v (.sl rows)) : ∃ A c, v = .slice A rows.length c ∧ rows.length ≤ maxLen := by
 cases h with
 | sl A n c size rows V hn hm => subst hn; exact ⟨A, c, rfl, hm⟩
/-- a row of a slice -/
theorem Rep.row {A : Option Addr} {n c k : Nat} {rows : List (List Fd)} (h : Rep w S (.slice A n c) (.sl rows)) (hk : k < n) :
  ∃ (ad : Addr) (r : List Fd), A = some ad ∧ S ad.block ∧ rows[k]? = some r ∧ r ∈ rows ∧ ∀ j f, r[j]? = some f → ∃ v, w.cell? (ad.add (k * r.length + j)) = some v ∧ Rep w S v f := by
 cases h with
 | sl A n c size rows V hn hm hs hA hr =>
  obtain ⟨ad, rfl, hb, hc⟩ := hA (by omega)
  have hx : rows[k]? = some rows[k] := List.getElem?_eq_getElem (by omega)
  have hmem : rows[k] ∈ rows := List.getElem_mem _
  refine ⟨ad, rows[k], rfl, hb, hx, hmem, fun j f hf => ⟨V k j, ?_, hr k j _ f hx hf⟩⟩
  rw [hs _ hmem]
  exact hc k j hk (by rw [← hs _ hmem]; exact (List.getElem?_eq_some_iff.1 hf).1)
theorem Rep.len {A : Option Addr} {n c : Nat} {rows : List (List Fd)} (h : Rep w S (.slice A n c) (.sl rows)) : rows.length = n := by
 cases h with
 | sl A n c size rows V hn => exact hn
/-- rows that lie in a row of cells -/
theorem Rep.of_cells {A : Option Addr} {n c size : Nat} {rows : List (List Fd)} {xs : List Value} (hm : n ≤ maxLen) (hn : rows.length = n) (hs : ∀ r ∈ rows, r.length = size) (hR : Reads w B size A n xs) (hS : ∀ ad, A = some ad → S ad.block)
  (hr : ∀ (i j : Nat) (r : List Fd) (f : Fd), rows[i]? = some r → r[j]? = some f → ∃ v, xs[i * size + j]? = some v ∧ Rep w S v f) : Rep w S (.slice A n c) (.sl rows) := by
 refine .sl A n c size rows (fun i j => (xs[i * size + j]?).getD undef) hn hm hs (fun h0 => ?_) (fun i j r f h1 h2 => ?_)
 ·obtain ⟨ad, e, _, hc⟩ := hR.2 h0
  refine ⟨ad, e, hS ad e, fun i j hi hj => ?_⟩
  have hlt : i * size + j < xs.length := by
   rw [hR.1]
   calc i * size + j < i * size + size := by omega
    _ = (i + 1) * size := by rw [Nat.add_mul, Nat.one_mul]
    _ ≤ n * size := Nat.mul_le_mul_right _ (by omega)
  have hx := List.getElem?_eq_getElem hlt
  show w.cell? _ = some ((xs[i * size + j]?).getD undef)
  rw [hx]
  exact hc _ _ hx
 ·obtain ⟨v, hv, hrep⟩ := hr i j r f h1 h2
  show Rep w S ((xs[i * size + j]?).getD undef) f
  rw [hv]
  exact hrep
end

/-! ### rows that are written one by one -/
def RowsTo (w : World) (S : Nat → Prop) (rows : List (List Fd)) (size k : Nat) (xs : List Value) : Prop :=
 ∀ (i j : Nat) (r : List Fd) (f : Fd), i < k → rows[i]? = some r → r[j]? = some f → ∃ v, xs[i * size + j]? = some v ∧ Rep w S v f
theorem RowsTo.zero (w : World) (S : Nat → Prop) (rows : List (List Fd)) (size : Nat) (xs : List Value) : RowsTo w S rows size 0 xs := fun _ _ _ _ h => absurd h (Nat.not_lt_zero _)
theorem RowsTo.keep {w w' : World} {S S' : Nat → Prop} {rows : List (List Fd)} {size k : Nat} {xs : List Value} (h : RowsTo w S rows size k xs) (hk : ∀ p : Addr, S p.block → w'.cell? p = w.cell? p) (hS : ∀ b, S b → S' b) : RowsTo w' S' rows size k xs :=
 fun i j r f hi hr hf => by
  obtain ⟨v, hv, hrep⟩ := h i j r f hi hr hf
  exact ⟨v, hv, (hrep.keep hk).mono hS⟩
theorem RowsTo.step {w : World} {S : Nat → Prop} {rows : List (List Fd)} {size k : Nat} {xs xs' : List Value} {row : List Fd} (h : RowsTo w S rows size k xs) (hrow : rows[k]? = some row) (hs : ∀ r ∈ rows, r.length = size)
  (h1 : ∀ p, p < k * size → xs'[p]? = xs[p]?) (h2 : ∀ (j : Nat) (f : Fd), row[j]? = some f → ∃ v, xs'[k * size + j]? = some v ∧ Rep w S v f) : RowsTo w S rows size (k + 1) xs' := by
 intro i j r f hi hr hf
 by_cases hik : i = k
 ·subst hik
  rw [hrow] at hr
  injection hr with hr
  subst hr
  exact h2 j f hf
 ·obtain ⟨v, hv, hrep⟩ := h i j r f (by omega) hr hf
  refine ⟨v, ?_, hrep⟩
  have hj : j < size := by
   rw [← hs r (List.mem_of_getElem? hr)]
   exact (List.getElem?_eq_some_iff.1 hf).1
  rw [h1]
  ·exact hv
  ·calc i * size + j < i * size + size := by omega
    _ = (i + 1) * size := by rw [Nat.add_mul, Nat.one_mul]
    _ ≤ k * size := Nat.mul_le_mul_right _ (by omega)

/-! ### rows of numbers -/
def fints (l : List Int) : Fd := .sl (l.map fun x => [Fd.int x])
def frow {α : Type} (enc : α → List Int) (x : α) : List Fd := (enc x).map Fd.int
def frecs {α : Type} (enc : α → List Int) (l : List α) : Fd := .sl (l.map (frow enc))
theorem fints_recs (l : List Int) : fints l = frecs (fun x => [x]) l := rfl
theorem ints_recs (l : List Int) : ints l = recs (fun x => [x]) l := by
 induction l with
 | nil => rfl
 | cons x l ih => rw [recs_cons, ← ih]; rfl
theorem Rep.to_reads {α : Type} {enc : α → List Int} {size : Nat} (hE : ∀ x, (enc x).length = size) (h0 : 0 < size) {w : World} {S : Nat → Prop} {B n c : Nat} {A : Option Addr} {l : List α} (h : Rep w S (.slice A n c) (frecs enc l)) (hS : ∀ b, S b → b < B) : Reads w B size A n (recs enc l) := by
 have hl := h.len
 rw [List.length_map] at hl
 refine ⟨by rw [recs_len hE, hl], fun hn => ?_⟩
 obtain ⟨ad, r, rfl, hb, _⟩ := h.row hn
 refine ⟨ad, rfl, hS _ hb, fun j u hu => ?_⟩
 have hjl := (List.getElem?_eq_some_iff.1 hu).1
 rw [recs_len hE] at hjl
 have hj : j = j / size * size + j % size := by rw [Nat.mul_comm]; exact (Nat.div_add_mod j size).symm
 have hk : j / size < l.length := (Nat.div_lt_iff_lt_mul h0).2 hjl
 have hg := recs_get hE (j % size) (Nat.mod_lt _ h0) l (j / size)
 rw [← hj, hu] at hg
 obtain ⟨ad', r', he, _, hr', _, hc⟩ := h.row (k := j / size) (by omega)
 injection he with he
 subst he
 rw [List.getElem?_map, List.getElem?_eq_getElem hk] at hr'
 injection hr' with hr'
 rw [List.getElem?_eq_getElem hk] at hg
 simp only [Option.bind_some] at hg
 have hm : j % size < (enc l[j / size]).length := by rw [hE]; exact Nat.mod_lt _ h0
 rw [List.getElem?_eq_getElem hm] at hg
 injection hg with hg
 obtain ⟨v, hv, hrep⟩ := hc (j % size) (.int ((enc l[j / size])[j % size])) (by rw [← hr', frow, List.getElem?_map, List.getElem?_eq_getElem hm]; rfl)
 rw [← hr', frow, List.length_map, hE, ← hj] at hv
 rw [hv, hg, hrep.int_val]
theorem Rep.of_reads {α : Type} {enc : α → List Int} {size : Nat} (hE : ∀ x, (enc x).length = size) {w : World} {S : Nat → Prop} {B n c : Nat} {A : Option Addr} {l : List α} (hn : n ≤ maxLen) (hl : l.length = n) (h : Reads w B size A n (recs enc l)) (hS : ∀ ad, A = some ad → S ad.block) : Rep w S (.slice A n c) (frecs enc l) := by
 refine Rep.of_cells (size := size) hn (by rw [List.length_map]; exact hl) (fun r hr => ?_) h hS (fun i j r f hr hf => ?_)
 ·obtain ⟨x, _, rfl⟩ := List.mem_map.1 hr
  rw [frow, List.length_map, hE]
 ·rw [List.getElem?_map] at hr
  cases hx : l[i]? with
  | none => rw [hx] at hr; cases hr
  | some x =>
   rw [hx] at hr
   injection hr with hr
   subst hr
   rw [frow, List.getElem?_map] at hf
   cases hy : (enc x)[j]? with
   | none => rw [hy] at hf; cases hf
   | some y =>
    rw [hy] at hf
    injection hf with hf
    subst hf
    have hj : j < size := by rw [← hE x]; exact (List.getElem?_eq_some_iff.1 hy).1
    exact ⟨_, by rw [recs_get hE j hj, hx]; simp only [Option.bind_some, hy, Option.map_some], .int y⟩
theorem Rep.ints_ {w : World} {S : Nat → Prop} {B n c : Nat} {A : Option Addr} {l : List Int} (h : Rep w S (.slice A n c) (fints l)) (hS : ∀ b, S b → b < B) : Reads w B 1 A n (ints l) := by
 rw [ints_recs]
 exact Rep.to_reads (enc := fun x : Int => [x]) (fun _ => rfl) (by decide) h hS
theorem Rep.of_ints {w : World} {S : Nat → Prop} {B n c : Nat} {A : Option Addr} {l : List Int} (hn : n ≤ maxLen) (hl : l.length = n) (h : Reads w B 1 A n (ints l)) (hS : ∀ ad, A = some ad → S ad.block) : Rep w S (.slice A n c) (fints l) := by
 rw [ints_recs] at h
 exact Rep.of_reads (enc := fun x : Int => [x]) (fun _ => rfl) hn hl h hS
end Go.Proofs.YtolndlmhbnpmeaaDoor

/- Contracts: lists of numbers in the laws: the size, the copy; data in memory of the call's own. -/
namespace Go.Proofs.YtolndlmhbnpmeaaDoor
open Go.RowKit

/-- blocks that the call made -/
def New (w w' : World) (b : Nat) : Prop := w.heap.size ≤ b ∧ b < w'.heap.size
theorem own_rep {α : Type} {enc : α → List Int} {size : Nat} (hE : ∀ x, (enc x).length = size) (h0 : 0 < size) {w : World} {base n c : Nat} {e : TypeId} {A : Option Addr} {l : List α} (hn : n ≤ maxLen) (h : w.ownsRow base e size (.slice A n c) n (recs enc l)) :
  Rep w (fun b => base ≤ b ∧ b < w.heap.size) (.slice A n c) (frecs enc l) := by
 have hl := Reads.rlen hE h0 (Reads.of_own h)
 refine Rep.of_reads hE hn hl (Reads.of_own h) fun ad hA => ?_
 subst hA
 have := h.lt ad.block (by
  rcases h.2 with ⟨h', _⟩ | ⟨g, cap, cur, h', _⟩
  ·cases h'
  ·injection h' with h1 _ _
   injection h1 with h1
   subst h1
   rfl)
 exact this
theorem own_rep_ints {w : World} {base n c : Nat} {e : TypeId} {A : Option Addr} {l : List Int} (hn : n ≤ maxLen) (h : w.ownsRow base e 1 (.slice A n c) n (ints l)) :
  Rep w (fun b => base ≤ b ∧ b < w.heap.size) (.slice A n c) (fints l) := by
 rw [ints_recs] at h
 exact own_rep (enc := fun x : Int => [x]) (fun _ => rfl) (by decide) hn h

theorem Tryd.infoIntC : (Tryd.prog.info? 3).map (fun i => (i.zero, i.size, i.bytes)) = some (some (.int .i64 0), 1, 8) := by kernel_rfl
theorem made_ints (n : Nat) : (madeCells #[.int .i64 0] n).toList = ints (List.replicate n 0) := by
 simp only [madeCells, ints, Array.toList_map, Array.toList_range, List.map_replicate]
 rw [List.eq_replicate_iff]
 refine ⟨by simp, fun b hb => ?_⟩
 obtain ⟨i, _, rfl⟩ := List.mem_map.1 hb
 show (#[Value.int .i64 0])[i % 1]! = _
 rw [Nat.mod_one]
 rfl
theorem own_ints {w : World} {n : Nat} (hn : n ≤ maxLen) : (w.alloc (.cells (madeCells #[.int .i64 0] n) 3)).ownsRow w.heap.size 3 1 (.slice (some ⟨w.heap.size, 0, none⟩) n n) n (ints (List.replicate n 0)) :=
 ⟨by simp [ints], .inr ⟨w.heap.size, n, madeCells #[.int .i64 0] n, rfl, Nat.le_refl _, heap_alloc_new w _, Nat.le_refl _, hn, by simp [size_madeCells], by rw [made_ints]; simp [ints]⟩⟩
theorem set_takeI {α : Type} {l m : List α} {k : Nat} {x : α} (h : l.take k = m.take k) (hl : k < l.length) (hm : m[k]? = some x) : (l.set k x).take (k + 1) = m.take (k + 1) := by
 rw [List.take_add_one, List.take_add_one, List.take_set_of_le (Nat.le_refl _), h, hm, List.getElem?_set_self hl]
/-- a list of numbers in memory of the call's own -/
def OwnI (l : List Int) (w : World) (e : Ending) (w' : World) : Prop :=
 ∃ A c, e = .returned (.slice A l.length c) ∧ w'.ownsRow w.heap.size 3 1 (.slice A l.length c) l.length (ints l) ∧ Below w.heap.size w w'

end Go.Proofs.YtolndlmhbnpmeaaDoor

/- Data in memory of which each slice lies in a block of its own: what a mark changes, and what it leaves. -/
namespace Go.Proofs.YtolndlmhbnpmeaaDoor
open Go.RowKit

/-- w' is w but for blocks that S holds of, and new blocks -/
structure Only (S : Nat → Prop) (w w' : World) : Prop where
 os : w'.os = w.os
 tape : w'.tape = w.tape
 output : w'.output = w.output
 size : w.heap.size ≤ w'.heap.size
 block : ∀ k, k < w.heap.size → ¬ S k → w'.heap[k]? = w.heap[k]?

section
variable {S S' : Nat → Prop} {w w' w'' : World}
theorem Only.refl (S : Nat → Prop) (w : World) : Only S w w := ⟨rfl, rfl, rfl, Nat.le_refl _, fun _ _ _ => rfl⟩
theorem Only.trans (h : Only S w w') (k : Only S w' w'') : Only S w w'' :=
 ⟨k.os.trans h.os, k.tape.trans h.tape, k.output.trans h.output, Nat.le_trans h.size k.size, fun b hb hs => (k.block b (Nat.lt_of_lt_of_le hb h.size) hs).trans (h.block b hb hs)⟩
theorem Only.more (h : Only S w w') (hS : ∀ b, S b → S' b) : Only S' w w' := ⟨h.os, h.tape, h.output, h.size, fun b hb hs => h.block b hb (fun x => hs (hS b x))⟩
theorem Only.of_below (h : Below w.heap.size w w') (S : Nat → Prop) : Only S w w' := ⟨h.os, h.tape, h.output, h.size, fun b hb _ => h.block b hb⟩
theorem Only.drew (h : Only S w w') : Only S w w'.drew := ⟨h.os, h.tape, h.output, h.size, h.block⟩
theorem Only.alloc (h : Only S w w') (o : Obj) : Only S w (w'.alloc o) :=
 ⟨h.os, h.tape, h.output, Nat.le_trans h.size (by simp), fun b hb hs => (Below.heap_alloc w' o b (Nat.lt_of_lt_of_le hb h.size)).trans (h.block b hb hs)⟩
theorem Only.setCell (h : Only S w w') {p : Addr} (hp : S p.block ∨ w.heap.size ≤ p.block) (u : Value) : Only S w (w'.setCell p u) :=
 ⟨h.os, h.tape, h.output, by simpa [World.setCell] using h.size, fun b hb hs => (Below.heap_setCell w' p u b (by
  rintro rfl
  rcases hp with hp | hp
  ·exact hs hp
  ·omega)).trans (h.block b hb hs)⟩
theorem Only.below (h : Only S w w') {B : Nat} (hB : B ≤ w.heap.size) (hS : ∀ b, S b → B ≤ b) : Below B w w' :=
 ⟨h.os, h.tape, h.output, h.size, fun b hb => h.block b (by omega) (fun x => by have := hS b x; omega)⟩
theorem Only.cell (h : Only S w w') {p : Addr} (hp : p.block < w.heap.size) (hs : ¬ S p.block) : w'.cell? p = w.cell? p := World.cell?_of_block (h.block p.block hp hs)
theorem Only.blk (h : Only S w w') {g : Nat} {t : TypeId} {cs : Array Value} (hb : Blk w g t cs) (hs : ¬ S g) : Blk w' g t cs := (h.block g hb.lt hs).trans hb
theorem own_keep {base size n : Nat} {e : TypeId} {v : Value} {xs : List Value} (h : w.ownsRow base e size v n xs) (hk : ∀ g, v.ownBlock = some g → w'.heap[g]? = w.heap[g]?) : w'.ownsRow base e size v n xs := by
 refine ⟨h.1, h.2.imp id ?_⟩
 rintro ⟨g, cap, cur, hv, hb, hh, r⟩
 exact ⟨g, cap, cur, hv, hb, (hk g (by rw [hv]; rfl)).trans hh, r⟩
end

/-- v reads as f; each slice of it lies in a block of its own; all these blocks are ones that S holds of -/
inductive Sep (w : World) : (Nat → Prop) → Value → Fd → Prop
 | int (S : Nat → Prop) (x : Int) : Sep w S (.int .i64 x) (.int x)
 | str (S : Nat → Prop) (s : ByteArray) : Sep w S (.string s) (.str s)
 | sl (S : Nat → Prop) (A : Option Addr) (n c size : Nat) (e : TypeId) (rows : List (List Fd)) (xs : List Value) (V : Nat → Nat → Value) (P : Nat → Nat → Nat → Prop)
   (hn : rows.length = n) (hm : n ≤ maxLen) (hs : ∀ r ∈ rows, r.length = size)
   (ho : w.ownsRow 0 e size (.slice A n c) n xs) (hS : ∀ g, (Value.slice A n c).ownBlock = some g → S g)
   (hP : ∀ i j b, P i j b → S b ∧ (Value.slice A n c).ownBlock ≠ some b)
   (hd : ∀ i j i' j' b, P i j b → P i' j' b → i = i' ∧ j = j')
   (hx : ∀ i j, i < n → j < size → xs[i * size + j]? = some (V i j))
   (hr : ∀ i j r f, rows[i]? = some r → r[j]? = some f → Sep w (P i j) (V i j) f) : Sep w S (.slice A n c) (.sl rows)

section
variable {S S' : Nat → Prop} {w w' : World} {v : Value} {f : Fd}
theorem Sep.keep (h : Sep w S v f) (hk : ∀ b, S b → w'.heap[b]? = w.heap[b]?) : Sep w' S v f := by
 induction h with
 | int S x => exact .int S x
 | str S s => exact .str S s
 | sl S A n c size e rows xs V P hn hm hs ho hS hP hd hx _ ih =>
  exact .sl S A n c size e rows xs V P hn hm hs (own_keep ho (fun g hg => hk g (hS g hg))) hS hP hd hx (fun i j r f h1 h2 => ih i j r f h1 h2 (fun b hb => hk b (hP i j b hb).1))
theorem Sep.mono (h : Sep w S v f) (hS : ∀ b, S b → S' b) : Sep w S' v f := by
 cases h with
 | int S x => exact .int S' x
 | str S s => exact .str S' s
 | sl S A n c size e rows xs V P hn hm hs ho hS1 hP hd hx hr =>
  exact .sl S' A n c size e rows xs V P hn hm hs ho (fun g hg => hS g (hS1 g hg)) (fun i j b hb => ⟨hS b (hP i j b hb).1, (hP i j b hb).2⟩) hd hx hr
theorem Sep.rep (h : Sep w S v f) : Rep w S v f := by
 induction h with
 | int S x => exact .int x
 | str S s => exact .str s
 | sl S A n c size e rows xs V P hn hm hs ho hS hP hd hx _ ih =>
  refine .sl A n c size rows V hn hm hs (fun h0 => ?_) (fun i j r f h1 h2 => (ih i j r f h1 h2).mono (fun b hb => (hP i j b hb).1))
  obtain ⟨g, cap, hv, _, _⟩ := ho.form h0
  injection hv with hv
  subst hv
  exact ⟨_, rfl, hS g rfl, fun i j hi hj => ho.cells (g := g) rfl _ _ (hx i j hi hj)⟩
theorem Sep.under {B : Nat} (h : Sep w S v f) (hS : ∀ b, S b → b < B) (hb : Below B w w') : Sep w' S v f := h.keep fun b hs => hb.block b (hS b hs)
theorem Sep.drew (h : Sep w S v f) : Sep w.drew S v f := h.keep fun _ _ => rfl
theorem Sep.alloc (h : Sep w S v f) (hS : ∀ b, S b → b < w.heap.size) (o : Obj) : Sep (w.alloc o) S v f := h.keep fun b hb => Below.heap_alloc w o b (hS b hb)
theorem Sep.setCell (h : Sep w S v f) {p : Addr} (hp : ¬ S p.block) (u : Value) : Sep (w.setCell p u) S v f := h.keep fun b hb => Below.heap_setCell w p u b (fun e => by subst e; exact hp hb)
theorem Sep.only (h : Sep w S v f) (hS : ∀ b, S b → b < w.heap.size) (ho : Only S' w w') (hd : ∀ b, S b → ¬ S' b) : Sep w' S v f := h.keep fun b hb => ho.block b (hS b hb) (hd b hb)
theorem Sep.int_val {x : Int} (h : Sep w S v (.int x)) : v = .int .i64 x := by cases h; rfl
theorem Sep.sl_val {rows : List (List Fd)} (h : Sep w S v (.sl rows)) : ∃ A c, v = .slice A rows.length c ∧ rows.length ≤ maxLen := h.rep.sl_val
theorem Sep.len {A : Option Addr} {n c : Nat} {rows : List (List Fd)} (h : Sep w S (.slice A n c) (.sl rows)) : rows.length = n := h.rep.len

/-- an element of a slice, and what writing it leaves -/
theorem Sep.at_ {α : Type} {ra : α → List Fd} {size : Nat} (hsz : ∀ x, (ra x).length = size) {l : List α} {A : Option Addr} {n c k : Nat} {x : α} (h : Sep w S (.slice A n c) (.sl (l.map ra))) (hS : ∀ b, S b → b < w.heap.size) (hx : l[k]? = some x) :
  ∃ g : Nat, A = some ⟨g, 0, none⟩ ∧ S g ∧ (∀ j f, (ra x)[j]? = some f → ∃ u P, w.cell? ⟨g, k * size + j, none⟩ = some u ∧ w.frozen? ⟨g, k * size + j, none⟩ = false ∧ (∀ b, P b → S b ∧ b ≠ g) ∧ Sep w P u f ∧
   (∀ (w' : World) (f' : Fd) (y : α), Only P w w' → Sep w' P u f' → ra y = (ra x).set j f' → Sep w' S (.slice A n c) (.sl ((l.set k y).map ra)))) ∧
   (∀ (j : Nat) (b : Int) (y : α), j < size → ra y = (ra x).set j (.int b) → Sep (w.setCell ⟨g, k * size + j, none⟩ (.int .i64 b)) S (.slice A n c) (.sl ((l.set k y).map ra))) := by
 cases h with
 | sl S A n c size' e rows xs V P hn hm hs ho hS1 hP hd hV hr =>
  have hkl : k < l.length := (List.getElem?_eq_some_iff.1 hx).1
  rw [List.length_map] at hn
  have hrow : (l.map ra)[k]? = some (ra x) := by rw [List.getElem?_map, hx]; rfl
  have hse : size' = size := by rw [← hs _ (List.mem_of_getElem? hrow), hsz]
  subst hse
  obtain ⟨g, cap, hv, _, hlt⟩ := ho.form (by omega)
  injection hv with hv
  subst hv
  have hset : ∀ y : α, ((l.set k y).map ra) = (l.map ra).set k (ra y) := fun y => by rw [List.map_set]
  refine ⟨g, rfl, hS1 g rfl, fun j f hf => ?_, fun j b y hj hy => ?_⟩
  ·have hj : j < size' := by rw [← hsz x]; exact (List.getElem?_eq_some_iff.1 hf).1
   have hlin : k * size' + j < n * size' := by
    calc k * size' + j < k * size' + size' := by omega
     _ = (k + 1) * size' := by rw [Nat.add_mul, Nat.one_mul]
     _ ≤ n * size' := Nat.mul_le_mul_right _ (by omega)
   refine ⟨V k j, P k j, (ho.cellAt _ hlin).trans (hV k j (by omega) hj), ho.frozenAt _, fun b hb => ⟨(hP k j b hb).1, fun e => (hP k j b hb).2 (by rw [e]; rfl)⟩, hr k j _ f hrow hf, fun w' f' y hw hf' hy => ?_⟩
   refine .sl S _ n c size' e _ xs V P (by rw [List.length_map, List.length_set]; exact hn) hm (fun r hmem => ?_) (own_keep ho (fun g' hg' => ?_)) hS1 hP hd hV (fun i j' r0 f0 hi hj' => ?_)
   ·obtain ⟨z, _, rfl⟩ := List.mem_map.1 hmem
    exact hsz z
   ·exact hw.block g' (hS _ (hS1 g' hg')) (fun hc => (hP k j g' hc).2 hg')
   ·rw [hset, List.getElem?_set] at hi
    by_cases hik : k = i
    ·subst hik
     rw [if_pos rfl, if_pos (by rw [List.length_map]; exact hkl)] at hi
     injection hi with hi
     subst hi
     rw [hy, List.getElem?_set] at hj'
     by_cases hjj : j = j'
     ·subst hjj
      rw [if_pos rfl, if_pos (by rw [hsz]; exact hj)] at hj'
      injection hj' with hj'
      subst hj'
      exact hf'
     ·rw [if_neg hjj] at hj'
      exact (hr k j' _ f0 hrow hj').keep (fun b hb => hw.block b (hS b (hP k j' b hb).1) (fun hc => hjj (hd k j k j' b hc hb).2))
    ·rw [if_neg hik] at hi
     exact (hr i j' r0 f0 hi hj').keep (fun b hb => hw.block b (hS b (hP i j' b hb).1) (fun hc => hik (hd k j i j' b hc hb).1))
  ·have hlin : k * size' + j < n * size' := by
    calc k * size' + j < k * size' + size' := by omega
     _ = (k + 1) * size' := by rw [Nat.add_mul, Nat.one_mul]
     _ ≤ n * size' := Nat.mul_le_mul_right _ (by omega)
   have hxl := ho.1
   refine .sl S _ n c size' e _ (xs.set (k * size' + j) (.int .i64 b)) (fun i j' => if i = k ∧ j' = j then .int .i64 b else V i j') P (by rw [List.length_map, List.length_set]; exact hn) hm (fun r hmem => ?_) (ho.stored (k * size' + j) (.int .i64 b)).1 hS1 hP hd (fun i j' hi hj' => ?_) (fun i j' r0 f0 hi hj' => ?_)
   ·obtain ⟨z, _, rfl⟩ := List.mem_map.1 hmem
    exact hsz z
   ·rw [List.getElem?_set]
    by_cases hik : i = k ∧ j' = j
    ·obtain ⟨rfl, rfl⟩ := hik
     rw [if_pos rfl, if_pos (by omega)]
     simp
    ·rw [if_neg hik, if_neg]
     ·exact hV i j' hi hj'
     ·intro hc
      apply hik
      have h1 : k = i := by
       have e1 : (k * size' + j) / size' = k := by rw [Nat.mul_comm, Nat.mul_add_div (by omega), Nat.div_eq_of_lt hj, Nat.add_zero]
       have e2 : (i * size' + j') / size' = i := by rw [Nat.mul_comm, Nat.mul_add_div (by omega), Nat.div_eq_of_lt hj', Nat.add_zero]
       rw [← e1, hc, e2]
      subst h1
      exact ⟨rfl, by omega⟩
   ·rw [hset, List.getElem?_set] at hi
    have hother : ∀ i j' f0, Sep w (P i j') (V i j') f0 → ¬ (i = k ∧ j' = j) → Sep (w.setCell ⟨g, k * size' + j, none⟩ (.int .i64 b)) (P i j') (if i = k ∧ j' = j then .int .i64 b else V i j') f0 := fun i j' f0 hs0 hne => by
     rw [if_neg hne]
     exact hs0.setCell (fun hc => (hP i j' g hc).2 rfl) _
    by_cases hik : k = i
    ·subst hik
     rw [if_pos rfl, if_pos (by rw [List.length_map]; exact hkl)] at hi
     injection hi with hi
     subst hi
     rw [hy, List.getElem?_set] at hj'
     by_cases hjj : j = j'
     ·subst hjj
      rw [if_pos rfl, if_pos (by rw [hsz]; exact hj)] at hj'
      injection hj' with hj'
      subst hj'
      rw [if_pos ⟨rfl, rfl⟩]
      exact .int _ b
     ·rw [if_neg hjj] at hj'
      exact hother k j' f0 (hr k j' _ f0 hrow hj') (fun hc => hjj hc.2.symm)
    ·rw [if_neg hik] at hi
     exact hother i j' f0 (hr i j' r0 f0 hi hj') (fun hc => hik hc.1.symm)
end

/-! ### rows that are written one by one, each part of a row in new blocks -/
/-- the first k rows of xs read so, in blocks from lo on below hi, all parts apart -/
def RowsSep (w : World) (lo hi : Nat) (rows : List (List Fd)) (size k : Nat) (xs : List Value) : Prop :=
 ∃ (P : Nat → Nat → Nat → Prop), (∀ i j b, P i j b → lo ≤ b ∧ b < hi) ∧ (∀ i j i' j' b, P i j b → P i' j' b → i = i' ∧ j = j') ∧
  ∀ (i j : Nat) (r : List Fd) (f : Fd), i < k → rows[i]? = some r → r[j]? = some f → ∃ v, xs[i * size + j]? = some v ∧ Sep w (P i j) v f
section
variable {w w' : World} {lo hi hi' size k : Nat} {rows : List (List Fd)} {xs xs' : List Value}
theorem RowsSep.zero (w : World) (lo : Nat) (rows : List (List Fd)) (size : Nat) (xs : List Value) : RowsSep w lo lo rows size 0 xs :=
 ⟨fun _ _ _ => False, fun _ _ _ h => h.elim, fun _ _ _ _ _ h => h.elim, fun _ _ _ _ h => absurd h (Nat.not_lt_zero _)⟩
theorem RowsSep.zero' (w : World) {lo hi : Nat} (rows : List (List Fd)) (size : Nat) (xs : List Value) : RowsSep w lo hi rows size 0 xs :=
 ⟨fun _ _ _ => False, fun _ _ _ h => h.elim, fun _ _ _ _ _ h => h.elim, fun _ _ _ _ h => absurd h (Nat.not_lt_zero _)⟩
theorem RowsSep.keep (h : RowsSep w lo hi rows size k xs) (hk : ∀ b, lo ≤ b → b < hi → w'.heap[b]? = w.heap[b]?) (hh : hi ≤ hi') : RowsSep w' lo hi' rows size k xs := by
 obtain ⟨P, h1, h2, h3⟩ := h
 refine ⟨P, fun i j b hb => ⟨(h1 i j b hb).1, by have := (h1 i j b hb).2; omega⟩, h2, fun i j r f hi hr hf => ?_⟩
 obtain ⟨v, hv, hs⟩ := h3 i j r f hi hr hf
 exact ⟨v, hv, hs.keep (fun b hb => hk b (h1 i j b hb).1 (h1 i j b hb).2)⟩
theorem RowsSep.step {row : List Fd} {Q : Nat → Nat → Prop} (h : RowsSep w lo hi rows size k xs) (hrow : rows[k]? = some row) (hs : ∀ r ∈ rows, r.length = size) (hh : hi ≤ hi') (hl : lo ≤ hi)
  (h1 : ∀ p, p < k * size → xs'[p]? = xs[p]?) (hQ : ∀ j b, Q j b → hi ≤ b ∧ b < hi') (hq : ∀ j j' b, Q j b → Q j' b → j = j')
  (h2 : ∀ (j : Nat) (f : Fd), row[j]? = some f → ∃ v, xs'[k * size + j]? = some v ∧ Sep w (Q j) v f) : RowsSep w lo hi' rows size (k + 1) xs' := by
 obtain ⟨P, p1, p2, p3⟩ := h
 refine ⟨fun i j b => if i = k then Q j b else P i j b, fun i j b hb => ?_, fun i j i' j' b hb hb' => ?_, fun i j r f hi hr hf => ?_⟩
 ·dsimp only at hb
  split at hb
  ·have := hQ j b hb; omega
  ·have := p1 i j b hb; omega
 ·dsimp only at hb hb'
  split at hb <;> split at hb'
  ·exact ⟨by omega, hq _ _ _ hb hb'⟩
  ·have a1 := hQ _ _ hb; have a2 := p1 _ _ _ hb'; omega
  ·have a1 := hQ _ _ hb'; have a2 := p1 _ _ _ hb; omega
  ·exact p2 _ _ _ _ _ hb hb'
 ·by_cases hik : i = k
  ·subst hik
   rw [hrow] at hr
   injection hr with hr
   subst hr
   simp only [if_true]
   exact h2 j f hf
  ·simp only [if_neg hik]
   obtain ⟨v, hv, hs0⟩ := p3 i j r f (by omega) hr hf
   refine ⟨v, ?_, hs0⟩
   have hj : j < size := by
    rw [← hs r (List.mem_of_getElem? hr)]
    exact (List.getElem?_eq_some_iff.1 hf).1
   rw [h1]
   ·exact hv
   ·calc i * size + j < i * size + size := by omega
     _ = (i + 1) * size := by rw [Nat.add_mul, Nat.one_mul]
     _ ≤ k * size := Nat.mul_le_mul_right _ (by omega)
/-- all rows written: the slice -/
theorem RowsSep.sep {S : Nat → Prop} {A : Option Addr} {n c base : Nat} {e : TypeId} (h : RowsSep w lo hi rows size n xs) (hn : rows.length = n) (hm : n ≤ maxLen) (hs : ∀ r ∈ rows, r.length = size) (ho : w.ownsRow base e size (.slice A n c) n xs)
  (hS : ∀ g, (Value.slice A n c).ownBlock = some g → S g ∧ ¬ (lo ≤ g ∧ g < hi)) (hL : ∀ b, lo ≤ b → b < hi → S b) : Sep w S (.slice A n c) (.sl rows) := by
 obtain ⟨P, p1, p2, p3⟩ := h
 refine .sl S A n c size e rows xs (fun i j => (xs[i * size + j]?).getD undef) P hn hm hs (own_mono ho (Nat.zero_le _)) (fun g hg => (hS g hg).1) (fun i j b hb => ⟨hL b (p1 i j b hb).1 (p1 i j b hb).2, fun hg => (hS b hg).2 (p1 i j b hb)⟩) p2 (fun i j hi hj => ?_) (fun i j r f hr hf => ?_)
 ·have hlt : i * size + j < xs.length := by
   rw [ho.1]
   calc i * size + j < i * size + size := by omega
    _ = (i + 1) * size := by rw [Nat.add_mul, Nat.one_mul]
    _ ≤ n * size := Nat.mul_le_mul_right _ (by omega)
  rw [List.getElem?_eq_getElem hlt]
  rfl
 ·obtain ⟨v, hv, hs0⟩ := p3 i j r f (by rw [← hn]; exact (List.getElem?_eq_some_iff.1 hr).1) hr hf
  rw [hv]
  exact hs0
end

/-! ### sizes -/
/-- the answer of a size that is reckoned down -/
def leftD (left n : Nat) : Int := if n ≤ left then ((left - n : Nat) : Int) else -1
theorem leftD_yes {left n : Nat} (h : n ≤ left) : leftD left n = ((left - n : Nat) : Int) := by rw [leftD, if_pos h]
theorem leftD_no {left n : Nat} (h : ¬ n ≤ left) : leftD left n = -1 := by rw [leftD, if_neg h]

/-! ### marks -/
section
variable {α : Type} (mk : Nat → α → α) (nu : α → Nat)
/-- a list with its numbers replaced by k, k + 1, .. -/
def mkL (k : Nat) : List α → List α
 | [] => []
 | x :: l => mk k x :: mkL (k + nu x) l
def nuL (l : List α) : Nat := (l.map nu).sum
/-- elements and their parts, counted -/
def szL (l : List α) : Nat := l.length + nuL nu l
/-- the first i elements marked -/
def partL (k i : Nat) (l : List α) : List α := mkL mk nu k (l.take i) ++ l.drop i
theorem mkL_len (k : Nat) (l : List α) : (mkL mk nu k l).length = l.length := by
 induction l generalizing k with
 | nil => rfl
 | cons x l ih => simp [mkL, ih]
theorem mkL_app (k : Nat) (a b : List α) : mkL mk nu k (a ++ b) = mkL mk nu k a ++ mkL mk nu (k + nuL nu a) b := by
 induction a generalizing k with
 | nil => simp [mkL, nuL]
 | cons x a ih => simp [mkL, nuL, ih, Nat.add_assoc]
theorem partL_zero (k : Nat) (l : List α) : partL mk nu k 0 l = l := by simp [partL, mkL]
theorem partL_all (k : Nat) (l : List α) {n : Nat} (h : l.length = n) : partL mk nu k n l = mkL mk nu k l := by simp [partL, ← h]
theorem partL_len (k i : Nat) (l : List α) : (partL mk nu k i l).length = l.length := by
 unfold partL
 rw [List.length_append, mkL_len, List.length_take, List.length_drop]
 omega
theorem partL_get {k i : Nat} {l : List α} {x : α} (h : l[i]? = some x) : (partL mk nu k i l)[i]? = some x := by
 have hi := (List.getElem?_eq_some_iff.1 h).1
 unfold partL
 have hlen : (mkL mk nu k (l.take i)).length = i := by rw [mkL_len, List.length_take]; omega
 rw [List.getElem?_append_right (by rw [hlen]; exact Nat.le_refl _), hlen, Nat.sub_self, List.getElem?_drop]
 exact h
theorem partL_succ {k i : Nat} {l : List α} {x : α} (h : l[i]? = some x) : (partL mk nu k i l).set i (mk (k + nuL nu (l.take i)) x) = partL mk nu k (i + 1) l := by
 have hi := (List.getElem?_eq_some_iff.1 h).1
 unfold partL
 have hlen : (mkL mk nu k (l.take i)).length = i := by rw [mkL_len, List.length_take]; omega
 rw [List.set_append_right _ _ (by rw [hlen]; exact Nat.le_refl _), hlen, Nat.sub_self]
 have hd : l.drop i = x :: l.drop (i + 1) := by
  rw [List.drop_eq_getElem_cons hi]
  congr 1
  exact (List.getElem?_eq_some_iff.1 h).2
 rw [hd, List.set_cons_zero, List.take_add_one, h, mkL_app]
 simp [mkL]
theorem nuL_succ {i : Nat} {l : List α} {x : α} (h : l[i]? = some x) : nuL nu (l.take (i + 1)) = nuL nu (l.take i) + nu x := by
 unfold nuL
 rw [List.take_add_one, h]
 simp
theorem nuL_zero {l : List α} (h : ∀ x, nu x = 0) : nuL nu l = 0 := by
 unfold nuL
 induction l with
 | nil => rfl
 | cons x l ih => simp only [List.map_cons, List.sum_cons, ih, h]
theorem nuL_le4 {n s : α → Nat} (h : ∀ x, n x ≤ 4 + 4 * s x) (l : List α) : nuL n l ≤ 4 * szL s l := by
 unfold szL nuL
 induction l with
 | nil => simp
 | cons x l ih =>
  have h1 := h x
  simp only [List.map_cons, List.sum_cons, List.length_cons] at ih ⊢
  omega
theorem szL_eq (l : List α) : szL nu l = l.length + nuL nu l := rfl
theorem mkL_get (k : Nat) {i : Nat} {l : List α} {x : α} (h : l[i]? = some x) : (mkL mk nu k l)[i]? = some (mk (k + nuL nu (l.take i)) x) := by
 induction l generalizing i k with
 | nil => simp at h
 | cons y l ih =>
  cases i with
  | zero => simp at h; subst h; simp [mkL, nuL]
  | succ i =>
   simp only [List.getElem?_cons_succ] at h
   simp only [mkL, List.getElem?_cons_succ]
   rw [ih (k + nu y) h]
   simp [nuL, Nat.add_assoc]
theorem nuL_take (l : List α) : ∀ i, nuL nu (l.take i) ≤ nuL nu l := by
 intro i
 induction l generalizing i with
 | nil => simp
 | cons x l ih =>
  cases i with
  | zero => simp [nuL]
  | succ i => simp only [nuL, List.take_succ_cons, List.map_cons, List.sum_cons] at ih ⊢; have := ih i; omega
theorem nuL_el {l : List α} {x : α} (h : x ∈ l) : nu x ≤ nuL nu l := by
 unfold nuL
 induction l with
 | nil => simp at h
 | cons y l ih =>
  simp only [List.map_cons, List.sum_cons]
  rcases List.mem_cons.1 h with rfl | h
  ·omega
  ·have := ih h; omega
end
/-- a list of numbers of the call's own -/
theorem sep_ints {w : World} {S : Nat → Prop} {base n c : Nat} {e : TypeId} {A : Option Addr} {l : List Int} (hm : n ≤ maxLen) (h : w.ownsRow base e 1 (.slice A n c) n (ints l)) (hS : ∀ g, (Value.slice A n c).ownBlock = some g → S g) : Sep w S (.slice A n c) (fints l) := by
 have hl : l.length = n := by have := h.1; rw [ints_len] at this; omega
 refine .sl S A n c 1 e _ (ints l) (fun i _ => ((ints l)[i]?).getD undef) (fun _ _ _ => False) (by rw [List.length_map]; exact hl) hm (fun r hr => ?_) (own_mono h (Nat.zero_le _)) hS (fun _ _ _ h => h.elim) (fun _ _ _ _ _ h => h.elim) (fun i j hi hj => ?_) (fun i j r f hr hf => ?_)
 ·obtain ⟨x, _, rfl⟩ := List.mem_map.1 hr
  rfl
 ·obtain rfl : j = 0 := by omega
  rw [Nat.mul_one, Nat.add_zero, List.getElem?_eq_getElem (by rw [ints_len]; omega)]
  rfl
 ·rw [List.getElem?_map] at hr
  cases hx : l[i]? with
  | none => rw [hx] at hr; cases hr
  | some x =>
   rw [hx] at hr
   injection hr with hr
   subst hr
   cases j with
   | zero =>
    simp at hf
    subst hf
    rw [ints_get, hx]
    exact .int _ x
   | succ j => simp at hf
theorem slv_of {w : World} {S : Nat → Prop} {v : Value} {rows : List (List Fd)} (h : Rep w S v (.sl rows)) : ∃ A n c, v = .slice A n c := by
 obtain ⟨A, c, rfl, _⟩ := h.sl_val
 exact ⟨_, _, _, rfl⟩
theorem blkS1 {w : World} {g : Nat} {t : TypeId} {a : Value} (h : Blk w g t #[a]) : w.cell? ⟨g, 0, none⟩ = some a := h.cell 0
theorem blkS4 {w : World} {g : Nat} {t : TypeId} {a b c d : Value} (h : Blk w g t #[a, b, c, d]) : w.cell? ⟨g, 0, none⟩ = some a ∧ w.cell? ⟨g, 1, none⟩ = some b ∧ w.cell? ⟨g, 2, none⟩ = some c ∧ w.cell? ⟨g, 3, none⟩ = some d := ⟨h.cell 0, h.cell 1, h.cell 2, h.cell 3⟩
theorem blkS2 {w : World} {g : Nat} {t : TypeId} {a b : Value} (h : Blk w g t #[a, b]) : w.cell? ⟨g, 0, none⟩ = some a ∧ w.cell? ⟨g, 1, none⟩ = some b := ⟨h.cell 0, h.cell 1⟩
end Go.Proofs.YtolndlmhbnpmeaaDoor

/- Words for memory: data that a literal writes. -/
namespace Go.Proofs.YtolndlmhbnpmeaaDoor
open Go.RowKit

section
variable {w : World} {S : Nat → Prop} {g n size : Nat} {t : TypeId} {cs : Array Value}
theorem own_blk (hb : Blk w g t cs) (hm : n ≤ maxLen) (hcs : cs.size = n * size) : w.ownsRow 0 t size (.slice (some ⟨g, 0, none⟩) n n) n cs.toList :=
 ⟨by simpa using hcs, .inr ⟨g, n, cs, rfl, Nat.zero_le _, hb, Nat.le_refl _, hm, hcs, List.take_of_length_le (by rw [Array.length_toList, hcs]; exact Nat.le_refl _)⟩⟩
theorem sep_blk {rows : List (List Fd)} {lo hi : Nat} (hb : Blk w g t cs) (hn : rows.length = n) (hm : n ≤ maxLen) (hcs : cs.size = n * size) (hs : ∀ r ∈ rows, r.length = size) (h : RowsSep w lo hi rows size n cs.toList)
  (hS : S g) (hg : ¬ (lo ≤ g ∧ g < hi)) (hL : ∀ b, lo ≤ b → b < hi → S b) : Sep w S (.slice (some ⟨g, 0, none⟩) n n) (.sl rows) :=
 h.sep hn hm hs (own_blk hb hm hcs) (fun g' hg' => by injection hg' with hg'; subst hg'; exact ⟨hS, hg⟩) hL
/-- .. of structs of numbers -/
theorem sep_flat {α : Type} {enc : α → List Int} (hE : ∀ x, (enc x).length = size) (l : List α) (hb : Blk w g t cs) (hn : l.length = n) (hm : n ≤ maxLen) (hcs : cs.toList = recs enc l) (hS : S g) : Sep w S (.slice (some ⟨g, 0, none⟩) n n) (.sl (l.map (frow enc))) := by
 have hsz : cs.size = n * size := by rw [← Array.length_toList, hcs, recs_len hE, hn]
 refine sep_blk (lo := 0) (hi := 0) (size := size) hb (by rw [List.length_map]; exact hn) hm hsz (fun r hr => ?_) ⟨fun _ _ _ => False, fun _ _ _ h => h.elim, fun _ _ _ _ _ h => h.elim, fun i j r f hi hr hf => ?_⟩ hS (by omega) (fun b h1 h2 => absurd h2 (Nat.not_lt_zero _))
 ·obtain ⟨x, _, rfl⟩ := List.mem_map.1 hr
  rw [frow, List.length_map, hE]
 ·rw [List.getElem?_map] at hr
  cases hx : l[i]? with
  | none => rw [hx] at hr; cases hr
  | some x =>
   rw [hx] at hr
   injection hr with hr
   subst hr
   rw [frow, List.getElem?_map] at hf
   cases hy : (enc x)[j]? with
   | none => rw [hy] at hf; cases hf
   | some y =>
    rw [hy] at hf
    injection hf with hf
    subst hf
    have hj : j < size := by rw [← hE x]; exact (List.getElem?_eq_some_iff.1 hy).1
    exact ⟨_, by rw [hcs, recs_get hE j hj, hx]; simp only [Option.bind_some, hy, Option.map_some], .int _ y⟩
theorem sep_none (w : World) (S : Nat → Prop) : Sep w S (.slice none 0 0) (.sl []) :=
 .sl S none 0 0 0 0 [] [] (fun _ _ => undef) (fun _ _ _ => False) rfl (Nat.zero_le _) (by simp) (World.ownsRow_nil w 0 0 0) (fun g hg => by simp [Value.ownBlock] at hg) (fun _ _ _ h => h.elim) (fun _ _ _ _ _ h => h.elim) (fun _ _ h => absurd h (Nat.not_lt_zero _)) (fun _ _ _ _ h => by simp at h)
end
end Go.Proofs.YtolndlmhbnpmeaaDoor

/- Words for the walks of laws: blocks from a number on, boxes in a class of worlds. -/
namespace Go.Proofs.YtolndlmhbnpmeaaDoor
open Go.RowKit

/-- the blocks from lo on, below hi -/
def Iv (lo hi b : Nat) : Prop := lo ≤ b ∧ b < hi
section
variable {B : Nat} {W0 : World} {g : Nat} {t : TypeId} {a b c d : Value}
theorem bwS1 (h : Blk W0 g t #[a]) (hg : g < B) : ∀ W : Wd (fun w => Below B W0 w), W.val.cell? ⟨g, 0, none⟩ = some a := fun W => (W.ok.cell (p := ⟨g, 0, none⟩) hg).trans (h.cell 0)
theorem bwS2 (h : Blk W0 g t #[a, b]) (hg : g < B) : (∀ W : Wd (fun w => Below B W0 w), W.val.cell? ⟨g, 0, none⟩ = some a) ∧ (∀ W : Wd (fun w => Below B W0 w), W.val.cell? ⟨g, 1, none⟩ = some b) :=
 ⟨fun W => (W.ok.cell (p := ⟨g, 0, none⟩) hg).trans (h.cell 0), fun W => (W.ok.cell (p := ⟨g, 1, none⟩) hg).trans (h.cell 1)⟩
theorem bwS4 (h : Blk W0 g t #[a, b, c, d]) (hg : g < B) :
  (∀ W : Wd (fun w => Below B W0 w), W.val.cell? ⟨g, 0, none⟩ = some a) ∧ (∀ W : Wd (fun w => Below B W0 w), W.val.cell? ⟨g, 1, none⟩ = some b) ∧ (∀ W : Wd (fun w => Below B W0 w), W.val.cell? ⟨g, 2, none⟩ = some c) ∧ (∀ W : Wd (fun w => Below B W0 w), W.val.cell? ⟨g, 3, none⟩ = some d) :=
 ⟨fun W => (W.ok.cell (p := ⟨g, 0, none⟩) hg).trans (h.cell 0), fun W => (W.ok.cell (p := ⟨g, 1, none⟩) hg).trans (h.cell 1), fun W => (W.ok.cell (p := ⟨g, 2, none⟩) hg).trans (h.cell 2), fun W => (W.ok.cell (p := ⟨g, 3, none⟩) hg).trans (h.cell 3)⟩
end
end Go.Proofs.YtolndlmhbnpmeaaDoor

/- Words for memory: an append leaves the slice that it appends to as it reads. -/
namespace Go.Proofs.YtolndlmhbnpmeaaDoor
open Go.RowKit

theorem own_prefix {w : World} {base g n k cap size : Nat} {e : TypeId} {xs ys : List Value} (h : w.ownsRow base e size (.slice (some ⟨g, 0, none⟩) (n + k) cap) (n + k) (xs ++ ys)) (hl : xs.length = n * size) :
  w.ownsRow base e size (.slice (some ⟨g, 0, none⟩) n cap) n xs := by
 refine ⟨hl, ?_⟩
 rcases h.2 with ⟨h', _⟩ | ⟨g', cap', cur, h', hb, hg, hnc, hcm, hcs, ht⟩
 ·simp at h'
 ·simp only [Value.slice.injEq, Option.some.injEq, Addr.mk.injEq, and_true, true_and] at h'
  obtain ⟨rfl, rfl⟩ := h'
  refine .inr ⟨g, cap, cur, rfl, hb, hg, by omega, hcm, hcs, ?_⟩
  have h1 := congrArg (List.take (n * size)) ht
  rw [List.take_take, List.take_left' hl] at h1
  rw [← h1]
  congr 1
  exact (Nat.min_eq_left (Nat.mul_le_mul_right _ (by omega))).symm

section
variable {P : Program} (w : World)
theorem run_append_keep (base : Nat) (t ty e : TypeId) (i : TypeInfo) (z : Value) (size bytes : Nat) (ht : P.underlying t = some (.slice e)) (hi : P.info? e = some i) (hz : i.zero = some z)
  (hsize : i.size = size) (hby : i.bytes = bytes) (hzs : z.cells.size = size) (hsz : 0 < size)
  (v : Value) (n : Nat) (xs : List Value) (hown : w.ownsRow base e size v n xs)
  (a : Addr) (m c : Nat) (news : List Value) (hl : news.length = m * size) (hnews : ∀ j u, news[j]? = some u → w.cell? (a.add j) = some u) (h1 : ∀ u ∈ news, u.oneCell' = true)
  (h63 : n + m ≤ maxLen) (hbytes : (n + m) * bytes ≤ 140737488355328) (hbase : base ≤ w.heap.size) :
  ∃ v' w', (Builtin.append_ #[t, t] ty #[v, .slice (some a) m c]).run P w = .ok v' w' ∧ w'.ownsRow base e size v' (n + m) (xs ++ news) ∧ w.grownBy w' v.ownBlock ∧
   (v'.ownBlock = v.ownBlock ∨ v'.ownBlock = some w.heap.size) ∧ w'.ownsRow base e size v n xs := by
 obtain ⟨v', w', hrun, h2, h3, _, h5⟩ := run_append_own_at (P := P) w base t ty e i z size bytes ht hi hz hsize hby hzs hsz v n xs hown a m c news hl hnews h1 h63 hbytes hbase
 refine ⟨v', w', hrun, h2, h3, h5, ?_⟩
 rcases hown.2 with ⟨rfl, rfl⟩ | ⟨g, cap, cur, rfl, hbg, hg, hnc, hcm, hcs, htake⟩
 ·have hx : xs = [] := List.eq_nil_of_length_eq_zero (by simpa using hown.1)
  subst hx
  exact World.ownsRow_nil _ _ _ _
 ·by_cases hroom : n + m ≤ cap
  ·obtain ⟨w2, hr2, ho2, _⟩ := run_append_fits (P := P) w base t ty e i size ht hi hsize g n cap xs hown a m c news hl hnews h1 hroom
   rw [hrun] at hr2
   injection hr2 with e1 e2
   subst e1 e2
   exact own_prefix ho2 hown.1
  ·subst hsize
   subst hby
   have hsmall : n + m ≤ 9223372036854775807 := by simp only [maxLen] at h63; omega
   have holds : ∀ j u, xs[j]? = some u → w.cell? ((⟨g, 0, none⟩ : Addr).add j) = some u := hown.cells (g := g) rfl
   have hr := run_append_grow (P := P) w t ty e i z ht hi hz ⟨g, 0, none⟩ n cap xs hown.1 holds a m c news hl hnews (by omega) (by omega) (growslice_fits (by omega) hbytes)
   rw [hrun] at hr
   injection hr with e1 e2
   subst e2
   exact (own_drew hown).alloc _

theorem wp_append_keep {o : Oper} {a : Act} {K : Act → World → Prop} {Q : Exit → Act → World → Prop} (s x : Operand) (t : TypeId)
  (ho : o.op = .call { callee := .builtin .append, args := #[s, x], argTypes := #[t, t] })
  (base : Nat) (e : TypeId) (i : TypeInfo) (z : Value) (size bytes : Nat) (ht : P.underlying t = some (.slice e)) (hi : P.info? e = some i) (hz : i.zero = some z)
  (hsize : i.size = size) (hby : i.bytes = bytes) (hzs : z.cells.size = size) (hsz : 0 < size)
  (v : Value) (n : Nat) (xs : List Value) (hs : a.eval s = v) (hown : w.ownsRow base e size v n xs)
  (B : Nat) (A : Option Addr) (m c : Nat) (news : List Value) (hx : a.eval x = .slice A m c) (hr : Reads w B size A m news) (hm : 0 < m) (h1 : ∀ u ∈ news, u.oneCell' = true)
  (h63 : n + m ≤ maxLen) (hbytes : (n + m) * bytes ≤ 140737488355328) (hbase : base ≤ w.heap.size)
  (h : ∀ v' w', w'.ownsRow base e size v' (n + m) (xs ++ news) → w.grownBy w' v.ownBlock → (v'.ownBlock = v.ownBlock ∨ v'.ownBlock = some w.heap.size) → w'.ownsRow base e size v n xs → K (a.put o.dst v') w') : o.wp P a w K Q := by
 obtain ⟨ad, rfl, _, hc⟩ := hr.2 hm
 obtain ⟨v', w', hrun, h2, h3, h4, h5⟩ := run_append_keep (P := P) w base t o.type e i z size bytes ht hi hz hsize hby hzs hsz v n xs hown ad m c news hr.1 hc h1 h63 hbytes hbase
 unfold Oper.wp execOp
 simp only [ho, resolve, invoke, builtin, Sem.run_bind, Sem.run_pure, Result.andThen_ok, List.map_toArray, List.map_cons, List.map_nil, hs, hx, hrun]
 exact h v' w' h2 h3 h4 h5
end
end Go.Proofs.YtolndlmhbnpmeaaDoor

/- Plain: an order in which assignments can be evaluated. -/
import Derived.Test.YtlgbdpcobbbglaaModE
import Derived.Test.YtlgbdpcobbbglaaEv
namespace Go.Proofs.Ytlgbdpcobbbglaa
open Go.RowKit

/-! ### what a valid module without instances is -/
def okE (m : TModule) : Bool := decide (m.2.2.1.length = 0) && designB [m]
theorem okE_iff {m : TModule} : okE m = true ↔ m.2.2.1 = [] ∧ cntOk1 m = true ∧ m.1.all sigB = true ∧ m.2.1.all (asgB m.1) = true ∧ m.2.2.2.all (memB m.1) = true ∧ drvsB [m] m = true := by
 have hmd : md [m] 0 = m := rfl
 unfold okE designB
 simp only [List.length_cons, List.length_nil, Nat.zero_add, List.range_one, List.all_cons, List.all_nil, Bool.and_true, Bool.and_eq_true, decide_eq_true_eq]
 unfold moduleB l04C countsB instsB modB
 rw [show ((0 : Nat) : Int) = 0 from rfl]
 simp only [hmd, List.length_cons, List.length_nil, List.all_cons, List.all_nil, Bool.and_true, Bool.and_eq_true, decide_eq_true_eq]
 constructor
 ·rintro ⟨h0, h1, ⟨h2, ⟨h3, h4⟩, h5⟩, h6, h7, h8, h9, h10⟩
  exact ⟨List.eq_nil_of_length_eq_zero h0, h4, h6, h7, h9, h10⟩
 ·rintro ⟨h0, h4, h6, h7, h9, h10⟩
  rw [h0]
  exact ⟨rfl, by decide, ⟨by decide, ⟨by decide, h4⟩, rfl⟩, h6, h7, rfl, h9, h10⟩
theorem asgB_iff {sg : List TSignal} {a : TAssign} : asgB sg a = true ↔ inR a.1 0 (sg.length - 1) = true ∧ drivenB (kindAt sg a.1) = true ∧ opsB a.2 sg.length = true := by
 unfold asgB
 simp only [Bool.and_eq_true]
theorem two_mem_countP {α : Type} {p : α → Bool} : ∀ {l : List α} {i j : Nat} {x y : α}, l[i]? = some x → l[j]? = some y → i < j → p x = true → p y = true → 2 ≤ l.countP p
 | [], i, _, _, _, h, _, _, _, _ => by simp at h
 | z :: l, 0, 0, _, _, _, _, h, _, _ => absurd h (Nat.lt_irrefl _)
 | z :: l, 0, j + 1, x, y, h1, h2, _, h3, h4 => by
  simp only [List.getElem?_cons_zero, Option.some.injEq] at h1
  subst h1
  rw [List.countP_cons_of_pos h3]
  have : 0 < l.countP p := List.countP_pos_iff.2 ⟨y, List.mem_of_getElem? (by simpa using h2), h4⟩
  omega
 | z :: l, i + 1, 0, _, _, _, _, h, _, _ => absurd h (Nat.not_lt_zero _)
 | z :: l, i + 1, j + 1, x, y, h1, h2, h, h3, h4 => by
  have ih := two_mem_countP (l := l) (i := i) (j := j) (by simpa using h1) (by simpa using h2) (by omega) h3 h4
  rw [List.countP_cons]
  omega
/-- two assignments of a valid module have two targets -/
theorem tgt_one {m : TModule} (h : okE m = true) {i j : Nat} {a b : TAssign} (hi : m.2.1[i]? = some a) (hj : m.2.1[j]? = some b) (he : a.1 = b.1) : i = j := by
 obtain ⟨_, _, _, hA, _, hD⟩ := okE_iff.1 h
 obtain ⟨h1, h2, _⟩ := asgB_iff.1 (List.all_eq_true.1 hA _ (List.mem_of_getElem? hi))
 obtain ⟨h3, h4⟩ := inR_iff.1 h1
 obtain ⟨s, hs⟩ := Int.eq_ofNat_of_zero_le h3
 have hsl : s < m.1.length := by omega
 have hd := List.all_eq_true.1 hD s (List.mem_range.2 hsl)
 unfold drvB1 at hd
 rw [← hs, h2] at hd
 simp only [Bool.not_true, Bool.false_or, decide_eq_true_eq] at hd
 unfold drvN at hd
 rcases Nat.lt_trichotomy i j with hij | hij | hij
 ·have := two_mem_countP (p := fun a => decide (a.1 = (s : Int))) hi hj hij (by simpa using hs) (by simp; omega)
  unfold asgN at hd; omega
 ·exact hij
 ·have := two_mem_countP (p := fun a => decide (a.1 = (s : Int))) hj hi hij (by simp; omega) (by simpa using hs)
  unfold asgN at hd; omega

/-! ### the order -/
def rdB (os : List TOp) (s : Int) : Bool := os.any fun o => decide ((o.1 = 2 ∨ o.1 = 3) ∧ o.2.1 = s)
def asgA (m : TModule) (i : Nat) : TAssign := m.2.1.getD i (0, [])
def freeB (m : TModule) (todo : List Nat) (i : Nat) : Bool := todo.all fun j => !rdB (asgA m i).2 (asgA m j).1
theorem asgA_get {m : TModule} {i : Nat} {a : TAssign} (h : m.2.1[i]? = some a) : asgA m i = a := by simp [asgA, h]
def evo (m : TModule) : Nat → List Nat → List Nat → Option (List Nat)
 | 0, _, out => some out
 | f + 1, todo, out => match todo.findIdx? (freeB m todo) with
  | none => none
  | some k => evo m f (todo.eraseIdx k) (out ++ [todo.getD k 0])
def idxN {α : Type} (p : α → Bool) (l : List α) : List Nat := (l.zipIdx.filter fun x => p x.1).map fun x => x.2
theorem idxN_succ {α : Type} {p : α → Bool} {l : List α} {k : Nat} {x : α} (h : l[k]? = some x) : idxN p (l.take (k + 1)) = idxN p (l.take k) ++ (if p x then [k] else []) := by
 have hk := (List.getElem?_eq_some_iff.1 h).1
 unfold idxN
 rw [List.take_add_one, h, List.zipIdx_append, List.filter_append, List.map_append, List.length_take]
 have : min k l.length = k := by omega
 rw [this]
 cases hp : p x <;> simp [hp]
theorem idxN_len {α : Type} {p : α → Bool} (l : List α) : (idxN p l).length ≤ l.length := by
 unfold idxN
 rw [List.length_map]
 exact Nat.le_trans (List.length_filter_le _ _) (by simp)
theorem idxN_mem {α : Type} {p : α → Bool} {l : List α} {i : Nat} : i ∈ idxN p l ↔ ∃ x, l[i]? = some x ∧ p x = true := by
 unfold idxN
 simp only [List.mem_map, List.mem_filter]
 constructor
 ·rintro ⟨⟨a, j⟩, ⟨h1, h2⟩, rfl⟩
  exact ⟨a, List.mem_zipIdx_iff_getElem?.1 h1, h2⟩
 ·rintro ⟨x, h1, h2⟩
  exact ⟨(x, i), ⟨List.mem_zipIdx_iff_getElem?.2 h1, h2⟩, rfl⟩
theorem idxN_sorted {α : Type} (p : α → Bool) (l : List α) : (idxN p l).Pairwise (· < ·) := by
 have h : ∀ k, k ≤ l.length → (idxN p (l.take k)).Pairwise (· < ·) := by
  intro k
  induction k with
  | zero => intro _; simp [idxN]
  | succ k ih =>
   intro hk
   have hx : l[k]? = some l[k] := List.getElem?_eq_getElem (by omega)
   rw [idxN_succ hx]
   refine List.pairwise_append.2 ⟨ih (by omega), ?_, ?_⟩
   ·split <;> simp
   ·intro a ha b hb
    obtain ⟨x, h1, _⟩ := idxN_mem.1 ha
    have h2 := (List.getElem?_eq_some_iff.1 h1).1
    rw [List.length_take] at h2
    split at hb
    ·simp at hb; omega
    ·simp at hb
 have := h l.length (Nat.le_refl _)
 rwa [List.take_length] at this
def tdP (m : TModule) (a : TAssign) : Bool := !decide (kindAt m.1 a.1 = 3)
def todo0 (m : TModule) : List Nat := idxN (tdP m) m.2.1
def evoM (m : TModule) : Option (List Nat) := evo m (todo0 m).length (todo0 m) []
def ordB (m : TModule) : Bool := okE m && (evoM m).isSome
def ordN (m : TModule) : List Nat := if okE m then (evoM m).getD [] else []
def ordL (m : TModule) : List Int := nI (ordN m)
theorem evo_len {m : TModule} : ∀ {f : Nat} {todo out r : List Nat}, evo m f todo out = some r → r.length = out.length + f
 | 0, _, out, r, h => by simp only [evo, Option.some.injEq] at h; subst h; rfl
 | f + 1, todo, out, r, h => by
  rw [evo] at h
  split at h
  ·cases h
  ·have := evo_len h
   rw [List.length_append] at this
   simp at this
   omega
theorem todo0_len (m : TModule) : (todo0 m).length ≤ m.2.1.length := idxN_len _
theorem okE_na {m : TModule} (h : okE m = true) : m.1.length ≤ 30 ∧ m.2.1.length ≤ 30 ∧ m.2.2.2.length ≤ 2 := by
 obtain ⟨_, h1, _⟩ := okE_iff.1 h
 have := cntOk1_iff.1 h1
 omega
theorem ordN_len (m : TModule) : (ordN m).length ≤ 30 := by
 unfold ordN
 split
 ·rename_i h
  have h1 := okE_na h
  have h2 := todo0_len m
  cases he : evoM m with
  | none => simp
  | some r =>
   have := evo_len he
   simp at this ⊢
   omega
 ·simp
theorem ordL_sz (m : TModule) : szL sInt (ordL m) ≤ 1048576 := by rw [szI]; unfold ordL; rw [nI_len]; have := ordN_len m; omega

/-- the state between two steps -/
structure EvoI (m : TModule) (todo out : List Nat) : Prop where
 len : out.length + todo.length ≤ 30
 mem : ∀ i ∈ todo, ∃ a, m.2.1[i]? = some a
 srt : todo.Pairwise (· < ·)
 omem : ∀ i ∈ out, i < m.2.1.length
 res : evo m todo.length todo out = evoM m
theorem EvoI.start {m : TModule} (h : okE m = true) : EvoI m (todo0 m) [] where
 len := by have h1 := okE_na h; have h2 := todo0_len m; simp; omega
 mem := fun i hi => by obtain ⟨a, h1, _⟩ := idxN_mem.1 hi; exact ⟨a, h1⟩
 srt := idxN_sorted _ _
 omem := fun i hi => by simp at hi
 res := rfl
theorem find_at {p : Nat → Bool} {l : List Nat} {k x : Nat} (h : (l.take k).all (fun i => !p i) = true) (hx : l[k]? = some x) (hp : p x = true) : l.findIdx? p = some k := by
 obtain ⟨hk, he⟩ := List.getElem?_eq_some_iff.1 hx
 rw [List.findIdx?_eq_some_iff_getElem]
 refine ⟨hk, by rw [he]; exact hp, fun j hj => ?_⟩
 have h1 : l[j] ∈ l.take k := List.mem_take_iff_getElem.2 ⟨j, by omega, rfl⟩
 have h2 := List.all_eq_true.1 h _ h1
 simpa using h2
theorem find_none {p : Nat → Bool} {l : List Nat} (h : l.all (fun i => !p i) = true) : l.findIdx? p = none := by
 rw [List.findIdx?_eq_none_iff]
 intro x hx
 have := List.all_eq_true.1 h x hx
 simpa using this
theorem EvoI.step {m : TModule} {todo out : List Nat} {k x : Nat} (h : EvoI m todo out) (hf : todo.findIdx? (freeB m todo) = some k) (hx : todo[k]? = some x) : EvoI m (todo.eraseIdx k) (out ++ [x]) := by
 have hk := (List.getElem?_eq_some_iff.1 hx).1
 have hlen : (todo.eraseIdx k).length + 1 = todo.length := by rw [List.length_eraseIdx, if_pos hk]; omega
 refine ⟨?_, fun i hi => h.mem i (List.mem_of_mem_eraseIdx hi), h.srt.sublist (List.eraseIdx_sublist _ _), fun i hi => ?_, ?_⟩
 ·have := h.len
  rw [List.length_append]
  simp only [List.length_cons, List.length_nil]
  omega
 ·rcases List.mem_append.1 hi with hi | hi
  ·exact h.omem i hi
  ·simp at hi
   subst hi
   obtain ⟨a, ha⟩ := h.mem _ (List.mem_of_getElem? hx)
   exact (List.getElem?_eq_some_iff.1 ha).1
 ·have hr := h.res
  rw [← hlen, evo, hf] at hr
  simp only at hr
  rw [show todo.getD k 0 = x by simp [hx]] at hr
  exact hr
theorem EvoI.stop {m : TModule} {out : List Nat} (h : EvoI m [] out) : evoM m = some out := by
 have := h.res
 simp only [List.length_nil, evo] at this
 exact this.symm
theorem EvoI.fail {m : TModule} {todo out : List Nat} (h : EvoI m todo out) (h0 : 0 < todo.length) (hf : todo.findIdx? (freeB m todo) = none) : evoM m = none := by
 have := h.res
 obtain ⟨n, hn⟩ : ∃ n, todo.length = n + 1 := ⟨todo.length - 1, by omega⟩
 rw [hn, evo, hf] at this
 exact this.symm

/-! ### the signals that are still to be evaluated -/
def opnB (m : TModule) (todo : List Nat) (s : Nat) : Bool := todo.any fun j => decide ((asgA m j).1 = (s : Int))
/-- an expression reads a signal with f -/
def waitsB' (f : Nat → Bool) (os : List TOp) : Bool := os.any fun o => decide (o.1 = 2 ∨ o.1 = 3) && f o.2.1.toNat
theorem opn_mem {m : TModule} (h : okE m = true) {todo : List Nat} (hm : ∀ i ∈ todo, ∃ a, m.2.1[i]? = some a) {i : Nat} {a : TAssign} {s : Nat} (hi : m.2.1[i]? = some a) (hs : a.1 = (s : Int)) : opnB m todo s = decide (i ∈ todo) := by
 unfold opnB
 rw [Bool.eq_iff_iff, List.any_eq_true, decide_eq_true_eq]
 constructor
 ·rintro ⟨j, hj, he⟩
  obtain ⟨b, hb⟩ := hm j hj
  rw [asgA_get hb, decide_eq_true_eq] at he
  rwa [tgt_one h hi hb (by rw [hs, he])]
 ·intro hmem
  exact ⟨i, hmem, by rw [asgA_get hi, hs]; simp⟩
theorem waits_free {m : TModule} (h : okE m = true) {todo : List Nat} (_hm : ∀ i ∈ todo, ∃ a, m.2.1[i]? = some a) {i : Nat} {a : TAssign} (hi : m.2.1[i]? = some a) : waitsB' (opnB m todo) a.2 = !freeB m todo i := by
 obtain ⟨_, _, _, hA, _, _⟩ := okE_iff.1 h
 obtain ⟨_, _, ho⟩ := asgB_iff.1 (List.all_eq_true.1 hA _ (List.mem_of_getElem? hi))
 have hsg := opsB_sig ho
 unfold waitsB' freeB
 rw [asgA_get hi, ← List.any_eq_not_all_not, Bool.eq_iff_iff, List.any_eq_true, List.any_eq_true]
 constructor
 ·rintro ⟨o, ho1, ho2⟩
  rw [Bool.and_eq_true, decide_eq_true_eq] at ho2
  obtain ⟨hk, hop⟩ := ho2
  unfold opnB at hop
  obtain ⟨j, hj, he⟩ := List.any_eq_true.1 hop
  rw [decide_eq_true_eq] at he
  have := hsg o ho1 hk
  refine ⟨j, hj, ?_⟩
  unfold rdB
  rw [List.any_eq_true]
  exact ⟨o, ho1, by rw [decide_eq_true_eq]; exact ⟨hk, by omega⟩⟩
 ·rintro ⟨j, hj, he⟩
  unfold rdB at he
  obtain ⟨o, ho1, ho2⟩ := List.any_eq_true.1 he
  rw [decide_eq_true_eq] at ho2
  have := hsg o ho1 ho2.1
  refine ⟨o, ho1, ?_⟩
  rw [Bool.and_eq_true, decide_eq_true_eq]
  refine ⟨ho2.1, ?_⟩
  unfold opnB
  rw [List.any_eq_true]
  exact ⟨j, hj, by rw [decide_eq_true_eq]; omega⟩
theorem opn_erase {m : TModule} (h : okE m = true) {todo : List Nat} (hm : ∀ i ∈ todo, ∃ a, m.2.1[i]? = some a) (hs : todo.Pairwise (· < ·)) {k i : Nat} {a : TAssign} (hk : todo[k]? = some i) (hi : m.2.1[i]? = some a) (s : Nat) :
  opnB m (todo.eraseIdx k) s = if a.1 = (s : Int) then false else opnB m todo s := by
 have hk1 := (List.getElem?_eq_some_iff.1 hk).1
 have hmem : ∀ j, j ∈ todo.eraseIdx k ↔ j ∈ todo ∧ j ≠ i := by
  intro j
  have hnd : todo.Nodup := hs.imp (fun h => Nat.ne_of_lt h)
  rw [List.mem_eraseIdx_iff_getElem?]
  constructor
  ·rintro ⟨q, hq, hj⟩
   refine ⟨List.mem_of_getElem? hj, ?_⟩
   rintro rfl
   obtain ⟨a1, b1⟩ := List.getElem?_eq_some_iff.1 hj
   obtain ⟨a2, b2⟩ := List.getElem?_eq_some_iff.1 hk
   exact hq ((List.getElem_inj hnd).1 (b1.trans b2.symm))
  ·rintro ⟨h1, h2⟩
   obtain ⟨q, hq⟩ := List.mem_iff_getElem?.1 h1
   refine ⟨q, ?_, hq⟩
   rintro rfl
   rw [hk] at hq
   injection hq with hq
   exact h2 hq.symm
 unfold opnB
 split
 ·rename_i he
  rw [List.any_eq_false]
  intro j hj
  obtain ⟨h1, h2⟩ := (hmem j).1 hj
  obtain ⟨b, hb⟩ := hm j h1
  rw [asgA_get hb, decide_eq_true_eq]
  intro hc
  exact h2 (tgt_one h hb hi (by rw [hc, he]))
 ·rename_i he
  rw [Bool.eq_iff_iff, List.any_eq_true, List.any_eq_true]
  constructor
  ·rintro ⟨j, hj, hc⟩
   exact ⟨j, ((hmem j).1 hj).1, hc⟩
  ·rintro ⟨j, hj, hc⟩
   refine ⟨j, (hmem j).2 ⟨hj, ?_⟩, hc⟩
   rintro rfl
   rw [asgA_get hi, decide_eq_true_eq] at hc
   exact he hc
/-- the first index of all that waits no more is the first of the list -/
theorem find_first {p : Nat → Bool} {l : List Nat} (hs : l.Pairwise (· < ·)) {i : Nat} (hi : i ∈ l) (hp : p i = true) (hb : ∀ j, j < i → j ∈ l → p j = false) : ∃ k, l.findIdx? p = some k ∧ l[k]? = some i := by
 obtain ⟨k, hk⟩ := List.mem_iff_getElem?.1 hi
 obtain ⟨h1, h2⟩ := List.getElem?_eq_some_iff.1 hk
 refine ⟨k, ?_, hk⟩
 rw [List.findIdx?_eq_some_iff_getElem]
 refine ⟨h1, by rw [h2]; exact hp, fun j hj => ?_⟩
 have h3 := List.pairwise_iff_getElem.1 hs j k (by omega) h1 hj
 rw [h2] at h3
 have := hb l[j] h3 (List.getElem_mem _)
 simp [this]
end Go.Proofs.Ytlgbdpcobbbglaa

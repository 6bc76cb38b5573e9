/- Plain: a module that is drawn part by part stays valid so far; a design of such modules is valid. -/
import Derived.Test.YtolndlmhbnpmeaaDoorModE
import Derived.Test.YtolndlmhbnpmeaaDoorPfxP
import Derived.Test.YtolndlmhbnpmeaaDoorFmq
import Derived.Outline
namespace Go.Proofs.YtolndlmhbnpmeaaDoor
open Go.RowKit

theorem opB_up {k a b : Int} {n n' : Int} (h : opB k a b n = true) (hn : n ≤ n') : opB k a b n' = true := by
 unfold opB at h ⊢
 by_cases h0 : k = 0
 ·rw [if_pos h0] at h ⊢; exact h
 ·rw [if_neg h0] at h ⊢
  by_cases h2 : k = 2
  ·rw [if_pos h2] at h ⊢; simp at h ⊢; omega
  ·rw [if_neg h2] at h ⊢
   by_cases h3 : k = 3
   ·rw [if_pos h3] at h ⊢; simp at h ⊢; exact ⟨by omega, h.2⟩
   ·rw [if_neg h3] at h ⊢; exact h
theorem opsB_up {os : List TOp} {n n' : Int} (h : opsB os n = true) (hn : n ≤ n') : opsB os n' = true := by
 rw [opsB_iff] at h ⊢
 exact ⟨h.1, fun j o ho => ⟨(h.2.1 j o ho).1, opB_up (h.2.1 j o ho).2 hn⟩, h.2.2⟩
section
variable {sg : List TSignal} {x : TSignal}
theorem kindAt_old {s : Int} (h1 : s < sg.length) (h0 : 0 ≤ s) : kindAt (sg ++ [x]) s = kindAt sg s := by
 unfold kindAt
 rw [List.getD_eq_getElem?_getD, List.getD_eq_getElem?_getD, List.getElem?_append_left (by omega)]
theorem kindAt_new : kindAt (sg ++ [x]) (sg.length : Nat) = x.1 := by
 unfold kindAt
 rw [List.getD_eq_getElem?_getD, Int.toNat_natCast, List.getElem?_append_right (Nat.le_refl _), Nat.sub_self]
 rfl
theorem inR_up {s : Int} (h : inR s 0 ((sg.length : Int) - 1) = true) : inR s 0 (((sg ++ [x]).length : Int) - 1) = true := by
 rw [inR_iff] at h ⊢
 rw [List.length_append, List.length_singleton]
 omega
theorem asgB_up {a : TAssign} (h : asgB sg a = true) : asgB (sg ++ [x]) a = true := by
 unfold asgB at h ⊢
 simp only [Bool.and_eq_true] at h ⊢
 obtain ⟨h1, h2, h3⟩ := h
 have h4 := inR_iff.1 h1
 refine ⟨inR_up h1, ?_, opsB_up h3 (by rw [List.length_append]; omega)⟩
 rw [kindAt_old (by omega) h4.1]
 exact h2
theorem drivesB_up {s : Int} (h : drivesB sg s = true) : drivesB (sg ++ [x]) s = true := by
 unfold drivesB at h ⊢
 simp only [Bool.and_eq_true] at h ⊢
 have h4 := inR_iff.1 h.1
 refine ⟨inR_up h.1, ?_⟩
 rw [kindAt_old (by omega) h4.1]
 exact h.2
theorem memB_up {y : TMem} (h : memB sg y = true) : memB (sg ++ [x]) y = true := by
 unfold memB at h ⊢
 simp only [Bool.and_eq_true] at h ⊢
 exact ⟨inR_up h.1, inR_up h.2.1, inR_up h.2.2.1, drivesB_up h.2.2.2⟩
theorem ptB_up {sg' : List TSignal} {y : Int × Int} (h : ptB sg sg' y = true) : ptB (sg ++ [x]) sg' y = true := by
 unfold ptB at h ⊢
 simp only [Bool.and_eq_true, Bool.or_eq_true] at h ⊢
 exact ⟨inR_up h.1, h.2.imp id drivesB_up⟩
end
/-- valid so far; the signals of which P holds are not driven yet -/
structure GdM (d : TDesign) (m : TModule) (P : Nat → Prop) : Prop where
 sig : ∀ x ∈ m.1, sigB x = true
 asg : ∀ a ∈ m.2.1, asgB m.1 a = true
 ins : ∀ x ∈ m.2.2.1, (0 ≤ x.1 ∧ x.1 < d.length) ∧ x.2.2.length = (portsM (md d x.1)).length ∧ instB d m x = true
 mem : ∀ x ∈ m.2.2.2, memB m.1 x = true
 one : ∀ s : Nat, s < m.1.length → kindAt m.1 s ≠ 0 → ¬ P s → drvN d m s = 1
 zero : ∀ s : Nat, (s < m.1.length → kindAt m.1 s ≠ 0 → P s) → drvN d m s = 0
 pend : ∀ s : Nat, P s → s < m.1.length ∧ kindAt m.1 s ≠ 0
section
variable {d : TDesign} {m : TModule} {P P' : Nat → Prop}
theorem GdM.nil (d : TDesign) : GdM d ([], [], [], []) (fun _ => False) :=
 ⟨fun _ h => by simp at h, fun _ h => by simp at h, fun _ h => by simp at h, fun _ h => by simp at h, fun _ h => by simp at h, fun _ _ => rfl, fun _ h => h.elim⟩
theorem GdM.same (h : GdM d m P) (hp : ∀ s, P s ↔ P' s) : GdM d m P' :=
 ⟨h.sig, h.asg, h.ins, h.mem, fun s h1 h2 h3 => h.one s h1 h2 (fun h4 => h3 ((hp s).1 h4)), fun s h1 => h.zero s (fun h2 h3 => (hp s).2 (h1 h2 h3)), fun s h1 => h.pend s ((hp s).2 h1)⟩
/-- a signal more -/
theorem GdM.push (h : GdM d m P) {x : TSignal} (hx : sigB x = true) (hP : ∀ s, P' s ↔ P s ∨ (s = m.1.length ∧ x.1 ≠ 0)) : GdM d (m.1 ++ [x], m.2) P' := by
 have hk : ∀ s : Nat, s < m.1.length → kindAt (m.1 ++ [x]) s = kindAt m.1 s := fun s hs => kindAt_old (by omega) (by omega)
 have hn : kindAt (m.1 ++ [x]) (m.1.length : Nat) = x.1 := kindAt_new
 have hl : (m.1 ++ [x]).length = m.1.length + 1 := by simp
 refine ⟨fun y hy => ?_, fun a ha => asgB_up (h.asg a ha), fun y hy => ?_, fun y hy => memB_up (h.mem y hy), fun s h1 h2 h3 => ?_, fun s h1 => ?_, fun s h1 => ?_⟩
 ·rcases List.mem_append.1 hy with hy | hy
  ·exact h.sig y hy
  ·rw [List.mem_singleton.1 hy]; exact hx
 ·obtain ⟨h1, h2, h3⟩ := h.ins y hy
  refine ⟨h1, h2, ?_⟩
  unfold instB at h3 ⊢
  rw [Bool.and_eq_true] at h3 ⊢
  exact ⟨h3.1, List.all_eq_true.2 fun z hz => ptB_up (List.all_eq_true.1 h3.2 z hz)⟩
 ·show drvN d m s = 1
  rw [hl] at h1
  by_cases hs : s < m.1.length
  ·rw [hk s hs] at h2
   exact h.one s hs h2 (fun h4 => h3 ((hP s).2 (.inl h4)))
  ·obtain rfl : s = m.1.length := by omega
   rw [hn] at h2
   exact absurd ((hP _).2 (.inr ⟨rfl, h2⟩)) h3
 ·show drvN d m s = 0
  refine h.zero s (fun h2 h3 => ?_)
  rcases (hP s).1 (h1 (by rw [hl]; omega) (by rw [hk s h2]; exact h3)) with h4 | h4
  ·exact h4
  ·omega
 ·rw [hl]
  rcases (hP s).1 h1 with h2 | ⟨rfl, h2⟩
  ·have h3 := h.pend s h2
   exact ⟨by omega, by rw [hk s h3.1]; exact h3.2⟩
  ·exact ⟨by omega, by rw [hn]; exact h2⟩
/-- wires more -/
theorem GdM.wires (h : GdM d m P) (L : List TSignal) (hL : ∀ x ∈ L, x.1 = 2 ∧ sigB x = true) : GdM d (m.1 ++ L, m.2) (fun s => P s ∨ (m.1.length ≤ s ∧ s < m.1.length + L.length)) := by
 induction L using Tx.snoc_ind with
 | nil =>
  rw [List.append_nil]
  exact h.same (fun s => ⟨.inl, fun h => h.elim id (fun h => by simp at h; omega)⟩)
 | snoc L x ih =>
  have h1 := ih (fun y hy => hL y (by simp [hy]))
  have h2 := hL x (by simp)
  rw [← List.append_assoc]
  refine h1.push h2.2 (fun s => ?_)
  simp only [List.length_append, List.length_singleton]
  rw [h2.1]
  constructor
  ·rintro (h | h)
   ·exact .inl (.inl h)
   ·by_cases e : s < m.1.length + L.length
    ·exact .inl (.inr ⟨h.1, e⟩)
    ·exact .inr ⟨by omega, by decide⟩
  ·rintro ((h | h) | ⟨h, _⟩)
   ·exact .inl h
   ·exact .inr ⟨h.1, by omega⟩
   ·exact .inr ⟨by omega, by omega⟩
theorem asgN_snoc (l : List TAssign) (s : Int) (os : List TOp) (t : Nat) : asgN (l ++ [(s, os)]) t = asgN l t + if s = (t : Int) then 1 else 0 := by
 unfold asgN
 rw [List.countP_append]
 simp [List.countP_cons]
theorem kind_drv {k : Int} {x : TSignal} (hx : sigB x = true) (hk : x.1 = k) (h0 : k ≠ 0) : drivenB k = true := by
 simp only [sigB, Bool.and_eq_true] at hx
 have := inR_iff.1 hx.1
 exact drivenB_pos (by omega) h0
theorem GdM.kind (h : GdM d m P) {s : Nat} (hs : s < m.1.length) (h0 : kindAt m.1 s ≠ 0) : drivenB (kindAt m.1 s) = true := by
 have e : kindAt m.1 s = (m.1[s]).1 := by simp [kindAt, List.getElem?_eq_getElem hs]
 exact kind_drv (h.sig _ (List.getElem_mem hs)) e.symm h0
/-- an assignment more -/
theorem GdM.assign (h : GdM d m P) {s : Nat} {os : List TOp} (hs : P s) (ho : opsB os m.1.length = true) (hP : ∀ t, P' t ↔ P t ∧ t ≠ s) : GdM d (m.1, m.2.1 ++ [((s : Int), os)], m.2.2) P' := by
 obtain ⟨h1, h2⟩ := h.pend s hs
 have hd : ∀ t, drvN d (m.1, m.2.1 ++ [((s : Int), os)], m.2.2) t = drvN d m t + if s = t then 1 else 0 := fun t => by
  unfold drvN
  rw [asgN_snoc]
  by_cases e : s = t
  ·simp [e]; omega
  ·have e2 : ¬ (s : Int) = (t : Int) := by omega
   simp [e, e2]
 refine ⟨h.sig, fun a ha => ?_, h.ins, h.mem, fun t k1 k2 k3 => ?_, fun t k1 => ?_, fun t k1 => h.pend t ((hP t).1 k1).1⟩
 ·rcases List.mem_append.1 ha with ha | ha
  ·exact h.asg a ha
  ·rw [List.mem_singleton.1 ha]
   unfold asgB
   simp only [Bool.and_eq_true]
   exact ⟨inR_iff.2 ⟨by omega, by omega⟩, h.kind h1 h2, ho⟩
 ·rw [hd]
  by_cases e : s = t
  ·subst e
   rw [h.zero s (fun _ _ => hs)]
   simp
  ·rw [if_neg e, h.one t k1 k2 (fun k4 => k3 ((hP t).2 ⟨k4, fun e2 => e e2.symm⟩))]
 ·rw [hd]
  by_cases e : s = t
  ·subst e
   have := (hP s).1 (k1 h1 h2)
   exact absurd rfl this.2
  ·rw [if_neg e, h.zero t (fun k4 k5 => ((hP t).1 (k1 k4 k5)).1)]
/-- a memory more -/
theorem GdM.memory (h : GdM d m P) {a b c e : Nat} (hl : a < m.1.length ∧ b < m.1.length ∧ c < m.1.length) (hs : P e) (hk : kindAt m.1 e = 2) (hP : ∀ t, P' t ↔ P t ∧ t ≠ e) : GdM d (m.1, m.2.1, m.2.2.1, m.2.2.2 ++ [((a : Int), (b : Int), (c : Int), (e : Int))]) P' := by
 obtain ⟨h1, h2⟩ := h.pend e hs
 have hd : ∀ t, drvN d (m.1, m.2.1, m.2.2.1, m.2.2.2 ++ [((a : Int), (b : Int), (c : Int), (e : Int))]) t = drvN d m t + if e = t then 1 else 0 := fun t => by
  unfold drvN memN
  rw [List.countP_append]
  by_cases q : e = t
  ·simp [q]; omega
  ·have e2 : ¬ (e : Int) = (t : Int) := by omega
   simp [q, e2]
 refine ⟨h.sig, h.asg, h.ins, fun x hx => ?_, fun t k1 k2 k3 => ?_, fun t k1 => ?_, fun t k1 => h.pend t ((hP t).1 k1).1⟩
 ·rcases List.mem_append.1 hx with hx | hx
  ·exact h.mem x hx
  ·rw [List.mem_singleton.1 hx]
   unfold memB drivesB
   simp only [Bool.and_eq_true, decide_eq_true_eq]
   exact ⟨inR_iff.2 ⟨by omega, by omega⟩, inR_iff.2 ⟨by omega, by omega⟩, inR_iff.2 ⟨by omega, by omega⟩, inR_iff.2 ⟨by omega, by omega⟩, .inr hk⟩
 ·rw [hd]
  by_cases q : e = t
  ·subst q
   rw [h.zero e (fun _ _ => hs)]
   simp
  ·rw [if_neg q, h.one t k1 k2 (fun k4 => k3 ((hP t).2 ⟨k4, fun e2 => q e2.symm⟩))]
 ·rw [hd]
  by_cases q : e = t
  ·subst q
   have := (hP e).1 (k1 h1 h2)
   exact absurd rfl this.2
  ·rw [if_neg q, h.zero t (fun k4 k5 => ((hP t).1 (k1 k4 k5)).1)]
/-- port j of the child is an output -/
def outP (sg : List TSignal) (ps : List Int) (j : Nat) : Prop := ∃ p, ps[j]? = some p ∧ kindAt sg p = 1
/-- the numbers from b on -/
def fromN (b n : Nat) : List Int := (List.range n).map fun j => ((b + j : Nat) : Int)
theorem fromN_len (b n : Nat) : (fromN b n).length = n := by simp [fromN]
theorem fromN_succ (b n : Nat) : fromN b (n + 1) = fromN b n ++ [((b + n : Nat) : Int)] := by
 unfold fromN
 rw [List.range_succ, List.map_append]
 rfl
theorem fromN_get {b n j : Nat} {x : Int} (h : (fromN b n)[j]? = some x) : x = ((b + j : Nat) : Int) ∧ j < n := by
 have hj : j < n := by have := (List.getElem?_eq_some_iff.1 h).1; rw [fromN_len] at this; exact this
 unfold fromN at h
 rw [List.getElem?_map, List.getElem?_range hj] at h
 injection h with h
 exact ⟨h.symm, hj⟩
theorem zip_snoc {α β : Type} (a : List α) (b : List β) (x : α) (y : β) (h : a.length = b.length) : (a ++ [x]).zip (b ++ [y]) = a.zip b ++ [(x, y)] := List.zip_append h
/-- how often port j's signal is driven by the instance -/
theorem port_cnt (sg : List TSignal) (b : Nat) : ∀ (ps : List Int) (s : Nat), (portN sg (ps.zip (fromN b ps.length)) s = 1 ∧ ∃ j, s = b + j ∧ outP sg ps j) ∨ (portN sg (ps.zip (fromN b ps.length)) s = 0 ∧ ¬ ∃ j, s = b + j ∧ outP sg ps j) := by
 intro ps
 induction ps using Tx.snoc_ind with
 | nil => exact fun s => .inr ⟨rfl, fun ⟨j, _, p, hp, _⟩ => by simp at hp⟩
 | snoc ps p ih =>
  intro s
  have hz : (ps ++ [p]).zip (fromN b (ps ++ [p]).length) = ps.zip (fromN b ps.length) ++ [(p, ((b + ps.length : Nat) : Int))] := by
   rw [List.length_append, List.length_singleton, fromN_succ, zip_snoc _ _ _ _ (by rw [fromN_len])]
  have hold : ∀ j, j < ps.length → (outP sg (ps ++ [p]) j ↔ outP sg ps j) := fun j hj => by unfold outP; rw [List.getElem?_append_left hj]
  have hlt : ∀ j, outP sg ps j → j < ps.length := fun j ⟨q, hq, _⟩ => (List.getElem?_eq_some_iff.1 hq).1
  have hlt2 : ∀ j, outP sg (ps ++ [p]) j → j < ps.length + 1 := fun j ⟨q, hq, _⟩ => by have := (List.getElem?_eq_some_iff.1 hq).1; simpa using this
  have hnew : outP sg (ps ++ [p]) ps.length ↔ kindAt sg p = 1 := by
   unfold outP
   rw [List.getElem?_append_right (Nat.le_refl _), Nat.sub_self]
   simp
  have hp : portN sg ((ps ++ [p]).zip (fromN b (ps ++ [p]).length)) s = portN sg (ps.zip (fromN b ps.length)) s + if kindAt sg p = 1 ∧ b + ps.length = s then 1 else 0 := by
   rw [hz]
   unfold portN
   rw [List.countP_append]
   congr 1
   by_cases h1 : kindAt sg p = 1 ∧ b + ps.length = s
   ·rw [if_pos h1, ← h1.2]
    simp [h1.1]
   ·rw [if_neg h1]
    simp only [List.countP_cons, List.countP_nil, Nat.zero_add]
    rw [if_neg]
    simp only [decide_eq_true_eq]
    exact fun h2 => h1 ⟨h2.1, by omega⟩
  rw [hp]
  rcases ih s with ⟨h1, j, hj, ho⟩ | ⟨h1, h2⟩
  ·have := hlt j ho
   rw [h1, if_neg (fun h => by omega)]
   exact .inl ⟨rfl, j, hj, (hold j this).2 ho⟩
  ·rw [h1]
   by_cases h3 : kindAt sg p = 1 ∧ b + ps.length = s
   ·rw [if_pos h3]
    exact .inl ⟨rfl, ps.length, h3.2.symm, hnew.2 h3.1⟩
   ·rw [if_neg h3]
    refine .inr ⟨rfl, fun ⟨j, hj, ho⟩ => ?_⟩
    by_cases hjl : j < ps.length
    ·exact h2 ⟨j, hj, (hold j hjl).1 ho⟩
    ·obtain rfl : j = ps.length := by have := hlt2 j ho; omega
     exact h3 ⟨hnew.1 ho, hj.symm⟩
/-- an instance more -/
theorem GdM.inst (h : GdM d m P) {q : Nat} {pr : Int} {b : Nat} (hq : q < d.length) (hpr : 0 ≤ pr ∧ pr ≤ 4) (hb : b + (portsM (md d q)).length ≤ m.1.length)
  (hk : ∀ j, j < (portsM (md d q)).length → kindAt m.1 ((b + j : Nat) : Int) = 2) (ho : ∀ j, outP (md d q).1 (portsM (md d q)) j → P (b + j))
  (hP : ∀ t, P' t ↔ P t ∧ ¬ ∃ j, t = b + j ∧ outP (md d q).1 (portsM (md d q)) j) : GdM d (m.1, m.2.1, m.2.2.1 ++ [((q : Int), pr, fromN b (portsM (md d q)).length)], m.2.2.2) P' := by
 have hd : ∀ t, drvN d (m.1, m.2.1, m.2.2.1 ++ [((q : Int), pr, fromN b (portsM (md d q)).length)], m.2.2.2) t = drvN d m t + portN (md d q).1 ((portsM (md d q)).zip (fromN b (portsM (md d q)).length)) t := fun t => by
  unfold drvN insN
  simp only [List.map_append, List.sum_append, List.map_cons, List.map_nil, List.sum_cons, List.sum_nil]
  unfold instN
  simp only
  omega
 refine ⟨h.sig, h.asg, fun x hx => ?_, h.mem, fun t k1 k2 k3 => ?_, fun t k1 => ?_, fun t k1 => h.pend t ((hP t).1 k1).1⟩
 ·rcases List.mem_append.1 hx with hx | hx
  ·exact h.ins x hx
  ·rw [List.mem_singleton.1 hx]
   refine ⟨⟨by simp, by simpa using hq⟩, by simp only; rw [fromN_len], ?_⟩
   unfold instB
   simp only [Bool.and_eq_true]
   refine ⟨inR_iff.2 hpr, List.all_eq_true.2 fun z hz => ?_⟩
   obtain ⟨j, hj, rfl⟩ := List.mem_iff_getElem.1 hz
   have hj2 : j < (portsM (md d q)).length := by
    rw [List.length_zip, fromN_len] at hj
    omega
   have hf : (fromN b (portsM (md d q)).length)[j]'(by rw [fromN_len]; exact hj2) = ((b + j : Nat) : Int) := (fromN_get (List.getElem?_eq_getElem (by rw [fromN_len]; exact hj2))).1
   unfold ptB drivesB
   rw [List.getElem_zip, hf]
   simp only [Bool.and_eq_true, Bool.or_eq_true, decide_eq_true_eq]
   have hr : inR ((b + j : Nat) : Int) 0 ((m.1.length : Int) - 1) = true := inR_iff.2 ⟨by omega, by omega⟩
   exact ⟨hr, .inr ⟨hr, .inr (hk j hj2)⟩⟩
 ·rw [hd]
  rcases port_cnt (md d q).1 b (portsM (md d q)) t with ⟨h1, j, hj, h2⟩ | ⟨h1, h2⟩
  ·rw [h1, h.zero t (fun _ _ => by rw [hj]; exact ho j h2)]
  ·rw [h1, h.one t k1 k2 (fun k4 => k3 ((hP t).2 ⟨k4, h2⟩))]
 ·rw [hd]
  rcases port_cnt (md d q).1 b (portsM (md d q)) t with ⟨h1, j, hj, h2⟩ | ⟨h1, h2⟩
  ·have h3 := h.pend t (by rw [hj]; exact ho j h2)
   have h4 := (hP t).1 (k1 h3.1 h3.2)
   exact absurd ⟨j, hj, h2⟩ h4.2
  ·rw [h1, h.zero t (fun k4 k5 => ((hP t).1 (k1 k4 k5)).1)]
theorem GdM.modB (h : GdM d m (fun _ => False)) : modB d m = true := by
 unfold Go.Proofs.YtolndlmhbnpmeaaDoor.modB drvsB
 simp only [Bool.and_eq_true]
 refine ⟨List.all_eq_true.2 h.sig, List.all_eq_true.2 h.asg, List.all_eq_true.2 fun x hx => (h.ins x hx).2.2, List.all_eq_true.2 h.mem, List.all_eq_true.2 fun s hs => ?_⟩
 have hs := List.mem_range.1 hs
 unfold drvB1
 by_cases h0 : kindAt m.1 s = 0
 ·rw [h0]; rfl
 ·rw [h.one s hs h0 (fun h => h)]; simp
end
/-- a module that may stand behind the modules of d -/
structure GMod (d : TDesign) (m : TModule) : Prop where
 gd : GdM d m (fun _ => False)
 n0 : m.1.length ≤ 30
 n1 : m.2.1.length ≤ 30
 n2 : m.2.2.1.length ≤ 3
 n3 : m.2.2.2.length ≤ 2
 np : (portsM m).length ≤ 4
def GDs (d : TDesign) : Prop := ∀ (k : Nat) (m : TModule), d[k]? = some m → GMod (d.take k) m
theorem GDs.nil : GDs [] := fun k m h => by simp at h
theorem GDs.snoc {d : TDesign} {m : TModule} (h : GDs d) (hm : GMod d m) : GDs (d ++ [m]) := by
 intro k x hx
 by_cases hk : k < d.length
 ·rw [List.getElem?_append_left hk] at hx
  rw [List.take_append_of_le_length (by omega)]
  exact h k x hx
 ·obtain rfl : k = d.length := by have := (List.getElem?_eq_some_iff.1 hx).1; simp at this; omega
  rw [List.getElem?_append_right (Nat.le_refl _), Nat.sub_self] at hx
  injection hx with hx
  subst hx
  rw [List.take_left']
  ·exact hm
  ·rfl
theorem GDs.ports {d : TDesign} (h : GDs d) (q : Nat) (hq : q < d.length) : (portsM (md d q)).length ≤ 4 := by
 have hx : d[q]? = some d[q] := List.getElem?_eq_getElem hq
 rw [md_get hx]
 exact (h q _ hx).np
theorem md_take {d : TDesign} {k : Nat} {q : Int} (h0 : 0 ≤ q) (h1 : q < k) : md (d.take k) q = md d q := by
 unfold md
 rw [List.getD_eq_getElem?_getD, List.getD_eq_getElem?_getD, List.getElem?_take, if_pos (by omega)]
theorem GDs.designB {d : TDesign} (h : GDs d) (h1 : 1 ≤ d.length) (h4 : d.length ≤ 4) : designB d = true := by
 unfold Go.Proofs.YtolndlmhbnpmeaaDoor.designB
 rw [Bool.and_eq_true]
 refine ⟨inR_iff.2 ⟨by omega, by omega⟩, List.all_eq_true.2 fun k hk => ?_⟩
 have hk := List.mem_range.1 hk
 have hx : d[k]? = some d[k] := List.getElem?_eq_getElem hk
 obtain ⟨m, hm⟩ : ∃ m, m = d[k] := ⟨_, rfl⟩
 rw [← hm] at hx
 have g := h k m hx
 have hlen : (d.take k).length = k := by rw [List.length_take]; omega
 have hmd : ∀ x ∈ m.2.2.1, md (d.take k) x.1 = md d x.1 := fun x hxm => by
  have h5 := (g.gd.ins x hxm).1
  rw [hlen] at h5
  exact md_take h5.1 h5.2
 unfold moduleB l04C
 rw [md_get hx]
 simp only [Bool.and_eq_true, decide_eq_true_eq]
 refine ⟨⟨⟨by omega, by omega⟩, ?_, ?_⟩, ?_⟩
 ·unfold countsB
  simp only [Bool.and_eq_true, decide_eq_true_eq]
  refine ⟨h4, List.all_eq_true.2 fun y hy => ?_⟩
  obtain ⟨j, hj, rfl⟩ := List.mem_iff_getElem.1 hy
  have gj := h j _ (List.getElem?_eq_getElem hj)
  exact cntOk1_iff.2 ⟨gj.n0, gj.n1, gj.n2, gj.n3⟩
 ·unfold instsB
  rw [md_get hx]
  refine List.all_eq_true.2 fun y hy => ?_
  obtain ⟨h5, h6, _⟩ := g.gd.ins y hy
  rw [hmd y hy] at h6
  rw [hlen] at h5
  unfold insB
  simp only [Bool.and_eq_true, decide_eq_true_eq]
  exact ⟨inR_iff.2 ⟨h5.1, by omega⟩, h6⟩
 ·have hmod := g.gd.modB
  have e1 : m.2.2.1.all (instB (d.take k) m) = m.2.2.1.all (instB d m) := by
   rw [Bool.eq_iff_iff, List.all_eq_true, List.all_eq_true]
   constructor
   ·intro h7 y hy
    have := h7 y hy
    unfold instB at this ⊢
    rw [← hmd y hy]
    exact this
   ·intro h7 y hy
    have := h7 y hy
    unfold instB at this ⊢
    rw [hmd y hy]
    exact this
  have e2 : ∀ s, drvN (d.take k) m s = drvN d m s := fun s => by
   unfold drvN insN
   congr 2
   exact List.map_congr_left fun y hy => by unfold instN; rw [hmd y hy]
  unfold Go.Proofs.YtolndlmhbnpmeaaDoor.modB drvsB drvB1 at hmod ⊢
  rw [e1] at hmod
  simp only [e2] at hmod
  exact hmod
end Go.Proofs.YtolndlmhbnpmeaaDoor

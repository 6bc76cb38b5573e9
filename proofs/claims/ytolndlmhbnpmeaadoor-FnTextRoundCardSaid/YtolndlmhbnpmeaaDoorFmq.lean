/- Plain: a valid module's numbers; its lines as texts. -/
import Derived.Test.YtolndlmhbnpmeaaDoorFmp
import Derived.Test.YtolndlmhbnpmeaaDoorModE
import Derived.Test.YtolndlmhbnpmeaaDoorGh
import Derived.Outline
namespace Go.Proofs.YtolndlmhbnpmeaaDoor
open Go.RowKit

theorem opTxR_len (k a b : Int) : (opTxR k a b).length ≤ 50 := by
 unfold opTxR
 split
 ·exact opTx_len
 ·simp
/-- the numbers of a valid module -/
structure LinesOk (m : TModule) : Prop where
 n0 : m.1.length ≤ 30
 n1 : m.2.1.length ≤ 30
 n2 : m.2.2.1.length ≤ 3
 n3 : m.2.2.2.length ≤ 2
 sig : ∀ x ∈ m.1, 0 ≤ x.1 ∧ x.1 ≤ 3 ∧ 0 ≤ x.2.1 ∧ x.2.1 ≤ 4 ∧ 0 ≤ x.2.2 ∧ x.2.2 ≤ 15
 asg : ∀ a ∈ m.2.1, 0 ≤ a.1 ∧ a.1 ≤ 30 ∧ a.2.length ≤ 15
 sgi : ∀ x ∈ m.1, x.1 ≠ 3 → x.2.2 = 0
 ops : ∀ a ∈ m.2.1, 0 < a.2.length ∧ ∀ o ∈ a.2, opB o.1 o.2.1 o.2.2 30 = true
 ins : ∀ x ∈ m.2.2.1, 0 ≤ x.1 ∧ x.1 ≤ 30 ∧ 0 ≤ x.2.1 ∧ x.2.1 ≤ 4 ∧ x.2.2.length ≤ 30 ∧ ∀ p ∈ x.2.2, 0 ≤ p ∧ p ≤ 30
 mem : ∀ x ∈ m.2.2.2, 0 ≤ x.1 ∧ x.1 ≤ 30 ∧ 0 ≤ x.2.1 ∧ x.2.1 ≤ 30 ∧ 0 ≤ x.2.2.1 ∧ x.2.2.1 ≤ 30 ∧ 0 ≤ x.2.2.2 ∧ x.2.2.2 ≤ 30
theorem opB_mono {k a b : Int} {n : Nat} (h : opB k a b n = true) (hn : n ≤ 30) : opB k a b 30 = true := by
 unfold opB at h ⊢
 by_cases h0 : k = 0
 ·rw [if_pos h0] at h ⊢; exact h
 ·rw [if_neg h0] at h ⊢
  by_cases h2 : k = 2
  ·rw [if_pos h2] at h ⊢; simp at h ⊢; omega
  ·rw [if_neg h2] at h ⊢
   by_cases h3 : k = 3
   ·rw [if_pos h3] at h ⊢; simp at h ⊢; exact ⟨by omega, h.2⟩
   ·rw [if_neg h3] at h ⊢; exact h
theorem lines_ok {d : TDesign} {k : Nat} {m : TModule} (h : moduleB d (k : Int) = true) (hx : d[k]? = some m) : LinesOk m := by
 have hmd := md_get hx
 unfold moduleB at h
 rw [hmd, Bool.and_eq_true] at h
 obtain ⟨h1, h2⟩ := h
 obtain ⟨⟨_, hk⟩, hc, hi⟩ := l04C_iff.1 h1
 unfold countsB at hc
 rw [Bool.and_eq_true] at hc
 have hd4 := of_decide_eq_true hc.1
 obtain ⟨b0, b1, b2, b3⟩ := cntOk1_iff.1 (List.all_eq_true.1 hc.2 m (List.mem_of_getElem? hx))
 unfold instsB at hi
 rw [hmd] at hi
 unfold modB at h2
 simp only [Bool.and_eq_true, List.all_eq_true] at h2
 obtain ⟨s1, s2, s3, s4, _⟩ := h2
 refine ⟨b0, b1, b2, b3, fun x hx => ?_, fun a ha => ?_, fun x hx h3 => ?_, fun a ha => ?_, fun x hx => ?_, fun x hx => ?_⟩
 ·have h := s1 x hx
  simp only [sigB, Bool.and_eq_true, Bool.or_eq_true, decide_eq_true_eq] at h
  obtain ⟨e1, e2, e3⟩ := h
  have e1 := inR_iff.1 e1
  have e2 := inR_iff.1 e2
  rcases e3 with e3 | ⟨_, e3⟩
  ·omega
  ·have e3 := inR_iff.1 e3
   omega
 ·have h := s2 a ha
  simp only [asgB, Bool.and_eq_true, opsB, decide_eq_true_eq] at h
  have e1 := inR_iff.1 h.1
  have e2 := h.2.2.1
  omega
 ·have h := s1 x hx
  simp only [sigB, Bool.and_eq_true, Bool.or_eq_true, decide_eq_true_eq] at h
  rcases h.2.2 with h | h
  ·exact h
  ·exact absurd h.1 h3
 ·have h := s2 a ha
  simp only [asgB, Bool.and_eq_true, opsB, decide_eq_true_eq] at h
  obtain ⟨_, _, _, h4, h5⟩ := h
  refine ⟨?_, fun o ho => ?_⟩
  ·rcases Nat.eq_zero_or_pos a.2.length with h0 | h0
   ·rw [List.eq_nil_of_length_eq_zero h0] at h5
    exact absurd h5 (by decide)
   ·exact h0
  ·obtain ⟨j, hj, rfl⟩ := List.mem_iff_getElem.1 ho
   have h6 := List.all_eq_true.1 h4 j (List.mem_range.2 hj)
   simp only [Bool.and_eq_true] at h6
   have h7 := h6.2
   rw [List.getD, List.getElem?_eq_getElem hj, Option.getD_some] at h7
   exact opB_mono h7 b0
 ·have h := s3 x hx
  have h' := List.all_eq_true.1 hi x hx
  simp only [instB, insB, Bool.and_eq_true, decide_eq_true_eq] at h h'
  have e1 := inR_iff.1 h.1
  have e2 := inR_iff.1 h'.1
  have e3 : (portsM (md d x.1)).length ≤ 30 := portsL_len _
  refine ⟨by omega, by omega, by omega, by omega, by omega, fun p hp => ?_⟩
  obtain ⟨j, hj, rfl⟩ := List.mem_iff_getElem.1 hp
  have hz : ((portsM (md d x.1)).zip x.2.2)[j]? = some ((portsM (md d x.1))[j]'(by omega), x.2.2[j]) := by
   rw [List.getElem?_zip_eq_some]
   exact ⟨List.getElem?_eq_getElem _, List.getElem?_eq_getElem _⟩
  have h3 := List.all_eq_true.1 h.2 _ (List.mem_of_getElem? hz)
  simp only [ptB, Bool.and_eq_true] at h3
  have e4 := inR_iff.1 h3.1
  omega
 ·have h := s4 x hx
  simp only [memB, drivesB, Bool.and_eq_true] at h
  have e1 := inR_iff.1 h.1
  have e2 := inR_iff.1 h.2.1
  have e3 := inR_iff.1 h.2.2.1
  have e4 := inR_iff.1 h.2.2.2.1
  omega
/-- lines as texts -/
def bt (l : List UInt8) : ByteArray := ⟨l.toArray⟩
def fmtR (d : TDesign) (k : Int) : List ByteArray × Bool := if moduleB d k then ((fmtML (md d k)).map bt, true) else ([], false)
theorem fmtR_yes {d : TDesign} {k : Int} (h : moduleB d k = true) : fmtR d k = ((fmtML (md d k)).map bt, true) := by unfold fmtR; rw [if_pos h]
theorem fmtR_no {d : TDesign} {k : Int} (h : moduleB d k = false) : fmtR d k = ([], false) := by unfold fmtR; rw [if_neg (by rw [h]; simp)]
theorem mod_of {d : TDesign} {k : Int} (h : moduleB d k = true) : ∃ (kn : Nat) (m : TModule), k = (kn : Int) ∧ d[kn]? = some m ∧ md d k = m ∧ LinesOk m := by
 have h1 := h
 unfold moduleB at h1
 rw [Bool.and_eq_true] at h1
 obtain ⟨⟨h0, hk⟩, _⟩ := l04C_iff.1 h1.1
 obtain ⟨kn, rfl⟩ := Int.eq_ofNat_of_zero_le h0
 have hx : d[kn]? = some (d[kn]'(by omega)) := List.getElem?_eq_getElem (by omega)
 exact ⟨kn, _, rfl, hx, md_get hx, lines_ok h hx⟩
theorem fmtML_len {m : TModule} (h : LinesOk m) : (fmtML m).length ≤ 67 := by
 have h0 := h.n0
 have h1 := h.n1
 have h2 := h.n2
 have h3 := h.n3
 simp only [fmtML, List.length_append, List.length_map, List.length_cons, List.length_nil]
 omega
theorem fmtR_sz (d : TDesign) (k : Int) : szL sString (fmtR d k).1 ≤ 1048576 := by
 rw [szL_string]
 unfold fmtR
 split
 ·rename_i h
  obtain ⟨_, m, _, _, hm, ho⟩ := mod_of h
  have := fmtML_len ho
  simp only [List.length_map, hm]
  omega
 ·exact Nat.zero_le _
theorem dsn_four {d : TDesign} (h : designB d = true) : d.length ≤ 4 := by
 unfold designB at h
 simp only [Bool.and_eq_true] at h
 have := inR_iff.1 h.1
 omega
/-- the lines of a valid design -/
def linesD (d : TDesign) : List (List UInt8) := d.flatMap fmtML
theorem dsn_mod {d : TDesign} (h : designB d = true) {k : Nat} (hk : k < d.length) : moduleB d (k : Int) = true := by
 unfold designB at h
 rw [Bool.and_eq_true] at h
 exact List.all_eq_true.1 h.2 k (List.mem_range.2 hk)
theorem mods_ok {d : TDesign} (h : designB d = true) : ∀ m ∈ d, LinesOk m := by
 intro m hm
 obtain ⟨k, hk, rfl⟩ := List.mem_iff_getElem.1 hm
 exact lines_ok (dsn_mod h hk) (List.getElem?_eq_getElem hk)
theorem flat_len {α β : Type} {f : α → List β} {N : Nat} : ∀ {l : List α}, (∀ x ∈ l, (f x).length ≤ N) → (l.flatMap f).length ≤ l.length * N
 | [], _ => by simp
 | x :: l, h => by
  have h1 := flat_len (f := f) (l := l) (fun y hy => h y (by simp [hy]))
  have h2 := h x (by simp)
  rw [List.flatMap_cons, List.length_append, List.length_cons, Nat.add_mul]
  omega
theorem linesD_len {d : TDesign} (h : designB d = true) : (linesD d).length ≤ 268 := by
 have h4 := dsn_four h
 have h1 := flat_len (f := fmtML) (N := 67) (l := d) (fun m hm => fmtML_len (mods_ok h m hm))
 unfold linesD
 omega
theorem line_len {m : TModule} (h : LinesOk m) : ∀ l ∈ fmtML m, l.length ≤ 900 := by
 intro l hl
 unfold fmtML at hl
 simp only [List.mem_append, List.mem_singleton, List.mem_map] at hl
 rcases hl with rfl | ⟨x, hx, rfl⟩ | ⟨a, ha, rfl⟩ | ⟨x, hx, rfl⟩ | ⟨x, hx, rfl⟩ | rfl
 ·decide
 ·have h1 := widW_len x.2.1
  have h2 := Tx.fmtI_len x.2.2
  have h3 : (kindW x.1).length ≤ 4 := by unfold kindW; repeat (split <;> try decide)
  unfold sgLine
  split <;> simp <;> omega
 ·have h1 := sigW_len a.1
  have h2 := (h.asg a ha).2.2
  have h3 := flat_len (f := fun o : TOp => [32] ++ opTxR o.1 o.2.1 o.2.2) (N := 51) (l := a.2) (fun o _ => by have := opTxR_len o.1 o.2.1 o.2.2; simp; omega)
  unfold asgLine
  simp only [List.length_append, List.length_cons, List.length_nil]
  omega
 ·have h1 := Tx.fmtI_len x.1
  have h2 := widW_len x.2.1
  have h3 := (h.ins x hx).2.2.2.2.1
  have h4 := flat_len (f := fun p : Int => [32] ++ sigW p) (N := 23) (l := x.2.2) (fun p _ => by have := sigW_len p; simp; omega)
  unfold insLine
  simp only [List.length_append, List.length_cons, List.length_nil]
  omega
 ·have h1 := sigW_len x.1
  have h2 := sigW_len x.2.1
  have h3 := sigW_len x.2.2.1
  have h4 := sigW_len x.2.2.2
  unfold memLine
  simp only [List.length_append, List.length_cons, List.length_nil]
  omega
 ·decide
theorem lineD_len {d : TDesign} (h : designB d = true) : ∀ l ∈ linesD d, l.length ≤ 900 := by
 intro l hl
 obtain ⟨m, hm, hl⟩ := List.mem_flatMap.1 hl
 exact line_len (mods_ok h m hm) l hl
def dlR (d : TDesign) : List ByteArray := if designB d then (linesD d).map bt else []
theorem dlR_yes {d : TDesign} (h : designB d = true) : dlR d = (linesD d).map bt := by unfold dlR; rw [if_pos h]
theorem dlR_no {d : TDesign} (h : designB d = false) : dlR d = [] := by unfold dlR; rw [if_neg (by rw [h]; simp)]
/-- a design's text -/
def fdT (d : TDesign) : List UInt8 := (linesD d).flatMap fun l => l ++ [10]
def fdR (d : TDesign) : List UInt8 := if designB d then fdT d else []
theorem fdR_yes {d : TDesign} (h : designB d = true) : fdR d = fdT d := by unfold fdR; rw [if_pos h]
theorem fdR_no {d : TDesign} (h : designB d = false) : fdR d = [] := by unfold fdR; rw [if_neg (by rw [h]; simp)]
end Go.Proofs.YtolndlmhbnpmeaaDoor

/- Contracts: nets in the laws: the size, the copy, equality of equals. -/
import Derived.Test.YtimccjpggcgklaaSeqB
import Derived.Test.YtimccjpggcgklaaAndS
namespace Go.Proofs.Ytimccjpggcgklaa
open Go.RowKit

theorem Try.infoNet : True := trivial
/-- the parts of a net read as lists -/
def NetR (w : World) (S : Nat → Prop) (As : Option Addr) (ns cs : Nat) (ss : List Seq3) (Aa : Option Addr) (na ca : Nat) (ands : List (Int × Int)) (Ao : Option Addr) (no co : Nat) (outs : List Int) : Prop :=
  Rep w S (.slice As ns cs) (fSeqS ss) ∧ Rep w S (.slice Aa na ca) (frecs eAnd ands) ∧ Rep w S (.slice Ao no co) (fints outs)
section
variable {w w' : World} {S S' : Nat → Prop} {As Aa Ao : Option Addr} {ns cs na ca no co : Nat} {ss : List Seq3} {ands : List (Int × Int)} {outs : List Int}
theorem NetR.keep (h : NetR w S As ns cs ss Aa na ca ands Ao no co outs) (hk : ∀ p : Addr, S p.block → w'.cell? p = w.cell? p) (hS : ∀ b, S b → S' b) : NetR w' S' As ns cs ss Aa na ca ands Ao no co outs :=
  ⟨(h.1.keep hk).mono hS, (h.2.1.keep hk).mono hS, (h.2.2.keep hk).mono hS⟩
theorem NetR.under {B : Nat} (h : NetR w S As ns cs ss Aa na ca ands Ao no co outs) (hS : ∀ b, S b → b < B) (hb : Below B w w') : NetR w' S As ns cs ss Aa na ca ands Ao no co outs := h.keep (fun _p hp => hb.cell (hS _ hp)) (fun _ h => h)
theorem NetR.lens (h : NetR w S As ns cs ss Aa na ca ands Ao no co outs) : ss.length = ns ∧ ands.length = na ∧ outs.length = no ∧ ns ≤ maxLen ∧ na ≤ maxLen ∧ no ≤ maxLen := by
  obtain ⟨h1, h2, h3⟩ := h
  have l1 := h1.len
  have l2 := h2.len
  have l3 := h3.len
  obtain ⟨_, _, _, m1⟩ := h1.sl_val
  obtain ⟨_, _, _, m2⟩ := h2.sl_val
  obtain ⟨_, _, _, m3⟩ := h3.sl_val
  rw [List.length_map] at l1 l2 l3 m1 m2 m3
  omega
end
/-- no list of the net is longer than a law allows -/
def NetB (ss : List Seq3) (ands : List (Int × Int)) (outs : List Int) : Prop := cntSeq ss + ands.length + outs.length ≤ 1048576

theorem l_toAndF {w : World} {S : Nat → Prop} {A : Option Addr} {n c : Nat} {l : List (Int × Int)} (hn : n ≤ 1048576) (h : Rep w S (.slice A n c) (frecs eAnd l)) (hS : ∀ b, S b → b < w.heap.size) :
    Calls Try.prog 82 #[.slice A n c] w fun e w' => ∃ A' c', e = .returned (.slice A' n c') ∧ Rep w' (New w w') (.slice A' n c') (frecs eAnd l) ∧ Below w.heap.size w w' := by
  have hl := h.len
  rw [List.length_map] at hl
  refine (l_toAndS hn (h.to_reads eAnd_len (by decide) hS) (Nat.le_refl _)).mono ?_
  rintro e w' ⟨A', c', rfl, hown, hb⟩
  rw [hl] at hown ⊢
  exact ⟨A', c', rfl, own_rep eAnd_len (by decide) (by unfold maxLen; omega) hown, hb⟩

set_option maxRecDepth 100000 in
set_option maxHeartbeats 4000000 in
theorem l_toNet (inp : Int) {w : World} {S : Nat → Prop} {As Aa Ao : Option Addr} {ns cs na ca no co : Nat} {ss : List Seq3} {ands : List (Int × Int)} {outs : List Int} (hB : NetB ss ands outs) (h : NetR w S As ns cs ss Aa na ca ands Ao no co outs) (hS : ∀ b, S b → b < w.heap.size) :
    Calls Try.prog 30 #[.agg #[.int .i64 inp, .slice As ns cs, .slice Aa na ca, .slice Ao no co]] w fun e w' => ∃ As' cs' Aa' ca' Ao' co', e = .returned (.agg #[.int .i64 inp, .slice As' ns cs', .slice Aa' na ca', .slice Ao' no co']) ∧
      NetR w' (New w w') As' ns cs' ss Aa' na ca' ands Ao' no co' outs ∧ Below w.heap.size w w' := by
  obtain ⟨l1, l2, l3, _⟩ := h.lens
  have hc : ss.length ≤ cntSeq ss := by unfold cntSeq; omega
  unfold NetB at hB
  have Hin := Lib.hid (fun x (hx : x ∈ ss) => (show x.2.2.length ≤ 1048576 by have := cntSeq_el hx; omega))
  have n1 : ns ≤ 1048576 := by omega
  have n2 : na ≤ 1048576 := by omega
  have n3 : no ≤ 1048576 := by omega
  clear hB hc l1 l2 l3
  go_enter Try.func30, Try.ntmps30
  go_wp2_with fail
  have hS3 : ∀ b, S b → b < w.heap.size + 1 + 1 + 1 := fun b hb => by have := hS b hb; omega
  have h3 : NetR (((w.alloc (.cells #[.int .i64 inp, .slice As ns cs, .slice Aa na ca, .slice Ao no co] 49)).alloc (.cells #[.int .i64 0, .slice none 0 0, .slice none 0 0, .slice none 0 0] 41)).alloc (.cells #[.int .i64 inp, .slice none 0 0, .slice none 0 0, .slice none 0 0] 41)) S As ns cs ss Aa na ca ands Ao no co outs :=
    h.keep (fun p hp => by have := hS _ hp; rw [World.cell?_alloc_lt _ _ p (by simp; omega), World.cell?_alloc_lt _ _ p (by simp; omega), World.cell?_alloc_lt _ _ p (by omega)]) (fun _ h => h)
  refine (l_toSeqS n1 Hin.out h3.1 (fun b hb => by simpa using hS3 b hb)).mono ?_
  rintro e w1 ⟨As', cs', rfl, hr1, hb1⟩
  have z1 := hb1.size
  try simp at z1
  (try have y1_0 : w.heap.size < w1.heap.size := (by omega))
  have q1_0 := fun o => (bcell hb1).1 (w.heap.size) o (by (try simp) <;> (try omega))
  have p1_0 := fun o => (bcell hb1).2 (w.heap.size) o (by (try simp) <;> (try omega))
  (try have y1_1 : w.heap.size + 1 < w1.heap.size := (by omega))
  have q1_1 := fun o => (bcell hb1).1 (w.heap.size + 1) o (by (try simp) <;> (try omega))
  have p1_1 := fun o => (bcell hb1).2 (w.heap.size + 1) o (by (try simp) <;> (try omega))
  (try have y1_2 : w.heap.size + 1 + 1 < w1.heap.size := (by omega))
  have q1_2 := fun o => (bcell hb1).1 (w.heap.size + 1 + 1) o (by (try simp) <;> (try omega))
  have p1_2 := fun o => (bcell hb1).2 (w.heap.size + 1 + 1) o (by (try simp) <;> (try omega))
  have z1' := hb1.size
  simp at z1'
  have Hr1 := Lib.hid (show Rep w1 (fun b => w.heap.size + 3 ≤ b ∧ b < w1.heap.size) (.slice As' ns cs') (fSeqS ss) from hr1.mono (fun b hb => by simp [New] at hb; exact ⟨by omega, hb.2⟩))
  have Hn1 := Lib.hid (h3.under (fun b hb => by simpa using hS3 b hb) hb1)
  clear hr1 h3
  go_wp2_with fail
  refine (l_toAndF n2 (Hn1.out.2.1.setCell (fun hh => absurd (hS _ hh) (by show ¬ (w.heap.size + 1 + 1 < w.heap.size); omega)) _) (fun b hb => by have := hS _ hb; (try simp) <;> omega)).mono ?_
  rintro e w2 ⟨Aa', ca', rfl, hr2, hb2⟩
  have z2 := hb2.size
  try simp at z2
  (try have y2_0 : w.heap.size < w2.heap.size := (by omega))
  have q2_0 := fun o => (bcell hb2).1 (w.heap.size) o (by (try simp) <;> (try omega))
  have p2_0 := fun o => (bcell hb2).2 (w.heap.size) o (by (try simp) <;> (try omega))
  (try have y2_1 : w.heap.size + 1 < w2.heap.size := (by omega))
  have q2_1 := fun o => (bcell hb2).1 (w.heap.size + 1) o (by (try simp) <;> (try omega))
  have p2_1 := fun o => (bcell hb2).2 (w.heap.size + 1) o (by (try simp) <;> (try omega))
  (try have y2_2 : w.heap.size + 1 + 1 < w2.heap.size := (by omega))
  have q2_2 := fun o => (bcell hb2).1 (w.heap.size + 1 + 1) o (by (try simp) <;> (try omega))
  have p2_2 := fun o => (bcell hb2).2 (w.heap.size + 1 + 1) o (by (try simp) <;> (try omega))
  have z2' := hb2.size
  simp at z2'
  have Hr2 := Lib.hid (show Rep w2 (fun b => w.heap.size + 3 ≤ b ∧ b < w2.heap.size) (.slice Aa' na ca') (frecs eAnd ands) from hr2.mono (fun b hb => by simp [New] at hb; exact ⟨by omega, hb.2⟩))
  have Hr1b := Lib.hid (show Rep w2 (fun b => w.heap.size + 3 ≤ b ∧ b < w2.heap.size) (.slice As' ns cs') (fSeqS ss) from ((Hr1.out.setCell (p := ⟨w.heap.size + 1 + 1, 1, none⟩) (fun hh => by have := hh.1; simp at this <;> omega) _).under (fun b hb => by simpa using hb.2) hb2).mono (fun b hb => ⟨hb.1, by omega⟩))
  have Hn2 := Lib.hid (show Rep w2 S (.slice Ao no co) (fints outs) from (Hn1.out.2.2.setCell (p := ⟨w.heap.size + 1 + 1, 1, none⟩) (fun hh => absurd (hS _ hh) (by show ¬ (w.heap.size + 1 + 1 < w.heap.size); omega)) _).under (fun b hb => by have := hS _ hb; (try simp) <;> omega) hb2)
  clear hr2 Hr1 Hn1
  go_wp2_with fail
  refine (l_toIntF n3 (Hn2.out.setCell (fun hh => absurd (hS _ hh) (by show ¬ (w.heap.size + 1 + 1 < w.heap.size); omega)) _) (fun b hb => by have := hS _ hb; (try simp) <;> omega)).mono ?_
  rintro e w3 ⟨Ao', co', rfl, hr3, hb3⟩
  have z3 := hb3.size
  try simp at z3
  (try have y3_0 : w.heap.size < w3.heap.size := (by omega))
  have q3_0 := fun o => (bcell hb3).1 (w.heap.size) o (by (try simp) <;> (try omega))
  have p3_0 := fun o => (bcell hb3).2 (w.heap.size) o (by (try simp) <;> (try omega))
  (try have y3_1 : w.heap.size + 1 < w3.heap.size := (by omega))
  have q3_1 := fun o => (bcell hb3).1 (w.heap.size + 1) o (by (try simp) <;> (try omega))
  have p3_1 := fun o => (bcell hb3).2 (w.heap.size + 1) o (by (try simp) <;> (try omega))
  (try have y3_2 : w.heap.size + 1 + 1 < w3.heap.size := (by omega))
  have q3_2 := fun o => (bcell hb3).1 (w.heap.size + 1 + 1) o (by (try simp) <;> (try omega))
  have p3_2 := fun o => (bcell hb3).2 (w.heap.size + 1 + 1) o (by (try simp) <;> (try omega))
  have z3' := hb3.size
  simp at z3'
  have Hr3 := Lib.hid (show Rep w3 (fun b => w.heap.size + 3 ≤ b ∧ b < w3.heap.size) (.slice Ao' no co') (fints outs) from hr3.mono (fun b hb => by simp [New] at hb; exact ⟨by omega, hb.2⟩))
  have Hr1c := Lib.hid (show Rep w3 (fun b => w.heap.size + 3 ≤ b ∧ b < w3.heap.size) (.slice As' ns cs') (fSeqS ss) from ((Hr1b.out.setCell (p := ⟨w.heap.size + 1 + 1, 2, none⟩) (fun hh => by have := hh.1; simp at this <;> omega) _).under (fun b hb => by simpa using hb.2) hb3).mono (fun b hb => ⟨hb.1, by omega⟩))
  have Hr2c := Lib.hid (show Rep w3 (fun b => w.heap.size + 3 ≤ b ∧ b < w3.heap.size) (.slice Aa' na ca') (frecs eAnd ands) from ((Hr2.out.setCell (p := ⟨w.heap.size + 1 + 1, 2, none⟩) (fun hh => by have := hh.1; simp at this <;> omega) _).under (fun b hb => by simpa using hb.2) hb3).mono (fun b hb => ⟨hb.1, by omega⟩))
  have HN := Lib.hid (show NetR w3 (fun b => w.heap.size + 3 ≤ b ∧ b < w3.heap.size) As' ns cs' ss Aa' na ca' ands Ao' no co' outs from ⟨Hr1c.out, Hr2c.out, Hr3.out⟩)
  clear hr3 Hr1b Hr2 Hr1c Hr2c Hr3 Hn2
  go_wp2_with fail
  refine bodyPost_ret (v := .agg #[.int .i64 inp, .slice As' ns cs', .slice Aa' na ca', .slice Ao' no co']) (by simp [results, Try.results30, go_sem, q1_1, q2_1, q3_1]) rfl ⟨As', cs', Aa', ca', Ao', co', rfl, ?_, (by repeat (first | with_reducible exact Below.refl _ _ | with_reducible assumption | with_reducible refine below_drewN ?_ _ | with_reducible refine Below.drew ?_ | ((with_reducible refine Below.alloc ?_ ?_ _); rotate_left; (((try simp) <;> (try omega)) <;> done)) | ((with_reducible refine Below.setCell ?_ ?_ _); rotate_left; (((try simp) <;> (try omega)) <;> done)) | ((with_reducible refine Below.trans ?_ (Below.mono (by with_reducible assumption) ?_)); rotate_left; (((try simp) <;> (try omega)) <;> done))))⟩
  refine HN.out.keep (fun p hp => ?_) (fun b hb => ?_)
  · have hne : ∀ (W : World) (g o : Nat) (u : Value), g < w.heap.size + 3 → (W.setCell ⟨g, o, none⟩ u).cell? p = W.cell? p := fun W g o u hg => World.cell?_setCell_other W _ p u (fun e => by subst e; have := hp.1; simp at this; omega)
    repeat (rw [hne _ _ _ _ (by omega)])
  · refine ⟨by omega, ?_⟩
    simp
    exact hb.2
end Go.Proofs.Ytimccjpggcgklaa

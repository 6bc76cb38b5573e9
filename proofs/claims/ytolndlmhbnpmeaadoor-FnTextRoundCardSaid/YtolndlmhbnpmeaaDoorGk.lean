/- Words and contracts that later texts use. -/
import Derived.Test.YtolndlmhbnpmeaaDoorOpt
import Derived.Test.YtolndlmhbnpmeaaDoorGh
import Derived.Outline
/- Plain: an operator read out of a word. -/
namespace Go.Proofs.YtolndlmhbnpmeaaDoor
open Go.RowKit

def pv (l : List UInt8) : Nat := (Tx.pu l).getD 0
/-- what the program reads out of a word -/
def rdI (l : List UInt8) : Int × Int × Int :=
 if l = [87] then (1, 0, 0)
 else if l = [126] then (4, 0, 0) else if l = [38] then (5, 0, 0) else if l = [124] then (6, 0, 0) else if l = [94] then (7, 0, 0) else if l = [43] then (8, 0, 0) else if l = [45] then (9, 0, 0) else if l = [61] then (10, 0, 0) else if l = [60] then (11, 0, 0) else if l = [63] then (12, 0, 0)
 else if l.head? = some 115 then
  (if l.tail.all (fun c => c != 46) then (2, (pv l.tail : Int), 0) else (3, (pv (l.tail.takeWhile fun c => c != 46) : Int), (pv (l.tail.dropWhile fun c => c != 46).tail : Int)))
 else (0, (pv l : Int), 0)
/-- p holds of every valid operator -/
def allOps (p : Nat → Nat → Nat → Bool) : Bool := (List.range 13).all fun k => (List.range 30).all fun a => (List.range 4).all fun b => !(opB (k : Int) (a : Int) (b : Int) 30) || p k a b
theorem allOps_at {p : Nat → Nat → Nat → Bool} (h : allOps p = true) {k a b : Nat} (hk : k < 13) (ha : a < 30) (hb : b < 4) (ho : opB (k : Int) (a : Int) (b : Int) 30 = true) : p k a b = true := by
 have h1 := List.all_eq_true.1 (List.all_eq_true.1 (List.all_eq_true.1 h k (List.mem_range.2 hk)) a (List.mem_range.2 ha)) b (List.mem_range.2 hb)
 rw [ho] at h1
 simpa using h1
theorem rdI_chk : allOps (fun k a b => decide (rdI (opTx k a b) = ((k : Int), (a : Int), (b : Int)))) = true := by decide +kernel
theorem rdI_all (k : Nat) (hk : k < 13) (a : Nat) (ha : a < 30) (b : Nat) (hb : b < 4) (h : opB (k : Int) (a : Int) (b : Int) 30 = true) : rdI (opTx k a b) = ((k : Int), (a : Int), (b : Int)) := of_decide_eq_true (allOps_at rdI_chk hk ha hb h)
theorem rdI_op {k a b : Int} (h : opB k a b 30 = true) : rdI (opTx k a b) = (k, a, b) := by
 obtain ⟨h0, h1, h2, h3, h4, h5⟩ := opB_bd h
 obtain ⟨k, rfl⟩ := Int.eq_ofNat_of_zero_le h0
 obtain ⟨a, rfl⟩ := Int.eq_ofNat_of_zero_le h2
 obtain ⟨b, rfl⟩ := Int.eq_ofNat_of_zero_le h4
 exact rdI_all k (by omega) a (by omega) b (by omega) h
/-- what both return -/
def opPR (l : List UInt8) : (Int × Int × Int) × Bool := if (opB (rdI l).1 (rdI l).2.1 (rdI l).2.2 30 && decide (opTx (rdI l).1 (rdI l).2.1 (rdI l).2.2 = l)) then (rdI l, true) else ((0, 0, 0), false)
theorem opPR_yes {l : List UInt8} {k a b : Int} (h : opB k a b 30 = true) (ht : opTx k a b = l) : opPR l = ((k, a, b), true) := by
 subst ht
 unfold opPR
 rw [rdI_op h]
 simp [h]
theorem opPR_no {l : List UInt8} (h : ∀ k a b : Int, opB k a b 30 = true → opTx k a b ≠ l) : opPR l = ((0, 0, 0), false) := by
 unfold opPR
 rw [if_neg]
 simp only [Bool.and_eq_true, decide_eq_true_eq]
 rintro ⟨h1, h2⟩
 exact h _ _ _ h1 h2
/-- a reading that hits each word of an operator may be checked in its place -/
theorem opPR_of {l : List UInt8} {k a b : Int} (h : ∀ k' a' b' : Int, opB k' a' b' 30 = true → opTx k' a' b' = l → (k', a', b') = (k, a, b)) : opPR l = if (opB k a b 30 && decide (opTx k a b = l)) then ((k, a, b), true) else ((0, 0, 0), false) := by
 by_cases hc : opB k a b 30 = true ∧ opTx k a b = l
 ·rw [opPR_yes hc.1 hc.2, if_pos (by simp [hc.1, hc.2])]
 ·rw [opPR_no (fun k' a' b' h1 h2 => by
   have h3 := h k' a' b' h1 h2
   simp only [Prod.mk.injEq] at h3
   obtain ⟨rfl, rfl, rfl⟩ := h3
   exact hc ⟨h1, h2⟩), if_neg]
  simpa using hc
def OpPQ (l : List UInt8) (w : World) (e : Ending) (w' : World) : Prop := e = .returned (.tuple #[.agg #[.int .i64 (opPR l).1.1, .int .i64 (opPR l).1.2.1, .int .i64 (opPR l).1.2.2], .bool (opPR l).2]) ∧ Below w.heap.size w w'
/-- what the reference reads; none where it sees at once that there is no operator -/
def tlS (l : List UInt8) : Int := if l.length < 2 then -1 else match Tx.pu l.tail with | some n => (n : Int) | none => -1
def rdS (l : List UInt8) : Option (Int × Int × Int) :=
 if l.head? = some 115 then
  (if 3 < l.length ∧ l.getD (l.length - 2) 0 = 46 then some (3, tlS (l.take (l.length - 2)), ((l.getD (l.length - 1) 0).toNat : Int) - 48) else some (2, tlS l, 0))
 else match Tx.pu l with | some n => some (0, (n : Int), 0) | none => none
theorem rdS_chk : allOps (fun k a b => !(decide (k = 0 ∨ k = 2 ∨ k = 3)) || decide (rdS (opTx k a b) = some ((k : Int), (a : Int), (b : Int)))) = true := by decide +kernel
theorem rdS_all (k : Nat) (hk : k < 13) (a : Nat) (ha : a < 30) (b : Nat) (hb : b < 4) (h : opB (k : Int) (a : Int) (b : Int) 30 = true) (hc : k = 0 ∨ k = 2 ∨ k = 3) : rdS (opTx k a b) = some ((k : Int), (a : Int), (b : Int)) := by
 have h1 := allOps_at rdS_chk hk ha hb h
 rw [decide_eq_true hc] at h1
 simpa using h1
/-- the words that are no numbers and no signals -/
theorem plainW_chk : allOps (fun k a b => decide (k = 1 ∧ opTx k a b = [87] ∨ (4 ≤ k ∧ opTx k a b = [sgnB (k - 4)] ∧ a = 0 ∧ b = 0) ∨ k = 0 ∨ k = 2 ∨ k = 3)) = true := by decide +kernel
theorem plainW_all (k : Nat) (hk : k < 13) (a : Nat) (ha : a < 30) (b : Nat) (hb : b < 4) (h : opB (k : Int) (a : Int) (b : Int) 30 = true) : k = 1 ∧ opTx k a b = [87] ∨ (4 ≤ k ∧ opTx k a b = [sgnB (k - 4)] ∧ a = 0 ∧ b = 0) ∨ k = 0 ∨ k = 2 ∨ k = 3 := of_decide_eq_true (allOps_at plainW_chk hk ha hb h)
theorem rdS_op {l : List UInt8} (hW : l ≠ [87]) (hs : ∀ j, j < 9 → l ≠ [sgnB j]) {k a b : Int} (h : opB k a b 30 = true) (ht : opTx k a b = l) : rdS l = some (k, a, b) := by
 obtain ⟨h0, h1, h2, h3, h4, h5⟩ := opB_bd h
 obtain ⟨k, rfl⟩ := Int.eq_ofNat_of_zero_le h0
 obtain ⟨a, rfl⟩ := Int.eq_ofNat_of_zero_le h2
 obtain ⟨b, rfl⟩ := Int.eq_ofNat_of_zero_le h4
 rcases plainW_all k (by omega) a (by omega) b (by omega) h with ⟨_, h6⟩ | ⟨h6, h7, _⟩ | h6
 ·exact absurd (ht.symm.trans h6) hW
 ·exact absurd (ht.symm.trans h7) (hs (k - 4) (by omega))
 ·rw [← ht]; exact rdS_all k (by omega) a (by omega) b (by omega) h h6
theorem sgn_op {i : Nat} (h : i < 9) : opB (4 + (i : Int)) 0 0 30 = true ∧ opTx (4 + (i : Int)) 0 0 = [sgnB i] := by
 match i, h with
 | 0, _ | 1, _ | 2, _ | 3, _ | 4, _ | 5, _ | 6, _ | 7, _ | 8, _ => exact ⟨by decide, by decide⟩
theorem rdI_sgn {l : List UInt8} (hW : l ≠ [87]) (hs : ∀ j, j < 9 → l ≠ [sgnB j]) : rdI l = if l.head? = some 115 then
  (if l.tail.all (fun c => c != 46) then (2, (pv l.tail : Int), 0) else (3, (pv (l.tail.takeWhile fun c => c != 46) : Int), (pv (l.tail.dropWhile fun c => c != 46).tail : Int))) else (0, (pv l : Int), 0) := by
 unfold rdI
 have h0 : ¬ l = [126] := hs 0 (by omega)
 have h1 : ¬ l = [38] := hs 1 (by omega)
 have h2 : ¬ l = [124] := hs 2 (by omega)
 have h3 : ¬ l = [94] := hs 3 (by omega)
 have h4 : ¬ l = [43] := hs 4 (by omega)
 have h5 : ¬ l = [45] := hs 5 (by omega)
 have h6 : ¬ l = [61] := hs 6 (by omega)
 have h7 : ¬ l = [60] := hs 7 (by omega)
 have h8 : ¬ l = [63] := hs 8 (by omega)
 rw [if_neg hW, if_neg h0, if_neg h1, if_neg h2, if_neg h3, if_neg h4, if_neg h5, if_neg h6, if_neg h7, if_neg h8]
theorem rdI_of_sgn {i : Nat} (h : i < 9) : rdI [sgnB i] = (4 + (i : Int), 0, 0) := by
 match i, h with
 | 0, _ | 1, _ | 2, _ | 3, _ | 4, _ | 5, _ | 6, _ | 7, _ | 8, _ => decide
end Go.Proofs.YtolndlmhbnpmeaaDoor

/- Contracts: an operator read out of a word: the program's functions. -/
namespace Go.Proofs.YtolndlmhbnpmeaaDoor
open Go.RowKit

theorem str_no {x y : ByteArray} (h : ¬ x = y) : (x.toList == y.toList) = false := by
 rw [beq_eq_false_iff_ne]
 intro he
 rw [ByteArray.toList_eq, ByteArray.toList_eq] at he
 apply h
 apply ByteArray.ext
 exact Array.toList_inj.1 he
theorem arr_of {s : ByteArray} {l : List UInt8} (h : s.data.toList = l) : s = ⟨l.toArray⟩ := by
 cases s
 simp at h ⊢
 exact (Array.toArray_toList ▸ congrArg List.toArray h)
theorem bk3 {w : World} {g : Nat} {t : TypeId} {a b c : Value} (h : Blk w g t #[a, b, c]) : w.cell? ⟨g, 0, none⟩ = some a ∧ w.cell? ⟨g, 1, none⟩ = some b ∧ w.cell? ⟨g, 2, none⟩ = some c := ⟨h.cell 0, h.cell 1, h.cell 2⟩
theorem tl_eq (s : ByteArray) : s.toList = s.data.toList := ByteArray.toList_eq ..
theorem lb_no {l m : List UInt8} (h : ¬ l = m) : (l == m) = false := by rw [beq_eq_false_iff_ne]; exact h
theorem sz_list (s : ByteArray) : s.size = s.data.toList.length := rfl
-- facts of the result's block ahead of the last walk: $1 the block's fact
-- the end: $1 k $2 a $3 b $4 world $5 block $6 Below
-- a number out of a part of the word: $1 from $2 to $3 its letters $4 that $5 its size $6 world $7 block $8 Below $9 name
theorem puV_pv (l : List UInt8) : ∃ q : Bool, puV l = .tuple #[.int .i64 (pv l : Int), .bool q] := by
 cases hp : Tx.pu l with
 | none => exact ⟨false, by rw [puV_none hp]; unfold pv; rw [hp]; rfl⟩
 | some n => exact ⟨true, by rw [puV_some hp]; unfold pv; rw [hp]; rfl⟩
theorem str_get {s : ByteArray} {l : List UInt8} {k : Nat} (hl : l = s.data.toList) (h : k < s.size) : l[k]? = some s[k] := by
 subst hl
 rw [List.getElem?_eq_getElem (by rw [← sz_list]; exact h)]
 rfl
theorem find46 : ∀ {t : List UInt8} {m : Nat}, (∀ j, j < m → t[j]? ≠ some 46) → t[m]? = some 46 → t.takeWhile (fun c => c != 46) = t.take m ∧ (t.dropWhile (fun c => c != 46)).tail = t.drop (m + 1) ∧ t.all (fun c => c != 46) = false
 | [], m, _, h => by simp at h
 | c :: t, 0, _, h => by
  simp at h
  subst h
  simp
 | c :: t, m + 1, h, hm => by
  have hc : (c != 46) = true := by
   have := h 0 (by omega)
   simpa using this
  obtain ⟨h1, h2, h3⟩ := find46 (t := t) (m := m) (fun j hj => by have := h (j + 1) (by omega); simpa using this) (by simpa using hm)
  refine ⟨by rw [List.takeWhile_cons, if_pos hc, h1]; rfl, by rw [List.dropWhile_cons, if_pos hc, h2]; rfl, by rw [List.all_cons, h3, Bool.and_false]⟩
theorem none46 {t : List UInt8} (h : ∀ j, j < t.length → t[j]? ≠ some 46) : t.all (fun c => c != 46) = true := by
 rw [List.all_eq_true]
 intro c hc
 obtain ⟨j, hj⟩ := List.getElem?_of_mem hc
 have h1 := h j (List.getElem?_eq_some_iff.1 hj).1
 rw [hj] at h1
 simpa using h1
set_option maxRecDepth 100000 in
set_option maxHeartbeats 8000000 in
theorem i_parseOp (s : ByteArray) (hs : s.size ≤ maxLen) (w : World) (hg : SignsAt w) : Calls Tryd.prog 27 #[.string s] w fun e w' => e = .returned (.agg #[.int .i64 (rdI s.data.toList).1, .int .i64 (rdI s.data.toList).2.1, .int .i64 (rdI s.data.toList).2.2]) ∧ Below w.heap.size w w' := by
 have Hs0 := Lib.hid hs
 unfold maxLen at hs
 obtain ⟨U, hU⟩ : ∃ U, U = w.alloc (.cells #[.int .i64 0, .int .i64 0, .int .i64 0] 71) := ⟨_, rfl⟩
 have HU := Lib.hid hU
 have HX := Lib.hid (show Blk U w.heap.size 71 #[.int .i64 0, .int .i64 0, .int .i64 0] by rw [hU]; exact Blk.new _ _ _)
 have HB0 := Lib.hid (show Below w.heap.size w U by rw [hU]; exact (Below.refl _ _).alloc (Nat.le_refl _) _)
 have hzu : w.heap.size < U.heap.size := HX.out.lt
 obtain ⟨l, hl⟩ : ∃ l, l = s.data.toList := ⟨_, rfl⟩
 have Hl := Lib.hid hl
 have hlb : s.toList = l := by rw [hl]; exact tl_eq s
 rw [← hl]
 clear hl
 obtain ⟨ad, cap, h9, hn0, hab, t0, t1⟩ := hg.below HB0.out
 rw [hU] at t0
 clear hU
 go_enter Tryd.func27, Tryd.ntmps27
 by_cases hW : l = [87]
 ·have hc : (l == [87]) = true := by rw [hW]; rfl
  go_wp2_with fail
  obtain ⟨s0, s1, s2⟩ := bk3 (Blk.new w 71 #[.int .i64 1, .int .i64 0, .int .i64 0])
  refine bodyPost_ret (v := .agg #[.int .i64 1, .int .i64 0, .int .i64 0]) (by simp [results, Tryd.results27, go_sem, s0, s1, s2]) rfl ⟨?_, (Below.refl _ _).alloc (Nat.le_refl _) _⟩
  rw [hW]
  rfl
 have hc : (l == [87]) = false := lb_no hW
 have HW := Lib.hid hW
 go_wp2_with fail
 rw [← HU.out]
 clear hW hc t0
 go_loopw [3, 4, 19] (fun _ _ iv wr => ∃ i : Nat, i ≤ 9 ∧ iv = .int .i64 i ∧ Hid (∀ j, j < i → l ≠ [sgnB j]) ∧ Below U.heap.size U wr) (fun _ _ iv _ => 9 - (intOf iv).toNat)
 case atStart => exact ⟨0, Nat.zero_le _, rfl, Lib.hid (fun j h => absurd h (Nat.not_lt_zero _)), Below.refl _ _⟩
 case round =>
  obtain ⟨i, hi, rfl, Hs, hb⟩ := hrel
  have Hb := Lib.hid hb
  have HXr := Lib.hid (HX.out.below hb hzu)
  have HBr := Lib.hid (HB0.out.trans (hb.mono (by omega)))
  have zr := hb.size
  clear hb
  by_cases hlt : i < 9
  ·have t2 := (Hb.out.cell (p := ad.add i) (by rw [block_of_add]; exact hab)).trans (t1 i _ (sgn_at hlt))
   have g1 : (i : Int) < 9 := by omega
   have g2 : (0 : Int) ≤ (i : Int) := by omega
   have ht : (⟨[sgnB i].toArray⟩ : ByteArray).toList = [sgnB i] := tl_eq _
   by_cases hq : l = [sgnB i]
   ·have hc : ([sgnB i] == l) = true := by rw [hq]; exact beq_self_eq_true _
    obtain ⟨r0, r1, r2⟩ := bk3 HXr.out
    have f0 := (HXr.out).frozen 0
    have f1 := (HXr.out).frozen 1
    have f2 := (HXr.out).frozen 2
    go_wp2_with fail
    clear r0 r1 r2 f0 f1 f2
    obtain ⟨wf, hwf⟩ : ∃ wf, wf = (((wr.setCell ⟨w.heap.size, 0, none⟩ (.int .i64 (4 + (i : Int)))).setCell ⟨w.heap.size, 1, none⟩ (.int .i64 (0))).setCell ⟨w.heap.size, 2, none⟩ (.int .i64 (0))) := ⟨_, rfl⟩
    have hRf : Blk wf w.heap.size 71 #[.int .i64 (4 + (i : Int)), .int .i64 (0), .int .i64 (0)] := by rw [hwf]; exact ((HXr.out.set_ 0 _).set_ 1 _).set_ 2 _
    have hBf : Below w.heap.size w wf := by rw [hwf]; exact (((HBr.out).setCell (Nat.le_refl _) _).setCell (Nat.le_refl _) _).setCell (Nat.le_refl _) _
    obtain ⟨s0, s1, s2⟩ := bk3 hRf
    rw [← hwf]
    refine bodyPost_ret (v := .agg #[.int .i64 (4 + (i : Int)), .int .i64 (0), .int .i64 (0)]) (by simp [results, Tryd.results27, go_sem, s0, s1, s2]) rfl ⟨?_, hBf⟩
    rw [hq, rdI_of_sgn hlt]
   ·have hc : ([sgnB i] == l) = false := lb_no (fun e => hq e.symm)
    have Hq := Lib.hid hq
    clear hq
    go_wp2_with fail
    go_roundw
    case rel => exact ⟨i + 1, by omega, by go_num, Lib.hid (fun j hj => by
     rcases Nat.lt_succ_iff_lt_or_eq.1 hj with h | h
     ·exact Hs.out j h
     ·subst h; exact Hq.out), Hb.out⟩
    case measure => simp [intOf]; omega
  obtain rfl : i = 9 := by omega
  have HR := Lib.hid (rdI_sgn HW.out Hs.out)
  have g1 : (9 : Int) ≤ 9 := by omega
  clear t1 hi hlt
  have Hsl := Lib.hid (show s.size = l.length by rw [sz_list, ← Hl.out])
  by_cases h0 : l.head? = some 115
  ·have hpos : 0 < s.size := by
    cases l with
    | nil => simp at h0
    | cons c t => rw [Hsl.out]; simp
   have hne : (l == []) = false := by cases l with
    | nil => simp at h0
    | cons c t => rfl
   obtain ⟨t, ht⟩ : ∃ t, l = 115 :: t := by
    cases l with
    | nil => simp at h0
    | cons c t => simp at h0; subst h0; exact ⟨t, rfl⟩
   have h115 : s[0].toNat = 115 := by
    have h1 := str_get (s := s) (l := l) (k := 0) Hl.out hpos
    rw [ht] at h1
    have h2 : s[0] = 115 := by simpa using h1.symm
    rw [h2]
    rfl
   have Ht := Lib.hid ht
   have Hb0 := Lib.hid (Below.refl wr.heap.size wr)
   have hpos1 : 1 ≤ s.size := hpos
   clear h0 ht
   have HR2 := Lib.hid (show rdI l = (if t.all (fun c => c != 46) then (2, (pv t : Int), 0) else (3, (pv (t.takeWhile fun c => c != 46) : Int), (pv (t.dropWhile fun c => c != 46).tail : Int))) by rw [HR.out, Ht.out]; simp)
   go_wp2_with fail
   clear hpos h115 hne
   obtain ⟨wq, hwq⟩ : ∃ x, x = wr := ⟨_, rfl⟩
   subst hwq
   go_loopw [5, 6, 7, 8, 9] (fun iv _ _ _ _ wr => ∃ k : Nat, 1 ≤ k ∧ k ≤ s.size ∧ iv = .int .i64 k ∧ Hid (∀ j, j < k - 1 → t[j]? ≠ some 46) ∧ Below wq.heap.size wq wr) (fun iv _ _ _ _ _ => s.size - (intOf iv).toNat)
   case atStart => exact ⟨1, Nat.le_refl _, hpos1, rfl, Lib.hid (fun j h => absurd h (Nat.not_lt_zero _)), Hb0.out⟩
   case round =>
    obtain ⟨k, hk1, hk, rfl, Hn, hb⟩ := hrel
    have Hb2 := Lib.hid hb
    have HXk := Lib.hid (HXr.out.below hb (by omega))
    have HBk := Lib.hid (HBr.out.trans (hb.mono (by omega)))
    have zk := hb.size
    have zw := HBk.out.size
    clear hb
    have k1 : (1 : Int) ≤ (k : Int) := by omega
    by_cases hlt2 : k < s.size
    ·have k2 : (k : Int) < (s.size : Int) := by omega
     have k3 : (0 : Int) ≤ (k : Int) := by omega
     have hgk : t[k - 1]? = some s[k] := by
      have h := str_get (s := s) (l := l) (k := k) Hl.out hlt2
      rw [Ht.out] at h
      rw [← h]
      cases k with
      | zero => omega
      | succ j => simp
     by_cases h46 : s[k].toNat = 46
     ·have h46' : s[k] = 46 := UInt8.toNat_inj.1 (by rw [h46]; rfl)
      have Hfind := Lib.hid (find46 (m := k - 1) Hn.out (by rw [hgk, h46']))
      have Hea := Lib.hid (show (s.extract 1 k).data.toList = t.take (k - 1) by rw [ext_list, ← Hl.out, Ht.out]; rfl)
      have Heb := Lib.hid (show (s.extract (k + 1) s.size).data.toList = t.drop k by
       rw [ext_list, ← Hl.out, Ht.out, List.drop_succ_cons, List.take_of_length_le]
       rw [List.length_drop]
       have h5 := Hsl.out
       rw [Ht.out, List.length_cons] at h5
       omega)
      have k4 : (k : Int) + 1 ≤ (s.size : Int) := by omega
      have k5 : (0 : Int) ≤ (k : Int) + 1 := by omega
      have k6 : (k : Int) ≤ (s.size : Int) := by omega
      have hza : (s.extract 1 k).size ≤ maxLen := by rw [ByteArray.size_extract]; unfold maxLen; omega
      have hzb : (s.extract (k + 1) s.size).size ≤ maxLen := by rw [ByteArray.size_extract]; unfold maxLen; omega
      clear hgk h46'
      go_wp2_with fail
      refine (i_ParseUint (s.extract (1) (k)) hza wr).mono ?_
      rintro e wax ⟨rfl, hb2⟩
      have HXax := Lib.hid (HXk.out.below hb2 HXk.out.lt)
      have HBax := Lib.hid (HBk.out.trans (hb2.mono HBk.out.size))
      rw [Hea.out]
      obtain ⟨va, hva⟩ : ∃ v, v = pv (t.take (k - 1)) := ⟨_, rfl⟩
      have Hpa := Lib.hid hva
      clear hb2 hva
      obtain ⟨qa, hq⟩ := puV_pv (t.take (k - 1))
      rw [hq, ← Hpa.out]
      clear hq
      go_wp2_with fail
      refine (i_ParseUint (s.extract (k + 1) (s.size)) hzb wax).mono ?_
      rintro e wbx ⟨rfl, hb2⟩
      have HXbx := Lib.hid (HXax.out.below hb2 HXax.out.lt)
      have HBbx := Lib.hid (HBax.out.trans (hb2.mono HBax.out.size))
      rw [Heb.out]
      obtain ⟨vb, hvb⟩ : ∃ v, v = pv (t.drop k) := ⟨_, rfl⟩
      have Hpb := Lib.hid hvb
      clear hb2 hvb
      obtain ⟨qb, hq⟩ := puV_pv (t.drop k)
      rw [hq, ← Hpb.out]
      clear hq
      obtain ⟨r0, r1, r2⟩ := bk3 HXbx.out
      have f0 := (HXbx.out).frozen 0
      have f1 := (HXbx.out).frozen 1
      have f2 := (HXbx.out).frozen 2
      go_wp2_with fail
      clear r0 r1 r2 f0 f1 f2
      obtain ⟨wf, hwf⟩ : ∃ wf, wf = (((wbx.setCell ⟨w.heap.size, 0, none⟩ (.int .i64 (3))).setCell ⟨w.heap.size, 1, none⟩ (.int .i64 ((va : Int)))).setCell ⟨w.heap.size, 2, none⟩ (.int .i64 ((vb : Int)))) := ⟨_, rfl⟩
      have hRf : Blk wf w.heap.size 71 #[.int .i64 (3), .int .i64 ((va : Int)), .int .i64 ((vb : Int))] := by rw [hwf]; exact ((HXbx.out.set_ 0 _).set_ 1 _).set_ 2 _
      have hBf : Below w.heap.size w wf := by rw [hwf]; exact (((HBbx.out).setCell (Nat.le_refl _) _).setCell (Nat.le_refl _) _).setCell (Nat.le_refl _) _
      obtain ⟨s0, s1, s2⟩ := bk3 hRf
      rw [← hwf]
      refine bodyPost_ret (v := .agg #[.int .i64 (3), .int .i64 ((va : Int)), .int .i64 ((vb : Int))]) (by simp [results, Tryd.results27, go_sem, s0, s1, s2]) rfl ⟨?_, hBf⟩
      rw [HR2.out, Hfind.out.2.2, Hfind.out.1, Hfind.out.2.1, show k - 1 + 1 = k by omega, ← Hpa.out, ← Hpb.out]
      rfl
     ·have hn46 : ¬ s[k] = 46 := fun e => h46 (by rw [e]; rfl)
      have Hgk := Lib.hid hgk
      have Hn46 := Lib.hid hn46
      clear hgk hn46
      go_wp2_with fail
      go_roundw
      case rel => exact ⟨k + 1, by omega, by omega, by go_num, Lib.hid (fun j hj => by
       rcases Nat.lt_or_ge j (k - 1) with h | h
       ·exact Hn.out j h
       ·have : j = k - 1 := by omega
        rw [this, Hgk.out]
        intro e
        injection e with e
        exact Hn46.out e), Hb2.out⟩
      case measure => simp [intOf]; omega
    ·obtain rfl : k = s.size := by omega
     have k2 : (s.size : Int) ≤ (s.size : Int) := Int.le_refl _
     have Hall := Lib.hid (none46 (t := t) (fun j hj => Hn.out j (by have h5 := Hsl.out; rw [Ht.out, List.length_cons] at h5; omega)))
     have Hea := Lib.hid (show (s.extract 1 s.size).data.toList = t by
      rw [ext_list, ← Hl.out, Ht.out, List.drop_succ_cons, List.drop_zero, List.take_of_length_le]
      have h5 := Hsl.out
      rw [Ht.out, List.length_cons] at h5
      omega)
     have hza : (s.extract 1 s.size).size ≤ maxLen := by rw [ByteArray.size_extract]; unfold maxLen; omega
     go_wp2_with fail
     refine (i_ParseUint (s.extract (1) (s.size)) hza wr).mono ?_
     rintro e wax ⟨rfl, hb2⟩
     have HXax := Lib.hid (HXk.out.below hb2 HXk.out.lt)
     have HBax := Lib.hid (HBk.out.trans (hb2.mono HBk.out.size))
     rw [Hea.out]
     obtain ⟨va, hva⟩ : ∃ v, v = pv (t) := ⟨_, rfl⟩
     have Hpa := Lib.hid hva
     clear hb2 hva
     obtain ⟨qa, hq⟩ := puV_pv (t)
     rw [hq, ← Hpa.out]
     clear hq
     obtain ⟨r0, r1, r2⟩ := bk3 HXax.out
     have f0 := (HXax.out).frozen 0
     have f1 := (HXax.out).frozen 1
     have f2 := (HXax.out).frozen 2
     go_wp2_with fail
     clear r0 r1 r2 f0 f1 f2
     obtain ⟨wf, hwf⟩ : ∃ wf, wf = (((wax.setCell ⟨w.heap.size, 0, none⟩ (.int .i64 (2))).setCell ⟨w.heap.size, 1, none⟩ (.int .i64 ((va : Int)))).setCell ⟨w.heap.size, 2, none⟩ (.int .i64 (0))) := ⟨_, rfl⟩
     have hRf : Blk wf w.heap.size 71 #[.int .i64 (2), .int .i64 ((va : Int)), .int .i64 (0)] := by rw [hwf]; exact ((HXax.out.set_ 0 _).set_ 1 _).set_ 2 _
     have hBf : Below w.heap.size w wf := by rw [hwf]; exact (((HBax.out).setCell (Nat.le_refl _) _).setCell (Nat.le_refl _) _).setCell (Nat.le_refl _) _
     obtain ⟨s0, s1, s2⟩ := bk3 hRf
     rw [← hwf]
     refine bodyPost_ret (v := .agg #[.int .i64 (2), .int .i64 ((va : Int)), .int .i64 (0)]) (by simp [results, Tryd.results27, go_sem, s0, s1, s2]) rfl ⟨?_, hBf⟩
     rw [HR2.out, Hall.out, ← Hpa.out]
     rfl
  ·have HR2 := Lib.hid (show rdI l = (0, (pv l : Int), 0) by rw [HR.out, if_neg h0])
   by_cases hnil : l = []
   ·clear h0
    go_wp2_with fail
    refine (i_ParseUint s Hs0.out wr).mono ?_
    rintro e w2 ⟨rfl, hb2⟩
    have HX2 := Lib.hid (HXr.out.below hb2 HXr.out.lt)
    have HB2 := Lib.hid (HBr.out.trans (hb2.mono HBr.out.size))
    clear hb2
    rw [← Hl.out]
    cases hp : Tx.pu l with
    | none =>
     have Hp := Lib.hid (show pv l = 0 by unfold pv; rw [hp]; rfl)
     rw [puV_none hp]
     clear hp
     obtain ⟨r0, r1, r2⟩ := bk3 HX2.out
     have f0 := (HX2.out).frozen 0
     have f1 := (HX2.out).frozen 1
     have f2 := (HX2.out).frozen 2
     go_wp2_with fail
     clear r0 r1 r2 f0 f1 f2
     obtain ⟨wf, hwf⟩ : ∃ wf, wf = (((w2.setCell ⟨w.heap.size, 0, none⟩ (.int .i64 (0))).setCell ⟨w.heap.size, 1, none⟩ (.int .i64 (0))).setCell ⟨w.heap.size, 2, none⟩ (.int .i64 (0))) := ⟨_, rfl⟩
     have hRf : Blk wf w.heap.size 71 #[.int .i64 (0), .int .i64 (0), .int .i64 (0)] := by rw [hwf]; exact ((HX2.out.set_ 0 _).set_ 1 _).set_ 2 _
     have hBf : Below w.heap.size w wf := by rw [hwf]; exact (((HB2.out).setCell (Nat.le_refl _) _).setCell (Nat.le_refl _) _).setCell (Nat.le_refl _) _
     obtain ⟨s0, s1, s2⟩ := bk3 hRf
     rw [← hwf]
     refine bodyPost_ret (v := .agg #[.int .i64 (0), .int .i64 (0), .int .i64 (0)]) (by simp [results, Tryd.results27, go_sem, s0, s1, s2]) rfl ⟨?_, hBf⟩
     rw [HR2.out, Hp.out]
     rfl
    | some n =>
     have Hp := Lib.hid (show pv l = n by unfold pv; rw [hp]; rfl)
     rw [puV_some hp]
     clear hp
     obtain ⟨r0, r1, r2⟩ := bk3 HX2.out
     have f0 := (HX2.out).frozen 0
     have f1 := (HX2.out).frozen 1
     have f2 := (HX2.out).frozen 2
     go_wp2_with fail
     clear r0 r1 r2 f0 f1 f2
     obtain ⟨wf, hwf⟩ : ∃ wf, wf = (((w2.setCell ⟨w.heap.size, 0, none⟩ (.int .i64 (0))).setCell ⟨w.heap.size, 1, none⟩ (.int .i64 ((n : Int)))).setCell ⟨w.heap.size, 2, none⟩ (.int .i64 (0))) := ⟨_, rfl⟩
     have hRf : Blk wf w.heap.size 71 #[.int .i64 (0), .int .i64 ((n : Int)), .int .i64 (0)] := by rw [hwf]; exact ((HX2.out.set_ 0 _).set_ 1 _).set_ 2 _
     have hBf : Below w.heap.size w wf := by rw [hwf]; exact (((HB2.out).setCell (Nat.le_refl _) _).setCell (Nat.le_refl _) _).setCell (Nat.le_refl _) _
     obtain ⟨s0, s1, s2⟩ := bk3 hRf
     rw [← hwf]
     refine bodyPost_ret (v := .agg #[.int .i64 (0), .int .i64 ((n : Int)), .int .i64 (0)]) (by simp [results, Tryd.results27, go_sem, s0, s1, s2]) rfl ⟨?_, hBf⟩
     rw [HR2.out, Hp.out]
   ·have hpos : 0 < s.size := by
     cases l with
     | nil => exact absurd rfl hnil
     | cons c t => rw [Hsl.out]; simp
    have hne : (l == []) = false := lb_no hnil
    have h115 : ¬ s[0].toNat = 115 := by
     intro hx
     have h1 := str_get (s := s) (l := l) (k := 0) Hl.out hpos
     have h2 : s[0] = 115 := UInt8.toNat_inj.1 (by rw [hx]; rfl)
     rw [h2] at h1
     apply h0
     rw [List.head?_eq_getElem?]
     exact h1
    clear h0
    go_wp2_with fail
    refine (i_ParseUint s Hs0.out wr).mono ?_
    rintro e w2 ⟨rfl, hb2⟩
    have HX2 := Lib.hid (HXr.out.below hb2 HXr.out.lt)
    have HB2 := Lib.hid (HBr.out.trans (hb2.mono HBr.out.size))
    clear hb2
    rw [← Hl.out]
    cases hp : Tx.pu l with
    | none =>
     have Hp := Lib.hid (show pv l = 0 by unfold pv; rw [hp]; rfl)
     rw [puV_none hp]
     clear hp
     obtain ⟨r0, r1, r2⟩ := bk3 HX2.out
     have f0 := (HX2.out).frozen 0
     have f1 := (HX2.out).frozen 1
     have f2 := (HX2.out).frozen 2
     go_wp2_with fail
     clear r0 r1 r2 f0 f1 f2
     obtain ⟨wf, hwf⟩ : ∃ wf, wf = (((w2.setCell ⟨w.heap.size, 0, none⟩ (.int .i64 (0))).setCell ⟨w.heap.size, 1, none⟩ (.int .i64 (0))).setCell ⟨w.heap.size, 2, none⟩ (.int .i64 (0))) := ⟨_, rfl⟩
     have hRf : Blk wf w.heap.size 71 #[.int .i64 (0), .int .i64 (0), .int .i64 (0)] := by rw [hwf]; exact ((HX2.out.set_ 0 _).set_ 1 _).set_ 2 _
     have hBf : Below w.heap.size w wf := by rw [hwf]; exact (((HB2.out).setCell (Nat.le_refl _) _).setCell (Nat.le_refl _) _).setCell (Nat.le_refl _) _
     obtain ⟨s0, s1, s2⟩ := bk3 hRf
     rw [← hwf]
     refine bodyPost_ret (v := .agg #[.int .i64 (0), .int .i64 (0), .int .i64 (0)]) (by simp [results, Tryd.results27, go_sem, s0, s1, s2]) rfl ⟨?_, hBf⟩
     rw [HR2.out, Hp.out]
     rfl
    | some n =>
     have Hp := Lib.hid (show pv l = n by unfold pv; rw [hp]; rfl)
     rw [puV_some hp]
     clear hp
     obtain ⟨r0, r1, r2⟩ := bk3 HX2.out
     have f0 := (HX2.out).frozen 0
     have f1 := (HX2.out).frozen 1
     have f2 := (HX2.out).frozen 2
     go_wp2_with fail
     clear r0 r1 r2 f0 f1 f2
     obtain ⟨wf, hwf⟩ : ∃ wf, wf = (((w2.setCell ⟨w.heap.size, 0, none⟩ (.int .i64 (0))).setCell ⟨w.heap.size, 1, none⟩ (.int .i64 ((n : Int)))).setCell ⟨w.heap.size, 2, none⟩ (.int .i64 (0))) := ⟨_, rfl⟩
     have hRf : Blk wf w.heap.size 71 #[.int .i64 (0), .int .i64 ((n : Int)), .int .i64 (0)] := by rw [hwf]; exact ((HX2.out.set_ 0 _).set_ 1 _).set_ 2 _
     have hBf : Below w.heap.size w wf := by rw [hwf]; exact (((HB2.out).setCell (Nat.le_refl _) _).setCell (Nat.le_refl _) _).setCell (Nat.le_refl _) _
     obtain ⟨s0, s1, s2⟩ := bk3 hRf
     rw [← hwf]
     refine bodyPost_ret (v := .agg #[.int .i64 (0), .int .i64 ((n : Int)), .int .i64 (0)]) (by simp [results, Tryd.results27, go_sem, s0, s1, s2]) rfl ⟨?_, hBf⟩
     rw [HR2.out, Hp.out]
end Go.Proofs.YtolndlmhbnpmeaaDoor

/- Contracts: ParseOp, the program's and the reference's. -/
namespace Go.Proofs.YtolndlmhbnpmeaaDoor
open Go.RowKit

-- the end: $1 k $2 a $3 b $4 ok $5 world $6 block $7 Below $8 function
-- behind OpText: $1 function $2 world $3 block $4 Below $5 the op's block
end Go.Proofs.YtolndlmhbnpmeaaDoor

/- Contracts: an operator read out of a word: the reference's functions. -/
namespace Go.Proofs.YtolndlmhbnpmeaaDoor
open Go.RowKit

-- the end: $1 k $2 a $3 b $4 ok $5 world $6 block $7 Below $8 function
-- behind OpText: $1 function $2 world $3 block $4 Below $5 the op's block
theorem tlS_of {l : List UInt8} (h : ¬ l.length < 2) : tlS l = match Tx.pu l.tail with | some n => (n : Int) | none => -1 := by unfold tlS; rw [if_neg h] <;> cases Tx.pu l.tail <;> rfl
end Go.Proofs.YtolndlmhbnpmeaaDoor

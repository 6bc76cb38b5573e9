/- Words and contracts that later texts use. -/
import Derived.Test.YthjdigcpgpiiiaaDoorGl
import Derived.Test.YthjdigcpgpiiiaaDoorFmi
import Derived.Test.YthjdigcpgpiiiaaDoorGk
import Derived.Test.YthjdigcpgpiiiaaDoorGh
import Derived.Test.YthjdigcpgpiiiaaDoorTyp
import Derived.Outline
import Derived.Deep.CutRange
import Derived.Test.YthjdigcpgpiiiaaDoorChg
/- Contracts: words of a text's reading: lists of texts, numbers behind letters (the program's and the reference's functions). -/
namespace Go.Proofs.YthjdigcpgpiiiaaDoor
open Go.RowKit

abbrev byt (s : ByteArray) : Wd8 := s.data.toList
theorem bt_byt (s : ByteArray) : bt (byt s) = s := rfl
set_option maxRecDepth 100000 in
set_option maxHeartbeats 4000000 in
theorem i_sameWords {w : World} {B B' : Nat} {A A' : Option Addr} {n m c c' : Nat} {l l' : List ByteArray} (hn : n ≤ 1099511627776) (hm : m ≤ 1099511627776) (h : Reads w B 1 A n (strs l)) (h' : Reads w B' 1 A' m (strs l')) (hB : B ≤ w.heap.size) (hB' : B' ≤ w.heap.size) :
  Calls Tryd.prog 22 #[.slice A n c, .slice A' m c'] w fun e w' => e = .returned (.bool (decide (l = l'))) ∧ Below w.heap.size w w' := by
 have hl := h.slen
 have hl' := h'.slen
 by_cases hnm : n = m
 ·subst hnm
  have Hl := Lib.hid hl
  have Hl' := Lib.hid hl'
  clear hl hl'
  go_enter Tryd.func22, Tryd.ntmps22
  go_wp2
  go_loopw [5, 13] (fun _ i wr => ∃ k : Nat, k ≤ n ∧ i = .int .i64 k ∧ l.take k = l'.take k ∧ Below w.heap.size w wr) (fun _ i _ => n - (intOf i).toNat)
  case atStart => exact ⟨0, Nat.zero_le _, rfl, rfl, Below.refl _ _⟩
  case round =>
   obtain ⟨k, hk, rfl, heq, hb⟩ := hrel
   have Heq := Lib.hid heq
   have Hb := Lib.hid hb
   clear heq hb
   by_cases hlt : k < n
   ·obtain ⟨ad, x, rfl, hab, hx, hc⟩ := h.str_at hlt
    obtain ⟨ad', x', rfl, hab', hx', hc'⟩ := h'.str_at hlt
    have e1 := (Hb.out.cell (p := ad.add k) (by rw [block_of_add]; omega)).trans hc
    have e2 := (Hb.out.cell (p := ad'.add k) (by rw [block_of_add]; omega)).trans hc'
    have Hx := Lib.hid hx
    have Hx' := Lib.hid hx'
    clear hc hc' hx hx'
    have g1 : (0 : Int) ≤ (k : Int) := by omega
    have g2 : (k : Int) < (n : Int) := by omega
    by_cases hxx : x = x'
    ·subst hxx
     go_wp2_with fail
     refine wp_region_lex (by kernel_rfl) (by kernel_rfl) (Cls (fun x => x = wr.drew)) (Cls.mk' rfl) ?_
     have lexNE : Nonempty (Wd (fun x => x = wr.drew)) := ⟨⟨_, rfl⟩⟩
     have lexW : ∀ W : Wd (fun x => x = wr.drew), W.val = wr.drew := fun W => W.ok
     (repeat (first | (refine lex_r fun K hK => ?_; go_big_quiet_op; refine hK _ ?_; clear hK K) | (refine lex_k fun K hK => ?_; go_simp; refine hK _ ?_; clear hK K)))
     (refine lex_nil ?_)
     clear lexNE lexW
     go_wp2_with fail
     go_roundw
     case rel =>
      refine ⟨k + 1, by omega, by go_num, ?_, Hb.out.drew⟩
      rw [List.take_add_one, List.take_add_one, Heq.out, Hx.out, Hx'.out]
     case measure => simp [intOf]; omega
    ·have hne := str_ne hxx
     have Hxx := Lib.hid hxx
     clear hxx
     go_wp2_with fail
     refine wp_region_lex (by kernel_rfl) (by kernel_rfl) (Cls (fun x => x = wr.drew)) (Cls.mk' rfl) ?_
     have lexNE : Nonempty (Wd (fun x => x = wr.drew)) := ⟨⟨_, rfl⟩⟩
     have lexW : ∀ W : Wd (fun x => x = wr.drew), W.val = wr.drew := fun W => W.ok
     (repeat (first | (refine lex_r fun K hK => ?_; go_big_quiet_op; refine hK _ ?_; clear hK K) | (refine lex_k fun K hK => ?_; go_simp; refine hK _ ?_; clear hK K)))
     (refine lex_nil ?_)
     clear lexNE lexW
     go_wp2_with fail
     go_ret
     refine ⟨ret_bool ?_, Hb.out.drew⟩
     have : l ≠ l' := by
      rintro rfl
      have h1 := Hx.out
      rw [Hx'.out] at h1
      injection h1 with h1
      exact Hxx.out h1.symm
     simp [this]
   ·have hke : k = n := by omega
    subst hke
    go_wp2_with fail
    go_ret
    refine ⟨ret_bool ?_, Hb.out⟩
    have h1 := Heq.out
    have h2 := Hl.out
    have h3 := Hl'.out
    rw [List.take_of_length_le (by omega), List.take_of_length_le (by omega)] at h1
    simp [h1]
 ·have hne : ((n : Int) != (m : Int)) = true := by simp; omega
  have hll : l ≠ l' := by rintro rfl; omega
  have Hll := Lib.hid hll
  clear hl hl' hll
  go_enter Tryd.func22, Tryd.ntmps22
  go_wp2
  go_ret
  exact ⟨ret_bool (by simp [Hll.out]), Below.refl _ _⟩


theorem i_plainNumber (s : ByteArray) (hs : s.size ≤ maxLen) (w : World) : Calls Tryd.prog 40 #[.string s] w fun e w' => e = .returned (.int .i64 (pv (byt s) : Int)) ∧ Below w.heap.size w w' := by
 go_enter Tryd.func40, Tryd.ntmps40
 go_wp2_with fail
 refine (i_ParseUint s hs w).mono ?_
 rintro e w1 ⟨rfl, hb1⟩
 cases hp : Tx.pu (byt s) with
 | none =>
  have HV := Lib.hid (show puV s.data.toList = .tuple #[.int .i64 0, .bool false] by unfold puV; rw [hp])
  have HP := Lib.hid (show pv (byt s) = 0 by unfold pv; rw [hp]; rfl)
  clear hp
  rw [HV.out]
  go_wp2_with fail
  go_ret
  exact ⟨ret_int (by rw [HP.out]; rfl), hb1⟩
 | some q =>
  have HV := Lib.hid (show puV s.data.toList = .tuple #[.int .i64 (q : Int), .bool true] by unfold puV; rw [hp])
  have HP := Lib.hid (show pv (byt s) = q by unfold pv; rw [hp]; rfl)
  clear hp
  rw [HV.out]
  go_wp2_with fail
  go_ret
  exact ⟨ret_int (by rw [HP.out]), hb1⟩
/-- what numberAfter reads -/
theorem nA_nil : nA [] = 0 := rfl
theorem i_numberAfter (s : ByteArray) (hs : s.size ≤ maxLen) (w : World) : Calls Tryd.prog 41 #[.string s] w fun e w' => e = .returned (.int .i64 (nA (byt s))) ∧ Below w.heap.size w w' := by
 have Hs0 := Lib.hid hs
 unfold maxLen at hs
 have Hsz := Lib.hid (sz_list s)
 by_cases h0 : s.size = 0
 ·obtain ⟨⟨l⟩⟩ := s
  have hl : l = [] := List.eq_nil_of_length_eq_zero h0
  subst hl
  clear h0 Hsz Hs0 hs
  go_enter Tryd.func41, Tryd.ntmps41
  go_wp2_with fail
  go_ret
  exact ⟨rfl, Below.refl _ _⟩
 ·have hne : (s.toList == ([] : List UInt8)) = false := by
   rw [ByteArray.toList_eq, beq_eq_false_iff_ne]
   intro h
   exact h0 (by show s.data.toList.length = 0; rw [h]; rfl)
  have k1 : (1 : Int) ≤ (s.size : Int) := by omega
  go_enter Tryd.func41, Tryd.ntmps41
  go_wp2_with fail
  refine (i_ParseUint (s.extract 1 s.size) (by rw [ByteArray.size_extract]; unfold maxLen; omega) w).mono ?_
  rintro e w1 ⟨rfl, hb1⟩
  have Hea := Lib.hid (show (s.extract 1 s.size).data.toList = s.data.toList.tail by
   rw [ext_list, List.take_of_length_le (by rw [List.length_drop, ← Hsz.out]; omega)]
   cases s.data.toList <;> rfl)
  rw [Hea.out]
  cases hp : Tx.pu s.data.toList.tail with
  | none =>
   have Hp := Lib.hid (show pv s.data.toList.tail = 0 by unfold pv; rw [hp]; rfl)
   rw [puV_none hp]
   clear hp
   go_wp2_with fail
   go_ret
   exact ⟨by unfold nA byt; rw [Hp.out]; rfl, hb1⟩
  | some n =>
   have Hp := Lib.hid (show pv s.data.toList.tail = n by unfold pv; rw [hp]; rfl)
   rw [puV_some hp]
   clear hp
   go_wp2_with fail
   go_ret
   exact ⟨by unfold nA byt; rw [Hp.out]; rfl, hb1⟩
theorem s_l05Size (s : ByteArray) (hs : s.size ≤ maxLen) (w : World) : Calls Tryd.prog 30 #[.string s] w fun e w' => e = .returned (.int .i64 (szS (byt s))) ∧ Below w.heap.size w w' := by
 by_cases h0 : byt s = [87]
 ·have hne : (s.toList == ([87] : List UInt8)) = true := by rw [ByteArray.toList_eq, beq_iff_eq]; exact h0
  have H0 := Lib.hid (show szS (byt s) = 0 by unfold szS; rw [if_pos h0])
  clear h0
  go_enter Tryd.func30, Tryd.ntmps30
  go_wp2_with fail
  go_ret
  exact ⟨by rw [H0.out]; rfl, Below.refl _ _⟩
 ·have hne : (s.toList == ([87] : List UInt8)) = false := by rw [ByteArray.toList_eq, beq_eq_false_iff_ne]; exact h0
  have H0 := Lib.hid (show szS (byt s) = (match Tx.pu (byt s) with | some n => (n : Int) | none => -1) by unfold szS; rw [if_neg h0]; cases Tx.pu (byt s) <;> rfl)
  clear h0
  go_enter Tryd.func30, Tryd.ntmps30
  go_wp2_with fail
  refine (s_ParseUint s hs w).mono ?_
  rintro e w1 ⟨rfl, hb1⟩
  cases hp : Tx.pu s.data.toList with
  | none =>
   have Hp := Lib.hid (show szS (byt s) = -1 by rw [H0.out]; unfold byt; rw [hp])
   rw [puV_none hp]
   clear hp H0
   go_wp2_with fail
   go_ret
   exact ⟨by rw [Hp.out]; rfl, hb1⟩
  | some n =>
   have Hp := Lib.hid (show szS (byt s) = n by rw [H0.out]; unfold byt; rw [hp])
   rw [puV_some hp]
   clear hp H0
   go_wp2_with fail
   go_ret
   exact ⟨by rw [Hp.out]; rfl, hb1⟩

/-! ### lines -/
/-- the lines that end ahead of position k, and where the next one begins -/
def tln (s : ByteArray) : Nat → List ByteArray × Nat
 | 0 => ([], 0)
 | k + 1 => if s.data.toList.getD k 0 = 10 then ((tln s k).1 ++ [s.extract (tln s k).2 k], k + 1) else tln s k
def tlR (s : ByteArray) : List ByteArray := (tln s s.size).1 ++ [s.extract (tln s s.size).2 s.size]
theorem tln_bd (s : ByteArray) : ∀ k, (tln s k).1.length ≤ k ∧ (tln s k).2 ≤ k
 | 0 => ⟨by simp [tln], by simp [tln]⟩
 | k + 1 => by
  have ih := tln_bd s k
  rw [tln]
  split
  ·exact ⟨by simp; omega, Nat.le_refl _⟩
  ·omega
theorem tln_yes {s : ByteArray} {k : Nat} (h : s.data.toList.getD k 0 = 10) : tln s (k + 1) = ((tln s k).1 ++ [s.extract (tln s k).2 k], k + 1) := by rw [tln, if_pos h]
theorem tln_no {s : ByteArray} {k : Nat} (h : ¬ s.data.toList.getD k 0 = 10) : tln s (k + 1) = tln s k := by rw [tln, if_neg h]
theorem byte_get {s : ByteArray} {k : Nat} (h : k < s.size) : s.data.toList.getD k 0 = s[k] := by
 have hk : k < s.data.toList.length := by simpa using h
 simp [List.getD, List.getElem?_eq_getElem hk]
 rfl
theorem ext_size (s : ByteArray) (a b : Nat) : (s.extract a b).size ≤ s.size := by rw [ByteArray.size_extract]; omega
theorem tln_sz (s : ByteArray) : ∀ k, ∀ l ∈ (tln s k).1, l.size ≤ s.size
 | 0 => by simp [tln]
 | k + 1 => by
  intro l hl
  rw [tln] at hl
  split at hl
  ·rcases List.mem_append.1 hl with hl | hl
   ·exact tln_sz s k l hl
   ·rw [List.mem_singleton.1 hl]
    exact ext_size _ _ _
  ·exact tln_sz s k l hl
theorem tlR_sz (s : ByteArray) : ∀ l ∈ tlR s, l.size ≤ s.size := by
 intro l hl
 rcases List.mem_append.1 hl with hl | hl
 ·exact tln_sz s _ l hl
 ·rw [List.mem_singleton.1 hl]
  exact ext_size _ _ _
theorem tlR_len (s : ByteArray) : (tlR s).length ≤ s.size + 1 := by
 unfold tlR
 rw [List.length_append, List.length_singleton]
 have := (tln_bd s s.size).1
 omega
set_option maxRecDepth 100000 in
set_option maxHeartbeats 4000000 in
theorem i_textLines (s : ByteArray) (hs : s.size ≤ 1048576) (w : World) : Calls Tryd.prog 37 #[.string s] w fun e w' => ∃ A c, e = .returned (.slice A (tlR s).length c) ∧ w'.ownsRow w.heap.size 9 1 (.slice A (tlR s).length c) (tlR s).length (strs (tlR s)) ∧ Below w.heap.size w w' := by
 obtain ⟨i0, hi, hz0, hz1, hz2⟩ := info_parts Tryd.infoStr
 go_enter Tryd.func37, Tryd.ntmps37
 go_wp2_with fail
 go_loopw [3, 4, 5] (fun v b i wr => ∃ k : Nat, k ≤ s.size ∧ i = .int .i64 k ∧ b = .int .i64 ((tln s k).2 : Int) ∧ wr.ownsRow w.heap.size 9 1 v (tln s k).1.length (strs (tln s k).1) ∧ Below w.heap.size w wr) (fun _ _ i _ => s.size - (intOf i).toNat)
 case atStart => exact ⟨0, Nat.zero_le _, rfl, rfl, World.ownsRow_nil _ _ _ _, Below.refl _ _⟩
 case round =>
  obtain ⟨k, hk, rfl, rfl, hown, hb⟩ := hrel
  obtain ⟨hbd1, hbd2⟩ := tln_bd s k
  obtain ⟨A, c, rfl, _, _, _⟩ := own_form hown
  have hsz := hb.size
  have Hb := Lib.hid hb
  have Hown := Lib.hid hown
  have g1 : (0 : Int) ≤ (k : Int) := by omega
  have g3 : (0 : Int) ≤ ((tln s k).2 : Int) := by omega
  have g4 : ((tln s k).2 : Int) ≤ (k : Int) := by omega
  clear hb hown
  by_cases hlt : k < s.size
  ·have g2 : (k : Int) < (s.size : Int) := by omega
   have hx : s[k].toNat < 256 := s[k].toNat_lt
   by_cases h10 : s[k].toNat = 10
   ·have HS := Lib.hid (tln_yes (show s.data.toList.getD k 0 = 10 by rw [byte_get hlt]; exact UInt8.toNat_inj.1 h10))
    have hc : ((s[k].toNat : Int) == 10) = true := by simp; omega
    clear h10
    go_wp2_with (at_builtin; refine wpList_append_any _ rfl _ _ 43 rfl (w.heap.size) 9 i0 (.string ByteArray.empty) 1 16 Tryd.underlying43 hi hz0 hz1 hz2 rfl (by decide) _ _ _ rfl (Hown.out.alloc _) _ _ 1 1 _ rfl (reads_new _ _ 1 1 rfl) (by intro u hu; simp at hu; first | (subst hu; rfl) | (rcases hu with rfl | rfl <;> rfl) | (rcases hu with rfl | rfl | rfl <;> rfl)) (by unfold maxLen; omega) (by omega) (by (try simp) <;> (try omega)) ?_; intro v2 w2 hown2 hgrow2 hblk2)
    have hbb := below_push Hb.out Hown.out (Nat.le_refl _) hsz hgrow2
    have Hown2 := Lib.hid hown2
    clear hown2 hgrow2 hblk2
    go_wp2_with fail
    go_roundw
    case rel =>
     refine ⟨k + 1, by omega, by go_num, by rw [HS.out]; go_num, ?_, hbb⟩
     rw [HS.out, List.length_append, strs, List.map_append]
     exact Hown2.out
    case measure => simp [intOf]; omega
   ·have HS := Lib.hid (tln_no (show ¬ s.data.toList.getD k 0 = 10 by rw [byte_get hlt]; intro h; exact h10 (by rw [h]; rfl)))
    have hc : ((s[k].toNat : Int) == 10) = false := by simp; omega
    clear h10
    go_wp2_with fail
    go_roundw
    case rel => exact ⟨k + 1, by omega, by go_num, by rw [HS.out], by rw [HS.out]; exact Hown.out, Hb.out⟩
    case measure => simp [intOf]; omega
  ·obtain rfl : k = s.size := by omega
   have g5 : ((tln s s.size).2 : Int) ≤ (s.size : Int) := by omega
   go_wp2_with (at_builtin; refine wpList_append_any _ rfl _ _ 43 rfl (w.heap.size) 9 i0 (.string ByteArray.empty) 1 16 Tryd.underlying43 hi hz0 hz1 hz2 rfl (by decide) _ _ _ rfl (Hown.out.alloc _) _ _ 1 1 _ rfl (reads_new _ _ 1 1 rfl) (by intro u hu; simp at hu; first | (subst hu; rfl) | (rcases hu with rfl | rfl <;> rfl) | (rcases hu with rfl | rfl | rfl <;> rfl)) (by unfold maxLen; omega) (by omega) (by (try simp) <;> (try omega)) ?_; intro v2 w2 hown2 hgrow2 hblk2)
   have hbb := below_push Hb.out Hown.out (Nat.le_refl _) hsz hgrow2
   obtain ⟨A2, c2, rfl, _, _, _⟩ := own_form hown2
   have HL := Lib.hid (show (tlR s).length = (tln s s.size).1.length + 1 by unfold tlR; simp)
   have Hown2 := Lib.hid hown2
   clear hown2 hgrow2 hblk2
   go_wp2_with fail
   go_ret
   rw [HL.out]
   refine ⟨A2, c2, rfl, ?_, hbb⟩
   rw [show strs (tlR s) = strs (tln s s.size).1 ++ [.string (s.extract (tln s s.size).2 s.size)] by unfold tlR strs; rw [List.map_append]; rfl]
   exact Hown2.out

/-! ### the fields of the lines that have any -/
abbrev Fls := List (List ByteArray)
def flsS (a : Fls) (l : ByteArray) : Option Fls := if (spR l).2 = true then some (if (spR l).1 = [] then a else a ++ [(spR l).1]) else none
def flsF (ls : List ByteArray) : Option Fls := ls.foldlM flsS []
theorem fold_take {α β : Type} {f : β → α → Option β} {l : List α} {k : Nat} {x : α} (h : l[k]? = some x) (s : β) : (l.take (k + 1)).foldlM f s = ((l.take k).foldlM f s).bind fun t => f t x := by
 rw [List.take_add_one, h, List.foldlM_append]
 cases (l.take k).foldlM f s with
 | none => rfl
 | some t => simp
theorem fold_none {α β : Type} {f : β → α → Option β} {l : List α} {k : Nat} {s : β} (h : (l.take k).foldlM f s = none) : l.foldlM f s = none := by
 rw [← List.take_append_drop k l, List.foldlM_append, h]
 rfl
/-- fields as they come: no empty list, no empty field -/
def FlG (fs : Fls) : Prop := ∀ f ∈ fs, f ≠ [] ∧ f.length ≤ 40 ∧ ∀ x ∈ f, fldOk x
theorem fls_ok : ∀ (ls : List ByteArray) (a fs : Fls), FlG a → ls.foldlM flsS a = some fs → FlG fs ∧ fs.length ≤ a.length + ls.length
 | [], a, fs, ha, h => by
  simp at h
  subst h
  exact ⟨ha, by simp⟩
 | l :: ls, a, fs, ha, h => by
  rw [List.foldlM_cons] at h
  unfold flsS at h
  by_cases h2 : (spR l).2 = true
  ·rw [if_pos h2] at h
   by_cases h3 : (spR l).1 = []
   ·rw [if_pos h3] at h
    have h4 := fls_ok ls a fs ha h
    exact ⟨h4.1, by have := h4.2; simp; omega⟩
   ·rw [if_neg h3] at h
    have h4 := fls_ok ls (a ++ [(spR l).1]) fs (fun f hf => by
     rcases List.mem_append.1 hf with hf | hf
     ·exact ha f hf
     ·rw [List.mem_singleton.1 hf]
      exact ⟨h3, spR_len l, spR_fld⟩) h
    exact ⟨h4.1, by have := h4.2; simp at this ⊢; omega⟩
  ·rw [if_neg h2] at h
   cases h
/-- lists of texts in memory, each in a row of its own -/
def FlR (w : World) (base : Nat) (ov : Value) (fs : Fls) : Prop :=
 ∃ vals : List Value, w.ownsRow base 43 1 ov fs.length vals ∧ ∀ (i : Nat) (f : List ByteArray), fs[i]? = some f → ∃ (A : Option Addr) (c : Nat), vals[i]? = some (Value.slice A f.length c) ∧ w.ownsRow base 9 1 (.slice A f.length c) f.length (strs f)
theorem FlR.nil (w : World) (base : Nat) : FlR w base (.slice none 0 0) [] := ⟨[], World.ownsRow_nil _ _ _ _, fun i f h => by simp at h⟩
theorem FlR.below {w w' : World} {base B : Nat} {ov : Value} {fs : Fls} (h : FlR w base ov fs) (hb : Below B w w') (hB : w.heap.size ≤ B) : FlR w' base ov fs := by
 obtain ⟨vals, h1, h2⟩ := h
 refine ⟨vals, own_below h1 hb hB, fun i f hf => ?_⟩
 obtain ⟨A, c, h3, h4⟩ := h2 i f hf
 exact ⟨A, c, h3, own_below h4 hb hB⟩
theorem FlR.len {w : World} {base : Nat} {ov : Value} {fs : Fls} (h : FlR w base ov fs) : ∃ A c, ov = .slice A fs.length c := by
 obtain ⟨vals, h1, _⟩ := h
 obtain ⟨A, c, h2, _⟩ := own_form h1
 exact ⟨A, c, h2⟩
theorem FlR.push {w w' : World} {base : Nat} {ov ov' : Value} {vals : List Value} {fs : Fls} {f : List ByteArray} {A : Option Addr} {c : Nat}
  (h1 : w.ownsRow base 43 1 ov fs.length vals) (h2 : ∀ (i : Nat) (f : List ByteArray), fs[i]? = some f → ∃ (A : Option Addr) (c : Nat), vals[i]? = some (Value.slice A f.length c) ∧ w.ownsRow base 9 1 (.slice A f.length c) f.length (strs f))
  (hf : w.ownsRow base 9 1 (.slice A f.length c) f.length (strs f)) (ho : w'.ownsRow base 43 1 ov' (fs.length + 1) (vals ++ [.slice A f.length c])) (hg : w.grownBy w' ov.ownBlock) : FlR w' base ov' (fs ++ [f]) := by
 have hk : ∀ {A : Option Addr} {c : Nat} {f : List ByteArray}, w.ownsRow base 9 1 (.slice A f.length c) f.length (strs f) → w'.ownsRow base 9 1 (.slice A f.length c) f.length (strs f) := fun {A c f} h =>
  own_keep h (fun g hg' => (only_row hg).block g (h.lt g hg').2 (fun hC => absurd ((own_of h1 hC).inj (own_of h hg')) (by decide)))
 have hvl : vals.length = fs.length := by have := h1.1; omega
 refine ⟨vals ++ [.slice A f.length c], by rw [List.length_append]; exact ho, fun i f' hi => ?_⟩
 by_cases hlt : i < fs.length
 ·rw [List.getElem?_append_left hlt] at hi
  obtain ⟨A', c', h3, h4⟩ := h2 i f' hi
  exact ⟨A', c', by rw [List.getElem?_append_left (by omega)]; exact h3, hk h4⟩
 ·have hie : i = fs.length := by
   have := (List.getElem?_eq_some_iff.1 hi).1
   simp at this
   omega
  subst hie
  rw [List.getElem?_append_right (Nat.le_refl _), Nat.sub_self] at hi
  injection hi with hi
  subst hi
  exact ⟨A, c, by rw [List.getElem?_append_right (by omega), hvl, Nat.sub_self]; rfl, hk hf⟩
theorem FlR.lo {w : World} {base base' : Nat} {ov : Value} {fs : Fls} (h : FlR w base ov fs) (hb : base' ≤ base) : FlR w base' ov fs := by
 obtain ⟨vals, h1, h2⟩ := h
 refine ⟨vals, own_mono h1 hb, fun i f hf => ?_⟩
 obtain ⟨A, c, h3, h4⟩ := h2 i f hf
 exact ⟨A, c, h3, own_mono h4 hb⟩
theorem Tryd.infoStrS : (Tryd.prog.info? 43).map (fun i => (i.zero, i.size, i.bytes)) = some (some (.slice none 0 0), 1, 24) := by kernel_rfl
def FlsQ (o : Option Fls) (w : World) (e : Ending) (w' : World) : Prop := Below w.heap.size w w' ∧ match o with
 | none => e = .returned (.tuple #[.slice none 0 0, .bool false])
 | some fs => ∃ ov, e = .returned (.tuple #[ov, .bool true]) ∧ FlR w' w.heap.size ov fs
set_option maxRecDepth 100000 in
set_option maxHeartbeats 4000000 in
theorem i_fieldLines (s : ByteArray) (hs : s.size ≤ 20000) (w : World) : Calls Tryd.prog 18 #[.string s] w (FlsQ (flsF (tlR s)) w) := by
 obtain ⟨i0, hi, hz0, hz1, hz2⟩ := info_parts Tryd.infoStrS
 go_enter Tryd.func18, Tryd.ntmps18
 go_wp2_with fail
 refine (i_textLines s (by omega) w).mono ?_
 rintro e w1 ⟨A1, c1, rfl, ho1, hb1⟩
 obtain ⟨ls, hls⟩ : ∃ ls, ls = tlR s := ⟨_, rfl⟩
 have hln : ls.length ≤ 20001 := by rw [hls]; have := tlR_len s; omega
 have hlz : ∀ l ∈ ls, l.size ≤ 20000 := by rw [hls]; intro l hl; have := tlR_sz s l hl; omega
 rw [← hls] at ho1 ⊢
 obtain ⟨n1, hn1⟩ : ∃ n1, ls.length = n1 := ⟨_, rfl⟩
 rw [hn1] at ho1 hln ⊢
 have Hls := Lib.hid hls
 have HO1 := Lib.hid ho1
 have HB1 := Lib.hid hb1
 have Hn1 := Lib.hid hn1
 have zz1 := hb1.size
 clear hls ho1 hb1 hn1
 go_wp2_with fail
 go_loopw [4, 6, 7, 8, 12] (fun ov _ _ _ iv wr => ∃ (k : Nat) (fs : Fls), k ≤ n1 ∧ iv = .int .i64 k ∧ Hid ((ls.take k).foldlM flsS [] = some fs) ∧ FlR wr w1.heap.size ov fs ∧ Below w1.heap.size w1 wr) (fun _ _ _ _ iv _ => n1 - (intOf iv).toNat)
 case atStart => exact ⟨0, [], Nat.zero_le _, rfl, Lib.hid rfl, FlR.nil _ _, Below.refl _ _⟩
 case round =>
  obtain ⟨k, fs, hk, rfl, hfs, hfr, hb⟩ := hrel
  have Hfs := Lib.hid hfs.out
  have Hfr := Lib.hid hfr
  have Hb := Lib.hid hb
  have hsz := hb.size
  have g1 : (0 : Int) ≤ (k : Int) := by omega
  have hfl := (fls_ok _ _ _ (fun f hf => by simp at hf) hfs.out).2
  rw [List.length_take, List.length_nil] at hfl
  obtain ⟨vals, ho, hva⟩ := hfr
  obtain ⟨Ao, co, rfl, _, _, _⟩ := own_form ho
  have Ho := Lib.hid ho
  have Hva := Lib.hid hva
  clear hfs hb ho hva
  by_cases hlt : k < n1
  ·have hx : ls[k]? = some (ls[k]'(by have := Hn1.out; omega)) := List.getElem?_eq_getElem _
   generalize hlk : ls[k]'(by have := Hn1.out; omega) = l at hx
   have hlz2 := hlz l (List.mem_of_getElem? hx)
   obtain ⟨g0, hg0⟩ : ∃ g, A1 = some ⟨g, 0, none⟩ := by
    obtain ⟨_, _, hv, _, _, h2⟩ := own_form HO1.out
    injection hv with hA
    obtain ⟨g, h3, _⟩ := h2 (by omega)
    exact ⟨g, hA.trans h3⟩
   subst hg0
   have hc : wr.cell? ⟨g0, k, none⟩ = some (.string l) := by
    have h1 := (own_below HO1.out Hb.out (Nat.le_refl _)).cellAt k (by omega)
    rw [strs_get, hx] at h1
    exact h1
   have g2 : (k : Int) < (n1 : Int) := by omega
   have Hx := Lib.hid hx
   clear hlk hx
   go_wp2_with fail
   refine (i_SplitFields l (by unfold maxLen; omega) wr).mono ?_
   rintro e w2 ⟨A2, c2, rfl, ho2, hb2⟩
   have HB2 := Lib.hid (Hb.out.trans (hb2.mono hsz))
   have zz2 := hb2.size
   have HO2 := Lib.hid (own_up' (base' := w1.heap.size) ho2 (fun g hg => by have := (ho2.lt g hg).1; omega))
   have Hoo := Lib.hid (own_below Ho.out hb2 (Nat.le_refl _))
   have Hfr2 := Lib.hid (Hfr.out.below hb2 (Nat.le_refl _))
   have Hva2 := Lib.hid (fun (i : Nat) (f : List ByteArray) (h : fs[i]? = some f) => by
    obtain ⟨A, c, h1, h2⟩ := Hva.out i f h
    exact (⟨A, c, h1, own_below h2 hb2 (Nat.le_refl _)⟩ : ∃ (A : Option Addr) (c : Nat), vals[i]? = some (Value.slice A f.length c) ∧ w2.ownsRow w1.heap.size 9 1 (Value.slice A f.length c) f.length (strs f)))
   clear hc ho2 hb2
   cases hok : (spR l).2 with
   | false =>
    have HN := Lib.hid (show flsF ls = none from fold_none (k := k + 1) (by rw [fold_take Hx.out, Hfs.out]; show flsS fs l = none; unfold flsS; rw [if_neg (by rw [hok]; simp)]))
    clear hok
    go_wp2_with fail
    go_ret2
    unfold FlsQ
    rw [← Hls.out, HN.out]
    exact ⟨HB1.out.trans (HB2.out.mono zz1), rfl⟩
   | true =>
    by_cases hem : (spR l).1 = []
    ·have HS := Lib.hid (show (ls.take (k + 1)).foldlM flsS [] = some fs by rw [fold_take Hx.out, Hfs.out]; show flsS fs l = some fs; unfold flsS; rw [if_pos hok, if_pos hem])
     rw [hem]
     clear hok hem
     go_wp2_with fail
     go_roundw
     case rel => exact ⟨k + 1, fs, by omega, by go_num, HS, Hfr2.out, HB2.out⟩
     case measure => simp [intOf]; omega
    ·have HS := Lib.hid (show (ls.take (k + 1)).foldlM flsS [] = some (fs ++ [(spR l).1]) by rw [fold_take Hx.out, Hfs.out]; show flsS fs l = _; unfold flsS; rw [if_pos hok, if_neg hem])
     obtain ⟨f, hf⟩ : ∃ f, f = (spR l).1 := ⟨_, rfl⟩
     have hfp : 0 < f.length := by rw [hf]; exact List.length_pos_iff.2 hem
     rw [← hf] at HS HO2 ⊢
     have hfz : (0 : Int) < (f.length : Int) := by omega
     clear hok hem hf
     go_wp2_with (at_builtin; refine wpList_append_any _ rfl _ _ 50 rfl (w1.heap.size) 43 i0 (.slice none 0 0) 1 24 Tryd.underlying50 hi hz0 hz1 hz2 rfl (by decide) _ _ _ rfl (Hoo.out.alloc _) _ _ 1 1 _ rfl (reads_new _ _ 1 1 rfl) (by intro u hu; simp at hu; first | (subst hu; rfl) | (rcases hu with rfl | rfl <;> rfl) | (rcases hu with rfl | rfl | rfl <;> rfl)) (by unfold maxLen; omega) (by omega) (by (try simp) <;> (try omega)) ?_; intro v8 w8 hown8 hgrow8 hblk8)
     have hbl := (Below.refl w2.heap.size w2).alloc (Nat.le_refl _) (.cells #[Value.slice A2 f.length c2] 43)
     have HF8 := Lib.hid (FlR.push (own_below Hoo.out hbl (Nat.le_refl _)) (fun i f' h => by obtain ⟨A, c, h1, h2⟩ := Hva2.out i f' h; exact ⟨A, c, h1, own_below h2 hbl (Nat.le_refl _)⟩) (own_below HO2.out hbl (Nat.le_refl _)) hown8 hgrow8)
     have HB8 := Lib.hid (HB2.out.trans ((hbl.mono (by omega)).trans (below_of_grown hgrow8 (by simp; omega) (fun g hg => (Hoo.out.lt g hg).1))))
     clear hown8 hgrow8 hblk8 hbl
     go_wp2_with fail
     go_roundw
     case rel => exact ⟨k + 1, fs ++ [f], by omega, by go_num, HS, HF8.out, HB8.out⟩
     case measure => simp [intOf]; omega
  ·have hge : (n1 : Int) ≤ (k : Int) := by omega
   have HN := Lib.hid (show flsF ls = some fs by have h1 := Hfs.out; rw [List.take_of_length_le (by have := Hn1.out; omega)] at h1; exact h1)
   go_wp2_with fail
   go_ret2
   unfold FlsQ
   rw [← Hls.out, HN.out]
   exact ⟨HB1.out.trans (Hb.out.mono zz1), _, rfl, Hfr.out.lo zz1⟩
end Go.Proofs.YthjdigcpgpiiiaaDoor

/- Contracts: fields joined by single spaces (the program's joinWords; lists of fields). -/
namespace Go.Proofs.YthjdigcpgpiiiaaDoor
open Go.RowKit

theorem joinW_snoc {l : List Wd8} (h : l ≠ []) (x : Wd8) : joinW (l ++ [x]) = joinW l ++ ([32] ++ x) := by
 match l, h with
 | a :: l, _ =>
  show a ++ (l ++ [x]).flatMap _ = (a ++ l.flatMap _) ++ _
  rw [List.flatMap_append, List.append_assoc]
  simp
theorem joinW_len : ∀ {l : List Wd8} {N : Nat}, (∀ x ∈ l, x.length ≤ N) → (joinW l).length ≤ (N + 1) * l.length
 | [], _, _ => by simp [joinW]
 | a :: l, N, h => by
  have h1 := h a (by simp)
  have h2 := flat_len (f := fun g : Wd8 => (32 : UInt8) :: g) (N := N + 1) (l := l) (fun x hx => by have := h x (by simp [hx]); simp; omega)
  have e : joinW (a :: l) = a ++ l.flatMap fun g : Wd8 => (32 : UInt8) :: g := rfl
  rw [e, List.length_append, List.length_cons, Nat.mul_add, Nat.mul_comm (N + 1) l.length]
  generalize l.length * (N + 1) = P at h2 ⊢
  omega
set_option maxRecDepth 100000 in
set_option maxHeartbeats 4000000 in
theorem i_joinWords {w : World} {B : Nat} {A : Option Addr} {n c : Nat} {l : List ByteArray} (h : Reads w B 1 A n (strs l)) (hn : n ≤ 40) (hz : ∀ x ∈ l, x.size ≤ 600) :
  Calls Tryd.prog 19 #[.slice A n c, .string ⟨#[32]⟩] w fun e w' => e = .returned (.string ⟨(joinW (l.map byt)).toArray⟩) ∧ w = w' := by
 have hl := h.slen
 have Hl := Lib.hid hl
 have Hz := Lib.hid hz
 have H := Lib.hid h
 clear hl hz h
 go_enter Tryd.func19, Tryd.ntmps19
 go_wp2_with fail
 go_loopw [5, 6, 7, 10] (fun tv _ _ iv wr => ∃ (z : Int) (t : List UInt8), 0 ≤ z ∧ z ≤ n ∧ iv = .int .i64 z ∧ tv = .string ⟨t.toArray⟩ ∧ Hid (t = joinW ((l.take z.toNat).map byt)) ∧ wr = w) (fun _ _ _ iv _ => n - (intOf iv).toNat)
 case atStart => exact ⟨0, [], Int.le_refl _, by omega, rfl, rfl, Lib.hid rfl, rfl⟩
 case round =>
  obtain ⟨z, t, hz0, hzn, rfl, rfl, ht, rfl⟩ := hrel
  obtain ⟨k, hk⟩ : ∃ k, k = z.toNat := ⟨_, rfl⟩
  have Hk := Lib.hid hk
  have hkz : z = (k : Int) := by omega
  have Hkz := Lib.hid hkz
  have htl : t.length ≤ 24040 := by
   rw [ht.out]
   have h1 := joinW_len (l := (l.take z.toNat).map byt) (N := 600) (fun x hx => by
    obtain ⟨y, hy, rfl⟩ := List.mem_map.1 hx
    exact Hz.out y (List.mem_of_mem_take hy))
   rw [List.length_map, List.length_take] at h1
   omega
  by_cases hlt : z < n
  ·obtain ⟨ad, x, rfl, hab, hx, hc⟩ := H.out.str_at (k := z.toNat) (by omega)
   have hxz := Hz.out x (List.mem_of_getElem? hx)
   obtain ⟨y, hy⟩ : ∃ y, x = (⟨y.toArray⟩ : ByteArray) := ⟨x.data.toList, rfl⟩
   have hyb : byt x = y := by rw [hy]
   have hyl : y.length ≤ 600 := by rw [← hyb]; exact hxz
   rw [hy] at hc
   have hm : (l.take (z.toNat + 1)).map byt = (l.take z.toNat).map byt ++ [y] := by rw [List.take_add_one, hx, List.map_append, ← hyb]; rfl
   have Hm := Lib.hid hm
   have Hz1 := Lib.hid (show (z + 1).toNat = z.toNat + 1 by omega)
   clear hx hy hyb hm hxz hk hkz
   by_cases hk0 : 0 < z
   ·have hne : (l.take z.toNat).map byt ≠ [] := by
     intro h0
     have h1 := congrArg List.length h0
     rw [List.length_map, List.length_take, List.length_nil] at h1
     have := Hl.out
     omega
    have Hs := Lib.hid (joinW_snoc hne y)
    have hsum1 : (t.length : Int) + 1 ≤ 8388608 := by omega
    have hsum2 : (t.length : Int) + 1 + (y.length : Int) ≤ 8388608 := by omega
    clear hne
    go_wp2_with fail
    go_roundw
    case rel => exact ⟨z + 1, t ++ ([32] ++ y), by omega, by omega, by go_num, by rw [← cat_three], Lib.hid (by rw [Hz1.out, Hm.out, Hs.out, ht.out]), trivial⟩
    case measure => simp [intOf]; omega
   ·have Hz0 := Lib.hid (show z.toNat = 0 by omega)
    have ht0 : t = [] := by rw [ht.out, Hz0.out]; rfl
    subst ht0
    have hsum1 : (0 : Int) + (y.length : Int) ≤ 8388608 := by omega
    have hsum2 : (y.length : Int) ≤ 8388608 := by omega
    go_wp2_with fail
    go_roundw
    case rel => exact ⟨z + 1, [] ++ y, by omega, by omega, by go_num, by rw [← cat_two], Lib.hid (by rw [Hz1.out, Hm.out, Hz0.out]; simp [joinW]), trivial⟩
    case measure => simp [intOf]; omega
  ·have HT := Lib.hid (show t = joinW (l.map byt) by rw [ht.out, List.take_of_length_le (by have := Hl.out; omega)])
   clear ht hk hkz
   go_wp2_with fail
   go_ret
   exact ⟨by rw [← HT.out]; rfl, rfl⟩
end Go.Proofs.YthjdigcpgpiiiaaDoor

/- Words for the reading of lines: instances that grow, the open module behind a pointer; the closure that picks a field. -/
namespace Go.Proofs.YthjdigcpgpiiiaaDoor
open Go.RowKit

section
variable {w w' w0 : World} {lo : Nat} {v0 v1 v2 v3 v' : Value} {sg : List TSignal} {ag : List TAssign} {mm : List TMem} {ins : List TInst}
/-- an instance; its ports lie in a block of their own, made since w0 -/
theorem InS.pushI {a b : Int} {ps : List Int} {A : Option Addr} {no c base : Nat} {R : Nat → Prop} {xs : List Value} (h1 : RwS w lo 78 3 3 v2 (ins.map rInst) R xs) (hR : ∀ b, R b → b < w0.heap.size) (hlo : lo ≤ w0.heap.size) (hb : w0.heap.size ≤ base)
  (ho : w.ownsRow base 3 1 (.slice A no c) no (ints ps)) (hm : no ≤ maxLen)
  (hown : w'.ownsRow lo 78 3 v' (ins.length + 1) (xs ++ [.int .i64 a, .int .i64 b, .slice A no c])) (hg : w.grownBy w' v2.ownBlock) : InS w' lo v' (ins ++ [(a, b, ps)]) := by
 refine ⟨fun b => R b ∨ ∃ j : Nat, j = 2 ∧ (Value.slice A no c).ownBlock = some b, xs ++ [.int .i64 a, .int .i64 b, .slice A no c], ?_⟩
 rw [List.map_append]
 refine RwS.push (w0 := w0) (row := rInst (a, b, ps)) (Q := fun j b => j = 2 ∧ (Value.slice A no c).ownBlock = some b) hR h1 hlo (by decide) (by rw [List.length_map]; exact hown) hg rfl (fun j b hj => ⟨Nat.le_trans hb (ho.lt b hj.2).1, own_of ho hj.2⟩) (fun j j' b h1 h2 => h1.1.trans h2.1.symm) (fun j f hf => ?_)
 match j, hf with
 | 0, hf => simp [rInst] at hf; subst hf; exact ⟨_, rfl, .int _ _⟩
 | 1, hf => simp [rInst] at hf; subst hf; exact ⟨_, rfl, .int _ _⟩
 | 2, hf =>
  simp [rInst] at hf
  subst hf
  exact ⟨_, rfl, sep_ints hm (own_mono ho (Nat.zero_le _)) (fun g hg => ⟨rfl, hg⟩)⟩
 | j + 3, hf => simp [rInst] at hf
/-- a row of another type grows -/
theorem InS.grown {base size n : Nat} {t : TypeId} {v : Value} {xs : List Value} (h : InS w lo v2 ins) (ho : w.ownsRow base t size v n xs) (ht : t ∉ [78, 3]) (hg : w.grownBy w' v.ownBlock) : InS w' lo v2 ins := h.only (only_row hg) (grown_not ho ht)
theorem FlS.grown {base size n : Nat} {t : TypeId} {v : Value} {xs : List Value} (h : FlS w lo v0 v1 v3 sg ag mm) (ho : w.ownsRow base t size v n xs) (ht : t ∉ [66, 71, 73, 80]) (hg : w.grownBy w' v.ownBlock) : FlS w' lo v0 v1 v3 sg ag mm := h.only (only_row hg) (grown_not ho ht)
theorem InS.set {g : Nat} {t : TypeId} (h : InS w lo v2 ins) (hb : OfT w t g) (ht : t ∉ [78, 3]) (i : Nat) (u : Value) : InS (w.setCell ⟨g, i, none⟩ u) lo v2 ins :=
 h.only ((Only.refl (fun b => b = g) w).setCell (p := ⟨g, i, none⟩) (.inl rfl) u) (fun b t' hb' _ ht' => by subst hb'; rw [← hb.inj ht']; exact ht)
theorem FlS.set {g : Nat} {t : TypeId} (h : FlS w lo v0 v1 v3 sg ag mm) (hb : OfT w t g) (ht : t ∉ [66, 71, 73, 80]) (i : Nat) (u : Value) : FlS (w.setCell ⟨g, i, none⟩ u) lo v0 v1 v3 sg ag mm :=
 h.only ((Only.refl (fun b => b = g) w).setCell (p := ⟨g, i, none⟩) (.inl rfl) u) (fun b t' hb' _ ht' => by subst hb'; rw [← hb.inj ht']; exact ht)
end
/-- the last module of a row of modules, open: its four lists grow from lo on -/
structure OpM (w : World) (lo gm q c : Nat) (xs0 : List Value) (v0 v1 v2 v3 : Value) (m : TModule) : Prop where
 row : w.ownsRow 0 42 4 (.slice (some ⟨gm, 0, none⟩) (q + 1) c) (q + 1) (xs0 ++ [v0, v1, v2, v3])
 len : xs0.length = q * 4
 lt : gm < lo
 fl : FlS w lo v0 v1 v3 m.1 m.2.1 m.2.2.2
 ins : InS w lo v2 m.2.2.1
theorem OpM.cells {w : World} {lo gm q c : Nat} {xs0 : List Value} {v0 v1 v2 v3 : Value} {m : TModule} (h : OpM w lo gm q c xs0 v0 v1 v2 v3 m) :
  w.cell? ⟨gm, q * 4, none⟩ = some v0 ∧ w.cell? ⟨gm, q * 4 + 1, none⟩ = some v1 ∧ w.cell? ⟨gm, q * 4 + 2, none⟩ = some v2 ∧ w.cell? ⟨gm, q * 4 + 3, none⟩ = some v3 := by
 have h0 : ∀ j u, [v0, v1, v2, v3][j]? = some u → w.cell? ⟨gm, q * 4 + j, none⟩ = some u := fun j u hj => by
  have hj4 : j < 4 := (List.getElem?_eq_some_iff.1 hj).1
  have h1 := h.row.cellAt (q * 4 + j) (by omega)
  rw [List.getElem?_append_right (by rw [h.len]; omega), h.len, Nat.add_sub_cancel_left, hj] at h1
  exact h1
 exact ⟨h0 0 v0 rfl, h0 1 v1 rfl, h0 2 v2 rfl, h0 3 v3 rfl⟩
theorem at0_some {fs : List ByteArray} {i : Nat} {x : ByteArray} (h : fs[i]? = some x) : at0 (fs.map byt) i = byt x := by
 unfold at0
 rw [List.getD, List.getElem?_map, h]
 rfl
theorem at0_none {fs : List ByteArray} {i : Nat} (h : fs.length ≤ i) : at0 (fs.map byt) i = [] := by
 unfold at0
 rw [List.getD, List.getElem?_map, List.getElem?_eq_none h]
 rfl
set_option maxRecDepth 100000 in
set_option maxHeartbeats 4000000 in
theorem i_at {w : World} {g fb n c : Nat} {A : Option Addr} {fs : List ByteArray} (hX : Blk w g 43 #[.slice A n c]) (hr : w.ownsRow fb 9 1 (.slice A n c) n (strs fs)) (i : Nat) :
  Calls Tryd.prog 39 #[.int .i64 i, .pointer (some ⟨g, 0, none⟩)] w fun e w' => e = .returned (.string (bt (at0 (fs.map byt) i))) ∧ w = w' := by
 have x0 := blkS1 hX
 have R := Reads.of_own hr
 have hl := R.slen
 have g1 : (0 : Int) ≤ (i : Int) := by omega
 by_cases h : i < n
 ·obtain ⟨ad, x, rfl, hab, hx, hc⟩ := R.str_at h
  have HA := Lib.hid (at0_some hx)
  have g2 : (i : Int) < (n : Int) := by omega
  clear hx hl hr R
  go_enter Tryd.func39, Tryd.ntmps39
  go_wp2_with fail
  go_ret
  exact ⟨by rw [HA.out]; rfl, rfl⟩
 ·have HA := Lib.hid (at0_none (fs := fs) (i := i) (by omega))
  have g2 : (n : Int) ≤ (i : Int) := by omega
  clear hl hr R
  go_enter Tryd.func39, Tryd.ntmps39
  go_wp2_with fail
  go_ret
  exact ⟨by rw [HA.out]; rfl, rfl⟩
end Go.Proofs.YthjdigcpgpiiiaaDoor

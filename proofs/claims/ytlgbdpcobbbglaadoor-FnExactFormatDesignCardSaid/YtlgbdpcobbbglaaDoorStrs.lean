/- Contracts: lists of texts in the laws: equality, marks, whether the marks are held. -/
import Derived.Test.YtlgbdpcobbbglaaDoorGa
import Derived.Test.YtlgbdpcobbbglaaDoorFmtS
namespace Go.Proofs.YtlgbdpcobbbglaaDoor
open Go.RowKit

def strs (l : List ByteArray) : List Value := l.map Value.string
theorem strs_len (l : List ByteArray) : (strs l).length = l.length := by simp [strs]
theorem strs_get (l : List ByteArray) (k : Nat) : (strs l)[k]? = l[k]?.map Value.string := by simp [strs]
theorem Tryd.infoStr : (Tryd.prog.info? 9).map (fun i => (i.zero, i.size, i.bytes)) = some (some (.string ByteArray.empty), 1, 16) := by kernel_rfl

theorem Reads.str_at {w : World} {B n : Nat} {A : Option Addr} {l : List ByteArray} (h : Reads w B 1 A n (strs l)) {k : Nat} (hk : k < n) :
  ∃ ad x, A = some ad ∧ ad.block < B ∧ l[k]? = some x ∧ w.cell? (ad.add k) = some (.string x) := by
 obtain ⟨ad, u, rfl, hb, hu, hc⟩ := h.at_ hk
 rw [strs_get] at hu
 cases hx : l[k]? with
 | none => rw [hx] at hu; cases hu
 | some x => rw [hx] at hu; injection hu with hu; subst hu; exact ⟨ad, x, rfl, hb, rfl, hc⟩
theorem Reads.slen {w : World} {B n : Nat} {A : Option Addr} {l : List ByteArray} (h : Reads w B 1 A n (strs l)) : l.length = n := by
 have := h.1; rw [strs_len] at this; omega
theorem str_ne {x y : ByteArray} (h : ¬ x = y) : (x.toList == y.toList) = false := by
 rw [beq_eq_false_iff_ne]
 intro he
 rw [ByteArray.toList_eq, ByteArray.toList_eq] at he
 apply h
 apply ByteArray.ext
 exact Array.toList_inj.1 he

set_option maxRecDepth 100000 in
set_option maxHeartbeats 1000000 in
theorem l_eqStringS {w : World} {B B' : Nat} {A A' : Option Addr} {n m c c' : Nat} {l l' : List ByteArray} (hn : n ≤ 1099511627776) (hm : m ≤ 1099511627776) (h : Reads w B 1 A n (strs l)) (h' : Reads w B' 1 A' m (strs l')) (hB : B ≤ w.heap.size) (hB' : B' ≤ w.heap.size) :
  Calls Tryd.prog 11 #[.slice A n c, .slice A' m c'] w fun e w' => e = .returned (.bool (decide (l = l'))) ∧ Below w.heap.size w w' := by
 have hl := h.slen
 have hl' := h'.slen
 by_cases hnm : n = m
 ·subst hnm
  have Hl := Lib.hid hl
  have Hl' := Lib.hid hl'
  clear hl hl'
  go_enter Tryd.func11, Tryd.ntmps11
  go_wp2
  go_loopw [5] (fun i wr => ∃ k : Nat, k ≤ n ∧ i = .int .i64 k ∧ l.take k = l'.take k ∧ Below w.heap.size w wr) (fun i _ => n - (intOf i).toNat)
  case atStart => exact ⟨0, Nat.zero_le _, rfl, rfl, Below.refl _ _⟩
  case round =>
   obtain ⟨k, hk, rfl, heq, hb⟩ := hrel
   have Heq := Lib.hid heq
   have Hb := Lib.hid hb
   clear heq hb
   by_cases hlt : k < n
   ·obtain ⟨ad, x, rfl, hab, hx, hc⟩ := h.str_at hlt
    obtain ⟨ad', x', rfl, hab', hx', hc'⟩ := h'.str_at hlt
    have e1 := (Hb.out.cell (p := ad.add k) (by rw [block_of_add]; omega)).trans hc
    have e2 := (Hb.out.cell (p := ad'.add k) (by rw [block_of_add]; omega)).trans hc'
    have Hx := Lib.hid hx
    have Hx' := Lib.hid hx'
    clear hc hc' hx hx'
    have g1 : (0 : Int) ≤ (k : Int) := by omega
    have g2 : (k : Int) < (n : Int) := by omega
    by_cases hxx : x = x'
    ·subst hxx
     go_wp2_with fail
     refine wp_region_lex (by kernel_rfl) (by kernel_rfl) (Cls (fun x => x = wr.drew)) (Cls.mk' rfl) ?_
     have lexNE : Nonempty (Wd (fun x => x = wr.drew)) := ⟨⟨_, rfl⟩⟩
     have lexW : ∀ W : Wd (fun x => x = wr.drew), W.val = wr.drew := fun W => W.ok
     (repeat (first | (refine lex_r fun K hK => ?_; go_big_quiet_op; refine hK _ ?_; clear hK K) | (refine lex_k fun K hK => ?_; go_simp; refine hK _ ?_; clear hK K)))
     (refine lex_nil ?_)
     clear lexNE lexW
     go_wp2_with fail
     go_roundw
     case rel =>
      refine ⟨k + 1, by omega, by go_num, ?_, Hb.out.drew⟩
      rw [List.take_add_one, List.take_add_one, Heq.out, Hx.out, Hx'.out]
     case measure => simp [intOf]; omega
    ·have hne := str_ne hxx
     have Hxx := Lib.hid hxx
     clear hxx
     go_wp2_with fail
     refine wp_region_lex (by kernel_rfl) (by kernel_rfl) (Cls (fun x => x = wr.drew)) (Cls.mk' rfl) ?_
     have lexNE : Nonempty (Wd (fun x => x = wr.drew)) := ⟨⟨_, rfl⟩⟩
     have lexW : ∀ W : Wd (fun x => x = wr.drew), W.val = wr.drew := fun W => W.ok
     (repeat (first | (refine lex_r fun K hK => ?_; go_big_quiet_op; refine hK _ ?_; clear hK K) | (refine lex_k fun K hK => ?_; go_simp; refine hK _ ?_; clear hK K)))
     (refine lex_nil ?_)
     clear lexNE lexW
     go_wp2_with fail
     go_ret
     refine ⟨ret_bool ?_, Hb.out.drew⟩
     have : l ≠ l' := by
      rintro rfl
      have h1 := Hx.out
      rw [Hx'.out] at h1
      injection h1 with h1
      exact Hxx.out h1.symm
     simp [this]
   ·have hke : k = n := by omega
    subst hke
    go_wp2_with fail
    go_ret
    refine ⟨ret_bool ?_, Hb.out⟩
    have h1 := Heq.out
    have h2 := Hl.out
    have h3 := Hl'.out
    rw [List.take_of_length_le (by omega), List.take_of_length_le (by omega)] at h1
    simp [h1]
 ·have hne : ((n : Int) != (m : Int)) = true := by simp; omega
  have hll : l ≠ l' := by rintro rfl; omega
  have Hll := Lib.hid hll
  clear hl hl' hll
  go_enter Tryd.func11, Tryd.ntmps11
  go_wp2
  go_ret
  exact ⟨ret_bool (by simp [Hll.out]), Below.refl _ _⟩

/-- the text of a mark -/
def mtx (k : Int) : ByteArray := ⟨(109 :: Tx.dg 20 k.natAbs []).toArray⟩

theorem digM {x : Int} (h : 0 < x) : ((UInt8.ofNat (48 + x.natAbs % 10)).toNat : Int) = 48 + x % 10 := by
 rw [Tx.of48]; omega

set_option maxRecDepth 100000 in
set_option maxHeartbeats 4000000 in
theorem l_markText (n : Int) (hn0 : 0 < n) (hn1 : n ≤ 2199023255552) (w : World) : Calls Tryd.prog 38 #[.int .i64 n] w fun e w' => e = .returned (.string (mtx n)) ∧ Below w.heap.size w w' := by
 go_enter Tryd.func38, Tryd.ntmps38
 go_wp2_with fail
 go_loopw [0, 3] (fun xv v wr => ∃ (x : Int) (l : List UInt8), xv = .int .i64 x ∧ 0 ≤ x ∧ x ≤ 2199023255552 ∧ Hid (Tx.dg 20 x.natAbs l = Tx.dg 20 n.natAbs []) ∧ v = .string ⟨l.toArray⟩ ∧ Below w.heap.size w wr) (fun xv _ _ => (intOf xv).natAbs)
 case atStart => exact ⟨n, [], rfl, by omega, hn1, rfl, rfl, Below.refl _ _⟩
 case round =>
  obtain ⟨x, l, rfl, hx1, hx2, Hd, rfl, hb⟩ := hrel
  have hlen := dg_suffix Hd.out
  have hsz := hb.size
  have Hb := Lib.hid hb
  clear hb
  by_cases hx0 : 0 < x
  ·obtain ⟨c, hc⟩ : ∃ c, c = UInt8.ofNat (48 + x.natAbs % 10) := ⟨_, rfl⟩
   have hcd := digM hx0
   rw [← hc] at hcd
   have HD := Lib.hid hcd
   have HC := Lib.hid hc
   clear hcd hc
   have hcv := run_str (l := [c]) (World.ownsRow_lit (base := w.heap.size) (e := 5) (size := 1) wr #[.int .u8 (c.toNat : Int)] 1 hsz (by unfold maxLen; omega) rfl)
   rw [HD.out] at hcv
   have hx10 : x / 10 ≤ 2199023255552 := by omega
   go_wp2_with fail
   go_roundw
   case rel =>
    refine ⟨x / 10, c :: l, rfl, by omega, by omega, ?_, ?_, Hb.out.alloc hsz _⟩
    ·show Tx.dg 20 (x / 10).natAbs (c :: l) = _
     rw [HC.out, show (x / 10).natAbs = x.natAbs / 10 by omega, ← dg_step (by omega) (natAbs_lt ⟨by omega, by omega⟩)]
     exact Hd.out
    ·exact congrArg Value.string (str_cons c l)
   case measure => simp only [intOf]; omega
  ·obtain rfl : x = 0 := by omega
   go_wp2_with fail
   go_ret
   refine ⟨?_, Hb.out⟩
   have h1 := Hd.out
   rw [show Int.natAbs 0 = 0 from rfl, Tx.dg_zero] at h1
   rw [mtx, ← h1, ← str_cons]
   rfl

/-- the marks from k on -/
def smarks (k : Int) (n : Nat) : List ByteArray := (List.range n).map fun i => mtx (k + ((i : Nat) : Int))
theorem smarks_len (k : Int) (n : Nat) : (smarks k n).length = n := by simp [smarks]
theorem smarks_get {k : Int} {n i : Nat} (h : i < n) : (smarks k n)[i]? = some (mtx (k + (i : Int))) := by
 simp [smarks, List.getElem?_range h]
def spart (k : Int) (i : Nat) (l : List ByteArray) : List ByteArray := smarks k i ++ l.drop i
theorem spart_zero (k : Int) (l : List ByteArray) : spart k 0 l = l := by simp [spart, smarks]
theorem spart_all {k : Int} {l : List ByteArray} {n : Nat} (h : l.length = n) : spart k n l = smarks k n := by simp [spart, ← h]
theorem spart_succ {k : Int} {i : Nat} {l : List ByteArray} (h : i < l.length) : (spart k i l).set i (mtx (k + (i : Int))) = spart k (i + 1) l := by
 unfold spart
 rw [List.set_append_right _ _ (by rw [smarks_len]; exact Nat.le_refl _), smarks_len, Nat.sub_self, List.drop_eq_getElem_cons h, List.set_cons_zero]
 unfold smarks
 rw [List.range_succ, List.map_append, List.append_assoc]
 rfl

set_option maxRecDepth 100000 in
set_option maxHeartbeats 2000000 in
theorem l_markStringS {w : World} {base : Nat} {e0 : TypeId} {A : Option Addr} {n c : Nat} {l : List ByteArray} (k0 : Int) (hk0 : 0 < k0) (hk1 : k0 ≤ 1099511627776) (hn : n ≤ 1099511627776) (h : w.ownsRow base e0 1 (.slice A n c) n (strs l)) :
  Calls Tryd.prog 14 #[.slice A n c, .int .i64 k0] w fun e w' => e = .returned (.int .i64 (k0 + n)) ∧ w'.ownsRow base e0 1 (.slice A n c) n (strs (smarks k0 n)) ∧ w.grownBy w' (Value.slice A n c).ownBlock := by
 have hl : l.length = n := by have := h.1; rw [strs_len] at this; omega
 have H := Lib.hid h
 have Hl := Lib.hid hl
 clear h hl
 go_enter Tryd.func14, Tryd.ntmps14
 go_wp2
 go_loopw [1, 5] (fun kv i wr => ∃ k : Nat, k ≤ n ∧ i = .int .i64 k ∧ kv = .int .i64 (k0 + k) ∧ wr.ownsRow base e0 1 (.slice A n c) n (strs (spart k0 k l)) ∧ w.grownBy wr (Value.slice A n c).ownBlock) (fun _ i _ => n - (intOf i).toNat)
 case atStart => exact ⟨0, Nat.zero_le _, rfl, by simp, by rw [spart_zero]; exact H.out, World.grownBy.refl _ _⟩
 case round =>
  obtain ⟨k, hk, rfl, rfl, hown, hg⟩ := hrel
  have Hown := Lib.hid hown
  have Hg := Lib.hid hg
  by_cases hlt : k < n
  ·obtain ⟨A', c', hv, _, _, hA⟩ := own_form hown
   injection hv with hv1 hv2 hv3
   subst hv1 hv3
   obtain ⟨g, rfl, hgb, hgl⟩ := hA (by omega)
   have hx : ∃ x, (strs (spart k0 k l))[k]? = some (.string x) := by
    have hl := Hl.out
    rw [strs_get, spart, List.getElem?_append_right (by rw [smarks_len]; exact Nat.le_refl _), smarks_len, Nat.sub_self, List.getElem?_drop]
    rw [List.getElem?_eq_getElem (by omega)]
    exact ⟨_, rfl⟩
   obtain ⟨x, hx⟩ := hx
   have g1 : (0 : Int) ≤ (k : Int) := by omega
   have g2 : (k : Int) < (n : Int) := by omega
   have Hx := Lib.hid hx
   clear hx hown hg
   go_wp2_with fail
   refine (l_markText _ (by omega) (by omega) _).mono ?_
   rintro e w1 ⟨rfl, hb1⟩
   have hown1 := own_below Hown.out hb1 (Nat.le_refl _)
   have hcell : w1.cell? ⟨g, k, none⟩ = some (.string x) := (hown1.cellAt k (by omega)).trans Hx.out
   have hfz := hown1.frozenAt k
   have Hown1 := Lib.hid hown1
   have Hg1 := Lib.hid (grown_below Hg.out hb1 Hg.out.size)
   clear hown1 hb1
   go_wp2_with fail
   go_roundw
   case rel =>
    have hs := Hown1.out.stored k (.string (mtx (k0 + k)))
    refine ⟨k + 1, by omega, by go_num, by go_num, ?_, Hg1.out.trans hs.2⟩
    have e : (strs (spart k0 k l)).set k (.string (mtx (k0 + k))) = strs (spart k0 (k + 1) l) := by
     rw [← spart_succ (by have := Hl.out; omega)]
     simp [strs, List.map_set]
    rw [← e]
    exact hs.1
   case measure => simp [intOf]; omega
  ·have hke : k = n := by omega
   subst hke
   go_wp2_with fail
   go_ret
   exact ⟨rfl, by rw [← spart_all Hl.out]; exact Hown.out, Hg.out⟩

set_option maxRecDepth 100000 in
set_option maxHeartbeats 2000000 in
theorem l_heldStringS {w : World} {B : Nat} {A : Option Addr} {n c : Nat} (k0 : Int) (hk0 : 0 < k0) (hk1 : k0 ≤ 1099511627776) (hn : n ≤ 1099511627776) (h : Reads w B 1 A n (strs (smarks k0 n))) (hB : B ≤ w.heap.size) :
  Calls Tryd.prog 15 #[.slice A n c, .int .i64 k0] w fun e w' => e = .returned (.int .i64 (k0 + n)) ∧ Below w.heap.size w w' := by
 go_enter Tryd.func15, Tryd.ntmps15
 go_wp2
 go_loopw [1, 5] (fun kv i wr => ∃ k : Nat, k ≤ n ∧ i = .int .i64 k ∧ kv = .int .i64 (k0 + k) ∧ Below w.heap.size w wr) (fun _ i _ => n - (intOf i).toNat)
 case atStart => exact ⟨0, Nat.zero_le _, rfl, by simp, Below.refl _ _⟩
 case round =>
  obtain ⟨k, hk, rfl, rfl, hb⟩ := hrel
  have Hb := Lib.hid hb
  have hsz := hb.size
  by_cases hlt : k < n
  ·obtain ⟨ad, x, rfl, hab, hx, hc⟩ := h.str_at hlt
   rw [smarks_get hlt] at hx
   injection hx with hx
   subst hx
   have g1 : (0 : Int) ≤ (k : Int) := by omega
   have g2 : (k : Int) < (n : Int) := by omega
   clear h hb
   go_wp2_with fail
   refine wp_region_lexC (by kernel_rfl) (by kernel_rfl) (fun x => Below w.heap.size w x) (Hb.out.drew) (fun lexNE => ?_)
   have cx : ∀ W : Wd (fun x => Below w.heap.size w x), W.val.cell? (ad.add k) = some (.string (mtx (k0 + (k : Int)))) := fun W => (W.ok.cell (p := ad.add k) (by rw [block_of_add]; omega)).trans hc
   (repeat (first | (refine lex_r fun K hK => ?_; go_big_quiet_op; refine hK _ ?_; clear hK K) | (refine lex_k fun K hK => ?_; go_simp; refine hK _ ?_; clear hK K)))
   (refine lex_e fun K hK => ?_; go_big_op)
   refine (l_markText _ (by omega) (by omega) _).mono ?_
   rintro e w1 ⟨rfl, hb1⟩
   have hbb : Below w.heap.size w w1 := Hb.out.drew.trans (hb1.mono (by simp; omega))
   refine hK _ _ (Cls.mk' hbb) ?_
   clear hK K
   (repeat (first | (refine lex_r fun K hK => ?_; go_big_quiet_op; refine hK _ ?_; clear hK K) | (refine lex_k fun K hK => ?_; go_simp; refine hK _ ?_; clear hK K)))
   (refine lex_nil ?_)
   clear cx lexNE
   go_wp2_with fail
   go_roundw
   case rel => exact ⟨k + 1, by omega, by go_num, by go_num, hbb⟩
   case measure => simp [intOf]; omega
  ·have hke : k = n := by omega
   subst hke
   go_wp2_with fail
   go_ret
   exact ⟨rfl, hb⟩
end Go.Proofs.YtlgbdpcobbbglaaDoor

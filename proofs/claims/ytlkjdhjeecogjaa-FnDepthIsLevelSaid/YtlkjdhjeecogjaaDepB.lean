/- Contracts: lists compared, marks listed, cones marked. -/
import Derived.Test.YtlkjdhjeecogjaaDepA
import Derived.Outline
namespace Go.Proofs.Ytlkjdhjeecogjaa
open Go.RowKit

/-- truth values as they lie -/
def bols (l : List Bool) : List Value := l.map Value.bool
theorem bols_len (l : List Bool) : (bols l).length = l.length := by simp [bols]
theorem bols_get (l : List Bool) (k : Nat) : (bols l)[k]? = l[k]?.map Value.bool := by simp [bols]
theorem bols_set (l : List Bool) (k : Nat) (b : Bool) : (bols l).set k (.bool b) = bols (l.set k b) := by simp [bols, List.map_set]
theorem Reads.int_at' {w : World} {B n : Nat} {A : Option Addr} {l : List Int} (h : Reads w B 1 A n (ints l)) {k : Nat} (hk : k < n) : ∃ (ad : Addr) (x : Int), A = some ad ∧ ad.block < B ∧ l[k]? = some x ∧ w.cell? (ad.add k) = some (.int .i64 x) := by
 obtain ⟨ad, u, rfl, hb, hu, hc⟩ := h.at_ hk
 rw [ints_get] at hu
 cases hx : l[k]? with
 | none => rw [hx] at hu; cases hu
 | some x => rw [hx] at hu; injection hu with hu; subst hu; exact ⟨ad, x, rfl, hb, rfl, hc⟩
theorem Reads.bool_at' {w : World} {B n : Nat} {A : Option Addr} {l : List Bool} (h : Reads w B 1 A n (bols l)) {k : Nat} (hk : k < n) : ∃ (ad : Addr) (x : Bool), A = some ad ∧ ad.block < B ∧ l[k]? = some x ∧ w.cell? (ad.add k) = some (.bool x) := by
 obtain ⟨ad, u, rfl, hb, hu, hc⟩ := h.at_ hk
 rw [bols_get] at hu
 cases hx : l[k]? with
 | none => rw [hx] at hu; cases hu
 | some x => rw [hx] at hu; injection hu with hu; subst hu; exact ⟨ad, x, rfl, hb, rfl, hc⟩
set_option maxRecDepth 100000 in
set_option maxHeartbeats 4000000 in
theorem l_sameInts {w : World} {B B' : Nat} {A A' : Option Addr} {n c c' : Nat} {l : List Int} (hn : n ≤ 1048576) (h : Reads w B 1 A n (ints l)) (h' : Reads w B' 1 A' n (ints l)) (hB : B ≤ w.heap.size) (hB' : B' ≤ w.heap.size) :
  Calls Try.prog 44 #[.slice A n c, .slice A' n c'] w fun e w' => e = .returned (.bool true) ∧ Below w.heap.size w w' := by
 go_enter Try.func44, Try.ntmps44
 have Hb0 := Lib.hid (Below.refl w.heap.size w)
 go_wp2_with fail
 go_loopw [5] (fun iv wr => ∃ k : Nat, k ≤ n ∧ iv = .int .i64 k ∧ Below w.heap.size w wr) (fun iv _ => n - (intOf iv).toNat)
 case atStart => exact ⟨0, Nat.zero_le _, rfl, Hb0.out⟩
 case round =>
  obtain ⟨k, hk, rfl, hb⟩ := hrel
  have Hb := Lib.hid hb
  have zr := hb.size
  clear hb
  by_cases hlt : k < n
  ·obtain ⟨ad, x, rfl, hab, hx, hc⟩ := h.int_at' hlt
   obtain ⟨ad', x', rfl, hab', hx', hc'⟩ := h'.int_at' hlt
   obtain rfl : x = x' := Option.some.inj (hx.symm.trans hx')
   have g1 : (0 : Int) ≤ (k : Int) := by omega
   have g2 : (k : Int) < (n : Int) := by omega
   have d0 := (Hb.out.cell (p := ad.add k) (by rw [block_of_add]; omega)).trans hc
   have d1 := (Hb.out.cell (p := ad'.add k) (by rw [block_of_add]; omega)).trans hc'
   clear hc hc' hx hx'
   go_wp2_with fail
   refine wp_region_lexC (by kernel_rfl) (by kernel_rfl) (fun x => Below wr.heap.size wr x) ((Below.refl _ _).drew) (fun lexNE => ?_)
   have c0 := wcq (B := wr.heap.size) d0 (by rw [block_of_add]; omega)
   have c1 := wcq (B := wr.heap.size) d1 (by rw [block_of_add]; omega)
   clear d0 d1
   (repeat (first | (refine lex_r fun K hK => ?_; go_big_quiet_op; refine hK _ ?_; clear hK K) | (refine lex_k fun K hK => ?_; go_simp; refine hK _ ?_; clear hK K)))
   (refine lex_nil ?_)
   clear lexNE c0 c1
   go_wp2_with fail
   go_roundw
   case rel => exact ⟨k + 1, by omega, by go_num, Hb.out.drew⟩
   case measure => simp [intOf]; omega
  ·obtain rfl : k = n := by omega
   have g2 : (k : Int) ≤ (k : Int) := Int.le_refl _
   go_wp2_with fail
   go_ret
   exact ⟨rfl, Hb.out⟩
set_option maxRecDepth 100000 in
set_option maxHeartbeats 4000000 in
theorem l_sameBools {w : World} {B B' : Nat} {A A' : Option Addr} {n c c' : Nat} {l : List Bool} (hn : n ≤ 1048576) (h : Reads w B 1 A n (bols l)) (h' : Reads w B' 1 A' n (bols l)) (hB : B ≤ w.heap.size) (hB' : B' ≤ w.heap.size) :
  Calls Try.prog 48 #[.slice A n c, .slice A' n c'] w fun e w' => e = .returned (.bool true) ∧ Below w.heap.size w w' := by
 go_enter Try.func48, Try.ntmps48
 have Hb0 := Lib.hid (Below.refl w.heap.size w)
 go_wp2_with fail
 go_loopw [5] (fun iv wr => ∃ k : Nat, k ≤ n ∧ iv = .int .i64 k ∧ Below w.heap.size w wr) (fun iv _ => n - (intOf iv).toNat)
 case atStart => exact ⟨0, Nat.zero_le _, rfl, Hb0.out⟩
 case round =>
  obtain ⟨k, hk, rfl, hb⟩ := hrel
  have Hb := Lib.hid hb
  have zr := hb.size
  clear hb
  by_cases hlt : k < n
  ·obtain ⟨ad, x, rfl, hab, hx, hc⟩ := h.bool_at' hlt
   obtain ⟨ad', x', rfl, hab', hx', hc'⟩ := h'.bool_at' hlt
   obtain rfl : x = x' := Option.some.inj (hx.symm.trans hx')
   have g1 : (0 : Int) ≤ (k : Int) := by omega
   have g2 : (k : Int) < (n : Int) := by omega
   have d0 := (Hb.out.cell (p := ad.add k) (by rw [block_of_add]; omega)).trans hc
   have d1 := (Hb.out.cell (p := ad'.add k) (by rw [block_of_add]; omega)).trans hc'
   clear hc hc' hx hx'
   go_wp2_with fail
   refine wp_region_lexC (by kernel_rfl) (by kernel_rfl) (fun x => Below wr.heap.size wr x) ((Below.refl _ _).drew) (fun lexNE => ?_)
   have c0 := wcq (B := wr.heap.size) d0 (by rw [block_of_add]; omega)
   have c1 := wcq (B := wr.heap.size) d1 (by rw [block_of_add]; omega)
   clear d0 d1
   (repeat (first | (refine lex_r fun K hK => ?_; go_big_quiet_op; refine hK _ ?_; clear hK K) | (refine lex_k fun K hK => ?_; go_simp; refine hK _ ?_; clear hK K)))
   (refine lex_nil ?_)
   clear lexNE c0 c1
   go_wp2_with fail
   go_roundw
   case rel => exact ⟨k + 1, by omega, by go_num, Hb.out.drew⟩
   case measure => simp [intOf]; omega
  ·obtain rfl : k = n := by omega
   have g2 : (k : Int) ≤ (k : Int) := Int.le_refl _
   go_wp2_with fail
   go_ret
   exact ⟨rfl, Hb.out⟩
theorem markedL_zero (s : List Bool) : markedL s 0 = [] := rfl
set_option maxRecDepth 100000 in
set_option maxHeartbeats 4000000 in
theorem i_marked {w : World} {B : Nat} {A : Option Addr} {n c : Nat} {s : List Bool} (hn : n ≤ 1048576) (hl : s.length = n) (h : Reads w B 1 A n (bols s)) (hB : B ≤ w.heap.size) :
  Calls Try.prog 147 #[.slice A n c] w (OwnI (markedL s n) w) := by
 obtain ⟨i0, hi, hz0, hz1, hz2⟩ := info_parts Try.infoIntC
 have Hl := Lib.hid hl
 have HE := Lib.hid (World.ownsRow_nil w w.heap.size 3 1)
 have Hb0 := Lib.hid (Below.refl w.heap.size w)
 clear hl
 go_enter Try.func147, Try.ntmps147
 go_wp2_with fail
 go_loopw [3, 4, 5, 8] (fun ov _ _ iv wr => ∃ k : Nat, k ≤ n ∧ iv = .int .i64 k ∧ wr.ownsRow w.heap.size 3 1 ov (markedL s k).length (ints (markedL s k)) ∧ Below w.heap.size w wr) (fun _ _ _ iv _ => n - (intOf iv).toNat)
 case atStart => exact ⟨0, Nat.zero_le _, rfl, HE.out, Hb0.out⟩
 case round =>
  obtain ⟨k, hk, rfl, hown, hb⟩ := hrel
  obtain ⟨Ao, co, rfl, _, _, _⟩ := own_form hown
  have Hb := Lib.hid hb
  have zr := hb.size
  have hml := markedL_len s k
  have Hsucc := Lib.hid (markedL_succ s k)
  obtain ⟨L, hL⟩ : ∃ L, L = markedL s k := ⟨_, rfl⟩
  rw [← hL] at hown hml Hsucc ⊢
  have Hown := Lib.hid hown
  have HL := Lib.hid hL
  clear hb hown hL
  by_cases hlt : k < n
  ·obtain ⟨ad, x, rfl, hab, hx, hc⟩ := h.bool_at' hlt
   have g1 : (0 : Int) ≤ (k : Int) := by omega
   have g2 : (k : Int) < (n : Int) := by omega
   have d0 := (Hb.out.cell (p := ad.add k) (by rw [block_of_add]; omega)).trans hc
   have Hx := Lib.hid (show s.getD k false = x by rw [List.getD_eq_getElem?_getD, hx]; rfl)
   clear hc hx
   cases x with
   | false =>
    go_wp2_with fail
    go_roundw
    case rel =>
     have h1 := Hsucc.out
     rw [Hx.out] at h1
     exact ⟨k + 1, by omega, by go_num, by rw [h1]; exact Hown.out, Hb.out⟩
    case measure => simp [intOf]; omega
   | true =>
    go_wp2_with (at_builtin; refine wpList_append_any _ rfl _ _ 28 rfl (w.heap.size) 3 i0 (.int .i64 0) 1 8 Try.underlying28 hi hz0 hz1 hz2 rfl (by decide) _ _ _ rfl (Hown.out.alloc _) _ _ 1 1 _ rfl (reads_new _ _ 1 1 rfl) (by intro u hu; simp at hu; first | (subst hu; rfl) | (rcases hu with rfl | rfl <;> rfl) | (rcases hu with rfl | rfl | rfl <;> rfl)) (by unfold maxLen; omega) (by omega) (by (try simp) <;> (try omega)) ?_; intro v2 w2 hown2 hgrow2 hblk2)
    have Ho2 := Lib.hid (show w2.ownsRow w.heap.size 3 1 v2 (markedL s (k + 1)).length (ints (markedL s (k + 1))) by
     have h1 := Hsucc.out
     rw [Hx.out, if_pos rfl] at h1
     rw [h1, ints_app, List.length_append]
     exact hown2)
    have Hb2 := Lib.hid ((Hb.out.alloc zr _).trans (below_of_grown hgrow2 (by simp; omega) (fun b hb => (Hown.out.lt b hb).1)))
    clear hown2 hgrow2 hblk2
    go_wp2_with fail
    go_roundw
    case rel => exact ⟨k + 1, by omega, by go_num, Ho2.out, Hb2.out⟩
    case measure => simp [intOf]; omega
  ·obtain rfl : k = n := by omega
   have g2 : (k : Int) ≤ (k : Int) := Int.le_refl _
   go_wp2_with fail
   go_ret
   unfold OwnI
   rw [← HL.out]
   exact ⟨Ao, co, rfl, Hown.out, Hb.out⟩
end Go.Proofs.Ytlkjdhjeecogjaa

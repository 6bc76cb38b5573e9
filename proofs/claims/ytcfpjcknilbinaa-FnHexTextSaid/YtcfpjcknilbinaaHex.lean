/- Contracts: hexadecimal texts: both functions. -/
import Derived.Test.YtcfpjcknilbinaaInts
import Derived.Laws.BytesArg
namespace Go.Proofs.Ytcfpjcknilbinaa
open Go.RowKit

def bys (l : List UInt8) : List Value := l.map fun c => Value.int .u8 (c.toNat : Int)
theorem bys_len (l : List UInt8) : (bys l).length = l.length := by simp [bys]
theorem Try.infoU8 : (Try.prog.info? 5).map (fun i => (i.zero, i.size, i.bytes)) = some (some (.int .u8 0), 1, 1) := by kernel_rfl

set_option maxRecDepth 100000 in
/-- the text of bytes in memory of the call's own -/
theorem run_str {w : World} {base n c : Nat} {A : Option Addr} {l : List UInt8} (h : w.ownsRow base 5 1 (.slice A n c) n (bys l)) :
    (convert 55 9 (.slice A n c)).run Try.prog w = .ok (.string ⟨l.toArray⟩) w := by
  have hl : l.length = n := by have := h.1; rw [bys_len] at this; omega
  subst hl
  rcases h.2 with ⟨hv, h0⟩ | ⟨g, cap, cur, hv, _⟩
  · injection hv with hv1 _ hv2
    subst hv1 hv2
    have : l = [] := List.eq_nil_of_length_eq_zero h0
    subst this
    exact run_convert_bytes_nil (P := Try.prog) w 55 5 Try.underlying55 Try.underlying5 0 0 9 Try.underlying9
  · injection hv with hv1 _ hv2
    subst hv1 hv2
    refine run_convert_bytes_back (P := Try.prog) w 55 9 5 ⟨g, 0, none⟩ _ l Try.underlying55 Try.underlying5 Try.underlying9 fun j hj => ?_
    refine h.cells (g := g) rfl j _ ?_
    simp [bys, List.getElem?_eq_getElem hj]

/-- a figure -/
def fig (x : Nat) : UInt8 := UInt8.ofNat (if x < 10 then 48 + x else 87 + x)
theorem fig_nat {x : Nat} (h : x < 16) : (fig x).toNat = if x < 10 then 48 + x else 87 + x := by
  unfold fig; split <;> (rw [UInt8.toNat_ofNat']; omega)

theorem s_figure (x : Int) (h0 : 0 ≤ x) (h : x < 16) (w : World) : Calls Try.prog 103 #[.int .i64 x] w fun e w' => e = .returned (.int .u8 ((fig x.toNat).toNat : Int)) ∧ w = w' := by
  obtain ⟨y, rfl⟩ := Int.eq_ofNat_of_zero_le h0
  rw [Int.toNat_natCast]
  have hf := fig_nat (x := y) (by omega)
  by_cases hx : y < 10
  · rw [if_pos hx] at hf
    have Hf := Lib.hid hf
    clear hf
    go_enter Try.func103, Try.ntmps103
    go_wp2
    go_ret
    exact ⟨ret_int (by rw [Hf.out]; omega), rfl⟩
  · rw [if_neg hx] at hf
    have Hf := Lib.hid hf
    clear hf
    go_enter Try.func103, Try.ntmps103
    go_wp2
    go_ret
    exact ⟨ret_int (by rw [Hf.out]; omega), rfl⟩

def enc (l : List UInt8) : List UInt8 := l.flatMap fun c => [fig (c.toNat / 16), fig (c.toNat % 16)]
theorem enc_len (l : List UInt8) : (enc l).length = 2 * l.length := by
  induction l with
  | nil => rfl
  | cons c l ih => simp only [enc, List.flatMap_cons, List.length_append, List.length_cons, List.length_nil] at ih ⊢; omega
theorem enc_snoc (l : List UInt8) (c : UInt8) : enc (l ++ [c]) = enc l ++ [fig (c.toNat / 16), fig (c.toNat % 16)] := by simp [enc]

/-- what both return -/
def HexPost (s : ByteArray) (w : World) (e : Ending) (w' : World) : Prop :=
  e = .returned (if s.size ≤ 20000 then .tuple #[.string ⟨(enc s.data.toList).toArray⟩, .bool true] else .tuple #[.string ⟨#[]⟩, .bool false]) ∧ Below w.heap.size w w'

theorem take_snoc (s : ByteArray) (k : Nat) (h : k < s.size) : s.data.toList.take (k + 1) = s.data.toList.take k ++ [s[k]] := by
  rw [List.take_succ_eq_append_getElem (by simpa using h)]; rfl

set_option maxRecDepth 100000 in
set_option maxHeartbeats 4000000 in
theorem s_EncodeHex (s : ByteArray) (hs : s.size ≤ maxLen) (w : World) : Calls Try.prog 46 #[.string s] w (HexPost s w) := by
  unfold maxLen at hs
  obtain ⟨i0, hi, hz0, hz1, hz2⟩ := info_parts Try.infoU8
  by_cases hl : s.size ≤ 20000
  · go_enter Try.func46, Try.ntmps46
    go_wp2_with fail
    go_loopw [4, 5] (fun v i wr => ∃ k : Nat, k ≤ s.size ∧ i = .int .i64 k ∧ wr.ownsRow w.heap.size 5 1 v (enc (s.data.toList.take k)).length (bys (enc (s.data.toList.take k))) ∧ Below w.heap.size w wr) (fun _ i _ => s.size - (intOf i).toNat)
    case atStart => exact ⟨0, Nat.zero_le _, rfl, by simpa [enc, bys] using World.ownsRow_made (base := w.heap.size) (size := 1) (e := 5) w #[] 0 (Nat.le_refl _) (by unfold maxLen; omega) rfl, (by repeat (first | with_reducible exact Below.refl _ _ | with_reducible assumption | with_reducible refine below_drewN ?_ _ | with_reducible refine Below.drew ?_ | ((with_reducible refine Below.alloc ?_ ?_ _); rotate_left; (((try simp) <;> (try omega)) <;> done)) | ((with_reducible refine Below.setCell ?_ ?_ _); rotate_left; (((try simp) <;> (try omega)) <;> done)) | ((with_reducible refine Below.trans ?_ (Below.mono (by with_reducible assumption) ?_)); rotate_left; (((try simp) <;> (try omega)) <;> done))))⟩
    case round =>
      obtain ⟨k, hk, rfl, hown, hb⟩ := hrel
      have hlen := enc_len (s.data.toList.take k)
      have hlt0 : (s.data.toList.take k).length ≤ k := List.length_take_le _ _
      obtain ⟨A, c, rfl, hc1, hc2, hA⟩ := own_form hown
      have hsz := hb.size
      have Hb := Lib.hid hb
      have Hown := Lib.hid hown
      have Hlen := Lib.hid hlen
      have hlen2 : (enc (s.data.toList.take k)).length ≤ 40000 := by omega
      clear hb hown hA hlen hlt0
      by_cases hlt : k < s.size
      · have g1 : (0 : Int) ≤ (k : Int) := by omega
        have g2 : (k : Int) < (s.size : Int) := by omega
        have hx : s[k].toNat < 256 := s[k].toNat_lt
        have Hs := Lib.hid (take_snoc s k hlt)
        go_wp2_with fail
        refine wp_region_lexC (by kernel_rfl) (by kernel_rfl) (fun _ => True) (trivial) (fun lexNE => ?_)
        (repeat (first | (refine lex_read (by first | exact wanted_n rfl | exact wanted_g rfl rfl rfl rfl) (by exact rfl) (fun K hK => ?_); go_big_quiet_op; refine hK _ ?_; clear hK K) | (refine lex_skip' (by exact wanted_g rfl rfl rfl rfl) (fun K hK => ?_); go_simp; refine hK _ ?_; clear hK K)))
        (refine lex_eff (by first | exact wanted_n rfl | exact wanted_g rfl rfl rfl rfl) (by exact rfl) (fun K hK => ?_); go_big_op)
        refine (s_figure _ (by omega) (by omega) _).mono ?_
        rintro e w' ⟨rfl, rfl⟩
        refine hK _ _ (Cls.mk' trivial) ?_
        clear hK K
        (repeat (first | (refine lex_read (by first | exact wanted_n rfl | exact wanted_g rfl rfl rfl rfl) (by exact rfl) (fun K hK => ?_); go_big_quiet_op; refine hK _ ?_; clear hK K) | (refine lex_skip' (by exact wanted_g rfl rfl rfl rfl) (fun K hK => ?_); go_simp; refine hK _ ?_; clear hK K)))
        (refine lex_eff (by first | exact wanted_n rfl | exact wanted_g rfl rfl rfl rfl) (by exact rfl) (fun K hK => ?_); go_big_op)
        refine (s_figure _ (by omega) (by omega) _).mono ?_
        rintro e w' ⟨rfl, rfl⟩
        refine hK _ _ (Cls.mk' trivial) ?_
        clear hK K
        (refine lex_eff (by first | exact wanted_n rfl | exact wanted_g rfl rfl rfl rfl) (by exact rfl) (fun K hK => ?_); go_big_op)
        refine hK _ _ (Cls.mk' trivial) ?_
        clear hK K
        refine lex_eff (by first | exact wanted_n rfl | exact wanted_g rfl rfl rfl rfl) (by exact rfl) (fun K hK => ?_)
        refine wp_append_any _ _ _ 55 (by rfl) (w.heap.size) 5 i0 (.int .u8 0) 1 1 Try.underlying55 hi hz0 hz1 hz2 rfl (by decide) _ _ _ (by rfl) (Hown.out.alloc _) _ _ 2 2 _ (by rfl) (reads_new _ _ 2 1 rfl) (by intro u hu; simp at hu; first | (subst hu; rfl) | (rcases hu with rfl | rfl <;> rfl) | (rcases hu with rfl | rfl | rfl <;> rfl)) (by unfold maxLen; omega) (by omega) (by (try simp) <;> (try omega)) ?_
        intro v2 w2 hown2 hgrow2 hblk2
        go_simp
        refine hK _ _ (Cls.mk' trivial) ?_
        clear hK K
        have hb2 := below_push (Hb.out.drew) Hown.out (Nat.le_refl _) hsz hgrow2
        have Hown2 := Lib.hid hown2
        clear hown2 hgrow2 hblk2
        (repeat (first | (refine lex_read (by first | exact wanted_n rfl | exact wanted_g rfl rfl rfl rfl) (by exact rfl) (fun K hK => ?_); go_big_quiet_op; refine hK _ ?_; clear hK K) | (refine lex_skip' (by exact wanted_g rfl rfl rfl rfl) (fun K hK => ?_); go_simp; refine hK _ ?_; clear hK K)))
        (refine lex_nil ?_)
        go_wp2_with fail
        go_roundw
        case rel =>
          refine ⟨k + 1, by omega, by go_num, ?_, hb2⟩
          rw [Hs.out, enc_snoc, List.length_append, bys, List.map_append]
          exact Hown2.out
        case measure => simp [intOf]; omega
      · obtain rfl : k = s.size := by omega
        have hcv := run_str Hown.out
        go_wp2_with fail
        go_ret2
        refine ⟨?_, Hb.out⟩
        rw [if_pos hl, List.take_of_length_le (by simp)]
        rfl
  · go_enter Try.func46, Try.ntmps46
    go_wp2_with fail
    go_ret2
    exact ⟨by rw [if_neg hl]; rfl, (by repeat (first | with_reducible exact Below.refl _ _ | with_reducible assumption | with_reducible refine below_drewN ?_ _ | with_reducible refine Below.drew ?_ | ((with_reducible refine Below.alloc ?_ ?_ _); rotate_left; (((try simp) <;> (try omega)) <;> done)) | ((with_reducible refine Below.setCell ?_ ?_ _); rotate_left; (((try simp) <;> (try omega)) <;> done)) | ((with_reducible refine Below.trans ?_ (Below.mono (by with_reducible assumption) ?_)); rotate_left; (((try simp) <;> (try omega)) <;> done))))⟩

theorem idx_fig (x : Nat) (h : x < 16) (W : World) : (Instr.index 9 (.string ⟨#[48, 49, 50, 51, 52, 53, 54, 55, 56, 57, 97, 98, 99, 100, 101, 102]⟩) (.int .u8 (x : Int))).run Try.prog W = .ok (.int .u8 ((fig x).toNat : Int)) W :=
  match x, h with
  | 0, _ => by kernel_rfl
  | 1, _ => by kernel_rfl
  | 2, _ => by kernel_rfl
  | 3, _ => by kernel_rfl
  | 4, _ => by kernel_rfl
  | 5, _ => by kernel_rfl
  | 6, _ => by kernel_rfl
  | 7, _ => by kernel_rfl
  | 8, _ => by kernel_rfl
  | 9, _ => by kernel_rfl
  | 10, _ => by kernel_rfl
  | 11, _ => by kernel_rfl
  | 12, _ => by kernel_rfl
  | 13, _ => by kernel_rfl
  | 14, _ => by kernel_rfl
  | 15, _ => by kernel_rfl
  | n + 16, h => absurd h (by omega)
theorem u8_and15 (n : Nat) (h : n < 256) : bits .and .u8 (n : Int) 15 = (n : Int) % 16 := by
  have h1 := u8_and_nat n 15 h (by omega)
  have h2 : n &&& 15 = n % 16 := Nat.and_two_pow_sub_one_eq_mod n 4
  rw [h2] at h1
  exact h1

set_option maxRecDepth 100000 in
set_option maxHeartbeats 4000000 in
theorem i_EncodeHex (s : ByteArray) (hs : s.size ≤ maxLen) (w : World) : Calls Try.prog 47 #[.string s] w (HexPost s w) := by
  unfold maxLen at hs
  obtain ⟨i0, hi, hz0, hz1, hz2⟩ := info_parts Try.infoU8
  by_cases hl : s.size ≤ 20000
  · go_enter Try.func47, Try.ntmps47
    go_wp2_with (refine wpList_make_own _ rfl _ _ 55 rfl w.heap.size 5 i0 (.int .u8 0) 1 Try.underlying55 hi hz0 hz1 .i64 .i64 (2 * (s.size : Int)) (2 * s.size) rfl rfl (by omega) (by rw [hz2]; omega) (by unfold maxLen; omega) (Nat.le_refl _) ?_; intro w1 hown1 hg1)
    have Hown1 := Lib.hid hown1
    have Hb1 := Lib.hid (below_of_grown hg1 (Nat.le_refl _) (by simp))
    clear hown1 hg1
    go_wp2_with fail
    go_loopw [4, 5] (fun v i wr => ∃ k : Nat, k ≤ s.size ∧ i = .int .i64 k ∧ wr.ownsRow w.heap.size 5 1 v (enc (s.data.toList.take k)).length (bys (enc (s.data.toList.take k))) ∧ Below w.heap.size w wr) (fun _ i _ => s.size - (intOf i).toNat)
    case atStart => exact ⟨0, Nat.zero_le _, rfl, by simpa [enc, bys] using Hown1.out, Hb1.out⟩
    case round =>
      obtain ⟨k, hk, rfl, hown, hb⟩ := hrel
      have hlen := enc_len (s.data.toList.take k)
      have hlt0 : (s.data.toList.take k).length ≤ k := List.length_take_le _ _
      obtain ⟨A, c, rfl, hc1, hc2, hA⟩ := own_form hown
      have hsz := hb.size
      have Hb := Lib.hid hb
      have Hown := Lib.hid hown
      have Hlen := Lib.hid hlen
      have hlen2 : (enc (s.data.toList.take k)).length ≤ 40000 := by omega
      clear hb hown hA hlen hlt0
      by_cases hlt : k < s.size
      · have g1 : (0 : Int) ≤ (k : Int) := by omega
        have g2 : (k : Int) < (s.size : Int) := by omega
        have hx : s[k].toNat < 256 := s[k].toNat_lt
        have Hs := Lib.hid (take_snoc s k hlt)
        have hix1 : ∀ W, (Instr.index 9 (.string ⟨#[48, 49, 50, 51, 52, 53, 54, 55, 56, 57, 97, 98, 99, 100, 101, 102]⟩) (.int .u8 ((s[k].toNat : Int) / 16))).run Try.prog W = .ok (.int .u8 ((fig (s[k].toNat / 16)).toNat : Int)) W := fun W => idx_fig (s[k].toNat / 16) (by omega) W
        have hix2 : ∀ W, (Instr.index 9 (.string ⟨#[48, 49, 50, 51, 52, 53, 54, 55, 56, 57, 97, 98, 99, 100, 101, 102]⟩) (.int .u8 ((s[k].toNat : Int) % 16))).run Try.prog W = .ok (.int .u8 ((fig (s[k].toNat % 16)).toNat : Int)) W := fun W => idx_fig (s[k].toNat % 16) (by omega) W
        have hand := u8_and15 s[k].toNat hx
        go_wp2_with fail
        refine wp_region_lexC (by kernel_rfl) (by kernel_rfl) (fun _ => True) (trivial) (fun lexNE => ?_)
        (repeat (first | (refine lex_read (by first | exact wanted_n rfl | exact wanted_g rfl rfl rfl rfl) (by exact rfl) (fun K hK => ?_); go_big_quiet_op; refine hK _ ?_; clear hK K) | (refine lex_skip' (by exact wanted_g rfl rfl rfl rfl) (fun K hK => ?_); go_simp; refine hK _ ?_; clear hK K)))
        (refine lex_eff (by first | exact wanted_n rfl | exact wanted_g rfl rfl rfl rfl) (by exact rfl) (fun K hK => ?_); go_big_op)
        refine hK _ _ (Cls.mk' trivial) ?_
        clear hK K
        refine lex_eff (by first | exact wanted_n rfl | exact wanted_g rfl rfl rfl rfl) (by exact rfl) (fun K hK => ?_)
        refine wp_append_any _ _ _ 55 (by rfl) (w.heap.size) 5 i0 (.int .u8 0) 1 1 Try.underlying55 hi hz0 hz1 hz2 rfl (by decide) _ _ _ (by rfl) (Hown.out.alloc _) _ _ 2 2 _ (by rfl) (reads_new _ _ 2 1 rfl) (by intro u hu; simp at hu; first | (subst hu; rfl) | (rcases hu with rfl | rfl <;> rfl) | (rcases hu with rfl | rfl | rfl <;> rfl)) (by unfold maxLen; omega) (by omega) (by (try simp) <;> (try omega)) ?_
        intro v2 w2 hown2 hgrow2 hblk2
        go_simp
        refine hK _ _ (Cls.mk' trivial) ?_
        clear hK K
        have hb2 := below_push (Hb.out.drew) Hown.out (Nat.le_refl _) hsz hgrow2
        have Hown2 := Lib.hid hown2
        clear hown2 hgrow2 hblk2
        (repeat (first | (refine lex_read (by first | exact wanted_n rfl | exact wanted_g rfl rfl rfl rfl) (by exact rfl) (fun K hK => ?_); go_big_quiet_op; refine hK _ ?_; clear hK K) | (refine lex_skip' (by exact wanted_g rfl rfl rfl rfl) (fun K hK => ?_); go_simp; refine hK _ ?_; clear hK K)))
        (refine lex_nil ?_)
        clear hix1 hix2 hand
        go_wp2_with fail
        go_roundw
        case rel =>
          refine ⟨k + 1, by omega, by go_num, ?_, hb2⟩
          rw [Hs.out, enc_snoc, List.length_append, bys, List.map_append]
          exact Hown2.out
        case measure => simp [intOf]; omega
      · obtain rfl : k = s.size := by omega
        have hcv := run_str Hown.out
        go_wp2_with fail
        go_ret2
        refine ⟨?_, Hb.out⟩
        rw [if_pos hl, List.take_of_length_le (by simp)]
        rfl
  · go_enter Try.func47, Try.ntmps47
    go_wp2_with fail
    go_ret2
    exact ⟨by rw [if_neg hl]; rfl, (by repeat (first | with_reducible exact Below.refl _ _ | with_reducible assumption | with_reducible refine below_drewN ?_ _ | with_reducible refine Below.drew ?_ | ((with_reducible refine Below.alloc ?_ ?_ _); rotate_left; (((try simp) <;> (try omega)) <;> done)) | ((with_reducible refine Below.setCell ?_ ?_ _); rotate_left; (((try simp) <;> (try omega)) <;> done)) | ((with_reducible refine Below.trans ?_ (Below.mono (by with_reducible assumption) ?_)); rotate_left; (((try simp) <;> (try omega)) <;> done))))⟩
end Go.Proofs.Ytcfpjcknilbinaa

/- Contracts: hexadecimal texts read back: both functions. -/
import Derived.Test.YtcfpjcknilbinaaHex
namespace Go.Proofs.Ytcfpjcknilbinaa
open Go.RowKit

/-- a figure's value, -1 if it is none -/
def hv (x : Nat) : Int := if 48 ≤ x ∧ x ≤ 57 then (x : Int) - 48 else if 97 ≤ x ∧ x ≤ 102 then (x : Int) - 87 else -1
theorem hv_bd (x : Nat) : -1 ≤ hv x ∧ hv x ≤ 15 := by
  unfold hv; split
  · omega
  · split <;> omega

set_option maxHeartbeats 1000000 in
theorem i_hexValue (x : Nat) (h : x < 256) (w : World) : Calls Try.prog 107 #[.int .u8 x] w fun e w' => e = .returned (.int .i64 (hv x)) ∧ w = w' := by
  go_enter Try.func107, Try.ntmps107
  go_wp2
  all_goals go_ret
  all_goals refine ⟨ret_int ?_, rfl⟩
  all_goals unfold hv; (repeat' split) <;> omega
set_option maxHeartbeats 1000000 in
theorem s_value (x : Nat) (h : x < 256) (w : World) : Calls Try.prog 106 #[.int .u8 x] w fun e w' => e = .returned (.int .i64 (hv x)) ∧ w = w' := by
  go_enter Try.func106, Try.ntmps106
  go_wp2
  all_goals go_ret
  all_goals refine ⟨ret_int ?_, rfl⟩
  all_goals unfold hv; (repeat' split) <;> omega

/-- the j-th pair -/
def pr (l : List UInt8) (j : Nat) : Int × Int := (hv (l.getD (2 * j) 0).toNat, hv (l.getD (2 * j + 1) 0).toNat)
def decOk (l : List UInt8) (k : Nat) : Bool := (List.range k).all fun j => decide (0 ≤ (pr l j).1) && decide (0 ≤ (pr l j).2)
def dec (l : List UInt8) (k : Nat) : List UInt8 := (List.range k).map fun j => UInt8.ofNat (16 * (pr l j).1 + (pr l j).2).toNat
theorem decOk_succ (l : List UInt8) (k : Nat) : decOk l (k + 1) = (decOk l k && (decide (0 ≤ (pr l k).1) && decide (0 ≤ (pr l k).2))) := by
  simp [decOk, List.range_succ, List.all_append]
theorem dec_succ (l : List UInt8) (k : Nat) : dec l (k + 1) = dec l k ++ [UInt8.ofNat (16 * (pr l k).1 + (pr l k).2).toNat] := by
  simp [dec, List.range_succ]
theorem dec_len (l : List UInt8) (k : Nat) : (dec l k).length = k := by simp [dec]
theorem decOk_false {l : List UInt8} {k n : Nat} (hkn : k < n) (h : ¬ (0 ≤ (pr l k).1 ∧ 0 ≤ (pr l k).2)) : decOk l n = false := by
  cases hd : decOk l n
  · rfl
  · have := List.all_eq_true.1 hd k (List.mem_range.2 hkn)
    simp only [Bool.and_eq_true, decide_eq_true_eq] at this
    exact absurd this h
def decB (s : ByteArray) : Bool := decide (s.size % 2 = 0) && decide (s.size ≤ 40000) && decOk s.data.toList (s.size / 2)
def DecPost (s : ByteArray) (w : World) (e : Ending) (w' : World) : Prop :=
  e = .returned (if decB s then .tuple #[.string ⟨(dec s.data.toList (s.size / 2)).toArray⟩, .bool true] else .tuple #[.string ⟨#[]⟩, .bool false]) ∧ Below w.heap.size w w'

theorem byte_at (s : ByteArray) (k : Nat) (h : k < s.size) : (s.data.toList.getD k 0) = s[k] := by
  have : k < s.data.toList.length := by simpa using h
  simp [List.getD, List.getElem?_eq_getElem this]; rfl

theorem idx_at (s : ByteArray) (j : Nat) (h : j < s.size) (i : Int) (hi : i = (j : Int)) (W : World) : (Instr.index 9 (.string s) (.int .i64 i)).run Try.prog W = .ok (.int .u8 (s[j].toNat : Int)) W := by
  subst hi
  have h1 : (0 : Int) ≤ (j : Int) := by omega
  have h2 : (j : Int) < (s.size : Int) := by omega
  simp [go_sem, h1, h2]
theorem byte_of {p q : Int} (hp : 0 ≤ p) (hp1 : p ≤ 15) (hq : 0 ≤ q) (hq1 : q ≤ 15) : ((UInt8.ofNat (16 * p + q).toNat).toNat : Int) = 16 * p + q := by
  rw [UInt8.toNat_ofNat']; omega

set_option maxRecDepth 100000 in
set_option maxHeartbeats 4000000 in
theorem s_DecodeHex (s : ByteArray) (hs : s.size ≤ maxLen) (w : World) : Calls Try.prog 57 #[.string s] w (DecPost s w) := by
  unfold maxLen at hs
  obtain ⟨i0, hi, hz0, hz1, hz2⟩ := info_parts Try.infoU8
  by_cases h2 : s.size % 2 = 0
  · have hd2 : ((s.size : Int) % 2 != 0) = false := by simp; omega
    by_cases hl : s.size ≤ 40000
    · obtain ⟨m, hm⟩ : ∃ m, s.size = 2 * m := ⟨s.size / 2, by omega⟩
      have He : ∀ b, decOk s.data.toList m = b → decB s = b := fun b hb => by
        have : s.size / 2 = m := by omega
        simp [decB, hl, h2, this, hb]
      have hmm : s.size / 2 = m := by omega
      have Hmm := Lib.hid hmm
      have HE := Lib.hid He
      have hm2 : 2 * m ≤ s.size := by omega
      have hm3 : s.size ≤ 2 * m := by omega
      clear hm He hmm h2
      go_enter Try.func57, Try.ntmps57
      go_wp2_with fail
      go_loopw [4, 5, 6, 7] (fun v i _ _ wr => ∃ k : Nat, k ≤ m ∧ i = .int .i64 ((2 * k : Nat) : Int) ∧ decOk s.data.toList k = true ∧ wr.ownsRow w.heap.size 5 1 v (dec s.data.toList k).length (bys (dec s.data.toList k)) ∧ Below w.heap.size w wr) (fun _ i _ _ _ => s.size - (intOf i).toNat)
      case atStart => exact ⟨0, Nat.zero_le _, rfl, rfl, by simpa [dec, bys] using World.ownsRow_made (base := w.heap.size) (size := 1) (e := 5) w #[] 0 (Nat.le_refl _) (by unfold maxLen; omega) rfl, (by repeat (first | with_reducible exact Below.refl _ _ | with_reducible assumption | with_reducible refine below_drewN ?_ _ | with_reducible refine Below.drew ?_ | ((with_reducible refine Below.alloc ?_ ?_ _); rotate_left; (((try simp) <;> (try omega)) <;> done)) | ((with_reducible refine Below.setCell ?_ ?_ _); rotate_left; (((try simp) <;> (try omega)) <;> done)) | ((with_reducible refine Below.trans ?_ (Below.mono (by with_reducible assumption) ?_)); rotate_left; (((try simp) <;> (try omega)) <;> done))))⟩
      case round =>
        obtain ⟨k, hk, rfl, hok, hown, hb⟩ := hrel
        have hlen := dec_len s.data.toList k
        obtain ⟨A, c, rfl, hc1, hc2, hA⟩ := own_form hown
        have hsz := hb.size
        have Hb := Lib.hid hb
        have Hown := Lib.hid hown
        have Hok := Lib.hid hok
        have hlen2 : (dec s.data.toList k).length ≤ 40000 := by omega
        clear hb hown hA hlen hok
        by_cases hlt : k < m
        · have hk1 : 2 * k < s.size := by omega
          have hk2 : 2 * k + 1 < s.size := by omega
          have hx1 : s[2 * k].toNat < 256 := s[2 * k].toNat_lt
          have hx2 : s[2 * k + 1].toNat < 256 := s[2 * k + 1].toNat_lt
          have g1 : (0 : Int) ≤ 2 * (k : Int) := by omega
          have g2 : 2 * (k : Int) < (s.size : Int) := by omega
          have g3 : 2 * (k : Int) + 1 < (s.size : Int) := by omega
          have hb1 := hv_bd s[2 * k].toNat
          have hb2 := hv_bd s[2 * k + 1].toNat
          have Hp1 := Lib.hid (show (pr s.data.toList k).1 = hv s[2 * k].toNat by rw [pr, byte_at s _ hk1])
          have Hp2 := Lib.hid (show (pr s.data.toList k).2 = hv s[2 * k + 1].toNat by rw [pr, byte_at s _ hk2])
          by_cases hp1 : 0 ≤ hv s[2 * k].toNat
          · have hd1 : decide (hv s[2 * k].toNat < 0) = false := by simp; omega
            by_cases hp2 : 0 ≤ hv s[2 * k + 1].toNat
            · have hd3 : decide (hv s[2 * k + 1].toNat < 0) = false := by simp; omega
              have Hok1 := Lib.hid (show decOk s.data.toList (k + 1) = true by
                rw [decOk_succ, Hok.out, Hp1.out, Hp2.out]; simp [hp1, hp2])
              have HV := Lib.hid (byte_of hp1 hb1.2 hp2 hb2.2)
              have Hs := Lib.hid (show dec s.data.toList (k + 1) = dec s.data.toList k ++ [UInt8.ofNat (16 * hv s[2 * k].toNat + hv s[2 * k + 1].toNat).toNat] by rw [dec_succ, Hp1.out, Hp2.out])
              go_wp2_with fail
              refine (s_value s[2 * k].toNat hx1 _).mono ?_
              rintro e w' ⟨rfl, rfl⟩
              go_wp2_with fail
              refine (s_value s[2 * k + 1].toNat hx2 _).mono ?_
              rintro e w' ⟨rfl, rfl⟩
              go_wp2_with (at_builtin; refine wpList_append_any _ rfl _ _ 55 rfl (w.heap.size) 5 i0 (.int .u8 0) 1 1 Try.underlying55 hi hz0 hz1 hz2 rfl (by decide) _ _ _ rfl (Hown.out.alloc _) _ _ 1 1 _ rfl (reads_new _ _ 1 1 rfl) (by intro u hu; simp at hu; first | (subst hu; rfl) | (rcases hu with rfl | rfl <;> rfl) | (rcases hu with rfl | rfl | rfl <;> rfl)) (by unfold maxLen; omega) (by omega) (by (try simp) <;> (try omega)) ?_; intro v2 w2 hown2 hgrow2 hblk2)
              have hbb := below_push Hb.out Hown.out (Nat.le_refl _) hsz hgrow2
              have Hown2 := Lib.hid hown2
              clear hown2 hgrow2 hblk2
              go_wp2_with fail
              go_roundw
              case rel =>
                refine ⟨k + 1, by omega, by go_num, Hok1.out, ?_, hbb⟩
                rw [Hs.out, List.length_append, bys, List.map_append, List.map_singleton, HV.out]
                exact Hown2.out
              case measure => simp [intOf]; omega
            · have hd3 : decide (hv s[2 * k + 1].toNat < 0) = true := by simp; omega
              go_wp2_with fail
              refine (s_value s[2 * k].toNat hx1 _).mono ?_
              rintro e w' ⟨rfl, rfl⟩
              go_wp2_with fail
              refine (s_value s[2 * k + 1].toNat hx2 _).mono ?_
              rintro e w' ⟨rfl, rfl⟩
              go_wp2_with fail
              go_ret2
              refine ⟨?_, Hb.out⟩
              rw [HE.out false (decOk_false hlt (by rw [Hp1.out, Hp2.out]; omega))]
              rfl
          · have hd1 : decide (hv s[2 * k].toNat < 0) = true := by simp; omega
            · 
              go_wp2_with fail
              refine (s_value s[2 * k].toNat hx1 _).mono ?_
              rintro e w' ⟨rfl, rfl⟩
              go_wp2_with fail
              refine (s_value s[2 * k + 1].toNat hx2 _).mono ?_
              rintro e w' ⟨rfl, rfl⟩
              go_wp2_with fail
              go_ret2
              refine ⟨?_, Hb.out⟩
              rw [HE.out false (decOk_false hlt (by rw [Hp1.out, Hp2.out]; omega))]
              rfl
        · obtain rfl : k = m := by omega
          have hcv := run_str Hown.out
          go_wp2_with fail
          go_ret2
          refine ⟨?_, Hb.out⟩
          rw [HE.out true Hok.out, if_pos rfl, Hmm.out]
          rfl
    · have hl' : decide ((s.size : Int) ≤ 40000) = false := by simp; omega
      have He := Lib.hid (show decB s = false by simp [decB, hl])
      clear h2
      go_enter Try.func57, Try.ntmps57
      go_wp2_with fail
      go_ret2
      exact ⟨by rw [He.out]; rfl, (by repeat (first | with_reducible exact Below.refl _ _ | with_reducible assumption | with_reducible refine below_drewN ?_ _ | with_reducible refine Below.drew ?_ | ((with_reducible refine Below.alloc ?_ ?_ _); rotate_left; (((try simp) <;> (try omega)) <;> done)) | ((with_reducible refine Below.setCell ?_ ?_ _); rotate_left; (((try simp) <;> (try omega)) <;> done)) | ((with_reducible refine Below.trans ?_ (Below.mono (by with_reducible assumption) ?_)); rotate_left; (((try simp) <;> (try omega)) <;> done))))⟩
  · have hd2 : ((s.size : Int) % 2 != 0) = true := by simp; omega
    have He := Lib.hid (show decB s = false by simp [decB, h2])
    clear h2
    by_cases hl : s.size ≤ 40000
    all_goals
      go_enter Try.func57, Try.ntmps57
      go_wp2_with fail
      go_ret2
      exact ⟨by rw [He.out]; rfl, (by repeat (first | with_reducible exact Below.refl _ _ | with_reducible assumption | with_reducible refine below_drewN ?_ _ | with_reducible refine Below.drew ?_ | ((with_reducible refine Below.alloc ?_ ?_ _); rotate_left; (((try simp) <;> (try omega)) <;> done)) | ((with_reducible refine Below.setCell ?_ ?_ _); rotate_left; (((try simp) <;> (try omega)) <;> done)) | ((with_reducible refine Below.trans ?_ (Below.mono (by with_reducible assumption) ?_)); rotate_left; (((try simp) <;> (try omega)) <;> done))))⟩

set_option maxRecDepth 100000 in
set_option maxHeartbeats 4000000 in
theorem i_DecodeHex (s : ByteArray) (hs : s.size ≤ maxLen) (w : World) : Calls Try.prog 58 #[.string s] w (DecPost s w) := by
  unfold maxLen at hs
  obtain ⟨i0, hi, hz0, hz1, hz2⟩ := info_parts Try.infoU8
  by_cases h2 : s.size % 2 = 0
  · have hd2 : ((s.size : Int) % 2 != 0) = false := by simp; omega
    by_cases hl : s.size ≤ 40000
    · obtain ⟨m, hm⟩ : ∃ m, s.size = 2 * m := ⟨s.size / 2, by omega⟩
      have He : ∀ b, decOk s.data.toList m = b → decB s = b := fun b hb => by
        have : s.size / 2 = m := by omega
        simp [decB, hl, h2, this, hb]
      have hmm : s.size / 2 = m := by omega
      have Hmm := Lib.hid hmm
      have HE := Lib.hid He
      have hm2 : 2 * m ≤ s.size := by omega
      have hm3 : s.size ≤ 2 * m := by omega
      clear hm He hmm h2
      go_enter Try.func58, Try.ntmps58
      go_wp2_with (refine wpList_make_own _ rfl _ _ 55 rfl w.heap.size 5 i0 (.int .u8 0) 1 Try.underlying55 hi hz0 hz1 .i64 .i64 ((s.size : Int) / 2) (s.size / 2) rfl rfl (by omega) (by rw [hz2]; omega) (by unfold maxLen; omega) (Nat.le_refl _) ?_; intro w1 hown1 hg1)
      have Hown1 := Lib.hid hown1
      have Hb1 := Lib.hid (below_of_grown hg1 (Nat.le_refl _) (by simp))
      clear hown1 hg1
      go_wp2_with fail
      go_loopw [4, 5, 6, 7] (fun v i _ _ wr => ∃ k : Nat, k ≤ m ∧ i = .int .i64 ((2 * k : Nat) : Int) ∧ decOk s.data.toList k = true ∧ wr.ownsRow w.heap.size 5 1 v (dec s.data.toList k).length (bys (dec s.data.toList k)) ∧ Below w.heap.size w wr) (fun _ i _ _ _ => s.size - (intOf i).toNat)
      case atStart => exact ⟨0, Nat.zero_le _, rfl, rfl, by simpa [dec, bys] using Hown1.out, Hb1.out⟩
      case round =>
        obtain ⟨k, hk, rfl, hok, hown, hb⟩ := hrel
        have hlen := dec_len s.data.toList k
        obtain ⟨A, c, rfl, hc1, hc2, hA⟩ := own_form hown
        have hsz := hb.size
        have Hb := Lib.hid hb
        have Hown := Lib.hid hown
        have Hok := Lib.hid hok
        have hlen2 : (dec s.data.toList k).length ≤ 40000 := by omega
        clear hb hown hA hlen hok
        by_cases hlt : k < m
        · have hk1 : 2 * k < s.size := by omega
          have hk2 : 2 * k + 1 < s.size := by omega
          have hx1 : s[2 * k].toNat < 256 := s[2 * k].toNat_lt
          have hx2 : s[2 * k + 1].toNat < 256 := s[2 * k + 1].toNat_lt
          have g1 : (0 : Int) ≤ 2 * (k : Int) := by omega
          have g2 : 2 * (k : Int) < (s.size : Int) := by omega
          have g3 : 2 * (k : Int) + 1 < (s.size : Int) := by omega
          have hb1 := hv_bd s[2 * k].toNat
          have hb2 := hv_bd s[2 * k + 1].toNat
          have Hp1 := Lib.hid (show (pr s.data.toList k).1 = hv s[2 * k].toNat by rw [pr, byte_at s _ hk1])
          have Hp2 := Lib.hid (show (pr s.data.toList k).2 = hv s[2 * k + 1].toNat by rw [pr, byte_at s _ hk2])
          by_cases hp1 : 0 ≤ hv s[2 * k].toNat
          · have hd1 : decide (hv s[2 * k].toNat < 0) = false := by simp; omega
            by_cases hp2 : 0 ≤ hv s[2 * k + 1].toNat
            · have hd3 : decide (hv s[2 * k + 1].toNat < 0) = false := by simp; omega
              have Hok1 := Lib.hid (show decOk s.data.toList (k + 1) = true by
                rw [decOk_succ, Hok.out, Hp1.out, Hp2.out]; simp [hp1, hp2])
              have HV := Lib.hid (byte_of hp1 hb1.2 hp2 hb2.2)
              have Hs := Lib.hid (show dec s.data.toList (k + 1) = dec s.data.toList k ++ [UInt8.ofNat (16 * hv s[2 * k].toNat + hv s[2 * k + 1].toNat).toNat] by rw [dec_succ, Hp1.out, Hp2.out])
              go_wp2_with fail
              have hi2 : ∀ W, (Instr.index 9 (.string s) (.int .i64 (2 * (k : Int) + 1))).run Try.prog W = .ok (.int .u8 (s[2 * k + 1].toNat : Int)) W := fun W => idx_at s (2 * k + 1) hk2 _ (by omega) W
              refine wp_region_lexC (by kernel_rfl) (by kernel_rfl) (fun _ => True) (trivial) (fun lexNE => ?_)
              (repeat (first | (refine lex_read (by first | exact wanted_n rfl | exact wanted_g rfl rfl rfl rfl) (by exact rfl) (fun K hK => ?_); go_big_quiet_op; refine hK _ ?_; clear hK K) | (refine lex_skip' (by exact wanted_g rfl rfl rfl rfl) (fun K hK => ?_); go_simp; refine hK _ ?_; clear hK K)))
              (refine lex_eff (by first | exact wanted_n rfl | exact wanted_g rfl rfl rfl rfl) (by exact rfl) (fun K hK => ?_); go_big_op)
              refine (i_hexValue s[2 * k].toNat hx1 _).mono ?_
              rintro e w' ⟨rfl, rfl⟩
              refine hK _ _ (Cls.mk' trivial) ?_
              clear hK K
              (repeat (first | (refine lex_read (by first | exact wanted_n rfl | exact wanted_g rfl rfl rfl rfl) (by exact rfl) (fun K hK => ?_); go_big_quiet_op; refine hK _ ?_; clear hK K) | (refine lex_skip' (by exact wanted_g rfl rfl rfl rfl) (fun K hK => ?_); go_simp; refine hK _ ?_; clear hK K)))
              (refine lex_eff (by first | exact wanted_n rfl | exact wanted_g rfl rfl rfl rfl) (by exact rfl) (fun K hK => ?_); go_big_op)
              refine (i_hexValue s[2 * k + 1].toNat hx2 _).mono ?_
              rintro e w' ⟨rfl, rfl⟩
              refine hK _ _ (Cls.mk' trivial) ?_
              clear hK K
              (repeat (first | (refine lex_read (by first | exact wanted_n rfl | exact wanted_g rfl rfl rfl rfl) (by exact rfl) (fun K hK => ?_); go_big_quiet_op; refine hK _ ?_; clear hK K) | (refine lex_skip' (by exact wanted_g rfl rfl rfl rfl) (fun K hK => ?_); go_simp; refine hK _ ?_; clear hK K)))
              (refine lex_nil ?_)
              clear lexNE hi2
              go_wp2_with (at_builtin; refine wpList_append_any _ rfl _ _ 55 rfl (w.heap.size) 5 i0 (.int .u8 0) 1 1 Try.underlying55 hi hz0 hz1 hz2 rfl (by decide) _ _ _ rfl (Hown.out.alloc _) _ _ 1 1 _ rfl (reads_new _ _ 1 1 rfl) (by intro u hu; simp at hu; first | (subst hu; rfl) | (rcases hu with rfl | rfl <;> rfl) | (rcases hu with rfl | rfl | rfl <;> rfl)) (by unfold maxLen; omega) (by omega) (by (try simp) <;> (try omega)) ?_; intro v2 w2 hown2 hgrow2 hblk2)
              have hbb := below_push Hb.out.drew Hown.out (Nat.le_refl _) hsz hgrow2
              have Hown2 := Lib.hid hown2
              clear hown2 hgrow2 hblk2
              go_wp2_with fail
              go_roundw
              case rel =>
                refine ⟨k + 1, by omega, by go_num, Hok1.out, ?_, hbb⟩
                rw [Hs.out, List.length_append, bys, List.map_append, List.map_singleton, HV.out]
                exact Hown2.out
              case measure => simp [intOf]; omega
            · have hd3 : decide (hv s[2 * k + 1].toNat < 0) = true := by simp; omega
              go_wp2_with fail
              have hi2 : ∀ W, (Instr.index 9 (.string s) (.int .i64 (2 * (k : Int) + 1))).run Try.prog W = .ok (.int .u8 (s[2 * k + 1].toNat : Int)) W := fun W => idx_at s (2 * k + 1) hk2 _ (by omega) W
              refine wp_region_lexC (by kernel_rfl) (by kernel_rfl) (fun _ => True) (trivial) (fun lexNE => ?_)
              (repeat (first | (refine lex_read (by first | exact wanted_n rfl | exact wanted_g rfl rfl rfl rfl) (by exact rfl) (fun K hK => ?_); go_big_quiet_op; refine hK _ ?_; clear hK K) | (refine lex_skip' (by exact wanted_g rfl rfl rfl rfl) (fun K hK => ?_); go_simp; refine hK _ ?_; clear hK K)))
              (refine lex_eff (by first | exact wanted_n rfl | exact wanted_g rfl rfl rfl rfl) (by exact rfl) (fun K hK => ?_); go_big_op)
              refine (i_hexValue s[2 * k].toNat hx1 _).mono ?_
              rintro e w' ⟨rfl, rfl⟩
              refine hK _ _ (Cls.mk' trivial) ?_
              clear hK K
              (repeat (first | (refine lex_read (by first | exact wanted_n rfl | exact wanted_g rfl rfl rfl rfl) (by exact rfl) (fun K hK => ?_); go_big_quiet_op; refine hK _ ?_; clear hK K) | (refine lex_skip' (by exact wanted_g rfl rfl rfl rfl) (fun K hK => ?_); go_simp; refine hK _ ?_; clear hK K)))
              (refine lex_eff (by first | exact wanted_n rfl | exact wanted_g rfl rfl rfl rfl) (by exact rfl) (fun K hK => ?_); go_big_op)
              refine (i_hexValue s[2 * k + 1].toNat hx2 _).mono ?_
              rintro e w' ⟨rfl, rfl⟩
              refine hK _ _ (Cls.mk' trivial) ?_
              clear hK K
              (repeat (first | (refine lex_read (by first | exact wanted_n rfl | exact wanted_g rfl rfl rfl rfl) (by exact rfl) (fun K hK => ?_); go_big_quiet_op; refine hK _ ?_; clear hK K) | (refine lex_skip' (by exact wanted_g rfl rfl rfl rfl) (fun K hK => ?_); go_simp; refine hK _ ?_; clear hK K)))
              (refine lex_nil ?_)
              clear lexNE hi2
              go_wp2_with fail
              go_ret2
              refine ⟨?_, Hb.out.drew⟩
              rw [HE.out false (decOk_false hlt (by rw [Hp1.out, Hp2.out]; omega))]
              rfl
          · have hd1 : decide (hv s[2 * k].toNat < 0) = true := by simp; omega
            · 
              go_wp2_with fail
              have hi2 : ∀ W, (Instr.index 9 (.string s) (.int .i64 (2 * (k : Int) + 1))).run Try.prog W = .ok (.int .u8 (s[2 * k + 1].toNat : Int)) W := fun W => idx_at s (2 * k + 1) hk2 _ (by omega) W
              refine wp_region_lexC (by kernel_rfl) (by kernel_rfl) (fun _ => True) (trivial) (fun lexNE => ?_)
              (repeat (first | (refine lex_read (by first | exact wanted_n rfl | exact wanted_g rfl rfl rfl rfl) (by exact rfl) (fun K hK => ?_); go_big_quiet_op; refine hK _ ?_; clear hK K) | (refine lex_skip' (by exact wanted_g rfl rfl rfl rfl) (fun K hK => ?_); go_simp; refine hK _ ?_; clear hK K)))
              (refine lex_eff (by first | exact wanted_n rfl | exact wanted_g rfl rfl rfl rfl) (by exact rfl) (fun K hK => ?_); go_big_op)
              refine (i_hexValue s[2 * k].toNat hx1 _).mono ?_
              rintro e w' ⟨rfl, rfl⟩
              refine hK _ _ (Cls.mk' trivial) ?_
              clear hK K
              (repeat (first | (refine lex_read (by first | exact wanted_n rfl | exact wanted_g rfl rfl rfl rfl) (by exact rfl) (fun K hK => ?_); go_big_quiet_op; refine hK _ ?_; clear hK K) | (refine lex_skip' (by exact wanted_g rfl rfl rfl rfl) (fun K hK => ?_); go_simp; refine hK _ ?_; clear hK K)))
              (refine lex_eff (by first | exact wanted_n rfl | exact wanted_g rfl rfl rfl rfl) (by exact rfl) (fun K hK => ?_); go_big_op)
              refine (i_hexValue s[2 * k + 1].toNat hx2 _).mono ?_
              rintro e w' ⟨rfl, rfl⟩
              refine hK _ _ (Cls.mk' trivial) ?_
              clear hK K
              (repeat (first | (refine lex_read (by first | exact wanted_n rfl | exact wanted_g rfl rfl rfl rfl) (by exact rfl) (fun K hK => ?_); go_big_quiet_op; refine hK _ ?_; clear hK K) | (refine lex_skip' (by exact wanted_g rfl rfl rfl rfl) (fun K hK => ?_); go_simp; refine hK _ ?_; clear hK K)))
              (refine lex_nil ?_)
              clear lexNE hi2
              go_wp2_with fail
              go_ret2
              refine ⟨?_, Hb.out.drew⟩
              rw [HE.out false (decOk_false hlt (by rw [Hp1.out, Hp2.out]; omega))]
              rfl
        · obtain rfl : k = m := by omega
          have hcv := run_str Hown.out
          go_wp2_with fail
          go_ret2
          refine ⟨?_, Hb.out⟩
          rw [HE.out true Hok.out, if_pos rfl, Hmm.out]
          rfl
    · have hl' : decide ((s.size : Int) ≤ 40000) = false := by simp; omega
      have He := Lib.hid (show decB s = false by simp [decB, hl])
      clear h2
      go_enter Try.func58, Try.ntmps58
      go_wp2_with fail
      go_ret2
      exact ⟨by rw [He.out]; rfl, (by repeat (first | with_reducible exact Below.refl _ _ | with_reducible assumption | with_reducible refine below_drewN ?_ _ | with_reducible refine Below.drew ?_ | ((with_reducible refine Below.alloc ?_ ?_ _); rotate_left; (((try simp) <;> (try omega)) <;> done)) | ((with_reducible refine Below.setCell ?_ ?_ _); rotate_left; (((try simp) <;> (try omega)) <;> done)) | ((with_reducible refine Below.trans ?_ (Below.mono (by with_reducible assumption) ?_)); rotate_left; (((try simp) <;> (try omega)) <;> done))))⟩
  · have hd2 : ((s.size : Int) % 2 != 0) = true := by simp; omega
    have He := Lib.hid (show decB s = false by simp [decB, h2])
    clear h2
    by_cases hl : s.size ≤ 40000
    all_goals
      go_enter Try.func58, Try.ntmps58
      go_wp2_with fail
      go_ret2
      exact ⟨by rw [He.out]; rfl, (by repeat (first | with_reducible exact Below.refl _ _ | with_reducible assumption | with_reducible refine below_drewN ?_ _ | with_reducible refine Below.drew ?_ | ((with_reducible refine Below.alloc ?_ ?_ _); rotate_left; (((try simp) <;> (try omega)) <;> done)) | ((with_reducible refine Below.setCell ?_ ?_ _); rotate_left; (((try simp) <;> (try omega)) <;> done)) | ((with_reducible refine Below.trans ?_ (Below.mono (by with_reducible assumption) ?_)); rotate_left; (((try simp) <;> (try omega)) <;> done))))⟩

end Go.Proofs.Ytcfpjcknilbinaa

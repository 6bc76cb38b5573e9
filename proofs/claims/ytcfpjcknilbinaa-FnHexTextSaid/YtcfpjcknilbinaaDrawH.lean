/- Contracts: drawn texts. -/
import Derived.Test.YtcfpjcknilbinaaDrawN
import Derived.Laws.MakeOwn
namespace Go.Proofs.Ytcfpjcknilbinaa
open Go.RowKit

theorem Cur.grown {B g : Nat} {w w' : World} {row : Option Nat} (h : Cur B g w) (hg : w.grownBy w' row) (hr : ∀ k, row = some k → B ≤ k ∧ k ≠ g) : Cur B g w' := by
  have hl := h.lt
  obtain ⟨A, n, c, l, i, hh, hB, hBg, hr0, hin, hn⟩ := h
  exact ⟨A, n, c, l, i, hh, hB.grown hg (fun e => (hr g e.symm).2 rfl), hBg, hr0.grown hg (by omega) (fun k hk => (hr k hk).1), hin, hn⟩
/-- a drawn text of at most m bytes -/
def DrawStr (B g m : Nat) (w : World) (e : Ending) (w' : World) : Prop := ∃ s : ByteArray, e = .returned (.string s) ∧ s.size ≤ m ∧ Cur B g w' ∧ w.grownBy w' (some g)

theorem bys_snoc (l : List UInt8) (x : Int) (h0 : 0 ≤ x) (h1 : x < 256) : bys l ++ [.int .u8 x] = bys (l ++ [UInt8.ofNat x.toNat]) := by
  simp only [bys, List.map_append, List.map_cons, List.map_nil]
  congr 3
  rw [UInt8.toNat_ofNat']
  omega
theorem grown_push_at {w w1 w2 : World} {g base n size : Nat} {e : TypeId} {o : Obj} {v : Value} {xs : List Value} (h : w.grownBy w1 (some g)) (hown : w1.ownsRow base e size v n xs) (hB : w.heap.size ≤ base) (hg : (w1.alloc o).grownBy w2 v.ownBlock) : w.grownBy w2 (some g) := by
  have h2 := grown_push hg
  refine grown_below h (below_of_grown h2 (B := w.heap.size) h.size ?_) (Nat.le_refl _)
  intro k hk
  have := hown.lt k hk
  omega

set_option maxRecDepth 100000 in
set_option maxHeartbeats 4000000 in
theorem s_Text {B g : Nat} {w : World} (n : Nat) (hn : n ≤ 5000) (hcur : Cur B g w) : Calls Try.prog 120 #[.pointer (some ⟨g, 0, none⟩), .int .i64 n] w (DrawStr B g n w) := by
  obtain ⟨i0, hi, hz0, hz1, hz2⟩ := info_parts Try.infoU8
  have hgl := hcur.lt
  have hle := hcur.le
  have g0 : ¬ (5000 : Int) < (n : Int) := by omega
  go_enter Try.func120, Try.ntmps120
  go_wp2_with fail
  go_loopw [5, 6] (fun v i wr => ∃ (k : Nat) (l : List UInt8), k ≤ n ∧ l.length = k ∧ i = .int .i64 k ∧ wr.ownsRow w.heap.size 5 1 v k (bys l) ∧ Cur B g wr ∧ w.grownBy wr (some g)) (fun _ i _ => n - (intOf i).toNat)
  case atStart => exact ⟨0, [], Nat.zero_le _, rfl, rfl, by simpa [bys] using World.ownsRow_made (base := w.heap.size) (size := 1) (e := 5) w #[] 0 (Nat.le_refl _) (by unfold maxLen; omega) rfl, hcur.alloc _, World.grownBy_alloc _ _ _⟩
  case round =>
    obtain ⟨k, l, hk, hl, rfl, hown, hc, hg⟩ := hrel
    obtain ⟨A, c, rfl, hc1, hc2, hA⟩ := own_form hown
    have hsz := hg.size
    have Hg := Lib.hid hg
    have Hc := Lib.hid hc
    have Hown := Lib.hid hown
    have Hl := Lib.hid hl
    clear hown hA hg hc hl
    by_cases hlt : k < n
    · have g1 : (k : Int) < (n : Int) := by omega
      go_wp2_with fail
      refine (s_Byte Hc.out).mono ?_
      rintro e w1 ⟨x, rfl, ⟨hx0, hx1⟩, hc1', hg1⟩
      have hne : (Value.slice A k c).ownBlock = none ∨ (Value.slice A k c).ownBlock ≠ some g := by
        cases hv : (Value.slice A k c).ownBlock
        · exact .inl rfl
        · right
          intro h
          injection h with h
          have := (Hown.out.lt _ hv).1
          omega
      have hown1 := Hown.out.kept hg1 hne
      have Hown1 := Lib.hid hown1
      have hsz1 := hg1.size
      have hgg := Hg.out.trans hg1
      have Hgg := Lib.hid hgg
      have Hc1 := Lib.hid hc1'
      clear hown1 hg1 hc1' hgg
      go_wp2_with (at_builtin; refine wpList_append_any _ rfl _ _ 55 rfl (w.heap.size) 5 i0 (.int .u8 0) 1 1 Try.underlying55 hi hz0 hz1 hz2 rfl (by decide) _ _ _ rfl (Hown1.out.alloc _) _ _ 1 1 _ rfl (reads_new _ _ 1 1 rfl) (by intro u hu; simp at hu; first | (subst hu; rfl) | (rcases hu with rfl | rfl <;> rfl) | (rcases hu with rfl | rfl | rfl <;> rfl)) (by unfold maxLen; omega) (by omega) (by (try simp) <;> (try omega)) ?_; intro v2 w2 hown2 hgrow2 hblk2)
      have hg2 := grown_push_at Hgg.out Hown1.out (Nat.le_refl _) hgrow2
      have hc2 : Cur B g w2 := by
        refine (Hc1.out.alloc _).grown hgrow2 fun j hj => ?_
        have := (Hown1.out.lt j hj).1
        omega
      have Hown2 := Lib.hid hown2
      clear hown2 hgrow2 hblk2
      go_wp2_with fail
      go_roundw
      case rel =>
        refine ⟨k + 1, l ++ [UInt8.ofNat x.toNat], by omega, by rw [List.length_append, Hl.out]; rfl, by go_num, ?_, hc2, hg2⟩
        rw [← bys_snoc l x hx0 hx1]
        exact Hown2.out
      case measure => simp [intOf]; omega
    · obtain rfl : k = n := by omega
      have hcv := run_str Hown.out
      go_wp2_with fail
      go_ret
      exact ⟨_, rfl, by have := Hl.out; simp [ByteArray.size]; omega, Hc.out, Hg.out⟩

theorem made_bys (n : Nat) : (madeCells #[.int .u8 0] n).toList = bys (List.replicate n 0) := by
  simp only [madeCells, bys, Array.toList_map, Array.toList_range, List.map_replicate]
  rw [List.eq_replicate_iff]
  refine ⟨by simp, fun b hb => ?_⟩
  obtain ⟨i, _, rfl⟩ := List.mem_map.1 hb
  show (#[Value.int .u8 0])[i % 1]! = _
  rw [Nat.mod_one]
  rfl
theorem own_bytes {w : World} {n : Nat} (hn : n ≤ maxLen) : (w.alloc (.cells (madeCells #[.int .u8 0] n) 5)).ownsRow w.heap.size 5 1 (.slice (some ⟨w.heap.size, 0, none⟩) n n) n (bys (List.replicate n 0)) :=
  ⟨by simp [bys], .inr ⟨w.heap.size, n, madeCells #[.int .u8 0] n, rfl, Nat.le_refl _, heap_alloc_new w _, Nat.le_refl _, hn, by simp [size_madeCells], by rw [made_bys]; simp [bys]⟩⟩
theorem bys_set (l : List UInt8) (k x : Nat) (hx : x < 256) : (bys l).set k (.int .u8 x) = bys (l.set k (UInt8.ofNat x)) := by
  simp only [bys, List.map_set]
  congr 2
  rw [UInt8.toNat_ofNat', Nat.mod_eq_of_lt hx]

set_option maxRecDepth 100000 in
set_option maxHeartbeats 4000000 in
theorem s_Long (w : World) (n x : Nat) (hn : n ≤ 1000000) (hx : x < 256) : Calls Try.prog 119 #[.int .i64 n, .int .u8 x] w fun e w' => ∃ s : ByteArray, e = .returned (.string s) ∧ s.size = n ∧ Below w.heap.size w w' := by
  obtain ⟨i0, hi, hz0, hz1, hz2⟩ := info_parts Try.infoU8
  have hmk := run_make_rowN (P := Try.prog) 55 5 i0 (.int .u8 0) Try.underlying55 hi hz0 .i64 .i64 n n (Nat.le_refl _) (by rw [hz2]; omega) (by omega) w
  rw [hz1, Nat.mul_one] at hmk
  have hcs : (Value.int .u8 0).cells = #[.int .u8 0] := rfl
  rw [hcs] at hmk
  have Hmo := Lib.hid (own_bytes (w := w) (n := n) (by unfold maxLen; omega))
  go_enter Try.func119, Try.ntmps119
  go_wp2_with fail
  go_loopw [6] (fun i wr => ∃ (k : Nat) (l : List UInt8), k ≤ n ∧ l.length = n ∧ i = .int .i64 k ∧ wr.ownsRow w.heap.size 5 1 (.slice (some ⟨w.heap.size, 0, none⟩) n n) n (bys l) ∧ Below w.heap.size w wr) (fun i _ => n - (intOf i).toNat)
  case atStart => exact ⟨0, List.replicate n 0, Nat.zero_le _, by simp, rfl, Hmo.out, (by repeat (first | with_reducible exact Below.refl _ _ | with_reducible assumption | with_reducible refine below_drewN ?_ _ | with_reducible refine Below.drew ?_ | ((with_reducible refine Below.alloc ?_ ?_ _); rotate_left; (((try simp) <;> (try omega)) <;> done)) | ((with_reducible refine Below.setCell ?_ ?_ _); rotate_left; (((try simp) <;> (try omega)) <;> done)) | ((with_reducible refine Below.trans ?_ (Below.mono (by with_reducible assumption) ?_)); rotate_left; (((try simp) <;> (try omega)) <;> done))))⟩
  case round =>
    obtain ⟨k, l, hk, hl, rfl, hown, hb⟩ := hrel
    have Hb := Lib.hid hb
    have Hown := Lib.hid hown
    have Hl := Lib.hid hl
    have hsz := hb.size
    by_cases hlt : k < n
    · have hcell : wr.cell? ⟨w.heap.size, k, none⟩ = _ := hown.cellAt k (by omega)
      have hfz := hown.frozenAt k
      obtain ⟨y, hbl⟩ : ∃ y : UInt8, (bys l)[k]? = some (.int .u8 y.toNat) := ⟨l[k]'(by omega), by simp [bys, List.getElem?_eq_getElem (show k < l.length by omega)]⟩
      rw [hbl] at hcell
      have g1 : (0 : Int) ≤ (k : Int) := by omega
      have g2 : (k : Int) < (n : Int) := by omega
      clear hbl hown hb hl
      go_wp2_with fail
      go_roundw
      case rel =>
        have hs := Hown.out.stored k (.int .u8 x)
        refine ⟨k + 1, l.set k (UInt8.ofNat x), by omega, by rw [List.length_set]; exact Hl.out, by go_num, ?_, ?_⟩
        · rw [← bys_set l k x hx]
          exact hs.1
        · exact Hb.out.trans (below_of_grown hs.2 hsz (fun g hg => by injection hg with hg; omega))
      case measure => simp [intOf]; omega
    · obtain rfl : k = n := by omega
      have hcv := run_str Hown.out
      clear hown hb hl
      go_wp2_with fail
      go_ret
      exact ⟨_, rfl, by have := Hl.out; simp [ByteArray.size]; omega, Hb.out⟩
end Go.Proofs.Ytcfpjcknilbinaa

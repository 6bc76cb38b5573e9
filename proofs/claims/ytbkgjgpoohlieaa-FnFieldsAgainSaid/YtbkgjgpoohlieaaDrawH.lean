/- Contracts: drawn texts. -/
import Derived.Test.YtbkgjgpoohlieaaDrawN
import Derived.Laws.MakeOwn
namespace Go.Proofs.Ytbkgjgpoohlieaa
open Go.RowKit

theorem Cur.grown {B g : Nat} {w w' : World} {row : Option Nat} (h : Cur B g w) (hg : w.grownBy w' row) (hr : ∀ k, row = some k → B ≤ k ∧ k ≠ g) : Cur B g w' := by
  have hl := h.lt
  obtain ⟨A, n, c, l, i, hh, hB, hBg, hr0, hin, hn⟩ := h
  exact ⟨A, n, c, l, i, hh, hB.grown hg (fun e => (hr g e.symm).2 rfl), hBg, hr0.grown hg (by omega) (fun k hk => (hr k hk).1), hin, hn⟩
/-- a drawn text of at most m bytes -/
def DrawStr (B g m : Nat) (w : World) (e : Ending) (w' : World) : Prop := ∃ s : ByteArray, e = .returned (.string s) ∧ s.size ≤ m ∧ Cur B g w' ∧ w.grownBy w' (some g)

theorem bys_snoc (l : List UInt8) (x : Int) (h0 : 0 ≤ x) (h1 : x < 256) : bys l ++ [.int .u8 x] = bys (l ++ [UInt8.ofNat x.toNat]) := by
  simp only [bys, List.map_append, List.map_cons, List.map_nil]
  congr 3
  rw [UInt8.toNat_ofNat']
  omega
theorem grown_push_at {w w1 w2 : World} {g base n size : Nat} {e : TypeId} {o : Obj} {v : Value} {xs : List Value} (h : w.grownBy w1 (some g)) (hown : w1.ownsRow base e size v n xs) (hB : w.heap.size ≤ base) (hg : (w1.alloc o).grownBy w2 v.ownBlock) : w.grownBy w2 (some g) := by
  have h2 := grown_push hg
  refine grown_below h (below_of_grown h2 (B := w.heap.size) h.size ?_) (Nat.le_refl _)
  intro k hk
  have := hown.lt k hk
  omega

theorem made_bys (n : Nat) : (madeCells #[.int .u8 0] n).toList = bys (List.replicate n 0) := by
  simp only [madeCells, bys, Array.toList_map, Array.toList_range, List.map_replicate]
  rw [List.eq_replicate_iff]
  refine ⟨by simp, fun b hb => ?_⟩
  obtain ⟨i, _, rfl⟩ := List.mem_map.1 hb
  show (#[Value.int .u8 0])[i % 1]! = _
  rw [Nat.mod_one]
  rfl
theorem own_bytes {w : World} {n : Nat} (hn : n ≤ maxLen) : (w.alloc (.cells (madeCells #[.int .u8 0] n) 5)).ownsRow w.heap.size 5 1 (.slice (some ⟨w.heap.size, 0, none⟩) n n) n (bys (List.replicate n 0)) :=
  ⟨by simp [bys], .inr ⟨w.heap.size, n, madeCells #[.int .u8 0] n, rfl, Nat.le_refl _, heap_alloc_new w _, Nat.le_refl _, hn, by simp [size_madeCells], by rw [made_bys]; simp [bys]⟩⟩
theorem bys_set (l : List UInt8) (k x : Nat) (hx : x < 256) : (bys l).set k (.int .u8 x) = bys (l.set k (UInt8.ofNat x)) := by
  simp only [bys, List.map_set]
  congr 2
  rw [UInt8.toNat_ofNat', Nat.mod_eq_of_lt hx]

set_option maxRecDepth 100000 in
set_option maxHeartbeats 4000000 in
theorem s_Long (w : World) (n x : Nat) (hn : n ≤ 1000000) (hx : x < 256) : Calls Try.prog 50 #[.int .i64 n, .int .u8 x] w fun e w' => ∃ s : ByteArray, e = .returned (.string s) ∧ s.size = n ∧ Below w.heap.size w w' := by
  obtain ⟨i0, hi, hz0, hz1, hz2⟩ := info_parts Try.infoU8
  have hmk := run_make_rowN (P := Try.prog) 22 5 i0 (.int .u8 0) Try.underlying22 hi hz0 .i64 .i64 n n (Nat.le_refl _) (by rw [hz2]; omega) (by omega) w
  rw [hz1, Nat.mul_one] at hmk
  have hcs : (Value.int .u8 0).cells = #[.int .u8 0] := rfl
  rw [hcs] at hmk
  have Hmo := Lib.hid (own_bytes (w := w) (n := n) (by unfold maxLen; omega))
  go_enter Try.func50, Try.ntmps50
  go_wp2_with fail
  go_loopw [6] (fun i wr => ∃ (k : Nat) (l : List UInt8), k ≤ n ∧ l.length = n ∧ i = .int .i64 k ∧ wr.ownsRow w.heap.size 5 1 (.slice (some ⟨w.heap.size, 0, none⟩) n n) n (bys l) ∧ Below w.heap.size w wr) (fun i _ => n - (intOf i).toNat)
  case atStart => exact ⟨0, List.replicate n 0, Nat.zero_le _, by simp, rfl, Hmo.out, (by repeat (first | with_reducible exact Below.refl _ _ | with_reducible assumption | with_reducible refine below_drewN ?_ _ | with_reducible refine Below.drew ?_ | ((with_reducible refine Below.alloc ?_ ?_ _); rotate_left; (((try simp) <;> (try omega)) <;> done)) | ((with_reducible refine Below.setCell ?_ ?_ _); rotate_left; (((try simp) <;> (try omega)) <;> done)) | ((with_reducible refine Below.trans ?_ (Below.mono (by with_reducible assumption) ?_)); rotate_left; (((try simp) <;> (try omega)) <;> done))))⟩
  case round =>
    obtain ⟨k, l, hk, hl, rfl, hown, hb⟩ := hrel
    have Hb := Lib.hid hb
    have Hown := Lib.hid hown
    have Hl := Lib.hid hl
    have hsz := hb.size
    by_cases hlt : k < n
    · have hcell : wr.cell? ⟨w.heap.size, k, none⟩ = _ := hown.cellAt k (by omega)
      have hfz := hown.frozenAt k
      obtain ⟨y, hbl⟩ : ∃ y : UInt8, (bys l)[k]? = some (.int .u8 y.toNat) := ⟨l[k]'(by omega), by simp [bys, List.getElem?_eq_getElem (show k < l.length by omega)]⟩
      rw [hbl] at hcell
      have g1 : (0 : Int) ≤ (k : Int) := by omega
      have g2 : (k : Int) < (n : Int) := by omega
      clear hbl hown hb hl
      go_wp2_with fail
      go_roundw
      case rel =>
        have hs := Hown.out.stored k (.int .u8 x)
        refine ⟨k + 1, l.set k (UInt8.ofNat x), by omega, by rw [List.length_set]; exact Hl.out, by go_num, ?_, ?_⟩
        · rw [← bys_set l k x hx]
          exact hs.1
        · exact Hb.out.trans (below_of_grown hs.2 hsz (fun g hg => by injection hg with hg; omega))
      case measure => simp [intOf]; omega
    · obtain rfl : k = n := by omega
      have hcv := run_str Hown.out
      clear hown hb hl
      go_wp2_with fail
      go_ret
      exact ⟨_, rfl, by have := Hl.out; simp [ByteArray.size]; omega, Hb.out⟩
end Go.Proofs.Ytbkgjgpoohlieaa

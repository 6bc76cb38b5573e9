/- Contracts: lists of numbers in the laws: the size, the copy; data in memory of the call's own. -/
import Derived.Test.YtjiijjihkgipkaaFd
import Derived.Outline
namespace Go.Proofs.Ytjiijjihkgipkaa
open Go.RowKit

/-- blocks that the call made -/
def New (w w' : World) (b : Nat) : Prop := w.heap.size ≤ b ∧ b < w'.heap.size
theorem own_rep {α : Type} {enc : α → List Int} {size : Nat} (hE : ∀ x, (enc x).length = size) (h0 : 0 < size) {w : World} {base n c : Nat} {e : TypeId} {A : Option Addr} {l : List α} (hn : n ≤ maxLen) (h : w.ownsRow base e size (.slice A n c) n (recs enc l)) :
    Rep w (fun b => base ≤ b ∧ b < w.heap.size) (.slice A n c) (frecs enc l) := by
  have hl := Reads.rlen hE h0 (Reads.of_own h)
  refine Rep.of_reads hE hn hl (Reads.of_own h) fun ad hA => ?_
  subst hA
  have := h.lt ad.block (by
    rcases h.2 with ⟨h', _⟩ | ⟨g, cap, cur, h', _⟩
    · cases h'
    · injection h' with h1 _ _
      injection h1 with h1
      subst h1
      rfl)
  exact this
theorem own_rep_ints {w : World} {base n c : Nat} {e : TypeId} {A : Option Addr} {l : List Int} (hn : n ≤ maxLen) (h : w.ownsRow base e 1 (.slice A n c) n (ints l)) :
    Rep w (fun b => base ≤ b ∧ b < w.heap.size) (.slice A n c) (fints l) := by
  rw [ints_recs] at h
  exact own_rep (enc := fun x : Int => [x]) (fun _ => rfl) (by decide) hn h

theorem l_szIntS (A : Option Addr) (n c : Nat) (left : Nat) (h1 : left ≤ 1048576) (hn : n ≤ maxLen) (w : World) : Calls Try.prog 114 #[.slice A n c, .int .i64 left] w fun e w' => e = .returned (.int .i64 (if n ≤ left then ((left - n : Nat) : Int) else -1)) ∧ w = w' := by
  unfold maxLen at hn
  by_cases h : n ≤ left
  · rw [if_pos h, show ((left - n : Nat) : Int) = (left : Int) - n by omega]
    go_enter Try.func114, Try.ntmps114
    go_wp2
    go_ret
    exact ⟨rfl, rfl⟩
  · rw [if_neg h]
    have h2 : (left : Int) < n := by omega
    go_enter Try.func114, Try.ntmps114
    go_wp2
    go_ret
    exact ⟨rfl, rfl⟩

theorem Try.infoIntC : (Try.prog.info? 3).map (fun i => (i.zero, i.size, i.bytes)) = some (some (.int .i64 0), 1, 8) := by kernel_rfl
theorem made_ints (n : Nat) : (madeCells #[.int .i64 0] n).toList = ints (List.replicate n 0) := by
  simp only [madeCells, ints, Array.toList_map, Array.toList_range, List.map_replicate]
  rw [List.eq_replicate_iff]
  refine ⟨by simp, fun b hb => ?_⟩
  obtain ⟨i, _, rfl⟩ := List.mem_map.1 hb
  show (#[Value.int .i64 0])[i % 1]! = _
  rw [Nat.mod_one]
  rfl
theorem own_ints {w : World} {n : Nat} (hn : n ≤ maxLen) : (w.alloc (.cells (madeCells #[.int .i64 0] n) 3)).ownsRow w.heap.size 3 1 (.slice (some ⟨w.heap.size, 0, none⟩) n n) n (ints (List.replicate n 0)) :=
  ⟨by simp [ints], .inr ⟨w.heap.size, n, madeCells #[.int .i64 0] n, rfl, Nat.le_refl _, heap_alloc_new w _, Nat.le_refl _, hn, by simp [size_madeCells], by rw [made_ints]; simp [ints]⟩⟩
theorem set_takeI {α : Type} {l m : List α} {k : Nat} {x : α} (h : l.take k = m.take k) (hl : k < l.length) (hm : m[k]? = some x) : (l.set k x).take (k + 1) = m.take (k + 1) := by
  rw [List.take_add_one, List.take_add_one, List.take_set_of_le (Nat.le_refl _), h, hm, List.getElem?_set_self hl]
/-- a list of numbers in memory of the call's own -/
def OwnI (l : List Int) (w : World) (e : Ending) (w' : World) : Prop :=
  ∃ A c, e = .returned (.slice A l.length c) ∧ w'.ownsRow w.heap.size 3 1 (.slice A l.length c) l.length (ints l) ∧ Below w.heap.size w w'

set_option maxRecDepth 100000 in
set_option maxHeartbeats 4000000 in
theorem l_toIntS {w : World} {B : Nat} {A : Option Addr} {n c : Nat} {l : List Int} (hn : n ≤ 1048576) (h : Reads w B 1 A n (ints l)) (hB : B ≤ w.heap.size) : Calls Try.prog 52 #[.slice A n c] w (OwnI l w) := by
  obtain ⟨i0, hi, hz0, hz1, hz2⟩ := info_parts Try.infoIntC
  have hl := h.len
  have hmk := run_make_rowN (P := Try.prog) 44 3 i0 (.int .i64 0) Try.underlying44 hi hz0 .i64 .i64 n n (Nat.le_refl _) (by rw [hz2]; omega) (by omega) w
  rw [hz1, Nat.mul_one] at hmk
  have hcs : (Value.int .i64 0).cells = #[.int .i64 0] := rfl
  rw [hcs] at hmk
  have Hmo := Lib.hid (own_ints (w := w) (n := n) (by unfold maxLen; omega))
  have Hl := Lib.hid hl
  clear hl hcs hz0 hz1 hz2 hi
  go_enter Try.func52, Try.ntmps52
  go_wp2_with fail
  go_loopw [4] (fun i wr => ∃ (k : Nat) (l' : List Int), k ≤ n ∧ l'.length = n ∧ i = .int .i64 k ∧ l'.take k = l.take k ∧ wr.ownsRow w.heap.size 3 1 (.slice (some ⟨w.heap.size, 0, none⟩) n n) n (ints l') ∧ Below w.heap.size w wr) (fun i _ => n - (intOf i).toNat)
  case atStart => exact ⟨0, List.replicate n 0, Nat.zero_le _, by simp, rfl, rfl, Hmo.out, (by repeat (first | with_reducible exact Below.refl _ _ | with_reducible assumption | with_reducible refine below_drewN ?_ _ | with_reducible refine Below.drew ?_ | ((with_reducible refine Below.alloc ?_ ?_ _); rotate_left; (((try simp) <;> (try omega)) <;> done)) | ((with_reducible refine Below.setCell ?_ ?_ _); rotate_left; (((try simp) <;> (try omega)) <;> done)) | ((with_reducible refine Below.trans ?_ (Below.mono (by with_reducible assumption) ?_)); rotate_left; (((try simp) <;> (try omega)) <;> done))))⟩
  case round =>
    obtain ⟨k, l', hk, hl', rfl, ht, hown, hb⟩ := hrel
    have Hb := Lib.hid hb
    have Hown := Lib.hid hown
    have Hl' := Lib.hid hl'
    have Ht := Lib.hid ht
    have hsz := hb.size
    clear hl' ht hmk
    by_cases hlt : k < n
    · obtain ⟨ad, x, rfl, hab, hx, hc0⟩ := h.int_at hlt
      have e0 := (Hb.out.cell (p := ad.add k) (by rw [block_of_add]; omega)).trans hc0
      have g1 : (0 : Int) ≤ (k : Int) := by omega
      have g2 : (k : Int) < (n : Int) := by omega
      have Hx := Lib.hid hx
      obtain ⟨z, hz⟩ : ∃ z, l'[k]? = some z := ⟨_, List.getElem?_eq_getElem (by rw [Hl'.out]; exact hlt)⟩
      have hcz : wr.cell? ⟨w.heap.size, k, none⟩ = _ := hown.cellAt k (by omega)
      have fz := hown.frozenAt k
      rw [ints_get, hz] at hcz
      simp only [Option.map_some] at hcz
      clear hc0 hown hb hx hz
      go_wp2_with fail
      go_roundw
      case rel =>
        have hs := Hown.out.stored k (.int .i64 x)
        rw [show (ints l').set k (.int .i64 x) = ints (l'.set k x) by simp [ints, List.map_set]] at hs
        exact ⟨k + 1, l'.set k x, by omega, by rw [List.length_set]; exact Hl'.out, by go_num, set_takeI Ht.out (by rw [Hl'.out]; exact hlt) Hx.out, hs.1, Hb.out.setCell (by simp) _⟩
      case measure => simp [intOf]; omega
    · obtain rfl : k = n := by omega
      clear hown hb
      go_wp2_with fail
      go_ret
      have h1 := Ht.out
      rw [List.take_of_length_le (by rw [Hl'.out]; exact Nat.le_refl _), List.take_of_length_le (by rw [Hl.out]; exact Nat.le_refl _)] at h1
      subst h1
      unfold OwnI
      rw [Hl.out]
      exact ⟨some ⟨w.heap.size, 0, none⟩, _, rfl, Hown.out, Hb.out⟩
/-- the copy, as a datum -/
theorem l_toIntF {w : World} {S : Nat → Prop} {A : Option Addr} {n c : Nat} {l : List Int} (hn : n ≤ 1048576) (h : Rep w S (.slice A n c) (fints l)) (hS : ∀ b, S b → b < w.heap.size) :
    Calls Try.prog 52 #[.slice A n c] w fun e w' => ∃ A' c', e = .returned (.slice A' n c') ∧ Rep w' (New w w') (.slice A' n c') (fints l) ∧ Below w.heap.size w w' := by
  have hl := h.len
  rw [List.length_map] at hl
  refine (l_toIntS hn (h.ints_ hS) (Nat.le_refl _)).mono ?_
  rintro e w' ⟨A', c', rfl, hown, hb⟩
  rw [hl] at hown ⊢
  exact ⟨A', c', rfl, own_rep_ints (by unfold maxLen; omega) hown, hb⟩
end Go.Proofs.Ytjiijjihkgipkaa

/- Contracts: a sequential element in the laws: the size, the copy, equality of equals. -/
import Derived.Test.YtimccjpggcgklaaIntC
import Derived.Outline
namespace Go.Proofs.Ytimccjpggcgklaa
open Go.RowKit

abbrev Seq3 := Int × Int × List Int
def rSeq (x : Seq3) : List Fd := [.int x.1, .int x.2.1, fints x.2.2]
def fSeqS (l : List Seq3) : Fd := .sl (l.map rSeq)
theorem rSeq_len (l : List Seq3) : ∀ r ∈ l.map rSeq, r.length = 3 := by
  intro r hr
  obtain ⟨x, _, rfl⟩ := List.mem_map.1 hr
  rfl

set_option maxRecDepth 100000 in
set_option maxHeartbeats 2000000 in
theorem l_toSeq (k i : Int) {w : World} {S : Nat → Prop} {A : Option Addr} {n c : Nat} {l : List Int} (hn : n ≤ 1048576) (h : Rep w S (.slice A n c) (fints l)) (hS : ∀ b, S b → b < w.heap.size) :
    Calls Try.prog 122 #[.agg #[.int .i64 k, .int .i64 i, .slice A n c]] w fun e w' => ∃ A' c', e = .returned (.agg #[.int .i64 k, .int .i64 i, .slice A' n c']) ∧ Rep w' (New w w') (.slice A' n c') (fints l) ∧ Below w.heap.size w w' := by
  go_enter Try.func122, Try.ntmps122
  go_wp2_with fail
  refine (l_toIntF hn (((h.alloc hS _).alloc (fun b hb => by have := hS b hb; (try simp) <;> omega) _).alloc (fun b hb => by have := hS b hb; (try simp) <;> omega) _) (fun b hb => by have := hS b hb; (try simp) <;> omega)).mono ?_
  rintro e w1 ⟨A', c', rfl, hrep, hb1⟩
  have z1 := hb1.size
  try simp at z1
  (try have y1_0 : w.heap.size < w1.heap.size := (by omega))
  have q1_0 := fun o => (bcell hb1).1 (w.heap.size) o (by (try simp) <;> (try omega))
  have p1_0 := fun o => (bcell hb1).2 (w.heap.size) o (by (try simp) <;> (try omega))
  (try have y1_1 : w.heap.size + 1 < w1.heap.size := (by omega))
  have q1_1 := fun o => (bcell hb1).1 (w.heap.size + 1) o (by (try simp) <;> (try omega))
  have p1_1 := fun o => (bcell hb1).2 (w.heap.size + 1) o (by (try simp) <;> (try omega))
  (try have y1_2 : w.heap.size + 1 + 1 < w1.heap.size := (by omega))
  have q1_2 := fun o => (bcell hb1).1 (w.heap.size + 1 + 1) o (by (try simp) <;> (try omega))
  have p1_2 := fun o => (bcell hb1).2 (w.heap.size + 1 + 1) o (by (try simp) <;> (try omega))
  have Hrep := Lib.hid (show Rep w1 (fun b => w.heap.size + 3 ≤ b ∧ b < w1.heap.size) (.slice A' n c') (fints l) from hrep.mono (fun b hb => by simp [New] at hb; exact ⟨by omega, hb.2⟩))
  clear hrep
  go_wp2_with fail
  refine bodyPost_ret (v := .agg #[.int .i64 k, .int .i64 i, .slice A' n c']) (by simp [results, Try.results122, go_sem, q1_1]) rfl ⟨A', c', rfl, ?_, (by repeat (first | with_reducible exact Below.refl _ _ | with_reducible assumption | with_reducible refine below_drewN ?_ _ | with_reducible refine Below.drew ?_ | ((with_reducible refine Below.alloc ?_ ?_ _); rotate_left; (((try simp) <;> (try omega)) <;> done)) | ((with_reducible refine Below.setCell ?_ ?_ _); rotate_left; (((try simp) <;> (try omega)) <;> done)) | ((with_reducible refine Below.trans ?_ (Below.mono (by with_reducible assumption) ?_)); rotate_left; (((try simp) <;> (try omega)) <;> done))))⟩
  refine Rep.mono (S := fun b => w.heap.size + 3 ≤ b ∧ b < w1.heap.size) ?_ ?_
  · repeat (refine Rep.setCell ?_ (fun hh => by have := hh.1; simp at this <;> omega) _)
    exact Hrep.out
  · intro b hb
    refine ⟨by omega, ?_⟩
    simp
    exact hb.2

theorem fSeqS_row {w : World} {S : Nat → Prop} {A : Option Addr} {n c k : Nat} {ls : List Seq3} (h : Rep w S (.slice A n c) (fSeqS ls)) (hk : k < n) :
    ∃ (ad : Addr) (a b : Int) (l : List Int) (A' : Option Addr) (c' : Nat), A = some ad ∧ S ad.block ∧ ls[k]? = some (a, b, l) ∧ l.length ≤ maxLen ∧ Rep w S (.slice A' l.length c') (fints l) ∧
      w.cell? (ad.add (k * 3)) = some (.int .i64 a) ∧ w.cell? (nxt (ad.add (k * 3)) 1) = some (.int .i64 b) ∧ w.cell? (nxt (ad.add (k * 3)) 2) = some (.slice A' l.length c') := by
  obtain ⟨ad, r, rfl, hb, hr, hmem, hc⟩ := h.row hk
  have hl := h.len
  rw [List.length_map] at hl
  have hx : ls[k]? = some ls[k] := List.getElem?_eq_getElem (by omega)
  rw [List.getElem?_map, hx] at hr
  injection hr with hr
  generalize ls[k] = x at hx hr
  obtain ⟨a, b, l⟩ := x
  subst hr
  obtain ⟨v0, h0, r0⟩ := hc 0 (.int a) rfl
  obtain ⟨v1, h1, r1⟩ := hc 1 (.int b) rfl
  obtain ⟨v2, h2, r2⟩ := hc 2 (fints l) rfl
  rw [r0.int_val] at h0
  rw [r1.int_val] at h1
  obtain ⟨A', c', rfl, hm⟩ := r2.sl_val
  rw [List.length_map] at h2 r2 hm
  exact ⟨ad, a, b, l, A', c', rfl, hb, hx, hm, r2, h0, by rw [nxt_add _ _ (by decide)]; exact h1, by rw [nxt_add _ _ (by decide)]; exact h2⟩

theorem Try.infoSeq : (Try.prog.info? 104).map (fun i => (i.zero, i.size, i.bytes)) = some (some (.agg #[.int .i64 0, .int .i64 0, .slice none 0 0]), 3, 40) := by kernel_rfl
theorem ownSeq {w : World} {n : Nat} (hn : n ≤ maxLen) : (w.alloc (.cells (madeCells #[.int .i64 0, .int .i64 0, .slice none 0 0] (n * 3)) 104)).ownsRow w.heap.size 104 3 (.slice (some ⟨w.heap.size, 0, none⟩) n n) n (madeCells #[.int .i64 0, .int .i64 0, .slice none 0 0] (n * 3)).toList :=
  ⟨by simp [size_madeCells], .inr ⟨w.heap.size, n, madeCells #[.int .i64 0, .int .i64 0, .slice none 0 0] (n * 3), rfl, Nat.le_refl _, heap_alloc_new w _, Nat.le_refl _, hn, by simp [size_madeCells], by rw [List.take_of_length_le]; simp [size_madeCells]⟩⟩
theorem set3_old {xs : List Value} {k p : Nat} {a b c : Value} (h : p < k * 3) : (((xs.set (k * 3) a).set (k * 3 + 1) b).set (k * 3 + 2) c)[p]? = xs[p]? := by
  rw [List.getElem?_set_ne (by omega), List.getElem?_set_ne (by omega), List.getElem?_set_ne (by omega)]
theorem set3_new {xs : List Value} {k : Nat} {a b c : Value} (h : k * 3 + 2 < xs.length) :
    (((xs.set (k * 3) a).set (k * 3 + 1) b).set (k * 3 + 2) c)[k * 3 + 0]? = some a ∧ (((xs.set (k * 3) a).set (k * 3 + 1) b).set (k * 3 + 2) c)[k * 3 + 1]? = some b ∧ (((xs.set (k * 3) a).set (k * 3 + 1) b).set (k * 3 + 2) c)[k * 3 + 2]? = some c := by
  refine ⟨?_, ?_, ?_⟩
  · rw [List.getElem?_set_ne (by omega), List.getElem?_set_ne (by omega)]
    exact List.getElem?_set_self (by omega)
  · rw [List.getElem?_set_ne (by omega), List.getElem?_set_self (by simp; omega)]
  · rw [List.getElem?_set_self (by simp; omega)]

set_option maxRecDepth 100000 in
set_option maxHeartbeats 4000000 in
theorem l_toSeqS {w : World} {S : Nat → Prop} {A : Option Addr} {n c : Nat} {ls : List Seq3} (hn : n ≤ 1048576) (hin : ∀ x ∈ ls, x.2.2.length ≤ 1048576) (h : Rep w S (.slice A n c) (fSeqS ls)) (hS : ∀ b, S b → b < w.heap.size) :
    Calls Try.prog 81 #[.slice A n c] w fun e w' => ∃ A' c', e = .returned (.slice A' n c') ∧ Rep w' (New w w') (.slice A' n c') (fSeqS ls) ∧ Below w.heap.size w w' := by
  obtain ⟨i0, hi, hz0, hz1, hz2⟩ := info_parts Try.infoSeq
  have hl := h.len
  rw [List.length_map] at hl
  have hmk := run_make_rowN (P := Try.prog) 37 104 i0 (.agg #[.int .i64 0, .int .i64 0, .slice none 0 0]) Try.underlying37 hi hz0 .i64 .i64 n n (Nat.le_refl _) (by rw [hz2]; omega) (by omega) w
  rw [hz1] at hmk
  have hcs : (Value.agg #[.int .i64 0, .int .i64 0, .slice none 0 0]).cells = #[.int .i64 0, .int .i64 0, .slice none 0 0] := rfl
  rw [hcs] at hmk
  have Hmo := Lib.hid (ownSeq (w := w) (n := n) (by unfold maxLen; omega))
  have Hl := Lib.hid hl
  have Hin := Lib.hid hin
  clear hl hcs hz0 hz1 hz2 hi hin
  go_enter Try.func81, Try.ntmps81
  go_wp2_with fail
  go_loopw [4] (fun i wr => ∃ (k : Nat) (xs : List Value), k ≤ n ∧ i = .int .i64 k ∧ wr.ownsRow w.heap.size 104 3 (.slice (some ⟨w.heap.size, 0, none⟩) n n) n xs ∧ RowsTo wr (fun b => w.heap.size < b ∧ b < wr.heap.size) (ls.map rSeq) 3 k xs ∧ Below w.heap.size w wr) (fun i _ => n - (intOf i).toNat)
  case atStart => exact ⟨0, _, Nat.zero_le _, rfl, Hmo.out, RowsTo.zero _ _ _ _ _, (by repeat (first | with_reducible exact Below.refl _ _ | with_reducible assumption | with_reducible refine below_drewN ?_ _ | with_reducible refine Below.drew ?_ | ((with_reducible refine Below.alloc ?_ ?_ _); rotate_left; (((try simp) <;> (try omega)) <;> done)) | ((with_reducible refine Below.setCell ?_ ?_ _); rotate_left; (((try simp) <;> (try omega)) <;> done)) | ((with_reducible refine Below.trans ?_ (Below.mono (by with_reducible assumption) ?_)); rotate_left; (((try simp) <;> (try omega)) <;> done))))⟩
  case round =>
    obtain ⟨k, xs, hk, rfl, hown, hto, hb⟩ := hrel
    have Hb := Lib.hid hb
    have Hown := Lib.hid hown
    have Hto := Lib.hid hto
    have hsz := hb.size
    have hg := hown.lt w.heap.size rfl
    clear hto hmk
    by_cases hlt : k < n
    · obtain ⟨ad, a, b, l, A2, c2, rfl, hab, hx, hlm, hr2, hc0, hc1, hc2⟩ := fSeqS_row h hlt
      have hab' := hS _ hab
      have e0 := (Hb.out.cell (p := ad.add (k * 3)) (by rw [block_of_add]; omega)).trans hc0
      have e1 := (Hb.out.cell (p := nxt (ad.add (k * 3)) 1) (by rw [nxt_block]; omega)).trans hc1
      have e2 := (Hb.out.cell (p := nxt (ad.add (k * 3)) 2) (by rw [nxt_block]; omega)).trans hc2
      have hl2 := Hin.out _ (List.mem_of_getElem? hx)
      have R2 := Lib.hid (hr2.under hS Hb.out)
      have g1 : (0 : Int) ≤ (k : Int) := by omega
      have g2 : (k : Int) < (n : Int) := by omega
      have Hx := Lib.hid hx
      clear hc0 hc1 hc2 hown hb hx hr2 hlm
      go_wp2_with fail
      refine (l_toSeq _ _ hl2 R2.out (fun b hb => Nat.lt_of_lt_of_le (hS b hb) hsz)).mono ?_
      rintro e w2 ⟨A3, c3, rfl, hrep, hb2⟩
      have hown2 := own_below Hown.out hb2 (Nat.le_refl _)
      have hx0 : w2.cell? ⟨w.heap.size, k * 3, none⟩ = _ := hown2.cellAt (k * 3) (by omega)
      have hx1 : w2.cell? ⟨w.heap.size, k * 3 + 1, none⟩ = _ := hown2.cellAt (k * 3 + 1) (by omega)
      have hx2 : w2.cell? ⟨w.heap.size, k * 3 + 2, none⟩ = _ := hown2.cellAt (k * 3 + 2) (by omega)
      have fz0 := hown2.frozenAt (k * 3)
      have fz1 := hown2.frozenAt (k * 3 + 1)
      have fz2 := hown2.frozenAt (k * 3 + 2)
      have hxl : k * 3 + 2 < xs.length := by have := Hown.out.1; omega
      rw [List.getElem?_eq_getElem (by omega)] at hx0 hx1 hx2
      have Hown2 := Lib.hid hown2
      have Hb2 := Lib.hid (Hb.out.trans (hb2.mono hsz))
      have Hrep := Lib.hid hrep
      have HB2 := Lib.hid hb2
      have z2 := hb2.size
      clear hown2 hb2 hrep
      go_wp2_with fail
      go_roundw
      case rel =>
        have hs0 := Hown2.out.stored (k * 3) (.int .i64 a)
        have hs1 := hs0.1.stored (k * 3 + 1) (.int .i64 b)
        have hs2 := hs1.1.stored (k * 3 + 2) (.slice A3 l.length c3)
        refine ⟨k + 1, _, by omega, by go_num, hs2.1, ?_, ((Hb2.out.setCell (by simp) _).setCell (by simp) _).setCell (by simp) _⟩
        have hne : ∀ (W : World) (o : Nat) (u : Value) (p : Addr), w.heap.size < p.block → (W.setCell ⟨w.heap.size, o, none⟩ u).cell? p = W.cell? p := fun W o u p hp => World.cell?_setCell_other W _ p u (fun e => by subst e; exact absurd hp (Nat.lt_irrefl _))
        have hold : RowsTo (((w2.setCell ⟨w.heap.size, k * 3, none⟩ (.int .i64 a)).setCell ⟨w.heap.size, k * 3 + 1, none⟩ (.int .i64 b)).setCell ⟨w.heap.size, k * 3 + 2, none⟩ (.slice A3 l.length c3)) (fun b => w.heap.size < b ∧ b < w2.heap.size) (ls.map rSeq) 3 k xs :=
          Hto.out.keep (fun p hp => by rw [hne _ _ _ _ hp.1, hne _ _ _ _ hp.1, hne _ _ _ _ hp.1]; exact HB2.out.cell hp.2) (fun b hb => ⟨hb.1, by omega⟩)
        have hnew : Rep (((w2.setCell ⟨w.heap.size, k * 3, none⟩ (.int .i64 a)).setCell ⟨w.heap.size, k * 3 + 1, none⟩ (.int .i64 b)).setCell ⟨w.heap.size, k * 3 + 2, none⟩ (.slice A3 l.length c3)) (fun b => w.heap.size < b ∧ b < w2.heap.size) (.slice A3 l.length c3) (fints l) :=
          (Hrep.out.keep (fun p hp => by rw [hne _ _ _ _ (by have := hp.1; omega), hne _ _ _ _ (by have := hp.1; omega), hne _ _ _ _ (by have := hp.1; omega)])).mono (fun b hb => ⟨by have := hb.1; omega, hb.2⟩)
        have hrow : (ls.map rSeq)[k]? = some (rSeq (a, b, l)) := by rw [List.getElem?_map, Hx.out]; rfl
        obtain ⟨n0, n1, n2⟩ := set3_new (a := Value.int .i64 a) (b := Value.int .i64 b) (c := Value.slice A3 l.length c3) hxl
        have := hold.step hrow (rSeq_len ls) (fun p hp => set3_old hp) (fun j f hf => by
          match j, hf with
          | 0, hf => simp [rSeq] at hf; subst hf; exact ⟨_, n0, .int a⟩
          | 1, hf => simp [rSeq] at hf; subst hf; exact ⟨_, n1, .int b⟩
          | 2, hf => simp [rSeq] at hf; subst hf; exact ⟨_, n2, hnew⟩)
        simpa using this
      case measure => simp [intOf]; omega
    · obtain rfl : k = n := by omega
      clear hown hb
      go_wp2_with fail
      go_ret
      refine ⟨some ⟨w.heap.size, 0, none⟩, k, rfl, ?_, Hb.out⟩
      refine Rep.of_cells (size := 3) (by unfold maxLen; omega) (by rw [List.length_map]; exact Hl.out) (rSeq_len ls) (Reads.of_own Hown.out) (fun ad hA => by injection hA with hA; subst hA; exact ⟨Nat.le_refl _, hg.2⟩) (fun i j r f hr hf => ?_)
      have hik : i < k := by
        have := (List.getElem?_eq_some_iff.1 hr).1
        rw [List.length_map] at this
        have := Hl.out
        omega
      obtain ⟨v, hv, hrep⟩ := Hto.out i j r f hik hr hf
      exact ⟨v, hv, hrep.mono (fun b hb => ⟨by have := hb.1; omega, hb.2⟩)⟩
end Go.Proofs.Ytimccjpggcgklaa

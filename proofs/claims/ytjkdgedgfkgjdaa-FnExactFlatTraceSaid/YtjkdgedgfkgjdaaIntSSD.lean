/- Contracts: lists of lists of numbers in the laws: the size, the copy, equality of equals, marks. -/
import Derived.Test.YtjkdgedgfkgjdaaGc
import Derived.Outline
namespace Go.Proofs.Ytjkdgedgfkgjdaa
open Go.RowKit

abbrev TIntS := List Int
def rIntS (x : TIntS) : List Fd := [fIntS x]
theorem rIntS_len (x : TIntS) : (rIntS x).length = 1 := rfl
def fIntSS (l : List TIntS) : Fd := .sl (l.map rIntS)
theorem rIntS_lens (l : List TIntS) : ∀ r ∈ l.map rIntS, r.length = 1 := by
 intro r hr
 obtain ⟨x, _, rfl⟩ := List.mem_map.1 hr
 rfl
def sIntS (x : TIntS) : Nat := szL sInt x
def nIntS (x : TIntS) : Nat := nuL nInt x
def kIntS (k : Nat) (x : TIntS) : TIntS := (mkL kInt nInt k x)
theorem nIntS_le (x : TIntS) : nIntS x ≤ 4 + 4 * sIntS x := by simp only [nIntS, sIntS]; have h0 := nuL_Int_le x; omega
theorem nuL_IntS_le (l : List TIntS) : nuL nIntS l ≤ 4 * szL sIntS l := nuL_le4 (fun x => by have := nIntS_le x; omega) l
theorem fIntSS_row {w : World} {S : Nat → Prop} {A : Option Addr} {n c k : Nat} {l : List TIntS} (h : Rep w S (.slice A n c) (fIntSS l)) (hk : k < n) :
  ∃ (ad : Addr) (x0 : List Int) (v0 : Value), A = some ad ∧ S ad.block ∧ l[k]? = some x0 ∧ Rep w S v0 (fIntS x0) ∧ w.cell? (ad.add k) = some (v0) := by
 obtain ⟨ad, r, rfl, hb, hr, _, hc⟩ := h.row hk
 have hl := h.len
 rw [List.length_map] at hl
 have hx : l[k]? = some l[k] := List.getElem?_eq_getElem (by omega)
 rw [List.getElem?_map, hx] at hr
 injection hr with hr
 generalize l[k] = x at hx hr
 obtain ⟨x0, rfl⟩ : ∃ x0, x0 = x := ⟨x, rfl⟩
 subst hr
 obtain ⟨v0, c0, h0⟩ := hc 0 (fIntS x0) rfl
 have c1 : w.cell? (ad.add k) = some (v0) := by simpa [rIntS] using c0
 exact ⟨ad, x0, v0, rfl, hb, hx, h0, c1⟩


set_option maxRecDepth 100000 in
set_option maxHeartbeats 4000000 in
theorem d_szIntSS {w : World} {S : Nat → Prop} {v : Value} {l : List TIntS} (left : Nat) (h1 : left ≤ 1048576) (h : Rep w S v (fIntSS l)) (hS : ∀ b, S b → b < w.heap.size) :
  Calls Try.prog 25 #[v, .int .i64 left] w fun e w' => e = .returned (.int .i64 (leftD left (szL sIntS l))) ∧ Below w.heap.size w w' := by
 obtain ⟨A, c, rfl, hm⟩ := h.sl_val
 rw [List.length_map] at hm h ⊢
 unfold maxLen at hm
 obtain ⟨n, hl⟩ : ∃ n, l.length = n := ⟨_, rfl⟩
 rw [hl] at h hm ⊢
 have Hl := Lib.hid hl
 by_cases hnl : n ≤ left
 ·clear hl
  go_enter Try.func25, Try.ntmps25
  go_wp2_with fail
  go_loopw [1, 5] (fun lv i wr => ∃ (k z : Nat), k ≤ n ∧ i = .int .i64 k ∧ lv = .int .i64 z ∧ z + n + nuL sIntS (l.take k) = left ∧ Below w.heap.size w wr) (fun _ i _ => n - (intOf i).toNat)
  case atStart => exact ⟨0, left - n, Nat.zero_le _, rfl, by go_num, by simp [nuL]; omega, Below.refl _ _⟩
  case round =>
   obtain ⟨k, z, hk, rfl, rfl, hz, hb⟩ := hrel
   have hz2 : z ≤ 1048576 := by omega
   have Hz := Lib.hid hz
   have Hb := Lib.hid hb
   have hsz := hb.size
   clear hz hb
   by_cases hlt : k < n
   ·obtain ⟨ad, x0, v0, rfl, hab, hx, h0, e0⟩ := fIntSS_row (h.under hS Hb.out) hlt
    have Hsum := Lib.hid (show nuL sIntS (l.take (k + 1)) = nuL sIntS (l.take k) + szL sInt x0 from nuL_succ sIntS hx)
    have Hle := Lib.hid (nuL_take sIntS l (k + 1))
    have g1 : (0 : Int) ≤ (k : Int) := by omega
    have g2 : (k : Int) < (n : Int) := by omega
    clear hx
    go_wp2_with fail
    refine (d_szIntS (l := x0) z hz2 h0 (fun b hb => Nat.lt_of_lt_of_le (hS b hb) hsz)).mono ?_
    rintro e w2 ⟨rfl, hb2⟩
    have Hb2 := Lib.hid (Hb.out.trans (hb2.mono hsz))
    clear hb2
    obtain ⟨q, hq⟩ : ∃ q, q = szL sInt x0 := ⟨_, rfl⟩
    rw [← hq]
    rw [← hq] at Hsum
    have Hq := Lib.hid hq
    clear hq
    by_cases hzl : q ≤ z
    ·rw [leftD_yes hzl]
     go_wp2_with fail
     go_roundw
     case rel => exact ⟨k + 1, z - q, by omega, by go_num, by go_num, by rw [Hsum.out]; have := Hz.out; omega, Hb2.out⟩
     case measure => simp [intOf]; omega
    ·rw [leftD_no hzl]
     have He := Lib.hid (leftD_no (left := left) (n := szL sIntS l) (by unfold szL; have h1 := Hz.out; have h2 := Hsum.out; have h3 := Hle.out; have h4 := Hl.out; omega))
     go_wp2_with fail
     go_ret
     exact ⟨ret_int He.out.symm, Hb2.out⟩
   ·obtain rfl : k = n := by omega
    have He := Lib.hid (show leftD left (szL sIntS l) = (z : Int) by
     have h1 := Hz.out
     rw [List.take_of_length_le (by rw [Hl.out]; exact Nat.le_refl _)] at h1
     rw [leftD_yes (by unfold szL; rw [Hl.out]; omega)]
     unfold szL
     rw [Hl.out]
     omega)
    go_wp2_with fail
    go_ret
    exact ⟨ret_int He.out.symm, Hb.out⟩
 ·have h2 : (left : Int) < n := by omega
  have He := Lib.hid (leftD_no (left := left) (n := szL sIntS l) (by unfold szL; omega))
  clear hl
  go_enter Try.func25, Try.ntmps25
  go_wp2_with fail
  go_ret
  exact ⟨ret_int He.out.symm, Below.refl _ _⟩


theorem Try.infIntS : (Try.prog.info? 28).map (fun i => (i.zero, i.size, i.bytes)) = some (some (.slice none 0 0), 1, 24) := by kernel_rfl
theorem ownIntSD {w : World} {n : Nat} (hn : n ≤ maxLen) : (w.alloc (.cells (madeCells #[.slice none 0 0] n) 28)).ownsRow w.heap.size 28 1 (.slice (some ⟨w.heap.size, 0, none⟩) n n) n (madeCells #[.slice none 0 0] n).toList :=
 ⟨by simp [size_madeCells], .inr ⟨w.heap.size, n, madeCells #[.slice none 0 0] n, rfl, Nat.le_refl _, heap_alloc_new w _, Nat.le_refl _, hn, by simp [size_madeCells], by rw [List.take_of_length_le]; simp [size_madeCells]⟩⟩
theorem setIntS_old {xs : List Value} {k p : Nat} {a0 : Value} (h : p < k * 1) : (xs.set (k) a0)[p]? = xs[p]? := by
 rw [List.getElem?_set_ne (by omega)]
theorem setIntS_new {xs : List Value} {k : Nat} {a0 : Value} (h : k * 1 + 0 < xs.length) :
  (xs.set (k) a0)[k * 1 + 0]? = some a0 := by
 have h' : k < xs.length := by omega
 simp [h']

set_option maxRecDepth 100000 in
set_option maxHeartbeats 4000000 in
theorem d_toIntSS {w : World} {S : Nat → Prop} {v : Value} {l : List TIntS} (hz : szL sIntS l ≤ 1048576) (h : Rep w S v (fIntSS l)) (hS : ∀ b, S b → b < w.heap.size) :
  Calls Try.prog 27 #[v] w fun e w' => ∃ v', e = .returned v' ∧ Sep w' (New w w') v' (fIntSS l) ∧ Below w.heap.size w w' := by
 obtain ⟨A, c, rfl, hm⟩ := h.sl_val
 rw [List.length_map] at hm h ⊢
 obtain ⟨n, hl⟩ : ∃ n, l.length = n := ⟨_, rfl⟩
 rw [hl] at h hm ⊢
 have hn : n ≤ 1048576 := by unfold szL at hz; omega
 have Hin := Lib.hid (fun x (hx : x ∈ l) => (show sIntS x ≤ 1048576 by have := nuL_el sIntS hx; unfold szL at hz; omega))
 obtain ⟨i0, hi, hz0, hz1, hz2⟩ := info_parts Try.infIntS
 have hmk := run_make_rowN (P := Try.prog) 52 28 i0 (.slice none 0 0) Try.underlying52 hi hz0 .i64 .i64 n n (Nat.le_refl _) (by rw [hz2]; omega) (by omega) w
 rw [hz1, Nat.mul_one] at hmk
 have hcs : (Value.slice none 0 0).cells = #[.slice none 0 0] := rfl
 rw [hcs] at hmk
 have Hmo := Lib.hid (ownIntSD (w := w) (n := n) (by unfold maxLen; omega))
 have Hl := Lib.hid hl
 clear hl hcs hz0 hz1 hz2 hi hz hm
 go_enter Try.func27, Try.ntmps27
 go_wp2_with fail
 go_loopw [4] (fun i wr => ∃ (k : Nat) (xs : List Value), k ≤ n ∧ i = .int .i64 k ∧ wr.ownsRow w.heap.size 28 1 (.slice (some ⟨w.heap.size, 0, none⟩) n n) n xs ∧ RowsSep wr (w.heap.size + 1) wr.heap.size (l.map rIntS) 1 k xs ∧ Below w.heap.size w wr) (fun i _ => n - (intOf i).toNat)
 case atStart => exact ⟨0, _, Nat.zero_le _, rfl, Hmo.out, RowsSep.zero' _ _ _ _, bel_⟩
 case round =>
  obtain ⟨k, xs, hk, rfl, hown, hto, hb⟩ := hrel
  have Hb := Lib.hid hb
  have Hown := Lib.hid hown
  have Hto := Lib.hid hto
  have hsz := hb.size
  have hg := hown.lt w.heap.size rfl
  clear hto hmk
  by_cases hlt : k < n
  ·obtain ⟨ad, x0, v0, rfl, hab, hx, h0, e0⟩ := fIntSS_row (h.under hS hb) hlt
   have hab1 := hS _ hab
   have hab' : ad.block < wr.heap.size := by omega
   have hl2 := Hin.out _ (List.mem_of_getElem? hx)
   have g1 : (0 : Int) ≤ (k : Int) := by omega
   have g2 : (k : Int) < (n : Int) := by omega
   have Hx := Lib.hid hx
   clear hown hb hx
   go_wp2_with fail
   refine (d_toIntS (l := x0) hl2 h0 (fun b hb => Nat.lt_of_lt_of_le (hS b hb) hsz)).mono ?_
   rintro e w2 ⟨v', rfl, hq, hb2⟩
   obtain ⟨P, hP, hd, s0⟩ : ∃ P : Nat → Nat → Prop, (∀ j b, P j b → New wr w2 b) ∧ (∀ i j b, P i b → P j b → i = j) ∧ Sep w2 (P 0) v' (fIntS x0) := ⟨fun j b => j = 0 ∧ New wr w2 b, fun _ _ h => h.2, fun _ _ _ h1 h2 => h1.1.trans h2.1.symm, hq.mono (fun _ h => ⟨rfl, h⟩)⟩
   obtain ⟨A0, c0, rfl, _⟩ := s0.sl_val
   simp only [List.length_map] at s0 ⊢
   have hown2 := own_below Hown.out hb2 (Nat.le_refl _)
   have hx0 : w2.cell? ⟨w.heap.size, k, none⟩ = _ := hown2.cellAt (k) (by omega)
   have fz0 := hown2.frozenAt (k)
   have hxl : k * 1 + 0 < xs.length := by have := Hown.out.1; omega
   rw [List.getElem?_eq_getElem (by omega)] at hx0
   have Hown2 := Lib.hid hown2
   have Hb2 := Lib.hid (Hb.out.trans (hb2.mono hsz))
   have HB2 := Lib.hid hb2
   have z2 := hb2.size
   have HP := Lib.hid hP
   have Hd := Lib.hid hd
   have Hs0 := Lib.hid s0
   clear hown2 hb2 hP hd s0
   go_wp2_with fail
   go_roundw
   case rel =>
    have hs0 := Hown2.out.stored (k) (.slice A0 x0.length c0)
    refine ⟨k + 1, _, by omega, by go_num, hs0.1, ?_, Hb2.out.setCell (by simp) _⟩
    have hne : ∀ (W : World) (o : Nat) (u : Value) (b : Nat), w.heap.size < b → (W.setCell ⟨w.heap.size, o, none⟩ u).heap[b]? = W.heap[b]? := fun W o u b hp => Below.heap_setCell W _ u b (fun e => by subst e; exact absurd hp (Nat.lt_irrefl _))
    have hkeep : ∀ b, w.heap.size < b → (w2.setCell ⟨w.heap.size, k, none⟩ (.slice A0 x0.length c0)).heap[b]? = w2.heap[b]? := fun b hp => by rw [hne _ _ _ _ hp]
    have hold : RowsSep (w2.setCell ⟨w.heap.size, k, none⟩ (.slice A0 x0.length c0)) (w.heap.size + 1) wr.heap.size (l.map rIntS) 1 k xs := Hto.out.keep (fun b h1 h2 => by have hp : w.heap.size < b := h1; rw [hne _ _ _ _ hp]; exact HB2.out.block b h2) (Nat.le_refl _)
    have hrow : (l.map rIntS)[k]? = some (rIntS x0) := by rw [List.getElem?_map, Hx.out]; rfl
    have n0 := setIntS_new (a0 := (.slice A0 x0.length c0 : Value)) hxl
    have := hold.step (Q := P) hrow (rIntS_lens l) (by show wr.heap.size ≤ w2.heap.size; exact z2) (by omega) (fun p hp => setIntS_old hp) (fun j b hb => by have := HP.out j b hb; exact this) (fun i j b h1 h2 => Hd.out i j b h1 h2) (fun j f hf => by
     match j, hf with
     | 0, hf => simp [rIntS] at hf; subst hf; exact ⟨_, n0, Hs0.out.keep (fun b hb => hkeep b (by have h1 : wr.heap.size ≤ b := (HP.out _ _ hb).1; omega))⟩
     | j + 1, hf => simp [rIntS] at hf)
    simpa using this
   case measure => simp [intOf]; omega
  ·obtain rfl : k = n := by omega
   clear hown hb
   go_wp2_with fail
   go_ret
   refine ⟨_, rfl, ?_, Hb.out⟩
   exact Hto.out.sep (by rw [List.length_map]; exact Hl.out) (by unfold maxLen; omega) (rIntS_lens l) Hown.out (fun g hg' => by injection hg' with hg'; subst hg'; exact ⟨⟨Nat.le_refl _, hg.2⟩, fun hc => absurd hc.1 (Nat.not_succ_le_self _)⟩) (fun b h1 h2 => ⟨by omega, h2⟩)


set_option maxRecDepth 100000 in
set_option maxHeartbeats 4000000 in
theorem d_eqIntSS {w : World} {S S' : Nat → Prop} {v v' : Value} {l : List TIntS} (hz : szL sIntS l ≤ 1048576) (h : Rep w S v (fIntSS l)) (h' : Rep w S' v' (fIntSS l)) (hS : ∀ b, S b → b < w.heap.size) (hS' : ∀ b, S' b → b < w.heap.size) :
  Calls Try.prog 29 #[v, v'] w fun e w' => e = .returned (.bool true) ∧ Below w.heap.size w w' := by
 obtain ⟨A, c, rfl, hm⟩ := h.sl_val
 obtain ⟨A', c', rfl, _⟩ := h'.sl_val
 rw [List.length_map] at hm h h' ⊢
 unfold maxLen at hm
 obtain ⟨n, hl⟩ : ∃ n, l.length = n := ⟨_, rfl⟩
 rw [hl] at h h' hm ⊢
 have Hin := Lib.hid (fun x (hx : x ∈ l) => (show sIntS x ≤ 1048576 by have := nuL_el sIntS hx; unfold szL at hz; omega))
 clear hl hz
 go_enter Try.func29, Try.ntmps29
 go_wp2
 go_loopw [5] (fun i wr => ∃ k : Nat, k ≤ n ∧ i = .int .i64 k ∧ Below w.heap.size w wr) (fun i _ => n - (intOf i).toNat)
 case atStart => exact ⟨0, Nat.zero_le _, rfl, Below.refl _ _⟩
 case round =>
  obtain ⟨k, hk, rfl, hb⟩ := hrel
  have Hb := Lib.hid hb
  have hsz := hb.size
  clear hb
  by_cases hlt : k < n
  ·obtain ⟨ad, x0, v0, rfl, hab, hx, h0, e0⟩ := fIntSS_row (h.under hS Hb.out) hlt
   obtain ⟨ad', y0, u0, rfl, hab', hx', h0', f0⟩ := fIntSS_row (h'.under hS' Hb.out) hlt
   rw [hx] at hx'
   injection hx' with hx'
   subst hx'
   have hab1 := hS _ hab
   have hab2 := hS' _ hab'
   have hab3 : ad.block < wr.heap.size := by omega
   have hab4 : ad'.block < wr.heap.size := by omega
   have g1 : (0 : Int) ≤ (k : Int) := by omega
   have g2 : (k : Int) < (n : Int) := by omega
   have Hx := Lib.hid hx
   clear hx
   go_wp2_with fail
   refine wp_region_lexC (by kernel_rfl) (by kernel_rfl) (fun x => Below wr.heap.size wr x) ((Below.refl _ _).drew) (fun lexNE => ?_)
   have r0 := fun W : Wd (fun x => Below wr.heap.size wr x) => (W.ok.cell (p := (ad.add k)) (by rw [block_of_add]; exact hab3)).trans e0
   have s0 := fun W : Wd (fun x => Below wr.heap.size wr x) => (W.ok.cell (p := (ad'.add k)) (by rw [block_of_add]; exact hab4)).trans f0
   (repeat (first | (refine lex_r fun K hK => ?_; go_big_quiet_op; refine hK _ ?_; clear hK K) | (refine lex_k fun K hK => ?_; go_simp; refine hK _ ?_; clear hK K)))
   (refine lex_e fun K hK => ?_; go_big_op)
   refine (d_eqIntS (l := x0) (Hin.out _ (List.mem_of_getElem? Hx.out)) h0.drew h0'.drew (fun b hb => Nat.lt_of_lt_of_le (hS b hb) hsz) (fun b hb => Nat.lt_of_lt_of_le (hS' b hb) hsz)).mono ?_
   rintro e w6 ⟨rfl, hb6⟩
   have Hb6 := Lib.hid (Hb.out.drew.trans (hb6.mono hsz))
   refine hK _ _ (Cls.mk' ((Below.refl wr.heap.size wr).drew.trans hb6)) ?_
   clear hK K
   (repeat (first | (refine lex_r fun K hK => ?_; go_big_quiet_op; refine hK _ ?_; clear hK K) | (refine lex_k fun K hK => ?_; go_simp; refine hK _ ?_; clear hK K)))
   (refine lex_nil ?_)
   clear lexNE r0 s0
   go_wp2_with fail
   go_roundw
   case rel => exact ⟨k + 1, by omega, by go_num, Hb6.out⟩
   case measure => simp [intOf]; omega
  ·have hke : k = n := by omega
   subst hke
   go_wp2_with fail
   go_ret
   exact ⟨rfl, Hb.out⟩

set_option maxRecDepth 100000 in
set_option maxHeartbeats 4000000 in
theorem d_markIntSS {w : World} {S : Nat → Prop} {v : Value} {l : List TIntS} (k0 : Nat) (hk0 : k0 + nuL nIntS l ≤ 1099511627776) (h : Sep w S v (fIntSS l)) (hS : ∀ b, S b → b < w.heap.size) :
  Calls Try.prog 30 #[v, .int .i64 k0] w fun e w' => e = .returned (.int .i64 ((k0 + nuL nIntS l : Nat) : Int)) ∧ Sep w' S v (fIntSS (mkL kIntS nIntS k0 l)) ∧ Only S w w' := by
 obtain ⟨A, c, rfl, hm⟩ := h.sl_val
 rw [List.length_map] at hm h ⊢
 unfold maxLen at hm
 obtain ⟨n, hl⟩ : ∃ n, l.length = n := ⟨_, rfl⟩
 rw [hl] at h hm ⊢
 have H := Lib.hid h
 have Hl := Lib.hid hl
 have Hnt := Lib.hid (nuL_take nIntS l)
 clear h hl
 go_enter Try.func30, Try.ntmps30
 go_wp2_with fail
 go_loopw [1, 5] (fun kv i wr => ∃ k : Nat, k ≤ n ∧ i = .int .i64 k ∧ kv = .int .i64 ((k0 + nuL nIntS (l.take k) : Nat) : Int) ∧ Sep wr S (.slice A n c) (fIntSS (partL kIntS nIntS k0 k l)) ∧ Only S w wr) (fun _ i _ => n - (intOf i).toNat)
 case atStart => exact ⟨0, Nat.zero_le _, rfl, by simp [nuL], by rw [partL_zero]; exact H.out, Only.refl _ _⟩
 case round =>
  obtain ⟨k, hk, rfl, rfl, hs, ho⟩ := hrel
  by_cases hlt : k < n
  ·obtain ⟨x, hx⟩ : ∃ x, l[k]? = some x := ⟨_, List.getElem?_eq_getElem (by rw [Hl.out]; exact hlt)⟩
   obtain ⟨q, hq⟩ : ∃ q, q = k0 + nuL nIntS (l.take k) := ⟨_, rfl⟩
   rw [← hq]
   have hq1 := Hnt.out (k + 1)
   rw [nuL_succ nIntS hx] at hq1
   have hps := partL_succ kIntS nIntS (k := k0) hx
   rw [← hq] at hps
   have Hps := Lib.hid hps
   have Hns := Lib.hid (nuL_succ nIntS hx)
   have Hq := Lib.hid hq
   obtain ⟨x0, rfl⟩ : ∃ x0, x0 = x := ⟨x, rfl⟩
   simp only [nIntS] at hq1
   have hqb : q + (nuL nInt x0) ≤ 1099511627776 := by have := Hq.out; omega
   have g1 : (0 : Int) ≤ (k : Int) := by omega
   have g2 : (k : Int) < (n : Int) := by omega
   have hw0 : ∀ b, S b → b < wr.heap.size := fun b hb => Nat.lt_of_lt_of_le (hS b hb) ho.size
   have hg0 := partL_get kIntS nIntS (k := k0) hx
   have HT0 := Lib.hid hs
   have HO0 := Lib.hid ho
   have HG0 := Lib.hid hg0
   clear hx hps hq hs ho hg0
   obtain ⟨g, rfl, hgs, hf0, _⟩ := Sep.at_ (ra := rIntS) rIntS_len HT0.out hw0 HG0.out
   obtain ⟨u0, P0, c0, z0, hp0, s0, _⟩ := hf0 0 _ rfl
   simp only [Nat.add_zero, Nat.mul_one] at c0 z0
   clear hp0 s0
   clear hf0
   go_wp2_with fail
   obtain ⟨g', eg, _, hfx, _⟩ := Sep.at_ (ra := rIntS) rIntS_len HT0.out hw0 HG0.out
   obtain rfl : g = g' := by injection eg with eg; injection eg
   obtain ⟨u', P, d1, _, hp, sx, hcl⟩ := hfx 0 _ rfl
   have hu : u' = u0 := by have h1 := d1; simp [go_sem, c0] at h1; exact h1.symm
   subst hu
   try dsimp only at sx
   clear hfx d1
   have Hcl0 := Lib.hid hcl
   have Hp0 := Lib.hid hp
   have hsS : ∀ b, P b → b < wr.heap.size := fun b hb => (show ∀ b, S b → b < wr.heap.size from hw0) b (hp b hb).1
   refine (d_markIntS (q) (by omega) sx hsS).mono ?_
   clear hcl hp sx hsS
   rintro e w2 ⟨rfl, hs2, ho2⟩
   have HT1 := Lib.hid (Hcl0.out _ _ (mkL kInt nInt (q) x0 : TIntS) ho2 hs2 rfl)
   have HG1 := Lib.hid (List.getElem?_set_self (a := (mkL kInt nInt (q) x0 : TIntS)) (List.getElem?_eq_some_iff.1 HG0.out).1)
   have HO1 := Lib.hid (HO0.out.trans (ho2.more (fun b hb => (Hp0.out b hb).1)))
   have hw1 : ∀ b, S b → b < w2.heap.size := fun b hb => Nat.lt_of_lt_of_le (hS b hb) HO1.out.size
   clear ho2 hs2 Hcl0 Hp0
   clear c0 z0
   go_wp2_with fail
   go_roundw
   case rel =>
    refine ⟨k + 1, by omega, by go_num, ?_, ?_, HO1.out⟩
    ·rw [Hns.out, ← Nat.add_assoc, ← Hq.out]; (try simp only [nIntS]); go_num
    ·have h1 := HT1.out
     try simp only [List.set_set] at h1
     rw [← Hps.out]
     exact h1
   case measure => simp [intOf]; omega
  ·have hke : k = n := by omega
   subst hke
   have HS := Lib.hid hs
   have HO := Lib.hid ho
   clear hs ho
   rw [List.take_of_length_le (by rw [Hl.out]; exact Nat.le_refl _)]
   go_wp2_with fail
   go_ret
   exact ⟨rfl, by rw [← partL_all _ _ _ _ Hl.out]; exact HS.out, HO.out⟩

set_option maxRecDepth 100000 in
set_option maxHeartbeats 4000000 in
theorem d_heldIntSS {w : World} {S : Nat → Prop} {v : Value} {l : List TIntS} (k0 : Nat) (hk0 : k0 + nuL nIntS l ≤ 1099511627776) (h : Rep w S v (fIntSS (mkL kIntS nIntS k0 l))) (hS : ∀ b, S b → b < w.heap.size) :
  Calls Try.prog 31 #[v, .int .i64 k0] w fun e w' => e = .returned (.int .i64 ((k0 + nuL nIntS l : Nat) : Int)) ∧ Below w.heap.size w w' := by
 obtain ⟨A, c, rfl, hm⟩ := h.sl_val
 rw [List.length_map, mkL_len] at hm h ⊢
 unfold maxLen at hm
 obtain ⟨n, hl⟩ : ∃ n, l.length = n := ⟨_, rfl⟩
 rw [hl] at h hm ⊢
 have Hl := Lib.hid hl
 have Hnt := Lib.hid (nuL_take nIntS l)
 clear hl
 go_enter Try.func31, Try.ntmps31
 go_wp2_with fail
 go_loopw [1, 5] (fun kv i wr => ∃ k : Nat, k ≤ n ∧ i = .int .i64 k ∧ kv = .int .i64 ((k0 + nuL nIntS (l.take k) : Nat) : Int) ∧ Below w.heap.size w wr) (fun _ i _ => n - (intOf i).toNat)
 case atStart => exact ⟨0, Nat.zero_le _, rfl, by simp [nuL], Below.refl _ _⟩
 case round =>
  obtain ⟨k, hk, rfl, rfl, hb⟩ := hrel
  have Hb := Lib.hid hb
  have hsz := hb.size
  clear hb
  by_cases hlt : k < n
  ·obtain ⟨x, hx⟩ : ∃ x, l[k]? = some x := ⟨_, List.getElem?_eq_getElem (by rw [Hl.out]; exact hlt)⟩
   obtain ⟨q, hq⟩ : ∃ q, q = k0 + nuL nIntS (l.take k) := ⟨_, rfl⟩
   rw [← hq]
   have hq1 := Hnt.out (k + 1)
   rw [nuL_succ nIntS hx] at hq1
   have Hns := Lib.hid (nuL_succ nIntS hx)
   have Hq := Lib.hid hq
   obtain ⟨ad, y0, v0, rfl, hab, hy, h0, e0⟩ := fIntSS_row (h.under hS Hb.out) hlt
   rw [mkL_get kIntS nIntS k0 hx, ← hq] at hy
   injection hy with hy
   obtain ⟨x0, rfl⟩ : ∃ x0, x0 = x := ⟨x, rfl⟩
   simp only [kIntS] at hy
   subst hy
   simp only [nIntS] at hq1
   have hqb : q + (nuL nInt x0) ≤ 1099511627776 := by have := Hq.out; omega
   have hab1 := hS _ hab
   have g1 : (0 : Int) ≤ (k : Int) := by omega
   have g2 : (k : Int) < (n : Int) := by omega
   clear hx hq
   go_wp2_with fail
   refine (d_heldIntS (q) (by omega) h0 (fun b hb => by have := hS b hb; omega)).mono ?_
   rintro e w2 ⟨rfl, hb2⟩
   have HB0 := Lib.hid (hb2)
   have zz0 := HB0.out.size
   clear hb2
   go_wp2_with fail
   go_roundw
   case rel =>
    refine ⟨k + 1, by omega, by go_num, ?_, Hb.out.trans (HB0.out.mono hsz)⟩
    rw [Hns.out, ← Nat.add_assoc, ← Hq.out]; (try simp only [nIntS]); go_num
   case measure => simp [intOf]; omega
  ·have hke : k = n := by omega
   subst hke
   rw [List.take_of_length_le (by rw [Hl.out]; exact Nat.le_refl _)]
   go_wp2_with fail
   go_ret
   exact ⟨rfl, Hb.out⟩
end Go.Proofs.Ytjkdgedgfkgjdaa

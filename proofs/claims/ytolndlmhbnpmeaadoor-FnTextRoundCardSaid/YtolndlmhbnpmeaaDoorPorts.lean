/- Contracts: the ports of a module, the widths of its signals of a kind: the program's and the reference's functions. -/
import Derived.Test.YtolndlmhbnpmeaaDoorModuleD
import Derived.Outline
namespace Go.Proofs.YtolndlmhbnpmeaaDoor
open Go.RowKit

abbrev RIntS (w : World) (S : Nat → Prop) (v : Value) (l : List Int) : Prop := Rep w S v (fIntS l)
abbrev QIntS (w : World) (S : Nat → Prop) (v : Value) (l : List Int) : Prop := Sep w S v (fIntS l)
theorem sig_row {w : World} {S : Nat → Prop} {v : Value} {l : List TSignal} (h : Rep w S v (fSignalS l)) : ∃ A c, v = .slice A l.length c ∧ Rep w S (.slice A l.length c) (fSignalS l) ∧ l.length ≤ maxLen := by
 obtain ⟨A, c, rfl, hm⟩ := h.sl_val
 rw [List.length_map] at h hm ⊢
 exact ⟨A, c, rfl, h, hm⟩

/-- the places of the elements with p -/
def idxL {α : Type} (p : α → Bool) (l : List α) : List Int := (l.zipIdx.filter fun x => p x.1).map fun x => (x.2 : Int)
theorem idxL_succ {α : Type} {p : α → Bool} {l : List α} {k : Nat} {x : α} (h : l[k]? = some x) : idxL p (l.take (k + 1)) = idxL p (l.take k) ++ (if p x then [(k : Int)] else []) := by
 have hk := (List.getElem?_eq_some_iff.1 h).1
 unfold idxL
 rw [List.take_add_one, h, List.zipIdx_append, List.filter_append, List.map_append, List.length_take]
 have : min k l.length = k := by omega
 rw [this]
 cases hp : p x <;> simp [hp]
theorem idxL_le {α : Type} {p : α → Bool} (l : List α) : (idxL p l).length ≤ l.length := by
 unfold idxL
 rw [List.length_map]
 exact Nat.le_trans (List.length_filter_le _ _) (by simp)
def isPort (x : TSignal) : Bool := decide (x.1 = 0 ∨ x.1 = 1)
def portsL (l : List TSignal) : List Int := if l.length ≤ 30 then idxL isPort l else []
def portsM (m : TModule) : List Int := portsL m.1
theorem portsL_len (l : List TSignal) : (portsL l).length ≤ 30 := by
 unfold portsL
 split
 ·have := idxL_le (p := isPort) l; omega
 ·simp
def widL (k : Int) (l : List TSignal) : List Int := (l.filter fun x => decide (x.1 = k)).map fun x => x.2.1
theorem widL_succ {kd : Int} {l : List TSignal} {k : Nat} {x : TSignal} (h : l[k]? = some x) : widL kd (l.take (k + 1)) = widL kd (l.take k) ++ (if x.1 = kd then [x.2.1] else []) := by
 unfold widL
 rw [List.take_add_one, h, List.filter_append, List.map_append]
 by_cases hp : x.1 = kd <;> simp [hp]
theorem widL_le (kd : Int) (l : List TSignal) : (widL kd l).length ≤ l.length := by
 unfold widL
 rw [List.length_map]
 exact List.length_filter_le _ _
def widthsM (m : TModule) (k : Int) : List Int := if m.1.length ≤ 30 then widL k m.1 else []
theorem widthsM_len (m : TModule) (k : Int) : (widthsM m k).length ≤ 30 := by
 unfold widthsM
 split
 ·have := widL_le k m.1; omega
 ·simp
theorem szI (l : List Int) : szL sInt l = l.length := by unfold szL; rw [nuL_zero sInt (fun _ => rfl), Nat.add_zero]
theorem portsM_sz (m : TModule) : szL sInt (portsM m) ≤ 1048576 := by rw [szI]; have := portsL_len m.1; unfold portsM; omega
theorem widthsM_sz (m : TModule) (k : Int) : szL sInt (widthsM m k) ≤ 1048576 := by rw [szI]; have := widthsM_len m k; omega
theorem ints_app (a b : List Int) : ints (a ++ b) = ints a ++ ints b := by simp [ints]
/-- a literal behind a box -/
theorem reads_new1 {w : World} (o : Obj) (t : TypeId) (cs : Array Value) (n size : Nat) (h : cs.size = n * size) : Reads ((w.alloc o).alloc (.cells cs t)) (w.heap.size + 1 + 1) size (some ⟨w.heap.size + 1, 0, none⟩) n cs.toList := by
 have h1 := reads_new (w := w.alloc o) t cs n size h
 have h2 : (w.alloc o).heap.size = w.heap.size + 1 := by simp
 rw [h2] at h1
 exact h1
theorem own_empty (w : World) (o : Obj) : ((w.alloc o).alloc (.cells #[] 3)).ownsRow (w.heap.size + 1) 3 1 (.slice (some ⟨w.heap.size + 1, 0, none⟩) 0 0) 0 [] := by
 have h1 := World.ownsRow_made (base := w.heap.size + 1) (size := 1) (e := 3) (w.alloc o) #[] 0 (by simp) (by unfold maxLen; omega) rfl
 have h2 : (w.alloc o).heap.size = w.heap.size + 1 := by simp
 rw [h2] at h1
 exact h1
theorem sep_nil (w : World) (S : Nat → Prop) : QIntS w S (.slice none 0 0) [] :=
 sep_ints (base := 0) (e := 3) (Nat.zero_le _) (World.ownsRow_nil w 0 3 1) (fun g hg => by simp [Value.ownBlock] at hg)

set_option maxRecDepth 100000 in
set_option maxHeartbeats 4000000 in
theorem i_PortsOf {w : World} {S : Nat → Prop} {v : Value} {m : TModule} (h : RModule w S v m) (hS : ∀ b, S b → b < w.heap.size) :
  Calls Tryd.prog 57 #[v] w fun e w' => ∃ v', e = .returned v' ∧ QIntS w' (New w w') v' (portsM m) ∧ Below w.heap.size w w' := by
 obtain ⟨i0, hi, hz0, hz1, hz2⟩ := info_parts Tryd.infoIntC
 obtain ⟨sg, asg, ins, mms⟩ := m
 obtain ⟨v0, v1, v2, v3, rfl, hh0, h1, h2, h3⟩ := h
 obtain ⟨A0, c0, rfl, h0, hm⟩ := sig_row hh0
 clear h1 h2 h3 hh0
 unfold maxLen at hm
 obtain ⟨n, hl⟩ : ∃ n, sg.length = n := ⟨_, rfl⟩
 rw [hl] at h0 hm ⊢
 by_cases h30 : n ≤ 30
 ·go_enter Tryd.func57, Tryd.ntmps57
  go_wp2_with fail
  go_loopw [3, 4, 5, 13] (fun ov _ _ iv wr => ∃ k : Nat, k ≤ n ∧ iv = .int .i64 k ∧ wr.ownsRow (w.heap.size + 1) 3 1 ov (idxL isPort (sg.take k)).length (ints (idxL isPort (sg.take k))) ∧ Below (w.heap.size + 1) (w.alloc (.cells #[.slice A0 n c0, v1, v2, v3] 50)) wr) (fun _ _ _ iv _ => n - (intOf iv).toNat)
  case atStart => exact ⟨0, Nat.zero_le _, rfl, World.ownsRow_nil _ _ _ _, Below.refl _ _⟩
  case round =>
   obtain ⟨k, hk, rfl, hown, hb⟩ := hrel
   have Hb := Lib.hid hb
   have Hbw := Lib.hid (show Below w.heap.size w wr from ((Below.refl w.heap.size w).alloc (Nat.le_refl _) _).trans (hb.mono (by omega)))
   have hsz := hb.size
   simp at hsz
   have hlk : (idxL isPort (sg.take k)).length ≤ 30 := by have h1 := idxL_le (p := isPort) (sg.take k); rw [List.length_take] at h1; omega
   have y0 : wr.cell? ⟨w.heap.size, 0, none⟩ = some (.slice A0 n c0) := (hb.cell (p := ⟨w.heap.size, 0, none⟩) (by simp)).trans (by simp [go_sem])
   obtain ⟨L, hL⟩ : ∃ L, L = idxL isPort (sg.take k) := ⟨_, rfl⟩
   rw [← hL] at hown hlk
   obtain ⟨A, c, rfl, _, _, _⟩ := own_form hown
   have HL := Lib.hid hL
   have Hown := Lib.hid hown
   clear hb hown hL
   by_cases hlt : k < n
   ·obtain ⟨ad, x0, x1, x2, rfl, hab, hx, e0, e1, e2⟩ := fSignalS_row (h0.under hS Hbw.out) hlt
    have g1 : (0 : Int) ≤ (k : Int) := by omega
    have g2 : (k : Int) < (n : Int) := by omega
    have Hs := Lib.hid (idxL_succ (p := isPort) hx)
    have Hown1 := Lib.hid (Hown.out.alloc (.cells #[.int .i64 x0, .int .i64 x1, .int .i64 x2] 66))
    have Hb1 := Lib.hid (Hb.out.alloc (by omega) (.cells #[.int .i64 x0, .int .i64 x1, .int .i64 x2] 66))
    clear hx y0
    by_cases hp0 : x0 = 0
    ·subst hp0
     rw [if_pos (by simp [isPort])] at Hs
     go_wp2_with (at_builtin; refine wpList_append_any _ rfl _ _ 73 rfl (w.heap.size + 1) 3 i0 (.int .i64 0) 1 8 Tryd.underlying73 hi hz0 hz1 hz2 rfl (by decide) _ _ _ rfl (Hown1.out.alloc _) _ _ 1 1 _ rfl (reads_new1 _ _ _ 1 1 rfl) (by intro u hu; simp at hu; first | (subst hu; rfl) | (rcases hu with rfl | rfl <;> rfl) | (rcases hu with rfl | rfl | rfl <;> rfl)) (by unfold maxLen; omega) (by omega) (by (try simp) <;> (try omega)) ?_; intro v2 w2 hown2 hgrow2 hblk2)
     have hb2 := below_push Hb1.out Hown1.out (Nat.le_refl _) (by simp; omega) hgrow2
     have Hown2 := Lib.hid hown2
     clear hown2 hgrow2 hblk2
     go_wp2_with fail
     go_roundw
     case rel => exact ⟨k + 1, by omega, by go_num, by rw [Hs.out, ← HL.out, List.length_append, ints_app]; exact Hown2.out, hb2⟩
     case measure => simp [intOf]; omega
    ·by_cases hp1 : x0 = 1
     ·subst hp1
      rw [if_pos (by simp [isPort])] at Hs
      go_wp2_with (at_builtin; refine wpList_append_any _ rfl _ _ 73 rfl (w.heap.size + 1) 3 i0 (.int .i64 0) 1 8 Tryd.underlying73 hi hz0 hz1 hz2 rfl (by decide) _ _ _ rfl (Hown1.out.alloc _) _ _ 1 1 _ rfl (reads_new1 _ _ _ 1 1 rfl) (by intro u hu; simp at hu; first | (subst hu; rfl) | (rcases hu with rfl | rfl <;> rfl) | (rcases hu with rfl | rfl | rfl <;> rfl)) (by unfold maxLen; omega) (by omega) (by (try simp) <;> (try omega)) ?_; intro v2 w2 hown2 hgrow2 hblk2)
      have hb2 := below_push Hb1.out Hown1.out (Nat.le_refl _) (by simp; omega) hgrow2
      have Hown2 := Lib.hid hown2
      clear hown2 hgrow2 hblk2
      go_wp2_with fail
      go_roundw
      case rel => exact ⟨k + 1, by omega, by go_num, by rw [Hs.out, ← HL.out, List.length_append, ints_app]; exact Hown2.out, hb2⟩
      case measure => simp [intOf]; omega
     ·rw [if_neg (by simp [isPort, hp0, hp1])] at Hs
      have q0 : (x0 == 0) = false := by simpa using hp0
      have q1 : (x0 == 1) = false := by simpa using hp1
      clear hp0 hp1
      go_wp2_with fail
      go_roundw
      case rel => exact ⟨k + 1, by omega, by go_num, by rw [Hs.out, List.append_nil, ← HL.out]; exact Hown1.out, Hb1.out⟩
      case measure => simp [intOf]; omega
   ·have hkn : k = n := by omega
    have HE := Lib.hid (show L = idxL isPort sg by rw [HL.out, List.take_of_length_le (by omega)])
    have hge : (n : Int) ≤ (k : Int) := by omega
    clear hkn
    go_wp2_with fail
    go_ret
    refine ⟨_, rfl, ?_, Hbw.out⟩
    have hO := Hown.out
    rw [HE.out] at hO
    have hR : portsM (sg, asg, ins, mms) = idxL isPort sg := by simp only [portsM, portsL]; rw [if_pos (by omega)]
    rw [hR, HE.out]
    exact sep_ints (by unfold maxLen; rw [← HE.out]; omega) hO (fun g hg => ⟨by have := (hO.lt g hg).1; omega, (hO.lt g hg).2⟩)
 ·go_enter Tryd.func57, Tryd.ntmps57
  go_wp2_with fail
  go_ret
  refine ⟨_, rfl, ?_, bel_⟩
  have hR : portsM (sg, asg, ins, mms) = [] := by simp only [portsM, portsL]; rw [if_neg (by omega)]
  rw [hR]
  exact sep_nil _ _
set_option maxRecDepth 100000 in
set_option maxHeartbeats 4000000 in
theorem s_PortsOf {w : World} {S : Nat → Prop} {v : Value} {m : TModule} (h : RModule w S v m) (hS : ∀ b, S b → b < w.heap.size) :
  Calls Tryd.prog 34 #[v] w fun e w' => ∃ v', e = .returned v' ∧ QIntS w' (New w w') v' (portsM m) ∧ Below w.heap.size w w' := by
 obtain ⟨i0, hi, hz0, hz1, hz2⟩ := info_parts Tryd.infoIntC
 obtain ⟨sg, asg, ins, mms⟩ := m
 obtain ⟨v0, v1, v2, v3, rfl, hh0, h1, h2, h3⟩ := h
 obtain ⟨A0, c0, rfl, h0, hm⟩ := sig_row hh0
 clear h1 h2 h3 hh0
 unfold maxLen at hm
 obtain ⟨n, hl⟩ : ∃ n, sg.length = n := ⟨_, rfl⟩
 rw [hl] at h0 hm ⊢
 have Hmo := Lib.hid (own_empty w (.cells #[.slice A0 n c0, v1, v2, v3] 50))
 by_cases h30 : n ≤ 30
 ·go_enter Tryd.func34, Tryd.ntmps34
  go_wp2_with fail
  go_loopw [3, 4] (fun ov iv wr => ∃ k : Nat, k ≤ n ∧ iv = .int .i64 k ∧ wr.ownsRow (w.heap.size + 1) 3 1 ov (idxL isPort (sg.take k)).length (ints (idxL isPort (sg.take k))) ∧ Below (w.heap.size + 1) (w.alloc (.cells #[.slice A0 n c0, v1, v2, v3] 50)) wr) (fun _ iv _ => n - (intOf iv).toNat)
  case atStart => exact ⟨0, Nat.zero_le _, rfl, by simpa [idxL, ints] using Hmo.out, bel_⟩
  case round =>
   obtain ⟨k, hk, rfl, hown, hb⟩ := hrel
   have Hb := Lib.hid hb
   have Hbw := Lib.hid (show Below w.heap.size w wr from ((Below.refl w.heap.size w).alloc (Nat.le_refl _) _).trans (hb.mono (by omega)))
   have hsz := hb.size
   simp at hsz
   have hlk : (idxL isPort (sg.take k)).length ≤ 30 := by have h1 := idxL_le (p := isPort) (sg.take k); rw [List.length_take] at h1; omega
   have y0 : wr.cell? ⟨w.heap.size, 0, none⟩ = some (.slice A0 n c0) := (hb.cell (p := ⟨w.heap.size, 0, none⟩) (by simp)).trans (by simp [go_sem])
   obtain ⟨L, hL⟩ : ∃ L, L = idxL isPort (sg.take k) := ⟨_, rfl⟩
   rw [← hL] at hown hlk
   obtain ⟨A, c, rfl, _, _, _⟩ := own_form hown
   have HL := Lib.hid hL
   have Hown := Lib.hid hown
   clear hb hown hL
   by_cases hlt : k < n
   ·obtain ⟨ad, x0, x1, x2, rfl, hab, hx, e0, e1, e2⟩ := fSignalS_row (h0.under hS Hbw.out) hlt
    have g1 : (0 : Int) ≤ (k : Int) := by omega
    have g2 : (k : Int) < (n : Int) := by omega
    have Hs := Lib.hid (idxL_succ (p := isPort) hx)
    clear hx
    by_cases hp0 : x0 = 0
    ·subst hp0
     rw [if_pos (by simp [isPort])] at Hs
     go_wp2_with (at_builtin; refine wpList_append_any _ rfl _ _ 73 rfl (w.heap.size + 1) 3 i0 (.int .i64 0) 1 8 Tryd.underlying73 hi hz0 hz1 hz2 rfl (by decide) _ _ _ rfl (Hown.out.alloc _) _ _ 1 1 _ rfl (reads_new _ _ 1 1 rfl) (by intro u hu; simp at hu; first | (subst hu; rfl) | (rcases hu with rfl | rfl <;> rfl) | (rcases hu with rfl | rfl | rfl <;> rfl)) (by unfold maxLen; omega) (by omega) (by (try simp) <;> (try omega)) ?_; intro v2 w2 hown2 hgrow2 hblk2)
     have hb2 := below_push Hb.out Hown.out (Nat.le_refl _) (by omega) hgrow2
     have Hown2 := Lib.hid hown2
     clear hown2 hgrow2 hblk2
     go_wp2_with fail
     go_roundw
     case rel => exact ⟨k + 1, by omega, by go_num, by rw [Hs.out, ← HL.out, List.length_append, ints_app]; exact Hown2.out, hb2⟩
     case measure => simp [intOf]; omega
    ·by_cases hp1 : x0 = 1
     ·subst hp1
      rw [if_pos (by simp [isPort])] at Hs
      go_wp2_with (at_builtin; refine wpList_append_any _ rfl _ _ 73 rfl (w.heap.size + 1) 3 i0 (.int .i64 0) 1 8 Tryd.underlying73 hi hz0 hz1 hz2 rfl (by decide) _ _ _ rfl (Hown.out.alloc _) _ _ 1 1 _ rfl (reads_new _ _ 1 1 rfl) (by intro u hu; simp at hu; first | (subst hu; rfl) | (rcases hu with rfl | rfl <;> rfl) | (rcases hu with rfl | rfl | rfl <;> rfl)) (by unfold maxLen; omega) (by omega) (by (try simp) <;> (try omega)) ?_; intro v2 w2 hown2 hgrow2 hblk2)
      have hb2 := below_push Hb.out Hown.out (Nat.le_refl _) (by omega) hgrow2
      have Hown2 := Lib.hid hown2
      clear hown2 hgrow2 hblk2
      go_wp2_with fail
      go_roundw
      case rel => exact ⟨k + 1, by omega, by go_num, by rw [Hs.out, ← HL.out, List.length_append, ints_app]; exact Hown2.out, hb2⟩
      case measure => simp [intOf]; omega
     ·rw [if_neg (by simp [isPort, hp0, hp1])] at Hs
      have q0 : (x0 == 0) = false := by simpa using hp0
      have q1 : (x0 == 1) = false := by simpa using hp1
      clear hp0 hp1
      go_wp2_with fail
      go_roundw
      case rel => exact ⟨k + 1, by omega, by go_num, by rw [Hs.out, List.append_nil, ← HL.out]; exact Hown.out, Hb.out⟩
      case measure => simp [intOf]; omega
   ·have hkn : k = n := by omega
    have HE := Lib.hid (show L = idxL isPort sg by rw [HL.out, List.take_of_length_le (by omega)])
    have hge : (n : Int) ≤ (k : Int) := by omega
    clear hkn
    go_wp2_with fail
    go_ret
    refine ⟨_, rfl, ?_, Hbw.out⟩
    have hO := Hown.out
    rw [HE.out] at hO
    have hR : portsM (sg, asg, ins, mms) = idxL isPort sg := by simp only [portsM, portsL]; rw [if_pos (by omega)]
    rw [hR, HE.out]
    exact sep_ints (by unfold maxLen; rw [← HE.out]; omega) hO (fun g hg => ⟨by have := (hO.lt g hg).1; omega, (hO.lt g hg).2⟩)
 ·go_enter Tryd.func34, Tryd.ntmps34
  go_wp2_with fail
  go_ret
  refine ⟨_, rfl, ?_, bel_⟩
  have hR : portsM (sg, asg, ins, mms) = [] := by simp only [portsM, portsL]; rw [if_neg (by omega)]
  rw [hR]
  exact sep_ints (by unfold maxLen; omega) Hmo.out (fun g hg => ⟨by have := (Hmo.out.lt g hg).1; omega, by have := (Hmo.out.lt g hg).2; exact this⟩)
end Go.Proofs.YtolndlmhbnpmeaaDoor

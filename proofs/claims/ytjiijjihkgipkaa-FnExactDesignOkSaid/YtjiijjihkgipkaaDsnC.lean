/- Contracts: the drivers of all signals of a module: the program's function. -/
import Derived.Test.YtjiijjihkgipkaaDsnB
import Derived.Outline
namespace Go.Proofs.Ytjiijjihkgipkaa
open Go.RowKit

/-! ### counts -/
def arrC (n : Nat) (c : Nat → Nat) : List Int := (List.range n).map fun s => (c s : Int)
theorem arrC_len (n : Nat) (c : Nat → Nat) : (arrC n c).length = n := by simp [arrC]
theorem arrC_get {n s : Nat} {c : Nat → Nat} (h : s < n) : (arrC n c)[s]? = some (c s : Int) := by simp [arrC, h]
theorem arrC_cong {n : Nat} {c c' : Nat → Nat} (h : ∀ s, s < n → c s = c' s) : arrC n c = arrC n c' := by
  unfold arrC
  apply List.map_congr_left
  intro s hs
  rw [h s (List.mem_range.1 hs)]
/-- one more at place s0, if there is such a place -/
def bump (l : List Int) (s : Int) : List Int := if inR s 0 (l.length - 1) then l.set s.toNat (l.getD s.toNat 0 + 1) else l
theorem bump_arr (n : Nat) (c : Nat → Nat) (s0 : Int) : bump (arrC n c) s0 = arrC n (fun s => c s + if s0 = (s : Int) then 1 else 0) := by
  unfold bump
  rw [arrC_len]
  split
  · rename_i h
    obtain ⟨h1, h2⟩ := inR_iff.1 h
    obtain ⟨p, rfl⟩ := Int.eq_ofNat_of_zero_le h1
    have hp : p < n := by omega
    rw [Int.toNat_natCast]
    apply List.ext_getElem?
    intro i
    rw [List.getElem?_set, arrC_len]
    by_cases hi : p = i
    · subst hi
      rw [if_pos rfl, if_pos hp, arrC_get hp]
      simp [List.getD, arrC_get hp]
    · rw [if_neg hi]
      by_cases hin : i < n
      · rw [arrC_get hin, arrC_get hin]
        have : ¬ ((p : Int) = (i : Int)) := by omega
        simp [this]
      · rw [List.getElem?_eq_none (by rw [arrC_len]; omega), List.getElem?_eq_none (by rw [arrC_len]; omega)]
  · rename_i h
    apply arrC_cong
    intro s hs
    have : ¬ (s0 = (s : Int)) := by
      rintro rfl
      apply h
      rw [inR_iff]
      omega
    simp [this]

def asgN (l : List TAssign) (s : Nat) : Nat := l.countP fun a => decide (a.1 = (s : Int))
def memN (l : List TMem) (s : Nat) : Nat := l.countP fun x => decide (x.2.2.2 = (s : Int))
def kindAt (sg : List TSignal) (p : Int) : Int := (sg.getD p.toNat (-1, 0, 0)).1
def portN (sg : List TSignal) (ps : List (Int × Int)) (s : Nat) : Nat := ps.countP fun x => decide (kindAt sg x.1 = 1 ∧ x.2 = (s : Int))
def instN (d : TDesign) (x : TInst) (s : Nat) : Nat := portN (md d x.1).1 ((portsM (md d x.1)).zip x.2.2) s
def insN (d : TDesign) (l : List TInst) (s : Nat) : Nat := (l.map fun x => instN d x s).sum
/-- how often signal s of module m is driven -/
def drvN (d : TDesign) (m : TModule) (s : Nat) : Nat := asgN m.2.1 s + memN m.2.2.2 s + insN d m.2.2.1 s
theorem countP_succ {α : Type} {p : α → Bool} {l : List α} {k : Nat} {x : α} (h : l[k]? = some x) : (l.take (k + 1)).countP p = (l.take k).countP p + if p x then 1 else 0 := by
  rw [List.take_add_one, h, List.countP_append]
  simp [List.countP_cons]
theorem asgN_succ {l : List TAssign} {k : Nat} {x : TAssign} (h : l[k]? = some x) (s : Nat) : asgN (l.take (k + 1)) s = asgN (l.take k) s + if x.1 = (s : Int) then 1 else 0 := by
  unfold asgN; rw [countP_succ h]; simp
theorem memN_succ {l : List TMem} {k : Nat} {x : TMem} (h : l[k]? = some x) (s : Nat) : memN (l.take (k + 1)) s = memN (l.take k) s + if x.2.2.2 = (s : Int) then 1 else 0 := by
  unfold memN; rw [countP_succ h]; simp
theorem portN_succ {sg : List TSignal} {l : List (Int × Int)} {k : Nat} {x : Int × Int} (h : l[k]? = some x) (s : Nat) : portN sg (l.take (k + 1)) s = portN sg (l.take k) s + if kindAt sg x.1 = 1 ∧ x.2 = (s : Int) then 1 else 0 := by
  unfold portN; rw [countP_succ h]; simp
theorem insN_succ {d : TDesign} {l : List TInst} {k : Nat} {x : TInst} (h : l[k]? = some x) (s : Nat) : insN d (l.take (k + 1)) s = insN d (l.take k) s + instN d x s := by
  unfold insN; rw [List.take_add_one, h]; simp
theorem asgN_le (l : List TAssign) (s : Nat) : asgN l s ≤ l.length := List.countP_le_length
theorem memN_le (l : List TMem) (s : Nat) : memN l s ≤ l.length := List.countP_le_length
theorem portN_le (sg : List TSignal) (l : List (Int × Int)) (s : Nat) : portN sg l s ≤ l.length := List.countP_le_length
theorem instN_le (d : TDesign) (x : TInst) (s : Nat) : instN d x s ≤ 30 := by
  refine Nat.le_trans (portN_le _ _ _) ?_
  rw [List.length_zip]
  have := portsL_len (md d x.1).1
  unfold portsM
  omega
theorem insN_le (d : TDesign) (l : List TInst) (s : Nat) : insN d l s ≤ 30 * l.length := by
  unfold insN
  induction l with
  | nil => simp
  | cons x l ih =>
    have := instN_le d x s
    simp only [List.map_cons, List.sum_cons, List.length_cons]
    omega

set_option maxRecDepth 100000 in
set_option maxHeartbeats 2000000 in
theorem i_add {w : World} {base g h n c : Nat} {l : List Int} (s : Int) (hX : Blk w g 44 #[.slice (some ⟨h, 0, none⟩) n c]) (hO : w.ownsRow base 3 1 (.slice (some ⟨h, 0, none⟩) n c) n (ints l)) (hn : n ≤ 1000) (hv : ∀ x ∈ l, 0 ≤ x ∧ x ≤ 1000000) :
    Calls Try.prog 126 #[.int .i64 s, .pointer (some ⟨g, 0, none⟩)] w fun e w' => e = .returned (.tuple #[]) ∧ w'.ownsRow base 3 1 (.slice (some ⟨h, 0, none⟩) n c) n (ints (bump l s)) ∧ Only (fun b => b = h) w w' := by
  have hl : l.length = n := by have := hO.1; rw [ints_len] at this; omega
  have x0 := hX.cell 0
  simp only [List.getElem?_toArray, List.getElem?_cons_zero] at x0
  cases hq : inR s 0 ((n : Int) - 1) with
  | false =>
    have Hq := Lib.hid hq
    have HO := Lib.hid hO
    have Hbp := Lib.hid (show bump l s = l by unfold bump; rw [hl, hq]; rfl)
    clear hq hO hv
    go_enter Try.func126, Try.ntmps126
    go_wp2_with fail
    refine (i_inRange s 0 ((n : Int) - 1) _).mono ?_
    rintro e w9 ⟨rfl, rfl⟩
    rw [Hq.out]
    go_wp2_with fail
    go_end0
    exact ⟨rfl, by rw [Hbp.out]; exact HO.out, Only.refl _ _⟩
  | true =>
    obtain ⟨h1, h2⟩ := inR_iff.1 hq
    obtain ⟨p, rfl⟩ := Int.eq_ofNat_of_zero_le h1
    have hp : p < n := by omega
    have hlp : l[p]? = some l[p] := List.getElem?_eq_getElem (by omega)
    obtain ⟨x, hx⟩ : ∃ x, l[p]? = some x := ⟨_, hlp⟩
    obtain ⟨hx1, hx2⟩ := hv x (List.mem_of_getElem? hx)
    have hc : w.cell? ⟨h, p, none⟩ = _ := hO.cellAt p (by omega)
    rw [ints_get, hx] at hc
    have hfz := hO.frozenAt p
    have Hq := Lib.hid hq
    have HO := Lib.hid hO
    have Hbp := Lib.hid (show bump l (p : Int) = l.set p (x + 1) by unfold bump; rw [hl, hq]; simp [List.getD, hx])
    have g1 : (0 : Int) ≤ (p : Int) := by omega
    have g2 : (p : Int) < (n : Int) := by omega
    clear hq hO hv h1 h2 hlp hx
    simp only [Option.map_some] at hc
    go_enter Try.func126, Try.ntmps126
    go_wp2_with fail
    refine (i_inRange (p : Int) 0 ((n : Int) - 1) _).mono ?_
    rintro e w9 ⟨rfl, rfl⟩
    rw [Hq.out]
    go_wp2_with fail
    go_end0
    have hs := HO.out.stored p (.int .i64 (x + 1))
    exact ⟨rfl, by rw [Hbp.out, show ints (l.set p (x + 1)) = (ints l).set p (.int .i64 (x + 1)) by simp [ints, List.map_set]]; exact hs.1, (Only.refl (fun b => b = h) _).setCell (p := ⟨h, p, none⟩) (.inl rfl) _⟩
end Go.Proofs.Ytjiijjihkgipkaa

/- Contracts: Int in the laws: the size, the copy, equality of equals, marks. -/
import Derived.Test.YtjiijjihkgipkaaSep
import Derived.Outline
namespace Go.Proofs.Ytjiijjihkgipkaa
open Go.RowKit

abbrev TInt := Int
def rInt (x : TInt) : List Fd := [.int x]
theorem rInt_len (x : TInt) : (rInt x).length = 1 := rfl
def fIntS (l : List TInt) : Fd := .sl (l.map rInt)
theorem rInt_lens (l : List TInt) : ∀ r ∈ l.map rInt, r.length = 1 := by
  intro r hr
  obtain ⟨x, _, rfl⟩ := List.mem_map.1 hr
  rfl
def sInt (_ : TInt) : Nat := 0
def nInt (_ : TInt) : Nat := 1
def kInt (k : Nat) (_ : TInt) : TInt := (((k : Nat) : Int))
theorem nInt_le (x : TInt) : nInt x ≤ 4 + 4 * sInt x := by simp only [nInt, sInt]; omega
theorem nuL_Int_le (l : List TInt) : nuL nInt l ≤ 4 * szL sInt l := nuL_le4 (fun x => by have := nInt_le x; omega) l
theorem fIntS_row {w : World} {S : Nat → Prop} {A : Option Addr} {n c k : Nat} {l : List TInt} (h : Rep w S (.slice A n c) (fIntS l)) (hk : k < n) :
    ∃ (ad : Addr) (x0 : Int), A = some ad ∧ S ad.block ∧ l[k]? = some x0 ∧ w.cell? (ad.add k) = some (.int .i64 x0) := by
  obtain ⟨ad, r, rfl, hb, hr, _, hc⟩ := h.row hk
  have hl := h.len
  rw [List.length_map] at hl
  have hx : l[k]? = some l[k] := List.getElem?_eq_getElem (by omega)
  rw [List.getElem?_map, hx] at hr
  injection hr with hr
  generalize l[k] = x at hx hr
  obtain ⟨x0, rfl⟩ : ∃ x0, x0 = x := ⟨x, rfl⟩
  subst hr
  obtain ⟨v0, c0, h0⟩ := hc 0 (.int x0) rfl
  rw [h0.int_val] at c0
  have c1 : w.cell? (ad.add k) = some (.int .i64 x0) := by simpa [rInt] using c0
  exact ⟨ad, x0, rfl, hb, hx, c1⟩

theorem d_szIntS {w : World} {S : Nat → Prop} {v : Value} {l : List TInt} (left : Nat) (h1 : left ≤ 1048576) (h : Rep w S v (fIntS l)) (_hS : ∀ b, S b → b < w.heap.size) :
    Calls Try.prog 114 #[v, .int .i64 left] w fun e w' => e = .returned (.int .i64 (leftD left (szL sInt l))) ∧ Below w.heap.size w w' := by
  obtain ⟨A, c, rfl, hm⟩ := h.sl_val
  rw [List.length_map] at hm ⊢
  have hz : szL sInt l = l.length := by unfold szL; rw [nuL_zero sInt (fun _ => rfl), Nat.add_zero]
  rw [hz]
  exact toBelow (l_szIntS A l.length c left h1 hm w)
theorem d_toIntS {w : World} {S : Nat → Prop} {v : Value} {l : List TInt} (hz : szL sInt l ≤ 1048576) (h : Rep w S v (fIntS l)) (hS : ∀ b, S b → b < w.heap.size) :
    Calls Try.prog 52 #[v] w fun e w' => ∃ v', e = .returned v' ∧ Sep w' (New w w') v' (fIntS l) ∧ Below w.heap.size w w' := by
  obtain ⟨A, c, rfl, hm⟩ := h.sl_val
  rw [List.length_map] at h ⊢
  have hn : l.length ≤ 1048576 := by unfold szL at hz; omega
  refine (l_toIntS hn (h.ints_ hS) (Nat.le_refl _)).mono ?_
  rintro e w' ⟨A', c', rfl, hown, hb⟩
  exact ⟨_, rfl, sep_ints (by unfold maxLen; omega) hown (fun g hg => hown.lt g hg), hb⟩
theorem d_eqIntS {w : World} {S S' : Nat → Prop} {v v' : Value} {l : List TInt} (hz : szL sInt l ≤ 1048576) (h : Rep w S v (fIntS l)) (h' : Rep w S' v' (fIntS l)) (hS : ∀ b, S b → b < w.heap.size) (hS' : ∀ b, S' b → b < w.heap.size) :
    Calls Try.prog 28 #[v, v'] w fun e w' => e = .returned (.bool true) ∧ Below w.heap.size w w' := by
  obtain ⟨A, c, rfl, hm⟩ := h.sl_val
  obtain ⟨A', c', rfl, _⟩ := h'.sl_val
  rw [List.length_map] at hm h h' ⊢
  have hn : l.length ≤ 1099511627776 := by unfold szL at hz; omega
  refine (l_eqIntS hn hn (h.ints_ hS) (h'.ints_ hS') (Nat.le_refl _) (Nat.le_refl _)).mono ?_
  rintro e w1 ⟨rfl, hb1⟩
  exact ⟨ret_bool (decide_eq_true rfl), hb1⟩


set_option maxRecDepth 100000 in
set_option maxHeartbeats 4000000 in
theorem d_markIntS {w : World} {S : Nat → Prop} {v : Value} {l : List TInt} (k0 : Nat) (hk0 : k0 + nuL nInt l ≤ 1099511627776) (h : Sep w S v (fIntS l)) (hS : ∀ b, S b → b < w.heap.size) :
    Calls Try.prog 31 #[v, .int .i64 k0] w fun e w' => e = .returned (.int .i64 ((k0 + nuL nInt l : Nat) : Int)) ∧ Sep w' S v (fIntS (mkL kInt nInt k0 l)) ∧ Only S w w' := by
  obtain ⟨A, c, rfl, hm⟩ := h.sl_val
  rw [List.length_map] at hm h ⊢
  unfold maxLen at hm
  obtain ⟨n, hl⟩ : ∃ n, l.length = n := ⟨_, rfl⟩
  rw [hl] at h hm ⊢
  have H := Lib.hid h
  have Hl := Lib.hid hl
  have Hnt := Lib.hid (nuL_take nInt l)
  clear h hl
  go_enter Try.func31, Try.ntmps31
  go_wp2_with fail
  go_loopw [1, 5] (fun kv i wr => ∃ k : Nat, k ≤ n ∧ i = .int .i64 k ∧ kv = .int .i64 ((k0 + nuL nInt (l.take k) : Nat) : Int) ∧ Sep wr S (.slice A n c) (fIntS (partL kInt nInt k0 k l)) ∧ Only S w wr) (fun _ i _ => n - (intOf i).toNat)
  case atStart => exact ⟨0, Nat.zero_le _, rfl, by simp [nuL], by rw [partL_zero]; exact H.out, Only.refl _ _⟩
  case round =>
    obtain ⟨k, hk, rfl, rfl, hs, ho⟩ := hrel
    by_cases hlt : k < n
    · obtain ⟨x, hx⟩ : ∃ x, l[k]? = some x := ⟨_, List.getElem?_eq_getElem (by rw [Hl.out]; exact hlt)⟩
      obtain ⟨q, hq⟩ : ∃ q, q = k0 + nuL nInt (l.take k) := ⟨_, rfl⟩
      rw [← hq]
      have hq1 := Hnt.out (k + 1)
      rw [nuL_succ nInt hx] at hq1
      have hps := partL_succ kInt nInt (k := k0) hx
      rw [← hq] at hps
      have Hps := Lib.hid hps
      have Hns := Lib.hid (nuL_succ nInt hx)
      have Hq := Lib.hid hq
      obtain ⟨x0, rfl⟩ : ∃ x0, x0 = x := ⟨x, rfl⟩
      simp only [nInt] at hq1
      have hqb : q + (1) ≤ 1099511627776 := by have := Hq.out; omega
      have g1 : (0 : Int) ≤ (k : Int) := by omega
      have g2 : (k : Int) < (n : Int) := by omega
      have hw0 : ∀ b, S b → b < wr.heap.size := fun b hb => Nat.lt_of_lt_of_le (hS b hb) ho.size
      have hg0 := partL_get kInt nInt (k := k0) hx
      have HT0 := Lib.hid hs
      have HO0 := Lib.hid ho
      have HG0 := Lib.hid hg0
      clear hx hps hq hs ho hg0
      obtain ⟨g, rfl, hgs, hf0, _⟩ := Sep.at_ (ra := rInt) rInt_len HT0.out hw0 HG0.out
      obtain ⟨u0, P0, c0, z0, hp0, s0, _⟩ := hf0 0 _ rfl
      obtain rfl := s0.int_val
      simp only [Nat.add_zero, Nat.mul_one] at c0 z0
      clear hp0 s0
      clear hf0
      have HT1 := Lib.hid (by
        obtain ⟨g', eg, _, _, hst⟩ := Sep.at_ (ra := rInt) rInt_len HT0.out hw0 HG0.out
        obtain rfl : g = g' := by injection eg with eg; injection eg
        simpa only [Nat.mul_one, Nat.add_zero] using hst 0 ((q : Nat) : Int) ((q : Nat) : Int) (by decide) rfl)
      have HG1 := Lib.hid (List.getElem?_set_self (a := (((q : Nat) : Int) : TInt)) (List.getElem?_eq_some_iff.1 HG0.out).1)
      have HO1 := Lib.hid (HO0.out.setCell (p := ⟨g, k, none⟩) (.inl hgs) (.int .i64 ((q : Nat) : Int)))
      go_wp2_with fail
      go_roundw
      case rel =>
        refine ⟨k + 1, by omega, by go_num, ?_, ?_, HO1.out⟩
        · rw [Hns.out, ← Nat.add_assoc, ← Hq.out]; (try simp only [nInt]); go_num
        · have h1 := HT1.out
          try simp only [List.set_set] at h1
          rw [← Hps.out]
          exact h1
      case measure => simp [intOf]; omega
    · have hke : k = n := by omega
      subst hke
      have HS := Lib.hid hs
      have HO := Lib.hid ho
      clear hs ho
      rw [List.take_of_length_le (by rw [Hl.out]; exact Nat.le_refl _)]
      go_wp2_with fail
      go_ret
      exact ⟨rfl, by rw [← partL_all _ _ _ _ Hl.out]; exact HS.out, HO.out⟩

set_option maxRecDepth 100000 in
set_option maxHeartbeats 4000000 in
theorem d_heldIntS {w : World} {S : Nat → Prop} {v : Value} {l : List TInt} (k0 : Nat) (hk0 : k0 + nuL nInt l ≤ 1099511627776) (h : Rep w S v (fIntS (mkL kInt nInt k0 l))) (hS : ∀ b, S b → b < w.heap.size) :
    Calls Try.prog 32 #[v, .int .i64 k0] w fun e w' => e = .returned (.int .i64 ((k0 + nuL nInt l : Nat) : Int)) ∧ Below w.heap.size w w' := by
  obtain ⟨A, c, rfl, hm⟩ := h.sl_val
  rw [List.length_map, mkL_len] at hm h ⊢
  unfold maxLen at hm
  obtain ⟨n, hl⟩ : ∃ n, l.length = n := ⟨_, rfl⟩
  rw [hl] at h hm ⊢
  have Hl := Lib.hid hl
  have Hnt := Lib.hid (nuL_take nInt l)
  clear hl
  go_enter Try.func32, Try.ntmps32
  go_wp2_with fail
  go_loopw [1, 5] (fun kv i wr => ∃ k : Nat, k ≤ n ∧ i = .int .i64 k ∧ kv = .int .i64 ((k0 + nuL nInt (l.take k) : Nat) : Int) ∧ Below w.heap.size w wr) (fun _ i _ => n - (intOf i).toNat)
  case atStart => exact ⟨0, Nat.zero_le _, rfl, by simp [nuL], Below.refl _ _⟩
  case round =>
    obtain ⟨k, hk, rfl, rfl, hb⟩ := hrel
    have Hb := Lib.hid hb
    have hsz := hb.size
    clear hb
    by_cases hlt : k < n
    · obtain ⟨x, hx⟩ : ∃ x, l[k]? = some x := ⟨_, List.getElem?_eq_getElem (by rw [Hl.out]; exact hlt)⟩
      obtain ⟨q, hq⟩ : ∃ q, q = k0 + nuL nInt (l.take k) := ⟨_, rfl⟩
      rw [← hq]
      have hq1 := Hnt.out (k + 1)
      rw [nuL_succ nInt hx] at hq1
      have Hns := Lib.hid (nuL_succ nInt hx)
      have Hq := Lib.hid hq
      obtain ⟨ad, y0, rfl, hab, hy, e0⟩ := fIntS_row (h.under hS Hb.out) hlt
      rw [mkL_get kInt nInt k0 hx, ← hq] at hy
      injection hy with hy
      obtain ⟨x0, rfl⟩ : ∃ x0, x0 = x := ⟨x, rfl⟩
      simp only [kInt] at hy
      subst hy
      simp only [nInt] at hq1
      have hqb : q + (1) ≤ 1099511627776 := by have := Hq.out; omega
      have hab1 := hS _ hab
      have g1 : (0 : Int) ≤ (k : Int) := by omega
      have g2 : (k : Int) < (n : Int) := by omega
      clear hx hq
      go_wp2_with fail
      go_roundw
      case rel =>
        refine ⟨k + 1, by omega, by go_num, ?_, Hb.out⟩
        rw [Hns.out, ← Nat.add_assoc, ← Hq.out]; (try simp only [nInt]); go_num
      case measure => simp [intOf]; omega
    · have hke : k = n := by omega
      subst hke
      rw [List.take_of_length_le (by rw [Hl.out]; exact Nat.le_refl _)]
      go_wp2_with fail
      go_ret
      exact ⟨rfl, Hb.out⟩
end Go.Proofs.Ytjiijjihkgipkaa

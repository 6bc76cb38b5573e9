/- Contracts: lists of numbers in the laws: equality, marks, whether the marks are held. -/
import Derived.Test.YtjiijjihkgipkaaNum
import Derived.Test.YtjiijjihkgipkaaLex
namespace Go.Proofs.Ytjiijjihkgipkaa
open Go.RowKit

def ints (l : List Int) : List Value := l.map (Value.int .i64)
theorem ints_len (l : List Int) : (ints l).length = l.length := by simp [ints]
theorem ints_get (l : List Int) (k : Nat) : (ints l)[k]? = l[k]?.map (Value.int .i64) := by simp [ints]
theorem ints_one (l : List Int) : ∀ u ∈ ints l, u.oneCell' = true := by
  intro u hu
  simp only [ints, List.mem_map] at hu
  obtain ⟨x, _, rfl⟩ := hu
  rfl

/-- what is owned, with a lower bound -/
theorem own_mono {w : World} {base base' : Nat} {e : TypeId} {size n : Nat} {v : Value} {xs : List Value} (h : w.ownsRow base e size v n xs) (hb : base' ≤ base) : w.ownsRow base' e size v n xs := by
  refine ⟨h.1, ?_⟩
  rcases h.2 with h' | ⟨g, cap, cur, h1, h2, h3⟩
  · exact .inl h'
  · exact .inr ⟨g, cap, cur, h1, Nat.le_trans hb h2, h3⟩
theorem own_form {w : World} {base : Nat} {e : TypeId} {size n : Nat} {v : Value} {xs : List Value} (h : w.ownsRow base e size v n xs) :
    ∃ A c, v = .slice A n c ∧ n ≤ c ∧ c ≤ maxLen ∧ (0 < n → ∃ g, A = some ⟨g, 0, none⟩ ∧ base ≤ g ∧ g < w.heap.size) := by
  rcases h.2 with ⟨rfl, rfl⟩ | ⟨g, cap, cur, rfl, h2, h3, h4, h5, _⟩
  · exact ⟨none, 0, rfl, Nat.le_refl _, by unfold maxLen; omega, fun h => absurd h (by omega)⟩
  · refine ⟨_, cap, rfl, h4, h5, fun _ => ⟨g, rfl, h2, ?_⟩⟩
    exact (Array.getElem?_eq_some_iff.1 h3).1
theorem own_below {w w' : World} {base B : Nat} {e : TypeId} {size n : Nat} {v : Value} {xs : List Value} (h : w.ownsRow base e size v n xs) (hb : Below B w w') (hB : w.heap.size ≤ B) : w'.ownsRow base e size v n xs := by
  refine h.kept (row := none) ⟨hb.os, hb.tape, hb.output, hb.size, fun k hk _ => hb.block k (by omega)⟩ ?_
  cases hv : v.ownBlock
  · exact .inl rfl
  · exact .inr (by simp)
theorem own_drew {w : World} {base : Nat} {e : TypeId} {size n : Nat} {v : Value} {xs : List Value} (h : w.ownsRow base e size v n xs) : w.drew.ownsRow base e size v n xs := h
/-- what a fresh literal reads as -/
theorem reads_new {w : World} (t : TypeId) (cs : Array Value) (n size : Nat) (h : cs.size = n * size) : Reads (w.alloc (.cells cs t)) (w.heap.size + 1) size (some ⟨w.heap.size, 0, none⟩) n cs.toList := by
  refine ⟨by simpa using h, fun _ => ⟨_, rfl, by simp, fun j u hu => ?_⟩⟩
  have hadd : (⟨w.heap.size, 0, none⟩ : Addr).add j = ⟨w.heap.size, j, none⟩ := by unfold Addr.add; split <;> simp_all
  rw [hadd, (Blk.new w t cs).cell j, ← hu]
  simp

theorem below_of_grown {w w' : World} {row : Option Nat} {B : Nat} (h : w.grownBy w' row) (hB : B ≤ w.heap.size) (hr : ∀ g, row = some g → B ≤ g) : Below B w w' :=
  ⟨h.os, h.tape, h.output, h.size, fun k hk => h.block k (by omega) (fun e => by have := hr k e.symm; omega)⟩
theorem grown_below {w w1 w' : World} {row : Option Nat} (h : w.grownBy w1 row) {B : Nat} (hb : Below B w1 w') (hB : w.heap.size ≤ B) : w.grownBy w' row :=
  ⟨hb.os.trans h.os, hb.tape.trans h.tape, hb.output.trans h.output, Nat.le_trans h.size hb.size, fun k hk hne => (hb.block k (by omega)).trans (h.block k hk hne)⟩

/-- behind an append of a literal -/
theorem below_push {w0 w1 w2 : World} {B base n size : Nat} {e : TypeId} {o : Obj} {v : Value} {xs : List Value} (hb : Below B w0 w1) (hown : w1.ownsRow base e size v n xs) (hB : B ≤ base) (hs : B ≤ w1.heap.size)
    (hg : (w1.alloc o).grownBy w2 v.ownBlock) : Below B w0 w2 := by
  refine (hb.alloc hs o).trans (below_of_grown hg (by simp; omega) fun g hgv => ?_)
  have := hown.lt g hgv
  omega
theorem grown_push {w1 w2 : World} {o : Obj} {row : Option Nat} (hg : (w1.alloc o).grownBy w2 row) : w1.grownBy w2 row :=
  (World.grownBy_alloc w1 o row).trans hg

/-- the cell of a list's element -/
theorem Reads.int_at {w : World} {B n : Nat} {A : Option Addr} {l : List Int} (h : Reads w B 1 A n (ints l)) {k : Nat} (hk : k < n) :
    ∃ ad x, A = some ad ∧ ad.block < B ∧ l[k]? = some x ∧ w.cell? (ad.add k) = some (.int .i64 x) := by
  obtain ⟨ad, u, rfl, hb, hu, hc⟩ := h.at_ hk
  rw [ints_get] at hu
  cases hx : l[k]? with
  | none => rw [hx] at hu; cases hu
  | some x => rw [hx] at hu; injection hu with hu; subst hu; exact ⟨ad, x, rfl, hb, rfl, hc⟩
theorem Reads.len {w : World} {B n : Nat} {A : Option Addr} {l : List Int} (h : Reads w B 1 A n (ints l)) : l.length = n := by
  have := h.1; rw [ints_len] at this; omega

set_option maxRecDepth 100000 in
set_option maxHeartbeats 1000000 in
theorem l_eqIntS {w : World} {B B' : Nat} {A A' : Option Addr} {n m c c' : Nat} {l l' : List Int} (hn : n ≤ 1099511627776) (hm : m ≤ 1099511627776) (h : Reads w B 1 A n (ints l)) (h' : Reads w B' 1 A' m (ints l')) (hB : B ≤ w.heap.size) (hB' : B' ≤ w.heap.size) :
    Calls Try.prog 28 #[.slice A n c, .slice A' m c'] w fun e w' => e = .returned (.bool (decide (l = l'))) ∧ Below w.heap.size w w' := by
  have hl := h.len
  have hl' := h'.len
  by_cases hnm : n = m
  · subst hnm
    have Hl := Lib.hid hl
    have Hl' := Lib.hid hl'
    clear hl hl'
    go_enter Try.func28, Try.ntmps28
    go_wp2
    go_loopw [5] (fun i wr => ∃ k : Nat, k ≤ n ∧ i = .int .i64 k ∧ l.take k = l'.take k ∧ Below w.heap.size w wr) (fun i _ => n - (intOf i).toNat)
    case atStart => exact ⟨0, Nat.zero_le _, rfl, rfl, Below.refl _ _⟩
    case round =>
      obtain ⟨k, hk, rfl, heq, hb⟩ := hrel
      have Heq := Lib.hid heq
      have Hb := Lib.hid hb
      clear heq hb
      by_cases hlt : k < n
      · obtain ⟨ad, x, rfl, hab, hx, hc⟩ := h.int_at hlt
        obtain ⟨ad', x', rfl, hab', hx', hc'⟩ := h'.int_at hlt
        have e1 := (Hb.out.cell (p := ad.add k) (by rw [block_of_add]; omega)).trans hc
        have e2 := (Hb.out.cell (p := ad'.add k) (by rw [block_of_add]; omega)).trans hc'
        have Hx := Lib.hid hx
        have Hx' := Lib.hid hx'
        clear hc hc' hx hx'
        have g1 : (0 : Int) ≤ (k : Int) := by omega
        have g2 : (k : Int) < (n : Int) := by omega
        go_wp2_with fail
        refine wp_region_lex (by kernel_rfl) (by kernel_rfl) (Cls (fun x => x = wr.drew)) (Cls.mk' rfl) ?_
        have lexNE : Nonempty (Wd (fun x => x = wr.drew)) := ⟨⟨_, rfl⟩⟩
        have lexW : ∀ W : Wd (fun x => x = wr.drew), W.val = wr.drew := fun W => W.ok
        (repeat (first | (refine lex_read (by first | exact wanted_n rfl | exact wanted_g rfl rfl rfl rfl) (by exact rfl) (fun K hK => ?_); go_big_quiet_op; refine hK _ ?_; clear hK K) | (refine lex_skip' (by exact wanted_g rfl rfl rfl rfl) (fun K hK => ?_); go_simp; refine hK _ ?_; clear hK K)))
        (refine lex_nil ?_)
        clear lexNE lexW
        by_cases hxx : x = x'
        · subst hxx
          go_wp2_with fail
          go_roundw
          case rel =>
            refine ⟨k + 1, by omega, by go_num, ?_, Hb.out.drew⟩
            rw [List.take_add_one, List.take_add_one, Heq.out, Hx.out, Hx'.out]
          case measure => simp [intOf]; omega
        · have hne : (x != x') = true := by simpa using hxx
          go_wp2_with fail
          go_ret
          refine ⟨ret_bool ?_, Hb.out.drew⟩
          have : l ≠ l' := by
            rintro rfl
            have h1 := Hx.out
            rw [Hx'.out] at h1
            injection h1 with h1
            exact hxx h1.symm
          simp [this]
      · have hke : k = n := by omega
        subst hke
        go_wp2_with fail
        go_ret
        refine ⟨ret_bool ?_, Hb.out⟩
        have h1 := Heq.out
        have h2 := Hl.out
        have h3 := Hl'.out
        rw [List.take_of_length_le (by omega), List.take_of_length_le (by omega)] at h1
        simp [h1]
  · have hne : ((n : Int) != (m : Int)) = true := by simp; omega
    have hll : l ≠ l' := by rintro rfl; omega
    have Hll := Lib.hid hll
    clear hl hl' hll
    go_enter Try.func28, Try.ntmps28
    go_wp2
    go_ret
    exact ⟨ret_bool (by simp [Hll.out]), Below.refl _ _⟩

/-- the marks from k on -/
def marks (k : Int) (n : Nat) : List Int := (List.range n).map fun i => k + ((i : Nat) : Int)
theorem marks_len (k : Int) (n : Nat) : (marks k n).length = n := by simp [marks]
theorem marks_get {k : Int} {n i : Nat} (h : i < n) : (marks k n)[i]? = some (k + (i : Int)) := by
  simp [marks, List.getElem?_range h]
/-- the first i marked, the others as they were -/
def part (k : Int) (i : Nat) (l : List Int) : List Int := marks k i ++ l.drop i
theorem part_zero (k : Int) (l : List Int) : part k 0 l = l := by simp [part, marks]
theorem part_all {k : Int} {l : List Int} {n : Nat} (h : l.length = n) : part k n l = marks k n := by simp [part, ← h]
theorem part_succ {k : Int} {i : Nat} {l : List Int} (h : i < l.length) : (part k i l).set i (k + (i : Int)) = part k (i + 1) l := by
  unfold part
  rw [List.set_append_right _ _ (by rw [marks_len]; exact Nat.le_refl _), marks_len, Nat.sub_self, List.drop_eq_getElem_cons h, List.set_cons_zero]
  unfold marks
  rw [List.range_succ, List.map_append, List.append_assoc]
  rfl

set_option maxRecDepth 100000 in
set_option maxHeartbeats 1000000 in
theorem l_markIntS {w : World} {base : Nat} {A : Option Addr} {n c : Nat} {l : List Int} (k0 : Int) (hk0 : 0 ≤ k0) (hk1 : k0 ≤ 1099511627776) (hn : n ≤ 1099511627776) (h : w.ownsRow base 3 1 (.slice A n c) n (ints l)) :
    Calls Try.prog 31 #[.slice A n c, .int .i64 k0] w fun e w' => e = .returned (.int .i64 (k0 + n)) ∧ w'.ownsRow base 3 1 (.slice A n c) n (ints (marks k0 n)) ∧ w.grownBy w' (Value.slice A n c).ownBlock := by
  have hl : l.length = n := by have := h.1; rw [ints_len] at this; omega
  have H := Lib.hid h
  have Hl := Lib.hid hl
  clear h hl
  go_enter Try.func31, Try.ntmps31
  go_wp2
  go_loopw [1, 5] (fun kv i wr => ∃ k : Nat, k ≤ n ∧ i = .int .i64 k ∧ kv = .int .i64 (k0 + k) ∧ wr.ownsRow base 3 1 (.slice A n c) n (ints (part k0 k l)) ∧ w.grownBy wr (Value.slice A n c).ownBlock) (fun _ i _ => n - (intOf i).toNat)
  case atStart => exact ⟨0, Nat.zero_le _, rfl, by simp, by rw [part_zero]; exact H.out, World.grownBy.refl _ _⟩
  case round =>
    obtain ⟨k, hk, rfl, rfl, hown, hg⟩ := hrel
    have Hown := Lib.hid hown
    have Hg := Lib.hid hg
    by_cases hlt : k < n
    · obtain ⟨A', c', hv, _, _, hA⟩ := own_form hown
      injection hv with hv1 hv2 hv3
      subst hv1 hv3
      obtain ⟨g, rfl, hgb, hgl⟩ := hA (by omega)
      have hcell : wr.cell? ⟨g, k, none⟩ = _ := hown.cellAt k (by omega)
      have hfz := hown.frozenAt k
      have hx : ∃ x, (ints (part k0 k l))[k]? = some (.int .i64 x) := by
        have hl := Hl.out
        rw [ints_get, part, List.getElem?_append_right (by rw [marks_len]; exact Nat.le_refl _), marks_len, Nat.sub_self, List.getElem?_drop]
        rw [List.getElem?_eq_getElem (by omega)]
        exact ⟨_, rfl⟩
      obtain ⟨x, hx⟩ := hx
      rw [hx] at hcell
      have g1 : (0 : Int) ≤ (k : Int) := by omega
      have g2 : (k : Int) < (n : Int) := by omega
      clear hx hown hg
      go_wp2_with fail
      go_roundw
      case rel =>
        have hs := Hown.out.stored k (.int .i64 (k0 + k))
        refine ⟨k + 1, by omega, by go_num, by go_num, ?_, Hg.out.trans hs.2⟩
        have e : (ints (part k0 k l)).set k (.int .i64 (k0 + k)) = ints (part k0 (k + 1) l) := by
          rw [← part_succ (by have := Hl.out; omega)]
          simp [ints, List.map_set]
        rw [← e]
        exact hs.1
      case measure => simp [intOf]; omega
    · have hke : k = n := by omega
      subst hke
      go_wp2_with fail
      go_ret
      exact ⟨rfl, by rw [← part_all Hl.out]; exact Hown.out, Hg.out⟩

set_option maxRecDepth 100000 in
set_option maxHeartbeats 1000000 in
theorem l_heldIntS {w : World} {B : Nat} {A : Option Addr} {n c : Nat} (k0 : Int) (hk0 : 0 ≤ k0) (hk1 : k0 ≤ 1099511627776) (hn : n ≤ 1099511627776) (h : Reads w B 1 A n (ints (marks k0 n))) (_hB : B ≤ w.heap.size) :
    Calls Try.prog 32 #[.slice A n c, .int .i64 k0] w fun e w' => e = .returned (.int .i64 (k0 + n)) ∧ w = w' := by
  go_enter Try.func32, Try.ntmps32
  go_wp2
  go_loop [1, 5] (fun kv i => ∃ k : Nat, k ≤ n ∧ i = .int .i64 k ∧ kv = .int .i64 (k0 + k)) (fun _ i => n - (intOf i).toNat)
  case atStart => exact ⟨0, Nat.zero_le _, rfl, by simp⟩
  case round =>
    obtain ⟨k, hk, rfl, rfl⟩ := hrel
    by_cases hlt : k < n
    · obtain ⟨ad, x, rfl, hab, hx, hc⟩ := h.int_at hlt
      rw [marks_get hlt] at hx
      injection hx with hx
      subst hx
      have g1 : (0 : Int) ≤ (k : Int) := by omega
      have g2 : (k : Int) < (n : Int) := by omega
      clear h
      go_wp2_with fail
      go_round
      case rel => exact ⟨k + 1, by omega, by go_num, by go_num⟩
      case measure => simp [intOf]; omega
    · have hke : k = n := by omega
      subst hke
      go_wp2_with fail
      go_ret
      exact ⟨rfl, rfl⟩
end Go.Proofs.Ytjiijjihkgipkaa

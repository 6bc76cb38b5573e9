/- Contracts: nets: the size and equality in the laws; the number of nodes. -/
import Derived.Test.YtimccjpggcgklaaNetA
namespace Go.Proofs.Ytimccjpggcgklaa
open Go.RowKit

def netTot (ss : List Seq3) (ands : List (Int × Int)) (outs : List Int) : Nat := cntSeq ss + ands.length + outs.length
set_option maxRecDepth 100000 in
set_option maxHeartbeats 2000000 in
theorem l_szNet (inp : Int) (left : Nat) (h1 : left ≤ 1048576) {w : World} {S : Nat → Prop} {As Aa Ao : Option Addr} {ns cs na ca no co : Nat} {ss : List Seq3} {ands : List (Int × Int)} {outs : List Int} (h : NetR w S As ns cs ss Aa na ca ands Ao no co outs) (hS : ∀ b, S b → b < w.heap.size) :
    Calls Try.prog 28 #[.agg #[.int .i64 inp, .slice As ns cs, .slice Aa na ca, .slice Ao no co], .int .i64 left] w fun e w' => e = .returned (.int .i64 (leftOf left (netTot ss ands outs))) ∧ Below w.heap.size w w' := by
  obtain ⟨l1, l2, l3, m1, m2, m3⟩ := h.lens
  have Hl := Lib.hid (And.intro l2 l3)
  have hs := (h.1.alloc hS (.cells #[.int .i64 inp, .slice As ns cs, .slice Aa na ca, .slice Ao no co] 49))
  by_cases c1 : cntSeq ss ≤ left
  · have Ha := Lib.hid (fun W => l_szAndS Aa na ca (left - cntSeq ss) (by omega) m2 W)
    by_cases c2 : na ≤ left - cntSeq ss
    · have Hi := Lib.hid (fun W => l_szIntS Ao no co (left - cntSeq ss - na) (by omega) m3 W)
      rw [if_pos c2] at Ha
      by_cases c3 : no ≤ left - cntSeq ss - na
      · have He := Lib.hid (show leftOf left (netTot ss ands outs) = ((left - cntSeq ss - na - no : Nat) : Int) by rw [leftOf_yes (by unfold netTot; omega)]; unfold netTot; omega)
        have Hy := Lib.hid (leftOf_yes c1)
        rw [if_pos c3] at Hi
        clear l1 l2 l3 m1 m2 m3 c1 c2 c3
        go_enter Try.func28, Try.ntmps28
        go_wp2_with fail
        refine (l_szSeqS left h1 hs (fun b hb => by have := hS _ hb; (try simp) <;> omega)).mono ?_
        rintro e w1 ⟨rfl, hb1⟩
        rw [Hy.out]
        have z1 := hb1.size
        try simp at z1
        (try have y1_0 : w.heap.size < w1.heap.size := (by omega))
        have q1_0 := fun o => (bcell hb1).1 (w.heap.size) o (by (try simp) <;> (try omega))
        have p1_0 := fun o => (bcell hb1).2 (w.heap.size) o (by (try simp) <;> (try omega))
        go_wp2_with (first | (go_at_call 79; refine (Ha.out _).mono ?_; rintro e w' ⟨rfl, rfl⟩) | (go_at_call 80; refine (Hi.out _).mono ?_; rintro e w' ⟨rfl, rfl⟩))
        go_ret
        exact ⟨ret_int He.out.symm, (by repeat (first | with_reducible exact Below.refl _ _ | with_reducible assumption | with_reducible refine below_drewN ?_ _ | with_reducible refine Below.drew ?_ | ((with_reducible refine Below.alloc ?_ ?_ _); rotate_left; (((try simp) <;> (try omega)) <;> done)) | ((with_reducible refine Below.setCell ?_ ?_ _); rotate_left; (((try simp) <;> (try omega)) <;> done)) | ((with_reducible refine Below.trans ?_ (Below.mono (by with_reducible assumption) ?_)); rotate_left; (((try simp) <;> (try omega)) <;> done))))⟩
      · have He := Lib.hid (leftOf_no (left := left) (n := netTot ss ands outs) (by unfold netTot; omega))
        have Hy := Lib.hid (leftOf_yes c1)
        rw [if_neg c3] at Hi
        clear l1 l2 l3 m1 m2 m3 c1 c2 c3
        go_enter Try.func28, Try.ntmps28
        go_wp2_with fail
        refine (l_szSeqS left h1 hs (fun b hb => by have := hS _ hb; (try simp) <;> omega)).mono ?_
        rintro e w1 ⟨rfl, hb1⟩
        rw [Hy.out]
        have z1 := hb1.size
        try simp at z1
        (try have y1_0 : w.heap.size < w1.heap.size := (by omega))
        have q1_0 := fun o => (bcell hb1).1 (w.heap.size) o (by (try simp) <;> (try omega))
        have p1_0 := fun o => (bcell hb1).2 (w.heap.size) o (by (try simp) <;> (try omega))
        go_wp2_with (first | (go_at_call 79; refine (Ha.out _).mono ?_; rintro e w' ⟨rfl, rfl⟩) | (go_at_call 80; refine (Hi.out _).mono ?_; rintro e w' ⟨rfl, rfl⟩))
        go_ret
        exact ⟨ret_int He.out.symm, (by repeat (first | with_reducible exact Below.refl _ _ | with_reducible assumption | with_reducible refine below_drewN ?_ _ | with_reducible refine Below.drew ?_ | ((with_reducible refine Below.alloc ?_ ?_ _); rotate_left; (((try simp) <;> (try omega)) <;> done)) | ((with_reducible refine Below.setCell ?_ ?_ _); rotate_left; (((try simp) <;> (try omega)) <;> done)) | ((with_reducible refine Below.trans ?_ (Below.mono (by with_reducible assumption) ?_)); rotate_left; (((try simp) <;> (try omega)) <;> done))))⟩
    · have He := Lib.hid (leftOf_no (left := left) (n := netTot ss ands outs) (by unfold netTot; omega))
      have Hy := Lib.hid (leftOf_yes c1)
      rw [if_neg c2] at Ha
      clear l1 l2 l3 m1 m2 m3 c1 c2
      go_enter Try.func28, Try.ntmps28
      go_wp2_with fail
      refine (l_szSeqS left h1 hs (fun b hb => by have := hS _ hb; (try simp) <;> omega)).mono ?_
      rintro e w1 ⟨rfl, hb1⟩
      rw [Hy.out]
      have z1 := hb1.size
      try simp at z1
      (try have y1_0 : w.heap.size < w1.heap.size := (by omega))
      have q1_0 := fun o => (bcell hb1).1 (w.heap.size) o (by (try simp) <;> (try omega))
      have p1_0 := fun o => (bcell hb1).2 (w.heap.size) o (by (try simp) <;> (try omega))
      go_wp2_with (first | (go_at_call 79; refine (Ha.out _).mono ?_; rintro e w' ⟨rfl, rfl⟩))
      go_ret
      exact ⟨ret_int He.out.symm, (by repeat (first | with_reducible exact Below.refl _ _ | with_reducible assumption | with_reducible refine below_drewN ?_ _ | with_reducible refine Below.drew ?_ | ((with_reducible refine Below.alloc ?_ ?_ _); rotate_left; (((try simp) <;> (try omega)) <;> done)) | ((with_reducible refine Below.setCell ?_ ?_ _); rotate_left; (((try simp) <;> (try omega)) <;> done)) | ((with_reducible refine Below.trans ?_ (Below.mono (by with_reducible assumption) ?_)); rotate_left; (((try simp) <;> (try omega)) <;> done))))⟩
  · have He := Lib.hid (leftOf_no (left := left) (n := netTot ss ands outs) (by unfold netTot; omega))
    have Hy := Lib.hid (leftOf_no c1)
    clear l1 l2 l3 m1 m2 m3 c1
    go_enter Try.func28, Try.ntmps28
    go_wp2_with fail
    refine (l_szSeqS left h1 hs (fun b hb => by have := hS _ hb; (try simp) <;> omega)).mono ?_
    rintro e w1 ⟨rfl, hb1⟩
    rw [Hy.out]
    have z1 := hb1.size
    try simp at z1
    (try have y1_0 : w.heap.size < w1.heap.size := (by omega))
    have q1_0 := fun o => (bcell hb1).1 (w.heap.size) o (by (try simp) <;> (try omega))
    have p1_0 := fun o => (bcell hb1).2 (w.heap.size) o (by (try simp) <;> (try omega))
    go_wp2_with fail
    go_ret
    exact ⟨ret_int He.out.symm, (by repeat (first | with_reducible exact Below.refl _ _ | with_reducible assumption | with_reducible refine below_drewN ?_ _ | with_reducible refine Below.drew ?_ | ((with_reducible refine Below.alloc ?_ ?_ _); rotate_left; (((try simp) <;> (try omega)) <;> done)) | ((with_reducible refine Below.setCell ?_ ?_ _); rotate_left; (((try simp) <;> (try omega)) <;> done)) | ((with_reducible refine Below.trans ?_ (Below.mono (by with_reducible assumption) ?_)); rotate_left; (((try simp) <;> (try omega)) <;> done))))⟩

set_option maxRecDepth 100000 in
set_option maxHeartbeats 2000000 in
theorem l_eqNet (inp : Int) {w : World} {S S' : Nat → Prop} {As Aa Ao As' Aa' Ao' : Option Addr} {ns cs na ca no co cs' ca' co' : Nat} {ss : List Seq3} {ands : List (Int × Int)} {outs : List Int} (hB : NetB ss ands outs)
    (h : NetR w S As ns cs ss Aa na ca ands Ao no co outs) (h' : NetR w S' As' ns cs' ss Aa' na ca' ands Ao' no co' outs) (hS : ∀ b, S b → b < w.heap.size) (hS' : ∀ b, S' b → b < w.heap.size) :
    Calls Try.prog 25 #[.agg #[.int .i64 inp, .slice As ns cs, .slice Aa na ca, .slice Ao no co], .agg #[.int .i64 inp, .slice As' ns cs', .slice Aa' na ca', .slice Ao' no co']] w fun e w' => e = .returned (.bool true) ∧ Below w.heap.size w w' := by
  obtain ⟨l1, l2, l3, _⟩ := h.lens
  have hc : ss.length ≤ cntSeq ss := by unfold cntSeq; omega
  unfold NetB at hB
  have Hin := Lib.hid (fun x (hx : x ∈ ss) => (show x.2.2.length ≤ 1048576 by have := cntSeq_el hx; omega))
  have n1 : ns ≤ 1048576 := by omega
  have n2 : na ≤ 1099511627776 := by omega
  have n3 : no ≤ 1099511627776 := by omega
  clear hB hc l1 l2 l3
  have hk : ∀ {S : Nat → Prop} (hS : ∀ b, S b → b < w.heap.size) (o1 o2 : Obj) (p : Addr), S p.block → ((w.alloc o1).alloc o2).cell? p = w.cell? p := fun hS o1 o2 p hp => by
    have := hS _ hp
    rw [World.cell?_alloc_lt _ _ p (by simp; omega), World.cell?_alloc_lt _ _ p (by omega)]
  have ha := h.keep (w' := (w.alloc (.cells #[.int .i64 inp, .slice As ns cs, .slice Aa na ca, .slice Ao no co] 41)).alloc (.cells #[.int .i64 inp, .slice As' ns cs', .slice Aa' na ca', .slice Ao' no co'] 41)) (fun p hp => hk hS _ _ p hp) (fun _ h => h)
  have hb := h'.keep (w' := (w.alloc (.cells #[.int .i64 inp, .slice As ns cs, .slice Aa na ca, .slice Ao no co] 41)).alloc (.cells #[.int .i64 inp, .slice As' ns cs', .slice Aa' na ca', .slice Ao' no co'] 41)) (fun p hp => hk hS' _ _ p hp) (fun _ h => h)
  have hS2 : ∀ b, S b → b < w.heap.size + 2 := fun b hb => by have := hS b hb; omega
  have hS2' : ∀ b, S' b → b < w.heap.size + 2 := fun b hb => by have := hS' b hb; omega
  clear hk
  go_enter Try.func25, Try.ntmps25
  go_wp2_with fail
  refine (l_eqSeqS n1 Hin.out ha.1 hb.1 (fun b hb => by simpa using hS2 b hb) (fun b hb => by simpa using hS2' b hb)).mono ?_
  rintro e w1 ⟨rfl, hb1⟩
  have z1 := hb1.size
  try simp at z1
  (try have y1_0 : w.heap.size < w1.heap.size := (by omega))
  have q1_0 := fun o => (bcell hb1).1 (w.heap.size) o (by (try simp) <;> (try omega))
  have p1_0 := fun o => (bcell hb1).2 (w.heap.size) o (by (try simp) <;> (try omega))
  (try have y1_1 : w.heap.size + 1 < w1.heap.size := (by omega))
  have q1_1 := fun o => (bcell hb1).1 (w.heap.size + 1) o (by (try simp) <;> (try omega))
  have p1_1 := fun o => (bcell hb1).2 (w.heap.size + 1) o (by (try simp) <;> (try omega))
  have ha1 := ha.under (fun b hb => by simpa using hS2 b hb) hb1
  have hb1' := hb.under (fun b hb => by simpa using hS2' b hb) hb1
  clear ha hb
  go_wp2_with fail
  refine (l_eqAndS n2 (ha1.2.1.to_reads eAnd_len (by decide) (B := w.heap.size + 2) hS2) (hb1'.2.1.to_reads eAnd_len (by decide) (B := w.heap.size + 2) hS2') (by omega) (by omega)).mono ?_
  rintro e w2 ⟨rfl, hb2⟩
  have z2 := hb2.size
  try simp at z2
  (try have y2_0 : w.heap.size < w2.heap.size := (by omega))
  have q2_0 := fun o => (bcell hb2).1 (w.heap.size) o (by (try simp) <;> (try omega))
  have p2_0 := fun o => (bcell hb2).2 (w.heap.size) o (by (try simp) <;> (try omega))
  (try have y2_1 : w.heap.size + 1 < w2.heap.size := (by omega))
  have q2_1 := fun o => (bcell hb2).1 (w.heap.size + 1) o (by (try simp) <;> (try omega))
  have p2_1 := fun o => (bcell hb2).2 (w.heap.size + 1) o (by (try simp) <;> (try omega))
  have ha2 := ha1.under (B := w1.heap.size) (fun b hb => by have := hS2 b hb; omega) hb2
  have hb2' := hb1'.under (B := w1.heap.size) (fun b hb => by have := hS2' b hb; omega) hb2
  clear ha1 hb1'
  go_wp2_with fail
  refine (l_eqIntS n3 n3 (ha2.2.2.ints_ (B := w.heap.size + 2) hS2) (hb2'.2.2.ints_ (B := w.heap.size + 2) hS2') (by omega) (by omega)).mono ?_
  rintro e w3 ⟨rfl, hb3⟩
  rw [decide_eq_true (rfl : outs = outs)]
  go_wp2_with fail
  go_ret
  exact ⟨rfl, (by repeat (first | with_reducible exact Below.refl _ _ | with_reducible assumption | with_reducible refine below_drewN ?_ _ | with_reducible refine Below.drew ?_ | ((with_reducible refine Below.alloc ?_ ?_ _); rotate_left; (((try simp) <;> (try omega)) <;> done)) | ((with_reducible refine Below.setCell ?_ ?_ _); rotate_left; (((try simp) <;> (try omega)) <;> done)) | ((with_reducible refine Below.trans ?_ (Below.mono (by with_reducible assumption) ?_)); rotate_left; (((try simp) <;> (try omega)) <;> done))))⟩

/-- the number of nodes -/
def ndc (inp : Int) (ns na no : Nat) : Int := if inR inp 0 20 && (decide (ns ≤ 12) && (decide (na ≤ 300) && decide (no ≤ 16))) then 1 + inp + ns + na else 0

theorem i_nodeCount (inp : Int) (h0 : 0 ≤ inp) (h20 : inp ≤ 20) (As Aa Ao : Option Addr) (ns cs na ca no co : Nat) (h1 : ns ≤ 12) (h2 : na ≤ 300) (w : World) :
    Calls Try.prog 83 #[.agg #[.int .i64 inp, .slice As ns cs, .slice Aa na ca, .slice Ao no co]] w fun e w' => e = .returned (.int .i64 (1 + inp + ns + na)) ∧ Below w.heap.size w w' := by
  go_enter Try.func83, Try.ntmps83
  go_wp2_with fail
  go_ret
  exact ⟨rfl, (by repeat (first | with_reducible exact Below.refl _ _ | with_reducible assumption | with_reducible refine below_drewN ?_ _ | with_reducible refine Below.drew ?_ | ((with_reducible refine Below.alloc ?_ ?_ _); rotate_left; (((try simp) <;> (try omega)) <;> done)) | ((with_reducible refine Below.setCell ?_ ?_ _); rotate_left; (((try simp) <;> (try omega)) <;> done)) | ((with_reducible refine Below.trans ?_ (Below.mono (by with_reducible assumption) ?_)); rotate_left; (((try simp) <;> (try omega)) <;> done))))⟩
set_option maxHeartbeats 2000000 in
theorem i_NodeCount (inp : Int) (As Aa Ao : Option Addr) (ns cs na ca no co : Nat) (w : World) :
    Calls Try.prog 31 #[.agg #[.int .i64 inp, .slice As ns cs, .slice Aa na ca, .slice Ao no co]] w fun e w' => e = .returned (.int .i64 (ndc inp ns na no)) ∧ Below w.heap.size w w' := by
  by_cases hi : inR inp 0 20 = true
  · have hi0 := (inR_iff.1 hi).1
    have hi1 := (inR_iff.1 hi).2
    have Hi := Lib.hid hi
    by_cases h1 : ns ≤ 12
    · by_cases h2 : na ≤ 300
      · by_cases h3 : no ≤ 16
        · have He := Lib.hid (show ndc inp ns na no = 1 + inp + ns + na by simp [ndc, hi, h1, h2, h3])
          have g1 : (ns : Int) ≤ 12 := by omega
          have g2 : (na : Int) ≤ 300 := by omega
          have g3 : (no : Int) ≤ 16 := by omega
          clear hi
          go_enter Try.func31, Try.ntmps31
          go_wp2_with (first | (go_at_call 63; refine (i_inRange _ _ _ _).mono ?_; rintro e w' ⟨rfl, rfl⟩; rw [Hi.out]))
          refine (i_nodeCount inp hi0 hi1 _ _ _ _ _ _ _ _ _ h1 h2 _).mono ?_
          rintro e w1 ⟨rfl, hb1⟩
          go_wp2_with fail
          go_ret
          exact ⟨ret_int He.out.symm, (by repeat (first | with_reducible exact Below.refl _ _ | with_reducible assumption | with_reducible refine below_drewN ?_ _ | with_reducible refine Below.drew ?_ | ((with_reducible refine Below.alloc ?_ ?_ _); rotate_left; (((try simp) <;> (try omega)) <;> done)) | ((with_reducible refine Below.setCell ?_ ?_ _); rotate_left; (((try simp) <;> (try omega)) <;> done)) | ((with_reducible refine Below.trans ?_ (Below.mono (by with_reducible assumption) ?_)); rotate_left; (((try simp) <;> (try omega)) <;> done))))⟩
        · have He := Lib.hid (show ndc inp ns na no = 0 by simp [ndc, h3])
          have g1 : (ns : Int) ≤ 12 := by omega
          have g2 : (na : Int) ≤ 300 := by omega
          have g3 : (16 : Int) < no := by omega
          clear hi
          go_enter Try.func31, Try.ntmps31
          go_wp2_with (first | (go_at_call 63; refine (i_inRange _ _ _ _).mono ?_; rintro e w' ⟨rfl, rfl⟩; rw [Hi.out]))
          go_ret
          exact ⟨ret_int He.out.symm, (by repeat (first | with_reducible exact Below.refl _ _ | with_reducible assumption | with_reducible refine below_drewN ?_ _ | with_reducible refine Below.drew ?_ | ((with_reducible refine Below.alloc ?_ ?_ _); rotate_left; (((try simp) <;> (try omega)) <;> done)) | ((with_reducible refine Below.setCell ?_ ?_ _); rotate_left; (((try simp) <;> (try omega)) <;> done)) | ((with_reducible refine Below.trans ?_ (Below.mono (by with_reducible assumption) ?_)); rotate_left; (((try simp) <;> (try omega)) <;> done))))⟩
      · have He := Lib.hid (show ndc inp ns na no = 0 by simp [ndc, h2])
        have g1 : (ns : Int) ≤ 12 := by omega
        have g2 : (300 : Int) < na := by omega
        clear hi
        go_enter Try.func31, Try.ntmps31
        go_wp2_with (first | (go_at_call 63; refine (i_inRange _ _ _ _).mono ?_; rintro e w' ⟨rfl, rfl⟩; rw [Hi.out]))
        go_ret
        exact ⟨ret_int He.out.symm, (by repeat (first | with_reducible exact Below.refl _ _ | with_reducible assumption | with_reducible refine below_drewN ?_ _ | with_reducible refine Below.drew ?_ | ((with_reducible refine Below.alloc ?_ ?_ _); rotate_left; (((try simp) <;> (try omega)) <;> done)) | ((with_reducible refine Below.setCell ?_ ?_ _); rotate_left; (((try simp) <;> (try omega)) <;> done)) | ((with_reducible refine Below.trans ?_ (Below.mono (by with_reducible assumption) ?_)); rotate_left; (((try simp) <;> (try omega)) <;> done))))⟩
    · have He := Lib.hid (show ndc inp ns na no = 0 by simp [ndc, h1])
      have g1 : (12 : Int) < ns := by omega
      clear hi
      go_enter Try.func31, Try.ntmps31
      go_wp2_with (first | (go_at_call 63; refine (i_inRange _ _ _ _).mono ?_; rintro e w' ⟨rfl, rfl⟩; rw [Hi.out]))
      go_ret
      exact ⟨ret_int He.out.symm, (by repeat (first | with_reducible exact Below.refl _ _ | with_reducible assumption | with_reducible refine below_drewN ?_ _ | with_reducible refine Below.drew ?_ | ((with_reducible refine Below.alloc ?_ ?_ _); rotate_left; (((try simp) <;> (try omega)) <;> done)) | ((with_reducible refine Below.setCell ?_ ?_ _); rotate_left; (((try simp) <;> (try omega)) <;> done)) | ((with_reducible refine Below.trans ?_ (Below.mono (by with_reducible assumption) ?_)); rotate_left; (((try simp) <;> (try omega)) <;> done))))⟩
  · have hi : inR inp 0 20 = false := by simpa using hi
    have Hi := Lib.hid hi
    have He := Lib.hid (show ndc inp ns na no = 0 by simp [ndc, hi])
    clear hi
    go_enter Try.func31, Try.ntmps31
    go_wp2_with (first | (go_at_call 63; refine (i_inRange _ _ _ _).mono ?_; rintro e w' ⟨rfl, rfl⟩; rw [Hi.out]))
    go_ret
    exact ⟨ret_int He.out.symm, (by repeat (first | with_reducible exact Below.refl _ _ | with_reducible assumption | with_reducible refine below_drewN ?_ _ | with_reducible refine Below.drew ?_ | ((with_reducible refine Below.alloc ?_ ?_ _); rotate_left; (((try simp) <;> (try omega)) <;> done)) | ((with_reducible refine Below.setCell ?_ ?_ _); rotate_left; (((try simp) <;> (try omega)) <;> done)) | ((with_reducible refine Below.trans ?_ (Below.mono (by with_reducible assumption) ?_)); rotate_left; (((try simp) <;> (try omega)) <;> done))))⟩
set_option maxHeartbeats 2000000 in
theorem s_NodeCount (inp : Int) (As Aa Ao : Option Addr) (ns cs na ca no co : Nat) (w : World) :
    Calls Try.prog 29 #[.agg #[.int .i64 inp, .slice As ns cs, .slice Aa na ca, .slice Ao no co]] w fun e w' => e = .returned (.int .i64 (ndc inp ns na no)) ∧ Below w.heap.size w w' := by
  by_cases hi : inR inp 0 20 = true
  · have hi0 := (inR_iff.1 hi).1
    have hi1 := (inR_iff.1 hi).2
    have Hi := Lib.hid hi
    by_cases h1 : ns ≤ 12
    · by_cases h2 : na ≤ 300
      · by_cases h3 : no ≤ 16
        · have He := Lib.hid (show ndc inp ns na no = 1 + inp + ns + na by simp [ndc, hi, h1, h2, h3])
          have g1 : (ns : Int) ≤ 12 := by omega
          have g2 : (na : Int) ≤ 300 := by omega
          have g3 : (no : Int) ≤ 16 := by omega
          clear hi
          go_enter Try.func29, Try.ntmps29
          go_wp2_with (first | (go_at_call 62; refine (s_l01In _ _ _ _).mono ?_; rintro e w' ⟨rfl, rfl⟩; rw [Hi.out]))
          go_ret
          exact ⟨ret_int He.out.symm, (by repeat (first | with_reducible exact Below.refl _ _ | with_reducible assumption | with_reducible refine below_drewN ?_ _ | with_reducible refine Below.drew ?_ | ((with_reducible refine Below.alloc ?_ ?_ _); rotate_left; (((try simp) <;> (try omega)) <;> done)) | ((with_reducible refine Below.setCell ?_ ?_ _); rotate_left; (((try simp) <;> (try omega)) <;> done)) | ((with_reducible refine Below.trans ?_ (Below.mono (by with_reducible assumption) ?_)); rotate_left; (((try simp) <;> (try omega)) <;> done))))⟩
        · have He := Lib.hid (show ndc inp ns na no = 0 by simp [ndc, h3])
          have g1 : (ns : Int) ≤ 12 := by omega
          have g2 : (na : Int) ≤ 300 := by omega
          have g3 : (16 : Int) < no := by omega
          clear hi
          go_enter Try.func29, Try.ntmps29
          go_wp2_with (first | (go_at_call 62; refine (s_l01In _ _ _ _).mono ?_; rintro e w' ⟨rfl, rfl⟩; rw [Hi.out]))
          go_ret
          exact ⟨ret_int He.out.symm, (by repeat (first | with_reducible exact Below.refl _ _ | with_reducible assumption | with_reducible refine below_drewN ?_ _ | with_reducible refine Below.drew ?_ | ((with_reducible refine Below.alloc ?_ ?_ _); rotate_left; (((try simp) <;> (try omega)) <;> done)) | ((with_reducible refine Below.setCell ?_ ?_ _); rotate_left; (((try simp) <;> (try omega)) <;> done)) | ((with_reducible refine Below.trans ?_ (Below.mono (by with_reducible assumption) ?_)); rotate_left; (((try simp) <;> (try omega)) <;> done))))⟩
      · have He := Lib.hid (show ndc inp ns na no = 0 by simp [ndc, h2])
        have g1 : (ns : Int) ≤ 12 := by omega
        have g2 : (300 : Int) < na := by omega
        clear hi
        go_enter Try.func29, Try.ntmps29
        go_wp2_with (first | (go_at_call 62; refine (s_l01In _ _ _ _).mono ?_; rintro e w' ⟨rfl, rfl⟩; rw [Hi.out]))
        go_ret
        exact ⟨ret_int He.out.symm, (by repeat (first | with_reducible exact Below.refl _ _ | with_reducible assumption | with_reducible refine below_drewN ?_ _ | with_reducible refine Below.drew ?_ | ((with_reducible refine Below.alloc ?_ ?_ _); rotate_left; (((try simp) <;> (try omega)) <;> done)) | ((with_reducible refine Below.setCell ?_ ?_ _); rotate_left; (((try simp) <;> (try omega)) <;> done)) | ((with_reducible refine Below.trans ?_ (Below.mono (by with_reducible assumption) ?_)); rotate_left; (((try simp) <;> (try omega)) <;> done))))⟩
    · have He := Lib.hid (show ndc inp ns na no = 0 by simp [ndc, h1])
      have g1 : (12 : Int) < ns := by omega
      clear hi
      go_enter Try.func29, Try.ntmps29
      go_wp2_with (first | (go_at_call 62; refine (s_l01In _ _ _ _).mono ?_; rintro e w' ⟨rfl, rfl⟩; rw [Hi.out]))
      go_ret
      exact ⟨ret_int He.out.symm, (by repeat (first | with_reducible exact Below.refl _ _ | with_reducible assumption | with_reducible refine below_drewN ?_ _ | with_reducible refine Below.drew ?_ | ((with_reducible refine Below.alloc ?_ ?_ _); rotate_left; (((try simp) <;> (try omega)) <;> done)) | ((with_reducible refine Below.setCell ?_ ?_ _); rotate_left; (((try simp) <;> (try omega)) <;> done)) | ((with_reducible refine Below.trans ?_ (Below.mono (by with_reducible assumption) ?_)); rotate_left; (((try simp) <;> (try omega)) <;> done))))⟩
  · have hi : inR inp 0 20 = false := by simpa using hi
    have Hi := Lib.hid hi
    have He := Lib.hid (show ndc inp ns na no = 0 by simp [ndc, hi])
    clear hi
    go_enter Try.func29, Try.ntmps29
    go_wp2_with (first | (go_at_call 62; refine (s_l01In _ _ _ _).mono ?_; rintro e w' ⟨rfl, rfl⟩; rw [Hi.out]))
    go_ret
    exact ⟨ret_int He.out.symm, (by repeat (first | with_reducible exact Below.refl _ _ | with_reducible assumption | with_reducible refine below_drewN ?_ _ | with_reducible refine Below.drew ?_ | ((with_reducible refine Below.alloc ?_ ?_ _); rotate_left; (((try simp) <;> (try omega)) <;> done)) | ((with_reducible refine Below.setCell ?_ ?_ _); rotate_left; (((try simp) <;> (try omega)) <;> done)) | ((with_reducible refine Below.trans ?_ (Below.mono (by with_reducible assumption) ?_)); rotate_left; (((try simp) <;> (try omega)) <;> done))))⟩
end Go.Proofs.Ytimccjpggcgklaa

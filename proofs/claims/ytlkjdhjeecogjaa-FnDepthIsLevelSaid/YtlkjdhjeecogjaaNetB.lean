/- Contracts: nets: the size and equality in the laws; the number of nodes. -/
import Derived.Test.YtlkjdhjeecogjaaNetA
namespace Go.Proofs.Ytlkjdhjeecogjaa
open Go.RowKit

def netTot (ss : List Seq3) (ands : List (Int × Int)) (outs : List Int) : Nat := cntSeq ss + ands.length + outs.length
/-- the number of nodes -/
def ndc (inp : Int) (ns na no : Nat) : Int := if inR inp 0 20 && (decide (ns ≤ 12) && (decide (na ≤ 300) && decide (no ≤ 16))) then 1 + inp + ns + na else 0

theorem i_nodeCount (inp : Int) (h0 : 0 ≤ inp) (h20 : inp ≤ 20) (As Aa Ao : Option Addr) (ns cs na ca no co : Nat) (h1 : ns ≤ 12) (h2 : na ≤ 300) (w : World) :
  Calls Try.prog 108 #[.agg #[.int .i64 inp, .slice As ns cs, .slice Aa na ca, .slice Ao no co]] w fun e w' => e = .returned (.int .i64 (1 + inp + ns + na)) ∧ Below w.heap.size w w' := by
 go_enter Try.func108, Try.ntmps108
 go_wp2_with fail
 go_ret
 exact ⟨rfl, bel_⟩
set_option maxHeartbeats 2000000 in
theorem i_NodeCount (inp : Int) (As Aa Ao : Option Addr) (ns cs na ca no co : Nat) (w : World) :
  Calls Try.prog 43 #[.agg #[.int .i64 inp, .slice As ns cs, .slice Aa na ca, .slice Ao no co]] w fun e w' => e = .returned (.int .i64 (ndc inp ns na no)) ∧ Below w.heap.size w w' := by
 by_cases hi : inR inp 0 20 = true
 ·have hi0 := (inR_iff.1 hi).1
  have hi1 := (inR_iff.1 hi).2
  have Hi := Lib.hid hi
  by_cases h1 : ns ≤ 12
  ·by_cases h2 : na ≤ 300
   ·by_cases h3 : no ≤ 16
    ·have He := Lib.hid (show ndc inp ns na no = 1 + inp + ns + na by simp [ndc, hi, h1, h2, h3])
     have g1 : (ns : Int) ≤ 12 := by omega
     have g2 : (na : Int) ≤ 300 := by omega
     have g3 : (no : Int) ≤ 16 := by omega
     clear hi
     go_enter Try.func43, Try.ntmps43
     go_wp2_with (first | (go_at_call 80; refine (i_inRange _ _ _ _).mono ?_; rintro e w' ⟨rfl, rfl⟩; rw [Hi.out]))
     refine (i_nodeCount inp hi0 hi1 _ _ _ _ _ _ _ _ _ h1 h2 _).mono ?_
     rintro e w1 ⟨rfl, hb1⟩
     go_wp2_with fail
     go_ret
     exact ⟨ret_int He.out.symm, bel_⟩
    ·have He := Lib.hid (show ndc inp ns na no = 0 by simp [ndc, h3])
     have g1 : (ns : Int) ≤ 12 := by omega
     have g2 : (na : Int) ≤ 300 := by omega
     have g3 : (16 : Int) < no := by omega
     clear hi
     go_enter Try.func43, Try.ntmps43
     go_wp2_with (first | (go_at_call 80; refine (i_inRange _ _ _ _).mono ?_; rintro e w' ⟨rfl, rfl⟩; rw [Hi.out]))
     go_ret
     exact ⟨ret_int He.out.symm, bel_⟩
   ·have He := Lib.hid (show ndc inp ns na no = 0 by simp [ndc, h2])
    have g1 : (ns : Int) ≤ 12 := by omega
    have g2 : (300 : Int) < na := by omega
    clear hi
    go_enter Try.func43, Try.ntmps43
    go_wp2_with (first | (go_at_call 80; refine (i_inRange _ _ _ _).mono ?_; rintro e w' ⟨rfl, rfl⟩; rw [Hi.out]))
    go_ret
    exact ⟨ret_int He.out.symm, bel_⟩
  ·have He := Lib.hid (show ndc inp ns na no = 0 by simp [ndc, h1])
   have g1 : (12 : Int) < ns := by omega
   clear hi
   go_enter Try.func43, Try.ntmps43
   go_wp2_with (first | (go_at_call 80; refine (i_inRange _ _ _ _).mono ?_; rintro e w' ⟨rfl, rfl⟩; rw [Hi.out]))
   go_ret
   exact ⟨ret_int He.out.symm, bel_⟩
 ·have hi : inR inp 0 20 = false := by simpa using hi
  have Hi := Lib.hid hi
  have He := Lib.hid (show ndc inp ns na no = 0 by simp [ndc, hi])
  clear hi
  go_enter Try.func43, Try.ntmps43
  go_wp2_with (first | (go_at_call 80; refine (i_inRange _ _ _ _).mono ?_; rintro e w' ⟨rfl, rfl⟩; rw [Hi.out]))
  go_ret
  exact ⟨ret_int He.out.symm, bel_⟩
set_option maxHeartbeats 2000000 in
theorem s_NodeCount (inp : Int) (As Aa Ao : Option Addr) (ns cs na ca no co : Nat) (w : World) :
  Calls Try.prog 42 #[.agg #[.int .i64 inp, .slice As ns cs, .slice Aa na ca, .slice Ao no co]] w fun e w' => e = .returned (.int .i64 (ndc inp ns na no)) ∧ Below w.heap.size w w' := by
 by_cases hi : inR inp 0 20 = true
 ·have hi0 := (inR_iff.1 hi).1
  have hi1 := (inR_iff.1 hi).2
  have Hi := Lib.hid hi
  by_cases h1 : ns ≤ 12
  ·by_cases h2 : na ≤ 300
   ·by_cases h3 : no ≤ 16
    ·have He := Lib.hid (show ndc inp ns na no = 1 + inp + ns + na by simp [ndc, hi, h1, h2, h3])
     have g1 : (ns : Int) ≤ 12 := by omega
     have g2 : (na : Int) ≤ 300 := by omega
     have g3 : (no : Int) ≤ 16 := by omega
     clear hi
     go_enter Try.func42, Try.ntmps42
     go_wp2_with (first | (go_at_call 85; refine (s_l01In _ _ _ _).mono ?_; rintro e w' ⟨rfl, rfl⟩; rw [Hi.out]))
     go_ret
     exact ⟨ret_int He.out.symm, bel_⟩
    ·have He := Lib.hid (show ndc inp ns na no = 0 by simp [ndc, h3])
     have g1 : (ns : Int) ≤ 12 := by omega
     have g2 : (na : Int) ≤ 300 := by omega
     have g3 : (16 : Int) < no := by omega
     clear hi
     go_enter Try.func42, Try.ntmps42
     go_wp2_with (first | (go_at_call 85; refine (s_l01In _ _ _ _).mono ?_; rintro e w' ⟨rfl, rfl⟩; rw [Hi.out]))
     go_ret
     exact ⟨ret_int He.out.symm, bel_⟩
   ·have He := Lib.hid (show ndc inp ns na no = 0 by simp [ndc, h2])
    have g1 : (ns : Int) ≤ 12 := by omega
    have g2 : (300 : Int) < na := by omega
    clear hi
    go_enter Try.func42, Try.ntmps42
    go_wp2_with (first | (go_at_call 85; refine (s_l01In _ _ _ _).mono ?_; rintro e w' ⟨rfl, rfl⟩; rw [Hi.out]))
    go_ret
    exact ⟨ret_int He.out.symm, bel_⟩
  ·have He := Lib.hid (show ndc inp ns na no = 0 by simp [ndc, h1])
   have g1 : (12 : Int) < ns := by omega
   clear hi
   go_enter Try.func42, Try.ntmps42
   go_wp2_with (first | (go_at_call 85; refine (s_l01In _ _ _ _).mono ?_; rintro e w' ⟨rfl, rfl⟩; rw [Hi.out]))
   go_ret
   exact ⟨ret_int He.out.symm, bel_⟩
 ·have hi : inR inp 0 20 = false := by simpa using hi
  have Hi := Lib.hid hi
  have He := Lib.hid (show ndc inp ns na no = 0 by simp [ndc, hi])
  clear hi
  go_enter Try.func42, Try.ntmps42
  go_wp2_with (first | (go_at_call 85; refine (s_l01In _ _ _ _).mono ?_; rintro e w' ⟨rfl, rfl⟩; rw [Hi.out]))
  go_ret
  exact ⟨ret_int He.out.symm, bel_⟩
end Go.Proofs.Ytlkjdhjeecogjaa

/- Plain: the lines of a module; contracts of the words in them. -/
import Derived.Test.YtolndlmhbnpmeaaDoorOpt
import Derived.Test.YtolndlmhbnpmeaaDoorModuleD
import Derived.Outline
namespace Go.Proofs.YtolndlmhbnpmeaaDoor
open Go.RowKit

def widW (w : Int) : List UInt8 := if w = 0 then [87] else Tx.fmtI w
def sigW (s : Int) : List UInt8 := 115 :: Tx.fmtI s
def kindW (k : Int) : List UInt8 := if k = 0 then [105, 110] else if k = 1 then [111, 117, 116] else if k = 2 then [119, 105, 114, 101] else [114, 101, 103]
def sgLine (x : TSignal) : List UInt8 := kindW x.1 ++ ([32] ++ (widW x.2.1 ++ (if x.1 = 3 then [32] ++ Tx.fmtI x.2.2 else [])))
def asgLine (a : TAssign) : List UInt8 := [115, 101, 116, 32] ++ (sigW a.1 ++ a.2.flatMap fun o => [32] ++ opTxR o.1 o.2.1 o.2.2)
def insLine (x : TInst) : List UInt8 := [117, 115, 101, 32, 109] ++ (Tx.fmtI x.1 ++ ([32] ++ (widW x.2.1 ++ x.2.2.flatMap fun p => [32] ++ sigW p)))
def memLine (x : TMem) : List UInt8 := [109, 101, 109, 32] ++ (sigW x.1 ++ ([32] ++ (sigW x.2.1 ++ ([32] ++ (sigW x.2.2.1 ++ ([32] ++ sigW x.2.2.2))))))
/-- the lines of a valid module -/
def fmtML (m : TModule) : List (List UInt8) := [[109, 111, 100, 117, 108, 101]] ++ (m.1.map sgLine ++ (m.2.1.map asgLine ++ (m.2.2.1.map insLine ++ (m.2.2.2.map memLine ++ [[101, 110, 100]]))))
theorem widW_len (w : Int) : (widW w).length ≤ 21 := by
 unfold widW
 split
 ·decide
 ·exact Tx.fmtI_len w
theorem sigW_len (s : Int) : (sigW s).length ≤ 22 := by
 have := Tx.fmtI_len s
 simp [sigW]
 omega
theorem i_signalWord (x : Int) (hx : i64B x) (w : World) : Calls Tryd.prog 39 #[.int .i64 x] w fun e w' => e = .returned (.string ⟨(sigW x).toArray⟩) ∧ Below w.heap.size w w' := by
 have hl := Tx.fmtI_len x
 have hsum1 : (1 : Int) + ((Tx.fmtI x).length : Int) ≤ 8388608 := by omega
 go_enter Tryd.func39, Tryd.ntmps39
 go_wp2_with fail
 refine (i_FormatInt x hx w).mono ?_
 rintro e w1 ⟨rfl, hb1⟩
 go_wp2_with fail
 go_ret
 exact ⟨by rw [show sigW x = [115] ++ Tx.fmtI x from rfl, ← cat_two]; rfl, hb1⟩
theorem i_widthWord (x : Int) (hx : i64B x) (w : World) : Calls Tryd.prog 42 #[.int .i64 x] w fun e w' => e = .returned (.string ⟨(widW x).toArray⟩) ∧ Below w.heap.size w w' := by
 by_cases h0 : x = 0
 ·subst h0
  go_enter Tryd.func42, Tryd.ntmps42
  go_wp2_with fail
  go_ret
  exact ⟨rfl, Below.refl _ _⟩
 ·have H0 := Lib.hid (show widW x = Tx.fmtI x by unfold widW; rw [if_neg h0])
  have h0' : (x == 0) = false := by simpa using h0
  go_enter Tryd.func42, Tryd.ntmps42
  go_wp2_with fail
  refine (i_FormatInt x hx w).mono ?_
  rintro e w1 ⟨rfl, hb1⟩
  go_wp2_with fail
  go_ret
  exact ⟨by rw [H0.out]; rfl, hb1⟩
end Go.Proofs.YtolndlmhbnpmeaaDoor

/- Words and contracts that later texts use. -/
import Derived.Test.YthjdigcpgpiiiaaDoorFmq
import Derived.Test.YthjdigcpgpiiiaaDoorGk
import Derived.Test.YthjdigcpgpiiiaaDoorGh
import Derived.Outline
import Derived.Test.YthjdigcpgpiiiaaDoorModE
/- Plain: the fields of a design's lines, and both readings of them. -/
namespace Go.Proofs.YthjdigcpgpiiiaaDoor
open Go.RowKit

abbrev Wd8 := List UInt8
def wMod : Wd8 := [109, 111, 100, 117, 108, 101]
def wEnd : Wd8 := [101, 110, 100]
def wSet : Wd8 := [115, 101, 116]
def wUse : Wd8 := [117, 115, 101]
def wMem : Wd8 := [109, 101, 109]
/-- fields, joined by single spaces -/
def joinW : List Wd8 → Wd8
 | [] => []
 | f :: fs => f ++ fs.flatMap fun g => 32 :: g
def sgF (x : TSignal) : List Wd8 := [kindW x.1, widW x.2.1] ++ (if x.1 = 3 then [Tx.fmtI x.2.2] else [])
def asgF (a : TAssign) : List Wd8 := [wSet, sigW a.1] ++ a.2.map fun o => opTxR o.1 o.2.1 o.2.2
def insF (x : TInst) : List Wd8 := [wUse, 109 :: Tx.fmtI x.1, widW x.2.1] ++ x.2.2.map sigW
def memF (x : TMem) : List Wd8 := [wMem, sigW x.1, sigW x.2.1, sigW x.2.2.1, sigW x.2.2.2]
/-- the lines of a module, as fields -/
def fmF (m : TModule) : List (List Wd8) := [[wMod]] ++ (m.1.map sgF ++ (m.2.1.map asgF ++ (m.2.2.1.map insF ++ (m.2.2.2.map memF ++ [[wEnd]]))))
theorem flat_map32 {α : Type} (g : α → Wd8) (l : List α) : (l.map g).flatMap (fun x => (32 : UInt8) :: x) = l.flatMap fun x => [32] ++ g x := by
 rw [List.flatMap_map]
 rfl
theorem sgF_join (x : TSignal) : joinW (sgF x) = sgLine x := by
 unfold sgF sgLine joinW
 by_cases h : x.1 = 3 <;> simp [h]
theorem asgF_join (a : TAssign) : joinW (asgF a) = asgLine a := by
 unfold asgF asgLine wSet
 simp only [joinW, List.cons_append, List.nil_append, List.flatMap_cons, flat_map32]
theorem insF_join (x : TInst) : joinW (insF x) = insLine x := by
 unfold insF insLine wUse
 simp only [joinW, List.cons_append, List.nil_append, List.flatMap_cons, flat_map32]
theorem memF_join (x : TMem) : joinW (memF x) = memLine x := by
 unfold memF memLine wMem
 simp only [joinW, List.cons_append, List.nil_append, List.flatMap_cons, List.flatMap_nil, List.append_nil]
theorem fmF_join (m : TModule) : (fmF m).map joinW = fmtML m := by
 unfold fmF fmtML
 simp only [List.map_append, List.map_map]
 congr 1
 congr 1
 ·exact List.map_congr_left fun x _ => sgF_join x
 congr 1
 ·exact List.map_congr_left fun x _ => asgF_join x
 congr 1
 ·exact List.map_congr_left fun x _ => insF_join x
 congr 1
 ·exact List.map_congr_left fun x _ => memF_join x

/-! ### words -/
/-- a field: one byte at least, none a space, all printable -/
def wOk (l : Wd8) : Bool := !l.isEmpty && l.all fun c => decide (33 ≤ c.toNat ∧ c.toNat ≤ 126)
theorem num_chk : ((List.range 31).all fun n => wOk (Tx.fmtI (n : Int)) && wOk (sigW (n : Int)) && wOk (109 :: Tx.fmtI (n : Int)) && wOk (widW (n : Int)) && decide (pv (Tx.fmtI (n : Int)) = n ∧ (Tx.fmtI (n : Int)).length ≤ 2 ∧ (n = 0 ∨ Tx.fmtI (n : Int) ≠ [87]) ∧ tlS (sigW (n : Int)) = n ∧ tlS (109 :: Tx.fmtI (n : Int)) = n)) = true := by decide +kernel
theorem num_ok {n : Int} (h0 : 0 ≤ n) (h1 : n ≤ 30) : wOk (Tx.fmtI n) = true ∧ wOk (sigW n) = true ∧ wOk (109 :: Tx.fmtI n) = true ∧ wOk (widW n) = true ∧ (pv (Tx.fmtI n) : Int) = n ∧ (Tx.fmtI n).length ≤ 2 ∧ tlS (sigW n) = n ∧ tlS (109 :: Tx.fmtI n) = n := by
 obtain ⟨k, rfl⟩ := Int.eq_ofNat_of_zero_le h0
 have h := List.all_eq_true.1 num_chk k (List.mem_range.2 (by omega))
 simp only [Bool.and_eq_true, decide_eq_true_eq] at h
 obtain ⟨⟨⟨⟨a1, a2⟩, a3⟩, a4⟩, a5, a6, a7, a8, a9⟩ := h
 exact ⟨a1, a2, a3, a4, by rw [show (Tx.fmtI ((k : Nat) : Int)) = Tx.fmtI (k : Int) from rfl, a5], a6, a8, a9⟩
theorem op_chk : allOps (fun k a b => wOk (opTx k a b) && decide ((opTx k a b).length ≤ 5)) = true := by decide +kernel
theorem op_ok {k a b : Int} (h : opB k a b 30 = true) : wOk (opTx k a b) = true ∧ (opTx k a b).length ≤ 5 := by
 obtain ⟨h0, h1, h2, h3, h4, h5⟩ := opB_bd h
 obtain ⟨k, rfl⟩ := Int.eq_ofNat_of_zero_le h0
 obtain ⟨a, rfl⟩ := Int.eq_ofNat_of_zero_le h2
 obtain ⟨b, rfl⟩ := Int.eq_ofNat_of_zero_le h4
 have h := allOps_at op_chk (k := k) (a := a) (b := b) (by omega) (by omega) (by omega) h
 simp only [Bool.and_eq_true, decide_eq_true_eq] at h
 exact h
theorem opTxR_ok {k a b : Int} (h : opB k a b 30 = true) : opTxR k a b = opTx k a b := by unfold opTxR; rw [if_pos h]
end Go.Proofs.YthjdigcpgpiiiaaDoor

/- Plain: a design read out of its lines, as the program reads it and as the reference does: both find the same. -/
namespace Go.Proofs.YthjdigcpgpiiiaaDoor
open Go.RowKit

def at0 (f : List Wd8) (i : Nat) : Wd8 := f.getD i []
def noMod : TModule := ([], [], [], [])
def nA (l : Wd8) : Int := (pv l.tail : Int)
/-- the program: what a line says to a module -/
def rdLnI (m : TModule) (f : List Wd8) : TModule :=
 if at0 f 0 = kindW 0 then (m.1 ++ [(0, (pv (at0 f 1) : Int), 0)], m.2)
 else if at0 f 0 = kindW 1 then (m.1 ++ [(1, (pv (at0 f 1) : Int), 0)], m.2)
 else if at0 f 0 = kindW 2 then (m.1 ++ [(2, (pv (at0 f 1) : Int), 0)], m.2)
 else if at0 f 0 = kindW 3 then (m.1 ++ [(3, (pv (at0 f 1) : Int), (pv (at0 f 2) : Int))], m.2)
 else if at0 f 0 = wSet then (m.1, m.2.1 ++ [(nA (at0 f 1), (f.drop 2).map rdI)], m.2.2)
 else if at0 f 0 = wUse then (m.1, m.2.1, m.2.2.1 ++ [(nA (at0 f 1), (pv (at0 f 2) : Int), (f.drop 3).map nA)], m.2.2.2)
 else if at0 f 0 = wMem then (m.1, m.2.1, m.2.2.1, m.2.2.2 ++ [(nA (at0 f 1), nA (at0 f 2), nA (at0 f 3), nA (at0 f 4))])
 else m
def rdDI (d : TDesign) (f : List Wd8) : TDesign :=
 if at0 f 0 = wMod then d ++ [noMod] else match d.getLast? with | none => d | some m => d.dropLast ++ [rdLnI m f]
def rdAllI (fl : List (List Wd8)) : TDesign := fl.foldl rdDI []
/-- the reference -/
def szS (l : Wd8) : Int := if l = [87] then 0 else match Tx.pu l with | some n => (n : Int) | none => -1
def kdS (l : Wd8) : Int := if l = kindW 3 then 3 else if l = kindW 2 then 2 else if l = kindW 1 then 1 else if l = kindW 0 then 0 else -1
def rdLnS (m : TModule) (f : List Wd8) : Option TModule :=
 if 0 ≤ kdS (at0 f 0) ∧ (f.length : Int) = 2 + (kdS (at0 f 0)).tdiv 3 then some (m.1 ++ [(kdS (at0 f 0), szS (at0 f 1), if kdS (at0 f 0) = 3 then (pv (at0 f 2) : Int) else 0)], m.2)
 else if at0 f 0 = wSet ∧ 2 < f.length then
  (if (f.drop 2).all (fun w => (opPR w).2) then some (m.1, m.2.1 ++ [(tlS (at0 f 1), (f.drop 2).map fun w => (opPR w).1)], m.2.2) else none)
 else if at0 f 0 = wUse ∧ 2 < f.length then some (m.1, m.2.1, m.2.2.1 ++ [(tlS (at0 f 1), szS (at0 f 2), (f.drop 3).map tlS)], m.2.2.2)
 else if at0 f 0 = wMem ∧ f.length = 5 then some (m.1, m.2.1, m.2.2.1, m.2.2.2 ++ [(tlS (at0 f 1), tlS (at0 f 2), tlS (at0 f 3), tlS (at0 f 4))])
 else none
/-- what has been read: the modules, the open one, is it open -/
abbrev RdSt := TDesign × TModule × Bool
def stS (s : RdSt) (f : List Wd8) : Option RdSt :=
 if joinW f = wMod ∧ s.2.2 = false then some (s.1, noMod, true)
 else if joinW f = wEnd ∧ s.2.2 = true then some (s.1 ++ [s.2.1], s.2.1, false)
 else if s.2.2 = true then (rdLnS s.2.1 f).map fun x => (s.1, x, true)
 else none
def rdAllS : RdSt → List (List Wd8) → Option RdSt
 | s, [] => some s
 | s, f :: fl => match stS s f with | none => none | some t => rdAllS t fl
theorem rdAllS_app (s : RdSt) (a b : List (List Wd8)) : rdAllS s (a ++ b) = (rdAllS s a).bind fun t => rdAllS t b := by
 induction a generalizing s with
 | nil => rfl
 | cons f a ih =>
  simp only [List.cons_append, rdAllS]
  cases stS s f with
  | none => rfl
  | some t => exact ih t
def fldsD (d : TDesign) : List (List Wd8) := d.flatMap fmF
theorem fldsD_join (d : TDesign) : (fldsD d).map joinW = linesD d := by
 unfold fldsD linesD
 rw [List.map_flatMap]
 congr 1
 funext m
 exact fmF_join m
/-- what both return for the fields of the lines -/
def parsI (fl : List (List Wd8)) : Option TDesign := if designB (rdAllI fl) = true ∧ linesD (rdAllI fl) = fl.map joinW then some (rdAllI fl) else none
def parsS (fl : List (List Wd8)) : Option TDesign := match rdAllS ([], noMod, false) fl with
 | none => none
 | some s => if s.2.2 = false ∧ designB s.1 = true ∧ linesD s.1 = fl.map joinW then some s.1 else none

/-! ### a valid design's lines -/
theorem wid_chk : ((List.range 5).all fun n => decide (pv (widW (n : Int)) = n ∧ szS (widW (n : Int)) = n)) = true := by decide +kernel
theorem wid_ok {n : Int} (h0 : 0 ≤ n) (h1 : n ≤ 4) : (pv (widW n) : Int) = n ∧ szS (widW n) = n := by
 obtain ⟨k, rfl⟩ := Int.eq_ofNat_of_zero_le h0
 have h := of_decide_eq_true (List.all_eq_true.1 wid_chk k (List.mem_range.2 (by omega)))
 exact ⟨by rw [show widW ((k : Nat) : Int) = widW (k : Int) from rfl, h.1], h.2⟩
theorem nA_sig {n : Int} (h0 : 0 ≤ n) (h1 : n ≤ 30) : nA (sigW n) = n := (num_ok h0 h1).2.2.2.2.1
theorem nA_m {n : Int} (h0 : 0 ≤ n) (h1 : n ≤ 30) : nA (109 :: Tx.fmtI n) = n := (num_ok h0 h1).2.2.2.2.1
theorem kind_cases {k : Int} (h0 : 0 ≤ k) (h1 : k ≤ 3) : k = 0 ∨ k = 1 ∨ k = 2 ∨ k = 3 := by omega
section
variable {m m' : TModule}
theorem rdI_sig (hm : LinesOk m) {x : TSignal} (hx : x ∈ m.1) : rdLnI m' (sgF x) = (m'.1 ++ [x], m'.2) := by
 obtain ⟨h0, h1, h2, h3, h4, h5⟩ := hm.sig x hx
 have hi := hm.sgi x hx
 obtain ⟨k, wd, vl⟩ := x
 simp only at h0 h1 h2 h3 h4 h5 hi
 have e1 := (wid_ok h2 h3).1
 have e2 := (num_ok (n := vl) h4 (by omega)).2.2.2.2.1
 rcases kind_cases h0 h1 with rfl | rfl | rfl | rfl
 ·have := hi (by decide); subst this; simp [rdLnI, sgF, at0, kindW, e1]
 ·have := hi (by decide); subst this; simp [rdLnI, sgF, at0, kindW, e1]
 ·have := hi (by decide); subst this; simp [rdLnI, sgF, at0, kindW, e1]
 ·simp [rdLnI, sgF, at0, kindW, e1, e2]
theorem rdS_sig (hm : LinesOk m) {x : TSignal} (hx : x ∈ m.1) : rdLnS m' (sgF x) = some (m'.1 ++ [x], m'.2) := by
 obtain ⟨h0, h1, h2, h3, h4, h5⟩ := hm.sig x hx
 have hi := hm.sgi x hx
 obtain ⟨k, wd, vl⟩ := x
 simp only at h0 h1 h2 h3 h4 h5 hi
 have e1 := (wid_ok h2 h3).2
 have e2 := (num_ok (n := vl) h4 (by omega)).2.2.2.2.1
 rcases kind_cases h0 h1 with rfl | rfl | rfl | rfl
 ·have := hi (by decide); subst this; simp [rdLnS, kdS, sgF, at0, kindW, e1]
 ·have := hi (by decide); subst this; simp [rdLnS, kdS, sgF, at0, kindW, e1]
 ·have := hi (by decide); subst this; simp [rdLnS, kdS, sgF, at0, kindW, e1]
 ·simp [rdLnS, kdS, sgF, at0, kindW, e1, e2]
theorem ops_map (hm : LinesOk m) {a : TAssign} (ha : a ∈ m.2.1) (g : Wd8 → TOp) (hg : ∀ k x y : Int, opB k x y 30 = true → g (opTx k x y) = (k, x, y)) : (a.2.map fun o => opTxR o.1 o.2.1 o.2.2).map g = a.2 := by
 rw [List.map_map]
 refine (List.map_congr_left fun o ho => ?_).trans (List.map_id _)
 have h := (hm.ops a ha).2 o ho
 show g (opTxR o.1 o.2.1 o.2.2) = o
 rw [opTxR_ok h, hg _ _ _ h]
theorem rdI_asg (hm : LinesOk m) {a : TAssign} (ha : a ∈ m.2.1) : rdLnI m' (asgF a) = (m'.1, m'.2.1 ++ [a], m'.2.2) := by
 obtain ⟨h0, h1, h2⟩ := hm.asg a ha
 have e1 := nA_sig h0 h1
 have e2 := ops_map hm ha rdI (fun k x y h => rdI_op h)
 have hd : (asgF a).drop 2 = a.2.map fun o => opTxR o.1 o.2.1 o.2.2 := rfl
 have h3 : at0 (asgF a) 0 = wSet := rfl
 have h4 : at0 (asgF a) 1 = sigW a.1 := rfl
 unfold rdLnI
 rw [h3, h4, hd, e1, e2]
 rfl
theorem rdS_asg (hm : LinesOk m) {a : TAssign} (ha : a ∈ m.2.1) : rdLnS m' (asgF a) = some (m'.1, m'.2.1 ++ [a], m'.2.2) := by
 obtain ⟨h0, h1, h2⟩ := hm.asg a ha
 have e1 := (num_ok h0 h1).2.2.2.2.2.2.1
 have e2 := ops_map hm ha (fun w => (opPR w).1) (fun k x y h => by rw [opPR_yes h rfl])
 have hd : (asgF a).drop 2 = a.2.map fun o => opTxR o.1 o.2.1 o.2.2 := rfl
 have h3 : at0 (asgF a) 0 = wSet := rfl
 have h4 : at0 (asgF a) 1 = sigW a.1 := rfl
 have h5 : ((asgF a).drop 2).all (fun w => (opPR w).2) = true := by
  rw [hd, List.all_map, List.all_eq_true]
  intro o ho
  have h := (hm.ops a ha).2 o ho
  show (opPR (opTxR o.1 o.2.1 o.2.2)).2 = true
  rw [opTxR_ok h, opPR_yes h rfl]
 have h6 : 2 < (asgF a).length := by
  have := (hm.ops a ha).1
  simp [asgF]
  omega
 unfold rdLnS
 rw [h3, h4, if_neg (by simp [kdS, kindW, wSet]), if_pos ⟨rfl, h6⟩, if_pos h5, hd, e1, e2]
theorem ports_map (hm : LinesOk m) {x : TInst} (hx : x ∈ m.2.2.1) (g : Wd8 → Int) (hg : ∀ n : Int, 0 ≤ n → n ≤ 30 → g (sigW n) = n) : (x.2.2.map sigW).map g = x.2.2 := by
 rw [List.map_map]
 refine (List.map_congr_left fun p hp => ?_).trans (List.map_id _)
 have h := (hm.ins x hx).2.2.2.2.2 p hp
 exact hg p h.1 h.2
theorem rdI_ins (hm : LinesOk m) {x : TInst} (hx : x ∈ m.2.2.1) : rdLnI m' (insF x) = (m'.1, m'.2.1, m'.2.2.1 ++ [x], m'.2.2.2) := by
 obtain ⟨h0, h1, h2, h3, h4, h5⟩ := hm.ins x hx
 have e1 := nA_m h0 h1
 have e2 := ports_map hm hx nA (fun n a b => nA_sig a b)
 have e3 := (wid_ok h2 h3).1
 have hd : (insF x).drop 3 = x.2.2.map sigW := rfl
 have g0 : at0 (insF x) 0 = wUse := rfl
 have g1 : at0 (insF x) 1 = 109 :: Tx.fmtI x.1 := rfl
 have g2 : at0 (insF x) 2 = widW x.2.1 := rfl
 unfold rdLnI
 rw [g0, g1, g2, hd, e1, e2, e3]
 rfl
theorem rdS_ins (hm : LinesOk m) {x : TInst} (hx : x ∈ m.2.2.1) : rdLnS m' (insF x) = some (m'.1, m'.2.1, m'.2.2.1 ++ [x], m'.2.2.2) := by
 obtain ⟨h0, h1, h2, h3, h4, h5⟩ := hm.ins x hx
 have e1 := (num_ok h0 h1).2.2.2.2.2.2.2
 have e2 := ports_map hm hx tlS (fun n a b => (num_ok a b).2.2.2.2.2.2.1)
 have e3 := (wid_ok h2 h3).2
 have hd : (insF x).drop 3 = x.2.2.map sigW := rfl
 have g0 : at0 (insF x) 0 = wUse := rfl
 have g1 : at0 (insF x) 1 = 109 :: Tx.fmtI x.1 := rfl
 have g2 : at0 (insF x) 2 = widW x.2.1 := rfl
 have g3 : 2 < (insF x).length := by simp [insF]
 unfold rdLnS
 rw [g0, g1, g2, hd, e1, e2, e3, if_neg (by simp [kdS, kindW, wUse]), if_neg (by simp [wUse, wSet]), if_pos ⟨rfl, g3⟩]
theorem rdI_mem (hm : LinesOk m) {x : TMem} (hx : x ∈ m.2.2.2) : rdLnI m' (memF x) = (m'.1, m'.2.1, m'.2.2.1, m'.2.2.2 ++ [x]) := by
 obtain ⟨h0, h1, h2, h3, h4, h5, h6, h7⟩ := hm.mem x hx
 have e1 := nA_sig h0 h1
 have e2 := nA_sig h2 h3
 have e3 := nA_sig h4 h5
 have e4 := nA_sig h6 h7
 have g0 : at0 (memF x) 0 = wMem := rfl
 have g1 : at0 (memF x) 1 = sigW x.1 := rfl
 have g2 : at0 (memF x) 2 = sigW x.2.1 := rfl
 have g3 : at0 (memF x) 3 = sigW x.2.2.1 := rfl
 have g4 : at0 (memF x) 4 = sigW x.2.2.2 := rfl
 unfold rdLnI
 rw [g0, g1, g2, g3, g4, e1, e2, e3, e4]
 rfl
theorem rdS_mem (hm : LinesOk m) {x : TMem} (hx : x ∈ m.2.2.2) : rdLnS m' (memF x) = some (m'.1, m'.2.1, m'.2.2.1, m'.2.2.2 ++ [x]) := by
 obtain ⟨h0, h1, h2, h3, h4, h5, h6, h7⟩ := hm.mem x hx
 have e1 := (num_ok h0 h1).2.2.2.2.2.2.1
 have e2 := (num_ok h2 h3).2.2.2.2.2.2.1
 have e3 := (num_ok h4 h5).2.2.2.2.2.2.1
 have e4 := (num_ok h6 h7).2.2.2.2.2.2.1
 have g0 : at0 (memF x) 0 = wMem := rfl
 have g1 : at0 (memF x) 1 = sigW x.1 := rfl
 have g2 : at0 (memF x) 2 = sigW x.2.1 := rfl
 have g3 : at0 (memF x) 3 = sigW x.2.2.1 := rfl
 have g4 : at0 (memF x) 4 = sigW x.2.2.2 := rfl
 have g5 : (memF x).length = 5 := rfl
 unfold rdLnS
 rw [g0, g1, g2, g3, g4, e1, e2, e3, e4, if_neg (by simp [kdS, kindW, wMem]), if_neg (by simp [wMem, wSet]), if_neg (by simp [wMem, wUse]), if_pos ⟨rfl, g5⟩]
end
/-- lines that belong to the last module -/
theorem rdDI_in {d : TDesign} {m : TModule} {f : List Wd8} (h : at0 f 0 ≠ wMod) : rdDI (d ++ [m]) f = d ++ [rdLnI m f] := by
 unfold rdDI
 rw [if_neg h]
 simp
theorem foldI {α : Type} (g : α → List Wd8) (put : TModule → List α → TModule) (hput : ∀ m l x, put m (l ++ [x]) = put (put m l) [x]) (hnil : ∀ m, put m [] = m) (d : TDesign) : ∀ (l : List α) (m : TModule),
  (∀ x ∈ l, at0 (g x) 0 ≠ wMod) → (∀ m', ∀ x ∈ l, rdLnI m' (g x) = put m' [x]) → (l.map g).foldl rdDI (d ++ [m]) = d ++ [put m l] := by
 intro l
 induction l using Tx.snoc_ind with
 | nil => intro m _ _; simp [hnil]
 | snoc l x ih =>
  intro m h1 h2
  rw [List.map_append, List.foldl_append, ih m (fun y hy => h1 y (by simp [hy])) (fun m' y hy => h2 m' y (by simp [hy])), List.map_singleton, List.foldl_cons, List.foldl_nil, rdDI_in (h1 x (by simp)), h2 _ x (by simp), ← hput]
theorem foldS {α : Type} (g : α → List Wd8) (put : TModule → List α → TModule) (hput : ∀ m l x, put m (l ++ [x]) = put (put m l) [x]) (hnil : ∀ m, put m [] = m) (d : TDesign) : ∀ (l : List α) (m : TModule),
  (∀ x ∈ l, joinW (g x) ≠ wMod ∧ joinW (g x) ≠ wEnd) → (∀ m', ∀ x ∈ l, rdLnS m' (g x) = some (put m' [x])) → rdAllS (d, m, true) (l.map g) = some (d, put m l, true) := by
 intro l
 induction l using Tx.snoc_ind with
 | nil => intro m _ _; simp [rdAllS, hnil]
 | snoc l x ih =>
  intro m h1 h2
  rw [List.map_append, rdAllS_app, ih m (fun y hy => h1 y (by simp [hy])) (fun m' y hy => h2 m' y (by simp [hy]))]
  have h3 := h1 x (by simp)
  simp only [Option.bind_some, List.map_singleton, rdAllS, stS]
  rw [if_neg (fun h => h3.1 h.1), if_neg (fun h => h3.2 h.1), if_pos trivial, h2 _ x (by simp), ← hput]
  rfl
end Go.Proofs.YthjdigcpgpiiiaaDoor

/- Plain: both readings of a design's lines find the same. -/
namespace Go.Proofs.YthjdigcpgpiiiaaDoor
open Go.RowKit

theorem join_sp (a b : Wd8) (l : List Wd8) : (32 : UInt8) ∈ joinW (a :: b :: l) := by simp [joinW]
theorem join_two {a b : Wd8} {l : List Wd8} {f : List Wd8} (hf : f = a :: b :: l) : joinW f ≠ wMod ∧ joinW f ≠ wEnd := by
 have h := join_sp a b l
 subst hf
 refine ⟨fun e => ?_, fun e => ?_⟩
 ·rw [e] at h; exact absurd h (by decide)
 ·rw [e] at h; exact absurd h (by decide)
theorem kindW_ne (k : Int) : kindW k ≠ wMod := by
 unfold kindW wMod
 repeat (split <;> try decide)
section
variable {m : TModule}
theorem modI (hm : LinesOk m) (d : TDesign) : (fmF m).foldl rdDI d = d ++ [m] := by
 have p1 := foldI sgF (fun m l => (m.1 ++ l, m.2)) (fun m l x => by simp) (fun m => by simp) d m.1 noMod (fun x _ => kindW_ne x.1) (fun m' x hx => rdI_sig hm hx)
 have p2 := foldI asgF (fun m l => (m.1, m.2.1 ++ l, m.2.2)) (fun m l x => by simp) (fun m => by simp) d m.2.1 (m.1, [], [], []) (fun x _ => by show wSet ≠ wMod; decide) (fun m' x hx => rdI_asg hm hx)
 have p3 := foldI insF (fun m l => (m.1, m.2.1, m.2.2.1 ++ l, m.2.2.2)) (fun m l x => by simp) (fun m => by simp) d m.2.2.1 (m.1, m.2.1, [], []) (fun x _ => by show wUse ≠ wMod; decide) (fun m' x hx => rdI_ins hm hx)
 have p4 := foldI memF (fun m l => (m.1, m.2.1, m.2.2.1, m.2.2.2 ++ l)) (fun m l x => by simp) (fun m => by simp) d m.2.2.2 (m.1, m.2.1, m.2.2.1, []) (fun x _ => by show wMem ≠ wMod; decide) (fun m' x hx => rdI_mem hm hx)
 have e0 : rdDI d [wMod] = d ++ [noMod] := if_pos rfl
 have e5 : ∀ m', rdDI (d ++ [m']) [wEnd] = d ++ [m'] := fun m' => by
  rw [rdDI_in (by decide)]
  rfl
 simp only [fmF, List.foldl_append, List.foldl_cons, List.foldl_nil, e0]
 rw [p1]
 simp only [noMod, List.nil_append] at p2 ⊢
 rw [p2]
 simp only [List.nil_append] at p3 ⊢
 rw [p3]
 simp only [List.nil_append] at p4 ⊢
 rw [p4]
 try simp only [List.nil_append]
 exact e5 _
theorem modS (hm : LinesOk m) (d : TDesign) (m0 : TModule) : rdAllS (d, m0, false) (fmF m) = some (d ++ [m], m, false) := by
 have p1 := foldS sgF (fun m l => (m.1 ++ l, m.2)) (fun m l x => by simp) (fun m => by simp) d m.1 noMod (fun x _ => join_two rfl) (fun m' x hx => rdS_sig hm hx)
 have p2 := foldS asgF (fun m l => (m.1, m.2.1 ++ l, m.2.2)) (fun m l x => by simp) (fun m => by simp) d m.2.1 (m.1, [], [], []) (fun x _ => join_two rfl) (fun m' x hx => rdS_asg hm hx)
 have p3 := foldS insF (fun m l => (m.1, m.2.1, m.2.2.1 ++ l, m.2.2.2)) (fun m l x => by simp) (fun m => by simp) d m.2.2.1 (m.1, m.2.1, [], []) (fun x _ => join_two rfl) (fun m' x hx => rdS_ins hm hx)
 have p4 := foldS memF (fun m l => (m.1, m.2.1, m.2.2.1, m.2.2.2 ++ l)) (fun m l x => by simp) (fun m => by simp) d m.2.2.2 (m.1, m.2.1, m.2.2.1, []) (fun x _ => join_two rfl) (fun m' x hx => rdS_mem hm hx)
 have e0 : stS (d, m0, false) [wMod] = some (d, noMod, true) := rfl
 have e5 : ∀ m', stS (d, m', true) [wEnd] = some (d ++ [m'], m', false) := fun m' => rfl
 unfold fmF
 rw [rdAllS_app]
 simp only [rdAllS, e0, Option.bind_some]
 rw [rdAllS_app, p1]
 simp only [noMod, List.nil_append, Option.bind_some] at p2 ⊢
 rw [rdAllS_app, p2]
 simp only [List.nil_append, Option.bind_some] at p3 ⊢
 rw [rdAllS_app, p3]
 simp only [List.nil_append, Option.bind_some] at p4 ⊢
 rw [rdAllS_app, p4]
 simp only [Option.bind_some, rdAllS, e5]
theorem flds_ok (hm : LinesOk m) : ∀ f ∈ fmF m, f ≠ [] ∧ ∀ x ∈ f, wOk x = true := by
 intro f hf
 unfold fmF at hf
 simp only [List.mem_append, List.mem_singleton, List.mem_map] at hf
 rcases hf with rfl | ⟨x, hx, rfl⟩ | ⟨a, ha, rfl⟩ | ⟨x, hx, rfl⟩ | ⟨x, hx, rfl⟩ | rfl
 ·exact ⟨by decide, fun x hx => by rw [List.mem_singleton.1 hx]; decide⟩
 ·obtain ⟨h0, h1, h2, h3, h4, h5⟩ := hm.sig x hx
  refine ⟨by simp [sgF], fun y hy => ?_⟩
  simp only [sgF, List.mem_append, List.mem_cons, List.not_mem_nil, or_false] at hy
  rcases hy with (rfl | rfl) | hy
  ·unfold kindW; repeat (split <;> try decide)
  ·exact (num_ok h2 (by omega)).2.2.2.1
  ·split at hy
   ·rw [List.mem_singleton.1 hy]; exact (num_ok h4 (by omega)).1
   ·simp at hy
 ·obtain ⟨h0, h1, h2⟩ := hm.asg a ha
  refine ⟨by simp [asgF], fun y hy => ?_⟩
  simp only [asgF, List.mem_append, List.mem_cons, List.not_mem_nil, or_false, List.mem_map] at hy
  rcases hy with (rfl | rfl) | ⟨o, ho, rfl⟩
  ·decide
  ·exact (num_ok h0 h1).2.1
  ·have h := (hm.ops a ha).2 o ho
   rw [opTxR_ok h]
   exact (op_ok h).1
 ·obtain ⟨h0, h1, h2, h3, h4, h5⟩ := hm.ins x hx
  refine ⟨by simp [insF], fun y hy => ?_⟩
  simp only [insF, List.mem_append, List.mem_cons, List.not_mem_nil, or_false, List.mem_map] at hy
  rcases hy with (rfl | rfl | rfl) | ⟨p, hp, rfl⟩
  ·decide
  ·exact (num_ok h0 h1).2.2.1
  ·exact (num_ok h2 (by omega)).2.2.2.1
  ·exact (num_ok (h5 p hp).1 (h5 p hp).2).2.1
 ·obtain ⟨h0, h1, h2, h3, h4, h5, h6, h7⟩ := hm.mem x hx
  refine ⟨by simp [memF], fun y hy => ?_⟩
  simp only [memF, List.mem_cons, List.not_mem_nil, or_false] at hy
  rcases hy with rfl | rfl | rfl | rfl | rfl
  ·decide
  ·exact (num_ok h0 h1).2.1
  ·exact (num_ok h2 h3).2.1
  ·exact (num_ok h4 h5).2.1
  ·exact (num_ok h6 h7).2.1
 ·exact ⟨by decide, fun x hx => by rw [List.mem_singleton.1 hx]; decide⟩
end
theorem allI : ∀ (d : TDesign), (∀ m ∈ d, LinesOk m) → ∀ d0, (fldsD d).foldl rdDI d0 = d0 ++ d
 | [], _, d0 => by simp [fldsD]
 | m :: d, h, d0 => by
  have e : fldsD (m :: d) = fmF m ++ fldsD d := by simp [fldsD]
  rw [e, List.foldl_append, modI (h m (by simp)), allI d (fun x hx => h x (by simp [hx])), List.append_assoc]
  rfl
theorem allS : ∀ (d : TDesign), (∀ m ∈ d, LinesOk m) → ∀ d0 m0, ∃ m1, rdAllS (d0, m0, false) (fldsD d) = some (d0 ++ d, m1, false)
 | [], _, d0, m0 => ⟨m0, by simp [fldsD, rdAllS]⟩
 | m :: d, h, d0, m0 => by
  have e : fldsD (m :: d) = fmF m ++ fldsD d := by simp [fldsD]
  obtain ⟨m1, h1⟩ := allS d (fun x hx => h x (by simp [hx])) (d0 ++ [m]) m
  refine ⟨m1, ?_⟩
  rw [e, rdAllS_app, modS (h m (by simp)), Option.bind_some, h1, List.append_assoc]
  rfl
theorem fldsD_ok {d : TDesign} (h : ∀ m ∈ d, LinesOk m) : ∀ f ∈ fldsD d, f ≠ [] ∧ ∀ x ∈ f, wOk x = true := by
 intro f hf
 obtain ⟨m, hm, hf⟩ := List.mem_flatMap.1 hf
 exact flds_ok (h m hm) f hf

/-! ### joined fields tell the fields -/
theorem wOk_sp {l : Wd8} (h : wOk l = true) : ∀ c ∈ l, c ≠ 32 := by
 unfold wOk at h
 rw [Bool.and_eq_true] at h
 intro c hc e
 have h1 := of_decide_eq_true (List.all_eq_true.1 h.2 c hc)
 rw [e] at h1
 exact absurd h1 (by decide)
def spB (l : Wd8) : Prop := l = [] ∨ ∃ t, l = 32 :: t
theorem take32 {a r : Wd8} (ha : ∀ c ∈ a, c ≠ 32) (hr : spB r) : (a ++ r).takeWhile (fun c => c != 32) = a := by
 induction a with
 | nil =>
  rcases hr with rfl | ⟨t, rfl⟩ <;> rfl
 | cons c a ih =>
  have h1 : (c != 32) = true := by simpa using ha c (by simp)
  rw [List.cons_append, List.takeWhile_cons, if_pos h1, ih (fun x hx => ha x (by simp [hx]))]
theorem app_inj {a b r s : Wd8} (ha : ∀ c ∈ a, c ≠ 32) (hb : ∀ c ∈ b, c ≠ 32) (hr : spB r) (hs : spB s) (h : a ++ r = b ++ s) : a = b ∧ r = s := by
 have h1 : a = b := by rw [← take32 ha hr, h, take32 hb hs]
 subst h1
 exact ⟨rfl, List.append_cancel_left h⟩
theorem spB_flat (fs : List Wd8) : spB (fs.flatMap fun g => 32 :: g) := by
 cases fs with
 | nil => exact .inl rfl
 | cons f fs => exact .inr ⟨_, rfl⟩
theorem flat_inj : ∀ (fs gs : List Wd8), (∀ f ∈ fs, wOk f = true) → (∀ g ∈ gs, wOk g = true) → (fs.flatMap fun g => (32 : UInt8) :: g) = (gs.flatMap fun g => 32 :: g) → fs = gs
 | [], [], _, _, _ => rfl
 | [], g :: gs, _, _, h => by simp at h
 | f :: fs, [], _, _, h => by simp at h
 | f :: fs, g :: gs, hf, hg, h => by
  simp only [List.flatMap_cons, List.cons_append, List.cons.injEq, true_and] at h
  obtain ⟨rfl, h2⟩ := app_inj (wOk_sp (hf f (by simp))) (wOk_sp (hg g (by simp))) (spB_flat fs) (spB_flat gs) h
  rw [flat_inj fs gs (fun x hx => hf x (by simp [hx])) (fun x hx => hg x (by simp [hx])) h2]
theorem join_inj {f g : List Wd8} (hf : f ≠ []) (hg : g ≠ []) (hf1 : ∀ x ∈ f, wOk x = true) (hg1 : ∀ x ∈ g, wOk x = true) (h : joinW f = joinW g) : f = g := by
 match f, g, hf, hg with
 | a :: f, b :: g, _, _ =>
  obtain ⟨rfl, h2⟩ := app_inj (wOk_sp (hf1 a (by simp))) (wOk_sp (hg1 b (by simp))) (spB_flat f) (spB_flat g) h
  rw [flat_inj f g (fun x hx => hf1 x (by simp [hx])) (fun x hx => hg1 x (by simp [hx])) h2]
def FlOk (fl : List (List Wd8)) : Prop := ∀ f ∈ fl, f ≠ [] ∧ ∀ x ∈ f, wOk x = true
theorem map_join_inj : ∀ (a b : List (List Wd8)), FlOk a → FlOk b → a.map joinW = b.map joinW → a = b
 | [], [], _, _, _ => rfl
 | [], g :: gs, _, _, h => by simp at h
 | f :: fs, [], _, _, h => by simp at h
 | f :: fs, g :: gs, hf, hg, h => by
  simp only [List.map_cons, List.cons.injEq] at h
  rw [join_inj (hf f (by simp)).1 (hg g (by simp)).1 (hf f (by simp)).2 (hg g (by simp)).2 h.1, map_join_inj fs gs (fun x hx => hf x (by simp [hx])) (fun x hx => hg x (by simp [hx])) h.2]
/-- the lines of a valid design: both readings find it -/
theorem pars_yes {fl : List (List Wd8)} (hf : FlOk fl) {d : TDesign} (hd : designB d = true) (hl : linesD d = fl.map joinW) : parsI fl = some d ∧ parsS fl = some d := by
 have hm := mods_ok hd
 have e : fl = fldsD d := map_join_inj _ _ hf (fldsD_ok hm) (by rw [fldsD_join, hl])
 subst e
 have h1 : rdAllI (fldsD d) = d := (allI d hm []).trans (List.nil_append d)
 obtain ⟨m1, h2⟩ := allS d hm [] noMod
 rw [List.nil_append] at h2
 unfold parsI parsS
 rw [h1, h2]
 exact ⟨if_pos ⟨hd, hl⟩, if_pos ⟨rfl, hd, hl⟩⟩
theorem pars_no {fl : List (List Wd8)} (h : ∀ d, designB d = true → linesD d ≠ fl.map joinW) : parsI fl = none ∧ parsS fl = none := by
 unfold parsI parsS
 refine ⟨if_neg (fun h1 => h _ h1.1 h1.2), ?_⟩
 cases rdAllS ([], noMod, false) fl with
 | none => rfl
 | some s => exact if_neg (fun h1 => h _ h1.2.1 h1.2.2)
theorem pars_eq {fl : List (List Wd8)} (hf : FlOk fl) : parsS fl = parsI fl := by
 by_cases h : ∃ d, designB d = true ∧ linesD d = fl.map joinW
 ·obtain ⟨d, hd, hl⟩ := h
  rw [(pars_yes hf hd hl).1, (pars_yes hf hd hl).2]
 ·have h2 := pars_no (fl := fl) (fun d hd hl => h ⟨d, hd, hl⟩)
  rw [h2.1, h2.2]
theorem parsI_iff {fl : List (List Wd8)} {d : TDesign} (h : parsI fl = some d) : designB d = true ∧ linesD d = fl.map joinW := by
 unfold parsI at h
 split at h
 ·rename_i h1
  injection h with h
  rw [← h]
  exact h1
 ·cases h
end Go.Proofs.YthjdigcpgpiiiaaDoor

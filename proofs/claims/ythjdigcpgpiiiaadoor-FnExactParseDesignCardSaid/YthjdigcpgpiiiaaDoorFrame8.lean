/- How a law's arguments read: lists, modules, designs. -/
import Derived.Test.YthjdigcpgpiiiaaDoorGb
import Derived.Test.YthjdigcpgpiiiaaDoorDesignD
namespace Go.Proofs.YthjdigcpgpiiiaaDoor
open Go.ChangeShapes Go.WideShapes Go.ChangeAt Go.RowKit Go.Deep

section
variable {H : Type} {enc : TypeId × Value → H} {W : World}
theorem opn_IntS : OpenF enc Tryd.prog W 76 (fun f => (∃ l, f = fIntS l) ∧ Wf f) := openF_intsW Tryd.underlying76 Tryd.underlying3 (by kernel_rfl)
def DOp (j : Nat) (f : Fd) : Prop := (j = 0 → ∃ x, f = Fd.int x) ∧ (j = 1 → ∃ x, f = Fd.int x) ∧ (j = 2 → ∃ x, f = Fd.int x)
theorem rows_OpD {rows : List (List Fd)} (h : ∀ r ∈ rows, r.length = 3 ∧ ∀ (j : Nat) (g : Fd), r[j]? = some g → DOp j g) : ∃ l, Fd.sl rows = fOpS l := by
 induction rows with
 | nil => exact ⟨[], rfl⟩
 | cons r rows ih =>
  obtain ⟨l, hl⟩ := ih fun r hr => h r (by simp [hr])
  injection hl with hl
  subst hl
  obtain ⟨h1, h2⟩ := h r (by simp)
  match r, h1 with
  | [a0, a1, a2], _ =>
   obtain ⟨x0, rfl⟩ : ∃ x, a0 = Fd.int x := (h2 0 a0 rfl).1 rfl
   obtain ⟨x1, rfl⟩ : ∃ x, a1 = Fd.int x := (h2 1 a1 rfl).2.1 rfl
   obtain ⟨x2, rfl⟩ : ∃ x, a2 = Fd.int x := (h2 2 a2 rfl).2.2 rfl
   exact ⟨(x0, x1, x2) :: l, rfl⟩
def DSignal (j : Nat) (f : Fd) : Prop := (j = 0 → ∃ x, f = Fd.int x) ∧ (j = 1 → ∃ x, f = Fd.int x) ∧ (j = 2 → ∃ x, f = Fd.int x)
theorem rows_SignalD {rows : List (List Fd)} (h : ∀ r ∈ rows, r.length = 3 ∧ ∀ (j : Nat) (g : Fd), r[j]? = some g → DSignal j g) : ∃ l, Fd.sl rows = fSignalS l := by
 induction rows with
 | nil => exact ⟨[], rfl⟩
 | cons r rows ih =>
  obtain ⟨l, hl⟩ := ih fun r hr => h r (by simp [hr])
  injection hl with hl
  subst hl
  obtain ⟨h1, h2⟩ := h r (by simp)
  match r, h1 with
  | [a0, a1, a2], _ =>
   obtain ⟨x0, rfl⟩ : ∃ x, a0 = Fd.int x := (h2 0 a0 rfl).1 rfl
   obtain ⟨x1, rfl⟩ : ∃ x, a1 = Fd.int x := (h2 1 a1 rfl).2.1 rfl
   obtain ⟨x2, rfl⟩ : ∃ x, a2 = Fd.int x := (h2 2 a2 rfl).2.2 rfl
   exact ⟨(x0, x1, x2) :: l, rfl⟩
def DMem (j : Nat) (f : Fd) : Prop := (j = 0 → ∃ x, f = Fd.int x) ∧ (j = 1 → ∃ x, f = Fd.int x) ∧ (j = 2 → ∃ x, f = Fd.int x) ∧ (j = 3 → ∃ x, f = Fd.int x)
theorem rows_MemD {rows : List (List Fd)} (h : ∀ r ∈ rows, r.length = 4 ∧ ∀ (j : Nat) (g : Fd), r[j]? = some g → DMem j g) : ∃ l, Fd.sl rows = fMemS l := by
 induction rows with
 | nil => exact ⟨[], rfl⟩
 | cons r rows ih =>
  obtain ⟨l, hl⟩ := ih fun r hr => h r (by simp [hr])
  injection hl with hl
  subst hl
  obtain ⟨h1, h2⟩ := h r (by simp)
  match r, h1 with
  | [a0, a1, a2, a3], _ =>
   obtain ⟨x0, rfl⟩ : ∃ x, a0 = Fd.int x := (h2 0 a0 rfl).1 rfl
   obtain ⟨x1, rfl⟩ : ∃ x, a1 = Fd.int x := (h2 1 a1 rfl).2.1 rfl
   obtain ⟨x2, rfl⟩ : ∃ x, a2 = Fd.int x := (h2 2 a2 rfl).2.2.1 rfl
   obtain ⟨x3, rfl⟩ : ∃ x, a3 = Fd.int x := (h2 3 a3 rfl).2.2.2 rfl
   exact ⟨(x0, x1, x2, x3) :: l, rfl⟩
def DAssign (j : Nat) (f : Fd) : Prop := (j = 0 → ∃ x, f = Fd.int x) ∧ (j = 1 → ∃ l, f = fOpS l)
theorem rows_AssignD {rows : List (List Fd)} (h : ∀ r ∈ rows, r.length = 2 ∧ ∀ (j : Nat) (g : Fd), r[j]? = some g → DAssign j g) : ∃ l, Fd.sl rows = fAssignS l := by
 induction rows with
 | nil => exact ⟨[], rfl⟩
 | cons r rows ih =>
  obtain ⟨l, hl⟩ := ih fun r hr => h r (by simp [hr])
  injection hl with hl
  subst hl
  obtain ⟨h1, h2⟩ := h r (by simp)
  match r, h1 with
  | [a0, a1], _ =>
   obtain ⟨x0, rfl⟩ : ∃ x, a0 = Fd.int x := (h2 0 a0 rfl).1 rfl
   obtain ⟨x1, rfl⟩ : ∃ l, a1 = fOpS l := (h2 1 a1 rfl).2 rfl
   exact ⟨(x0, x1) :: l, rfl⟩
def DInst (j : Nat) (f : Fd) : Prop := (j = 0 → ∃ x, f = Fd.int x) ∧ (j = 1 → ∃ x, f = Fd.int x) ∧ (j = 2 → ∃ l, f = fIntS l)
theorem rows_InstD {rows : List (List Fd)} (h : ∀ r ∈ rows, r.length = 3 ∧ ∀ (j : Nat) (g : Fd), r[j]? = some g → DInst j g) : ∃ l, Fd.sl rows = fInstS l := by
 induction rows with
 | nil => exact ⟨[], rfl⟩
 | cons r rows ih =>
  obtain ⟨l, hl⟩ := ih fun r hr => h r (by simp [hr])
  injection hl with hl
  subst hl
  obtain ⟨h1, h2⟩ := h r (by simp)
  match r, h1 with
  | [a0, a1, a2], _ =>
   obtain ⟨x0, rfl⟩ : ∃ x, a0 = Fd.int x := (h2 0 a0 rfl).1 rfl
   obtain ⟨x1, rfl⟩ : ∃ x, a1 = Fd.int x := (h2 1 a1 rfl).2.1 rfl
   obtain ⟨x2, rfl⟩ : ∃ l, a2 = fIntS l := (h2 2 a2 rfl).2.2 rfl
   exact ⟨(x0, x1, x2) :: l, rfl⟩
def DModule (j : Nat) (f : Fd) : Prop := (j = 0 → ∃ l, f = fSignalS l) ∧ (j = 1 → ∃ l, f = fAssignS l) ∧ (j = 2 → ∃ l, f = fInstS l) ∧ (j = 3 → ∃ l, f = fMemS l)
theorem rows_ModuleD {rows : List (List Fd)} (h : ∀ r ∈ rows, r.length = 4 ∧ ∀ (j : Nat) (g : Fd), r[j]? = some g → DModule j g) : ∃ l, Fd.sl rows = fModuleS l := by
 induction rows with
 | nil => exact ⟨[], rfl⟩
 | cons r rows ih =>
  obtain ⟨l, hl⟩ := ih fun r hr => h r (by simp [hr])
  injection hl with hl
  subst hl
  obtain ⟨h1, h2⟩ := h r (by simp)
  match r, h1 with
  | [a0, a1, a2, a3], _ =>
   obtain ⟨x0, rfl⟩ : ∃ l, a0 = fSignalS l := (h2 0 a0 rfl).1 rfl
   obtain ⟨x1, rfl⟩ : ∃ l, a1 = fAssignS l := (h2 1 a1 rfl).2.1 rfl
   obtain ⟨x2, rfl⟩ : ∃ l, a2 = fInstS l := (h2 2 a2 rfl).2.2.1 rfl
   obtain ⟨x3, rfl⟩ : ∃ l, a3 = fMemS l := (h2 3 a3 rfl).2.2.2 rfl
   exact ⟨(x0, x1, x2, x3) :: l, rfl⟩
end
section
variable {H : Type} {enc : TypeId × Value → H} {P : Program} {w W : World} {held : Bool} {base b0 : Nat} {spare : Nat → Bool}
theorem array1 {α : Type} {cs : Array α} (h : cs.size = 1) : ∃ c0, cs = #[c0] := by
 obtain ⟨l⟩ := cs
 match l, h with
 | [c0], _ => exact ⟨c0, rfl⟩
theorem open_agg1 {r : Reach} {t : TypeId} {f0 : Field} {v : Value} {d : DataW H} {p : List MemPlace} (hs : P.underlying t = some (.struct #[f0])) (hone : oneCellFields P #[f0] = true) (hC : P.cellsOf t = 1)
  (hv : Value.okWide P w r b0 t v) (h : DataW.Trod enc P w base spare held t v d p) :
  ∃ (v0 : Value) (y0 : DataW H × List MemPlace) (n : Nat), v = .agg #[v0] ∧ d = .agg [y0.1] ∧ p = y0.2 ∧ DataW.trod enc P w base spare held n f0.type [v0] = some y0 := by
 obtain ⟨cs, rfl, hsz⟩ := okWide_struct hs hv
 obtain ⟨c0, rfl⟩ := array1 (hsz.trans hC)
 obtain ⟨fuel, hf⟩ := h
 obtain ⟨xs, n, _, hx, hl, hlen, hf⟩ := DataW.trod_struct hs hf
 match xs, hlen with
 | [y0], _ =>
  have h0 := hf 0 f0 rfl
  obtain ⟨o0, k0⟩ := hone_of hone 0 f0 rfl
  simp only [Prod.mk.injEq] at hx
  exact ⟨c0, y0, n, rfl, by simpa using hx.1, by simpa using hx.2, by simpa [Value.cells, o0, k0] using h0⟩
/-- all numbers of it are of int64's range -/
def WfModule (x : TModule) : Prop := Wf (fSignalS x.1) ∧ Wf (fAssignS x.2.1) ∧ Wf (fInstS x.2.2.1) ∧ Wf (fMemS x.2.2.2)
/-- all numbers of it are of int64's range -/
def WfDesign (x : TDesign) : Prop := Wf (fModuleS x)
set_option maxRecDepth 100000 in
theorem op_IntS {v : Value} {d : DataW H} {p : List MemPlace} (hv : Value.okWide Tryd.prog W .any b0 76 v) (h : DataW.Trod enc Tryd.prog W base (fun _ => true) held 76 v d p) (hlt : ∀ x ∈ p, x.block < W.heap.size) :
  ∃ l, Rep W (fun b => b < W.heap.size) v (fIntS l) ∧ Wf (fIntS l) := by
 obtain ⟨_, r, ⟨l, rfl⟩, q⟩ := op_slice opn_IntS Tryd.underlying76 hv h hlt
 exact ⟨l, r, q⟩
end
end Go.Proofs.YthjdigcpgpiiiaaDoor

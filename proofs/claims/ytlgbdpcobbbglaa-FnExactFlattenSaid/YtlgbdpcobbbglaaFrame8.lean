/- How a law's arguments read: lists, modules, designs. -/
import Derived.Test.YtlgbdpcobbbglaaGb
import Derived.Test.YtlgbdpcobbbglaaDesignD
namespace Go.Proofs.Ytlgbdpcobbbglaa
open Go.ChangeShapes Go.WideShapes Go.ChangeAt Go.RowKit Go.Deep

section
variable {H : Type} {enc : TypeId × Value → H} {W : World}
theorem opn_IntS : OpenF enc Try.prog W 47 (fun f => (∃ l, f = fIntS l) ∧ Wf f) := openF_intsW Try.underlying47 Try.underlying3 (by kernel_rfl)
def DOp (j : Nat) (f : Fd) : Prop := (j = 0 → ∃ x, f = Fd.int x) ∧ (j = 1 → ∃ x, f = Fd.int x) ∧ (j = 2 → ∃ x, f = Fd.int x)
theorem rows_OpD {rows : List (List Fd)} (h : ∀ r ∈ rows, r.length = 3 ∧ ∀ (j : Nat) (g : Fd), r[j]? = some g → DOp j g) : ∃ l, Fd.sl rows = fOpS l := by
 induction rows with
 | nil => exact ⟨[], rfl⟩
 | cons r rows ih =>
  obtain ⟨l, hl⟩ := ih fun r hr => h r (by simp [hr])
  injection hl with hl
  subst hl
  obtain ⟨h1, h2⟩ := h r (by simp)
  match r, h1 with
  | [a0, a1, a2], _ =>
   obtain ⟨x0, rfl⟩ : ∃ x, a0 = Fd.int x := (h2 0 a0 rfl).1 rfl
   obtain ⟨x1, rfl⟩ : ∃ x, a1 = Fd.int x := (h2 1 a1 rfl).2.1 rfl
   obtain ⟨x2, rfl⟩ : ∃ x, a2 = Fd.int x := (h2 2 a2 rfl).2.2 rfl
   exact ⟨(x0, x1, x2) :: l, rfl⟩
theorem opn_OpS : OpenF enc Try.prog W 116 (fun f => (∃ l, f = fOpS l) ∧ Wf f) :=
 (openF_slSW Try.underlying116 Try.underlying135 (by kernel_rfl) (by kernel_rfl) (by simp) DOp (fun j f hf => by
  match j, hf with
  | 0, hf => simp at hf; subst hf; exact (openF_intW Try.underlying3).imp fun f hf => ⟨by simpa [DOp] using hf.1, hf.2⟩
  | 1, hf => simp at hf; subst hf; exact (openF_intW Try.underlying3).imp fun f hf => ⟨by simpa [DOp] using hf.1, hf.2⟩
  | 2, hf => simp at hf; subst hf; exact (openF_intW Try.underlying3).imp fun f hf => ⟨by simpa [DOp] using hf.1, hf.2⟩
  | j + 3, hf => simp at hf)).imp fun f hf => by
   obtain ⟨⟨rows, rfl, h⟩, hw⟩ := hf
   obtain ⟨l, hl⟩ := rows_OpD h
   exact ⟨⟨l, hl⟩, hw⟩
def DSignal (j : Nat) (f : Fd) : Prop := (j = 0 → ∃ x, f = Fd.int x) ∧ (j = 1 → ∃ x, f = Fd.int x) ∧ (j = 2 → ∃ x, f = Fd.int x)
theorem rows_SignalD {rows : List (List Fd)} (h : ∀ r ∈ rows, r.length = 3 ∧ ∀ (j : Nat) (g : Fd), r[j]? = some g → DSignal j g) : ∃ l, Fd.sl rows = fSignalS l := by
 induction rows with
 | nil => exact ⟨[], rfl⟩
 | cons r rows ih =>
  obtain ⟨l, hl⟩ := ih fun r hr => h r (by simp [hr])
  injection hl with hl
  subst hl
  obtain ⟨h1, h2⟩ := h r (by simp)
  match r, h1 with
  | [a0, a1, a2], _ =>
   obtain ⟨x0, rfl⟩ : ∃ x, a0 = Fd.int x := (h2 0 a0 rfl).1 rfl
   obtain ⟨x1, rfl⟩ : ∃ x, a1 = Fd.int x := (h2 1 a1 rfl).2.1 rfl
   obtain ⟨x2, rfl⟩ : ∃ x, a2 = Fd.int x := (h2 2 a2 rfl).2.2 rfl
   exact ⟨(x0, x1, x2) :: l, rfl⟩
theorem opn_SignalS : OpenF enc Try.prog W 65 (fun f => (∃ l, f = fSignalS l) ∧ Wf f) :=
 (openF_slSW Try.underlying65 Try.underlying124 (by kernel_rfl) (by kernel_rfl) (by simp) DSignal (fun j f hf => by
  match j, hf with
  | 0, hf => simp at hf; subst hf; exact (openF_intW Try.underlying3).imp fun f hf => ⟨by simpa [DSignal] using hf.1, hf.2⟩
  | 1, hf => simp at hf; subst hf; exact (openF_intW Try.underlying3).imp fun f hf => ⟨by simpa [DSignal] using hf.1, hf.2⟩
  | 2, hf => simp at hf; subst hf; exact (openF_intW Try.underlying3).imp fun f hf => ⟨by simpa [DSignal] using hf.1, hf.2⟩
  | j + 3, hf => simp at hf)).imp fun f hf => by
   obtain ⟨⟨rows, rfl, h⟩, hw⟩ := hf
   obtain ⟨l, hl⟩ := rows_SignalD h
   exact ⟨⟨l, hl⟩, hw⟩
def DMem (j : Nat) (f : Fd) : Prop := (j = 0 → ∃ x, f = Fd.int x) ∧ (j = 1 → ∃ x, f = Fd.int x) ∧ (j = 2 → ∃ x, f = Fd.int x) ∧ (j = 3 → ∃ x, f = Fd.int x)
theorem rows_MemD {rows : List (List Fd)} (h : ∀ r ∈ rows, r.length = 4 ∧ ∀ (j : Nat) (g : Fd), r[j]? = some g → DMem j g) : ∃ l, Fd.sl rows = fMemS l := by
 induction rows with
 | nil => exact ⟨[], rfl⟩
 | cons r rows ih =>
  obtain ⟨l, hl⟩ := ih fun r hr => h r (by simp [hr])
  injection hl with hl
  subst hl
  obtain ⟨h1, h2⟩ := h r (by simp)
  match r, h1 with
  | [a0, a1, a2, a3], _ =>
   obtain ⟨x0, rfl⟩ : ∃ x, a0 = Fd.int x := (h2 0 a0 rfl).1 rfl
   obtain ⟨x1, rfl⟩ : ∃ x, a1 = Fd.int x := (h2 1 a1 rfl).2.1 rfl
   obtain ⟨x2, rfl⟩ : ∃ x, a2 = Fd.int x := (h2 2 a2 rfl).2.2.1 rfl
   obtain ⟨x3, rfl⟩ : ∃ x, a3 = Fd.int x := (h2 3 a3 rfl).2.2.2 rfl
   exact ⟨(x0, x1, x2, x3) :: l, rfl⟩
theorem opn_MemS : OpenF enc Try.prog W 68 (fun f => (∃ l, f = fMemS l) ∧ Wf f) :=
 (openF_slSW Try.underlying68 Try.underlying128 (by kernel_rfl) (by kernel_rfl) (by simp) DMem (fun j f hf => by
  match j, hf with
  | 0, hf => simp at hf; subst hf; exact (openF_intW Try.underlying3).imp fun f hf => ⟨by simpa [DMem] using hf.1, hf.2⟩
  | 1, hf => simp at hf; subst hf; exact (openF_intW Try.underlying3).imp fun f hf => ⟨by simpa [DMem] using hf.1, hf.2⟩
  | 2, hf => simp at hf; subst hf; exact (openF_intW Try.underlying3).imp fun f hf => ⟨by simpa [DMem] using hf.1, hf.2⟩
  | 3, hf => simp at hf; subst hf; exact (openF_intW Try.underlying3).imp fun f hf => ⟨by simpa [DMem] using hf.1, hf.2⟩
  | j + 4, hf => simp at hf)).imp fun f hf => by
   obtain ⟨⟨rows, rfl, h⟩, hw⟩ := hf
   obtain ⟨l, hl⟩ := rows_MemD h
   exact ⟨⟨l, hl⟩, hw⟩
def DAssign (j : Nat) (f : Fd) : Prop := (j = 0 → ∃ x, f = Fd.int x) ∧ (j = 1 → ∃ l, f = fOpS l)
theorem rows_AssignD {rows : List (List Fd)} (h : ∀ r ∈ rows, r.length = 2 ∧ ∀ (j : Nat) (g : Fd), r[j]? = some g → DAssign j g) : ∃ l, Fd.sl rows = fAssignS l := by
 induction rows with
 | nil => exact ⟨[], rfl⟩
 | cons r rows ih =>
  obtain ⟨l, hl⟩ := ih fun r hr => h r (by simp [hr])
  injection hl with hl
  subst hl
  obtain ⟨h1, h2⟩ := h r (by simp)
  match r, h1 with
  | [a0, a1], _ =>
   obtain ⟨x0, rfl⟩ : ∃ x, a0 = Fd.int x := (h2 0 a0 rfl).1 rfl
   obtain ⟨x1, rfl⟩ : ∃ l, a1 = fOpS l := (h2 1 a1 rfl).2 rfl
   exact ⟨(x0, x1) :: l, rfl⟩
theorem opn_AssignS : OpenF enc Try.prog W 66 (fun f => (∃ l, f = fAssignS l) ∧ Wf f) :=
 (openF_slSW Try.underlying66 Try.underlying118 (by kernel_rfl) (by kernel_rfl) (by simp) DAssign (fun j f hf => by
  match j, hf with
  | 0, hf => simp at hf; subst hf; exact (openF_intW Try.underlying3).imp fun f hf => ⟨by simpa [DAssign] using hf.1, hf.2⟩
  | 1, hf => simp at hf; subst hf; exact (opn_OpS).imp fun f hf => ⟨by simpa [DAssign] using hf.1, hf.2⟩
  | j + 2, hf => simp at hf)).imp fun f hf => by
   obtain ⟨⟨rows, rfl, h⟩, hw⟩ := hf
   obtain ⟨l, hl⟩ := rows_AssignD h
   exact ⟨⟨l, hl⟩, hw⟩
def DInst (j : Nat) (f : Fd) : Prop := (j = 0 → ∃ x, f = Fd.int x) ∧ (j = 1 → ∃ x, f = Fd.int x) ∧ (j = 2 → ∃ l, f = fIntS l)
theorem rows_InstD {rows : List (List Fd)} (h : ∀ r ∈ rows, r.length = 3 ∧ ∀ (j : Nat) (g : Fd), r[j]? = some g → DInst j g) : ∃ l, Fd.sl rows = fInstS l := by
 induction rows with
 | nil => exact ⟨[], rfl⟩
 | cons r rows ih =>
  obtain ⟨l, hl⟩ := ih fun r hr => h r (by simp [hr])
  injection hl with hl
  subst hl
  obtain ⟨h1, h2⟩ := h r (by simp)
  match r, h1 with
  | [a0, a1, a2], _ =>
   obtain ⟨x0, rfl⟩ : ∃ x, a0 = Fd.int x := (h2 0 a0 rfl).1 rfl
   obtain ⟨x1, rfl⟩ : ∃ x, a1 = Fd.int x := (h2 1 a1 rfl).2.1 rfl
   obtain ⟨x2, rfl⟩ : ∃ l, a2 = fIntS l := (h2 2 a2 rfl).2.2 rfl
   exact ⟨(x0, x1, x2) :: l, rfl⟩
theorem opn_InstS : OpenF enc Try.prog W 67 (fun f => (∃ l, f = fInstS l) ∧ Wf f) :=
 (openF_slSW Try.underlying67 Try.underlying120 (by kernel_rfl) (by kernel_rfl) (by simp) DInst (fun j f hf => by
  match j, hf with
  | 0, hf => simp at hf; subst hf; exact (openF_intW Try.underlying3).imp fun f hf => ⟨by simpa [DInst] using hf.1, hf.2⟩
  | 1, hf => simp at hf; subst hf; exact (openF_intW Try.underlying3).imp fun f hf => ⟨by simpa [DInst] using hf.1, hf.2⟩
  | 2, hf => simp at hf; subst hf; exact (opn_IntS).imp fun f hf => ⟨by simpa [DInst] using hf.1, hf.2⟩
  | j + 3, hf => simp at hf)).imp fun f hf => by
   obtain ⟨⟨rows, rfl, h⟩, hw⟩ := hf
   obtain ⟨l, hl⟩ := rows_InstD h
   exact ⟨⟨l, hl⟩, hw⟩
def DModule (j : Nat) (f : Fd) : Prop := (j = 0 → ∃ l, f = fSignalS l) ∧ (j = 1 → ∃ l, f = fAssignS l) ∧ (j = 2 → ∃ l, f = fInstS l) ∧ (j = 3 → ∃ l, f = fMemS l)
theorem rows_ModuleD {rows : List (List Fd)} (h : ∀ r ∈ rows, r.length = 4 ∧ ∀ (j : Nat) (g : Fd), r[j]? = some g → DModule j g) : ∃ l, Fd.sl rows = fModuleS l := by
 induction rows with
 | nil => exact ⟨[], rfl⟩
 | cons r rows ih =>
  obtain ⟨l, hl⟩ := ih fun r hr => h r (by simp [hr])
  injection hl with hl
  subst hl
  obtain ⟨h1, h2⟩ := h r (by simp)
  match r, h1 with
  | [a0, a1, a2, a3], _ =>
   obtain ⟨x0, rfl⟩ : ∃ l, a0 = fSignalS l := (h2 0 a0 rfl).1 rfl
   obtain ⟨x1, rfl⟩ : ∃ l, a1 = fAssignS l := (h2 1 a1 rfl).2.1 rfl
   obtain ⟨x2, rfl⟩ : ∃ l, a2 = fInstS l := (h2 2 a2 rfl).2.2.1 rfl
   obtain ⟨x3, rfl⟩ : ∃ l, a3 = fMemS l := (h2 3 a3 rfl).2.2.2 rfl
   exact ⟨(x0, x1, x2, x3) :: l, rfl⟩
theorem opn_ModuleS : OpenF enc Try.prog W 22 (fun f => (∃ l, f = fModuleS l) ∧ Wf f) :=
 (openF_slSW Try.underlying22 Try.underlying70 (by kernel_rfl) (by kernel_rfl) (by simp) DModule (fun j f hf => by
  match j, hf with
  | 0, hf => simp at hf; subst hf; exact (opn_SignalS).imp fun f hf => ⟨by simpa [DModule] using hf.1, hf.2⟩
  | 1, hf => simp at hf; subst hf; exact (opn_AssignS).imp fun f hf => ⟨by simpa [DModule] using hf.1, hf.2⟩
  | 2, hf => simp at hf; subst hf; exact (opn_InstS).imp fun f hf => ⟨by simpa [DModule] using hf.1, hf.2⟩
  | 3, hf => simp at hf; subst hf; exact (opn_MemS).imp fun f hf => ⟨by simpa [DModule] using hf.1, hf.2⟩
  | j + 4, hf => simp at hf)).imp fun f hf => by
   obtain ⟨⟨rows, rfl, h⟩, hw⟩ := hf
   obtain ⟨l, hl⟩ := rows_ModuleD h
   exact ⟨⟨l, hl⟩, hw⟩
end
section
variable {H : Type} {enc : TypeId × Value → H} {P : Program} {w W : World} {held : Bool} {base b0 : Nat} {spare : Nat → Bool}
theorem array1 {α : Type} {cs : Array α} (h : cs.size = 1) : ∃ c0, cs = #[c0] := by
 obtain ⟨l⟩ := cs
 match l, h with
 | [c0], _ => exact ⟨c0, rfl⟩
theorem open_agg1 {r : Reach} {t : TypeId} {f0 : Field} {v : Value} {d : DataW H} {p : List MemPlace} (hs : P.underlying t = some (.struct #[f0])) (hone : oneCellFields P #[f0] = true) (hC : P.cellsOf t = 1)
  (hv : Value.okWide P w r b0 t v) (h : DataW.Trod enc P w base spare held t v d p) :
  ∃ (v0 : Value) (y0 : DataW H × List MemPlace) (n : Nat), v = .agg #[v0] ∧ d = .agg [y0.1] ∧ p = y0.2 ∧ DataW.trod enc P w base spare held n f0.type [v0] = some y0 := by
 obtain ⟨cs, rfl, hsz⟩ := okWide_struct hs hv
 obtain ⟨c0, rfl⟩ := array1 (hsz.trans hC)
 obtain ⟨fuel, hf⟩ := h
 obtain ⟨xs, n, _, hx, hl, hlen, hf⟩ := DataW.trod_struct hs hf
 match xs, hlen with
 | [y0], _ =>
  have h0 := hf 0 f0 rfl
  obtain ⟨o0, k0⟩ := hone_of hone 0 f0 rfl
  simp only [Prod.mk.injEq] at hx
  exact ⟨c0, y0, n, rfl, by simpa using hx.1, by simpa using hx.2, by simpa [Value.cells, o0, k0] using h0⟩
/-- all numbers of it are of int64's range -/
def WfModule (x : TModule) : Prop := Wf (fSignalS x.1) ∧ Wf (fAssignS x.2.1) ∧ Wf (fInstS x.2.2.1) ∧ Wf (fMemS x.2.2.2)
set_option maxRecDepth 100000 in
theorem op_Module {v : Value} {d : DataW H} {p : List MemPlace} (hv : Value.okWide Try.prog W .any b0 70 v) (h : DataW.Trod enc Try.prog W base (fun _ => true) held 70 v d p) (hlt : ∀ x ∈ p, x.block < W.heap.size) :
  ∃ x : TModule, RModule W (fun b => b < W.heap.size) v x ∧ WfModule x := by
 obtain ⟨v0, v1, v2, v3, y0, y1, y2, y3, n, rfl, _, rfl, t0, t1, t2, t3⟩ := Joins.open_agg4 Try.underlying70 (by kernel_rfl) (by kernel_rfl) hv h
 obtain ⟨_, r0, ⟨l0, rfl⟩, q0⟩ := opn_SignalS base held n v0 y0 t0 (fun z hz => hlt z (by simp [hz]))
 obtain ⟨_, r1, ⟨l1, rfl⟩, q1⟩ := opn_AssignS base held n v1 y1 t1 (fun z hz => hlt z (by simp [hz]))
 obtain ⟨_, r2, ⟨l2, rfl⟩, q2⟩ := opn_InstS base held n v2 y2 t2 (fun z hz => hlt z (by simp [hz]))
 obtain ⟨_, r3, ⟨l3, rfl⟩, q3⟩ := opn_MemS base held n v3 y3 t3 (fun z hz => hlt z (by simp [hz]))
 exact ⟨(l0, l1, l2, l3), ⟨v0, v1, v2, v3, rfl, r0, r1, r2, r3⟩, ⟨q0, q1, q2, q3⟩⟩
/-- all numbers of it are of int64's range -/
def WfDesign (x : TDesign) : Prop := Wf (fModuleS x)
set_option maxRecDepth 100000 in
theorem op_Design {v : Value} {d : DataW H} {p : List MemPlace} (hv : Value.okWide Try.prog W .any b0 24 v) (h : DataW.Trod enc Try.prog W base (fun _ => true) held 24 v d p) (hlt : ∀ x ∈ p, x.block < W.heap.size) :
  ∃ x : TDesign, RDesign W (fun b => b < W.heap.size) v x ∧ WfDesign x := by
 obtain ⟨v0, y0, n, rfl, _, rfl, t0⟩ := open_agg1 Try.underlying24 (by kernel_rfl) (by kernel_rfl) hv h
 obtain ⟨_, r0, ⟨l0, rfl⟩, q0⟩ := opn_ModuleS base held n v0 y0 t0 (fun z hz => hlt z (by simp [hz]))
 exact ⟨(l0), ⟨v0, rfl, r0⟩, q0⟩
set_option maxRecDepth 100000 in
theorem op_IntS {v : Value} {d : DataW H} {p : List MemPlace} (hv : Value.okWide Try.prog W .any b0 47 v) (h : DataW.Trod enc Try.prog W base (fun _ => true) held 47 v d p) (hlt : ∀ x ∈ p, x.block < W.heap.size) :
  ∃ l, Rep W (fun b => b < W.heap.size) v (fIntS l) ∧ Wf (fIntS l) := by
 obtain ⟨_, r, ⟨l, rfl⟩, q⟩ := op_slice opn_IntS Try.underlying47 hv h hlt
 exact ⟨l, r, q⟩
set_option maxRecDepth 100000 in
theorem op_OpS {v : Value} {d : DataW H} {p : List MemPlace} (hv : Value.okWide Try.prog W .any b0 116 v) (h : DataW.Trod enc Try.prog W base (fun _ => true) held 116 v d p) (hlt : ∀ x ∈ p, x.block < W.heap.size) :
  ∃ l, Rep W (fun b => b < W.heap.size) v (fOpS l) ∧ Wf (fOpS l) := by
 obtain ⟨_, r, ⟨l, rfl⟩, q⟩ := op_slice opn_OpS Try.underlying116 hv h hlt
 exact ⟨l, r, q⟩
end
end Go.Proofs.Ytlgbdpcobbbglaa

/- How a law's arguments read: numbers of int64's range in data; a net with such numbers. -/
import Derived.Test.YtjiijjihkgipkaaFrame6
namespace Go.Proofs.Ytjiijjihkgipkaa
open Go.ChangeShapes Go.WideShapes Go.ChangeAt Go.RowKit Go.Deep

/-- a number of int64's range -/
def wfI (x : Int) : Prop := -9223372036854775808 ≤ x ∧ x ≤ 9223372036854775807
/-- all numbers of the datum are of int64's range -/
inductive Wf : Fd → Prop
  | int (x : Int) (h : wfI x) : Wf (.int x)
  | sl (rows : List (List Fd)) (h : ∀ r ∈ rows, ∀ g ∈ r, Wf g) : Wf (.sl rows)
theorem Wf.num {x : Int} (h : Wf (.int x)) : wfI x := by cases h; assumption
theorem Wf.rows {rows : List (List Fd)} (h : Wf (.sl rows)) : ∀ r ∈ rows, ∀ g ∈ r, Wf g := by cases h; assumption
theorem Wf.map {α : Type} {ra : α → List Fd} {l : List α} (h : Wf (.sl (l.map ra))) {x : α} (hx : x ∈ l) {g : Fd} (hg : g ∈ ra x) : Wf g := h.rows _ (List.mem_map.2 ⟨x, hx, rfl⟩) _ hg

section
variable {H : Type} {enc : TypeId × Value → H} {P : Program} {W : World}
theorem OpenF.imp {t : TypeId} {D D' : Fd → Prop} (h : OpenF enc P W t D) (hi : ∀ f, D f → D' f) : OpenF enc P W t D' := fun b hd fu v x hx hl => by
  obtain ⟨f, hr, hf⟩ := h b hd fu v x hx hl
  exact ⟨f, hr, hi f hf⟩
theorem openF_intW {t : TypeId} (ht : P.underlying t = some (.int .i64)) : OpenF enc P W t (fun f => (∃ x, f = .int x) ∧ Wf f) := by
  intro base held fuel v x h _
  obtain ⟨a, e0, _, hw⟩ := DataW.trod_int ht h
  simp at e0
  subst e0
  exact ⟨.int a, .int a, ⟨a, rfl⟩, .int a (by simp [Lit.wf, IntKind.min, IntKind.max, IntKind.signed, IntKind.bits] at hw; exact hw)⟩
theorem openF_slSW {t e : TypeId} {fs : Array Field} (ht : P.underlying t = some (.slice e)) (he : P.underlying e = some (.struct fs)) (hone : oneCellFields P fs = true) (hC : P.cellsOf e = fs.size) (h0 : 0 < fs.size) (D : Nat → Fd → Prop)
    (hF : ∀ j f, fs[j]? = some f → OpenF enc P W f.type (fun g => D j g ∧ Wf g)) : OpenF enc P W t (fun f => (∃ rows, f = .sl rows ∧ ∀ r ∈ rows, r.length = fs.size ∧ ∀ j g, r[j]? = some g → D j g) ∧ Wf f) :=
  (openF_slS ht he hone hC h0 (fun j g => D j g ∧ Wf g) hF).imp fun f hf => by
    obtain ⟨rows, rfl, h⟩ := hf
    refine ⟨⟨rows, rfl, fun r hr => ⟨(h r hr).1, fun j g hg => ((h r hr).2 j g hg).1⟩⟩, .sl rows fun r hr g hg => ?_⟩
    obtain ⟨j, hj⟩ := List.getElem?_of_mem hg
    exact ((h r hr).2 j g hj).2
theorem openF_sl1W {t e : TypeId} (ht : P.underlying t = some (.slice e)) (hC : P.cellsOf e = 1) (D : Fd → Prop) (hF : OpenF enc P W e (fun g => D g ∧ Wf g)) :
    OpenF enc P W t (fun f => (∃ rows, f = .sl rows ∧ ∀ r ∈ rows, ∃ g, r = [g] ∧ D g) ∧ Wf f) :=
  (openF_sl1 ht hC (fun g => D g ∧ Wf g) hF).imp fun f hf => by
    obtain ⟨rows, rfl, h⟩ := hf
    refine ⟨⟨rows, rfl, fun r hr => by obtain ⟨g, e, hd, _⟩ := h r hr; exact ⟨g, e, hd⟩⟩, .sl rows fun r hr g hg => ?_⟩
    obtain ⟨g', rfl, _, hw⟩ := h r hr
    simp at hg
    subst hg
    exact hw
theorem openF_intsW {t e : TypeId} (ht : P.underlying t = some (.slice e)) (he : P.underlying e = some (.int .i64)) (hC : P.cellsOf e = 1) : OpenF enc P W t (fun f => (∃ l, f = fints l) ∧ Wf f) :=
  (openF_sl1W ht hC _ (openF_intW he)).imp fun f hf => by
    obtain ⟨⟨rows, rfl, h⟩, hw⟩ := hf
    obtain ⟨l, hl⟩ := fints_of h
    exact ⟨⟨l, hl⟩, hw⟩
end
section
variable {H : Type} {enc : TypeId × Value → H} {P : Program} {W : World} {held : Bool} {base b0 : Nat}
theorem op_netW {t eS eA tI : TypeId} {f0 f1 f2 f3 s0 s1 s2 a0 a1 : Field} {v : Value} {d : DataW H} {p : List MemPlace} (hs : P.underlying t = some (.struct #[f0, f1, f2, f3])) (hone : oneCellFields P #[f0, f1, f2, f3] = true) (hC : P.cellsOf t = 4)
    (h0 : P.underlying f0.type = some (.int .i64)) (h1 : P.underlying f1.type = some (.slice eS)) (h2 : P.underlying f2.type = some (.slice eA)) (h3 : P.underlying f3.type = some (.slice tI)) (hI : P.underlying tI = some (.int .i64)) (hCI : P.cellsOf tI = 1)
    (hS : P.underlying eS = some (.struct #[s0, s1, s2])) (honeS : oneCellFields P #[s0, s1, s2] = true) (hCS : P.cellsOf eS = 3) (hs0 : P.underlying s0.type = some (.int .i64)) (hs1 : P.underlying s1.type = some (.int .i64)) (hs2 : P.underlying s2.type = some (.slice tI))
    (hA : P.underlying eA = some (.struct #[a0, a1])) (honeA : oneCellFields P #[a0, a1] = true) (hCA : P.cellsOf eA = 2) (ha0 : P.underlying a0.type = some (.int .i64)) (ha1 : P.underlying a1.type = some (.int .i64))
    (hv : Value.okWide P W .any b0 t v) (h : DataW.Trod enc P W base (fun _ => true) held t v d p) (hlt : ∀ x ∈ p, x.block < W.heap.size) :
    ∃ (inp : Int) (As : Option Addr) (ns cs : Nat) (ss : List Seq3) (Aa : Option Addr) (na ca : Nat) (ands : List (Int × Int)) (Ao : Option Addr) (no co : Nat) (outs : List Int),
      v = .agg #[.int .i64 inp, .slice As ns cs, .slice Aa na ca, .slice Ao no co] ∧ NetR W (· < W.heap.size) As ns cs ss Aa na ca ands Ao no co outs ∧ Wf (fSeqS ss) ∧ Wf (frecs eAnd ands) ∧ Wf (fints outs) := by
  obtain ⟨v0, v1, v2, v3, y0, y1, y2, y3, n, rfl, _, rfl, t0, t1, t2, t3⟩ := Joins.open_agg4 hs hone hC hv h
  obtain ⟨inp, e0, _, _⟩ := DataW.trod_int h0 t0
  simp at e0
  subst e0
  obtain ⟨g1, r1, ⟨rows1, rfl, w1⟩, q1⟩ := openF_slSW (enc := enc) (W := W) h1 hS honeS hCS (by simp) DSeq (fun j f hf => by
    match j, hf with
    | 0, hf => simp at hf; subst hf; exact (openF_intW hs0).imp fun f hf => ⟨by simpa [DSeq] using hf.1, hf.2⟩
    | 1, hf => simp at hf; subst hf; exact (openF_intW hs1).imp fun f hf => ⟨by simpa [DSeq] using hf.1, hf.2⟩
    | 2, hf => simp at hf; subst hf; exact (openF_sl1W hs2 hCI _ (openF_intW hI)).imp fun f hf => ⟨by simpa [DSeq] using hf.1, hf.2⟩) base held n v1 y1 t1 (fun z hz => hlt z (by simp [hz]))
  obtain ⟨ss, hss⟩ := rows_Seq w1
  obtain ⟨g2, r2, ⟨rows2, rfl, w2⟩, q2⟩ := openF_slSW (enc := enc) (W := W) h2 hA honeA hCA (by simp) (fun _ f => ∃ x, f = Fd.int x) (fun j f hf => by
    match j, hf with
    | 0, hf => simp at hf; subst hf; exact openF_intW ha0
    | 1, hf => simp at hf; subst hf; exact openF_intW ha1) base held n v2 y2 t2 (fun z hz => hlt z (by simp [hz]))
  obtain ⟨ands, hands⟩ := rows_And w2
  obtain ⟨g3, r3, ⟨rows3, rfl, w3⟩, q3⟩ := openF_sl1W (enc := enc) (W := W) h3 hCI _ (openF_intW hI) base held n v3 y3 t3 (fun z hz => hlt z (by simp [hz]))
  obtain ⟨outs, houts⟩ := fints_of w3
  obtain ⟨As, cs, rfl, _⟩ := r1.sl_val
  obtain ⟨Aa, ca, rfl, _⟩ := r2.sl_val
  obtain ⟨Ao, co, rfl, _⟩ := r3.sl_val
  rw [hss] at r1 q1
  rw [hands] at r2 q2
  rw [houts] at r3 q3
  exact ⟨inp, As, _, cs, ss, Aa, _, ca, ands, Ao, _, co, outs, rfl, ⟨r1, r2, r3⟩, q1, q2, q3⟩
end
end Go.Proofs.Ytjiijjihkgipkaa

/- How a law's arguments read: a net. -/
import Derived.Test.YtjiijjihkgipkaaFrame5
import Derived.Test.YtjiijjihkgipkaaNetA
namespace Go.Proofs.Ytjiijjihkgipkaa
open Go.ChangeShapes Go.WideShapes Go.ChangeAt Go.RowKit Go.Deep

theorem fints_of {rows : List (List Fd)} (h : ∀ r ∈ rows, ∃ g, r = [g] ∧ ∃ x, g = Fd.int x) : ∃ l, Fd.sl rows = fints l := by
  induction rows with
  | nil => exact ⟨[], rfl⟩
  | cons r rows ih =>
    obtain ⟨l, hl⟩ := ih fun r hr => h r (by simp [hr])
    obtain ⟨g, rfl, x, rfl⟩ := h r (by simp)
    injection hl with hl
    subst hl
    exact ⟨x :: l, rfl⟩
theorem rows_And {rows : List (List Fd)} (h : ∀ r ∈ rows, r.length = 2 ∧ ∀ (j : Nat) (g : Fd), r[j]? = some g → ∃ x, g = Fd.int x) : ∃ l : List (Int × Int), Fd.sl rows = frecs eAnd l := by
  obtain ⟨l, rfl, hl⟩ := rows_ints h
  clear h
  have : ∃ l' : List (Int × Int), l = l'.map eAnd := by
    induction l with
    | nil => exact ⟨[], rfl⟩
    | cons x l ih =>
      obtain ⟨l', rfl⟩ := ih fun y hy => hl y (by simp [hy])
      have hx := hl x (by simp)
      match x, hx with
      | [a, b], _ => exact ⟨(a, b) :: l', rfl⟩
  obtain ⟨l', rfl⟩ := this
  exact ⟨l', by simp [frecs, frow, List.map_map, Function.comp_def]⟩
def DSeq (j : Nat) (f : Fd) : Prop := if j < 2 then ∃ x, f = Fd.int x else ∃ rows, f = Fd.sl rows ∧ ∀ r ∈ rows, ∃ g, r = [g] ∧ ∃ x, g = Fd.int x
theorem rows_Seq {rows : List (List Fd)} (h : ∀ r ∈ rows, r.length = 3 ∧ ∀ (j : Nat) (g : Fd), r[j]? = some g → DSeq j g) : ∃ l : List Seq3, Fd.sl rows = fSeqS l := by
  induction rows with
  | nil => exact ⟨[], rfl⟩
  | cons r rows ih =>
    obtain ⟨l, hl⟩ := ih fun r hr => h r (by simp [hr])
    injection hl with hl
    subst hl
    obtain ⟨h1, h2⟩ := h r (by simp)
    match r, h1 with
    | [a, b, c], _ =>
      have ha := h2 0 a rfl
      have hb := h2 1 b rfl
      have hc := h2 2 c rfl
      simp only [DSeq] at ha hb hc
      simp only [show (0 : Nat) < 2 by decide, show (1 : Nat) < 2 by decide, show ¬ (2 : Nat) < 2 by decide, if_true, if_false] at ha hb hc
      obtain ⟨x, rfl⟩ := ha
      obtain ⟨y, rfl⟩ := hb
      obtain ⟨rs, rfl, hrs⟩ := hc
      obtain ⟨z, hz⟩ := fints_of hrs
      rw [hz]
      exact ⟨(x, y, z) :: l, rfl⟩

section
variable {H : Type} {enc : TypeId × Value → H} {P : Program} {W : World} {held : Bool} {base b0 : Nat}
theorem openF_ints {t e : TypeId} (ht : P.underlying t = some (.slice e)) (he : P.underlying e = some (.int .i64)) (hC : P.cellsOf e = 1) : OpenF enc P W t (fun f => ∃ rows, f = .sl rows ∧ ∀ r ∈ rows, ∃ g, r = [g] ∧ ∃ x, g = Fd.int x) :=
  openF_sl1 ht hC _ (openF_int he)
theorem op_net {t eS eA tI : TypeId} {f0 f1 f2 f3 s0 s1 s2 a0 a1 : Field} {v : Value} {d : DataW H} {p : List MemPlace} (hs : P.underlying t = some (.struct #[f0, f1, f2, f3])) (hone : oneCellFields P #[f0, f1, f2, f3] = true) (hC : P.cellsOf t = 4)
    (h0 : P.underlying f0.type = some (.int .i64)) (h1 : P.underlying f1.type = some (.slice eS)) (h2 : P.underlying f2.type = some (.slice eA)) (h3 : P.underlying f3.type = some (.slice tI)) (hI : P.underlying tI = some (.int .i64)) (hCI : P.cellsOf tI = 1)
    (hS : P.underlying eS = some (.struct #[s0, s1, s2])) (honeS : oneCellFields P #[s0, s1, s2] = true) (hCS : P.cellsOf eS = 3) (hs0 : P.underlying s0.type = some (.int .i64)) (hs1 : P.underlying s1.type = some (.int .i64)) (hs2 : P.underlying s2.type = some (.slice tI))
    (hA : P.underlying eA = some (.struct #[a0, a1])) (honeA : oneCellFields P #[a0, a1] = true) (hCA : P.cellsOf eA = 2) (ha0 : P.underlying a0.type = some (.int .i64)) (ha1 : P.underlying a1.type = some (.int .i64))
    (hv : Value.okWide P W .any b0 t v) (h : DataW.Trod enc P W base (fun _ => true) held t v d p) (hlt : ∀ x ∈ p, x.block < W.heap.size) :
    ∃ (inp : Int) (As : Option Addr) (ns cs : Nat) (ss : List Seq3) (Aa : Option Addr) (na ca : Nat) (ands : List (Int × Int)) (Ao : Option Addr) (no co : Nat) (outs : List Int),
      v = .agg #[.int .i64 inp, .slice As ns cs, .slice Aa na ca, .slice Ao no co] ∧ NetR W (· < W.heap.size) As ns cs ss Aa na ca ands Ao no co outs := by
  obtain ⟨v0, v1, v2, v3, y0, y1, y2, y3, n, rfl, _, rfl, t0, t1, t2, t3⟩ := Joins.open_agg4 hs hone hC hv h
  obtain ⟨inp, e0, _, _⟩ := DataW.trod_int h0 t0
  simp at e0
  subst e0
  obtain ⟨g1, r1, rows1, rfl, w1⟩ := openF_slS (enc := enc) (W := W) h1 hS honeS hCS (by simp) DSeq (fun j f hf => by
    match j, hf with
    | 0, hf => simp at hf; subst hf; intro b h f v x hx hy; obtain ⟨g, hr, hd⟩ := openF_int (enc := enc) (W := W) hs0 b h f v x hx hy; exact ⟨g, hr, by simpa [DSeq] using hd⟩
    | 1, hf => simp at hf; subst hf; intro b h f v x hx hy; obtain ⟨g, hr, hd⟩ := openF_int (enc := enc) (W := W) hs1 b h f v x hx hy; exact ⟨g, hr, by simpa [DSeq] using hd⟩
    | 2, hf => simp at hf; subst hf; intro b h f v x hx hy; obtain ⟨g, hr, hd⟩ := openF_ints (enc := enc) (W := W) hs2 hI hCI b h f v x hx hy; exact ⟨g, hr, by simpa [DSeq] using hd⟩) base held n v1 y1 t1 (fun z hz => hlt z (by simp [hz]))
  obtain ⟨ss, hss⟩ := rows_Seq w1
  obtain ⟨g2, r2, rows2, rfl, w2⟩ := openF_slS (enc := enc) (W := W) h2 hA honeA hCA (by simp) (fun _ f => ∃ x, f = Fd.int x) (fun j f hf => by
    match j, hf with
    | 0, hf => simp at hf; subst hf; exact openF_int ha0
    | 1, hf => simp at hf; subst hf; exact openF_int ha1) base held n v2 y2 t2 (fun z hz => hlt z (by simp [hz]))
  obtain ⟨ands, hands⟩ := rows_And w2
  obtain ⟨g3, r3, rows3, rfl, w3⟩ := openF_ints (enc := enc) (W := W) h3 hI hCI base held n v3 y3 t3 (fun z hz => hlt z (by simp [hz]))
  obtain ⟨outs, houts⟩ := fints_of w3
  obtain ⟨As, cs, rfl, _⟩ := r1.sl_val
  obtain ⟨Aa, ca, rfl, _⟩ := r2.sl_val
  obtain ⟨Ao, co, rfl, _⟩ := r3.sl_val
  rw [hss] at r1
  rw [hands] at r2
  rw [houts] at r3
  exact ⟨inp, As, _, cs, ss, Aa, _, ca, ands, Ao, _, co, outs, rfl, r1, r2, r3⟩
end
end Go.Proofs.Ytjiijjihkgipkaa

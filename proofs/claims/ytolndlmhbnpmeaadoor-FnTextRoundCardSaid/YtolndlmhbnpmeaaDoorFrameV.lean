/- The row's last step of a law whose road reads the table of signs, once for all. -/
import Derived.Test.YtolndlmhbnpmeaaDoorGb
import Derived.Test.YtolndlmhbnpmeaaDoorTie
import Derived.Test.YtolndlmhbnpmeaaDoorCards
import Derived.OpenVars
import Derived.LaidMore
import Derived.LaidLaws
import Derived.Lay
import Derived.SevenTiedAt
namespace Go.Proofs.YtolndlmhbnpmeaaDoor
open Go.ChangeShapes Go.WideShapes Go.ChangeAt Go.RowKit

def signsLaid : List (String × DataW Unit) := [("loop.example/g03311/impl.signs", Rows.laid_loop_example_g03311_impl_signs)]
/-- the nine words of the table -/
def signsL : List ByteArray := [⟨#[126]⟩, ⟨#[38]⟩, ⟨#[124]⟩, ⟨#[94]⟩, ⟨#[43]⟩, ⟨#[45]⟩, ⟨#[61]⟩, ⟨#[60]⟩, ⟨#[63]⟩]
/-- the table lies at the variable -/
def SignsAt (W : World) : Prop := ∃ (ad : Addr) (cap : Nat), 9 ≤ cap ∧ 0 < W.heap.size ∧ ad.block < W.heap.size ∧ W.cell? ⟨0, 0, none⟩ = some (.slice (some ad) 9 cap) ∧ ∀ (i : Nat) (s : ByteArray), signsL[i]? = some s → W.cell? (ad.add i) = some (.string s)
theorem cell_block {W : World} {p : Addr} {v : Value} (h : W.cell? p = some v) : p.block < W.heap.size := by
 by_cases hb : p.block < W.heap.size
 ·exact hb
 ·exfalso
  have h1 : W.heap[p.block]? = none := Array.getElem?_eq_none (by omega)
  unfold World.cell? at h
  rw [h1] at h
  cases h
theorem signs_of {W : World} (h : laidMetH Tryd.prog signsLaid W) : SignsAt W := by
 rw [MakeChecks.laidMetH_plain _ _ _ (by kernel_rfl)] at h
 obtain ⟨ps, ⟨g, t, cs, fuel, p, q, hg, ht, hv, hd, _, _⟩, _, _⟩ := h
 obtain rfl := Option.some.inj ((show Tryd.prog.globalNamed "loop.example/g03311/impl.signs" = some 0 by kernel_rfl).symm.trans hg)
 obtain rfl := Option.some.inj ((show (Tryd.prog.globals[0]?).map (·.type) = some 38 by kernel_rfl).symm.trans ht)
 obtain ⟨ad, cap, hcs, hle, hel⟩ := open_row (ds := [.lit (.string [126]), .lit (.string [38]), .lit (.string [124]), .lit (.string [94]), .lit (.string [43]), .lit (.string [45]), .lit (.string [61]), .lit (.string [60]), .lit (.string [63])]) Tryd.underlying38 (by kernel_rfl) hd
 have hc0 : W.cell? ⟨0, 0, none⟩ = some (.slice (some ad) 9 cap) := by
  have h1 := World.var?_cell hg hv 0
  rw [h1]
  obtain ⟨l⟩ := cs
  simp only at hcs
  rw [hcs]
  rfl
 have hall : ∀ (i : Nat) (s : ByteArray), signsL[i]? = some s → W.cell? (ad.add i) = some (.string s) := by
  intro i s hs
  have hd' : ∃ d : DataW Unit, ([.lit (.string [126]), .lit (.string [38]), .lit (.string [124]), .lit (.string [94]), .lit (.string [43]), .lit (.string [45]), .lit (.string [61]), .lit (.string [60]), .lit (.string [63])] : List (DataW Unit))[i]? = some d ∧ d = .lit (.string s.data.toList) := by
   unfold signsL at hs
   match i, hs with
   | 0, hs | 1, hs | 2, hs | 3, hs | 4, hs | 5, hs | 6, hs | 7, hs | 8, hs => simp at hs; subst hs; exact ⟨_, rfl, rfl⟩
   | i + 9, hs => simp at hs
  obtain ⟨d, h1, rfl⟩ := hd'
  obtain ⟨v, n, q', h2, h3⟩ := hel i _ h1
  obtain ⟨s', e1, e2, _⟩ := DataW.trod_string Tryd.underlying9 h3
  injection e1 with e1
  subst e1
  injection e2 with e2
  injection e2 with e2
  injection e2 with e2
  rw [h2]
  have : s = s' := by
   cases s; cases s'
   simp only [ByteArray.mk.injEq] at e2 ⊢
   exact Array.toList_inj.1 e2
  rw [this]
 have hlt := cell_block (hall 0 _ rfl)
 rw [block_of_add] at hlt
 exact ⟨ad, cap, by simpa using hle, cell_block hc0, hlt, hc0, hall⟩
theorem SignsAt.below {W W' : World} (h : SignsAt W) (hb : Below W.heap.size W W') : SignsAt W' := by
 obtain ⟨ad, cap, h1, h0, h2, h3, h4⟩ := h
 exact ⟨ad, cap, h1, Nat.lt_of_lt_of_le h0 hb.size, Nat.lt_of_lt_of_le h2 hb.size, (hb.cell h0).trans h3, fun i s hs => (hb.cell (by rw [block_of_add]; exact h2)).trans (h4 i s hs)⟩

section
variable {H : Type} {enc : TypeId × Value → H} {P : Program}
theorem law_postV {f : Func} {s : ChangeSpec} {g : DataW H} (hl : laidOutB P = true) (hts : f.params.toList.all (fun t => P.readableRec t && decide (t < P.types.size)) = true)
  (hsv : varsRowed P s.vars = true) (hres : f.resultTypes = #[4]) (hbool : P.underlying 4 = some .bool)
  {W W' : World} {args : Array Value} {ds : List (DataW H)} {before : List MemPlace} (hW : DataW.Whole enc P f.params.toList s.vars false W args.toList ds [g] before)
  (hfn : (s.fn H (ds ++ [g])).results = [.lit (.bool true)]) (hfa : (s.fn H (ds ++ [g])).args = ds) (hfv : (s.fn H (ds ++ [g])).vars = [g]) (hb : Below W.heap.size W W') :
  s.post enc P f false true false false W args (.bool true) W' := by
 have hlt : ∀ p ∈ before, p.block < W.heap.size := fun p hp => hW.lt p hp
 have hW0 := hW
 obtain ⟨p, q, hA, hV, rfl, hfz, hnd⟩ := hW
 have hold : ∀ x ∈ p ++ q, (fun b => decide (b < W.heap.size)) x.block = true := fun x hx => by simpa using hlt x hx
 refine ⟨ds, [g], p ++ q, [], p, q, hW0, ?_, ?_, ?_, World.keptBut_mono (fun x hx => ⟨hx, ?_⟩) (hb.frame (· ∈ p ++ q)), fun h => by cases h⟩
 ·rw [hfn, hres]; exact trodAll_cons_mk (shut_bool hbool _) trodAll_mk0
 ·rw [hfa]
  refine trodAll_stays hl hb _ _ _ _ (fun t ht => ?_) hA (fun x hx => hlt x (List.mem_append_left _ hx)) (fun x hx => hold x (List.mem_append_left _ hx))
  have := List.all_eq_true.1 hts t ht
  simpa using this
 ·rw [hfv]; exact Below.trodVars hl hb hsv hV
 ·rw [List.mem_append] at hx
  exact Or.inr hx
end
set_option maxRecDepth 100000 in
/-- THE ROW's STEP of a law that reads the table: the walk is the law's own. -/
theorem liftV {F : FuncId} {fn : Func} {s : ChangeSpec} {conds : List PathCond} (noInit : Tryd.prog.inits.idxOf? F = none) (hf : Tryd.prog.funcs[F]? = some fn)
  (hts : fn.params.toList.all (fun t => Tryd.prog.readableRec t && decide (t < Tryd.prog.types.size)) = true)
  (hsv : s.vars = ["loop.example/g03311/impl.signs"]) (hsr : varsRowed Tryd.prog s.vars = true) (hres : fn.resultTypes = #[4])
  (hfn : ∀ (H : Type) (ds : List (DataW H)) (g : DataW H), ds.length = fn.params.toList.length → (s.fn H (ds ++ [g])).results = [.lit (.bool true)] ∧ (s.fn H (ds ++ [g])).args = ds ∧ (s.fn H (ds ++ [g])).vars = [g])
  (walk : ∀ (W : World) (base : Nat) (args : Array Value) (H : Type) (enc : TypeId × Value → H) (ds : List (DataW H)) (p : List MemPlace),
   (∀ (j : Nat) t v, fn.params[j]? = some t → args[j]? = some v → Value.okWide Tryd.prog W .any base t v) →
   DataW.TrodAll enc Tryd.prog W 0 (fun _ => true) true fn.params.toList args.toList ds p → (∀ x ∈ p, x.block < W.heap.size) → SignsAt W →
   Calls Tryd.prog F args W fun e W' => e = .returned (.bool true) ∧ Below W.heap.size W W')
  (os : Os) (started : os.Started) (H : Type) (enc : TypeId × Value → H)
  (witness : ∃ (w : World) (tape : Tape) (i : Input), w.os = os ∧ (w.forCall tape i).Shaped Tryd.checked.prog ∧ i.vars = [] ∧ Input.okWide Tryd.checked.prog (w.forCall tape i) .any w.heap.size F i ∧
   ((s.pre enc Tryd.checked.prog fn conds false (w.forCall tape i).memory i.args ∧ laidMetH Tryd.checked.prog signsLaid (w.forCall tape i).memory) ∧ sizedMet enc Tryd.checked.prog fn (OpenSpec.ofChange s) false (w.forCall tape i).memory i.args) ∧ ({} : Assume).holds Tryd.checked.prog (lone (Frame.enter Tryd.checked.prog F i.args .normal) [] (w.forCall tape i))) :
  ReturnsInHanded {} Tryd.checked os F .any (fun w args => (s.pre enc Tryd.prog fn conds false w args ∧ laidMetH Tryd.prog signsLaid w) ∧ sizedMet enc Tryd.prog fn (OpenSpec.ofChange s) false w args) (s.post enc Tryd.prog fn false true false false) := by
 refine returnsInHanded_of_change_and (C := Tryd.checked) (X := fun w _ => laidMetH Tryd.prog signsLaid w) (fun _ _ _ hh h => h.of_heap hh) own started noInit hf witness ?_
 intro W base args ds gs before hval hW _ _ hL _
 have hW0 := hW
 obtain ⟨p, q, hA, hV, rfl, hfz, hnd⟩ := hW
 have hlt : ∀ x ∈ p ++ q, x.block < W.heap.size := fun x hx => hW0.lt x hx
 refine (walk W base args H enc ds p hval hA (fun x hx => hlt x (by simp [hx])) (signs_of hL)).mono fun e W' he => ⟨_, he.1, ?_⟩
 rw [hsv] at hV
 match gs, hV with
 | [], hV => exact hV.elim
 | [g], hV =>
  have h3 := hfn H ds g (trodAll_len _ _ _ _ hA)
  exact law_postV (P := Tryd.prog) laid hts hsr hres Tryd.underlying4 hW0 h3.1 h3.2.1 h3.2.2 he.2
 | _ :: _ :: _, hV =>
  obtain ⟨_, _, _, _, _, _, _, _, _, _, hV, _⟩ := hV
  exact hV.elim
section
variable {H : Type} {enc : TypeId × Value → H} {P : Program} {W : World} {sp : Nat → Bool} {held : Bool} {base b0 : Nat}
theorem op_agg3 {t : TypeId} {f0 f1 f2 : Field} {v : Value} {d : DataW H} {p : List MemPlace} (hs : P.underlying t = some (.struct #[f0, f1, f2])) (hone : Deep.oneCellFields P #[f0, f1, f2] = true) (hC : P.cellsOf t = 3)
  (h0 : P.underlying f0.type = some (.int .i64)) (h1 : P.underlying f1.type = some (.int .i64)) (h2 : P.underlying f2.type = some (.int .i64))
  (hv : Value.okWide P W .any b0 t v) (h : DataW.Trod enc P W base sp held t v d p) :
  ∃ x y z : Int, v = .agg #[.int .i64 x, .int .i64 y, .int .i64 z] := by
 obtain ⟨c0, c1, c2, y0, y1, y2, m, rfl, rfl, rfl, hy0, hy1, hy2⟩ := Joins.open_agg3 hs hone hC hv h
 obtain ⟨a, e0, _, _⟩ := DataW.trod_int h0 hy0
 obtain ⟨b, e1, _, _⟩ := DataW.trod_int h1 hy1
 obtain ⟨c, e2, _, _⟩ := DataW.trod_int h2 hy2
 simp at e0 e1 e2
 subst e0 e1 e2
 exact ⟨a, b, c, rfl⟩
end
/-- the facts of a row that names a variable, one by one -/
theorem facts_ofV {P : Program} {vs : List TypeId} {f : FuncId} {fn : Func} {s : ChangeSpec} {c : OpenClaim} (h1 : P.mayEnter = true) (h2 : P.liftsFinal = false) (h3 : P.make = some .cut)
  (hl : c.lifted = false) (hm : c.make = .cut) (a1 : c.wf (OpenSpec.ofChange s) = true) (a2 : laidOutB P = true) (a3 : mapsRowed P = true)
  (a4 : (fn.params.all fun x => P.readableRec x) = true) (a5 : namedTie P c.named s.vars = true) (a6 : (c.stops == []) = true) (a7 : (P.stops == []) = true) (a8 : (c.knobs == []) = true) (a9 : (P.stopKnobs == []) = true)
  (b1 : (c.inPlace == P.inPlace f) = true) (b2 : (c.unfollowed == P.unfollowed f) = true) (b3 : (c.recurses == P.recurses f) = true) (b4 : (c.named == P.varsNamed f) = true)
  (hv : s.plain.varTypes P = vs) (hvr : (s.vars.all fun x => P.varReadable x) = true)
  (c1 : (c.maps == (fn.params.toList ++ vs).any fun x => P.mapsRec x) = true) (c2 : (c.ifaces == (fn.params.toList ++ vs).any fun x => P.ifacesRec x) = true) (c3 : (c.mapsOut == P.mapsAmong fn.resultTypes.toList) = true)
  (c4 : (c.loops == (fn.params.toList ++ vs).any fun x => P.loopsFrom x) = true) (c5 : (c.wideKeys == (fn.params.toList ++ vs ++ fn.resultTypes.toList).any fun x => P.wideKeysFrom x) = true)
  (d1 : (fn.resultTypes.all fun t => P.readableRec t && decide (t < P.types.size)) = true) (d2 : (c.ifacesOut == fn.resultTypes.toList.any fun x => P.ifacesRec x) = true) (d3 : (c.loopsOut == fn.resultTypes.toList.any fun x => P.loopsFrom x) = true)
  (d4 : (c.plainKeys == P.plainKeys) = true) (d5 : c.shortTexts.isNone = true) (d6 : P.stopsHeard = true) (e1 : c.domain = []) (e2 : c.kinds = []) (e3 : (c.pinned == c.pinnedBy) = true)
  (g1 : (c.veiled == (fn.params.toList ++ vs ++ fn.resultTypes.toList).any fun x => P.veiledRec x) = true) (g2 : c.veiledFits P fn.params.toList (fn.params.toList ++ vs ++ fn.resultTypes.toList) = true) : joinedFacts P f fn s c = true := by
 unfold joinedFacts
 rw [hv]
 rw [h1, h2, h3, hl, hm, a1, a2, a3, a4, a5, a6, a7, a8, a9, b1, b2, b3, b4, hvr, c1, c2, c3, c4, c5, d1, d2, d3, d4, d5, d6, e1, e2, e3, g1, g2]
 rfl
end Go.Proofs.YtolndlmhbnpmeaaDoor

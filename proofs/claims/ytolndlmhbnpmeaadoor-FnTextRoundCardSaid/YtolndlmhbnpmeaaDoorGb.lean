/- Words and contracts that later texts use. -/
import Derived.Test.YtolndlmhbnpmeaaDoorRows
import Derived.ProofKit
import Derived.WalkKit
import Derived.OpenShut
import Derived.Lib.SmallJoins
import Derived.Deep.Fields
import Derived.Test.YtolndlmhbnpmeaaDoorGa
import Derived.Lib.Hide
import Derived.Test.YtolndlmhbnpmeaaDoorOpS
/- Closed facts on the translation's head (its first words), laid so that the kernel reads the head once: a long head (many laws in one seat) is read word by word. -/
namespace Go.Proofs.YtolndlmhbnpmeaaDoor

set_option maxRecDepth 1000000 in
def initP : {l : List Char // Tryd.prog.initOrder = String.ofList l} := ⟨_, rfl⟩
theorem toL : Tryd.prog.initOrder.toList = initP.1 := (congrArg String.toList initP.2).trans String.toList_ofList

theorem words_app (a r : List Char) (ha : ∀ c ∈ a, c ≠ Char.ofNat 32) : wordsSigns (a ++ Char.ofNat 32 :: r) = a :: wordsSigns r := by
 induction a with
 | nil => rfl
 | cons c a ih =>
  have ih' := ih (fun x hx => ha x (by simp [hx]))
  have hc := ha c (by simp)
  show wordsSigns (c :: (a ++ Char.ofNat 32 :: r)) = _
  rw [wordsSigns.eq_3 _ _ (fun h => hc h), ih']

def hdA : List Char := initP.1.take 7
def hdB : List Char := (initP.1.drop 8).take 64
def hdC : List Char := (initP.1.drop 73).take 3
def hdR : List Char := initP.1.drop 77
set_option maxRecDepth 1000000 in
theorem hd_eq : initP.1 = hdA ++ Char.ofNat 32 :: (hdB ++ Char.ofNat 32 :: (hdC ++ Char.ofNat 32 :: hdR)) := by kernel_rfl
theorem noSp (l : List Char) (h : (l.all fun c => c != Char.ofNat 32) = true) : ∀ c ∈ l, c ≠ Char.ofNat 32 := fun c hc => by
 have := List.all_eq_true.1 h c hc
 simpa using this
theorem words_eq : behindMainWord (wordsSigns Tryd.prog.initOrder.toList) = hdC :: wordsSigns hdR := by
 rw [toL, hd_eq, words_app _ _ (noSp _ (by kernel_rfl)), words_app _ _ (noSp _ (by kernel_rfl)), words_app _ _ (noSp _ (by kernel_rfl))]
 show (if ((hdA == "harness".toList || hdA == "ownmain".toList) && isSumSigns hdB) = true then hdC :: wordsSigns hdR else hdA :: hdB :: hdC :: wordsSigns hdR) = _
 rw [if_pos (by kernel_rfl)]
theorem t1 : (hdC == "gc".toList) = false := by kernel_rfl
theorem t2 : (hdC == "cut".toList) = true := by kernel_rfl
theorem t3 : (hdC == "spec".toList) = false := by kernel_rfl
theorem t4 : (hdC == "carried".toList) = false := by kernel_rfl
theorem t5 (r : List (List Char)) : stripLifts liftWords (hdC :: r) = ([], hdC :: r) := by kernel_rfl
theorem head_of (P : Program) (c : List Char) (r : List (List Char)) (h : behindMainWord (wordsSigns P.initOrder.toList) = c :: r) (h5 : stripLifts liftWords (c :: r) = ([], c :: r)) : P.headLifts = [] := by
 unfold Program.headLifts
 rw [h, h5]
 simp
theorem lift_of (P : Program) (c : List Char) (r : List (List Char)) (h : behindMainWord (wordsSigns P.initOrder.toList) = c :: r) (h4 : (c == "carried".toList) = false) (hh : P.headLifts = []) : P.liftsFinal = false := by
 unfold Program.liftsFinal
 rw [h, hh]
 have h3 : ¬ c = "carried".toList := by simpa using h4
 have h6 : (((c :: r).head?) == some "carried".toList) = false := by simpa using h3
 show (((c :: r).head? == some "carried".toList && _) || _) = false
 rw [h6]
 simp
theorem make_of (P : Program) (c : List Char) (r : List (List Char)) (h : behindMainWord (wordsSigns P.initOrder.toList) = c :: r) (h1 : (c == "gc".toList) = false) (h2 : (c == "cut".toList) = true) (h3 : (c == "spec".toList) = false) : P.make = some .cut := by
 unfold Program.make
 rw [h]
 simp only [h1, h2, h3]
 rfl
theorem may_of (P : Program) (c : List Char) (r : List (List Char)) (h : behindMainWord (wordsSigns P.initOrder.toList) = c :: r) (h2 : (c == "cut".toList) = true) (h5 : stripLifts liftWords (c :: r) = ([], c :: r))
  (hl : P.laysLater = false) (hr : P.bearsReflect = false) (hd : P.doorFits [] = true) : P.mayEnter = true := by
 unfold Program.mayEnter
 rw [h]
 have h6 : ((c :: r).head? == some "cut".toList) = true := by simpa using h2
 simp only [h5, h6, hl, hr, hd]
 simp
theorem headE : Tryd.prog.headLifts = [] := head_of _ _ _ words_eq (t5 _)
theorem liftE : Tryd.prog.liftsFinal = false := lift_of _ _ _ words_eq t4 headE
theorem makeE : Tryd.prog.make = some .cut := make_of _ _ _ words_eq t1 t2 t3
theorem mayE : Tryd.prog.mayEnter = true := may_of _ _ _ words_eq t2 (t5 _) (by kernel_rfl) (by kernel_rfl) (by kernel_rfl)

/-- the facts of a row without variables, one by one -/
theorem facts_of {P : Program} {f : FuncId} {fn : Func} {s : ChangeSpec} {c : OpenClaim} (h1 : P.mayEnter = true) (h2 : P.liftsFinal = false) (h3 : P.make = some .cut)
  (hl : c.lifted = false) (hm : c.make = .cut) (a1 : c.wf (OpenSpec.ofChange s) = true) (a2 : laidOutB P = true) (a3 : mapsRowed P = true)
  (a4 : (fn.params.all fun x => P.readableRec x) = true) (a5 : namedTie P c.named s.vars = true) (a6 : (c.stops == []) = true) (a7 : (P.stops == []) = true) (a8 : (c.knobs == []) = true) (a9 : (P.stopKnobs == []) = true)
  (b1 : (c.inPlace == P.inPlace f) = true) (b2 : (c.unfollowed == P.unfollowed f) = true) (b3 : (c.recurses == P.recurses f) = true) (b4 : (c.named == P.varsNamed f) = true)
  (hv : s.plain.varTypes P = []) (hvr : (s.vars.all fun x => P.varReadable x) = true)
  (c1 : (c.maps == fn.params.toList.any fun x => P.mapsRec x) = true) (c2 : (c.ifaces == fn.params.toList.any fun x => P.ifacesRec x) = true) (c3 : (c.mapsOut == P.mapsAmong fn.resultTypes.toList) = true)
  (c4 : (c.loops == fn.params.toList.any fun x => P.loopsFrom x) = true) (c5 : (c.wideKeys == (fn.params.toList ++ fn.resultTypes.toList).any fun x => P.wideKeysFrom x) = true)
  (d1 : (fn.resultTypes.all fun t => P.readableRec t && decide (t < P.types.size)) = true) (d2 : (c.ifacesOut == fn.resultTypes.toList.any fun x => P.ifacesRec x) = true) (d3 : (c.loopsOut == fn.resultTypes.toList.any fun x => P.loopsFrom x) = true)
  (d4 : (c.plainKeys == P.plainKeys) = true) (d5 : c.shortTexts.isNone = true) (d6 : P.stopsHeard = true) (e1 : c.domain = []) (e2 : c.kinds = []) (e3 : (c.pinned == c.pinnedBy) = true)
  (g1 : (c.veiled == (fn.params.toList ++ fn.resultTypes.toList).any fun x => P.veiledRec x) = true) (g2 : c.veiledFits P fn.params.toList (fn.params.toList ++ fn.resultTypes.toList) = true) : joinedFacts P f fn s c = true := by
 unfold joinedFacts
 rw [hv, List.append_nil]
 rw [h1, h2, h3, hl, hm, a1, a2, a3, a4, a5, a6, a7, a8, a9, b1, b2, b3, b4, hvr, c1, c2, c3, c4, c5, d1, d2, d3, d4, d5, d6, e1, e2, e3, g1, g2]
 rfl
end Go.Proofs.YtolndlmhbnpmeaaDoor

/- The row's last step of a law, once for all: a law that answers true and leaves all old memory as it was meets its row. -/
namespace Go.Proofs.YtolndlmhbnpmeaaDoor
open Go.ChangeShapes Go.WideShapes Go.ChangeAt Go.RowKit

theorem own : ownKnob Tryd.prog.godebug = none := by kernel_rfl
theorem laid : laidOutB Tryd.prog = true := by kernel_rfl

section
variable {H : Type} {enc : TypeId × Value → H} {P : Program}

theorem post_of_below {f : Func} {s : ChangeSpec} {apart fresh handsOn again : Bool} {W W' : World} {args : Array Value} {v : Value} {ds gs : List (DataW H)} {before pa pv : List MemPlace}
  (hW : DataW.Whole enc P f.params.toList s.vars apart W args.toList ds gs before)
  (hres : ∀ (b : Nat) (sp : Nat → Bool) (hd : Bool), DataW.TrodAll enc P W' b sp hd f.resultTypes.toList (v.resultList f.resultTypes.size) (s.fn H (ds ++ gs)).results [])
  (hargs : ∀ sp : Nat → Bool, (∀ p ∈ before, sp p.block = true) → DataW.TrodAll enc P W' 0 sp true f.params.toList args.toList (s.fn H (ds ++ gs)).args pa)
  (hvars : ∀ sp : Nat → Bool, (∀ p ∈ before, sp p.block = true) → DataW.TrodVars enc P W' sp s.vars (s.fn H (ds ++ gs)).vars pv)
  (hps : before = pa ++ pv) (hb : Below W.heap.size W W')
  (hok : ∀ (j : Nat) (t : TypeId) (r : Value), f.resultTypes[j]? = some t → (v.resultList f.resultTypes.size)[j]? = some r → Value.okWide P W' .any 0 t r) :
  s.post enc P f apart fresh handsOn again W args v W' := by
 have hlt : ∀ p ∈ before, p.block < W.heap.size := fun p hp => hW.lt p hp
 have hold : ∀ p ∈ before, (fun b => decide (b < W.heap.size)) p.block = true := fun p hp => by simpa using hlt p hp
 refine ⟨ds, gs, before, [], pa, pv, hW, hres _ _ _, hargs _ hold, hvars _ hold, World.keptBut_mono (fun p hp => ⟨hp, ?_⟩) (hb.frame (· ∈ before)), fun _ => ?_⟩
 ·rw [hps, List.mem_append] at hp
  exact Or.inr hp
 ·obtain ⟨_, _, _, _, _, hz, hn⟩ := hW
  refine ⟨hok, _, _, ([] ++ pa) ++ pv, ⟨[] ++ pa, pv, trodAll_append (hargs _ (fun _ _ => rfl)) (hres _ _ _), hvars _ (fun _ _ => rfl), rfl, ?_, ?_⟩, ?_⟩
  ·intro b off hp
   have hin : MemPlace.cell b off ∈ before := by rw [hps]; simpa using hp
   rw [hb.frozen (hlt _ hin)]
   exact hz b off hin
  ·intro ha
   have := hn ha
   rw [hps] at this
   simpa using this
  ·intro p hp _
   rw [hps]
   simpa using hp

theorem trodAll_stays (hl : laidOutB P = true) {W W' : World} (hb : Below W.heap.size W W') {sp : Nat → Bool} :
  ∀ (ts : List TypeId) (vs : List Value) (ds : List (DataW H)) (ps : List MemPlace), (∀ t ∈ ts, P.readableRec t = true ∧ t < P.types.size) →
   DataW.TrodAll enc P W 0 (fun _ => true) true ts vs ds ps → (∀ x ∈ ps, x.block < W.heap.size) → (∀ x ∈ ps, sp x.block = true) → DataW.TrodAll enc P W' 0 sp true ts vs ds ps
 | [], [], [], _, _, h, _, _ => h
 | t :: ts, v :: vs, d :: ds, ps, hts, h, hlt, hsp => by
  obtain ⟨p, q, h1, h2, rfl⟩ := h
  refine ⟨p, q, WideElems.Trod_stays hl (hts t (by simp)).1 (hts t (by simp)).2 h1 (fun x hx => hb.same (hlt x (by simp [hx]))) (fun x hx => hsp x (by simp [hx])), ?_, rfl⟩
  exact trodAll_stays hl hb ts vs ds q (fun t ht => hts t (by simp [ht])) h2 (fun x hx => hlt x (by simp [hx])) (fun x hx => hsp x (by simp [hx]))
 | [], [], _ :: _, _, _, h, _, _ => h.elim
 | [], _ :: _, _, _, _, h, _, _ => h.elim
 | _ :: _, [], _, _, _, h, _, _ => h.elim
 | _ :: _, _ :: _, [], _, _, h, _, _ => h.elim

theorem law_post {f : Func} {s : ChangeSpec} {fresh handsOn again : Bool} (hl : laidOutB P = true) (hts : f.params.toList.all (fun t => P.readableRec t && decide (t < P.types.size)) = true)
  (hsv : s.vars = []) (hres : f.resultTypes = #[4]) (hbool : P.underlying 4 = some .bool)
  {W W' : World} {args : Array Value} {ds gs : List (DataW H)} {before : List MemPlace} (hW : DataW.Whole enc P f.params.toList s.vars false W args.toList ds gs before)
  (hfn : (s.fn H (ds ++ gs)).results = [.lit (.bool true)]) (hfa : (s.fn H (ds ++ gs)).args = ds) (hfv : (s.fn H (ds ++ gs)).vars = []) (hb : Below W.heap.size W W') :
  s.post enc P f false fresh handsOn again W args (.bool true) W' := by
 have hlt : ∀ p ∈ before, p.block < W.heap.size := fun p hp => hW.lt p hp
 have hW0 := hW
 obtain ⟨p, q, hA, hV, rfl, hfz, hnd⟩ := hW
 rw [hsv] at hV
 have hq : q = [] ∧ gs = [] := by
  cases gs with
  | nil => exact ⟨hV, rfl⟩
  | cons g gs => exact hV.elim
 obtain ⟨rfl, rfl⟩ := hq
 rw [List.append_nil] at hlt
 refine post_of_below (pa := p) (pv := []) hW0 (fun b sp hd => ?_) (fun sp hsp => ?_) (fun sp hsp => ?_) rfl hb ?_
 ·rw [hfn, hres]; exact trodAll_cons_mk (shut_bool hbool _) trodAll_mk0
 ·rw [hfa]
  refine trodAll_stays hl hb _ _ _ _ (fun t ht => ?_) hA hlt (fun x hx => hsp x (by simpa using hx))
  have := List.all_eq_true.1 hts t ht
  simpa using this
 ·rw [hfv, hsv]; exact rfl
 ·exact ok_one hres rfl (okWide_bool_mk hbool _)
end

theorem trodAll_len {H : Type} {enc : TypeId × Value → H} {P : Program} {W : World} {b : Nat} {sp : Nat → Bool} {hd : Bool} : ∀ (ts : List TypeId) (vs : List Value) (ds : List (DataW H)) (ps : List MemPlace),
  DataW.TrodAll enc P W b sp hd ts vs ds ps → ds.length = ts.length
 | [], [], [], _, _ => rfl
 | _ :: ts, _ :: vs, _ :: ds, _, h => by
  obtain ⟨p, q, _, h2, _⟩ := h
  simp [trodAll_len ts vs ds q h2]
 | [], [], _ :: _, _, h => h.elim
 | [], _ :: _, _, _, h => h.elim
 | _ :: _, [], _, _, h => h.elim
 | _ :: _, _ :: _, [], _, h => h.elim

set_option maxRecDepth 100000 in
/-- THE ROW's STEP of a law: all closed facts are handed in; the walk is the law's own. -/
theorem lift {F : FuncId} {fn : Func} {s : ChangeSpec} {conds : List PathCond} (noInit : Tryd.prog.inits.idxOf? F = none) (hf : Tryd.prog.funcs[F]? = some fn)
  (hts : fn.params.toList.all (fun t => Tryd.prog.readableRec t && decide (t < Tryd.prog.types.size)) = true)
  (hsv : s.vars = []) (hres : fn.resultTypes = #[4])
  (hfn : ∀ (H : Type) (ds : List (DataW H)), ds.length = fn.params.toList.length → (s.fn H ds).results = [.lit (.bool true)] ∧ (s.fn H ds).args = ds ∧ (s.fn H ds).vars = [])
  (walk : ∀ (W : World) (base : Nat) (args : Array Value) (H : Type) (enc : TypeId × Value → H) (ds : List (DataW H)) (p : List MemPlace),
   (∀ (j : Nat) t v, fn.params[j]? = some t → args[j]? = some v → Value.okWide Tryd.prog W .any base t v) →
   DataW.TrodAll enc Tryd.prog W 0 (fun _ => true) true fn.params.toList args.toList ds p → (∀ x ∈ p, x.block < W.heap.size) →
   Calls Tryd.prog F args W fun e W' => e = .returned (.bool true) ∧ Below W.heap.size W W')
  (os : Os) (started : os.Started) (H : Type) (enc : TypeId × Value → H)
  (witness : ∃ (w : World) (tape : Tape) (i : Input), w.os = os ∧ (w.forCall tape i).Shaped Tryd.checked.prog ∧ i.vars = [] ∧ Input.okWide Tryd.checked.prog (w.forCall tape i) .any w.heap.size F i ∧
   s.pre6 enc Tryd.checked.prog fn conds false (w.forCall tape i).memory i.args ∧ ({} : Assume).holds Tryd.checked.prog (lone (Frame.enter Tryd.checked.prog F i.args .normal) [] (w.forCall tape i))) :
  ReturnsInHanded {} Tryd.checked os F .any (s.pre6 enc Tryd.prog fn conds false) (s.post enc Tryd.prog fn false true false false) := by
 refine returnsInHanded_of_change (C := Tryd.checked) own started noInit hf witness ?_
 intro W base args ds gs before hval hW _ _
 have hW0 := hW
 obtain ⟨p, q, hA, hV, rfl, hfz, hnd⟩ := hW
 have hlt : ∀ x ∈ p ++ q, x.block < W.heap.size := fun x hx => hW0.lt x hx
 refine (walk W base args H enc ds p hval hA (fun x hx => hlt x (by simp [hx]))).mono fun e W' he => ⟨_, he.1, ?_⟩
 have hgs : gs = [] := by
  rw [hsv] at hV
  cases gs with
  | nil => rfl
  | cons g gs => exact hV.elim
 subst hgs
 have h3 := hfn H ds (trodAll_len _ _ _ _ hA)
 rw [← List.append_nil ds] at h3
 exact law_post (P := Tryd.prog) laid hts hsv hres Tryd.underlying4 hW0 h3.1 (by rw [h3.2.1, List.append_nil]) h3.2.2 he.2

/-! ### how arguments read -/
section
variable {H : Type} {enc : TypeId × Value → H} {P : Program} {W : World} {sp : Nat → Bool} {held : Bool} {base b0 : Nat}
theorem op_int {t : TypeId} {v : Value} {d : DataW H} {p : List MemPlace} (ht : P.underlying t = some (.int .i64)) (hv : Value.okWide P W .any b0 t v)
  (h : DataW.Trod enc P W base sp held t v d p) : ∃ x : Int, v = .int .i64 x ∧ (Lit.int .i64 x).wf = true := by
 obtain ⟨x, rfl, _, _, wx⟩ := open_int ht hv h
 exact ⟨x, rfl, wx⟩
theorem op_agg2 {t : TypeId} {f0 f1 : Field} {v : Value} {d : DataW H} {p : List MemPlace} (hs : P.underlying t = some (.struct #[f0, f1])) (hone : Deep.oneCellFields P #[f0, f1] = true) (hC : P.cellsOf t = 2)
  (h0 : P.underlying f0.type = some (.int .i64)) (h1 : P.underlying f1.type = some (.int .i64))
  (hv : Value.okWide P W .any b0 t v) (h : DataW.Trod enc P W base sp held t v d p) :
  ∃ x y : Int, v = .agg #[.int .i64 x, .int .i64 y] ∧ (Lit.int .i64 x).wf = true ∧ (Lit.int .i64 y).wf = true := by
 obtain ⟨c0, c1, y0, y1, m, rfl, rfl, rfl, hy0, hy1⟩ := Joins.open_agg2 hs hone hC hv h
 obtain ⟨a, e0, _, wa⟩ := DataW.trod_int h0 hy0
 obtain ⟨b, e1, _, wb⟩ := DataW.trod_int h1 hy1
 simp at e0 e1
 subst e0 e1
 exact ⟨a, b, rfl, wa, wb⟩
theorem op_string {t : TypeId} {v : Value} {d : DataW H} {p : List MemPlace} (ht : P.underlying t = some .string) (hv : Value.okWide P W .any b0 t v)
  (h : DataW.Trod enc P W base sp held t v d p) : ∃ s : ByteArray, v = .string s ∧ s.size ≤ maxLen := by
 obtain ⟨s, rfl, _, _, hs⟩ := ChangeMaps.open_string ht hv h
 exact ⟨s, rfl, hs⟩
end

end Go.Proofs.YtolndlmhbnpmeaaDoor

/- How a law's arguments read: a bool. -/
namespace Go.Proofs.YtolndlmhbnpmeaaDoor
open Go.ChangeShapes Go.WideShapes Go.ChangeAt Go.RowKit
section
variable {H : Type} {enc : TypeId × Value → H} {P : Program} {W : World} {sp : Nat → Bool} {held : Bool} {base b0 : Nat}
theorem op_bool {t : TypeId} {v : Value} {d : DataW H} {p : List MemPlace} (ht : P.underlying t = some .bool) (hv : Value.okWide P W .any b0 t v)
  (_h : DataW.Trod enc P W base sp held t v d p) : ∃ b : Bool, v = .bool b := okWide_bool ht hv
end
end Go.Proofs.YtolndlmhbnpmeaaDoor

/- How a law's arguments read: a slice of structs of numbers. -/
namespace Go.Proofs.YtolndlmhbnpmeaaDoor
open Go.ChangeShapes Go.WideShapes Go.ChangeAt Go.RowKit Go.Deep
section
variable {H : Type} {enc : TypeId × Value → H} {P : Program} {w : World} {base : Nat} {spare : Nat → Bool} {held : Bool}
theorem open_slice_fields {t e : TypeId} {fs : Array Field} {fuel : Nat} {cs : List Value} {x : DataW H × List MemPlace} (ht : P.underlying t = some (.slice e)) (he : P.underlying e = some (.struct fs))
  (hone : oneCellFields P fs = true) (hC : P.cellsOf e = fs.size) (h : DataW.trod enc P w base spare held fuel t cs = some x) :
  (cs = [.slice none 0 0] ∧ x = (.nil, [])) ∨
  ∃ (a : Addr) (len cap m : Nat) (D : Nat → DataW H) (Pl : Nat → List MemPlace), cs = [.slice (some a) len cap] ∧ base ≤ a.block ∧ len ≤ cap ∧ cap ≤ maxLen ∧ m = (if spare a.block then cap else len) ∧
   x = (.slice ((List.range len).map D) ((List.range (m - len)).map fun j => D (len + j)), MemPlace.row a (m * fs.size) ++ (List.range m).flatMap Pl) ∧
   ∀ i, i < m → ∃ (ys : List (DataW H × List MemPlace)) (n : Nat), D i = .agg (ys.map (·.1)) ∧ Pl i = ys.flatMap (·.2) ∧ ys.length = fs.size ∧
    ∀ (j : Nat) (f : Field), fs[j]? = some f → ∃ (v : Value) (y : DataW H × List MemPlace), w.cell? (a.add (i * fs.size + j)) = some v ∧ ys[j]? = some y ∧ DataW.trod enc P w base spare held n f.type [v] = some y := by
 rcases open_slice ht h with h0 | ⟨a, len, cap, m, n, D, Pl, hcs, hb, hl, hm, hmm, hx, hi⟩
 ·exact .inl h0
 ·refine .inr ⟨a, len, cap, m, D, Pl, hcs, hb, hl, hm, hmm, by rw [hC] at hx; exact hx, fun i him => ?_⟩
  obtain ⟨cs', hc, ht'⟩ := hi i him
  rw [hC] at hc
  obtain ⟨ys, n', hn', hy, hlen, hyl, hf⟩ := DataW.trod_struct he ht'
  obtain ⟨_, hcl, hat⟩ := World.cells?_some hc
  simp only [Prod.mk.injEq] at hy
  refine ⟨ys, n', hy.1, hy.2, hyl, fun j f hj => ?_⟩
  obtain ⟨ho, hk⟩ := hone_of hone j f hj
  have hjl : j < fs.size := (Array.getElem?_eq_some_iff.1 hj).1
  have hcell := hat j hjl
  have hv : cs'[j]? = some (cs'[j]'(by omega)) := List.getElem?_eq_getElem (by omega)
  have h1 := hf j f hj
  rw [ho, hk] at h1
  have hone' : (cs'.drop j).take 1 = [cs'[j]'(by omega)] := by
   rw [List.drop_eq_getElem_cons (by omega)]
   rfl
  rw [hone'] at h1
  have hys : ys[j]? = some (ys[j]'(by omega)) := List.getElem?_eq_getElem (by omega)
  refine ⟨_, _, ?_, hys, h1.trans hys⟩
  rw [← Go.Deep.add_add, hcell, hv]
end

theorem exists_list {α : Type} {p : Nat → α → Prop} : ∀ n, (∀ i, i < n → ∃ x, p i x) → ∃ l : List α, l.length = n ∧ ∀ i x, l[i]? = some x → p i x
 | 0, _ => ⟨[], rfl, fun i x h => by simp at h⟩
 | n + 1, h => by
  obtain ⟨l, hl, hp⟩ := exists_list n fun i hi => h i (by omega)
  obtain ⟨x, hx⟩ := h n (by omega)
  refine ⟨l ++ [x], by simp [hl], fun i y hy => ?_⟩
  rcases Nat.lt_or_ge i n with hi | hi
  ·rw [List.getElem?_append_left (by omega)] at hy
   exact hp i y hy
  ·have hin : i < (l ++ [x]).length := (List.getElem?_eq_some_iff.1 hy).1
   simp [hl] at hin
   obtain rfl : i = n := by omega
   rw [List.getElem?_append_right (by omega), hl, Nat.sub_self] at hy
   simp at hy
   rw [← hy]
   exact hx

section
variable {H : Type} {enc : TypeId × Value → H} {P : Program} {W : World} {held : Bool} {base b0 : Nat}
/-- a slice of structs of two numbers -/
theorem op_cubes {t e : TypeId} {f0 f1 : Field} {v : Value} {d : DataW H} {p : List MemPlace} (ht : P.underlying t = some (.slice e)) (he : P.underlying e = some (.struct #[f0, f1])) (hone : oneCellFields P #[f0, f1] = true) (hC : P.cellsOf e = 2)
  (h0 : P.underlying f0.type = some (.int .i64)) (h1 : P.underlying f1.type = some (.int .i64)) (hv : Value.okWide P W .any b0 t v)
  (h : DataW.Trod enc P W base (fun _ => true) held t v d p) (hlt : ∀ x ∈ p, x.block < W.heap.size) : ∃ (A : Option Addr) (n c : Nat) (l : List (Int × Int)), v = .slice A n c ∧ n ≤ maxLen ∧ Reads W W.heap.size 2 A n (cbs l) := by
 obtain ⟨a1, len, cap, rfl⟩ := okWide_slice ht hv
 obtain ⟨fuel, hf⟩ := h
 rcases open_slice_fields ht he hone hC hf with ⟨hcs, hx⟩ | ⟨a, len', cap', m, D, Pl, hcs, _, hl, hm, hmm, hx, hfl⟩
 ·simp [Value.cells] at hcs
  obtain ⟨rfl, rfl, rfl⟩ := hcs
  exact ⟨none, 0, 0, [], rfl, by unfold maxLen; omega, Reads.none_⟩
 ·simp [Value.cells] at hcs
  obtain ⟨rfl, rfl, rfl⟩ := hcs
  simp only [Prod.mk.injEq] at hx
  obtain ⟨_, rfl⟩ := hx
  simp only [if_true] at hmm
  subst hmm
  obtain ⟨l, hll, hp⟩ := exists_list (p := fun i (x : Int × Int) => W.cell? (a.add (i * 2)) = some (.int .i64 x.1) ∧ W.cell? (a.add (i * 2 + 1)) = some (.int .i64 x.2)) len (fun i hi => by
   obtain ⟨ys, n, _, _, _, hj⟩ := hfl i (by omega)
   obtain ⟨v0, y0, hc0, _, ht0⟩ := hj 0 f0 rfl
   obtain ⟨v1, y1, hc1, _, ht1⟩ := hj 1 f1 rfl
   obtain ⟨z0, e0, _, _⟩ := DataW.trod_int h0 ht0
   obtain ⟨z1, e1, _, _⟩ := DataW.trod_int h1 ht1
   simp at e0 e1
   subst e0 e1
   exact ⟨(z0, z1), hc0, hc1⟩)
  refine ⟨some a, len, m, l, rfl, by omega, ?_, fun hn => ⟨a, rfl, ?_, fun j u hu => ?_⟩⟩
  ·rw [cbs_len, hll]
  ·have hm0 : 0 < m * 2 := by omega
   exact hlt (.cell a.block (a.off + 0)) (List.mem_append.2 (.inl (MemPlace.mem_row.2 ⟨0, hm0, rfl⟩)))
  ·have hjl : j < (cbs l).length := (List.getElem?_eq_some_iff.1 hu).1
   rw [cbs_len] at hjl
   have hj2 : j = j / 2 * 2 + j % 2 := by omega
   have hg := recs_get cbE_len (j % 2) (by omega) l (j / 2)
   rw [← hj2] at hg
   have hx : l[j / 2]? = some (l[j / 2]'(by omega)) := List.getElem?_eq_getElem (by omega)
   have hpp := hp _ _ hx
   rw [show cbs l = recs cbE l from rfl, hg, hx] at hu
   rcases Nat.mod_two_eq_zero_or_one j with hm2 | hm2
   ·rw [hm2] at hu
    simp [cbE] at hu
    rw [hj2, hm2, Nat.add_zero, hpp.1, ← hu]
   ·rw [hm2] at hu
    simp [cbE] at hu
    rw [hj2, hm2, hpp.2, ← hu]
end
end Go.Proofs.YtolndlmhbnpmeaaDoor

/- How a law's arguments read: slices of rows of data, to any depth. -/
namespace Go.Proofs.YtolndlmhbnpmeaaDoor
open Go.ChangeShapes Go.WideShapes Go.ChangeAt Go.RowKit Go.Deep

section
variable {H : Type} (enc : TypeId × Value → H) (P : Program) (W : World)
/-- what a cell of type t holds reads as a datum of the kind D -/
def OpenF (t : TypeId) (D : Fd → Prop) : Prop :=
 ∀ (base : Nat) (held : Bool) (fuel : Nat) (v : Value) (x : DataW H × List MemPlace), DataW.trod enc P W base (fun _ => true) held fuel t [v] = some x → (∀ y ∈ x.2, y.block < W.heap.size) → ∃ f, RepB W W.heap.size v f ∧ D f
end

section
variable {H : Type} {enc : TypeId × Value → H} {P : Program} {W : World}
theorem openF_int {t : TypeId} (ht : P.underlying t = some (.int .i64)) : OpenF enc P W t (fun f => ∃ x, f = .int x) := by
 intro base held fuel v x h _
 obtain ⟨a, e0, _, _⟩ := DataW.trod_int ht h
 simp at e0
 subst e0
 exact ⟨.int a, .int a, a, rfl⟩

def rowsOf (L : List (List (Value × Fd))) : List (List Fd) := L.map fun r => r.map Prod.snd
theorem rep_of_rows {a : Addr} {len c size : Nat} {L : List (List (Value × Fd))} (hl : L.length = len) (hm : len ≤ maxLen) (hb : 0 < len → a.block < W.heap.size)
  (hL : ∀ i r, L[i]? = some r → r.length = size ∧ ∀ j p, r[j]? = some p → W.cell? (a.add (i * size + j)) = some p.1 ∧ RepB W W.heap.size p.1 p.2) : RepB W W.heap.size (.slice (some a) len c) (.sl (rowsOf L)) := by
 refine .sl (some a) len c size _ (fun i j => (((L[i]?).getD [])[j]?.map Prod.fst).getD undef) (by rw [rowsOf, List.length_map]; exact hl) hm (fun r hr => ?_) (fun h0 => ⟨a, rfl, hb h0, fun i j hi hj => ?_⟩) (fun i j r f hr hf => ?_)
 ·obtain ⟨r', hr', rfl⟩ := List.mem_map.1 hr
  obtain ⟨i, hi⟩ := List.getElem?_of_mem hr'
  rw [List.length_map]
  exact (hL i r' hi).1
 ·have hi' : L[i]? = some (L[i]'(by omega)) := List.getElem?_eq_getElem (by omega)
  obtain ⟨hs, hc⟩ := hL i _ hi'
  have hj' : (L[i]'(by omega))[j]? = some ((L[i]'(by omega))[j]'(by omega)) := List.getElem?_eq_getElem (by omega)
  rw [(hc j _ hj').1]
  simp only [hi', Option.getD_some, hj', Option.map_some]
 ·rw [rowsOf, List.getElem?_map] at hr
  cases hx : L[i]? with
  | none => rw [hx] at hr; cases hr
  | some r' =>
   rw [hx] at hr
   injection hr with hr
   subst hr
   rw [List.getElem?_map] at hf
   cases hy : r'[j]? with
   | none => rw [hy] at hf; cases hf
   | some p =>
    rw [hy] at hf
    injection hf with hf
    subst hf
    simp only [Option.getD_some, hy, Option.map_some]
    exact ((hL i r' hx).2 j p hy).2

theorem openF_slS {t e : TypeId} {fs : Array Field} (ht : P.underlying t = some (.slice e)) (he : P.underlying e = some (.struct fs)) (hone : oneCellFields P fs = true) (hC : P.cellsOf e = fs.size) (h0 : 0 < fs.size) (D : Nat → Fd → Prop)
  (hF : ∀ j f, fs[j]? = some f → OpenF enc P W f.type (D j)) : OpenF enc P W t (fun f => ∃ rows, f = .sl rows ∧ ∀ r ∈ rows, r.length = fs.size ∧ ∀ j g, r[j]? = some g → D j g) := by
 intro base held fuel v x h hlt
 rcases open_slice_fields ht he hone hC h with ⟨hcs, hx⟩ | ⟨a, len, cap, m, D', Pl, hcs, _, hl, hm, hmm, hx, hfl⟩
 ·simp at hcs
  subst hcs
  exact ⟨.sl [], .sl none 0 0 0 [] (fun _ _ => undef) rfl (by unfold maxLen; omega) (by simp) (by simp) (by simp), [], rfl, by simp⟩
 ·simp at hcs
  subst hcs
  subst hx
  simp only [if_true] at hmm
  subst hmm
  obtain ⟨L, hLl, hL⟩ := exists_list (p := fun i (r : List (Value × Fd)) => r.length = fs.size ∧ ∀ j p, r[j]? = some p → W.cell? (a.add (i * fs.size + j)) = some p.1 ∧ RepB W W.heap.size p.1 p.2 ∧ D j p.2) len (fun i hi => by
   obtain ⟨ys, n, _, hPl, hys, hj⟩ := hfl i (by omega)
   obtain ⟨r, hrl, hr⟩ := exists_list (p := fun j (p : Value × Fd) => W.cell? (a.add (i * fs.size + j)) = some p.1 ∧ RepB W W.heap.size p.1 p.2 ∧ D j p.2) fs.size (fun j hjs => by
    obtain ⟨v, y, hc, hy, htr⟩ := hj j (fs[j]) (by simp [hjs])
    obtain ⟨f, hrep, hD⟩ := hF j (fs[j]) (by simp [hjs]) base held n v y htr (fun z hz => hlt z (by
     refine List.mem_append.2 (.inr (List.mem_flatMap.2 ⟨i, List.mem_range.2 (by omega), ?_⟩))
     rw [hPl]
     exact List.mem_flatMap.2 ⟨y, List.mem_of_getElem? hy, hz⟩))
    exact ⟨(v, f), hc, hrep, hD⟩)
   exact ⟨r, hrl, hr⟩)
  refine ⟨.sl (rowsOf L), rep_of_rows (size := fs.size) hLl (by omega) (fun hn => ?_) (fun i r hr => ⟨(hL i r hr).1, fun j p hp => ⟨((hL i r hr).2 j p hp).1, ((hL i r hr).2 j p hp).2.1⟩⟩), rowsOf L, rfl, fun r hr => ?_⟩
  ·have hm0 : 0 < m * fs.size := Nat.mul_pos (by omega) h0
   exact hlt (.cell a.block (a.off + 0)) (List.mem_append.2 (.inl (MemPlace.mem_row.2 ⟨0, hm0, rfl⟩)))
  ·obtain ⟨r', hr', rfl⟩ := List.mem_map.1 hr
   obtain ⟨i, hi⟩ := List.getElem?_of_mem hr'
   obtain ⟨h1, h2⟩ := hL i r' hi
   refine ⟨by rw [List.length_map]; exact h1, fun j g hg => ?_⟩
   rw [List.getElem?_map] at hg
   cases hy : r'[j]? with
   | none => rw [hy] at hg; cases hg
   | some p => rw [hy] at hg; injection hg with hg; subst hg; exact (h2 j p hy).2.2

theorem openF_sl1 {t e : TypeId} (ht : P.underlying t = some (.slice e)) (hC : P.cellsOf e = 1) (D : Fd → Prop) (hF : OpenF enc P W e D) :
  OpenF enc P W t (fun f => ∃ rows, f = .sl rows ∧ ∀ r ∈ rows, ∃ g, r = [g] ∧ D g) := by
 intro base held fuel v x h hlt
 rcases open_slice ht h with ⟨hcs, hx⟩ | ⟨a, len, cap, m, n, D', Pl, hcs, _, hl, hm, hmm, hx, hfl⟩
 ·simp at hcs
  subst hcs
  exact ⟨.sl [], .sl none 0 0 0 [] (fun _ _ => undef) rfl (by unfold maxLen; omega) (by simp) (by simp) (by simp), [], rfl, by simp⟩
 ·simp at hcs
  subst hcs
  subst hx
  simp only [if_true] at hmm
  subst hmm
  rw [hC] at hlt hfl
  obtain ⟨L, hLl, hL⟩ := exists_list (p := fun i (r : List (Value × Fd)) => ∃ p, r = [p] ∧ W.cell? (a.add (i * 1 + 0)) = some p.1 ∧ RepB W W.heap.size p.1 p.2 ∧ D p.2) len (fun i hi => by
   obtain ⟨cs', hc, htr⟩ := hfl i (by omega)
   obtain ⟨_, hcl, hat⟩ := World.cells?_some hc
   match cs', hcl with
   | [v], _ =>
    have hcell := hat 0 (by omega)
    rw [Go.Deep.add_add] at hcell
    obtain ⟨f, hrep, hD⟩ := hF base held n v _ htr (fun z hz => hlt z (List.mem_append.2 (.inr (List.mem_flatMap.2 ⟨i, List.mem_range.2 (by omega), hz⟩))))
    exact ⟨[(v, f)], (v, f), rfl, hcell, hrep, hD⟩)
  refine ⟨.sl (rowsOf L), rep_of_rows (size := 1) hLl (by omega) (fun hn => ?_) (fun i r hr => ?_), rowsOf L, rfl, fun r hr => ?_⟩
  ·exact hlt (.cell a.block (a.off + 0)) (List.mem_append.2 (.inl (MemPlace.mem_row.2 ⟨0, by omega, rfl⟩)))
  ·obtain ⟨p, rfl, h1, h2, _⟩ := hL i r hr
   refine ⟨rfl, fun j q hq => ?_⟩
   cases j with
   | zero => simp at hq; subst hq; exact ⟨h1, h2⟩
   | succ j => simp at hq
  ·obtain ⟨r', hr', rfl⟩ := List.mem_map.1 hr
   obtain ⟨i, hi⟩ := List.getElem?_of_mem hr'
   obtain ⟨p, rfl, _, _, hD⟩ := hL i r' hi
   exact ⟨p.2, rfl, hD⟩
end
end Go.Proofs.YtolndlmhbnpmeaaDoor

/- How a law's arguments read: slices of structs of three numbers; what a slice argument reads as. -/
namespace Go.Proofs.YtolndlmhbnpmeaaDoor
open Go.ChangeShapes Go.WideShapes Go.ChangeAt Go.RowKit Go.Deep

theorem rows_ints {m : Nat} {rows : List (List Fd)} (h : ∀ r ∈ rows, r.length = m ∧ ∀ (j : Nat) (g : Fd), r[j]? = some g → ∃ x, g = Fd.int x) : ∃ l : List (List Int), rows = l.map (fun x => x.map Fd.int) ∧ ∀ x ∈ l, x.length = m := by
 induction rows with
 | nil => exact ⟨[], rfl, by simp⟩
 | cons r rows ih =>
  obtain ⟨l, rfl, hl⟩ := ih fun r hr => h r (by simp [hr])
  obtain ⟨h1, h2⟩ := h r (by simp)
  have hx : ∃ x : List Int, r = x.map Fd.int := by
   clear h1 h
   induction r with
   | nil => exact ⟨[], rfl⟩
   | cons g r ih2 =>
    obtain ⟨x, rfl⟩ := h2 0 g rfl
    obtain ⟨xs, rfl⟩ := ih2 fun j g hg => h2 (j + 1) g (by simpa using hg)
    exact ⟨x :: xs, rfl⟩
  obtain ⟨x, rfl⟩ := hx
  refine ⟨x :: l, rfl, fun y hy => ?_⟩
  rcases List.mem_cons.1 hy with rfl | hy
  ·simpa using h1
  ·exact hl y hy
theorem rows_Op {rows : List (List Fd)} (h : ∀ r ∈ rows, r.length = 3 ∧ ∀ (j : Nat) (g : Fd), r[j]? = some g → ∃ x, g = Fd.int x) : ∃ l : List (Int × Int × Int), Fd.sl rows = frecs eOp l := by
 obtain ⟨l, rfl, hl⟩ := rows_ints h
 clear h
 have : ∃ l' : List (Int × Int × Int), l = l'.map eOp := by
  induction l with
  | nil => exact ⟨[], rfl⟩
  | cons x l ih =>
   obtain ⟨l', rfl⟩ := ih fun y hy => hl y (by simp [hy])
   have hx := hl x (by simp)
   match x, hx with
   | [a, b, c], _ => exact ⟨(a, b, c) :: l', rfl⟩
 obtain ⟨l', rfl⟩ := this
 exact ⟨l', by simp [frecs, frow, List.map_map, Function.comp_def]⟩

section
variable {H : Type} {enc : TypeId × Value → H} {P : Program} {W : World} {held : Bool} {base b0 : Nat}
theorem op_slice {t e : TypeId} {v : Value} {d : DataW H} {p : List MemPlace} {D : Fd → Prop} (hO : OpenF enc P W t D) (ht : P.underlying t = some (.slice e)) (hv : Value.okWide P W .any b0 t v)
  (h : DataW.Trod enc P W base (fun _ => true) held t v d p) (hlt : ∀ x ∈ p, x.block < W.heap.size) : ∃ f, RepB W W.heap.size v f ∧ D f := by
 obtain ⟨a1, len, cap, rfl⟩ := okWide_slice ht hv
 obtain ⟨fuel, hf⟩ := h
 exact hO base held fuel _ _ hf hlt
/-- a slice of structs of three numbers -/
theorem op_ops {t e : TypeId} {f0 f1 f2 : Field} {v : Value} {d : DataW H} {p : List MemPlace} (ht : P.underlying t = some (.slice e)) (he : P.underlying e = some (.struct #[f0, f1, f2])) (hone : oneCellFields P #[f0, f1, f2] = true) (hC : P.cellsOf e = 3)
  (h0 : P.underlying f0.type = some (.int .i64)) (h1 : P.underlying f1.type = some (.int .i64)) (h2 : P.underlying f2.type = some (.int .i64)) (hv : Value.okWide P W .any b0 t v)
  (h : DataW.Trod enc P W base (fun _ => true) held t v d p) (hlt : ∀ x ∈ p, x.block < W.heap.size) : ∃ (A : Option Addr) (n c : Nat) (l : List (Int × Int × Int)), v = .slice A n c ∧ n ≤ maxLen ∧ Reads W W.heap.size 3 A n (recs eOp l) := by
 obtain ⟨f, hrep, rows, rfl, hrows⟩ := op_slice (openF_slS (enc := enc) (W := W) ht he hone hC (by simp) (fun _ f => ∃ x, f = Fd.int x) (fun j f hf => by
  match j, hf with
  | 0, hf => simp at hf; subst hf; exact openF_int h0
  | 1, hf => simp at hf; subst hf; exact openF_int h1
  | 2, hf => simp at hf; subst hf; exact openF_int h2)) ht hv h hlt
 obtain ⟨l, hl⟩ := rows_Op hrows
 obtain ⟨A, c, rfl, hm⟩ := hrep.sl_val
 rw [hl] at hrep
 exact ⟨A, rows.length, c, l, rfl, hm, hrep.to_reads eOp_len (by decide) (fun _ h => h)⟩
end
end Go.Proofs.YtolndlmhbnpmeaaDoor

/- How a law's arguments read: numbers of int64's range in data; a net with such numbers. -/
namespace Go.Proofs.YtolndlmhbnpmeaaDoor
open Go.ChangeShapes Go.WideShapes Go.ChangeAt Go.RowKit Go.Deep

/-- a number of int64's range -/
def wfI (x : Int) : Prop := -9223372036854775808 ≤ x ∧ x ≤ 9223372036854775807
/-- all numbers of the datum are of int64's range -/
inductive Wf : Fd → Prop
 | int (x : Int) (h : wfI x) : Wf (.int x)
 | sl (rows : List (List Fd)) (h : ∀ r ∈ rows, ∀ g ∈ r, Wf g) : Wf (.sl rows)
theorem Wf.num {x : Int} (h : Wf (.int x)) : wfI x := by cases h; assumption
theorem Wf.rows {rows : List (List Fd)} (h : Wf (.sl rows)) : ∀ r ∈ rows, ∀ g ∈ r, Wf g := by cases h; assumption
theorem Wf.map {α : Type} {ra : α → List Fd} {l : List α} (h : Wf (.sl (l.map ra))) {x : α} (hx : x ∈ l) {g : Fd} (hg : g ∈ ra x) : Wf g := h.rows _ (List.mem_map.2 ⟨x, hx, rfl⟩) _ hg

theorem fints_of {rows : List (List Fd)} (h : ∀ r ∈ rows, ∃ g, r = [g] ∧ ∃ x, g = Fd.int x) : ∃ l, Fd.sl rows = fints l := by
 induction rows with
 | nil => exact ⟨[], rfl⟩
 | cons r rows ih =>
  obtain ⟨l, hl⟩ := ih fun r hr => h r (by simp [hr])
  obtain ⟨g, rfl, x, rfl⟩ := h r (by simp)
  injection hl with hl
  subst hl
  exact ⟨x :: l, rfl⟩
section
variable {H : Type} {enc : TypeId × Value → H} {P : Program} {W : World}
theorem OpenF.imp {t : TypeId} {D D' : Fd → Prop} (h : OpenF enc P W t D) (hi : ∀ f, D f → D' f) : OpenF enc P W t D' := fun b hd fu v x hx hl => by
 obtain ⟨f, hr, hf⟩ := h b hd fu v x hx hl
 exact ⟨f, hr, hi f hf⟩
theorem openF_intW {t : TypeId} (ht : P.underlying t = some (.int .i64)) : OpenF enc P W t (fun f => (∃ x, f = .int x) ∧ Wf f) := by
 intro base held fuel v x h _
 obtain ⟨a, e0, _, hw⟩ := DataW.trod_int ht h
 simp at e0
 subst e0
 exact ⟨.int a, .int a, ⟨a, rfl⟩, .int a (by simp [Lit.wf, IntKind.min, IntKind.max, IntKind.signed, IntKind.bits] at hw; exact hw)⟩
theorem openF_slSW {t e : TypeId} {fs : Array Field} (ht : P.underlying t = some (.slice e)) (he : P.underlying e = some (.struct fs)) (hone : oneCellFields P fs = true) (hC : P.cellsOf e = fs.size) (h0 : 0 < fs.size) (D : Nat → Fd → Prop)
  (hF : ∀ j f, fs[j]? = some f → OpenF enc P W f.type (fun g => D j g ∧ Wf g)) : OpenF enc P W t (fun f => (∃ rows, f = .sl rows ∧ ∀ r ∈ rows, r.length = fs.size ∧ ∀ j g, r[j]? = some g → D j g) ∧ Wf f) :=
 (openF_slS ht he hone hC h0 (fun j g => D j g ∧ Wf g) hF).imp fun f hf => by
  obtain ⟨rows, rfl, h⟩ := hf
  refine ⟨⟨rows, rfl, fun r hr => ⟨(h r hr).1, fun j g hg => ((h r hr).2 j g hg).1⟩⟩, .sl rows fun r hr g hg => ?_⟩
  obtain ⟨j, hj⟩ := List.getElem?_of_mem hg
  exact ((h r hr).2 j g hj).2
theorem openF_sl1W {t e : TypeId} (ht : P.underlying t = some (.slice e)) (hC : P.cellsOf e = 1) (D : Fd → Prop) (hF : OpenF enc P W e (fun g => D g ∧ Wf g)) :
  OpenF enc P W t (fun f => (∃ rows, f = .sl rows ∧ ∀ r ∈ rows, ∃ g, r = [g] ∧ D g) ∧ Wf f) :=
 (openF_sl1 ht hC (fun g => D g ∧ Wf g) hF).imp fun f hf => by
  obtain ⟨rows, rfl, h⟩ := hf
  refine ⟨⟨rows, rfl, fun r hr => by obtain ⟨g, e, hd, _⟩ := h r hr; exact ⟨g, e, hd⟩⟩, .sl rows fun r hr g hg => ?_⟩
  obtain ⟨g', rfl, _, hw⟩ := h r hr
  simp at hg
  subst hg
  exact hw
theorem openF_intsW {t e : TypeId} (ht : P.underlying t = some (.slice e)) (he : P.underlying e = some (.int .i64)) (hC : P.cellsOf e = 1) : OpenF enc P W t (fun f => (∃ l, f = fints l) ∧ Wf f) :=
 (openF_sl1W ht hC _ (openF_intW he)).imp fun f hf => by
  obtain ⟨⟨rows, rfl, h⟩, hw⟩ := hf
  obtain ⟨l, hl⟩ := fints_of h
  exact ⟨⟨l, hl⟩, hw⟩
end
end Go.Proofs.YtolndlmhbnpmeaaDoor

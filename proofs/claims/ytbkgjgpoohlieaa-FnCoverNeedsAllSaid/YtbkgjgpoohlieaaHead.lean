/- Closed facts on the translation's head (its first words), laid so that the kernel reads the head once: a long head (many laws in one seat) is read word by word. -/
import Derived.Test.YtbkgjgpoohlieaaRows
import Derived.ProofKit
namespace Go.Proofs.Ytbkgjgpoohlieaa

set_option maxRecDepth 1000000 in
def initP : {l : List Char // Try.prog.initOrder = String.ofList l} := ⟨_, rfl⟩
theorem toL : Try.prog.initOrder.toList = initP.1 := (congrArg String.toList initP.2).trans String.toList_ofList

theorem words_app (a r : List Char) (ha : ∀ c ∈ a, c ≠ Char.ofNat 32) : wordsSigns (a ++ Char.ofNat 32 :: r) = a :: wordsSigns r := by
 induction a with
 | nil => rfl
 | cons c a ih =>
  have ih' := ih (fun x hx => ha x (by simp [hx]))
  have hc := ha c (by simp)
  show wordsSigns (c :: (a ++ Char.ofNat 32 :: r)) = _
  rw [wordsSigns.eq_3 _ _ (fun h => hc h), ih']

def hdA : List Char := initP.1.take 7
def hdB : List Char := (initP.1.drop 8).take 64
def hdC : List Char := (initP.1.drop 73).take 3
def hdR : List Char := initP.1.drop 77
set_option maxRecDepth 1000000 in
theorem hd_eq : initP.1 = hdA ++ Char.ofNat 32 :: (hdB ++ Char.ofNat 32 :: (hdC ++ Char.ofNat 32 :: hdR)) := by kernel_rfl
theorem noSp (l : List Char) (h : (l.all fun c => c != Char.ofNat 32) = true) : ∀ c ∈ l, c ≠ Char.ofNat 32 := fun c hc => by
 have := List.all_eq_true.1 h c hc
 simpa using this
theorem words_eq : behindMainWord (wordsSigns Try.prog.initOrder.toList) = hdC :: wordsSigns hdR := by
 rw [toL, hd_eq, words_app _ _ (noSp _ (by kernel_rfl)), words_app _ _ (noSp _ (by kernel_rfl)), words_app _ _ (noSp _ (by kernel_rfl))]
 show (if ((hdA == "harness".toList || hdA == "ownmain".toList) && isSumSigns hdB) = true then hdC :: wordsSigns hdR else hdA :: hdB :: hdC :: wordsSigns hdR) = _
 rw [if_pos (by kernel_rfl)]
theorem t1 : (hdC == "gc".toList) = false := by kernel_rfl
theorem t2 : (hdC == "cut".toList) = true := by kernel_rfl
theorem t3 : (hdC == "spec".toList) = false := by kernel_rfl
theorem t4 : (hdC == "carried".toList) = false := by kernel_rfl
theorem t5 (r : List (List Char)) : stripLifts liftWords (hdC :: r) = ([], hdC :: r) := by kernel_rfl
theorem head_of (P : Program) (c : List Char) (r : List (List Char)) (h : behindMainWord (wordsSigns P.initOrder.toList) = c :: r) (h5 : stripLifts liftWords (c :: r) = ([], c :: r)) : P.headLifts = [] := by
 unfold Program.headLifts
 rw [h, h5]
 simp
theorem lift_of (P : Program) (c : List Char) (r : List (List Char)) (h : behindMainWord (wordsSigns P.initOrder.toList) = c :: r) (h4 : (c == "carried".toList) = false) (hh : P.headLifts = []) : P.liftsFinal = false := by
 unfold Program.liftsFinal
 rw [h, hh]
 have h3 : ¬ c = "carried".toList := by simpa using h4
 have h6 : (((c :: r).head?) == some "carried".toList) = false := by simpa using h3
 show (((c :: r).head? == some "carried".toList && _) || _) = false
 rw [h6]
 simp
theorem make_of (P : Program) (c : List Char) (r : List (List Char)) (h : behindMainWord (wordsSigns P.initOrder.toList) = c :: r) (h1 : (c == "gc".toList) = false) (h2 : (c == "cut".toList) = true) (h3 : (c == "spec".toList) = false) : P.make = some .cut := by
 unfold Program.make
 rw [h]
 simp only [h1, h2, h3]
 rfl
theorem may_of (P : Program) (c : List Char) (r : List (List Char)) (h : behindMainWord (wordsSigns P.initOrder.toList) = c :: r) (h2 : (c == "cut".toList) = true) (h5 : stripLifts liftWords (c :: r) = ([], c :: r))
  (hl : P.laysLater = false) (hr : P.bearsReflect = false) (hd : P.doorFits [] = true) : P.mayEnter = true := by
 unfold Program.mayEnter
 rw [h]
 have h6 : ((c :: r).head? == some "cut".toList) = true := by simpa using h2
 simp only [h5, h6, hl, hr, hd]
 simp
theorem headE : Try.prog.headLifts = [] := head_of _ _ _ words_eq (t5 _)
theorem liftE : Try.prog.liftsFinal = false := lift_of _ _ _ words_eq t4 headE
theorem makeE : Try.prog.make = some .cut := make_of _ _ _ words_eq t1 t2 t3
theorem mayE : Try.prog.mayEnter = true := may_of _ _ _ words_eq t2 (t5 _) (by kernel_rfl) (by kernel_rfl) (by kernel_rfl)

/-- the facts of a row without variables, one by one -/
theorem facts_of {P : Program} {f : FuncId} {fn : Func} {s : ChangeSpec} {c : OpenClaim} (h1 : P.mayEnter = true) (h2 : P.liftsFinal = false) (h3 : P.make = some .cut)
  (hl : c.lifted = false) (hm : c.make = .cut) (a1 : c.wf (OpenSpec.ofChange s) = true) (a2 : laidOutB P = true) (a3 : mapsRowed P = true)
  (a4 : (fn.params.all fun x => P.readableRec x) = true) (a5 : namedTie P c.named s.vars = true) (a6 : (c.stops == []) = true) (a7 : (P.stops == []) = true) (a8 : (c.knobs == []) = true) (a9 : (P.stopKnobs == []) = true)
  (b1 : (c.inPlace == P.inPlace f) = true) (b2 : (c.unfollowed == P.unfollowed f) = true) (b3 : (c.recurses == P.recurses f) = true) (b4 : (c.named == P.varsNamed f) = true)
  (hv : s.plain.varTypes P = []) (hvr : (s.vars.all fun x => P.varReadable x) = true)
  (c1 : (c.maps == fn.params.toList.any fun x => P.mapsRec x) = true) (c2 : (c.ifaces == fn.params.toList.any fun x => P.ifacesRec x) = true) (c3 : (c.mapsOut == P.mapsAmong fn.resultTypes.toList) = true)
  (c4 : (c.loops == fn.params.toList.any fun x => P.loopsFrom x) = true) (c5 : (c.wideKeys == (fn.params.toList ++ fn.resultTypes.toList).any fun x => P.wideKeysFrom x) = true)
  (d1 : (fn.resultTypes.all fun t => P.readableRec t && decide (t < P.types.size)) = true) (d2 : (c.ifacesOut == fn.resultTypes.toList.any fun x => P.ifacesRec x) = true) (d3 : (c.loopsOut == fn.resultTypes.toList.any fun x => P.loopsFrom x) = true)
  (d4 : (c.plainKeys == P.plainKeys) = true) (d5 : c.shortTexts.isNone = true) (d6 : P.stopsHeard = true) (e1 : c.domain = []) (e2 : c.kinds = []) (e3 : (c.pinned == c.pinnedBy) = true)
  (g1 : (c.veiled == (fn.params.toList ++ fn.resultTypes.toList).any fun x => P.veiledRec x) = true) (g2 : c.veiledFits P fn.params.toList (fn.params.toList ++ fn.resultTypes.toList) = true) : joinedFacts P f fn s c = true := by
 unfold joinedFacts
 rw [hv, List.append_nil]
 rw [h1, h2, h3, hl, hm, a1, a2, a3, a4, a5, a6, a7, a8, a9, b1, b2, b3, b4, hvr, c1, c2, c3, c4, c5, d1, d2, d3, d4, d5, d6, e1, e2, e3, g1, g2]
 rfl
end Go.Proofs.Ytbkgjgpoohlieaa

/- Words and contracts that later texts use. -/
import Derived.Test.YtolndlmhbnpmeaaDoorGa
/- A region that draws its order, with effects that stand in no forced order: it is walked once in each order of the effects. -/
namespace Go.Proofs.YtolndlmhbnpmeaaDoor

section
variable {P : Program} {ops : Array Oper} {md : Region.Mode} {C : World → Prop}

/-- THE FIRST operation of an order, an effect: all other effects wait for it, and what only reads may as well be carried out behind it. -/
theorem wpAnyX_eff' {z : Nat} {Q : Act → World → Prop} {i : Nat} {oi : Oper} {Low : Nat → Prop} (hi : ops[i]? = some oi) (hsel : ∀ (j : Nat) (o : Oper) cs b, ops[j]? = some o → o.op ≠ .select cs b)
  (hri : readB oi = false) (hwait : ∀ j oj, ops[j]? = some oj → j ≠ i → readB oj = false → (∃ f, waitsB md ops i f j = true) ∨ Low j) :
  ∀ (fuel : Nat) (listed : Array Bool) (a : Act) (w : World), C w → Closed md ops listed → (∀ j, Low j → listed.getD j true = true) →
   (∀ j oj, ops[j]? = some oj → j ≠ i → listed.getD j true = false → (∀ e ∈ oj.after, Region.binds md e = true → e.on ≠ i) → oi.apart ops oj = true) →
   i ∈ Region.ready md ops listed → Region.wanted oi (yielded ops a.tmps) = true →
   oi.wp P a w (fun a' w' => (i ≠ z → C w') ∧ wpAnyX P md ops C z Q fuel (listed.setIfInBounds i true) a' w') NoExit → wpAnyX P md ops C z Q (fuel + 1) listed a w := by
 intro fuel
 have here : ∀ (fuel : Nat) (listed : Array Bool) (a : Act) (w : World), Region.wanted oi (yielded ops a.tmps) = true →
   oi.wp P a w (fun a' w' => (i ≠ z → C w') ∧ wpAnyX P md ops C z Q fuel (listed.setIfInBounds i true) a' w') NoExit → xOp P ops C z i (wpAnyX P md ops C z Q fuel (listed.setIfInBounds i true)) a w := by
  intro fuel listed a w hw H
  unfold xOp
  simp only [hi, hw, if_true, hri]
  exact H
 induction fuel with
 | zero =>
  intro listed a w hC _ _ _ hr hw H
  refine ⟨hC, fun h => (by rw [h] at hr; cases hr), fun j hj => ?_⟩
  by_cases hji : j = i
  ·subst hji; exact here 0 listed a w hw H
  ·obtain ⟨u, l, w', H'⟩ := wp_some H
   have := ready_mono hj hji
   rw [H'.2.1] at this
   cases this
 | succ fuel ih =>
  intro listed a w hC hcl hlow hfree hr hw H
  refine ⟨hC, fun h => (by rw [h] at hr; cases hr), fun j hj => ?_⟩
  by_cases hji : j = i
  ·subst hji; exact here (fuel + 1) listed a w hw H
  ·obtain ⟨hjun, oj, hoj, hall⟩ := mem_ready.1 hj
   have hiun := (mem_ready.1 hr).1
   have hji' : ¬ Low j := fun hlt => by rw [hlow j hlt] at hjun; cases hjun
   have hrj : readB oj = true := by
    cases hb : readB oj with
    | true => rfl
    | false =>
     rcases hwait j oj hoj hji hb with ⟨f, hf⟩ | h'
     ·exact absurd hj (waits_not_ready hcl (getD_both' hiun) hf)
     ·exact absurd h' hji'
   have hnot : ∀ e ∈ oj.after, Region.binds md e = true → e.on ≠ i := fun e he hb heq => by
    have h1 := hall e he hb
    rw [heq] at h1
    rw [getD_both' hiun] at h1
    cases h1
   have hap := hfree j oj hoj hji hjun hnot
   obtain ⟨h1, h2, h3⟩ := Oper.apart_spec hap
   have hsj := fun cs b => hsel j oj cs b hoj
   have hsi := fun cs b => hsel i oi cs b hi
   have peek : ∀ (u : Value) (l : List Deferred → List Deferred) (w' : World), wpAnyX P md ops C z Q (fuel + 1) (listed.setIfInBounds i true) ({ a with defers := l a.defers }.put oi.dst u) w' →
     ∃ v, YieldsC P ops C oj v a ∧ wpAnyX P md ops C z Q fuel ((listed.setIfInBounds i true).setIfInBounds j true) (({ a with defers := l a.defers }.put oi.dst u).put oj.dst v) w' := by
    intro u l w' H'
    obtain ⟨v, hy, hk⟩ := yieldsC_of_xOp hoj (.inl hrj) (H'.2.2 j (ready_mono hj hji))
    refine ⟨v, hy.of_same ?_ ?_, hk⟩
    ·rw [put_defers]
     exact ((congrArg (fun f => execOp f oj) (eval_defers (a.put oi.dst u) _)).trans (execOp_put oj hsj a oi.dst u h1)).symm
    ·rw [put_defers]
     exact (wanted_put oj a oi.dst u h1).symm
   obtain ⟨u0, l0, w0, H0⟩ := wp_some H
   obtain ⟨v, hy, _⟩ := peek u0 l0 w0 H0.2
   refine hy.xOp hoj ?_
   refine ih (listed.setIfInBounds j true) (a.put oj.dst v) w hC (hcl.set hj) (fun k hk => ?_) (fun k ok hk hki hun hno => ?_) (ready_mono hr (Ne.symm hji)) ?_ ?_
   ·by_cases hjk : j = k
    ·subst hjk; exact absurd hk hji'
    ·rw [getD_set_ne true hjk]; exact hlow k hk
   ·refine hfree k ok hk hki ?_ hno
    by_cases hjk : j = k
    ·subst hjk; exact hjun
    ·rw [getD_set_ne true hjk] at hun; exact hun
   ·rw [wanted_put oi a oj.dst v h3]; exact hw
   ·refine wp_out (a := a) (b := a.put oj.dst v) (execOp_put oi hsi a oj.dst v h3) (fun u l w' H' => ?_) H
    obtain ⟨v', hy', hk⟩ := peek u l w' H'.2
    refine ⟨H'.1, ?_⟩
    have hvv : v' = v := by
     rcases hy' with ⟨hw1, _, hv1⟩ | ⟨hw1, rfl⟩ <;> rcases hy with ⟨hw2, _, hv2⟩ | ⟨hw2, rfl⟩
     ·exact (hv1 w hC).det (hv2 w hC)
     ·rw [hw1] at hw2; cases hw2
     ·rw [hw1] at hw2; cases hw2
     ·rfl
    subst hvv
    rw [Array.setIfInBounds_comm _ _ hji]
    rw [defers_put, put2 a _ v' u (fun d hd hd' => h2 d hd' hd)]
    exact hk

/-- an operation but for what it waits for -/
def strip (o : Oper) : Oper := { o with after := #[] }
theorem strip_wanted {o o' : Oper} (h : strip o = strip o') (y : Nat → Option Bool) : Region.wanted o y = Region.wanted o' y := by
 have : Region.wanted (strip o) y = Region.wanted (strip o') y := by rw [h]
 exact this
theorem strip_read {o o' : Oper} (h : strip o = strip o') : readB o = readB o' := by
 have : readB (strip o) = readB (strip o') := by rw [h]
 exact this
theorem strip_dst {o o' : Oper} (h : strip o = strip o') : o.dst = o'.dst := by
 have : (strip o).dst = (strip o').dst := by rw [h]
 exact this
theorem strip_exec {o o' : Oper} (h : strip o = strip o') (ρ : Operand → Value) : execOp ρ o = execOp ρ o' := by
 have h1 : execOp ρ (strip o) = execOp ρ (strip o') := by rw [h]
 exact h1
theorem strip_upon {o o' : Oper} (h : strip o = strip o') {a : Act} {K : Act → World → Prop} {Q : Exit → Act → World → Prop} {r : Result Next} (hh : o.upon P a K Q r) : o'.upon P a K Q r := by
 have h1 : (strip o).upon P a K Q r = (strip o').upon P a K Q r := by rw [h]
 have h2 : (strip o).upon P a K Q r = o.upon P a K Q r := rfl
 have h3 : (strip o').upon P a K Q r = o'.upon P a K Q r := rfl
 rw [← h3, ← h1, h2]
 exact hh
theorem strip_wp {o o' : Oper} (h : strip o = strip o') {a : Act} {w : World} {K : Act → World → Prop} {Q : Exit → Act → World → Prop} (hh : o.wp P a w K Q) : o'.wp P a w K Q := by
 unfold Oper.wp at *
 rw [← strip_exec h]
 exact strip_upon h hh
/-- what each operation yields, by its place -/
theorem yielded_strip {ops' : Array Oper} (h : ∀ k : Nat, (ops'[k]?).map strip = (ops[k]?).map strip) (t : Array Value) : yielded ops' t = yielded ops t := by
 have hd : ∀ k : Nat, (ops'[k]?).bind (·.dst) = (ops[k]?).bind (·.dst) := fun k => by
  have h1 := h k
  cases h2 : ops'[k]? with
  | none => cases h3 : ops[k]? with
   | none => rfl
   | some o => rw [h2, h3] at h1; cases h1
  | some o' => cases h3 : ops[k]? with
   | none => rw [h2, h3] at h1; cases h1
   | some o =>
    rw [h2, h3] at h1
    simp only [Option.map_some, Option.some.injEq] at h1
    exact strip_dst h1
 funext k
 unfold yielded
 rw [hd k]

/-- the order: each operation is ready when it comes, apart from what comes later, and an effect has all other effects behind it or ahead of it -/
def ordOkB (md : Region.Mode) (ops : Array Oper) : List Nat → Array Bool → Bool
 | [], listed => (Region.ready md ops listed).isEmpty
 | k :: ks, listed => (Region.ready md ops listed).contains k && Region.free md ops listed k &&
   ((ops[k]?.map readB).getD true || (List.range ops.size).all fun t => t == k || (ops[t]?.map readB).getD true || listed.getD t true || waitsB md ops k ops.size t) &&
   ordOkB md ops ks (listed.setIfInBounds k true)

/-- the walk in that order; l: the operations as the text has them, in that order -/
theorem wpAnyX_ord {ops0 : Array Oper} {Q : Act → World → Prop} (hs : Region.noSelect ops = true) (h0 : ∀ k : Nat, (ops[k]?).map strip = (ops0[k]?).map strip) (hQ : ∀ a w, Q a w → C w) : ∀ (ord : List Nat) (l : List Oper) (listed : Array Bool) (a : Act) (w : World), C w → Closed md ops listed →
  ordOkB md ops ord listed = true → (∀ j : Nat, l[j]? = (ord[j]?).bind fun k => ops0[k]?) → LexE P ops0 C Q l a w → wpAnyX P md ops C ops.size Q ord.length listed a w
 | [], l, listed, a, w, hC, _, hB, hl, h => by
  have : l = [] := by
   apply List.ext_getElem?
   intro j
   rw [hl j]
   simp
  subst this
  unfold LexE at h
  exact ⟨by simpa [ordOkB] using hB, h⟩
 | k :: ks, l, listed, a, w, hC, hcl, hB, hl, h => by
  simp only [ordOkB, Bool.and_eq_true] at hB
  obtain ⟨⟨⟨hr, hf⟩, hch⟩, hB'⟩ := hB
  have hr' : k ∈ Region.ready md ops listed := by simpa using hr
  obtain ⟨_, o', ho', _⟩ := mem_ready.1 hr'
  have hk0 := h0 k
  rw [ho'] at hk0
  cases ho : ops0[k]? with
  | none => rw [ho] at hk0; cases hk0
  | some o =>
   rw [ho] at hk0
   simp only [Option.map_some, Option.some.injEq] at hk0
   have h00 := hl 0
   simp only [List.getElem?_cons_zero, Option.bind_some, ho] at h00
   match l, h00 with
   | x :: rest, h00 =>
    simp only [List.getElem?_cons_zero, Option.some.injEq] at h00
    subst h00
    have hl' : ∀ j : Nat, rest[j]? = (ks[j]?).bind fun k => ops0[k]? := fun j => by have := hl (j + 1); simpa using this
    have hcl' := hcl.set hr'
    have hap := Region.free_spec (md := md) ho' hf
    have hy0 := yielded_strip h0 a.tmps
    unfold LexE at h
    by_cases hw : Region.wanted x (yielded ops0 a.tmps) = true
    ·simp only [hw, if_true] at h
     have hw' : Region.wanted o' (yielded ops a.tmps) = true := by rw [hy0, strip_wanted hk0]; exact hw
     by_cases hrd : readB x = true
     ·simp only [hrd, if_true] at h
      obtain ⟨v, hv, hK⟩ := h
      refine wpAnyX_first (v := v) ho' (Region.noSelect_spec hs) (.inr (.inl rfl)) ks.length listed a w hC hcl hap hr' (.inl ⟨hw', by rw [strip_read hk0]; exact hrd, fun w' hw'' => ?_⟩) ?_
      ·have := hv w' hw''
       unfold ValAt at this ⊢
       rw [strip_exec hk0]
       exact this
      ·rw [strip_dst hk0]
       exact wpAnyX_ord hs h0 hQ ks rest _ _ w hC hcl' hB' hl' hK
     ·have hrd : readB x = false := by simpa using hrd
      simp only [hrd] at h
      have hrd' : readB o' = false := by rw [strip_read hk0]; exact hrd
      refine wpAnyX_eff' (Low := fun j => listed.getD j true = true) ho' (Region.noSelect_spec hs) hrd' (fun j oj hj hne hro => ?_) ks.length listed a w hC hcl (fun _ h => h) hap hr' hw' ?_
      ·rw [ho'] at hch
       simp only [Option.map_some, Option.getD_some, hrd', Bool.false_or, List.all_eq_true, List.mem_range] at hch
       have h1 := hch j (Array.getElem?_eq_some_iff.1 hj).1
       simp only [hj, Option.map_some, Option.getD_some, hro, Bool.or_false, Bool.or_eq_true, beq_iff_eq, hne, false_or] at h1
       rcases h1 with h1 | h1
       ·exact .inr h1
       ·exact .inl ⟨_, h1⟩
      ·refine strip_wp hk0.symm (Oper.wp_mono (fun a' w' hk => ?_) h)
       have hC' : C w' := by
        by_cases hre : rest = []
        ·subst hre
         have h2 := hk.2
         unfold LexE at h2
         exact hQ _ _ h2
        ·exact hk.1 (.inl hre)
       exact ⟨fun _ => hC', wpAnyX_ord hs h0 hQ ks rest _ a' w' hC' hcl' hB' hl' hk.2⟩
    ·have hw : Region.wanted x (yielded ops0 a.tmps) = false := by simpa using hw
     simp only [hw] at h
     have hw' : Region.wanted o' (yielded ops a.tmps) = false := by rw [hy0, strip_wanted hk0]; exact hw
     refine wpAnyX_first (v := undef) ho' (Region.noSelect_spec hs) (.inr (.inl rfl)) ks.length listed a w hC hcl hap hr' (.inr ⟨hw', rfl⟩) ?_
     rw [strip_dst hk0]
     exact wpAnyX_ord hs h0 hQ ks rest _ _ w hC hcl' hB' hl' h

/-! ### an edge more -/
def addE (ops : Array Oper) (j i : Nat) : Array Oper := ops.modify j fun o => { o with after := o.after.push ⟨i, .data⟩ }
theorem addE_size (j i : Nat) : (addE ops j i).size = ops.size := by simp [addE]
theorem addE_get (j i k : Nat) : (addE ops j i)[k]? = (ops[k]?).map fun o => if j = k then { o with after := o.after.push ⟨i, .data⟩ } else o := by
 unfold addE
 rw [Array.getElem?_modify]
 cases ops[k]? with
 | none => simp
 | some o => by_cases h : j = k <;> simp [h]
theorem addE_strip (j i k : Nat) : ((addE ops j i)[k]?).map strip = (ops[k]?).map strip := by
 rw [addE_get]
 cases ops[k]? with
 | none => rfl
 | some o =>
  simp only [Option.map_some]
  by_cases h : j = k <;> simp [h, strip]
theorem addE_ready {j i k : Nat} {listed : Array Bool} : k ∈ Region.ready .any (addE ops j i) listed ↔ k ∈ Region.ready .any ops listed ∧ (k = j → listed.getD i false = true) := by
 rw [mem_ready, mem_ready, addE_get]
 cases ho : ops[k]? with
 | none => simp
 | some o =>
  simp only [Option.map_some, Option.some.injEq, exists_eq_left']
  by_cases h : j = k
  ·subst h
   simp only [if_true, Array.mem_push]
   constructor
   ·rintro ⟨h1, h2⟩
    exact ⟨⟨h1, fun e he hb => h2 e (.inl he) hb⟩, fun _ => h2 _ (.inr rfl) rfl⟩
   ·rintro ⟨⟨h1, h2⟩, h3⟩
    refine ⟨h1, fun e he hb => ?_⟩
    rcases he with he | he
    ·exact h2 e he hb
    ·subst he; exact h3 trivial
  ·simp only [if_neg h]
   constructor
   ·rintro ⟨h1, h2⟩
    exact ⟨⟨h1, h2⟩, fun hc => absurd hc.symm h⟩
   ·rintro ⟨⟨h1, h2⟩, _⟩
    exact ⟨h1, h2⟩
theorem wpOp_strip {ops' : Array Oper} (h : ∀ k : Nat, (ops'[k]?).map strip = (ops[k]?).map strip) {Q : Exit → Act → World → Prop} {i : Nat} {K K' : Act → World → Prop} {a : Act} {w : World} (hK : ∀ a w, K a w → K' a w) (hh : wpOp P ops' Q i K a w) : wpOp P ops Q i K' a w := by
 unfold wpOp at *
 have hi := h i
 cases h1 : ops'[i]? with
 | none => cases h2 : ops[i]? with
  | none => rw [h1] at hh; exact hK _ _ hh
  | some o => rw [h1, h2] at hi; cases hi
 | some o' => cases h2 : ops[i]? with
  | none => rw [h1, h2] at hi; cases hi
  | some o =>
   rw [h1, h2] at hi
   simp only [Option.map_some, Option.some.injEq] at hi
   rw [h1] at hh
   simp only at hh ⊢
   rw [yielded_strip h, strip_wanted hi, strip_dst hi] at hh
   split
   ·rename_i hw
    simp only [hw, if_true] at hh
    rcases hh with hh | ⟨h3, h4⟩
    ·exact .inl (strip_wp hi (Oper.wp_mono hK hh))
    ·refine .inr ⟨?_, h4⟩
     unfold Oper.asks at *
     rw [← strip_exec hi]
     exact h3
   ·rename_i hw
    simp only [hw] at hh
    exact hK _ _ hh
/-- once i is listed the edge is nothing -/
theorem wpAny_addE {Q : Exit → Act → World → Prop} {j i : Nat} : ∀ (fuel : Nat) (listed : Array Bool) (a : Act) (w : World), listed.getD i false = true → wpAny P .any (addE ops j i) Q fuel listed a w → wpAny P .any ops Q fuel listed a w
 | 0, listed, a, w, hi, h => by
  refine ⟨?_, h.2⟩
  rw [List.eq_nil_iff_forall_not_mem]
  intro k hk
  have : k ∈ Region.ready .any (addE ops j i) listed := addE_ready.2 ⟨hk, fun _ => hi⟩
  rw [h.1] at this
  cases this
 | fuel + 1, listed, a, w, hi, h => by
  refine ⟨fun h0 => h.1 ?_, fun k hk => ?_⟩
  ·rw [List.eq_nil_iff_forall_not_mem]
   intro k hk
   have := (addE_ready.1 hk).1
   rw [h0] at this
   cases this
  ·exact wpOp_strip (addE_strip j i) (fun a' w' h' => wpAny_addE fuel _ a' w' (getD_set_true hi) h') (h.2 k (addE_ready.2 ⟨hk, fun _ => hi⟩))
/-- no function is entered -/
def plainB (o : Oper) : Bool :=
 match o.op with
 | .move _ | .assign _ | .pick .. | .binOp .. | .unOp .. | .convert .. | .slice .. | .fieldAddr .. | .field .. | .indexAddr .. | .index .. | .extract .. | .load .. | .build .. | .buildSlice .. | .makeSlice .. | .box .. | .alloc .. | .store .. => true
 | .call c => match c.callee with | .builtin .len | .builtin .append => true | _ => false
 | _ => false
theorem plainV {s : Sem Value} {w w' : World} {n : Next} (h : ((do pure (Next.value (← s))) : Sem Next).run P w = .ok n w') : (∃ v, n = .value v) ∨ n = .skip := by
 rw [Sem.run_bind] at h
 cases hr : s.run P w with
 | halt x w1 => rw [hr] at h; simp at h
 | ok v w1 =>
  rw [hr] at h
  simp only [Result.andThen_ok, Sem.run_pure, Result.ok.injEq] at h
  exact .inl ⟨v, h.1.symm⟩
theorem plainU {s : Sem Unit} {w w' : World} {n : Next} (h : ((do s; pure Next.skip) : Sem Next).run P w = .ok n w') : (∃ v, n = .value v) ∨ n = .skip := by
 rw [Sem.run_bind] at h
 cases hr : s.run P w with
 | halt x w1 => rw [hr] at h; simp at h
 | ok v w1 =>
  rw [hr] at h
  simp only [Result.andThen_ok, Sem.run_pure, Result.ok.injEq] at h
  exact .inr h.1.symm
theorem plain_next {o : Oper} (h : plainB o = true) {ρ : Operand → Value} {w : World} {n : Next} {w' : World} (hr : (execOp ρ o).run P w = .ok n w') : (∃ v, n = .value v) ∨ n = .skip := by
 unfold plainB at h
 unfold execOp at hr
 cases hop : o.op <;> rw [hop] at h hr <;> simp only [] at h hr
 case call c =>
  split at h
  all_goals try cases h
  all_goals
   rename_i hb
   simp only [resolve, hb, Sem.run_bind, Sem.run_pure, Result.andThen_ok, invoke] at hr
   simp only [builtin] at hr
   exact plainV hr
 all_goals first
  | exact plainV hr
  | exact plainU hr
  | (simp only [Sem.run_pure, Result.ok.injEq] at hr; exact .inl ⟨_, hr.1.symm⟩)
  | (cases h; done)
  | (rw [Sem.run_bind] at hr; revert hr; generalize Sem.run P _ w = r; intro hr; cases r <;> simp at hr; exact .inl ⟨_, hr.1.symm⟩)
theorem wp_and {o : Oper} (h : plainB o = true) {a : Act} {w : World} {K K' : Act → World → Prop} {Q : Exit → Act → World → Prop} (h1 : o.wp P a w K Q) (h2 : o.wp P a w K' Q) : o.wp P a w (fun a w => K a w ∧ K' a w) Q := by
 unfold Oper.wp at *
 have hn := fun n w' => @plain_next P o h a.eval w n w'
 generalize (execOp a.eval o).run P w = r at *
 cases r with
 | ok n w' =>
  rcases hn n w' rfl with ⟨v, rfl⟩ | rfl
  ·simp only [Oper.upon] at h1 h2 ⊢; exact ⟨h1, h2⟩
  ·simp only [Oper.upon] at h1 h2 ⊢; exact ⟨h1, h2⟩
 | halt x w' => cases x <;> simp only [Oper.upon] at h1 h2 ⊢ <;> exact h1
theorem wpOp_and {k : Nat} (h : ∀ o, ops[k]? = some o → plainB o = true) {a : Act} {w : World} {K K' : Act → World → Prop} {Q : Exit → Act → World → Prop} (h1 : wpOp P ops Q k K a w) (h2 : wpOp P ops Q k K' a w) : wpOp P ops Q k (fun a w => K a w ∧ K' a w) a w := by
 unfold wpOp at *
 cases ho : ops[k]? with
 | none => rw [ho] at h1 h2; exact ⟨h1, h2⟩
 | some o =>
  rw [ho] at h1 h2
  simp only at h1 h2 ⊢
  split
  ·rename_i hw
   simp only [hw, if_true] at h1 h2
   rcases h1 with h1 | h1
   ·rcases h2 with h2 | h2
    ·exact .inl (wp_and (h o ho) h1 h2)
    ·exact .inr h2
   ·exact .inr h1
  ·rename_i hw
   simp only [hw] at h1 h2
   exact ⟨h1, h2⟩
/-- two operations in either order -/
theorem wpAny_split {Q : Exit → Act → World → Prop} {i j : Nat} (hij : i ≠ j) (hw : ∀ k o, k ≠ i → k ≠ j → ops[k]? = some o → plainB o = true ∨ (∃ f, waitsB .any ops i f k = true)) :
  ∀ (fuel : Nat) (listed : Array Bool) (a : Act) (w : World), Closed .any ops listed → listed.getD i false = false → listed.getD j false = false →
   wpAny P .any (addE ops j i) Q fuel listed a w → wpAny P .any (addE ops i j) Q fuel listed a w → wpAny P .any ops Q fuel listed a w
 | 0, listed, a, w, hcl, hi, hj, h1, h2 => by
  refine ⟨?_, h1.2⟩
  rw [List.eq_nil_iff_forall_not_mem]
  intro k hk
  by_cases hkj : k = j
  ·have := (addE_ready (i := j) (j := i)).2 ⟨hk, fun hc => absurd (hc.symm.trans hkj) hij⟩
   rw [h2.1] at this; cases this
  ·have := (addE_ready (i := i) (j := j)).2 ⟨hk, fun hc => absurd hc hkj⟩
   rw [h1.1] at this; cases this
 | fuel + 1, listed, a, w, hcl, hi, hj, h1, h2 => by
  refine ⟨fun h0 => h1.1 ?_, fun k hk => ?_⟩
  ·rw [List.eq_nil_iff_forall_not_mem]
   intro k hk
   have := (addE_ready.1 hk).1
   rw [h0] at this
   cases this
  ·have hkl : k < listed.size := by
    have h3 := (mem_ready.1 hk).1
    rcases Nat.lt_or_ge k listed.size with h' | h'
    ·exact h'
    ·simp [Array.getElem?_eq_none h'] at h3
   have hset : (listed.setIfInBounds k true).getD k false = true := by simp [hkl]
   by_cases hki : k = i
   ·subst hki
    exact wpOp_strip (addE_strip j k) (fun a' w' h' => wpAny_addE fuel _ a' w' hset h') (h1.2 k (addE_ready.2 ⟨hk, fun hc => absurd hc hij⟩))
   ·by_cases hkj : k = j
    ·subst hkj
     exact wpOp_strip (addE_strip i k) (fun a' w' h' => wpAny_addE fuel _ a' w' hset h') (h2.2 k (addE_ready.2 ⟨hk, fun hc => absurd hc.symm hij⟩))
    ·have g1 := wpOp_strip (addE_strip j i) (fun a' w' h' => h') (h1.2 k (addE_ready.2 ⟨hk, fun hc => absurd hc hkj⟩))
     have g2 := wpOp_strip (addE_strip i j) (fun a' w' h' => h') (h2.2 k (addE_ready.2 ⟨hk, fun hc => absurd hc hki⟩))
     refine wpOp_mono (fun a' w' h' => wpAny_split hij hw fuel _ a' w' (hcl.set hk) (by rw [getD_set_ne false hki]; exact hi) (by rw [getD_set_ne false hkj]; exact hj) h'.1 h'.2) (wpOp_and (fun o ho => ?_) g1 g2)
     rcases hw k o hki hkj ho with h3 | ⟨f, h3⟩
     ·exact h3
     ·exact absurd hk (waits_not_ready hcl hi h3)

/-- which orders are walked: a leaf is an order, a node tells two operations that come in either order -/
inductive OrdT where
 | leaf (ord : List Nat)
 | node (i j : Nat) (x y : OrdT)
def OrdT.orders : OrdT → List (List Nat)
 | .leaf o => [o]
 | .node _ _ x y => x.orders ++ y.orders
def OrdT.ok (ops : Array Oper) : OrdT → Bool
 | .leaf o => o.length == ops.size && ordOkB .any ops o (Array.replicate ops.size false)
 | .node i j x y => i != j && ((List.range ops.size).all fun k => k == i || k == j || (ops[k]?.map plainB).getD true || waitsB .any ops i ops.size k) && x.ok (addE ops j i) && y.ok (addE ops i j)
def ordOps (l : List Oper) (ord : List Nat) : List Oper := ord.filterMap fun k => l[k]?
/-- .. all of them -/
def AllL (p : List Nat → Prop) : List (List Nat) → Prop
 | [] => True
 | o :: l => p o ∧ AllL p l
theorem AllL.app {p : List Nat → Prop} : ∀ {a b : List (List Nat)}, AllL p (a ++ b) → AllL p a ∧ AllL p b
 | [], _, h => ⟨trivial, h⟩
 | _ :: a, _b, h => ⟨⟨h.1, (AllL.app (a := a) h.2).1⟩, (AllL.app (a := a) h.2).2⟩
theorem ordOkB_mem : ∀ {ord : List Nat} {listed : Array Bool}, ordOkB md ops ord listed = true → ∀ k ∈ ord, k < ops.size
 | [], _, _, _, hk => by cases hk
 | x :: ord, listed, h, k, hk => by
  simp only [ordOkB, Bool.and_eq_true] at h
  obtain ⟨⟨⟨hr, _⟩, _⟩, h'⟩ := h
  rcases List.mem_cons.1 hk with rfl | hk
  ·have hr' : k ∈ Region.ready md ops listed := by simpa using hr
   obtain ⟨_, o, ho, _⟩ := mem_ready.1 hr'
   exact (Array.getElem?_eq_some_iff.1 ho).1
  ·exact ordOkB_mem h' k hk
theorem filterMap_all {f : Nat → Option Oper} : ∀ {ord : List Nat}, (∀ k ∈ ord, ∃ o, f k = some o) → ∀ j : Nat, (ord.filterMap f)[j]? = (ord[j]?).bind f
 | [], _, j => by simp
 | k :: ord, h, j => by
  obtain ⟨o, ho⟩ := h k (List.mem_cons_self ..)
  rw [List.filterMap_cons, ho]
  cases j with
  | zero => simp [ho]
  | succ j => simpa using filterMap_all (ord := ord) (fun k hk => h k (List.mem_cons_of_mem _ hk)) j
theorem closed_none (ops : Array Oper) : Closed .any ops (Array.replicate ops.size false) := fun j oj _ hl => by simp [Array.getElem?_replicate] at hl; split at hl <;> simp at hl
theorem unlisted (n i : Nat) : (Array.replicate n false).getD i false = false := by
 simp [Array.getElem?_replicate]
 split <;> rfl
theorem wpAny_tree {l : List Oper} (hs : Region.noSelect l.toArray = true) {Q : Exit → Act → World → Prop} {a : Act} {w : World} (hC : C w) : ∀ (t : OrdT) (ops : Array Oper), ops.size = l.length → (∀ k : Nat, (ops[k]?).map strip = (l.toArray[k]?).map strip) → Region.noSelect ops = true → t.ok ops = true →
  AllL (fun o => LexE P l.toArray C (fun a' w' => C w' ∧ Q .normal a' w') (ordOps l o) a w) t.orders → wpAny P .any ops Q ops.size (Array.replicate ops.size false) a w
 | .leaf o, ops, hz, h0, hns, hB, h => by
  simp only [OrdT.ok, Bool.and_eq_true, beq_iff_eq] at hB
  have h1 := wpAnyX_ord (P := P) (C := C) (md := .any) hns h0 (Q := fun a' w' => C w' ∧ Q .normal a' w') (fun _ _ h => h.1) o (ordOps l o) (Array.replicate ops.size false) a w hC (closed_none ops) hB.2 (fun j => by
   have h2 := filterMap_all (f := fun k => l[k]?) (ord := o) (fun k hk => by
    have := ordOkB_mem hB.2 k hk
    exact ⟨_, List.getElem?_eq_getElem (by omega)⟩) j
   rw [ordOps, h2]
   simp) h.1
  rw [hB.1] at h1
  exact wpAny_of_X (fun a' w' h => h.2) _ _ _ _ h1
 | .node i j x y, ops, hz, h0, hns, hB, h => by
  simp only [OrdT.ok, Bool.and_eq_true, bne_iff_ne] at hB
  obtain ⟨⟨⟨hij, hw⟩, hx⟩, hy⟩ := hB
  obtain ⟨hx', hy'⟩ := AllL.app h
  have hsel : ∀ p q, Region.noSelect (addE ops p q) = true := fun p q => by
   unfold Region.noSelect
   rw [Array.all_eq_true_iff_forall_mem]
   intro o ho
   obtain ⟨k, hk⟩ := Array.mem_iff_getElem?.1 ho
   rw [addE_get] at hk
   cases ho2 : ops[k]? with
   | none => rw [ho2] at hk; cases hk
   | some o2 =>
    rw [ho2] at hk
    simp only [Option.map_some, Option.some.injEq] at hk
    have h3 := Region.noSelect_spec hns k o2
    have hop : o.op = o2.op := by rw [← hk]; split <;> rfl
    rw [hop]
    cases hq : o2.op <;> simp only []
    case select cs b => exact absurd hq (h3 cs b ho2)
  have g1 := wpAny_tree hs hC x (addE ops j i) (by rw [addE_size]; exact hz) (fun k => (addE_strip j i k).trans (h0 k)) (hsel j i) hx hx'
  have g2 := wpAny_tree hs hC y (addE ops i j) (by rw [addE_size]; exact hz) (fun k => (addE_strip i j k).trans (h0 k)) (hsel i j) hy hy'
  rw [addE_size] at g1 g2
  refine wpAny_split hij (fun k o hki hkj ho => ?_) ops.size _ a w (closed_none ops) (unlisted _ _) (unlisted _ _) g1 g2
  have h1 := List.all_eq_true.1 hw k (List.mem_range.2 (Array.getElem?_eq_some_iff.1 ho).1)
  simp only [ho, Option.map_some, Option.getD_some, Bool.or_eq_true, beq_iff_eq, hki, hkj, false_or] at h1
  rcases h1 with h1 | h1
  ·exact .inl h1
  ·exact .inr ⟨_, h1⟩
/-- THE LAW: a region is walked once in each order. -/
theorem wp_region_tree {id : Nat} {Q : Exit → Act → World → Prop} {a : Act} {w : World} {l : List Oper} (t : OrdT) (hm : P.follows .mixedOrders = true) (hB : (Region.noSelect l.toArray && t.ok l.toArray) = true) (C : World → Prop) (hC : C w.drew)
  (h : Nonempty (Wd C) → AllL (fun o => LexE P l.toArray (Cls C) (fun a' w' => Cls C w' ∧ Q .normal a' w') (ordOps l o) a w.drew) t.orders) : (Code.region id l.toArray true).wp P Q a w := by
 simp only [Bool.and_eq_true] at hB
 exact wp_region_any hm (wpAny_tree hB.1 (Cls.mk' hC) t l.toArray (by simp) (fun _ => rfl) hB.1 hB.2 (h ⟨⟨_, hC⟩⟩))
end
end Go.Proofs.YtolndlmhbnpmeaaDoor

/- XLex and XOrd once more, with a list X: the results of those reads that are walked as effects (printed by wip/mklexm.py). -/
namespace Go.Proofs.YtolndlmhbnpmeaaDoor.LM

section
variable {X : List Nat} {P : Program} {ops : Array Oper} {md : Region.Mode} {C : World → Prop} {z : Nat}
/-- what only reads and is not in the list -/
def rdB (X : List Nat) (o : Oper) : Bool := readB o && !(X.any fun k => o.dst == some k)
theorem rdB_read {o : Oper} (h : rdB X o = true) : readB o = true := by
 unfold rdB at h
 simp only [Bool.and_eq_true] at h
 exact h.1
/-- one operation of the walk -/
def xOp (X : List Nat) (P : Program) (ops : Array Oper) (C : World → Prop) (z : Nat) (i : Nat) (K : Act → World → Prop) (a : Act) (w : World) : Prop :=
 match ops[i]? with
 | none => K a w
 | some o => if Region.wanted o (yielded ops a.tmps) then
   (if rdB X o then ∃ v, (∀ w, C w → ValAt P o a w v) ∧ K (a.put o.dst v) w else o.wp P a w (fun a' w' => (i ≠ z → C w') ∧ K a' w') NoExit)
  else K (a.put o.dst undef) w
theorem xOp_mono {i : Nat} {a : Act} {w : World} {K K' : Act → World → Prop} (h : ∀ a w, K a w → K' a w) (hh : xOp X P ops C z i K a w) : xOp X P ops C z i K' a w := by
 unfold xOp at *
 split
 ·exact h _ _ (by simpa [*] using hh)
 ·rename_i o ho
  simp only [ho] at hh
  split
  ·rename_i hw
   simp only [hw, if_true] at hh
   split
   ·rename_i hr; simp only [hr, if_true] at hh; obtain ⟨v, h1, h2⟩ := hh; exact ⟨v, h1, h _ _ h2⟩
   ·rename_i hr; simp only [hr] at hh; exact Oper.wp_mono (fun a' w' hk => ⟨hk.1, h _ _ hk.2⟩) hh
  ·rename_i hw; simp only [hw] at hh; exact h _ _ hh
theorem xOp_monoC {i : Nat} {a : Act} {w : World} {K K' : Act → World → Prop} (hC : C w) (h : ∀ a w, (i ≠ z → C w) → K a w → K' a w) (hh : xOp X P ops C z i K a w) : xOp X P ops C z i K' a w := by
 unfold xOp at *
 split
 ·exact h _ _ (fun _ => hC) (by simpa [*] using hh)
 ·rename_i o ho
  simp only [ho] at hh
  split
  ·rename_i hw
   simp only [hw, if_true] at hh
   split
   ·rename_i hr; simp only [hr, if_true] at hh; obtain ⟨v, h1, h2⟩ := hh; exact ⟨v, h1, h _ _ (fun _ => hC) h2⟩
   ·rename_i hr; simp only [hr] at hh; exact Oper.wp_mono (fun a' w' hk => ⟨hk.1, h _ _ hk.1 hk.2⟩) hh
  ·rename_i hw; simp only [hw] at hh; exact h _ _ (fun _ => hC) hh
/-- whatever order is picked from here on -/
def wpAnyX (X : List Nat) (P : Program) (md : Region.Mode) (ops : Array Oper) (C : World → Prop) (z : Nat) (Q : Act → World → Prop) : Nat → Array Bool → Act → World → Prop
 | 0, listed, a, w => Region.ready md ops listed = [] ∧ Q a w
 | fuel + 1, listed, a, w => C w ∧ (Region.ready md ops listed = [] → Q a w) ∧
  ∀ i ∈ Region.ready md ops listed, xOp X P ops C z i (wpAnyX X P md ops C z Q fuel (listed.setIfInBounds i true)) a w
theorem wpOp_of_xOp {i : Nat} {a : Act} {w : World} {K : Act → World → Prop} {Q : Exit → Act → World → Prop} (hC : C w) (hh : xOp X P ops C z i K a w) : wpOp P ops Q i K a w := by
 unfold xOp at hh
 unfold wpOp
 split
 ·rename_i ho; simp only [ho] at hh; exact hh
 ·rename_i o ho
  simp only [ho] at hh
  split
  ·rename_i hw
   simp only [hw, if_true] at hh
   split at hh
   ·obtain ⟨v, h1, h2⟩ := hh; exact .inl (wp_of_val (h1 w hC) h2)
   ·exact .inl (upon_noExit (Oper.wp_mono (fun _ _ hk => hk.2) hh))
  ·rename_i hw; simp only [hw] at hh; exact hh
theorem wpAny_of_X {Q : Act → World → Prop} {Q' : Exit → Act → World → Prop} (hQ : ∀ a w, Q a w → Q' .normal a w) : ∀ (fuel : Nat) (listed : Array Bool) (a : Act) (w : World),
  wpAnyX X P md ops C z Q fuel listed a w → wpAny P md ops Q' fuel listed a w
 | 0, _, _, _, h => ⟨h.1, hQ _ _ h.2⟩
 | fuel + 1, _, _, _, h => ⟨fun h0 => hQ _ _ (h.2.1 h0), fun i hi => wpOp_mono (fun a' w' => wpAny_of_X hQ fuel _ a' w') (wpOp_of_xOp h.1 (h.2.2 i hi))⟩
/-- operation o yields v in every world of the class (or is passed over) -/
def YieldsC (X : List Nat) (P : Program) (ops : Array Oper) (C : World → Prop) (o : Oper) (v : Value) (a : Act) : Prop :=
 (Region.wanted o (yielded ops a.tmps) = true ∧ rdB X o = true ∧ ∀ w, C w → ValAt P o a w v) ∨ (Region.wanted o (yielded ops a.tmps) = false ∧ v = undef)
theorem YieldsC.xOp {i : Nat} {o : Oper} {v : Value} {a : Act} {w : World} (hi : ops[i]? = some o) (hy : YieldsC X P ops C o v a) {K : Act → World → Prop} (h : K (a.put o.dst v) w) : xOp X P ops C z i K a w := by
 unfold Go.Proofs.YtolndlmhbnpmeaaDoor.LM.xOp
 simp only [hi]
 rcases hy with ⟨hw, hr, hv⟩ | ⟨hw, rfl⟩
 ·simp only [hw, if_true, hr]; exact ⟨v, hv, h⟩
 ·simp only [hw, Bool.false_eq_true, if_false]; exact h
theorem YieldsC.of_same {o : Oper} {v : Value} {a a' : Act} (hy : YieldsC X P ops C o v a) (he : execOp a'.eval o = execOp a.eval o)
  (hw : Region.wanted o (yielded ops a'.tmps) = Region.wanted o (yielded ops a.tmps)) : YieldsC X P ops C o v a' := by
 unfold YieldsC ValAt at *
 rw [he, hw]
 exact hy
theorem yieldsC_of_xOp {i : Nat} {o : Oper} {a : Act} {w : World} {K : Act → World → Prop} (hi : ops[i]? = some o) (hr : rdB X o = true ∨ Region.wanted o (yielded ops a.tmps) = false) (h : xOp X P ops C z i K a w) :
  ∃ v, YieldsC X P ops C o v a ∧ K (a.put o.dst v) w := by
 unfold xOp at h
 simp only [hi] at h
 by_cases hw : Region.wanted o (yielded ops a.tmps) = true
 ·rcases hr with hr | hr
  ·simp only [hw, if_true, hr] at h
   obtain ⟨v, h1, h2⟩ := h
   exact ⟨v, .inl ⟨hw, hr, h1⟩, h2⟩
  ·rw [hw] at hr; cases hr
 ·simp only [hw] at h
  exact ⟨undef, .inr ⟨by simpa using hw, rfl⟩, h⟩
/-- oj, apart from oi whose value is known: it makes no difference whether oi's value stands already -/
theorem xOp_put {j : Nat} {oi oj : Oper} {v : Value} (hj : ops[j]? = some oj) (hap : oi.apart ops oj = true)
  (hsi : ∀ cs b, oi.op ≠ .select cs b) (hsj : ∀ cs b, oj.op ≠ .select cs b) {K : Act → World → Prop} {a : Act} {w : World}
  (hy : YieldsC X P ops C oi v a) (h : xOp X P ops C z j K (a.put oi.dst v) w) :
  xOp X P ops C z j (fun a' w' => YieldsC X P ops C oi v a' ∧ K (a'.put oi.dst v) w') a w := by
 obtain ⟨h1, h2, h3⟩ := Oper.apart_spec hap
 have keep : ∀ (a : Act), YieldsC X P ops C oi v a → ∀ u, YieldsC X P ops C oi v (a.put oj.dst u) := fun a hy u =>
  hy.of_same (execOp_put oi hsi a oj.dst u h3) (wanted_put oi a oj.dst u h3)
 unfold xOp at *
 simp only [hj] at *
 rw [wanted_put oj a oi.dst v h1] at h
 split
 ·rename_i hw
  simp only [hw, if_true] at h
  split
  ·rename_i hr
   simp only [hr, if_true] at h
   obtain ⟨u, hu, hk⟩ := h
   refine ⟨u, fun w' hw' => ?_, keep a hy u, by rw [← Act.put_comm a v u h2]; exact hk⟩
   have := hu w' hw'
   unfold ValAt at this ⊢
   rwa [execOp_put oj hsj a oi.dst v h1] at this
  ·rename_i hr
   simp only [hr] at h
   refine wp_out (a := a.put oi.dst v) (b := a) (execOp_put oj hsj a oi.dst v h1).symm (fun u l w' hk => ⟨hk.1, ?_, ?_⟩) h
   ·rw [put_defers]
    have := keep a hy u
    exact this.of_same (by rw [eval_defers]) rfl
   ·have hk := hk.2
    rw [defers_put, put2 a _ v u h2] at hk
    exact hk
 ·rename_i hw
  simp only [hw] at h
  exact ⟨keep a hy _, by rw [← Act.put_comm a v undef h2]; exact h⟩
/-- THE FIRST operation of the text, one that only reads, may as well be carried out first. -/
theorem wpAnyX_first {Q : Act → World → Prop} {i : Nat} {oi : Oper} {v : Value} (hi : ops[i]? = some oi) (hsel : ∀ (j : Nat) (o : Oper) cs b, ops[j]? = some o → o.op ≠ .select cs b)
  (hz : i = z ∨ z = ops.size ∨ ∃ f, waitsB md ops i f z = true) :
  ∀ (fuel : Nat) (listed : Array Bool) (a : Act) (w : World), C w → Closed md ops listed →
   (∀ j oj, ops[j]? = some oj → j ≠ i → listed.getD j true = false → (∀ e ∈ oj.after, Region.binds md e = true → e.on ≠ i) → oi.apart ops oj = true) →
   i ∈ Region.ready md ops listed → YieldsC X P ops C oi v a →
   wpAnyX X P md ops C z Q fuel (listed.setIfInBounds i true) (a.put oi.dst v) w → wpAnyX X P md ops C z Q (fuel + 1) listed a w := by
 intro fuel
 induction fuel with
 | zero =>
  intro listed a w hC _ _ hr hy H
  refine ⟨hC, fun h => (by rw [h] at hr; cases hr), fun j hj => ?_⟩
  by_cases hji : j = i
  ·subst hji; exact hy.xOp hi H
  ·have := ready_mono hj hji
   rw [H.1] at this
   cases this
 | succ fuel ih =>
  intro listed a w hC hcl hfree hr hy H
  refine ⟨hC, fun h => (by rw [h] at hr; cases hr), fun j hj => ?_⟩
  by_cases hji : j = i
  ·subst hji; exact hy.xOp hi H
  ·have h1 := H.2.2 j (ready_mono hj hji)
   obtain ⟨hjun, oj, hoj, hall⟩ := mem_ready.1 hj
   have hnot : ∀ e ∈ oj.after, Region.binds md e = true → e.on ≠ i := fun e he hb heq => by
    have h1 := hall e he hb
    have h0 := (mem_ready.1 hr).1
    rw [heq] at h1
    rcases Nat.lt_or_ge i listed.size with h' | h'
    ·simp [h'] at h0 h1; rw [h0] at h1; cases h1
    ·simp [Array.getElem?_eq_none h'] at h1
   have h2 := xOp_put hoj (hfree j oj hoj hji hjun hnot) (fun cs b => hsel i oi cs b hi) (fun cs b => hsel j oj cs b hoj) hy h1
   have hfree' : ∀ k ok, ops[k]? = some ok → k ≠ i → (listed.setIfInBounds j true).getD k true = false →
     (∀ e ∈ ok.after, Region.binds md e = true → e.on ≠ i) → oi.apart ops ok = true := fun k ok hk hki hun hno => by
    refine hfree k ok hk hki ?_ hno
    by_cases hjk : j = k
    ·subst hjk; exact hjun
    ·rw [getD_set_ne true hjk] at hun; exact hun
   have hjz : j ≠ z := by
    rintro rfl
    rcases hz with h' | h' | ⟨f, h'⟩
    ·exact hji h'.symm
    ·have := (Array.getElem?_eq_some_iff.1 hoj).1; omega
    ·exact waits_not_ready hcl (getD_both' (mem_ready.1 hr).1) h' hj
   refine xOp_monoC hC (fun a' w' hC' h3 => ih (listed.setIfInBounds j true) a' w' (hC' hjz) (hcl.set hj) hfree' (ready_mono hr (Ne.symm hji)) h3.1 ?_) h2
   rw [Array.setIfInBounds_comm _ _ hji]
   exact h3.2
/-- THE FIRST operation of the text, an effect: all other effects wait for it, and what only reads may as well be carried out behind it. -/
theorem wpAnyX_eff {Q : Act → World → Prop} {i : Nat} {oi : Oper} (hi : ops[i]? = some oi) (hsel : ∀ (j : Nat) (o : Oper) cs b, ops[j]? = some o → o.op ≠ .select cs b)
  (hri : rdB X oi = false) (hwait : ∀ j oj, ops[j]? = some oj → j ≠ i → rdB X oj = false → (∃ f, waitsB md ops i f j = true) ∨ j < i) :
  ∀ (fuel : Nat) (listed : Array Bool) (a : Act) (w : World), C w → Closed md ops listed → (∀ j, j < i → listed.getD j true = true) →
   (∀ j oj, ops[j]? = some oj → j ≠ i → listed.getD j true = false → (∀ e ∈ oj.after, Region.binds md e = true → e.on ≠ i) → oi.apart ops oj = true) →
   i ∈ Region.ready md ops listed → Region.wanted oi (yielded ops a.tmps) = true →
   oi.wp P a w (fun a' w' => (i ≠ z → C w') ∧ wpAnyX X P md ops C z Q fuel (listed.setIfInBounds i true) a' w') NoExit → wpAnyX X P md ops C z Q (fuel + 1) listed a w := by
 intro fuel
 have here : ∀ (fuel : Nat) (listed : Array Bool) (a : Act) (w : World), Region.wanted oi (yielded ops a.tmps) = true →
   oi.wp P a w (fun a' w' => (i ≠ z → C w') ∧ wpAnyX X P md ops C z Q fuel (listed.setIfInBounds i true) a' w') NoExit → xOp X P ops C z i (wpAnyX X P md ops C z Q fuel (listed.setIfInBounds i true)) a w := by
  intro fuel listed a w hw H
  unfold xOp
  simp only [hi, hw, if_true, hri]
  exact H
 induction fuel with
 | zero =>
  intro listed a w hC _ _ _ hr hw H
  refine ⟨hC, fun h => (by rw [h] at hr; cases hr), fun j hj => ?_⟩
  by_cases hji : j = i
  ·subst hji; exact here 0 listed a w hw H
  ·obtain ⟨u, l, w', H'⟩ := wp_some H
   have := ready_mono hj hji
   rw [H'.2.1] at this
   cases this
 | succ fuel ih =>
  intro listed a w hC hcl hlow hfree hr hw H
  refine ⟨hC, fun h => (by rw [h] at hr; cases hr), fun j hj => ?_⟩
  by_cases hji : j = i
  ·subst hji; exact here (fuel + 1) listed a w hw H
  ·obtain ⟨hjun, oj, hoj, hall⟩ := mem_ready.1 hj
   have hiun := (mem_ready.1 hr).1
   have hji' : ¬ j < i := fun hlt => by rw [hlow j hlt] at hjun; cases hjun
   have hrj : rdB X oj = true := by
    cases hb : rdB X oj with
    | true => rfl
    | false =>
     rcases hwait j oj hoj hji hb with ⟨f, hf⟩ | h'
     ·exact absurd hj (waits_not_ready hcl (getD_both' hiun) hf)
     ·exact absurd h' hji'
   have hnot : ∀ e ∈ oj.after, Region.binds md e = true → e.on ≠ i := fun e he hb heq => by
    have h1 := hall e he hb
    rw [heq] at h1
    rw [getD_both' hiun] at h1
    cases h1
   have hap := hfree j oj hoj hji hjun hnot
   obtain ⟨h1, h2, h3⟩ := Oper.apart_spec hap
   have hsj := fun cs b => hsel j oj cs b hoj
   have hsi := fun cs b => hsel i oi cs b hi
   -- what oj yields, seen behind oi
   have peek : ∀ (u : Value) (l : List Deferred → List Deferred) (w' : World), wpAnyX X P md ops C z Q (fuel + 1) (listed.setIfInBounds i true) ({ a with defers := l a.defers }.put oi.dst u) w' →
     ∃ v, YieldsC X P ops C oj v a ∧ wpAnyX X P md ops C z Q fuel ((listed.setIfInBounds i true).setIfInBounds j true) (({ a with defers := l a.defers }.put oi.dst u).put oj.dst v) w' := by
    intro u l w' H'
    obtain ⟨v, hy, hk⟩ := yieldsC_of_xOp hoj (.inl hrj) (H'.2.2 j (ready_mono hj hji))
    refine ⟨v, hy.of_same ?_ ?_, hk⟩
    ·rw [put_defers]
     exact ((congrArg (fun f => execOp f oj) (eval_defers (a.put oi.dst u) _)).trans (execOp_put oj hsj a oi.dst u h1)).symm
    ·rw [put_defers]
     exact (wanted_put oj a oi.dst u h1).symm
   obtain ⟨u0, l0, w0, H0⟩ := wp_some H
   obtain ⟨v, hy, _⟩ := peek u0 l0 w0 H0.2
   refine hy.xOp hoj ?_
   refine ih (listed.setIfInBounds j true) (a.put oj.dst v) w hC (hcl.set hj) (fun k hk => ?_) (fun k ok hk hki hun hno => ?_) (ready_mono hr (Ne.symm hji)) ?_ ?_
   ·by_cases hjk : j = k
    ·omega
    ·rw [getD_set_ne true hjk]; exact hlow k hk
   ·refine hfree k ok hk hki ?_ hno
    by_cases hjk : j = k
    ·subst hjk; exact hjun
    ·rw [getD_set_ne true hjk] at hun; exact hun
   ·rw [wanted_put oi a oj.dst v h3]; exact hw
   ·refine wp_out (a := a) (b := a.put oj.dst v) (execOp_put oi hsi a oj.dst v h3) (fun u l w' H' => ?_) H
    obtain ⟨v', hy', hk⟩ := peek u l w' H'.2
    refine ⟨H'.1, ?_⟩
    have hvv : v' = v := by
     rcases hy' with ⟨hw1, _, hv1⟩ | ⟨hw1, rfl⟩ <;> rcases hy with ⟨hw2, _, hv2⟩ | ⟨hw2, rfl⟩
     ·exact (hv1 w hC).det (hv2 w hC)
     ·rw [hw1] at hw2; cases hw2
     ·rw [hw1] at hw2; cases hw2
     ·rfl
    subst hvv
    rw [Array.setIfInBounds_comm _ _ hji]
    rw [defers_put, put2 a _ v' u (fun d hd hd' => h2 d hd' hd)]
    exact hk
/-- THE WALK: the operations in the text's order. -/
def LexE (X : List Nat) (P : Program) (ops : Array Oper) (C : World → Prop) (Q : Act → World → Prop) : List Oper → Act → World → Prop
 | [], a, w => Q a w
 | o :: rest, a, w => if Region.wanted o (yielded ops a.tmps) then
   (if rdB X o then ∃ v, (∀ w', C w' → ValAt P o a w' v) ∧ LexE X P ops C Q rest (a.put o.dst v) w else o.wp P a w (fun a' w' => (rest ≠ [] ∨ sinkAll ops = false → C w') ∧ LexE X P ops C Q rest a' w') NoExit)
  else LexE X P ops C Q rest (a.put o.dst undef) w
def chainX (X : List Nat) (md : Region.Mode) (ops : Array Oper) : Bool :=
 (List.range ops.size).all fun i => (ops[i]?.map (rdB X)).getD true || (List.range ops.size).all fun t => decide (t ≤ i) || (ops[t]?.map (rdB X)).getD true || waitsB md ops i ops.size t
def lexX (X : List Nat) (md : Region.Mode) (ops : Array Oper) : Bool := Region.lexB md ops && chainX X md ops
theorem chain_spec {md : Region.Mode} (h : chainX X md ops = true) {i : Nat} {oi : Oper} (hi : ops[i]? = some oi) (hri : rdB X oi = false) :
  ∀ j oj, ops[j]? = some oj → j ≠ i → rdB X oj = false → (∃ f, waitsB md ops i f j = true) ∨ j < i := by
 intro j oj hj hne hr
 have h1 := List.all_eq_true.1 h i (List.mem_range.2 (Array.getElem?_eq_some_iff.1 hi).1)
 simp only [hi, Option.map_some, Option.getD_some, hri, Bool.false_or] at h1
 have h2 := List.all_eq_true.1 h1 j (List.mem_range.2 (Array.getElem?_eq_some_iff.1 hj).1)
 simp only [hj, Option.map_some, Option.getD_some, hr, Bool.or_false, Bool.or_eq_true, decide_eq_true_eq] at h2
 rcases h2 with h2 | h2
 ·right; omega
 ·left; exact ⟨_, h2⟩
theorem wpAnyX_lex {Q : Act → World → Prop} (hs : Region.noSelect ops = true) (hch : chainX X .any ops = true) : ∀ (l : List Oper) (k : Nat) (listed : Array Bool) (a : Act) (w : World), (∀ j, l[j]? = ops[k + j]?) →
  (l ≠ [] → C w) → Closed .any ops listed → (∀ j, j < k → listed.getD j true = true) →
  Region.lexFrom .any ops l.length k listed = true → LexE X P ops C Q l a w → wpAnyX X P .any ops C (sinkAt ops) Q l.length listed a w
 | [], _, _, _, _, _, _, _, _, hB, h => ⟨by simpa [Region.lexFrom] using hB, h⟩
 | o :: l, k, listed, a, w, hl, hC, hcl, hlow, hB, h => by
  have hC := hC (by simp)
  have h0 : ops[k]? = some o := by simpa using (hl 0).symm
  simp only [List.length_cons, Region.lexFrom, Bool.and_eq_true] at hB
  obtain ⟨⟨hr, hf⟩, hB'⟩ := hB
  have hr' : k ∈ Region.ready .any ops listed := by simpa using hr
  have hl' : ∀ j, l[j]? = ops[k + 1 + j]? := fun j => by have := hl (j + 1); simpa [Nat.add_assoc, Nat.add_comm 1 j] using this
  have hcl' := hcl.set hr'
  have hlow' : ∀ j, j < k + 1 → (listed.setIfInBounds k true).getD j true = true := fun j hj => by
   by_cases hkj : k = j
   ·subst hkj
    rcases Nat.lt_or_ge k listed.size with h' | h'
    ·simp [h']
    ·simp [h']
   ·rw [getD_set_ne true hkj]; exact hlow j (by omega)
  have hap := Region.free_spec (md := .any) h0 hf
  have hklt := (Array.getElem?_eq_some_iff.1 h0).1
  unfold LexE at h
  by_cases hw : Region.wanted o (yielded ops a.tmps) = true
  ·simp only [hw, if_true] at h
   by_cases hrd : rdB X o = true
   ·simp only [hrd, if_true] at h
    obtain ⟨v, hv, hK⟩ := h
    exact wpAnyX_first h0 (Region.noSelect_spec hs) (sinkAt_spec h0) l.length listed a w hC hcl hap hr' (.inl ⟨hw, hrd, hv⟩) (wpAnyX_lex hs hch l (k + 1) _ _ w hl' (fun _ => hC) hcl' hlow' hB' hK)
   ·have hrd : rdB X o = false := by simpa using hrd
    simp only [hrd] at h
    have hpost : ∀ w', (l ≠ [] ∨ sinkAll ops = false → C w') → k ≠ sinkAt ops → C w' := fun w' hk hne => by
     refine hk ?_
     by_cases hs' : sinkAll ops = true
     ·left
      rintro rfl
      have h1 := hl' 0
      have h2 : ops[k + 1]? = none := by simpa using h1.symm
      have h3 : ops.size ≤ k + 1 := by
       rcases Nat.lt_or_ge (k + 1) ops.size with h' | h'
       ·rw [Array.getElem?_eq_getElem h'] at h2; cases h2
       ·exact h'
      apply hne
      unfold sinkAt
      rw [if_pos hs']
      omega
     ·right; simpa using hs'
    exact wpAnyX_eff h0 (Region.noSelect_spec hs) hrd (chain_spec hch h0 hrd) l.length listed a w hC hcl hlow hap hr' hw
     (Oper.wp_mono (fun a' w' hk => ⟨hpost w' hk.1, wpAnyX_lex hs hch l (k + 1) _ a' w' hl' (fun hne => hk.1 (.inl hne)) hcl' hlow' hB' hk.2⟩) h)
  ·have hw : Region.wanted o (yielded ops a.tmps) = false := by simpa using hw
   simp only [hw] at h
   exact wpAnyX_first h0 (Region.noSelect_spec hs) (sinkAt_spec h0) l.length listed a w hC hcl hap hr' (.inr ⟨hw, rfl⟩) (wpAnyX_lex hs hch l (k + 1) _ _ w hl' (fun _ => hC) hcl' hlow' hB' h)
/-- THE LAW. -/
theorem wp_region_lex {id : Nat} {Q : Exit → Act → World → Prop} {a : Act} {w : World} {l : List Oper} (hm : P.follows .mixedOrders = true) (hB : lexX X .any l.toArray = true) (C : World → Prop) (hC : C w.drew)
  (h : LexE X P l.toArray C (fun a' w' => Q .normal a' w') l a w.drew) : (Code.region id l.toArray true).wp P Q a w := by
 simp only [lexX, Region.lexB, Bool.and_eq_true] at hB
 refine wp_region_any hm (wpAny_of_X (X := X) (Q := fun a' w' => Q .normal a' w') (C := C) (z := sinkAt l.toArray) (fun _ _ h => h) _ _ _ _ ?_)
 have := wpAnyX_lex (P := P) (C := C) hB.1.1 hB.2 l 0 (Array.replicate l.toArray.size false) a w.drew (by simp) (fun _ => hC)
  (fun j oj _ hl => by simp [Array.getElem?_replicate] at hl; split at hl <;> simp at hl) (by omega) (by simpa using hB.1.2) h
 simpa using this
theorem lex_skip {Q : Act → World → Prop} {o : Oper} {rest : List Oper} {a : Act} {w : World} (hw : Region.wanted o (yielded ops a.tmps) = false) (h : LexE X P ops C Q rest (a.put o.dst undef) w) : LexE X P ops C Q (o :: rest) a w := by
 unfold LexE; simp only [hw, Bool.false_eq_true, if_false]; exact h
theorem lex_read {Q : Act → World → Prop} {o : Oper} {rest : List Oper} {a : Act} {w : World} (hw : Region.wanted o (yielded ops a.tmps) = true) (hr : rdB X o = true)
  (h : ∀ K : Act → Prop, (∀ a, LexE X P ops C Q rest a w → K a) → o.quiet P a C K) : LexE X P ops C Q (o :: rest) a w := by
 unfold LexE; simp only [hw, if_true, hr]
 obtain ⟨v, h1, h2⟩ := h _ fun _ h => h
 exact ⟨v, fun w' hw' => valAt_of_quiet (rdB_read hr) (h1 w' hw'), h2⟩
theorem lex_eff {Q : Act → World → Prop} {o : Oper} {rest : List Oper} {a : Act} {w : World} (hw : Region.wanted o (yielded ops a.tmps) = true) (hr : rdB X o = false)
  (h : ∀ K : Act → World → Prop, (∀ a w, C w → LexE X P ops C Q rest a w → K a w) → o.wp P a w K NoExit) : LexE X P ops C Q (o :: rest) a w := by
 unfold LexE; simp only [hw, if_true, hr]
 exact h _ fun _ _ h1 h2 => ⟨fun _ => h1, h2⟩
theorem lex_last {Q : Act → World → Prop} {o : Oper} {a : Act} {w : World} (hw : Region.wanted o (yielded ops a.tmps) = true) (hr : rdB X o = false) (hs : sinkAll ops = true)
  (h : ∀ K : Act → World → Prop, (∀ a w, Q a w → K a w) → o.wp P a w K NoExit) : LexE X P ops C Q [o] a w := by
 unfold LexE; simp only [hw, if_true, hr]
 exact h _ fun _ _ h2 => ⟨fun hh => (by rcases hh with hh | hh; exact absurd rfl hh; rw [hs] at hh; cases hh), h2⟩
theorem lex_skip' {Q : Act → World → Prop} {o : Oper} {rest : List Oper} {a : Act} {w : World} (hw : Region.wanted o (yielded ops a.tmps) = false)
  (h : ∀ K : Act → Prop, (∀ a, LexE X P ops C Q rest a w → K a) → K (a.put o.dst undef)) : LexE X P ops C Q (o :: rest) a w :=
 lex_skip hw (h _ fun _ h => h)
theorem lex_nil {Q : Act → World → Prop} {a : Act} {w : World} (h : Q a w) : LexE X P ops C Q [] a w := h
theorem lex_r {Q : Act → World → Prop} {o : Oper} {rest : List Oper} {a : Act} {w : World} (h : ∀ K : Act → Prop, (∀ a, LexE X P ops C Q rest a w → K a) → o.quiet P a C K)
  (hw : Region.wanted o (yielded ops a.tmps) = true := by first | exact wanted_n rfl | exact wanted_g rfl rfl rfl rfl) (hr : rdB X o = true := by exact rfl) : LexE X P ops C Q (o :: rest) a w := lex_read hw hr h
theorem lex_e {Q : Act → World → Prop} {o : Oper} {rest : List Oper} {a : Act} {w : World} (h : ∀ K : Act → World → Prop, (∀ a w, C w → LexE X P ops C Q rest a w → K a w) → o.wp P a w K NoExit)
  (hw : Region.wanted o (yielded ops a.tmps) = true := by first | exact wanted_n rfl | exact wanted_g rfl rfl rfl rfl) (hr : rdB X o = false := by exact rfl) : LexE X P ops C Q (o :: rest) a w := lex_eff hw hr h
theorem lex_k {Q : Act → World → Prop} {o : Oper} {rest : List Oper} {a : Act} {w : World} (h : ∀ K : Act → Prop, (∀ a, LexE X P ops C Q rest a w → K a) → K (a.put o.dst undef))
  (hw : Region.wanted o (yielded ops a.tmps) = false := by exact wanted_g rfl rfl rfl rfl) : LexE X P ops C Q (o :: rest) a w := lex_skip' hw h
theorem lex_l {Q : Act → World → Prop} {o : Oper} {a : Act} {w : World} (h : ∀ K : Act → World → Prop, (∀ a w, Q a w → K a w) → o.wp P a w K NoExit)
  (hw : Region.wanted o (yielded ops a.tmps) = true := by first | exact wanted_n rfl | exact wanted_g rfl rfl rfl rfl) (hr : rdB X o = false := by exact rfl) (hs : sinkAll ops = true := by kernel_rfl) : LexE X P ops C Q [o] a w := lex_last hw hr hs h
attribute [irreducible] LexE
theorem wp_region_lexC {P : Program} {id : Nat} {Q : Exit → Act → World → Prop} {a : Act} {w : World} {l : List Oper} (hm : P.follows .mixedOrders = true) (hB : lexX X .any l.toArray = true) (C : World → Prop) (hC : C w.drew)
  (h : Nonempty (Wd C) → LexE X P l.toArray (Cls C) (fun a' w' => Q .normal a' w') l a w.drew) : (Code.region id l.toArray true).wp P Q a w :=
 wp_region_lex hm hB (Cls C) (Cls.mk' hC) (h ⟨⟨_, hC⟩⟩)
/-- THE FIRST operation of an order, an effect: all other effects wait for it, and what only reads may as well be carried out behind it. -/
theorem wpAnyX_eff' {z : Nat} {Q : Act → World → Prop} {i : Nat} {oi : Oper} {Low : Nat → Prop} (hi : ops[i]? = some oi) (hsel : ∀ (j : Nat) (o : Oper) cs b, ops[j]? = some o → o.op ≠ .select cs b)
  (hri : rdB X oi = false) (hwait : ∀ j oj, ops[j]? = some oj → j ≠ i → rdB X oj = false → (∃ f, waitsB md ops i f j = true) ∨ Low j) :
  ∀ (fuel : Nat) (listed : Array Bool) (a : Act) (w : World), C w → Closed md ops listed → (∀ j, Low j → listed.getD j true = true) →
   (∀ j oj, ops[j]? = some oj → j ≠ i → listed.getD j true = false → (∀ e ∈ oj.after, Region.binds md e = true → e.on ≠ i) → oi.apart ops oj = true) →
   i ∈ Region.ready md ops listed → Region.wanted oi (yielded ops a.tmps) = true →
   oi.wp P a w (fun a' w' => (i ≠ z → C w') ∧ wpAnyX X P md ops C z Q fuel (listed.setIfInBounds i true) a' w') NoExit → wpAnyX X P md ops C z Q (fuel + 1) listed a w := by
 intro fuel
 have here : ∀ (fuel : Nat) (listed : Array Bool) (a : Act) (w : World), Region.wanted oi (yielded ops a.tmps) = true →
   oi.wp P a w (fun a' w' => (i ≠ z → C w') ∧ wpAnyX X P md ops C z Q fuel (listed.setIfInBounds i true) a' w') NoExit → xOp X P ops C z i (wpAnyX X P md ops C z Q fuel (listed.setIfInBounds i true)) a w := by
  intro fuel listed a w hw H
  unfold xOp
  simp only [hi, hw, if_true, hri]
  exact H
 induction fuel with
 | zero =>
  intro listed a w hC _ _ _ hr hw H
  refine ⟨hC, fun h => (by rw [h] at hr; cases hr), fun j hj => ?_⟩
  by_cases hji : j = i
  ·subst hji; exact here 0 listed a w hw H
  ·obtain ⟨u, l, w', H'⟩ := wp_some H
   have := ready_mono hj hji
   rw [H'.2.1] at this
   cases this
 | succ fuel ih =>
  intro listed a w hC hcl hlow hfree hr hw H
  refine ⟨hC, fun h => (by rw [h] at hr; cases hr), fun j hj => ?_⟩
  by_cases hji : j = i
  ·subst hji; exact here (fuel + 1) listed a w hw H
  ·obtain ⟨hjun, oj, hoj, hall⟩ := mem_ready.1 hj
   have hiun := (mem_ready.1 hr).1
   have hji' : ¬ Low j := fun hlt => by rw [hlow j hlt] at hjun; cases hjun
   have hrj : rdB X oj = true := by
    cases hb : rdB X oj with
    | true => rfl
    | false =>
     rcases hwait j oj hoj hji hb with ⟨f, hf⟩ | h'
     ·exact absurd hj (waits_not_ready hcl (getD_both' hiun) hf)
     ·exact absurd h' hji'
   have hnot : ∀ e ∈ oj.after, Region.binds md e = true → e.on ≠ i := fun e he hb heq => by
    have h1 := hall e he hb
    rw [heq] at h1
    rw [getD_both' hiun] at h1
    cases h1
   have hap := hfree j oj hoj hji hjun hnot
   obtain ⟨h1, h2, h3⟩ := Oper.apart_spec hap
   have hsj := fun cs b => hsel j oj cs b hoj
   have hsi := fun cs b => hsel i oi cs b hi
   have peek : ∀ (u : Value) (l : List Deferred → List Deferred) (w' : World), wpAnyX X P md ops C z Q (fuel + 1) (listed.setIfInBounds i true) ({ a with defers := l a.defers }.put oi.dst u) w' →
     ∃ v, YieldsC X P ops C oj v a ∧ wpAnyX X P md ops C z Q fuel ((listed.setIfInBounds i true).setIfInBounds j true) (({ a with defers := l a.defers }.put oi.dst u).put oj.dst v) w' := by
    intro u l w' H'
    obtain ⟨v, hy, hk⟩ := yieldsC_of_xOp hoj (.inl hrj) (H'.2.2 j (ready_mono hj hji))
    refine ⟨v, hy.of_same ?_ ?_, hk⟩
    ·rw [put_defers]
     exact ((congrArg (fun f => execOp f oj) (eval_defers (a.put oi.dst u) _)).trans (execOp_put oj hsj a oi.dst u h1)).symm
    ·rw [put_defers]
     exact (wanted_put oj a oi.dst u h1).symm
   obtain ⟨u0, l0, w0, H0⟩ := wp_some H
   obtain ⟨v, hy, _⟩ := peek u0 l0 w0 H0.2
   refine hy.xOp hoj ?_
   refine ih (listed.setIfInBounds j true) (a.put oj.dst v) w hC (hcl.set hj) (fun k hk => ?_) (fun k ok hk hki hun hno => ?_) (ready_mono hr (Ne.symm hji)) ?_ ?_
   ·by_cases hjk : j = k
    ·subst hjk; exact absurd hk hji'
    ·rw [getD_set_ne true hjk]; exact hlow k hk
   ·refine hfree k ok hk hki ?_ hno
    by_cases hjk : j = k
    ·subst hjk; exact hjun
    ·rw [getD_set_ne true hjk] at hun; exact hun
   ·rw [wanted_put oi a oj.dst v h3]; exact hw
   ·refine wp_out (a := a) (b := a.put oj.dst v) (execOp_put oi hsi a oj.dst v h3) (fun u l w' H' => ?_) H
    obtain ⟨v', hy', hk⟩ := peek u l w' H'.2
    refine ⟨H'.1, ?_⟩
    have hvv : v' = v := by
     rcases hy' with ⟨hw1, _, hv1⟩ | ⟨hw1, rfl⟩ <;> rcases hy with ⟨hw2, _, hv2⟩ | ⟨hw2, rfl⟩
     ·exact (hv1 w hC).det (hv2 w hC)
     ·rw [hw1] at hw2; cases hw2
     ·rw [hw1] at hw2; cases hw2
     ·rfl
    subst hvv
    rw [Array.setIfInBounds_comm _ _ hji]
    rw [defers_put, put2 a _ v' u (fun d hd hd' => h2 d hd' hd)]
    exact hk
theorem strip_read {o o' : Oper} (h : strip o = strip o') : rdB X o = rdB X o' := by
 have : rdB X (strip o) = rdB X (strip o') := by rw [h]
 exact this
/-- the order: each operation is ready when it comes, apart from what comes later, and an effect has all other effects behind it or ahead of it -/
def ordOkB (X : List Nat) (md : Region.Mode) (ops : Array Oper) : List Nat → Array Bool → Bool
 | [], listed => (Region.ready md ops listed).isEmpty
 | k :: ks, listed => (Region.ready md ops listed).contains k && Region.free md ops listed k &&
   ((ops[k]?.map (rdB X)).getD true || (List.range ops.size).all fun t => t == k || (ops[t]?.map (rdB X)).getD true || listed.getD t true || waitsB md ops k ops.size t) &&
   ordOkB X md ops ks (listed.setIfInBounds k true)
/-- the walk in that order; l: the operations as the text has them, in that order -/
theorem wpAnyX_ord {ops0 : Array Oper} {Q : Act → World → Prop} (hs : Region.noSelect ops = true) (h0 : ∀ k : Nat, (ops[k]?).map strip = (ops0[k]?).map strip) (hQ : ∀ a w, Q a w → C w) : ∀ (ord : List Nat) (l : List Oper) (listed : Array Bool) (a : Act) (w : World), C w → Closed md ops listed →
  ordOkB X md ops ord listed = true → (∀ j : Nat, l[j]? = (ord[j]?).bind fun k => ops0[k]?) → LexE X P ops0 C Q l a w → wpAnyX X P md ops C ops.size Q ord.length listed a w
 | [], l, listed, a, w, hC, _, hB, hl, h => by
  have : l = [] := by
   apply List.ext_getElem?
   intro j
   rw [hl j]
   simp
  subst this
  unfold LexE at h
  exact ⟨by simpa [ordOkB] using hB, h⟩
 | k :: ks, l, listed, a, w, hC, hcl, hB, hl, h => by
  simp only [ordOkB, Bool.and_eq_true] at hB
  obtain ⟨⟨⟨hr, hf⟩, hch⟩, hB'⟩ := hB
  have hr' : k ∈ Region.ready md ops listed := by simpa using hr
  obtain ⟨_, o', ho', _⟩ := mem_ready.1 hr'
  have hk0 := h0 k
  rw [ho'] at hk0
  cases ho : ops0[k]? with
  | none => rw [ho] at hk0; cases hk0
  | some o =>
   rw [ho] at hk0
   simp only [Option.map_some, Option.some.injEq] at hk0
   have h00 := hl 0
   simp only [List.getElem?_cons_zero, Option.bind_some, ho] at h00
   match l, h00 with
   | x :: rest, h00 =>
    simp only [List.getElem?_cons_zero, Option.some.injEq] at h00
    subst h00
    have hl' : ∀ j : Nat, rest[j]? = (ks[j]?).bind fun k => ops0[k]? := fun j => by have := hl (j + 1); simpa using this
    have hcl' := hcl.set hr'
    have hap := Region.free_spec (md := md) ho' hf
    have hy0 := yielded_strip h0 a.tmps
    unfold LexE at h
    by_cases hw : Region.wanted x (yielded ops0 a.tmps) = true
    ·simp only [hw, if_true] at h
     have hw' : Region.wanted o' (yielded ops a.tmps) = true := by rw [hy0, strip_wanted hk0]; exact hw
     by_cases hrd : rdB X x = true
     ·simp only [hrd, if_true] at h
      obtain ⟨v, hv, hK⟩ := h
      refine wpAnyX_first (v := v) ho' (Region.noSelect_spec hs) (.inr (.inl rfl)) ks.length listed a w hC hcl hap hr' (.inl ⟨hw', by rw [strip_read hk0]; exact hrd, fun w' hw'' => ?_⟩) ?_
      ·have := hv w' hw''
       unfold ValAt at this ⊢
       rw [strip_exec hk0]
       exact this
      ·rw [strip_dst hk0]
       exact wpAnyX_ord hs h0 hQ ks rest _ _ w hC hcl' hB' hl' hK
     ·have hrd : rdB X x = false := by simpa using hrd
      simp only [hrd] at h
      have hrd' : rdB X o' = false := by rw [strip_read hk0]; exact hrd
      refine wpAnyX_eff' (Low := fun j => listed.getD j true = true) ho' (Region.noSelect_spec hs) hrd' (fun j oj hj hne hro => ?_) ks.length listed a w hC hcl (fun _ h => h) hap hr' hw' ?_
      ·rw [ho'] at hch
       simp only [Option.map_some, Option.getD_some, hrd', Bool.false_or, List.all_eq_true, List.mem_range] at hch
       have h1 := hch j (Array.getElem?_eq_some_iff.1 hj).1
       simp only [hj, Option.map_some, Option.getD_some, hro, Bool.or_false, Bool.or_eq_true, beq_iff_eq, hne, false_or] at h1
       rcases h1 with h1 | h1
       ·exact .inr h1
       ·exact .inl ⟨_, h1⟩
      ·refine strip_wp hk0.symm (Oper.wp_mono (fun a' w' hk => ?_) h)
       have hC' : C w' := by
        by_cases hre : rest = []
        ·subst hre
         have h2 := hk.2
         unfold LexE at h2
         exact hQ _ _ h2
        ·exact hk.1 (.inl hre)
       exact ⟨fun _ => hC', wpAnyX_ord hs h0 hQ ks rest _ a' w' hC' hcl' hB' hl' hk.2⟩
    ·have hw : Region.wanted x (yielded ops0 a.tmps) = false := by simpa using hw
     simp only [hw] at h
     have hw' : Region.wanted o' (yielded ops a.tmps) = false := by rw [hy0, strip_wanted hk0]; exact hw
     refine wpAnyX_first (v := undef) ho' (Region.noSelect_spec hs) (.inr (.inl rfl)) ks.length listed a w hC hcl hap hr' (.inr ⟨hw', rfl⟩) ?_
     rw [strip_dst hk0]
     exact wpAnyX_ord hs h0 hQ ks rest _ _ w hC hcl' hB' hl' h
def okT (X : List Nat) (ops : Array Oper) : OrdT → Bool
 | .leaf o => o.length == ops.size && ordOkB X .any ops o (Array.replicate ops.size false)
 | .node i j x y => i != j && ((List.range ops.size).all fun k => k == i || k == j || (ops[k]?.map plainB).getD true || waitsB .any ops i ops.size k) && okT X (addE ops j i) x && okT X (addE ops i j) y
theorem ordOkB_mem : ∀ {ord : List Nat} {listed : Array Bool}, ordOkB X md ops ord listed = true → ∀ k ∈ ord, k < ops.size
 | [], _, _, _, hk => by cases hk
 | x :: ord, listed, h, k, hk => by
  simp only [ordOkB, Bool.and_eq_true] at h
  obtain ⟨⟨⟨hr, _⟩, _⟩, h'⟩ := h
  rcases List.mem_cons.1 hk with rfl | hk
  ·have hr' : k ∈ Region.ready md ops listed := by simpa using hr
   obtain ⟨_, o, ho, _⟩ := mem_ready.1 hr'
   exact (Array.getElem?_eq_some_iff.1 ho).1
  ·exact ordOkB_mem h' k hk
theorem wpAny_tree {l : List Oper} (hs : Region.noSelect l.toArray = true) {Q : Exit → Act → World → Prop} {a : Act} {w : World} (hC : C w) : ∀ (t : OrdT) (ops : Array Oper), ops.size = l.length → (∀ k : Nat, (ops[k]?).map strip = (l.toArray[k]?).map strip) → Region.noSelect ops = true → okT X ops t = true →
  AllL (fun o => LexE X P l.toArray C (fun a' w' => C w' ∧ Q .normal a' w') (ordOps l o) a w) t.orders → wpAny P .any ops Q ops.size (Array.replicate ops.size false) a w
 | .leaf o, ops, hz, h0, hns, hB, h => by
  simp only [okT, Bool.and_eq_true, beq_iff_eq] at hB
  have h1 := wpAnyX_ord (P := P) (C := C) (md := .any) hns h0 (Q := fun a' w' => C w' ∧ Q .normal a' w') (fun _ _ h => h.1) o (ordOps l o) (Array.replicate ops.size false) a w hC (closed_none ops) hB.2 (fun j => by
   have h2 := filterMap_all (f := fun k => l[k]?) (ord := o) (fun k hk => by
    have := ordOkB_mem hB.2 k hk
    exact ⟨_, List.getElem?_eq_getElem (by omega)⟩) j
   rw [ordOps, h2]
   simp) h.1
  rw [hB.1] at h1
  exact wpAny_of_X (fun a' w' h => h.2) _ _ _ _ h1
 | .node i j x y, ops, hz, h0, hns, hB, h => by
  simp only [okT, Bool.and_eq_true, bne_iff_ne] at hB
  obtain ⟨⟨⟨hij, hw⟩, hx⟩, hy⟩ := hB
  obtain ⟨hx', hy'⟩ := AllL.app h
  have hsel : ∀ p q, Region.noSelect (addE ops p q) = true := fun p q => by
   unfold Region.noSelect
   rw [Array.all_eq_true_iff_forall_mem]
   intro o ho
   obtain ⟨k, hk⟩ := Array.mem_iff_getElem?.1 ho
   rw [addE_get] at hk
   cases ho2 : ops[k]? with
   | none => rw [ho2] at hk; cases hk
   | some o2 =>
    rw [ho2] at hk
    simp only [Option.map_some, Option.some.injEq] at hk
    have h3 := Region.noSelect_spec hns k o2
    have hop : o.op = o2.op := by rw [← hk]; split <;> rfl
    rw [hop]
    cases hq : o2.op <;> simp only []
    case select cs b => exact absurd hq (h3 cs b ho2)
  have g1 := wpAny_tree hs hC x (addE ops j i) (by rw [addE_size]; exact hz) (fun k => (addE_strip j i k).trans (h0 k)) (hsel j i) hx hx'
  have g2 := wpAny_tree hs hC y (addE ops i j) (by rw [addE_size]; exact hz) (fun k => (addE_strip i j k).trans (h0 k)) (hsel i j) hy hy'
  rw [addE_size] at g1 g2
  refine wpAny_split hij (fun k o hki hkj ho => ?_) ops.size _ a w (closed_none ops) (unlisted _ _) (unlisted _ _) g1 g2
  have h1 := List.all_eq_true.1 hw k (List.mem_range.2 (Array.getElem?_eq_some_iff.1 ho).1)
  simp only [ho, Option.map_some, Option.getD_some, Bool.or_eq_true, beq_iff_eq, hki, hkj, false_or] at h1
  rcases h1 with h1 | h1
  ·exact .inl h1
  ·exact .inr ⟨_, h1⟩
/-- THE LAW: a region is walked once in each order. -/
theorem wp_region_tree {id : Nat} {Q : Exit → Act → World → Prop} {a : Act} {w : World} {l : List Oper} (t : OrdT) (hm : P.follows .mixedOrders = true) (hB : (Region.noSelect l.toArray && okT X l.toArray t) = true) (C : World → Prop) (hC : C w.drew)
  (h : Nonempty (Wd C) → AllL (fun o => LexE X P l.toArray (Cls C) (fun a' w' => Cls C w' ∧ Q .normal a' w') (ordOps l o) a w.drew) t.orders) : (Code.region id l.toArray true).wp P Q a w := by
 simp only [Bool.and_eq_true] at hB
 exact wp_region_any hm (wpAny_tree (X := X) hB.1 (Cls.mk' hC) t l.toArray (by simp) (fun _ => rfl) hB.1 hB.2 (h ⟨⟨_, hC⟩⟩))
end
end Go.Proofs.YtolndlmhbnpmeaaDoor.LM

/- A region that draws its order: trees of orders that part behind a prefix (a call ahead of two effects in either order). -/
namespace Go.Proofs.YtolndlmhbnpmeaaDoor

section
variable {P : Program} {ops : Array Oper} {C : World → Prop}

/-- a prefix of an order -/
def preOkB (ops : Array Oper) : List Nat → Array Bool → Bool
 | [], _ => true
 | k :: ks, listed => (Region.ready .any ops listed).contains k && Region.free .any ops listed k &&
   ((ops[k]?.map readB).getD true || (List.range ops.size).all fun t => t == k || (ops[t]?.map readB).getD true || listed.getD t true || waitsB .any ops k ops.size t) &&
   preOkB ops ks (listed.setIfInBounds k true)
def setL (ks : List Nat) (listed : Array Bool) : Array Bool := ks.foldl (fun s k => s.setIfInBounds k true) listed
theorem wpAnyX_pre {ops0 : Array Oper} {Q Q' : Act → World → Prop} {n : Nat} {lst : Array Bool} (hs : Region.noSelect ops = true) (h0 : ∀ k : Nat, (ops[k]?).map strip = (ops0[k]?).map strip) (hQ : ∀ a w, Q' a w → C w)
  (hend : ∀ a w, C w → Closed .any ops lst → Q' a w → wpAnyX P .any ops C ops.size Q n lst a w) : ∀ (ord : List Nat) (l : List Oper) (listed : Array Bool) (a : Act) (w : World), C w → Closed .any ops listed → setL ord listed = lst →
  preOkB ops ord listed = true → (∀ j : Nat, l[j]? = (ord[j]?).bind fun k => ops0[k]?) → LexE P ops0 C Q' l a w → wpAnyX P .any ops C ops.size Q (ord.length + n) listed a w
 | [], l, listed, a, w, hC, hcl, hlst, hB, hl, h => by
  have : l = [] := by
   apply List.ext_getElem?
   intro j
   rw [hl j]
   simp
  subst this
  unfold LexE at h
  have hlst' : listed = lst := hlst
  subst hlst'
  rw [List.length_nil, Nat.zero_add]
  exact hend a w hC hcl h
 | k :: ks, l, listed, a, w, hC, hcl, hlst, hB, hl, h => by
  rw [show (k :: ks).length + n = (ks.length + n) + 1 by simp; omega]
  simp only [preOkB, Bool.and_eq_true] at hB
  obtain ⟨⟨⟨hr, hf⟩, hch⟩, hB'⟩ := hB
  have hr' : k ∈ Region.ready .any ops listed := by simpa using hr
  obtain ⟨_, o', ho', _⟩ := mem_ready.1 hr'
  have hk0 := h0 k
  rw [ho'] at hk0
  cases ho : ops0[k]? with
  | none => rw [ho] at hk0; cases hk0
  | some o =>
   rw [ho] at hk0
   simp only [Option.map_some, Option.some.injEq] at hk0
   have h00 := hl 0
   simp only [List.getElem?_cons_zero, Option.bind_some, ho] at h00
   match l, h00 with
   | x :: rest, h00 =>
    simp only [List.getElem?_cons_zero, Option.some.injEq] at h00
    subst h00
    have hl' : ∀ j : Nat, rest[j]? = (ks[j]?).bind fun k => ops0[k]? := fun j => by have := hl (j + 1); simpa using this
    have hcl' := hcl.set hr'
    have hlst' : setL ks (listed.setIfInBounds k true) = lst := hlst
    have hap := Region.free_spec (md := .any) ho' hf
    have hy0 := yielded_strip h0 a.tmps
    unfold LexE at h
    by_cases hw : Region.wanted x (yielded ops0 a.tmps) = true
    ·simp only [hw, if_true] at h
     have hw' : Region.wanted o' (yielded ops a.tmps) = true := by rw [hy0, strip_wanted hk0]; exact hw
     by_cases hrd : readB x = true
     ·simp only [hrd, if_true] at h
      obtain ⟨v, hv, hK⟩ := h
      refine wpAnyX_first (v := v) ho' (Region.noSelect_spec hs) (.inr (.inl rfl)) (ks.length + n) listed a w hC hcl hap hr' (.inl ⟨hw', by rw [strip_read hk0]; exact hrd, fun w' hw'' => ?_⟩) ?_
      ·have := hv w' hw''
       unfold ValAt at this ⊢
       rw [strip_exec hk0]
       exact this
      ·rw [strip_dst hk0]
       exact wpAnyX_pre hs h0 hQ hend ks rest _ _ w hC hcl' hlst' hB' hl' hK
     ·have hrd : readB x = false := by simpa using hrd
      simp only [hrd] at h
      have hrd' : readB o' = false := by rw [strip_read hk0]; exact hrd
      refine wpAnyX_eff' (Low := fun j => listed.getD j true = true) ho' (Region.noSelect_spec hs) hrd' (fun j oj hj hne hro => ?_) (ks.length + n) listed a w hC hcl (fun _ h => h) hap hr' hw' ?_
      ·rw [ho'] at hch
       simp only [Option.map_some, Option.getD_some, hrd', Bool.false_or, List.all_eq_true, List.mem_range] at hch
       have h1 := hch j (Array.getElem?_eq_some_iff.1 hj).1
       simp only [hj, Option.map_some, Option.getD_some, hro, Bool.or_false, Bool.or_eq_true, beq_iff_eq, hne, false_or] at h1
       rcases h1 with h1 | h1
       ·exact .inr h1
       ·exact .inl ⟨_, h1⟩
      ·refine strip_wp hk0.symm (Oper.wp_mono (fun a' w' hk => ?_) h)
       have hC' : C w' := by
        by_cases hre : rest = []
        ·subst hre
         have h2 := hk.2
         unfold LexE at h2
         exact hQ _ _ h2
        ·exact hk.1 (.inl hre)
       exact ⟨fun _ => hC', wpAnyX_pre hs h0 hQ hend ks rest _ a' w' hC' hcl' hlst' hB' hl' hk.2⟩
    ·have hw : Region.wanted x (yielded ops0 a.tmps) = false := by simpa using hw
     simp only [hw] at h
     have hw' : Region.wanted o' (yielded ops a.tmps) = false := by rw [hy0, strip_wanted hk0]; exact hw
     refine wpAnyX_first (v := undef) ho' (Region.noSelect_spec hs) (.inr (.inl rfl)) (ks.length + n) listed a w hC hcl hap hr' (.inr ⟨hw', rfl⟩) ?_
     rw [strip_dst hk0]
     exact wpAnyX_pre hs h0 hQ hend ks rest _ _ w hC hcl' hlst' hB' hl' h

theorem xOp_strip {ops' : Array Oper} {z : Nat} (h : ∀ k : Nat, (ops'[k]?).map strip = (ops[k]?).map strip) {i : Nat} {K K' : Act → World → Prop} {a : Act} {w : World} (hK : ∀ a w, K a w → K' a w) (hh : xOp P ops' C z i K a w) : xOp P ops C z i K' a w := by
 unfold xOp at *
 have hi := h i
 cases h1 : ops'[i]? with
 | none => cases h2 : ops[i]? with
  | none => rw [h1] at hh; exact hK _ _ hh
  | some o => rw [h1, h2] at hi; cases hi
 | some o' => cases h2 : ops[i]? with
  | none => rw [h1, h2] at hi; cases hi
  | some o =>
   rw [h1, h2] at hi
   simp only [Option.map_some, Option.some.injEq] at hi
   rw [h1] at hh
   simp only at hh ⊢
   rw [yielded_strip h, strip_wanted hi, strip_dst hi, strip_read hi] at hh
   split
   ·rename_i hw
    simp only [hw, if_true] at hh
    split
    ·rename_i hr
     simp only [hr, if_true] at hh
     obtain ⟨v, hv, hk⟩ := hh
     refine ⟨v, fun w' hw' => ?_, hK _ _ hk⟩
     have := hv w' hw'
     unfold ValAt at this ⊢
     rw [← strip_exec hi]
     exact this
    ·rename_i hr
     simp only [hr] at hh
     exact strip_wp hi (Oper.wp_mono (fun a' w' hk => ⟨hk.1, hK _ _ hk.2⟩) hh)
   ·rename_i hw
    simp only [hw] at hh
    exact hK _ _ hh
theorem xOp_and {z k : Nat} (h : ∀ o, ops[k]? = some o → readB o = true ∨ plainB o = true) {a : Act} {w : World} (hC : C w) {K K' : Act → World → Prop} (h1 : xOp P ops C z k K a w) (h2 : xOp P ops C z k K' a w) : xOp P ops C z k (fun a w => K a w ∧ K' a w) a w := by
 unfold xOp at *
 cases ho : ops[k]? with
 | none => rw [ho] at h1 h2; exact ⟨h1, h2⟩
 | some o =>
  rw [ho] at h1 h2
  simp only at h1 h2 ⊢
  split
  ·rename_i hw
   simp only [hw, if_true] at h1 h2
   split
   ·rename_i hr
    simp only [hr, if_true] at h1 h2
    obtain ⟨v, hv, hk⟩ := h1
    obtain ⟨v', hv', hk'⟩ := h2
    have : v' = v := (hv' w hC).det (hv w hC)
    subst this
    exact ⟨_, hv, hk, hk'⟩
   ·rename_i hr
    simp only [hr] at h1 h2
    have hp : plainB o = true := by
     rcases h o ho with h3 | h3
     ·exact absurd h3 hr
     ·exact h3
    exact Oper.wp_mono (fun a' w' hk => ⟨hk.1.1, hk.1.2, hk.2.2⟩) (wp_and hp h1 h2)
  ·rename_i hw
   simp only [hw] at h1 h2
   exact ⟨h1, h2⟩
theorem wpAnyX_addE {Q : Act → World → Prop} {z j i : Nat} : ∀ (fuel : Nat) (listed : Array Bool) (a : Act) (w : World), listed.getD i false = true → wpAnyX P .any (addE ops j i) C z Q fuel listed a w → wpAnyX P .any ops C z Q fuel listed a w
 | 0, listed, a, w, hi, h => by
  refine ⟨?_, h.2⟩
  rw [List.eq_nil_iff_forall_not_mem]
  intro k hk
  have : k ∈ Region.ready .any (addE ops j i) listed := addE_ready.2 ⟨hk, fun _ => hi⟩
  rw [h.1] at this
  cases this
 | fuel + 1, listed, a, w, hi, h => by
  refine ⟨h.1, fun h0 => h.2.1 ?_, fun k hk => ?_⟩
  ·rw [List.eq_nil_iff_forall_not_mem]
   intro k hk
   have := (addE_ready.1 hk).1
   rw [h0] at this
   cases this
  ·exact xOp_strip (addE_strip j i) (fun a' w' h' => wpAnyX_addE fuel _ a' w' (getD_set_true hi) h') (h.2.2 k (addE_ready.2 ⟨hk, fun _ => hi⟩))
/-- two operations in either order -/
theorem wpAnyX_split {Q : Act → World → Prop} {Low : Nat → Prop} {z i j : Nat} (hij : i ≠ j) (hw : ∀ k o, k ≠ i → k ≠ j → ops[k]? = some o → (readB o = true ∨ plainB o = true) ∨ Low k ∨ (∃ f, waitsB .any ops i f k = true)) :
  ∀ (fuel : Nat) (listed : Array Bool) (a : Act) (w : World), Closed .any ops listed → (∀ k, Low k → listed.getD k true = true) → listed.getD i false = false → listed.getD j false = false →
   wpAnyX P .any (addE ops j i) C z Q fuel listed a w → wpAnyX P .any (addE ops i j) C z Q fuel listed a w → wpAnyX P .any ops C z Q fuel listed a w
 | 0, listed, a, w, hcl, hlow, hi, hj, h1, h2 => by
  refine ⟨?_, h1.2⟩
  rw [List.eq_nil_iff_forall_not_mem]
  intro k hk
  by_cases hkj : k = j
  ·have := (addE_ready (i := j) (j := i)).2 ⟨hk, fun hc => absurd (hc.symm.trans hkj) hij⟩
   rw [h2.1] at this; cases this
  ·have := (addE_ready (i := i) (j := j)).2 ⟨hk, fun hc => absurd hc hkj⟩
   rw [h1.1] at this; cases this
 | fuel + 1, listed, a, w, hcl, hlow, hi, hj, h1, h2 => by
  refine ⟨h1.1, fun h0 => h1.2.1 ?_, fun k hk => ?_⟩
  ·rw [List.eq_nil_iff_forall_not_mem]
   intro k hk
   have := (addE_ready.1 hk).1
   rw [h0] at this
   cases this
  ·have hkl : k < listed.size := by
    have h3 := (mem_ready.1 hk).1
    rcases Nat.lt_or_ge k listed.size with h' | h'
    ·exact h'
    ·simp [Array.getElem?_eq_none h'] at h3
   have hset : (listed.setIfInBounds k true).getD k false = true := by simp [hkl]
   by_cases hki : k = i
   ·subst hki
    exact xOp_strip (addE_strip j k) (fun a' w' h' => wpAnyX_addE fuel _ a' w' hset h') (h1.2.2 k (addE_ready.2 ⟨hk, fun hc => absurd hc hij⟩))
   ·by_cases hkj : k = j
    ·subst hkj
     exact xOp_strip (addE_strip i k) (fun a' w' h' => wpAnyX_addE fuel _ a' w' hset h') (h2.2.2 k (addE_ready.2 ⟨hk, fun hc => absurd hc.symm hij⟩))
    ·have g1 := xOp_strip (addE_strip j i) (fun a' w' h' => h') (h1.2.2 k (addE_ready.2 ⟨hk, fun hc => absurd hc hkj⟩))
     have g2 := xOp_strip (addE_strip i j) (fun a' w' h' => h') (h2.2.2 k (addE_ready.2 ⟨hk, fun hc => absurd hc hki⟩))
     have hkun := (mem_ready.1 hk).1
     refine xOp_mono (fun a' w' h' => wpAnyX_split hij hw fuel _ a' w' (hcl.set hk) (fun t ht => ?_) (by rw [getD_set_ne false hki]; exact hi) (by rw [getD_set_ne false hkj]; exact hj) h'.1 h'.2) (xOp_and (fun o ho => ?_) h1.1 g1 g2)
     ·by_cases hkt : k = t
      ·subst hkt; rw [hlow k ht] at hkun; cases hkun
      ·rw [getD_set_ne true hkt]; exact hlow t ht
     ·rcases hw k o hki hkj ho with h3 | h3 | ⟨f, h3⟩
      ·exact h3
      ·rw [hlow k h3] at hkun; cases hkun
      ·exact absurd hk (waits_not_ready hcl hi h3)

/-- orders that part behind a prefix -/
inductive OrdQ where
 | leaf (ord : List Nat)
 | node (pre : List Nat) (i j : Nat) (x y : OrdQ)
def OrdQ.len : OrdQ → Nat
 | .leaf o => o.length
 | .node pre _ _ x _ => pre.length + x.len
def OrdQ.ok : OrdQ → Array Oper → Array Bool → Bool
 | .leaf o, ops, listed => ordOkB .any ops o listed
 | .node pre i j x y, ops, listed => preOkB ops pre listed && i != j && !((setL pre listed).getD i false) && !((setL pre listed).getD j false) &&
   ((List.range ops.size).all fun k => k == i || k == j || (ops[k]?.map fun o => readB o || plainB o).getD true || (setL pre listed).getD k true || waitsB .any ops i ops.size k) && x.len == y.len &&
   x.ok (addE ops j i) (setL pre listed) && y.ok (addE ops i j) (setL pre listed)
/-- what is walked -/
def LexT (P : Program) (l : List Oper) (C : World → Prop) (Q : Act → World → Prop) : OrdQ → Act → World → Prop
 | .leaf o, a, w => LexE P l.toArray C Q (ordOps l o) a w
 | .node pre _ _ x y, a, w => LexE P l.toArray C (fun a' w' => C w' ∧ (LexT P l C Q x a' w' ∧ LexT P l C Q y a' w')) (ordOps l pre) a w
theorem preOkB_mem {ops : Array Oper} : ∀ {ord : List Nat} {listed : Array Bool}, preOkB ops ord listed = true → ∀ k ∈ ord, k < ops.size
 | [], _, _, _, hk => by cases hk
 | x :: ord, listed, h, k, hk => by
  simp only [preOkB, Bool.and_eq_true] at h
  obtain ⟨⟨⟨hr, _⟩, _⟩, h'⟩ := h
  rcases List.mem_cons.1 hk with rfl | hk
  ·have hr' : k ∈ Region.ready .any ops listed := by simpa using hr
   obtain ⟨_, o, ho, _⟩ := mem_ready.1 hr'
   exact (Array.getElem?_eq_some_iff.1 ho).1
  ·exact preOkB_mem h' k hk
theorem addE_noSelect {ops : Array Oper} (hns : Region.noSelect ops = true) (p q : Nat) : Region.noSelect (addE ops p q) = true := by
 unfold Region.noSelect
 rw [Array.all_eq_true_iff_forall_mem]
 intro o ho
 obtain ⟨k, hk⟩ := Array.mem_iff_getElem?.1 ho
 rw [addE_get] at hk
 cases ho2 : ops[k]? with
 | none => rw [ho2] at hk; cases hk
 | some o2 =>
  rw [ho2] at hk
  simp only [Option.map_some, Option.some.injEq] at hk
  have h3 := Region.noSelect_spec hns k o2
  have hop : o.op = o2.op := by rw [← hk]; split <;> rfl
  rw [hop]
  cases hq : o2.op <;> simp only []
  case select cs b => exact absurd hq (h3 cs b ho2)
theorem addE_closed {ops : Array Oper} {listed : Array Bool} {j i : Nat} (hcl : Closed .any ops listed) (hj : listed.getD j false = false) : Closed .any (addE ops j i) listed := by
 intro k ok hk hl e he hb
 rw [addE_get] at hk
 cases ho : ops[k]? with
 | none => rw [ho] at hk; cases hk
 | some o =>
  rw [ho] at hk
  simp only [Option.map_some, Option.some.injEq] at hk
  by_cases hjk : j = k
  ·subst hjk; rw [hj] at hl; cases hl
  ·rw [if_neg hjk] at hk
   subst hk
   exact hcl k o ho hl e he hb
theorem wpAnyX_tree {l : List Oper} {Q : Act → World → Prop} (hQ : ∀ a w, Q a w → C w) : ∀ (t : OrdQ) (ops : Array Oper) (listed : Array Bool) (a : Act) (w : World), ops.size = l.length → (∀ k : Nat, (ops[k]?).map strip = (l.toArray[k]?).map strip) → Region.noSelect ops = true → Closed .any ops listed → C w → t.ok ops listed = true →
  LexT P l C Q t a w → wpAnyX P .any ops C ops.size Q t.len listed a w
 | .leaf o, ops, listed, a, w, hz, h0, hns, hcl, hC, hB, h => by
  simp only [OrdQ.ok] at hB
  exact wpAnyX_ord hns h0 hQ o (ordOps l o) listed a w hC hcl hB (fun j => by
   have h2 := filterMap_all (f := fun k => l[k]?) (ord := o) (fun k hk => by
    have := ordOkB_mem hB k hk
    exact ⟨_, List.getElem?_eq_getElem (by omega)⟩) j
   rw [ordOps, h2]
   simp) h
 | .node pre i j x y, ops, listed, a, w, hz, h0, hns, hcl, hC, hB, h => by
  simp only [OrdQ.ok, Bool.and_eq_true, bne_iff_ne, Bool.not_eq_true', beq_iff_eq] at hB
  obtain ⟨⟨⟨⟨⟨⟨⟨hp, hij⟩, hi⟩, hj⟩, hw⟩, hlen⟩, hx⟩, hy⟩ := hB
  refine wpAnyX_pre (lst := setL pre listed) (Q' := fun a' w' => C w' ∧ (LexT P l C Q x a' w' ∧ LexT P l C Q y a' w')) hns h0 (fun _ _ h => h.1) (fun a' w' hC' hcl' hh => ?_) pre (ordOps l pre) listed a w hC hcl rfl hp (fun j => by
   have h2 := filterMap_all (f := fun k => l[k]?) (ord := pre) (fun k hk => by
    have := preOkB_mem hp k hk
    exact ⟨_, List.getElem?_eq_getElem (by omega)⟩) j
   rw [ordOps, h2]
   simp) h
  have g1 := wpAnyX_tree hQ x (addE ops j i) (setL pre listed) a' w' (by rw [addE_size]; exact hz) (fun k => (addE_strip j i k).trans (h0 k)) (addE_noSelect hns j i) (addE_closed hcl' hj) hC' hx hh.2.1
  have g2 := wpAnyX_tree hQ y (addE ops i j) (setL pre listed) a' w' (by rw [addE_size]; exact hz) (fun k => (addE_strip i j k).trans (h0 k)) (addE_noSelect hns i j) (addE_closed hcl' hi) hC' hy hh.2.2
  rw [addE_size] at g1 g2
  rw [← hlen] at g2
  refine wpAnyX_split (Low := fun k => (setL pre listed).getD k true = true) hij (fun k o hki hkj ho => ?_) x.len _ a' w' hcl' (fun _ h => h) hi hj g1 g2
  have h1 := List.all_eq_true.1 hw k (List.mem_range.2 (Array.getElem?_eq_some_iff.1 ho).1)
  simp only [ho, Option.map_some, Option.getD_some, Bool.or_eq_true, beq_iff_eq, hki, hkj, false_or] at h1
  rcases h1 with (h1 | h1) | h1
  ·exact .inl h1
  ·exact .inr (.inl h1)
  ·exact .inr (.inr ⟨_, h1⟩)
/-- THE LAW: a region is walked along a tree of orders. -/
theorem wp_region_treeP {id : Nat} {Q : Exit → Act → World → Prop} {a : Act} {w : World} {l : List Oper} (t : OrdQ) (hm : P.follows .mixedOrders = true) (hB : (Region.noSelect l.toArray && t.ok l.toArray (Array.replicate l.toArray.size false) && t.len == l.toArray.size) = true) (C : World → Prop) (hC : C w.drew)
  (h : Nonempty (Wd C) → LexT P l (Cls C) (fun a' w' => Cls C w' ∧ Q .normal a' w') t a w.drew) : (Code.region id l.toArray true).wp P Q a w := by
 simp only [Bool.and_eq_true, beq_iff_eq] at hB
 obtain ⟨⟨h1, h2⟩, h3⟩ := hB
 have h4 := wpAnyX_tree (P := P) (C := Cls C) (Q := fun a' w' => Cls C w' ∧ Q .normal a' w') (fun _ _ h => h.1) t l.toArray (Array.replicate l.toArray.size false) a w.drew (by simp) (fun _ => rfl) h1 (closed_none l.toArray) (Cls.mk' hC) h2 (h ⟨⟨_, hC⟩⟩)
 rw [h3] at h4
 exact wp_region_any hm (wpAny_of_X (fun _ _ h => h.2) _ _ _ _ h4)
end
end Go.Proofs.YtolndlmhbnpmeaaDoor

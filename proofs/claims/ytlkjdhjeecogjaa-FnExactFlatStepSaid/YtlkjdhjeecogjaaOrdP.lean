/- A region that draws its order: trees of orders that part behind a prefix (a call ahead of two effects in either order). -/
import Derived.Test.YtlkjdhjeecogjaaOrd
namespace Go.Proofs.Ytlkjdhjeecogjaa

section
variable {P : Program} {ops : Array Oper} {C : World → Prop}

/-- a prefix of an order -/
def preOkB (ops : Array Oper) : List Nat → Array Bool → Bool
 | [], _ => true
 | k :: ks, listed => (Region.ready .any ops listed).contains k && Region.free .any ops listed k &&
   ((ops[k]?.map readB).getD true || (List.range ops.size).all fun t => t == k || (ops[t]?.map readB).getD true || listed.getD t true || waitsB .any ops k ops.size t) &&
   preOkB ops ks (listed.setIfInBounds k true)
def setL (ks : List Nat) (listed : Array Bool) : Array Bool := ks.foldl (fun s k => s.setIfInBounds k true) listed
theorem wpAnyX_pre {ops0 : Array Oper} {Q Q' : Act → World → Prop} {n : Nat} {lst : Array Bool} (hs : Region.noSelect ops = true) (h0 : ∀ k : Nat, (ops[k]?).map strip = (ops0[k]?).map strip) (hQ : ∀ a w, Q' a w → C w)
  (hend : ∀ a w, C w → Closed .any ops lst → Q' a w → wpAnyX P .any ops C ops.size Q n lst a w) : ∀ (ord : List Nat) (l : List Oper) (listed : Array Bool) (a : Act) (w : World), C w → Closed .any ops listed → setL ord listed = lst →
  preOkB ops ord listed = true → (∀ j : Nat, l[j]? = (ord[j]?).bind fun k => ops0[k]?) → LexE P ops0 C Q' l a w → wpAnyX P .any ops C ops.size Q (ord.length + n) listed a w
 | [], l, listed, a, w, hC, hcl, hlst, hB, hl, h => by
  have : l = [] := by
   apply List.ext_getElem?
   intro j
   rw [hl j]
   simp
  subst this
  unfold LexE at h
  have hlst' : listed = lst := hlst
  subst hlst'
  rw [List.length_nil, Nat.zero_add]
  exact hend a w hC hcl h
 | k :: ks, l, listed, a, w, hC, hcl, hlst, hB, hl, h => by
  rw [show (k :: ks).length + n = (ks.length + n) + 1 by simp; omega]
  simp only [preOkB, Bool.and_eq_true] at hB
  obtain ⟨⟨⟨hr, hf⟩, hch⟩, hB'⟩ := hB
  have hr' : k ∈ Region.ready .any ops listed := by simpa using hr
  obtain ⟨_, o', ho', _⟩ := mem_ready.1 hr'
  have hk0 := h0 k
  rw [ho'] at hk0
  cases ho : ops0[k]? with
  | none => rw [ho] at hk0; cases hk0
  | some o =>
   rw [ho] at hk0
   simp only [Option.map_some, Option.some.injEq] at hk0
   have h00 := hl 0
   simp only [List.getElem?_cons_zero, Option.bind_some, ho] at h00
   match l, h00 with
   | x :: rest, h00 =>
    simp only [List.getElem?_cons_zero, Option.some.injEq] at h00
    subst h00
    have hl' : ∀ j : Nat, rest[j]? = (ks[j]?).bind fun k => ops0[k]? := fun j => by have := hl (j + 1); simpa using this
    have hcl' := hcl.set hr'
    have hlst' : setL ks (listed.setIfInBounds k true) = lst := hlst
    have hap := Region.free_spec (md := .any) ho' hf
    have hy0 := yielded_strip h0 a.tmps
    unfold LexE at h
    by_cases hw : Region.wanted x (yielded ops0 a.tmps) = true
    ·simp only [hw, if_true] at h
     have hw' : Region.wanted o' (yielded ops a.tmps) = true := by rw [hy0, strip_wanted hk0]; exact hw
     by_cases hrd : readB x = true
     ·simp only [hrd, if_true] at h
      obtain ⟨v, hv, hK⟩ := h
      refine wpAnyX_first (v := v) ho' (Region.noSelect_spec hs) (.inr (.inl rfl)) (ks.length + n) listed a w hC hcl hap hr' (.inl ⟨hw', by rw [strip_read hk0]; exact hrd, fun w' hw'' => ?_⟩) ?_
      ·have := hv w' hw''
       unfold ValAt at this ⊢
       rw [strip_exec hk0]
       exact this
      ·rw [strip_dst hk0]
       exact wpAnyX_pre hs h0 hQ hend ks rest _ _ w hC hcl' hlst' hB' hl' hK
     ·have hrd : readB x = false := by simpa using hrd
      simp only [hrd] at h
      have hrd' : readB o' = false := by rw [strip_read hk0]; exact hrd
      refine wpAnyX_eff' (Low := fun j => listed.getD j true = true) ho' (Region.noSelect_spec hs) hrd' (fun j oj hj hne hro => ?_) (ks.length + n) listed a w hC hcl (fun _ h => h) hap hr' hw' ?_
      ·rw [ho'] at hch
       simp only [Option.map_some, Option.getD_some, hrd', Bool.false_or, List.all_eq_true, List.mem_range] at hch
       have h1 := hch j (Array.getElem?_eq_some_iff.1 hj).1
       simp only [hj, Option.map_some, Option.getD_some, hro, Bool.or_false, Bool.or_eq_true, beq_iff_eq, hne, false_or] at h1
       rcases h1 with h1 | h1
       ·exact .inr h1
       ·exact .inl ⟨_, h1⟩
      ·refine strip_wp hk0.symm (Oper.wp_mono (fun a' w' hk => ?_) h)
       have hC' : C w' := by
        by_cases hre : rest = []
        ·subst hre
         have h2 := hk.2
         unfold LexE at h2
         exact hQ _ _ h2
        ·exact hk.1 (.inl hre)
       exact ⟨fun _ => hC', wpAnyX_pre hs h0 hQ hend ks rest _ a' w' hC' hcl' hlst' hB' hl' hk.2⟩
    ·have hw : Region.wanted x (yielded ops0 a.tmps) = false := by simpa using hw
     simp only [hw] at h
     have hw' : Region.wanted o' (yielded ops a.tmps) = false := by rw [hy0, strip_wanted hk0]; exact hw
     refine wpAnyX_first (v := undef) ho' (Region.noSelect_spec hs) (.inr (.inl rfl)) (ks.length + n) listed a w hC hcl hap hr' (.inr ⟨hw', rfl⟩) ?_
     rw [strip_dst hk0]
     exact wpAnyX_pre hs h0 hQ hend ks rest _ _ w hC hcl' hlst' hB' hl' h

theorem xOp_strip {ops' : Array Oper} {z : Nat} (h : ∀ k : Nat, (ops'[k]?).map strip = (ops[k]?).map strip) {i : Nat} {K K' : Act → World → Prop} {a : Act} {w : World} (hK : ∀ a w, K a w → K' a w) (hh : xOp P ops' C z i K a w) : xOp P ops C z i K' a w := by
 unfold xOp at *
 have hi := h i
 cases h1 : ops'[i]? with
 | none => cases h2 : ops[i]? with
  | none => rw [h1] at hh; exact hK _ _ hh
  | some o => rw [h1, h2] at hi; cases hi
 | some o' => cases h2 : ops[i]? with
  | none => rw [h1, h2] at hi; cases hi
  | some o =>
   rw [h1, h2] at hi
   simp only [Option.map_some, Option.some.injEq] at hi
   rw [h1] at hh
   simp only at hh ⊢
   rw [yielded_strip h, strip_wanted hi, strip_dst hi, strip_read hi] at hh
   split
   ·rename_i hw
    simp only [hw, if_true] at hh
    split
    ·rename_i hr
     simp only [hr, if_true] at hh
     obtain ⟨v, hv, hk⟩ := hh
     refine ⟨v, fun w' hw' => ?_, hK _ _ hk⟩
     have := hv w' hw'
     unfold ValAt at this ⊢
     rw [← strip_exec hi]
     exact this
    ·rename_i hr
     simp only [hr] at hh
     exact strip_wp hi (Oper.wp_mono (fun a' w' hk => ⟨hk.1, hK _ _ hk.2⟩) hh)
   ·rename_i hw
    simp only [hw] at hh
    exact hK _ _ hh
theorem xOp_and {z k : Nat} (h : ∀ o, ops[k]? = some o → readB o = true ∨ plainB o = true) {a : Act} {w : World} (hC : C w) {K K' : Act → World → Prop} (h1 : xOp P ops C z k K a w) (h2 : xOp P ops C z k K' a w) : xOp P ops C z k (fun a w => K a w ∧ K' a w) a w := by
 unfold xOp at *
 cases ho : ops[k]? with
 | none => rw [ho] at h1 h2; exact ⟨h1, h2⟩
 | some o =>
  rw [ho] at h1 h2
  simp only at h1 h2 ⊢
  split
  ·rename_i hw
   simp only [hw, if_true] at h1 h2
   split
   ·rename_i hr
    simp only [hr, if_true] at h1 h2
    obtain ⟨v, hv, hk⟩ := h1
    obtain ⟨v', hv', hk'⟩ := h2
    have : v' = v := (hv' w hC).det (hv w hC)
    subst this
    exact ⟨_, hv, hk, hk'⟩
   ·rename_i hr
    simp only [hr] at h1 h2
    have hp : plainB o = true := by
     rcases h o ho with h3 | h3
     ·exact absurd h3 hr
     ·exact h3
    exact Oper.wp_mono (fun a' w' hk => ⟨hk.1.1, hk.1.2, hk.2.2⟩) (wp_and hp h1 h2)
  ·rename_i hw
   simp only [hw] at h1 h2
   exact ⟨h1, h2⟩
theorem wpAnyX_addE {Q : Act → World → Prop} {z j i : Nat} : ∀ (fuel : Nat) (listed : Array Bool) (a : Act) (w : World), listed.getD i false = true → wpAnyX P .any (addE ops j i) C z Q fuel listed a w → wpAnyX P .any ops C z Q fuel listed a w
 | 0, listed, a, w, hi, h => by
  refine ⟨?_, h.2⟩
  rw [List.eq_nil_iff_forall_not_mem]
  intro k hk
  have : k ∈ Region.ready .any (addE ops j i) listed := addE_ready.2 ⟨hk, fun _ => hi⟩
  rw [h.1] at this
  cases this
 | fuel + 1, listed, a, w, hi, h => by
  refine ⟨h.1, fun h0 => h.2.1 ?_, fun k hk => ?_⟩
  ·rw [List.eq_nil_iff_forall_not_mem]
   intro k hk
   have := (addE_ready.1 hk).1
   rw [h0] at this
   cases this
  ·exact xOp_strip (addE_strip j i) (fun a' w' h' => wpAnyX_addE fuel _ a' w' (getD_set_true hi) h') (h.2.2 k (addE_ready.2 ⟨hk, fun _ => hi⟩))
/-- two operations in either order -/
theorem wpAnyX_split {Q : Act → World → Prop} {Low : Nat → Prop} {z i j : Nat} (hij : i ≠ j) (hw : ∀ k o, k ≠ i → k ≠ j → ops[k]? = some o → (readB o = true ∨ plainB o = true) ∨ Low k ∨ (∃ f, waitsB .any ops i f k = true)) :
  ∀ (fuel : Nat) (listed : Array Bool) (a : Act) (w : World), Closed .any ops listed → (∀ k, Low k → listed.getD k true = true) → listed.getD i false = false → listed.getD j false = false →
   wpAnyX P .any (addE ops j i) C z Q fuel listed a w → wpAnyX P .any (addE ops i j) C z Q fuel listed a w → wpAnyX P .any ops C z Q fuel listed a w
 | 0, listed, a, w, hcl, hlow, hi, hj, h1, h2 => by
  refine ⟨?_, h1.2⟩
  rw [List.eq_nil_iff_forall_not_mem]
  intro k hk
  by_cases hkj : k = j
  ·have := (addE_ready (i := j) (j := i)).2 ⟨hk, fun hc => absurd (hc.symm.trans hkj) hij⟩
   rw [h2.1] at this; cases this
  ·have := (addE_ready (i := i) (j := j)).2 ⟨hk, fun hc => absurd hc hkj⟩
   rw [h1.1] at this; cases this
 | fuel + 1, listed, a, w, hcl, hlow, hi, hj, h1, h2 => by
  refine ⟨h1.1, fun h0 => h1.2.1 ?_, fun k hk => ?_⟩
  ·rw [List.eq_nil_iff_forall_not_mem]
   intro k hk
   have := (addE_ready.1 hk).1
   rw [h0] at this
   cases this
  ·have hkl : k < listed.size := by
    have h3 := (mem_ready.1 hk).1
    rcases Nat.lt_or_ge k listed.size with h' | h'
    ·exact h'
    ·simp [Array.getElem?_eq_none h'] at h3
   have hset : (listed.setIfInBounds k true).getD k false = true := by simp [hkl]
   by_cases hki : k = i
   ·subst hki
    exact xOp_strip (addE_strip j k) (fun a' w' h' => wpAnyX_addE fuel _ a' w' hset h') (h1.2.2 k (addE_ready.2 ⟨hk, fun hc => absurd hc hij⟩))
   ·by_cases hkj : k = j
    ·subst hkj
     exact xOp_strip (addE_strip i k) (fun a' w' h' => wpAnyX_addE fuel _ a' w' hset h') (h2.2.2 k (addE_ready.2 ⟨hk, fun hc => absurd hc.symm hij⟩))
    ·have g1 := xOp_strip (addE_strip j i) (fun a' w' h' => h') (h1.2.2 k (addE_ready.2 ⟨hk, fun hc => absurd hc hkj⟩))
     have g2 := xOp_strip (addE_strip i j) (fun a' w' h' => h') (h2.2.2 k (addE_ready.2 ⟨hk, fun hc => absurd hc hki⟩))
     have hkun := (mem_ready.1 hk).1
     refine xOp_mono (fun a' w' h' => wpAnyX_split hij hw fuel _ a' w' (hcl.set hk) (fun t ht => ?_) (by rw [getD_set_ne false hki]; exact hi) (by rw [getD_set_ne false hkj]; exact hj) h'.1 h'.2) (xOp_and (fun o ho => ?_) h1.1 g1 g2)
     ·by_cases hkt : k = t
      ·subst hkt; rw [hlow k ht] at hkun; cases hkun
      ·rw [getD_set_ne true hkt]; exact hlow t ht
     ·rcases hw k o hki hkj ho with h3 | h3 | ⟨f, h3⟩
      ·exact h3
      ·rw [hlow k h3] at hkun; cases hkun
      ·exact absurd hk (waits_not_ready hcl hi h3)

/-- orders that part behind a prefix -/
inductive OrdQ where
 | leaf (ord : List Nat)
 | node (pre : List Nat) (i j : Nat) (x y : OrdQ)
def OrdQ.len : OrdQ → Nat
 | .leaf o => o.length
 | .node pre _ _ x _ => pre.length + x.len
def OrdQ.ok : OrdQ → Array Oper → Array Bool → Bool
 | .leaf o, ops, listed => ordOkB .any ops o listed
 | .node pre i j x y, ops, listed => preOkB ops pre listed && i != j && !((setL pre listed).getD i false) && !((setL pre listed).getD j false) &&
   ((List.range ops.size).all fun k => k == i || k == j || (ops[k]?.map fun o => readB o || plainB o).getD true || (setL pre listed).getD k true || waitsB .any ops i ops.size k) && x.len == y.len &&
   x.ok (addE ops j i) (setL pre listed) && y.ok (addE ops i j) (setL pre listed)
/-- what is walked -/
def LexT (P : Program) (l : List Oper) (C : World → Prop) (Q : Act → World → Prop) : OrdQ → Act → World → Prop
 | .leaf o, a, w => LexE P l.toArray C Q (ordOps l o) a w
 | .node pre _ _ x y, a, w => LexE P l.toArray C (fun a' w' => C w' ∧ (LexT P l C Q x a' w' ∧ LexT P l C Q y a' w')) (ordOps l pre) a w
theorem preOkB_mem {ops : Array Oper} : ∀ {ord : List Nat} {listed : Array Bool}, preOkB ops ord listed = true → ∀ k ∈ ord, k < ops.size
 | [], _, _, _, hk => by cases hk
 | x :: ord, listed, h, k, hk => by
  simp only [preOkB, Bool.and_eq_true] at h
  obtain ⟨⟨⟨hr, _⟩, _⟩, h'⟩ := h
  rcases List.mem_cons.1 hk with rfl | hk
  ·have hr' : k ∈ Region.ready .any ops listed := by simpa using hr
   obtain ⟨_, o, ho, _⟩ := mem_ready.1 hr'
   exact (Array.getElem?_eq_some_iff.1 ho).1
  ·exact preOkB_mem h' k hk
theorem addE_noSelect {ops : Array Oper} (hns : Region.noSelect ops = true) (p q : Nat) : Region.noSelect (addE ops p q) = true := by
 unfold Region.noSelect
 rw [Array.all_eq_true_iff_forall_mem]
 intro o ho
 obtain ⟨k, hk⟩ := Array.mem_iff_getElem?.1 ho
 rw [addE_get] at hk
 cases ho2 : ops[k]? with
 | none => rw [ho2] at hk; cases hk
 | some o2 =>
  rw [ho2] at hk
  simp only [Option.map_some, Option.some.injEq] at hk
  have h3 := Region.noSelect_spec hns k o2
  have hop : o.op = o2.op := by rw [← hk]; split <;> rfl
  rw [hop]
  cases hq : o2.op <;> simp only []
  case select cs b => exact absurd hq (h3 cs b ho2)
theorem addE_closed {ops : Array Oper} {listed : Array Bool} {j i : Nat} (hcl : Closed .any ops listed) (hj : listed.getD j false = false) : Closed .any (addE ops j i) listed := by
 intro k ok hk hl e he hb
 rw [addE_get] at hk
 cases ho : ops[k]? with
 | none => rw [ho] at hk; cases hk
 | some o =>
  rw [ho] at hk
  simp only [Option.map_some, Option.some.injEq] at hk
  by_cases hjk : j = k
  ·subst hjk; rw [hj] at hl; cases hl
  ·rw [if_neg hjk] at hk
   subst hk
   exact hcl k o ho hl e he hb
theorem wpAnyX_tree {l : List Oper} {Q : Act → World → Prop} (hQ : ∀ a w, Q a w → C w) : ∀ (t : OrdQ) (ops : Array Oper) (listed : Array Bool) (a : Act) (w : World), ops.size = l.length → (∀ k : Nat, (ops[k]?).map strip = (l.toArray[k]?).map strip) → Region.noSelect ops = true → Closed .any ops listed → C w → t.ok ops listed = true →
  LexT P l C Q t a w → wpAnyX P .any ops C ops.size Q t.len listed a w
 | .leaf o, ops, listed, a, w, hz, h0, hns, hcl, hC, hB, h => by
  simp only [OrdQ.ok] at hB
  exact wpAnyX_ord hns h0 hQ o (ordOps l o) listed a w hC hcl hB (fun j => by
   have h2 := filterMap_all (f := fun k => l[k]?) (ord := o) (fun k hk => by
    have := ordOkB_mem hB k hk
    exact ⟨_, List.getElem?_eq_getElem (by omega)⟩) j
   rw [ordOps, h2]
   simp) h
 | .node pre i j x y, ops, listed, a, w, hz, h0, hns, hcl, hC, hB, h => by
  simp only [OrdQ.ok, Bool.and_eq_true, bne_iff_ne, Bool.not_eq_true', beq_iff_eq] at hB
  obtain ⟨⟨⟨⟨⟨⟨⟨hp, hij⟩, hi⟩, hj⟩, hw⟩, hlen⟩, hx⟩, hy⟩ := hB
  refine wpAnyX_pre (lst := setL pre listed) (Q' := fun a' w' => C w' ∧ (LexT P l C Q x a' w' ∧ LexT P l C Q y a' w')) hns h0 (fun _ _ h => h.1) (fun a' w' hC' hcl' hh => ?_) pre (ordOps l pre) listed a w hC hcl rfl hp (fun j => by
   have h2 := filterMap_all (f := fun k => l[k]?) (ord := pre) (fun k hk => by
    have := preOkB_mem hp k hk
    exact ⟨_, List.getElem?_eq_getElem (by omega)⟩) j
   rw [ordOps, h2]
   simp) h
  have g1 := wpAnyX_tree hQ x (addE ops j i) (setL pre listed) a' w' (by rw [addE_size]; exact hz) (fun k => (addE_strip j i k).trans (h0 k)) (addE_noSelect hns j i) (addE_closed hcl' hj) hC' hx hh.2.1
  have g2 := wpAnyX_tree hQ y (addE ops i j) (setL pre listed) a' w' (by rw [addE_size]; exact hz) (fun k => (addE_strip i j k).trans (h0 k)) (addE_noSelect hns i j) (addE_closed hcl' hi) hC' hy hh.2.2
  rw [addE_size] at g1 g2
  rw [← hlen] at g2
  refine wpAnyX_split (Low := fun k => (setL pre listed).getD k true = true) hij (fun k o hki hkj ho => ?_) x.len _ a' w' hcl' (fun _ h => h) hi hj g1 g2
  have h1 := List.all_eq_true.1 hw k (List.mem_range.2 (Array.getElem?_eq_some_iff.1 ho).1)
  simp only [ho, Option.map_some, Option.getD_some, Bool.or_eq_true, beq_iff_eq, hki, hkj, false_or] at h1
  rcases h1 with (h1 | h1) | h1
  ·exact .inl h1
  ·exact .inr (.inl h1)
  ·exact .inr (.inr ⟨_, h1⟩)
/-- THE LAW: a region is walked along a tree of orders. -/
theorem wp_region_treeP {id : Nat} {Q : Exit → Act → World → Prop} {a : Act} {w : World} {l : List Oper} (t : OrdQ) (hm : P.follows .mixedOrders = true) (hB : (Region.noSelect l.toArray && t.ok l.toArray (Array.replicate l.toArray.size false) && t.len == l.toArray.size) = true) (C : World → Prop) (hC : C w.drew)
  (h : Nonempty (Wd C) → LexT P l (Cls C) (fun a' w' => Cls C w' ∧ Q .normal a' w') t a w.drew) : (Code.region id l.toArray true).wp P Q a w := by
 simp only [Bool.and_eq_true, beq_iff_eq] at hB
 obtain ⟨⟨h1, h2⟩, h3⟩ := hB
 have h4 := wpAnyX_tree (P := P) (C := Cls C) (Q := fun a' w' => Cls C w' ∧ Q .normal a' w') (fun _ _ h => h.1) t l.toArray (Array.replicate l.toArray.size false) a w.drew (by simp) (fun _ => rfl) h1 (closed_none l.toArray) (Cls.mk' hC) h2 (h ⟨⟨_, hC⟩⟩)
 rw [h3] at h4
 exact wp_region_any hm (wpAny_of_X (fun _ _ h => h.2) _ _ _ _ h4)
end
end Go.Proofs.Ytlkjdhjeecogjaa

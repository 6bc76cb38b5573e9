/- As Ord, where the last operation waits for all others: the class is not asked behind it. -/
import Derived.Test.YtolndlmhbnpmeaaDoorGi
namespace Go.Proofs.YtolndlmhbnpmeaaDoor

section
variable {P : Program} {ops : Array Oper} {C : World → Prop}
theorem wpAnyX_ordL {ops0 : Array Oper} {Q : Act → World → Prop} (hs : Region.noSelect ops = true) (h0 : ∀ k : Nat, (ops[k]?).map strip = (ops0[k]?).map strip) (hz : sinkAll ops = true) : ∀ (ord : List Nat) (l : List Oper) (listed : Array Bool) (a : Act) (w : World), (ord ≠ [] → C w) → Closed .any ops listed →
  ordOkB .any ops ord listed = true → (∀ e, ord.getLast? = some e → e = ops.size - 1) → (∀ j : Nat, l[j]? = (ord[j]?).bind fun k => ops0[k]?) → LexE P ops0 C Q l a w → wpAnyX P .any ops C (sinkAt ops) Q ord.length listed a w
 | [], l, listed, a, w, _, hcl, hB, _, hl, h => by
  have : l = [] := by
   apply List.ext_getElem?
   intro j
   rw [hl j]
   simp
  subst this
  unfold LexE at h
  exact ⟨by simpa [ordOkB] using hB, h⟩
 | k :: ks, l, listed, a, w, hC, hcl, hB, hlast, hl, h => by
  have hC := hC (by simp)
  simp only [ordOkB, Bool.and_eq_true] at hB
  obtain ⟨⟨⟨hr, hf⟩, hch⟩, hB'⟩ := hB
  have hr' : k ∈ Region.ready .any ops listed := by simpa using hr
  obtain ⟨_, o', ho', _⟩ := mem_ready.1 hr'
  have hk0 := h0 k
  rw [ho'] at hk0
  cases ho : ops0[k]? with
  | none => rw [ho] at hk0; cases hk0
  | some o =>
   rw [ho] at hk0
   simp only [Option.map_some, Option.some.injEq] at hk0
   have h00 := hl 0
   simp only [List.getElem?_cons_zero, Option.bind_some, ho] at h00
   match l, h00 with
   | x :: rest, h00 =>
    simp only [List.getElem?_cons_zero, Option.some.injEq] at h00
    subst h00
    have hl' : ∀ j : Nat, rest[j]? = (ks[j]?).bind fun k => ops0[k]? := fun j => by have := hl (j + 1); simpa using this
    have hcl' := hcl.set hr'
    have hap := Region.free_spec (md := .any) ho' hf
    have hy0 := yielded_strip h0 a.tmps
    have hlast' : ∀ e, ks.getLast? = some e → e = ops.size - 1 := fun e he => hlast e (by
     match ks, he with
     | t :: ts, he => rw [List.getLast?_cons_cons]; exact he)
    have hrest : ks ≠ [] → rest ≠ [] := fun hne => by
     match ks, hne, hB', hl' with
     | t :: ts, _, hB', hl' =>
      rintro rfl
      have h1 := hl' 0
      have h2 := ordOkB_mem hB' t (by simp)
      have h3 := h0 t
      rw [Array.getElem?_eq_getElem h2] at h3
      cases h4 : ops0[t]? with
      | none => rw [h4] at h3; cases h3
      | some u => simp [h4] at h1
    have hks : k ≠ sinkAt ops → ks ≠ [] := fun hne he => by
     subst he
     apply hne
     unfold sinkAt
     rw [if_pos hz]
     exact hlast k rfl
    unfold LexE at h
    by_cases hw : Region.wanted x (yielded ops0 a.tmps) = true
    ·simp only [hw, if_true] at h
     have hw' : Region.wanted o' (yielded ops a.tmps) = true := by rw [hy0, strip_wanted hk0]; exact hw
     by_cases hrd : readB x = true
     ·simp only [hrd, if_true] at h
      obtain ⟨v, hv, hK⟩ := h
      refine wpAnyX_first (v := v) ho' (Region.noSelect_spec hs) (sinkAt_spec ho') ks.length listed a w hC hcl hap hr' (.inl ⟨hw', by rw [strip_read hk0]; exact hrd, fun w' hw'' => ?_⟩) ?_
      ·have := hv w' hw''
       unfold ValAt at this ⊢
       rw [strip_exec hk0]
       exact this
      ·rw [strip_dst hk0]
       exact wpAnyX_ordL hs h0 hz ks rest _ _ w (fun _ => hC) hcl' hB' hlast' hl' hK
     ·have hrd : readB x = false := by simpa using hrd
      simp only [hrd] at h
      have hrd' : readB o' = false := by rw [strip_read hk0]; exact hrd
      refine wpAnyX_eff' (Low := fun j => listed.getD j true = true) ho' (Region.noSelect_spec hs) hrd' (fun j oj hj hne hro => ?_) ks.length listed a w hC hcl (fun _ h => h) hap hr' hw' ?_
      ·rw [ho'] at hch
       simp only [Option.map_some, Option.getD_some, hrd', Bool.false_or, List.all_eq_true, List.mem_range] at hch
       have h1 := hch j (Array.getElem?_eq_some_iff.1 hj).1
       simp only [hj, Option.map_some, Option.getD_some, hro, Bool.or_false, Bool.or_eq_true, beq_iff_eq, hne, false_or] at h1
       rcases h1 with h1 | h1
       ·exact .inr h1
       ·exact .inl ⟨_, h1⟩
      ·refine strip_wp hk0.symm (Oper.wp_mono (fun a' w' hk => ?_) h)
       exact ⟨fun hne => hk.1 (.inl (hrest (hks hne))), wpAnyX_ordL hs h0 hz ks rest _ a' w' (fun hne => hk.1 (.inl (hrest hne))) hcl' hB' hlast' hl' hk.2⟩
    ·have hw : Region.wanted x (yielded ops0 a.tmps) = false := by simpa using hw
     simp only [hw] at h
     have hw' : Region.wanted o' (yielded ops a.tmps) = false := by rw [hy0, strip_wanted hk0]; exact hw
     refine wpAnyX_first (v := undef) ho' (Region.noSelect_spec hs) (sinkAt_spec ho') ks.length listed a w hC hcl hap hr' (.inr ⟨hw', rfl⟩) ?_
     rw [strip_dst hk0]
     exact wpAnyX_ordL hs h0 hz ks rest _ _ w (fun _ => hC) hcl' hB' hlast' hl' h

def OrdT.okL (ops : Array Oper) : OrdT → Bool
 | .leaf o => o.length == ops.size && ordOkB .any ops o (Array.replicate ops.size false) && (sinkAll ops && o.getLast? == some (ops.size - 1))
 | .node i j x y => i != j && ((List.range ops.size).all fun k => k == i || k == j || (ops[k]?.map plainB).getD true || waitsB .any ops i ops.size k) && x.okL (addE ops j i) && y.okL (addE ops i j)
theorem wpAny_treeL {l : List Oper} (hs : Region.noSelect l.toArray = true) {Q : Exit → Act → World → Prop} {a : Act} {w : World} (hC : C w) : ∀ (t : OrdT) (ops : Array Oper), ops.size = l.length → (∀ k : Nat, (ops[k]?).map strip = (l.toArray[k]?).map strip) → Region.noSelect ops = true → t.okL ops = true →
  AllL (fun o => LexE P l.toArray C (fun a' w' => Q .normal a' w') (ordOps l o) a w) t.orders → wpAny P .any ops Q ops.size (Array.replicate ops.size false) a w
 | .leaf o, ops, hz, h0, hns, hB, h => by
  simp only [OrdT.okL, Bool.and_eq_true, beq_iff_eq] at hB
  have h1 := wpAnyX_ordL (P := P) (C := C) hns h0 (Q := fun a' w' => Q .normal a' w') hB.2.1 o (ordOps l o) (Array.replicate ops.size false) a w (fun _ => hC) (closed_none ops) hB.1.2 (fun e he => by rw [hB.2.2] at he; injection he with he; exact he.symm) (fun j => by
   have h2 := filterMap_all (f := fun k => l[k]?) (ord := o) (fun k hk => by
    have := ordOkB_mem hB.1.2 k hk
    exact ⟨_, List.getElem?_eq_getElem (by omega)⟩) j
   rw [ordOps, h2]
   simp) h.1
  rw [hB.1.1] at h1
  exact wpAny_of_X (fun a' w' h => h) _ _ _ _ h1
 | .node i j x y, ops, hz, h0, hns, hB, h => by
  simp only [OrdT.okL, Bool.and_eq_true, bne_iff_ne] at hB
  obtain ⟨⟨⟨hij, hw⟩, hx⟩, hy⟩ := hB
  obtain ⟨hx', hy'⟩ := AllL.app h
  have hsel : ∀ p q, Region.noSelect (addE ops p q) = true := fun p q => by
   unfold Region.noSelect
   rw [Array.all_eq_true_iff_forall_mem]
   intro o ho
   obtain ⟨k, hk⟩ := Array.mem_iff_getElem?.1 ho
   rw [addE_get] at hk
   cases ho2 : ops[k]? with
   | none => rw [ho2] at hk; cases hk
   | some o2 =>
    rw [ho2] at hk
    simp only [Option.map_some, Option.some.injEq] at hk
    have h3 := Region.noSelect_spec hns k o2
    have hop : o.op = o2.op := by rw [← hk]; split <;> rfl
    rw [hop]
    cases hq : o2.op <;> simp only []
    case select cs b => exact absurd hq (h3 cs b ho2)
  have g1 := wpAny_treeL hs hC x (addE ops j i) (by rw [addE_size]; exact hz) (fun k => (addE_strip j i k).trans (h0 k)) (hsel j i) hx hx'
  have g2 := wpAny_treeL hs hC y (addE ops i j) (by rw [addE_size]; exact hz) (fun k => (addE_strip i j k).trans (h0 k)) (hsel i j) hy hy'
  rw [addE_size] at g1 g2
  refine wpAny_split hij (fun k o hki hkj ho => ?_) ops.size _ a w (closed_none ops) (unlisted _ _) (unlisted _ _) g1 g2
  have h1 := List.all_eq_true.1 hw k (List.mem_range.2 (Array.getElem?_eq_some_iff.1 ho).1)
  simp only [ho, Option.map_some, Option.getD_some, Bool.or_eq_true, beq_iff_eq, hki, hkj, false_or] at h1
  rcases h1 with h1 | h1
  ·exact .inl h1
  ·exact .inr ⟨_, h1⟩
/-- THE LAW: a region is walked once in each order; its last operation waits for all. -/
theorem wp_region_treeL {id : Nat} {Q : Exit → Act → World → Prop} {a : Act} {w : World} {l : List Oper} (t : OrdT) (hm : P.follows .mixedOrders = true) (hB : (Region.noSelect l.toArray && t.okL l.toArray) = true) (C : World → Prop) (hC : C w.drew)
  (h : Nonempty (Wd C) → AllL (fun o => LexE P l.toArray (Cls C) (fun a' w' => Q .normal a' w') (ordOps l o) a w.drew) t.orders) : (Code.region id l.toArray true).wp P Q a w := by
 simp only [Bool.and_eq_true] at hB
 exact wp_region_any hm (wpAny_treeL hB.1 (Cls.mk' hC) t l.toArray (by simp) (fun _ => rfl) hB.1 hB.2 (h ⟨⟨_, hC⟩⟩))
end
end Go.Proofs.YtolndlmhbnpmeaaDoor

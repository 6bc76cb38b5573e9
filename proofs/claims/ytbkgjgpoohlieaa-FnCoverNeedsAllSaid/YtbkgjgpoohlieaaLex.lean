/- A region that draws its order, walked once in the order of the text, with effects (calls, new blocks, appends, stores) in it: the effects stand in one forced order, all else only reads, in a class of worlds. -/
import Derived.Deep.Quiet
import Derived.Deep.QuietTactic
import Derived.BigQuiet
import Derived.Below
import Derived.WalkKit
namespace Go.Proofs.Ytbkgjgpoohlieaa

section
variable {P : Program} {ops : Array Oper} {md : Region.Mode} {C : World → Prop} {z : Nat}

/-- no way out but on -/
def NoExit : Exit → Act → World → Prop := fun _ _ _ => False

/-- what only reads -/
def readB (o : Oper) : Bool :=
 match o.op with
 | .move _ | .assign _ | .pick .. | .binOp .. | .unOp .. | .convert .. | .slice .. | .fieldAddr .. | .field .. | .indexAddr .. | .index .. | .extract .. | .load .. | .build .. | .nilCheck .. => true
 | .call c => match c.callee with | .builtin .len | .builtin .max | .builtin .min => true | _ => false
 | _ => false

theorem noEnterV {s : Sem Value} {w w' : World} {f : FuncId} {args : Array Value} : ((do pure (Next.value (← s))) : Sem Next).run P w ≠ .ok (.enter f args) w' := by
 rw [Sem.run_bind]
 cases s.run P w <;> simp
theorem noEnter {o : Oper} (h : readB o = true) {ρ : Operand → Value} {w w' : World} {f : FuncId} {args : Array Value} : (execOp ρ o).run P w ≠ .ok (.enter f args) w' := by
 unfold readB at h
 unfold execOp
 cases hop : o.op <;> rw [hop] at h <;> simp only [] at h ⊢
 case nilCheck x =>
  split
  ·intro hc; simp [runtimePanic] at hc
  ·intro hc; simp [runtimePanic] at hc
  ·intro hc; simp [runtimePanic] at hc
  ·split
   ·intro hc; simp [runtimePanic] at hc
   ·rw [Sem.run_bind]
    cases Sem.run P program w with
    | halt x w1 => simp
    | ok a w1 =>
     rw [Result.andThen_ok, Sem.run_bind]
     generalize Sem.run P (nilAhead _ _ _ _) w1 = r2
     cases r2 with
     | halt x w2 => simp
     | ok b w2 =>
      rw [Result.andThen_ok]
      split
      ·rw [Sem.run_bind]
       generalize Sem.run P (unsupported _) w2 = r3
       cases r3 <;> simp
      ·simp
   ·intro hc; simp at hc
  ·intro hc; simp at hc
 case call c =>
  split at h
  case h_4 => cases h
  all_goals
   rename_i hb
   simp only [resolve, hb, Sem.run_bind, Sem.run_pure, Result.andThen_ok, invoke]
   simp only [builtin]
   exact noEnterV
 all_goals first
  | exact noEnterV
  | (simp only [Sem.run_pure]; intro hc; cases hc; done)
  | (cases h; done)
  | (rw [Sem.run_bind]; generalize Sem.run P _ w = r; cases r <;> simp; done)

def ValAt (P : Program) (o : Oper) (a : Act) (w : World) (v : Value) : Prop :=
 (execOp a.eval o).run P w = .ok (.value v) w ∨ ((execOp a.eval o).run P w = .ok .skip w ∧ v = undef)

theorem valAt_of_quiet {o : Oper} {a : Act} {w : World} {v : Value} (hr : readB o = true) (h : o.quietAt P a C w v) : ValAt P o a w v := by
 unfold Oper.quietAt at h
 unfold ValAt
 have hn := @noEnter P o hr a.eval w
 generalize (execOp a.eval o).run P w = r at *
 cases r with
 | ok n w' =>
  cases n <;> simp only [Oper.quietUpon] at h
  case value u => obtain ⟨rfl, rfl⟩ := h; exact .inl rfl
  case skip => obtain ⟨rfl, rfl⟩ := h; exact .inr ⟨rfl, rfl⟩
  case enter f args => exact absurd rfl (hn (w' := w') (f := f) (args := args))
 | halt x w' => simp only [Oper.quietUpon] at h

theorem ValAt.det {o : Oper} {a : Act} {w : World} {u v : Value} (h : ValAt P o a w u) (h' : ValAt P o a w v) : u = v := by
 rcases h with h | ⟨h, rfl⟩ <;> rcases h' with h' | ⟨h', rfl⟩ <;> rw [h] at h'
 ·injection h' with h' _; injection h'
 ·injection h' with h' _; cases h'
 ·injection h' with h' _; cases h'

theorem wp_of_val {o : Oper} {a : Act} {w : World} {v : Value} {K : Act → World → Prop} {Q : Exit → Act → World → Prop} (h : ValAt P o a w v) (hK : K (a.put o.dst v) w) : o.wp P a w K Q := by
 unfold Oper.wp
 rcases h with h | ⟨h, rfl⟩ <;> rw [h] <;> exact hK

/-- one operation of the walk -/
def xOp (P : Program) (ops : Array Oper) (C : World → Prop) (z : Nat) (i : Nat) (K : Act → World → Prop) (a : Act) (w : World) : Prop :=
 match ops[i]? with
 | none => K a w
 | some o => if Region.wanted o (yielded ops a.tmps) then
   (if readB o then ∃ v, (∀ w, C w → ValAt P o a w v) ∧ K (a.put o.dst v) w else o.wp P a w (fun a' w' => (i ≠ z → C w') ∧ K a' w') NoExit)
  else K (a.put o.dst undef) w

theorem xOp_mono {i : Nat} {a : Act} {w : World} {K K' : Act → World → Prop} (h : ∀ a w, K a w → K' a w) (hh : xOp P ops C z i K a w) : xOp P ops C z i K' a w := by
 unfold xOp at *
 split
 ·exact h _ _ (by simpa [*] using hh)
 ·rename_i o ho
  simp only [ho] at hh
  split
  ·rename_i hw
   simp only [hw, if_true] at hh
   split
   ·rename_i hr; simp only [hr, if_true] at hh; obtain ⟨v, h1, h2⟩ := hh; exact ⟨v, h1, h _ _ h2⟩
   ·rename_i hr; simp only [hr] at hh; exact Oper.wp_mono (fun a' w' hk => ⟨hk.1, h _ _ hk.2⟩) hh
  ·rename_i hw; simp only [hw] at hh; exact h _ _ hh

theorem xOp_monoC {i : Nat} {a : Act} {w : World} {K K' : Act → World → Prop} (hC : C w) (h : ∀ a w, (i ≠ z → C w) → K a w → K' a w) (hh : xOp P ops C z i K a w) : xOp P ops C z i K' a w := by
 unfold xOp at *
 split
 ·exact h _ _ (fun _ => hC) (by simpa [*] using hh)
 ·rename_i o ho
  simp only [ho] at hh
  split
  ·rename_i hw
   simp only [hw, if_true] at hh
   split
   ·rename_i hr; simp only [hr, if_true] at hh; obtain ⟨v, h1, h2⟩ := hh; exact ⟨v, h1, h _ _ (fun _ => hC) h2⟩
   ·rename_i hr; simp only [hr] at hh; exact Oper.wp_mono (fun a' w' hk => ⟨hk.1, h _ _ hk.1 hk.2⟩) hh
  ·rename_i hw; simp only [hw] at hh; exact h _ _ (fun _ => hC) hh

/-- whatever order is picked from here on -/
def wpAnyX (P : Program) (md : Region.Mode) (ops : Array Oper) (C : World → Prop) (z : Nat) (Q : Act → World → Prop) : Nat → Array Bool → Act → World → Prop
 | 0, listed, a, w => Region.ready md ops listed = [] ∧ Q a w
 | fuel + 1, listed, a, w => C w ∧ (Region.ready md ops listed = [] → Q a w) ∧
  ∀ i ∈ Region.ready md ops listed, xOp P ops C z i (wpAnyX P md ops C z Q fuel (listed.setIfInBounds i true)) a w

theorem upon_noExit {o : Oper} {a : Act} {K : Act → World → Prop} {Q : Exit → Act → World → Prop} {w : World} (h : o.wp P a w K NoExit) : o.wp P a w K Q := by
 unfold Oper.wp at *
 generalize (execOp a.eval o).run P w = r at *
 cases r with
 | ok n w' =>
  cases n <;> simp only [Oper.upon] at h ⊢ <;> try exact h
  case enter f args =>
   refine Calls.mono h fun e w'' he => ?_
   cases e with
   | returned v => exact he
   | panicked c => exact he.elim
   | outgrown => obtain ⟨_, _, hf⟩ := he; exact hf.elim
 | halt x w' => cases x <;> simp only [Oper.upon] at h ⊢ <;> exact h.elim

theorem wpOp_of_xOp {i : Nat} {a : Act} {w : World} {K : Act → World → Prop} {Q : Exit → Act → World → Prop} (hC : C w) (hh : xOp P ops C z i K a w) : wpOp P ops Q i K a w := by
 unfold xOp at hh
 unfold wpOp
 split
 ·rename_i ho; simp only [ho] at hh; exact hh
 ·rename_i o ho
  simp only [ho] at hh
  split
  ·rename_i hw
   simp only [hw, if_true] at hh
   split at hh
   ·obtain ⟨v, h1, h2⟩ := hh; exact .inl (wp_of_val (h1 w hC) h2)
   ·exact .inl (upon_noExit (Oper.wp_mono (fun _ _ hk => hk.2) hh))
  ·rename_i hw; simp only [hw] at hh; exact hh

theorem wpAny_of_X {Q : Act → World → Prop} {Q' : Exit → Act → World → Prop} (hQ : ∀ a w, Q a w → Q' .normal a w) : ∀ (fuel : Nat) (listed : Array Bool) (a : Act) (w : World),
  wpAnyX P md ops C z Q fuel listed a w → wpAny P md ops Q' fuel listed a w
 | 0, _, _, _, h => ⟨h.1, hQ _ _ h.2⟩
 | fuel + 1, _, _, _, h => ⟨fun h0 => hQ _ _ (h.2.1 h0), fun i hi => wpOp_mono (fun a' w' => wpAny_of_X hQ fuel _ a' w') (wpOp_of_xOp h.1 (h.2.2 i hi))⟩

/-- operation o yields v in every world of the class (or is passed over) -/
def YieldsC (P : Program) (ops : Array Oper) (C : World → Prop) (o : Oper) (v : Value) (a : Act) : Prop :=
 (Region.wanted o (yielded ops a.tmps) = true ∧ readB o = true ∧ ∀ w, C w → ValAt P o a w v) ∨ (Region.wanted o (yielded ops a.tmps) = false ∧ v = undef)

theorem YieldsC.xOp {i : Nat} {o : Oper} {v : Value} {a : Act} {w : World} (hi : ops[i]? = some o) (hy : YieldsC P ops C o v a) {K : Act → World → Prop} (h : K (a.put o.dst v) w) : xOp P ops C z i K a w := by
 unfold Go.Proofs.Ytbkgjgpoohlieaa.xOp
 simp only [hi]
 rcases hy with ⟨hw, hr, hv⟩ | ⟨hw, rfl⟩
 ·simp only [hw, if_true, hr]; exact ⟨v, hv, h⟩
 ·simp only [hw, Bool.false_eq_true, if_false]; exact h

theorem YieldsC.of_same {o : Oper} {v : Value} {a a' : Act} (hy : YieldsC P ops C o v a) (he : execOp a'.eval o = execOp a.eval o)
  (hw : Region.wanted o (yielded ops a'.tmps) = Region.wanted o (yielded ops a.tmps)) : YieldsC P ops C o v a' := by
 unfold YieldsC ValAt at *
 rw [he, hw]
 exact hy

theorem yieldsC_of_xOp {i : Nat} {o : Oper} {a : Act} {w : World} {K : Act → World → Prop} (hi : ops[i]? = some o) (hr : readB o = true ∨ Region.wanted o (yielded ops a.tmps) = false) (h : xOp P ops C z i K a w) :
  ∃ v, YieldsC P ops C o v a ∧ K (a.put o.dst v) w := by
 unfold xOp at h
 simp only [hi] at h
 by_cases hw : Region.wanted o (yielded ops a.tmps) = true
 ·rcases hr with hr | hr
  ·simp only [hw, if_true, hr] at h
   obtain ⟨v, h1, h2⟩ := h
   exact ⟨v, .inl ⟨hw, hr, h1⟩, h2⟩
  ·rw [hw] at hr; cases hr
 ·simp only [hw] at h
  exact ⟨undef, .inr ⟨by simpa using hw, rfl⟩, h⟩

/-- a frame with other deferred calls -/
theorem put_defers (a : Act) (d : Option Tmp) (v : Value) (l : List Deferred) : ({ a with defers := l } : Act).put d v = { a.put d v with defers := l } := by
 cases d <;> rfl
theorem eval_defers (a : Act) (l : List Deferred) : ({ a with defers := l } : Act).eval = a.eval := by
 funext x; cases x <;> rfl

theorem put2 (a : Act) (l : List Deferred) {x y : Option Tmp} (v u : Value) (h : ∀ d, x = some d → y ≠ some d) : ({ a.put x v with defers := l } : Act).put y u = (({ a with defers := l } : Act).put y u).put x v := by
 have e1 := put_defers (a.put x v) y u l
 have e2 := put_defers a y u l
 have e3 := put_defers (a.put y u) x v l
 rw [e1, e2, e3, Act.put_comm a v u h]
theorem defers_put (a : Act) (x : Option Tmp) (v : Value) : (a.put x v).defers = a.defers := by cases x <;> rfl

/-- the operation's outcome: where the frame stands behind it -/
theorem wp_out {o : Oper} {a b : Act} {w : World} {K K' : Act → World → Prop} (he : execOp b.eval o = execOp a.eval o)
  (h : ∀ (u : Value) (l : List Deferred → List Deferred) (w' : World), K ({ a with defers := l a.defers }.put o.dst u) w' → K' ({ b with defers := l b.defers }.put o.dst u) w') (hh : o.wp P a w K NoExit) : o.wp P b w K' NoExit := by
 unfold Oper.wp at *
 rw [he]
 generalize (execOp a.eval o).run P w = r at *
 cases r with
 | ok n w' =>
  cases n <;> simp only [Oper.upon] at hh ⊢
  case value u => exact h u id w' hh
  case skip => exact h undef id w' hh
  case defer d => exact h undef (d :: ·) w' hh
  case enter f args =>
   refine Calls.mono hh fun e w'' hk => ?_
   cases e with
   | returned v => exact h v id w'' hk
   | panicked c => exact hk.elim
   | outgrown => obtain ⟨_, _, hf⟩ := hk; exact hf.elim
  case row row args => exact Rows.mono hh fun v w'' hk => h v id w'' hk
 | halt x w' => cases x <;> simp only [Oper.upon] at hh ⊢ <;> exact hh.elim

/-- .. and there is one -/
theorem wp_some {o : Oper} {a : Act} {w : World} {K : Act → World → Prop} (hh : o.wp P a w K NoExit) : ∃ (u : Value) (l : List Deferred → List Deferred) (w' : World), K ({ a with defers := l a.defers }.put o.dst u) w' := by
 unfold Oper.wp at *
 generalize (execOp a.eval o).run P w = r at *
 cases r with
 | ok n w' =>
  cases n <;> simp only [Oper.upon] at hh
  case value u => exact ⟨u, id, w', hh⟩
  case skip => exact ⟨undef, id, w', hh⟩
  case defer d => exact ⟨undef, (d :: ·), w', hh⟩
  case enter f args =>
   obtain ⟨e, w'', fr, hk, _⟩ := hh []
   cases e with
   | returned v => exact ⟨v, id, w'', hk⟩
   | panicked c => exact hk.elim
   | outgrown => obtain ⟨_, _, hf⟩ := hk; exact hf.elim
  case row row args =>
   obtain ⟨v, w'', hk, _⟩ := hh (Frame.enter P 0 #[] .normal) []
   exact ⟨v, id, w'', hk⟩
 | halt x w' => cases x <;> simp only [Oper.upon] at hh <;> exact hh.elim

/-- oj, apart from oi whose value is known: it makes no difference whether oi's value stands already -/
theorem xOp_put {j : Nat} {oi oj : Oper} {v : Value} (hj : ops[j]? = some oj) (hap : oi.apart ops oj = true)
  (hsi : ∀ cs b, oi.op ≠ .select cs b) (hsj : ∀ cs b, oj.op ≠ .select cs b) {K : Act → World → Prop} {a : Act} {w : World}
  (hy : YieldsC P ops C oi v a) (h : xOp P ops C z j K (a.put oi.dst v) w) :
  xOp P ops C z j (fun a' w' => YieldsC P ops C oi v a' ∧ K (a'.put oi.dst v) w') a w := by
 obtain ⟨h1, h2, h3⟩ := Oper.apart_spec hap
 have keep : ∀ (a : Act), YieldsC P ops C oi v a → ∀ u, YieldsC P ops C oi v (a.put oj.dst u) := fun a hy u =>
  hy.of_same (execOp_put oi hsi a oj.dst u h3) (wanted_put oi a oj.dst u h3)
 unfold xOp at *
 simp only [hj] at *
 rw [wanted_put oj a oi.dst v h1] at h
 split
 ·rename_i hw
  simp only [hw, if_true] at h
  split
  ·rename_i hr
   simp only [hr, if_true] at h
   obtain ⟨u, hu, hk⟩ := h
   refine ⟨u, fun w' hw' => ?_, keep a hy u, by rw [← Act.put_comm a v u h2]; exact hk⟩
   have := hu w' hw'
   unfold ValAt at this ⊢
   rwa [execOp_put oj hsj a oi.dst v h1] at this
  ·rename_i hr
   simp only [hr] at h
   refine wp_out (a := a.put oi.dst v) (b := a) (execOp_put oj hsj a oi.dst v h1).symm (fun u l w' hk => ⟨hk.1, ?_, ?_⟩) h
   ·rw [put_defers]
    have := keep a hy u
    exact this.of_same (by rw [eval_defers]) rfl
   ·have hk := hk.2
    rw [defers_put, put2 a _ v u h2] at hk
    exact hk
 ·rename_i hw
  simp only [hw] at h
  exact ⟨keep a hy _, by rw [← Act.put_comm a v undef h2]; exact h⟩

/-- does t wait for i (through others)? -/
def waitsB (md : Region.Mode) (ops : Array Oper) (i : Nat) : Nat → Nat → Bool
 | 0, _ => false
 | f + 1, t => match ops[t]? with
  | none => false
  | some o => o.after.any fun e => Region.binds md e && (e.on == i || waitsB md ops i f e.on)

/-- what is listed is closed under waiting -/
def Closed (md : Region.Mode) (ops : Array Oper) (listed : Array Bool) : Prop :=
 ∀ j oj, ops[j]? = some oj → listed.getD j false = true → ∀ e ∈ oj.after, Region.binds md e = true → listed.getD e.on false = true

theorem Closed.set {i : Nat} {listed : Array Bool} (inv : Closed md ops listed) (hi : i ∈ Region.ready md ops listed) : Closed md ops (listed.setIfInBounds i true) := by
 obtain ⟨_, oi, hoi, hall⟩ := mem_ready.1 hi
 intro j oj hj hl e he hb
 by_cases hij : i = j
 ·subst hij
  have : oj = oi := Option.some.inj (hj.symm.trans hoi)
  subst this
  exact getD_set_true (hall e he hb)
 ·rw [getD_set_ne false hij] at hl
  exact getD_set_true (inv j oj hj hl e he hb)

theorem getD_both' {listed : Array Bool} {i : Nat} (h : listed.getD i true = false) : listed.getD i false = false := by
 rcases Nat.lt_or_ge i listed.size with h' | h'
 ·simp [h'] at h ⊢; exact h
 ·simp [Array.getElem?_eq_none h'] at h

theorem waits_unlisted {i : Nat} {listed : Array Bool} (inv : Closed md ops listed) (hi : listed.getD i false = false) : ∀ (f t : Nat), waitsB md ops i f t = true →
  listed.getD t false = false ∧ ∃ o, ops[t]? = some o ∧ ∃ e ∈ o.after, Region.binds md e = true ∧ listed.getD e.on false = false
 | 0, _, h => by cases h
 | f + 1, t, h => by
  unfold waitsB at h
  split at h
  ·cases h
  ·rename_i o ho
   obtain ⟨e, he, hb⟩ := Array.any_eq_true'.1 h
   simp only [Bool.and_eq_true, Bool.or_eq_true, beq_iff_eq] at hb
   have hun : listed.getD e.on false = false := by
    rcases hb.2 with h' | h'
    ·rw [h']; exact hi
    ·exact (waits_unlisted inv hi f _ h').1
   refine ⟨?_, o, ho, e, he, hb.1, hun⟩
   cases hl : listed.getD t false with
   | false => rfl
   | true => rw [inv t o ho hl e he hb.1] at hun; cases hun

theorem waits_not_ready {i f t : Nat} {listed : Array Bool} (inv : Closed md ops listed) (hi : listed.getD i false = false) (h : waitsB md ops i f t = true) : t ∉ Region.ready md ops listed := by
 intro hr
 obtain ⟨_, o, ho, e, he, hb, hun⟩ := waits_unlisted inv hi f t h
 obtain ⟨_, o', ho', hall⟩ := mem_ready.1 hr
 have : o' = o := Option.some.inj (ho'.symm.trans ho)
 subst this
 rw [hall e he hb] at hun
 cases hun

/-- THE FIRST operation of the text, one that only reads, may as well be carried out first. -/
theorem wpAnyX_first {Q : Act → World → Prop} {i : Nat} {oi : Oper} {v : Value} (hi : ops[i]? = some oi) (hsel : ∀ (j : Nat) (o : Oper) cs b, ops[j]? = some o → o.op ≠ .select cs b)
  (hz : i = z ∨ z = ops.size ∨ ∃ f, waitsB md ops i f z = true) :
  ∀ (fuel : Nat) (listed : Array Bool) (a : Act) (w : World), C w → Closed md ops listed →
   (∀ j oj, ops[j]? = some oj → j ≠ i → listed.getD j true = false → (∀ e ∈ oj.after, Region.binds md e = true → e.on ≠ i) → oi.apart ops oj = true) →
   i ∈ Region.ready md ops listed → YieldsC P ops C oi v a →
   wpAnyX P md ops C z Q fuel (listed.setIfInBounds i true) (a.put oi.dst v) w → wpAnyX P md ops C z Q (fuel + 1) listed a w := by
 intro fuel
 induction fuel with
 | zero =>
  intro listed a w hC _ _ hr hy H
  refine ⟨hC, fun h => (by rw [h] at hr; cases hr), fun j hj => ?_⟩
  by_cases hji : j = i
  ·subst hji; exact hy.xOp hi H
  ·have := ready_mono hj hji
   rw [H.1] at this
   cases this
 | succ fuel ih =>
  intro listed a w hC hcl hfree hr hy H
  refine ⟨hC, fun h => (by rw [h] at hr; cases hr), fun j hj => ?_⟩
  by_cases hji : j = i
  ·subst hji; exact hy.xOp hi H
  ·have h1 := H.2.2 j (ready_mono hj hji)
   obtain ⟨hjun, oj, hoj, hall⟩ := mem_ready.1 hj
   have hnot : ∀ e ∈ oj.after, Region.binds md e = true → e.on ≠ i := fun e he hb heq => by
    have h1 := hall e he hb
    have h0 := (mem_ready.1 hr).1
    rw [heq] at h1
    rcases Nat.lt_or_ge i listed.size with h' | h'
    ·simp [h'] at h0 h1; rw [h0] at h1; cases h1
    ·simp [Array.getElem?_eq_none h'] at h1
   have h2 := xOp_put hoj (hfree j oj hoj hji hjun hnot) (fun cs b => hsel i oi cs b hi) (fun cs b => hsel j oj cs b hoj) hy h1
   have hfree' : ∀ k ok, ops[k]? = some ok → k ≠ i → (listed.setIfInBounds j true).getD k true = false →
     (∀ e ∈ ok.after, Region.binds md e = true → e.on ≠ i) → oi.apart ops ok = true := fun k ok hk hki hun hno => by
    refine hfree k ok hk hki ?_ hno
    by_cases hjk : j = k
    ·subst hjk; exact hjun
    ·rw [getD_set_ne true hjk] at hun; exact hun
   have hjz : j ≠ z := by
    rintro rfl
    rcases hz with h' | h' | ⟨f, h'⟩
    ·exact hji h'.symm
    ·have := (Array.getElem?_eq_some_iff.1 hoj).1; omega
    ·exact waits_not_ready hcl (getD_both' (mem_ready.1 hr).1) h' hj
   refine xOp_monoC hC (fun a' w' hC' h3 => ih (listed.setIfInBounds j true) a' w' (hC' hjz) (hcl.set hj) hfree' (ready_mono hr (Ne.symm hji)) h3.1 ?_) h2
   rw [Array.setIfInBounds_comm _ _ hji]
   exact h3.2

/-- THE FIRST operation of the text, an effect: all other effects wait for it, and what only reads may as well be carried out behind it. -/
theorem wpAnyX_eff {Q : Act → World → Prop} {i : Nat} {oi : Oper} (hi : ops[i]? = some oi) (hsel : ∀ (j : Nat) (o : Oper) cs b, ops[j]? = some o → o.op ≠ .select cs b)
  (hri : readB oi = false) (hwait : ∀ j oj, ops[j]? = some oj → j ≠ i → readB oj = false → (∃ f, waitsB md ops i f j = true) ∨ j < i) :
  ∀ (fuel : Nat) (listed : Array Bool) (a : Act) (w : World), C w → Closed md ops listed → (∀ j, j < i → listed.getD j true = true) →
   (∀ j oj, ops[j]? = some oj → j ≠ i → listed.getD j true = false → (∀ e ∈ oj.after, Region.binds md e = true → e.on ≠ i) → oi.apart ops oj = true) →
   i ∈ Region.ready md ops listed → Region.wanted oi (yielded ops a.tmps) = true →
   oi.wp P a w (fun a' w' => (i ≠ z → C w') ∧ wpAnyX P md ops C z Q fuel (listed.setIfInBounds i true) a' w') NoExit → wpAnyX P md ops C z Q (fuel + 1) listed a w := by
 intro fuel
 have here : ∀ (fuel : Nat) (listed : Array Bool) (a : Act) (w : World), Region.wanted oi (yielded ops a.tmps) = true →
   oi.wp P a w (fun a' w' => (i ≠ z → C w') ∧ wpAnyX P md ops C z Q fuel (listed.setIfInBounds i true) a' w') NoExit → xOp P ops C z i (wpAnyX P md ops C z Q fuel (listed.setIfInBounds i true)) a w := by
  intro fuel listed a w hw H
  unfold xOp
  simp only [hi, hw, if_true, hri]
  exact H
 induction fuel with
 | zero =>
  intro listed a w hC _ _ _ hr hw H
  refine ⟨hC, fun h => (by rw [h] at hr; cases hr), fun j hj => ?_⟩
  by_cases hji : j = i
  ·subst hji; exact here 0 listed a w hw H
  ·obtain ⟨u, l, w', H'⟩ := wp_some H
   have := ready_mono hj hji
   rw [H'.2.1] at this
   cases this
 | succ fuel ih =>
  intro listed a w hC hcl hlow hfree hr hw H
  refine ⟨hC, fun h => (by rw [h] at hr; cases hr), fun j hj => ?_⟩
  by_cases hji : j = i
  ·subst hji; exact here (fuel + 1) listed a w hw H
  ·obtain ⟨hjun, oj, hoj, hall⟩ := mem_ready.1 hj
   have hiun := (mem_ready.1 hr).1
   have hji' : ¬ j < i := fun hlt => by rw [hlow j hlt] at hjun; cases hjun
   have hrj : readB oj = true := by
    cases hb : readB oj with
    | true => rfl
    | false =>
     rcases hwait j oj hoj hji hb with ⟨f, hf⟩ | h'
     ·exact absurd hj (waits_not_ready hcl (getD_both' hiun) hf)
     ·exact absurd h' hji'
   have hnot : ∀ e ∈ oj.after, Region.binds md e = true → e.on ≠ i := fun e he hb heq => by
    have h1 := hall e he hb
    rw [heq] at h1
    rw [getD_both' hiun] at h1
    cases h1
   have hap := hfree j oj hoj hji hjun hnot
   obtain ⟨h1, h2, h3⟩ := Oper.apart_spec hap
   have hsj := fun cs b => hsel j oj cs b hoj
   have hsi := fun cs b => hsel i oi cs b hi
   -- what oj yields, seen behind oi
   have peek : ∀ (u : Value) (l : List Deferred → List Deferred) (w' : World), wpAnyX P md ops C z Q (fuel + 1) (listed.setIfInBounds i true) ({ a with defers := l a.defers }.put oi.dst u) w' →
     ∃ v, YieldsC P ops C oj v a ∧ wpAnyX P md ops C z Q fuel ((listed.setIfInBounds i true).setIfInBounds j true) (({ a with defers := l a.defers }.put oi.dst u).put oj.dst v) w' := by
    intro u l w' H'
    obtain ⟨v, hy, hk⟩ := yieldsC_of_xOp hoj (.inl hrj) (H'.2.2 j (ready_mono hj hji))
    refine ⟨v, hy.of_same ?_ ?_, hk⟩
    ·rw [put_defers]
     exact ((congrArg (fun f => execOp f oj) (eval_defers (a.put oi.dst u) _)).trans (execOp_put oj hsj a oi.dst u h1)).symm
    ·rw [put_defers]
     exact (wanted_put oj a oi.dst u h1).symm
   obtain ⟨u0, l0, w0, H0⟩ := wp_some H
   obtain ⟨v, hy, _⟩ := peek u0 l0 w0 H0.2
   refine hy.xOp hoj ?_
   refine ih (listed.setIfInBounds j true) (a.put oj.dst v) w hC (hcl.set hj) (fun k hk => ?_) (fun k ok hk hki hun hno => ?_) (ready_mono hr (Ne.symm hji)) ?_ ?_
   ·by_cases hjk : j = k
    ·omega
    ·rw [getD_set_ne true hjk]; exact hlow k hk
   ·refine hfree k ok hk hki ?_ hno
    by_cases hjk : j = k
    ·subst hjk; exact hjun
    ·rw [getD_set_ne true hjk] at hun; exact hun
   ·rw [wanted_put oi a oj.dst v h3]; exact hw
   ·refine wp_out (a := a) (b := a.put oj.dst v) (execOp_put oi hsi a oj.dst v h3) (fun u l w' H' => ?_) H
    obtain ⟨v', hy', hk⟩ := peek u l w' H'.2
    refine ⟨H'.1, ?_⟩
    have hvv : v' = v := by
     rcases hy' with ⟨hw1, _, hv1⟩ | ⟨hw1, rfl⟩ <;> rcases hy with ⟨hw2, _, hv2⟩ | ⟨hw2, rfl⟩
     ·exact (hv1 w hC).det (hv2 w hC)
     ·rw [hw1] at hw2; cases hw2
     ·rw [hw1] at hw2; cases hw2
     ·rfl
    subst hvv
    rw [Array.setIfInBounds_comm _ _ hji]
    rw [defers_put, put2 a _ v' u (fun d hd hd' => h2 d hd' hd)]
    exact hk

/-- does the last operation wait for all others? -/
def sinkAll (ops : Array Oper) : Bool := (List.range (ops.size - 1)).all fun i => waitsB .any ops i ops.size (ops.size - 1)
def sinkAt (ops : Array Oper) : Nat := if sinkAll ops then ops.size - 1 else ops.size

/-- THE WALK: the operations in the text's order. -/
def LexE (P : Program) (ops : Array Oper) (C : World → Prop) (Q : Act → World → Prop) : List Oper → Act → World → Prop
 | [], a, w => Q a w
 | o :: rest, a, w => if Region.wanted o (yielded ops a.tmps) then
   (if readB o then ∃ v, (∀ w', C w' → ValAt P o a w' v) ∧ LexE P ops C Q rest (a.put o.dst v) w else o.wp P a w (fun a' w' => (rest ≠ [] ∨ sinkAll ops = false → C w') ∧ LexE P ops C Q rest a' w') NoExit)
  else LexE P ops C Q rest (a.put o.dst undef) w

def chainX (md : Region.Mode) (ops : Array Oper) : Bool :=
 (List.range ops.size).all fun i => (ops[i]?.map readB).getD true || (List.range ops.size).all fun t => decide (t ≤ i) || (ops[t]?.map readB).getD true || waitsB md ops i ops.size t

def lexX (md : Region.Mode) (ops : Array Oper) : Bool := Region.lexB md ops && chainX md ops

theorem chain_spec {md : Region.Mode} (h : chainX md ops = true) {i : Nat} {oi : Oper} (hi : ops[i]? = some oi) (hri : readB oi = false) :
  ∀ j oj, ops[j]? = some oj → j ≠ i → readB oj = false → (∃ f, waitsB md ops i f j = true) ∨ j < i := by
 intro j oj hj hne hr
 have h1 := List.all_eq_true.1 h i (List.mem_range.2 (Array.getElem?_eq_some_iff.1 hi).1)
 simp only [hi, Option.map_some, Option.getD_some, hri, Bool.false_or] at h1
 have h2 := List.all_eq_true.1 h1 j (List.mem_range.2 (Array.getElem?_eq_some_iff.1 hj).1)
 simp only [hj, Option.map_some, Option.getD_some, hr, Bool.or_false, Bool.or_eq_true, decide_eq_true_eq] at h2
 rcases h2 with h2 | h2
 ·right; omega
 ·left; exact ⟨_, h2⟩

theorem sinkAt_spec {i : Nat} {oi : Oper} (hi : ops[i]? = some oi) : i = sinkAt ops ∨ sinkAt ops = ops.size ∨ ∃ f, waitsB .any ops i f (sinkAt ops) = true := by
 unfold sinkAt
 split
 ·rename_i h
  have hlt := (Array.getElem?_eq_some_iff.1 hi).1
  by_cases he : i = ops.size - 1
  ·exact .inl he
  ·exact .inr (.inr ⟨_, List.all_eq_true.1 h i (List.mem_range.2 (by omega))⟩)
 ·exact .inr (.inl rfl)

theorem wpAnyX_lex {Q : Act → World → Prop} (hs : Region.noSelect ops = true) (hch : chainX .any ops = true) : ∀ (l : List Oper) (k : Nat) (listed : Array Bool) (a : Act) (w : World), (∀ j, l[j]? = ops[k + j]?) →
  (l ≠ [] → C w) → Closed .any ops listed → (∀ j, j < k → listed.getD j true = true) →
  Region.lexFrom .any ops l.length k listed = true → LexE P ops C Q l a w → wpAnyX P .any ops C (sinkAt ops) Q l.length listed a w
 | [], _, _, _, _, _, _, _, _, hB, h => ⟨by simpa [Region.lexFrom] using hB, h⟩
 | o :: l, k, listed, a, w, hl, hC, hcl, hlow, hB, h => by
  have hC := hC (by simp)
  have h0 : ops[k]? = some o := by simpa using (hl 0).symm
  simp only [List.length_cons, Region.lexFrom, Bool.and_eq_true] at hB
  obtain ⟨⟨hr, hf⟩, hB'⟩ := hB
  have hr' : k ∈ Region.ready .any ops listed := by simpa using hr
  have hl' : ∀ j, l[j]? = ops[k + 1 + j]? := fun j => by have := hl (j + 1); simpa [Nat.add_assoc, Nat.add_comm 1 j] using this
  have hcl' := hcl.set hr'
  have hlow' : ∀ j, j < k + 1 → (listed.setIfInBounds k true).getD j true = true := fun j hj => by
   by_cases hkj : k = j
   ·subst hkj
    rcases Nat.lt_or_ge k listed.size with h' | h'
    ·simp [h']
    ·simp [h']
   ·rw [getD_set_ne true hkj]; exact hlow j (by omega)
  have hap := Region.free_spec (md := .any) h0 hf
  have hklt := (Array.getElem?_eq_some_iff.1 h0).1
  unfold LexE at h
  by_cases hw : Region.wanted o (yielded ops a.tmps) = true
  ·simp only [hw, if_true] at h
   by_cases hrd : readB o = true
   ·simp only [hrd, if_true] at h
    obtain ⟨v, hv, hK⟩ := h
    exact wpAnyX_first h0 (Region.noSelect_spec hs) (sinkAt_spec h0) l.length listed a w hC hcl hap hr' (.inl ⟨hw, hrd, hv⟩) (wpAnyX_lex hs hch l (k + 1) _ _ w hl' (fun _ => hC) hcl' hlow' hB' hK)
   ·have hrd : readB o = false := by simpa using hrd
    simp only [hrd] at h
    have hpost : ∀ w', (l ≠ [] ∨ sinkAll ops = false → C w') → k ≠ sinkAt ops → C w' := fun w' hk hne => by
     refine hk ?_
     by_cases hs' : sinkAll ops = true
     ·left
      rintro rfl
      have h1 := hl' 0
      have h2 : ops[k + 1]? = none := by simpa using h1.symm
      have h3 : ops.size ≤ k + 1 := by
       rcases Nat.lt_or_ge (k + 1) ops.size with h' | h'
       ·rw [Array.getElem?_eq_getElem h'] at h2; cases h2
       ·exact h'
      apply hne
      unfold sinkAt
      rw [if_pos hs']
      omega
     ·right; simpa using hs'
    exact wpAnyX_eff h0 (Region.noSelect_spec hs) hrd (chain_spec hch h0 hrd) l.length listed a w hC hcl hlow hap hr' hw
     (Oper.wp_mono (fun a' w' hk => ⟨hpost w' hk.1, wpAnyX_lex hs hch l (k + 1) _ a' w' hl' (fun hne => hk.1 (.inl hne)) hcl' hlow' hB' hk.2⟩) h)
  ·have hw : Region.wanted o (yielded ops a.tmps) = false := by simpa using hw
   simp only [hw] at h
   exact wpAnyX_first h0 (Region.noSelect_spec hs) (sinkAt_spec h0) l.length listed a w hC hcl hap hr' (.inr ⟨hw, rfl⟩) (wpAnyX_lex hs hch l (k + 1) _ _ w hl' (fun _ => hC) hcl' hlow' hB' h)

/-- THE LAW. -/
theorem wp_region_lex {id : Nat} {Q : Exit → Act → World → Prop} {a : Act} {w : World} {l : List Oper} (hm : P.follows .mixedOrders = true) (hB : lexX .any l.toArray = true) (C : World → Prop) (hC : C w.drew)
  (h : LexE P l.toArray C (fun a' w' => Q .normal a' w') l a w.drew) : (Code.region id l.toArray true).wp P Q a w := by
 simp only [lexX, Region.lexB, Bool.and_eq_true] at hB
 refine wp_region_any hm (wpAny_of_X (Q := fun a' w' => Q .normal a' w') (C := C) (z := sinkAt l.toArray) (fun _ _ h => h) _ _ _ _ ?_)
 have := wpAnyX_lex (P := P) (C := C) hB.1.1 hB.2 l 0 (Array.replicate l.toArray.size false) a w.drew (by simp) (fun _ => hC)
  (fun j oj _ hl => by simp [Array.getElem?_replicate] at hl; split at hl <;> simp at hl) (by omega) (by simpa using hB.1.2) h
 simpa using this

/-! ### the steps -/
theorem lex_skip {Q : Act → World → Prop} {o : Oper} {rest : List Oper} {a : Act} {w : World} (hw : Region.wanted o (yielded ops a.tmps) = false) (h : LexE P ops C Q rest (a.put o.dst undef) w) : LexE P ops C Q (o :: rest) a w := by
 unfold LexE; simp only [hw, Bool.false_eq_true, if_false]; exact h
theorem lex_read {Q : Act → World → Prop} {o : Oper} {rest : List Oper} {a : Act} {w : World} (hw : Region.wanted o (yielded ops a.tmps) = true) (hr : readB o = true)
  (h : ∀ K : Act → Prop, (∀ a, LexE P ops C Q rest a w → K a) → o.quiet P a C K) : LexE P ops C Q (o :: rest) a w := by
 unfold LexE; simp only [hw, if_true, hr]
 obtain ⟨v, h1, h2⟩ := h _ fun _ h => h
 exact ⟨v, fun w' hw' => valAt_of_quiet hr (h1 w' hw'), h2⟩
theorem lex_move {Q : Act → World → Prop} {o : Oper} {rest : List Oper} {a : Act} {w : World} (x : Operand) (ho : o.op = .move x) (hw : Region.wanted o (yielded ops a.tmps) = true)
  (h : LexE P ops C Q rest (a.put o.dst (a.eval x)) w) : LexE P ops C Q (o :: rest) a w := by
 unfold LexE
 have hr : readB o = true := by unfold readB; rw [ho]
 simp only [hw, if_true, hr]
 refine ⟨a.eval x, fun w' _ => .inl ?_, h⟩
 simp [execOp, ho]
theorem lex_eff {Q : Act → World → Prop} {o : Oper} {rest : List Oper} {a : Act} {w : World} (hw : Region.wanted o (yielded ops a.tmps) = true) (hr : readB o = false)
  (h : ∀ K : Act → World → Prop, (∀ a w, C w → LexE P ops C Q rest a w → K a w) → o.wp P a w K NoExit) : LexE P ops C Q (o :: rest) a w := by
 unfold LexE; simp only [hw, if_true, hr]
 exact h _ fun _ _ h1 h2 => ⟨fun _ => h1, h2⟩
theorem lex_last {Q : Act → World → Prop} {o : Oper} {a : Act} {w : World} (hw : Region.wanted o (yielded ops a.tmps) = true) (hr : readB o = false) (hs : sinkAll ops = true)
  (h : ∀ K : Act → World → Prop, (∀ a w, Q a w → K a w) → o.wp P a w K NoExit) : LexE P ops C Q [o] a w := by
 unfold LexE; simp only [hw, if_true, hr]
 exact h _ fun _ _ h2 => ⟨fun hh => (by rcases hh with hh | hh; exact absurd rfl hh; rw [hs] at hh; cases hh), h2⟩
theorem lex_skip' {Q : Act → World → Prop} {o : Oper} {rest : List Oper} {a : Act} {w : World} (hw : Region.wanted o (yielded ops a.tmps) = false)
  (h : ∀ K : Act → Prop, (∀ a, LexE P ops C Q rest a w → K a) → K (a.put o.dst undef)) : LexE P ops C Q (o :: rest) a w :=
 lex_skip hw (h _ fun _ h => h)
theorem wanted_g {l : List Oper} {tl : List Value} {ds : List Deferred} {o : Oper} {j d : Nat} {want b c : Bool} (hg : o.guard = some (j, want)) (hj : (l[j]?).bind (·.dst) = some d) (hv : tl[d]? = some (.bool b)) (hb : (b == want) = c) :
  Region.wanted o (yielded l.toArray (Act.mk tl.toArray ds).tmps) = c := by
 unfold Region.wanted
 rw [hg]
 simp only [yielded, List.getElem?_toArray, hj, Option.bind_some, hv]
 rw [← hb]
 cases b <;> cases want <;> rfl
theorem wanted_n {y : Nat → Option Bool} {o : Oper} (hg : o.guard = none) : Region.wanted o y = true := by
 unfold Region.wanted; rw [hg]
theorem lex_nil {Q : Act → World → Prop} {a : Act} {w : World} (h : Q a w) : LexE P ops C Q [] a w := h
theorem lex_r {Q : Act → World → Prop} {o : Oper} {rest : List Oper} {a : Act} {w : World} (h : ∀ K : Act → Prop, (∀ a, LexE P ops C Q rest a w → K a) → o.quiet P a C K)
  (hw : Region.wanted o (yielded ops a.tmps) = true := by first | exact wanted_n rfl | exact wanted_g rfl rfl rfl rfl) (hr : readB o = true := by exact rfl) : LexE P ops C Q (o :: rest) a w := lex_read hw hr h
theorem lex_e {Q : Act → World → Prop} {o : Oper} {rest : List Oper} {a : Act} {w : World} (h : ∀ K : Act → World → Prop, (∀ a w, C w → LexE P ops C Q rest a w → K a w) → o.wp P a w K NoExit)
  (hw : Region.wanted o (yielded ops a.tmps) = true := by first | exact wanted_n rfl | exact wanted_g rfl rfl rfl rfl) (hr : readB o = false := by exact rfl) : LexE P ops C Q (o :: rest) a w := lex_eff hw hr h
theorem lex_k {Q : Act → World → Prop} {o : Oper} {rest : List Oper} {a : Act} {w : World} (h : ∀ K : Act → Prop, (∀ a, LexE P ops C Q rest a w → K a) → K (a.put o.dst undef))
  (hw : Region.wanted o (yielded ops a.tmps) = false := by exact wanted_g rfl rfl rfl rfl) : LexE P ops C Q (o :: rest) a w := lex_skip' hw h
theorem lex_l {Q : Act → World → Prop} {o : Oper} {a : Act} {w : World} (h : ∀ K : Act → World → Prop, (∀ a w, Q a w → K a w) → o.wp P a w K NoExit)
  (hw : Region.wanted o (yielded ops a.tmps) = true := by first | exact wanted_n rfl | exact wanted_g rfl rfl rfl rfl) (hr : readB o = false := by exact rfl) (hs : sinkAll ops = true := by kernel_rfl) : LexE P ops C Q [o] a w := lex_last hw hr hs h
attribute [irreducible] LexE
end

/-- a world of a class, under a name that the walk sees through -/
structure Wd (C : World → Prop) where
 val : World
 ok : C val
/-- the class as the walk wants it -/
def Cls (C : World → Prop) (w : World) : Prop := ∃ W : Wd C, w = W.val
theorem Cls.mk' {C : World → Prop} {w : World} (h : C w) : Cls C w := ⟨⟨w, h⟩, rfl⟩
theorem Cls.get {C : World → Prop} {w : World} (h : Cls C w) : C w := by obtain ⟨W, rfl⟩ := h; exact W.ok
@[go_sem] theorem forall_cls {C : World → Prop} {p : World → Prop} : (∀ w, Cls C w → p w) ↔ ∀ W : Wd C, p W.val :=
 ⟨fun h W => h _ ⟨W, rfl⟩, fun h _w ⟨W, e⟩ => e ▸ h W⟩
theorem wp_region_lexC {P : Program} {id : Nat} {Q : Exit → Act → World → Prop} {a : Act} {w : World} {l : List Oper} (hm : P.follows .mixedOrders = true) (hB : lexX .any l.toArray = true) (C : World → Prop) (hC : C w.drew)
  (h : Nonempty (Wd C) → LexE P l.toArray (Cls C) (fun a' w' => Q .normal a' w') l a w.drew) : (Code.region id l.toArray true).wp P Q a w :=
 wp_region_lex hm hB (Cls C) (Cls.mk' hC) (h ⟨⟨_, hC⟩⟩)
end Go.Proofs.Ytbkgjgpoohlieaa

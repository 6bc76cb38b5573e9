/- Words for memory: one element of a slice of the call's own is taken out in place; a design of one module. -/
import Derived.Test.YtlgbdpcobbbglaaGa
import Derived.Test.YtlgbdpcobbbglaaDesignD
namespace Go.Proofs.Ytlgbdpcobbbglaa
open Go.RowKit

section
variable {P : Program} (w : World)
theorem run_append_del (base : Nat) (t ty e : TypeId) (i : TypeInfo) (ht : P.underlying t = some (.slice e)) (hi : P.info? e = some i) (hsize : i.size = 1)
  (g n cap k : Nat) (xs : List Value) (hown : w.ownsRow base e 1 (.slice (some ⟨g, 0, none⟩) n cap) n xs) (hk : k < n)
  (AD : Addr) (hAD : ∀ j u, (xs.drop (k + 1))[j]? = some u → w.cell? (AD.add j) = some u) (h1 : ∀ u ∈ xs, u.oneCell' = true) (c : Nat) :
  ∃ w', (Builtin.append_ #[t, t] ty #[.slice (some ⟨g, 0, none⟩) k cap, .slice (some AD) (n - (k + 1)) c]).run P w = .ok (.slice (some ⟨g, 0, none⟩) (n - 1) cap) w' ∧
   w'.ownsRow base e 1 (.slice (some ⟨g, 0, none⟩) (n - 1) cap) (n - 1) (xs.eraseIdx k) ∧ w.grownBy w' (some g) := by
 have hxl : xs.length = n := by have := hown.1; omega
 have hcap : n ≤ cap := by
  rcases hown.2 with ⟨h, _⟩ | ⟨g', cap', cur, h, _, _, hnc, _⟩
  ·simp at h
  ·simp only [Value.slice.injEq] at h; omega
 have hpre : w.ownsRow base e 1 (.slice (some ⟨g, 0, none⟩) k cap) k (xs.take k) := by
  refine own_prefix (k := n - k) (ys := xs.drop k) ?_ (by rw [List.length_take]; omega)
  rw [List.take_append_drop, show k + (n - k) = n by omega]
  exact hown
 obtain ⟨w', h2, h3, h4⟩ := run_append_fits (P := P) w base t ty e i 1 ht hi hsize g k cap (xs.take k) hpre AD (n - (k + 1)) c (xs.drop (k + 1)) (by rw [List.length_drop]; omega) hAD (fun u hu => h1 u (List.mem_of_mem_drop hu)) (by omega)
 have hn1 : k + (n - (k + 1)) = n - 1 := by omega
 rw [hn1] at h2 h3
 rw [← List.eraseIdx_eq_take_drop_succ] at h3
 exact ⟨w', h2, h3, h4⟩
theorem wp_append_del {o : Oper} {a : Act} {K : Act → World → Prop} {Q : Exit → Act → World → Prop} (s x : Operand) (t : TypeId)
  (ho : o.op = .call { callee := .builtin .append, args := #[s, x], argTypes := #[t, t] })
  (base : Nat) (e : TypeId) (i : TypeInfo) (ht : P.underlying t = some (.slice e)) (hi : P.info? e = some i) (hsize : i.size = 1)
  (g n cap k : Nat) (xs : List Value) (hown : w.ownsRow base e 1 (.slice (some ⟨g, 0, none⟩) n cap) n xs) (hk : k < n)
  (AD : Addr) (hAD : ∀ j u, (xs.drop (k + 1))[j]? = some u → w.cell? (AD.add j) = some u) (h1 : ∀ u ∈ xs, u.oneCell' = true) (c : Nat)
  (hs : a.eval s = .slice (some ⟨g, 0, none⟩) k cap) (hx : a.eval x = .slice (some AD) (n - (k + 1)) c)
  (h : ∀ w', w'.ownsRow base e 1 (.slice (some ⟨g, 0, none⟩) (n - 1) cap) (n - 1) (xs.eraseIdx k) → w.grownBy w' (some g) → K (a.put o.dst (.slice (some ⟨g, 0, none⟩) (n - 1) cap)) w') : o.wp P a w K Q := by
 obtain ⟨w', hrun, h2, h3⟩ := run_append_del (P := P) w base t o.type e i ht hi hsize g n cap k xs hown hk AD hAD h1 c
 unfold Oper.wp execOp
 simp only [ho, resolve, invoke, builtin, Sem.run_bind, Sem.run_pure, Result.andThen_ok, List.map_toArray, List.map_cons, List.map_nil, hs, hx, hrun]
 exact h w' h2 h3
end
/-- where the rest behind element k begins -/
theorem del_src {w : World} {base g n cap k : Nat} {e : TypeId} {xs : List Value} (hown : w.ownsRow base e 1 (.slice (some ⟨g, 0, none⟩) n cap) n xs) (hk : k < n) :
  ∀ j u, (xs.drop (k + 1))[j]? = some u → w.cell? ((if cap = k + 1 then (⟨g, 0, none⟩ : Addr) else (⟨g, 0, none⟩ : Addr).add (k + 1)).add j) = some u := by
 intro j u hu
 rw [List.getElem?_drop] at hu
 have hxl : xs.length = n := by have := hown.1; omega
 have hj := (List.getElem?_eq_some_iff.1 hu).1
 have hcap : n ≤ cap := by
  rcases hown.2 with ⟨h, _⟩ | ⟨g', cap', cur, h, _, _, hnc, _⟩
  ·simp at h
  ·simp only [Value.slice.injEq] at h; omega
 rw [if_neg (by omega), add_of_add]
 exact hown.cells (g := g) rfl _ _ hu
theorem one_design {w : World} {S : Nat → Prop} {v0 v1 v2 v3 : Value} {m : TModule} {g : Nat} {t : TypeId} (h : RModule w S (.agg #[v0, v1, v2, v3]) m) (hb : Blk w g t #[v0, v1, v2, v3]) :
  RDesign w (fun b => S b ∨ b = g) (.agg #[.slice (some ⟨g, 0, none⟩) 1 1]) [m] := by
 obtain ⟨_, _, _, _, he, h0, h1, h2, h3⟩ := h
 simp only [Value.agg.injEq, Array.mk.injEq, List.cons.injEq, and_true] at he
 obtain ⟨rfl, rfl, rfl, rfl⟩ := he
 refine ⟨_, rfl, .sl _ 1 1 4 _ (fun _ j => #[v0, v1, v2, v3].getD j undef) rfl (by unfold maxLen; omega) (rModule_lens _) (fun _ => ⟨_, rfl, .inr rfl, fun i j hi hj => ?_⟩) (fun i j r f hr hf => ?_)⟩
 ·obtain rfl : i = 0 := by omega
  have ha : (⟨g, 0, none⟩ : Addr).add (0 * 4 + j) = ⟨g, j, none⟩ := by
   unfold Addr.add
   split
   ·rename_i h; have : j = 0 := by omega
    subst this; rfl
   ·simp
  rw [ha, hb.cell j]
  match j, hj with
  | 0, _ => rfl
  | 1, _ => rfl
  | 2, _ => rfl
  | 3, _ => rfl
 ·match i with
  | 0 =>
   simp only [List.map_cons, List.map_nil, List.getElem?_cons_zero, Option.some.injEq] at hr
   subst hr
   match j with
   | 0 => simp [rModule] at hf; subst hf; exact h0.mono (fun b hb => .inl hb)
   | 1 => simp [rModule] at hf; subst hf; exact h1.mono (fun b hb => .inl hb)
   | 2 => simp [rModule] at hf; subst hf; exact h2.mono (fun b hb => .inl hb)
   | 3 => simp [rModule] at hf; subst hf; exact h3.mono (fun b hb => .inl hb)
   | j + 4 => simp [rModule] at hf
  | i + 1 => simp at hr
theorem one_sz {m : TModule} {N : Nat} (h : sModule m ≤ N) : sDesign [m] ≤ N + 1 := by
 simp only [sDesign, szL_eq, nuL, List.map_cons, List.map_nil, List.sum_cons, List.sum_nil, List.length_cons, List.length_nil]
 omega
end Go.Proofs.Ytlgbdpcobbbglaa

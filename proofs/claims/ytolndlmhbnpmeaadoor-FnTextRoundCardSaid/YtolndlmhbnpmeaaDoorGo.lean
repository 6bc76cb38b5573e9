/- Words and contracts that later texts use. -/
import Derived.Test.YtolndlmhbnpmeaaDoorGn
import Derived.Outline
/- Plain: the lines of a text, the fields of a line, as lists; the text of a valid design is read as this design, also with more spaces and empty lines. -/
namespace Go.Proofs.YtolndlmhbnpmeaaDoor
open Go.RowKit

theorem ext_snoc (s : ByteArray) {b k : Nat} (hb : b ≤ k) (hk : k < s.size) : byt (s.extract b (k + 1)) = byt (s.extract b k) ++ [s.data.toList.getD k 0] := by
 have hl : s.data.toList.length = s.size := rfl
 unfold byt
 rw [ext_list, ext_list, show k + 1 - b = (k - b) + 1 by omega, List.take_add_one, List.getElem?_drop, show b + (k - b) = k by omega, List.getElem?_eq_getElem (by omega)]
 simp [List.getD, List.getElem?_eq_getElem (show k < s.data.toList.length by omega)]
theorem ext_nil (s : ByteArray) (k : Nat) : byt (s.extract k k) = [] := by
 unfold byt
 rw [ext_list]
 simp
theorem drop_getD {s : ByteArray} {k : Nat} (hk : k < s.size) (d : UInt8) : s.data.toList.drop k = s.data.toList.getD k d :: s.data.toList.drop (k + 1) := by
 have hl : s.data.toList.length = s.size := rfl
 rw [List.drop_eq_getElem_cons (by omega)]
 simp [List.getD, List.getElem?_eq_getElem (show k < s.data.toList.length by omega)]
/-- lines -/
def spl : Wd8 → List UInt8 → List Wd8
 | acc, [] => [acc]
 | acc, c :: l => if c = 10 then acc :: spl [] l else spl (acc ++ [c]) l
theorem spl_app {a : Wd8} (ha : ∀ c ∈ a, c ≠ 10) (acc l : Wd8) : spl acc (a ++ l) = spl (acc ++ a) l := by
 induction a generalizing acc with
 | nil => simp
 | cons c a ih =>
  rw [List.cons_append, spl, if_neg (ha c (by simp)), ih (fun x hx => ha x (by simp [hx])), List.append_assoc]
  rfl
theorem spl_line {a : Wd8} (ha : ∀ c ∈ a, c ≠ 10) (l : Wd8) : spl [] (a ++ 10 :: l) = a :: spl [] l := by
 rw [spl_app ha, spl, if_pos rfl]
 simp
theorem spl_lines {ls : List Wd8} (h : ∀ a ∈ ls, ∀ c ∈ a, c ≠ 10) (l : Wd8) : spl [] (ls.flatMap (fun a => a ++ [10]) ++ l) = ls ++ spl [] l := by
 induction ls with
 | nil => simp
 | cons a ls ih =>
  rw [List.flatMap_cons, List.append_assoc, List.append_assoc, List.singleton_append, spl_line (h a (by simp)), ih (fun x hx => h x (by simp [hx]))]
  rfl
theorem tlR_from (s : ByteArray) : ∀ (d k : Nat), k + d = s.size → (tlR s).map byt = (tln s k).1.map byt ++ spl (byt (s.extract (tln s k).2 k)) (s.data.toList.drop k)
 | 0, k, h => by
  have hk : k = s.size := by omega
  subst hk
  have hl : s.data.toList.length = s.size := rfl
  rw [List.drop_of_length_le (by omega)]
  unfold tlR
  rw [List.map_append]
  rfl
 | d + 1, k, h => by
  have ih := tlR_from s d (k + 1) (by omega)
  rw [ih, drop_getD (show k < s.size by omega) 0, spl]
  by_cases h10 : s.data.toList.getD k 0 = 10
  ·rw [if_pos h10, tln_yes h10, List.map_append, List.append_assoc, ext_nil]
   rfl
  ·rw [if_neg h10, tln_no h10, ext_snoc s (tln_bd s k).2 (by omega)]
theorem tlR_spl (s : ByteArray) : (tlR s).map byt = spl [] (byt s) := by
 rw [tlR_from s s.size 0 (by omega)]
 show [] ++ spl (byt (s.extract 0 0)) s.data.toList = _
 rw [ext_nil, List.nil_append]
theorem tlR_bt (l : Wd8) : tlR (bt l) = (spl [] l).map bt := by
 have h := congrArg (List.map bt) (tlR_spl (bt l))
 rw [List.map_map] at h
 have e : bt ∘ byt = id := by funext x; rfl
 rw [e, List.map_id] at h
 exact h
/-- fields -/
def fdl : Wd8 → List UInt8 → List Wd8
 | acc, [] => if acc = [] then [] else [acc]
 | acc, c :: l => if c = 32 then (if acc = [] then [] else [acc]) ++ fdl [] l else fdl (acc ++ [c]) l
theorem fdl_app {a : Wd8} (ha : ∀ c ∈ a, c ≠ 32) (acc l : Wd8) : fdl acc (a ++ l) = fdl (acc ++ a) l := by
 induction a generalizing acc with
 | nil => simp
 | cons c a ih =>
  rw [List.cons_append, fdl, if_neg (ha c (by simp)), ih (fun x hx => ha x (by simp [hx])), List.append_assoc]
  rfl
theorem wOk_ne {f : Wd8} (h : wOk f = true) : f ≠ [] := by
 rintro rfl
 exact absurd h (by decide)
theorem fdl_flat : ∀ (fs : List Wd8) (acc : Wd8), acc ≠ [] → (∀ f ∈ fs, wOk f = true) → fdl acc (fs.flatMap fun g => 32 :: g) = acc :: fs
 | [], acc, ha, _ => by simp [fdl, ha]
 | f :: fs, acc, ha, hf => by
  have h1 := hf f (by simp)
  rw [List.flatMap_cons, List.cons_append, fdl, if_pos rfl, if_neg ha, fdl_app (wOk_sp h1), List.nil_append, fdl_flat fs f (wOk_ne h1) (fun x hx => hf x (by simp [hx]))]
  rfl
theorem fdl_join {fs : List Wd8} (hf : ∀ f ∈ fs, wOk f = true) : fdl [] (joinW fs) = fs := by
 match fs, hf with
 | [], _ => rfl
 | f :: fs, hf =>
  show fdl [] (f ++ fs.flatMap fun g => 32 :: g) = _
  have h1 := hf f (by simp)
  rw [fdl_app (wOk_sp h1), List.nil_append, fdl_flat fs f (wOk_ne h1) (fun x hx => hf x (by simp [hx]))]
theorem sp_from (s : ByteArray) : ∀ (d k : Nat), k + d = s.size → (sp s (s.size + 1)).1.map byt = (sp s k).1.map byt ++ fdl (byt (s.extract (sp s k).2 k)) (s.data.toList.drop k)
 | 0, k, h => by
  have hk : k = s.size := by omega
  subst hk
  have hl : s.data.toList.length = s.size := rfl
  have h4 := (sp_bd s s.size).2
  rw [List.drop_of_length_le (by omega), fdl]
  by_cases hb : (sp s s.size).2 < s.size
  ·rw [sp_push ins_end hb, List.map_append, if_neg]
   ·rfl
   ·intro h0
    have h1 := congrArg List.length h0
    unfold byt at h1
    rw [ext_list, List.length_take, List.length_drop, hl] at h1
    simp at h1
    omega
  ·rw [sp_skip ins_end hb, if_pos]
   ·simp
   ·rw [show (sp s s.size).2 = s.size by omega]
    exact ext_nil _ _
 | d + 1, k, h => by
  have ih := sp_from s d (k + 1) (by omega)
  have h4 := (sp_bd s k).2
  have hg : s.data.toList.getD k 32 = s.data.toList.getD k 0 := by
   have hl : s.data.toList.length = s.size := rfl
   simp [List.getD, List.getElem?_eq_getElem (show k < s.data.toList.length by omega)]
  rw [ih, drop_getD (show k < s.size by omega) 0, fdl]
  by_cases h32 : s.data.toList.getD k 0 = 32
  ·have hi : spIn s k = false := by unfold spIn; rw [hg, h32]; rfl
   rw [if_pos h32]
   by_cases hb : (sp s k).2 < k
   ·rw [sp_push hi hb, List.map_append, ext_nil, if_neg, List.append_assoc]
    ·rfl
    ·intro h0
     have hl : s.data.toList.length = s.size := rfl
     have h1 := congrArg List.length h0
     unfold byt at h1
     rw [ext_list, List.length_take, List.length_drop, hl] at h1
     simp at h1
     omega
   ·rw [sp_skip hi hb, ext_nil, if_pos]
    ·simp
    ·rw [show (sp s k).2 = k by omega]
     exact ext_nil _ _
  ·have hi : spIn s k = true := by unfold spIn; rw [hg]; simpa using h32
   rw [if_neg h32, sp_in hi, ext_snoc s h4 (by omega)]
theorem sp_fdl (s : ByteArray) : (sp s (s.size + 1)).1.map byt = fdl [] (byt s) := by
 rw [sp_from s s.size 0 (by omega)]
 show [] ++ fdl (byt (s.extract 0 0)) s.data.toList = _
 rw [ext_nil, List.nil_append]
/-- a line of these fields -/
theorem spR_fdl {l : Wd8} (h6 : l.length ≤ 600) (hok : l.all okC = true) (h4 : (fdl [] l).length ≤ 40) : (spR (bt l)).2 = true ∧ (spR (bt l)).1 = (fdl [] l).map bt := by
 have h := sp_fdl (bt l)
 have e : (sp (bt l) ((bt l).size + 1)).1 = (fdl [] l).map bt := by
  have h1 := congrArg (List.map bt) h
  rw [List.map_map] at h1
  have e : bt ∘ byt = id := by funext x; rfl
  rw [e, List.map_id] at h1
  exact h1
 have hy := spR_yes (s := bt l) ⟨h6, hok, by rw [e, List.length_map]; exact h4⟩
 rw [hy]
 exact ⟨rfl, e⟩
/-- lines with these fields, the lines without fields left out -/
theorem flsS_all : ∀ (ls : List Wd8) (a : Fls), (∀ l ∈ ls, l.length ≤ 600 ∧ l.all okC = true ∧ (fdl [] l).length ≤ 40) → (ls.map bt).foldlM flsS a = some (a ++ ((ls.map (fdl [])).filter fun f => decide (f ≠ [])).map (List.map bt))
 | [], a, _ => by simp
 | l :: ls, a, h => by
  obtain ⟨h1, h2, h3⟩ := h l (by simp)
  obtain ⟨h4, h5⟩ := spR_fdl h1 h2 h3
  rw [List.map_cons, List.foldlM_cons]
  unfold flsS
  rw [if_pos h4, h5]
  by_cases hn : fdl [] l = []
  ·rw [hn, List.map_nil, if_pos rfl]
   have ih := flsS_all ls a (fun x hx => h x (by simp [hx]))
   unfold flsS at ih
   simp only [Option.bind_eq_bind, Option.bind_some]
   rw [ih, List.map_cons, List.filter_cons, hn]
   simp
  ·rw [if_neg (by simp [hn])]
   have ih := flsS_all ls (a ++ [(fdl [] l).map bt]) (fun x hx => h x (by simp [hx]))
   unfold flsS at ih
   simp only [Option.bind_eq_bind, Option.bind_some]
   rw [ih, List.map_cons, List.filter_cons, if_pos (by simp [hn])]
   simp
end Go.Proofs.YtolndlmhbnpmeaaDoor

/- Plain: the text of a valid design is read as this design, also with more spaces and empty lines; with a letter more it is no design's text. -/
namespace Go.Proofs.YtolndlmhbnpmeaaDoor
open Go.RowKit

theorem wOk_okC {f : Wd8} (h : wOk f = true) : f.all okC = true := by
 unfold wOk at h
 rw [Bool.and_eq_true] at h
 refine List.all_eq_true.2 fun c hc => ?_
 have h1 := of_decide_eq_true (List.all_eq_true.1 h.2 c hc)
 unfold okC
 exact decide_eq_true (by omega)
theorem flat_okC : ∀ {fs : List Wd8}, (∀ f ∈ fs, wOk f = true) → (fs.flatMap fun g => (32 : UInt8) :: g).all okC = true
 | [], _ => rfl
 | f :: fs, h => by
  rw [List.flatMap_cons, List.all_append, List.all_cons, wOk_okC (h f (by simp)), flat_okC (fun x hx => h x (by simp [hx]))]
  rfl
theorem join_okC {fs : List Wd8} (h : ∀ f ∈ fs, wOk f = true) : (joinW fs).all okC = true := by
 match fs, h with
 | [], _ => rfl
 | f :: fs, h =>
  show (f ++ fs.flatMap fun g => 32 :: g).all okC = true
  rw [List.all_append, wOk_okC (h f (by simp)), flat_okC (fun x hx => h x (by simp [hx]))]
  rfl
theorem okC_ten {l : Wd8} (h : l.all okC = true) : ∀ c ∈ l, c ≠ 10 := by
 intro c hc e
 subst e
 exact absurd (List.all_eq_true.1 h 10 hc) (by decide)
/-- words of a line are short -/
def shW (f : List Wd8) : Prop := f.length ≤ 33 ∧ ∀ x ∈ f, x.length ≤ 5
theorem kind_w (k : Int) : (kindW k).length ≤ 5 := by unfold kindW; repeat (split <;> try decide)
theorem num_w {n : Int} (h0 : 0 ≤ n) (h1 : n ≤ 30) : (Tx.fmtI n).length ≤ 2 ∧ (sigW n).length ≤ 3 ∧ (109 :: Tx.fmtI n).length ≤ 3 ∧ (widW n).length ≤ 2 := by
 have h := (num_ok h0 h1).2.2.2.2.2.1
 refine ⟨h, ?_, ?_, ?_⟩
 ·unfold sigW; simp; omega
 ·simp; omega
 ·unfold widW; split
  ·decide
  ·exact h
section
variable {m : TModule}
theorem sg_sh (hm : LinesOk m) {x : TSignal} (hx : x ∈ m.1) : (sgF x).length ≤ 3 ∧ ∀ y ∈ sgF x, y.length ≤ 5 := by
 obtain ⟨h0, h1, h2, h3, h4, h5⟩ := hm.sig x hx
 have e1 := num_w h2 (by omega)
 have e2 := num_w h4 (by omega)
 unfold sgF
 refine ⟨by split <;> simp, fun y hy => ?_⟩
 simp only [List.mem_append, List.mem_cons, List.not_mem_nil, or_false] at hy
 rcases hy with (rfl | rfl) | hy
 ·exact kind_w _
 ·omega
 ·split at hy
  ·rw [List.mem_singleton.1 hy]; omega
  ·simp at hy
theorem asg_sh (hm : LinesOk m) {a : TAssign} (ha : a ∈ m.2.1) : (asgF a).length ≤ 17 ∧ ∀ y ∈ asgF a, y.length ≤ 5 := by
 obtain ⟨h0, h1, h2⟩ := hm.asg a ha
 have e1 := num_w h0 h1
 unfold asgF
 refine ⟨by simp; omega, fun y hy => ?_⟩
 simp only [List.mem_append, List.mem_cons, List.not_mem_nil, or_false, List.mem_map] at hy
 rcases hy with (rfl | rfl) | ⟨o, ho, rfl⟩
 ·decide
 ·omega
 ·have h := (hm.ops a ha).2 o ho
  rw [opTxR_ok h]
  exact (op_ok h).2
theorem ins_sh (hm : LinesOk m) {x : TInst} (hx : x ∈ m.2.2.1) : (insF x).length ≤ 33 ∧ ∀ y ∈ insF x, y.length ≤ 5 := by
 obtain ⟨h0, h1, h2, h3, h4, h5⟩ := hm.ins x hx
 have e1 := num_w h0 h1
 have e2 := num_w h2 (by omega)
 unfold insF
 refine ⟨by simp; omega, fun y hy => ?_⟩
 simp only [List.mem_append, List.mem_cons, List.not_mem_nil, or_false, List.mem_map] at hy
 rcases hy with (rfl | rfl | rfl) | ⟨p, hp, rfl⟩
 ·decide
 ·omega
 ·omega
 ·have e3 := num_w (h5 p hp).1 (h5 p hp).2
  omega
theorem mem_sh (hm : LinesOk m) {x : TMem} (hx : x ∈ m.2.2.2) : (memF x).length ≤ 5 ∧ ∀ y ∈ memF x, y.length ≤ 5 := by
 obtain ⟨h0, h1, h2, h3, h4, h5, h6, h7⟩ := hm.mem x hx
 have e1 := num_w h0 h1
 have e2 := num_w h2 h3
 have e3 := num_w h4 h5
 have e4 := num_w h6 h7
 unfold memF
 refine ⟨by simp, fun y hy => ?_⟩
 simp only [List.mem_cons, List.not_mem_nil, or_false] at hy
 rcases hy with rfl | rfl | rfl | rfl | rfl
 ·decide
 ·omega
 ·omega
 ·omega
 ·omega
theorem line_sh (hm : LinesOk m) : ∀ f ∈ fmF m, f.length ≤ 33 ∧ (joinW f).length ≤ 198 := by
 intro f hf
 have key : ∀ {f : List Wd8}, f.length ≤ 33 → (∀ y ∈ f, y.length ≤ 5) → f.length ≤ 33 ∧ (joinW f).length ≤ 198 := fun {f} h1 h2 => by
  have := joinW_len (l := f) (N := 5) h2
  exact ⟨h1, by omega⟩
 unfold fmF at hf
 simp only [List.mem_append, List.mem_singleton, List.mem_map] at hf
 rcases hf with rfl | ⟨x, hx, rfl⟩ | ⟨a, ha, rfl⟩ | ⟨x, hx, rfl⟩ | ⟨x, hx, rfl⟩ | rfl
 ·exact ⟨by decide, by decide⟩
 ·have h := sg_sh hm hx; exact key (by omega) h.2
 ·have h := asg_sh hm ha; exact key (by omega) h.2
 ·have h := ins_sh hm hx; exact key (by omega) h.2
 ·have h := mem_sh hm hx; exact key (by omega) h.2
 ·exact ⟨by decide, by decide⟩
theorem text_mod (hm : LinesOk m) : (((fmF m).map joinW).flatMap fun l => l ++ [10]).length ≤ 4400 := by
 have key : ∀ {α : Type} {l : List α} {g : α → List Wd8} {N K : Nat}, l.length ≤ K → (∀ x ∈ l, (g x).length ≤ N ∧ ∀ y ∈ g x, y.length ≤ 5) → (((l.map g).map joinW).flatMap fun l => l ++ [10]).length ≤ K * (6 * N + 1) := fun {α l g N K} hl h => by
  have h1 := flat_len (f := fun l : Wd8 => l ++ [10]) (N := 6 * N + 1) (l := (l.map g).map joinW) (fun x hx => by
   obtain ⟨y, hy, rfl⟩ := List.mem_map.1 hx
   obtain ⟨z, hz, rfl⟩ := List.mem_map.1 hy
   have h2 := joinW_len (l := g z) (N := 5) (h z hz).2
   have h3 := (h z hz).1
   rw [List.length_append, List.length_singleton]
   omega)
  rw [List.length_map, List.length_map] at h1
  exact Nat.le_trans h1 (Nat.mul_le_mul_right _ hl)
 have k0 := key hm.n0 (g := sgF) (N := 3) (fun x hx => sg_sh hm hx)
 have k1 := key hm.n1 (g := asgF) (N := 17) (fun x hx => asg_sh hm hx)
 have k2 := key hm.n2 (g := insF) (N := 33) (fun x hx => ins_sh hm hx)
 have k3 := key hm.n3 (g := memF) (N := 5) (fun x hx => mem_sh hm hx)
 unfold fmF
 simp only [List.map_append, List.flatMap_append, List.length_append]
 have e0 : ((([[wMod]] : List (List Wd8)).map joinW).flatMap fun l => l ++ [10]).length = 7 := by decide
 have e1 : ((([[wEnd]] : List (List Wd8)).map joinW).flatMap fun l => l ++ [10]).length = 4 := by decide
 omega
end
theorem fdT_eq (d : TDesign) : fdT d = ((fldsD d).map joinW).flatMap fun l => l ++ [10] := by
 unfold fdT
 rw [fldsD_join]
theorem fdT_len {d : TDesign} (h : designB d = true) : (fdT d).length ≤ 17600 := by
 have hm := mods_ok h
 have h4 := dsn_four h
 have h1 := flat_len (f := fun m : TModule => ((fmF m).map joinW).flatMap fun l => l ++ [10]) (N := 4400) (l := d) (fun m hx => text_mod (hm m hx))
 have e : fdT d = d.flatMap fun m : TModule => ((fmF m).map joinW).flatMap fun l => l ++ [10] := by
  rw [fdT_eq]
  unfold fldsD
  rw [List.map_flatMap, List.flatMap_assoc]
 rw [e]
 omega
/-- all lines fit -/
theorem lineD_ok {d : TDesign} (h : designB d = true) : ∀ l ∈ (fldsD d).map joinW, l.length ≤ 198 ∧ l.all okC = true ∧ (fdl [] l).length ≤ 40 := by
 intro l hl
 obtain ⟨f, hf, rfl⟩ := List.mem_map.1 hl
 have hw := (fldsD_ok (mods_ok h) f hf).2
 obtain ⟨m, hm, hf⟩ := List.mem_flatMap.1 hf
 have h1 := line_sh (mods_ok h m hm) f hf
 refine ⟨h1.2, join_okC hw, ?_⟩
 rw [fdl_join hw]
 omega
theorem fdl_lines {d : TDesign} (h : designB d = true) : ((fldsD d).map joinW).map (fdl []) = fldsD d := by
 rw [List.map_map]
 refine (List.map_congr_left fun f hf => ?_).trans (List.map_id _)
 exact fdl_join (fldsD_ok (mods_ok h) f hf).2
theorem flds_ne {d : TDesign} (h : designB d = true) : (fldsD d).filter (fun f => decide (f ≠ [])) = fldsD d :=
 List.filter_eq_self.2 fun f hf => by simpa using (fldsD_ok (mods_ok h) f hf).1
theorem fldW_bt (l : List (List Wd8)) : fldW (l.map (List.map bt)) = l := by
 unfold fldW
 rw [List.map_map]
 refine (List.map_congr_left fun f _ => ?_).trans (List.map_id _)
 show (f.map bt).map byt = f
 rw [List.map_map]
 exact (List.map_congr_left fun x _ => rfl).trans (List.map_id _)
/-- a text with these lines -/
theorem pdO_lines {T : Wd8} {ls : List Wd8} (hT : T.length ≤ 20000) (hs : spl [] T = ls) (hl : ∀ l ∈ ls, l.length ≤ 600 ∧ l.all okC = true ∧ (fdl [] l).length ≤ 40) : pdO (bt T) = parsI ((ls.map (fdl [])).filter fun f => decide (f ≠ [])) := by
 have h1 := flsS_all ls [] hl
 have h2 : flsF (tlR (bt T)) = some (((ls.map (fdl [])).filter fun f => decide (f ≠ [])).map (List.map bt)) := by
  unfold flsF
  rw [tlR_bt, hs, h1, List.nil_append]
 rw [pdO_some (show (bt T).size ≤ 20000 from hT) h2, fldW_bt]
theorem parsI_self {d : TDesign} (h : designB d = true) : parsI (fldsD d) = some d := (pars_yes (fldsD_ok (mods_ok h)) h (fldsD_join d).symm).1
theorem spl_text {d : TDesign} (h : designB d = true) (l : Wd8) : spl [] (fdT d ++ l) = (fldsD d).map joinW ++ spl [] l := by
 rw [fdT_eq]
 exact spl_lines (fun a ha => okC_ten (lineD_ok h a ha).2.1) l
theorem read_one {d : TDesign} (h : designB d = true) : pdO (bt (fdT d)) = some d := by
 have hT := fdT_len h
 have hs : spl [] (fdT d) = (fldsD d).map joinW ++ [[]] := by
  have := spl_text h []
  rw [List.append_nil] at this
  exact this
 rw [pdO_lines (by omega) hs (fun l hl => ?_)]
 ·rw [List.map_append, List.filter_append, fdl_lines h, flds_ne h]
  simp [fdl, parsI_self h]
 ·rcases List.mem_append.1 hl with hl | hl
  ·have := lineD_ok h l hl
   exact ⟨by omega, this.2⟩
  ·rw [List.mem_singleton.1 hl]
   exact ⟨by decide, by decide, by decide⟩
theorem fdl_sp (l : Wd8) : fdl [] (32 :: l) = fdl [] l := by
 rw [fdl, if_pos rfl, if_pos rfl, List.nil_append]
theorem dsn_pos {d : TDesign} (h : designB d = true) : 1 ≤ d.length := by
 unfold designB at h
 rw [Bool.and_eq_true] at h
 have := inR_iff.1 h.1
 omega
theorem flds_pos {d : TDesign} (h : designB d = true) : ∃ f fl, fldsD d = f :: fl := by
 match d, dsn_pos h with
 | m :: d, _ => exact ⟨[wMod], _, by rw [show fldsD (m :: d) = fmF m ++ fldsD d by simp [fldsD]]; rfl⟩
theorem read_two {d : TDesign} (h : designB d = true) : pdO (bt ([10, 32] ++ (fdT d ++ [32, 32, 10, 10]))) = some d := by
 have hT := fdT_len h
 obtain ⟨f, fl, hfl⟩ := flds_pos h
 have hs : spl [] ([10, 32] ++ (fdT d ++ [32, 32, 10, 10])) = [[]] ++ ((32 :: joinW f) :: (fl.map joinW ++ [[32, 32], [], []])) := by
  have h1 : spl [] ([10, 32] ++ (fdT d ++ [32, 32, 10, 10])) = [] :: spl [] ([32] ++ (fdT d ++ [32, 32, 10, 10])) := rfl
  have hok : ∀ a ∈ (32 :: joinW f) :: fl.map joinW, ∀ c ∈ a, c ≠ 10 := by
   intro a ha
   rcases List.mem_cons.1 ha with rfl | ha
   ·intro c hc
    rcases List.mem_cons.1 hc with rfl | hc
    ·decide
    ·exact okC_ten (lineD_ok h (joinW f) (by rw [hfl]; simp)).2.1 c hc
   ·exact okC_ten (lineD_ok h a (by rw [hfl, List.map_cons]; exact List.mem_cons_of_mem _ ha)).2.1
  have h2 : [32] ++ (fdT d ++ [32, 32, 10, 10]) = (((32 :: joinW f) :: fl.map joinW).flatMap fun a => a ++ [10]) ++ [32, 32, 10, 10] := by
   rw [fdT_eq, hfl]
   simp
  rw [h1, h2, spl_lines hok]
  rfl
 rw [pdO_lines (by simp; omega) hs (fun l hl => ?_)]
 ·have e : ([[]] ++ ((32 :: joinW f) :: (fl.map joinW ++ [[32, 32], [], []]))).map (fdl []) = [[]] ++ ((fldsD d) ++ [[], [], []]) := by
   have h3 := fdl_lines h
   rw [hfl] at h3 ⊢
   rw [List.map_cons, List.map_cons, List.cons.injEq] at h3
   simp only [List.map_append, List.map_cons, List.map_nil, fdl_sp, h3.1, h3.2]
   rfl
  rw [e, List.filter_append, List.filter_append, flds_ne h]
  simp [parsI_self h]
 ·rcases List.mem_append.1 hl with hl | hl
  ·rw [List.mem_singleton.1 hl]
   exact ⟨by decide, by decide, by decide⟩
  ·rcases List.mem_cons.1 hl with rfl | hl
   ·have := lineD_ok h (joinW f) (by rw [hfl]; simp)
    refine ⟨by simp; omega, by rw [List.all_cons, this.2.1]; decide, by rw [fdl_sp]; exact this.2.2⟩
   ·rcases List.mem_append.1 hl with hl | hl
    ·have := lineD_ok h l (by rw [hfl, List.map_cons]; exact List.mem_cons_of_mem _ hl)
     exact ⟨by omega, this.2⟩
    ·simp only [List.mem_cons, List.not_mem_nil, or_false] at hl
     rcases hl with rfl | rfl | rfl <;> exact ⟨by decide, by decide, by decide⟩
theorem read_three {d : TDesign} (h : designB d = true) : pdO (bt (fdT d ++ [120])) = none := by
 have hT := fdT_len h
 have hs : spl [] (fdT d ++ [120]) = (fldsD d).map joinW ++ [[120]] := spl_text h [120]
 rw [pdO_lines (by simp; omega) hs (fun l hl => ?_)]
 ·rw [List.map_append, List.filter_append, fdl_lines h, flds_ne h]
  refine (pars_no (fun d' hd' he => ?_)).1
  have h1 : (linesD d').getLast? = some wEnd := by
   rcases List.eq_nil_or_concat d' with rfl | ⟨d0, m, rfl⟩
   ·exact absurd (dsn_pos hd') (by simp)
   ·obtain ⟨L, hL⟩ : ∃ L, fldsD (d0 ++ [m]) = L ++ [[wEnd]] := ⟨fldsD d0 ++ ([[wMod]] ++ (m.1.map sgF ++ (m.2.1.map asgF ++ (m.2.2.1.map insF ++ m.2.2.2.map memF)))), by simp [fldsD, fmF]⟩
    rw [List.concat_eq_append, ← fldsD_join, hL, List.map_append, List.map_singleton, List.getLast?_concat]
    rfl
  rw [he] at h1
  simp [fdl, joinW, wEnd] at h1
 ·rcases List.mem_append.1 hl with hl | hl
  ·have := lineD_ok h l hl
   exact ⟨by omega, this.2⟩
  ·rw [List.mem_singleton.1 hl]
   exact ⟨by decide, by decide, by decide⟩
end Go.Proofs.YtolndlmhbnpmeaaDoor

/- Contracts: a drawn net is valid. -/
import Derived.Test.YtlkjdhjeecogjaaDcu
import Derived.Test.YtlkjdhjeecogjaaDepD
import Derived.Test.YtlkjdhjeecogjaaGrw
import Derived.Outline
namespace Go.Proofs.Ytlkjdhjeecogjaa
open Go.RowKit

def SeqI (top : Int) (x : Seq3) : Prop := ((x.1 = 0 ∧ (0 ≤ x.2.1 ∧ x.2.1 ≤ 1) ∧ x.2.2.length = 1) ∨ (x.1 = 1 ∧ (0 ≤ x.2.1 ∧ x.2.1 ≤ 31) ∧ x.2.2.length = 4)) ∧ ∀ r ∈ x.2.2, 0 ≤ r ∧ r < top
theorem cntSeq_le4 : ∀ (ss : List Seq3), (∀ x ∈ ss, x.2.2.length ≤ 4) → cntSeq ss ≤ 5 * ss.length
 | [], _ => by simp [cntSeq]
 | x :: l, h => by
  have h1 := cntSeq_le4 l (fun y hy => h y (List.mem_cons_of_mem _ hy))
  have h2 := h x List.mem_cons_self
  unfold cntSeq at h1 ⊢
  simp only [List.map_cons, List.sum_cons, List.length_cons]
  omega
theorem net_ok {inp : Int} {F : Nat} {ss : List Seq3} {ands : List (Int × Int)} {outs : List Int} (hF : (F : Int) = 1 + inp + ss.length) (h0 : 0 ≤ inp) (h4 : inp ≤ 4) (h3 : ss.length ≤ 3) (h14 : ands.length ≤ 14) (ho : outs.length ≤ 4)
  (ha : AndsOk F ands) (hs : ∀ x ∈ ss, SeqI (2 * ((F : Int) + ands.length)) x) (hr : ∀ r ∈ outs, 0 ≤ r ∧ r < 2 * ((F : Int) + ands.length)) : NetG inp F ss ands outs := by
 have hl4 : ∀ x ∈ ss, x.2.2.length ≤ 4 := fun x hx => by
  rcases (hs x hx).1 with ⟨_, _, h⟩ | ⟨_, _, h⟩ <;> omega
 have hc := cntSeq_le4 ss hl4
 have hro : ∀ r ∈ rootsL outs ss, 0 ≤ r ∧ r < 2 * ((F : Int) + ands.length) := by
  intro r h
  unfold rootsL at h
  rcases List.mem_append.1 h with h | h
  ·exact hr r h
  ·obtain ⟨x, hx, h⟩ := List.mem_flatMap.1 h
   exact (hs x hx).2 r h
 have hrl : (rootsL outs ss).length ≤ 1000 := by
  have := roots_len outs ss
  omega
 have hB : NetB ss ands outs := by unfold NetB; omega
 have hnd : ndc inp ss.length ands.length outs.length = 1 + inp + ss.length + ands.length := by
  unfold ndc
  rw [if_pos]
  simp only [Bool.and_eq_true, decide_eq_true_eq]
  exact ⟨inR_iff.2 (by omega), by omega, by omega, by omega⟩
 refine ⟨hF, h0, by omega, by omega, by omega, ha, hro, hrl, hB, netB_yes (by rw [hnd]; omega) (fun i x _ hx => ?_) (fun i x _ hx => ?_) (fun i x _ hx => ?_)⟩
 ·unfold seqB
  rcases (hs x (List.mem_of_getElem? hx)).1 with ⟨h1, h2, h5⟩ | ⟨h1, h2, h5⟩
  ·rw [h1, h5, inR_iff.2 h2]; rfl
  ·rw [h1, h5, inR_iff.2 h2]; rfl
 ·rw [hnd]
  have := hro x (List.mem_of_getElem? hx)
  exact inR_iff.2 (by omega)
 ·unfold andG
  have := ha i x hx
  rw [inR_iff.2 (by omega), inR_iff.2 (by omega)]
  rfl
theorem AndsOk.snoc {F : Nat} {xs : List (Int × Int)} {x : Int × Int} (h : AndsOk F xs) (h1 : 0 ≤ x.1 ∧ x.1 < 2 * ((F : Int) + xs.length)) (h2 : 0 ≤ x.2 ∧ x.2 < 2 * ((F : Int) + xs.length)) : AndsOk F (xs ++ [x]) := by
 intro i y hy
 by_cases hi : i < xs.length
 ·rw [List.getElem?_append_left hi] at hy
  exact h i y hy
 ·rw [List.getElem?_append_right (by omega)] at hy
  obtain ⟨n, hn⟩ : ∃ n, n = i - xs.length := ⟨_, rfl⟩
  rw [← hn] at hy
  match n, hy with
  | 0, hy =>
   simp at hy
   subst hy
   have : i = xs.length := by omega
   subst this
   exact ⟨h1.1, h1.2, h2.1, h2.2⟩
  | n + 1, hy => simp at hy
theorem row_seq {a b : Int} {l : List Int} {v : Value} {w : World} {Q : Nat → Nat → Prop} (hs : Sep w (Q 2) v (fints l)) : ∀ (j : Nat) (f : Fd), (rSeq (a, b, l))[j]? = some f → ∃ u, [Value.int .i64 a, Value.int .i64 b, v][j]? = some u ∧ Sep w (Q j) u f := by
 intro j f hf
 match j, hf with
 | 0, hf => simp [rSeq] at hf; subst hf; exact ⟨_, rfl, .int _ _⟩
 | 1, hf => simp [rSeq] at hf; subst hf; exact ⟨_, rfl, .int _ _⟩
 | 2, hf => simp [rSeq] at hf; subst hf; exact ⟨_, rfl, hs⟩
 | j + 3, hf => simp [rSeq] at hf
theorem Cur.set2 {B g : Nat} {w : World} (h : Cur B g w) {p : Addr} (hp : g ≠ p.block) (hB : B ≤ p.block) (u : Value) : Cur B g (w.setCell p u) := by
 obtain ⟨A, n, c, l, i, hh, hB0, hBg, hr, hin, hn⟩ := h
 exact ⟨A, n, c, l, i, hh, hB0.far hp u, hBg, hr.setCell hB u, hin, hn⟩
/-- only the cursor and the net under construction change -/
abbrev GN (g gn : Nat) : Nat → Prop := fun b => b = g ∨ b = gn
theorem only_of_grown {w w' : World} {g : Nat} {S : Nat → Prop} (h : w.grownBy w' (some g)) (hS : S g) : Only S w w' := ⟨h.os, h.tape, h.output, h.size, fun b hb hs => h.block b hb (fun e => by injection e with e; subst e; exact hs hS)⟩
theorem only_more {w w1 w2 : World} {S : Nat → Prop} {row : Option Nat} (h : Only S w w1) (hg : w1.grownBy w2 row) (hr : ∀ b, row = some b → w.heap.size ≤ b) : Only S w w2 :=
 ⟨hg.os.trans h.os, hg.tape.trans h.tape, hg.output.trans h.output, Nat.le_trans h.size hg.size, fun b hb hs => (hg.block b (Nat.lt_of_lt_of_le hb h.size) (fun e => by have := hr b e.symm; omega)).trans (h.block b hb hs)⟩
theorem own_only {w w' : World} {lo n size : Nat} {e : TypeId} {v : Value} {xs : List Value} {S : Nat → Prop} (h : w.ownsRow lo e size v n xs) (ho : Only S w w') (hS : ∀ b, S b → b < lo) : w'.ownsRow lo e size v n xs :=
 own_keep h (fun g hg => ho.block g (h.lt g hg).2 (fun hs => by have := hS g hs; have := (h.lt g hg).1; omega))

theorem Try.infAndD : (Try.prog.info? 87).map (fun i => (i.zero, i.size, i.bytes)) = some (some (.agg #[.int .i64 0, .int .i64 0]), 2, 16) := by kernel_rfl
theorem Try.infSeqD : (Try.prog.info? 139).map (fun i => (i.zero, i.size, i.bytes)) = some (some (.agg #[.int .i64 0, .int .i64 0, .slice none 0 0]), 3, 40) := by kernel_rfl

-- the net's cell $1 is stored: $2; the cells behind: $3 $4 $5
-- a draw inside loop 2: $1 bound, $2 world, $3 world behind, $4 its value, $5 cursor $6 only $7 net $8 seqs
-- the end of a round of loop 2: $1 In, $2 its cells, $3 kind, $4 Init, $5 count, $6 world, $7 SeqI, $8 cursor $9 only $10 net $11 seqs
theorem grown_only {w w1 w2 : World} {g gn : Nat} (h : w.grownBy w1 (some g)) (ho : Only (GN g gn) w1 w2) (hgn : w.heap.size ≤ gn) : w.grownBy w2 (some g) :=
 ⟨ho.os.trans h.os, ho.tape.trans h.tape, ho.output.trans h.output, Nat.le_trans h.size ho.size, fun b hb hne => (ho.block b (Nat.lt_of_lt_of_le hb h.size) (fun hs => by
  rcases hs with hs | hs
  ·exact hne (by rw [hs])
  ·omega)).trans (h.block b hb hne)⟩
theorem grow_grown {w w' : World} {lo g size : Nat} {e : TypeId} {v : Value} {rows : List (List Fd)} {xs : List Value} (h : Grow w lo e size v rows xs) (hlo : g < lo) (hg : w.grownBy w' (some g)) : Grow w' lo e size v rows xs :=
 h.keep (fun b h1 h2 => hg.block b h2 (fun e => by injection e with e; omega)) hg.size
theorem own_len_map {w : World} {lo q : Nat} {e : TypeId} {v : Value} {ss : List Seq3} {vs : List Value} (h : Grow w lo e 3 v (ss.map rSeq) vs) (hl : ss.length = q) : w.ownsRow lo e 3 v q vs := by
 have h1 := h.own
 rw [List.length_map, hl] at h1
 exact h1

theorem grow_only {w w' : World} {lo size : Nat} {e : TypeId} {v : Value} {rows : List (List Fd)} {xs : List Value} {S : Nat → Prop} (h : Grow w lo e size v rows xs) (ho : Only S w w') (hS : ∀ b, S b → b < lo) : Grow w' lo e size v rows xs :=
 h.keep (fun b h1 h2 => ho.block b h2 (fun hs => by have := hS b hs; omega)) ho.size
theorem grown_only2 {w w1 w2 : World} {g : Nat} {S : Nat → Prop} (h : w.grownBy w1 (some g)) (ho : Only S w1 w2) (hS : ∀ b, S b → w.heap.size ≤ b) : w.grownBy w2 (some g) :=
 ⟨ho.os.trans h.os, ho.tape.trans h.tape, ho.output.trans h.output, Nat.le_trans h.size ho.size, fun b hb hne => (ho.block b (Nat.lt_of_lt_of_le hb h.size) (fun hs => by have := hS b hs; omega)).trans (h.block b hb hne)⟩
theorem own_block_bd {w : World} {lo n c size : Nat} {e : TypeId} {A : Option Addr} {xs : List Value} (h : w.ownsRow lo e size (.slice A n c) n xs) {ad : Addr} (hA : A = some ad) : lo ≤ ad.block ∧ ad.block < w.heap.size := by
 subst hA
 rcases h.2 with ⟨h1, _⟩ | ⟨q, cap, cur, h1, h0, h2, _⟩
 ·injection h1 with h1; cases h1
 ·injection h1 with h1
  injection h1 with h1
  subst h1
  refine ⟨h0, ?_⟩
  by_cases hq : q < w.heap.size
  ·exact hq
  ·rw [Array.getElem?_eq_none (by omega)] at h2; cases h2

/-- the drawn net -/
def NetD (B g : Nat) (w : World) (e : Ending) (w' : World) : Prop :=
 ∃ (inp : Int) (F : Nat) (ss : List Seq3) (ands : List (Int × Int)) (outs : List Int) (As Aa Ao : Option Addr) (ns cs na ca no co : Nat), e = .returned (.agg #[.int .i64 inp, .slice As ns cs, .slice Aa na ca, .slice Ao no co]) ∧
  NetR w' (fun b => w.heap.size ≤ b ∧ b < w'.heap.size) As ns cs ss Aa na ca ands Ao no co outs ∧ NetG inp F ss ands outs ∧ Cur B g w' ∧ w.grownBy w' (some g)
set_option maxRecDepth 100000 in
set_option maxHeartbeats 16000000 in
theorem s_l08Sized {B g : Nat} {w : World} (hcur : Cur B g w) :
  Calls Try.prog 143 #[.pointer (some ⟨g, 0, none⟩), .int .i64 4, .int .i64 3, .int .i64 14] w (NetD B g w) := by
 obtain ⟨i0, hi, hz0, hz1, hz2⟩ := info_parts Try.infAndD
 have hgl := hcur.lt
 have hgB := hcur.le
 go_enter Try.func143, Try.ntmps143
 go_wp2_with fail
 obtain ⟨U, hU⟩ : ∃ U, U = w.alloc (.cells #[.int .i64 0, .slice none 0 0, .slice none 0 0, .slice none 0 0] 78) := ⟨_, rfl⟩
 have HR0 := Lib.hid (show Blk U w.heap.size 78 #[.int .i64 0, .slice none 0 0, .slice none 0 0, .slice none 0 0] by rw [hU]; exact Blk.new _ _ _)
 have HG0 := Lib.hid (show w.grownBy U (some g) by rw [hU]; exact grown_alloc' (World.grownBy.refl w (some g)) _)
 have HC0 := Lib.hid (show Cur B g U by rw [hU]; exact hcur.alloc _)
 rw [← hU]
 clear hU hcur
 refine (s_Below 4 HC0.out).mono ?_
 rintro e w1 ⟨x1, rfl, hx, hc, hg⟩
 obtain ⟨hx10, hx11⟩ := hx.1 (by omega)
 have HC1 := Lib.hid hc
 have HG1 := Lib.hid (HG0.out.trans hg)
 have HR1 := Lib.hid (HR0.out.grown hg (by simp; omega))
 clear hx hc hg
 go_wp2_with fail
 obtain ⟨i1, rfl⟩ := Int.eq_ofNat_of_zero_le hx10
 obtain ⟨W2, hW2⟩ : ∃ W2, W2 = w1.alloc (.cells #[.int .i64 (1 + (i1 : Int)), .slice none 0 0, .slice none 0 0, .slice none 0 0] 78) := ⟨_, rfl⟩
 obtain ⟨gn, hgn⟩ : ∃ n, n = w1.heap.size := ⟨_, rfl⟩
 have HN2 := Lib.hid (show Blk W2 gn 78 #[.int .i64 (1 + (i1 : Int)), .slice none 0 0, .slice none 0 0, .slice none 0 0] by rw [hW2, hgn]; exact Blk.new _ _ _)
 have HC2 := Lib.hid (show Cur B g W2 by rw [hW2]; exact HC1.out.alloc _)
 have HG2 := Lib.hid (show w.grownBy W2 (some g) by rw [hW2]; exact grown_alloc' HG1.out _)
 have HR2 := Lib.hid (show Blk W2 w.heap.size 78 #[.int .i64 0, .slice none 0 0, .slice none 0 0, .slice none 0 0] by rw [hW2]; exact HR1.out.alloc _)
 have hgn1 : w.heap.size < gn := by rw [hgn]; exact HR1.out.lt
 rw [← hW2, ← hgn]
 clear hW2 hgn
 refine (s_Below 4 HC2.out).mono ?_
 rintro e w3 ⟨x2, rfl, hx, hc, hg⟩
 obtain ⟨hx20, hx21⟩ := hx.1 (by omega)
 obtain ⟨s, rfl⟩ := Int.eq_ofNat_of_zero_le hx20
 have HC3 := Lib.hid hc
 have HG3 := Lib.hid (HG2.out.trans hg)
 have HR3 := Lib.hid (HR2.out.grown hg (by simp; omega))
 have HN3 := Lib.hid (HN2.out.grown hg (by simp; omega))
 clear hx hc hg
 go_wp2_with fail
 refine (s_Below 15 HC3.out).mono ?_
 rintro e w4 ⟨x3, rfl, hx, hc, hg⟩
 obtain ⟨hx30, hx31⟩ := hx.1 (by omega)
 obtain ⟨a, rfl⟩ := Int.eq_ofNat_of_zero_le hx30
 have HC4 := Lib.hid hc
 have HG4 := Lib.hid (HG3.out.trans hg)
 have HR4 := Lib.hid (HR3.out.grown hg (by simp; omega))
 have HN4 := Lib.hid (HN3.out.grown hg (by simp; omega))
 have hgn4 := HN4.out.lt
 clear hx hc hg
 obtain ⟨F, hF⟩ : ∃ F : Nat, 1 + (1 + (i1 : Int)) + (s : Int) = (F : Int) := ⟨2 + i1 + s, by omega⟩
 have HF := Lib.hid hF
 have hF20 : F ≤ 20 := by omega
 have hF2 : 2 ≤ F := by omega
 obtain ⟨y0, y1, y2, y3⟩ := bk4 HN4.out
 have HE4 := Lib.hid (World.ownsRow_nil w4 w4.heap.size 87 2)
 go_wp2_with fail
 try rw [HF.out]
 clear hF
 go_loopw [13, 14, 15] (fun iv _ _ wr => ∃ (k : Nat) (xs : List (Int × Int)) (av : Value), k ≤ a ∧ iv = .int .i64 k ∧ xs.length = k ∧ AndsOk F xs ∧ Blk wr gn 78 #[.int .i64 (1 + (i1 : Int)), .slice none 0 0, av, .slice none 0 0] ∧ wr.ownsRow w4.heap.size 87 2 av k (recs eAnd xs) ∧ Cur B g wr ∧ Only (GN g gn) w4 wr) (fun iv _ _ _ => a - (intOf iv).toNat)
 case atStart => exact ⟨0, [], _, Nat.zero_le _, rfl, rfl, fun i x hx => by simp at hx, HN4.out, HE4.out, HC4.out, Only.refl _ _⟩
 case round =>
  clear y0 y1 y2 y3
  obtain ⟨k, xs, av, hk, rfl, hxl, hao, hbk, hown, hc, ho⟩ := hrel
  obtain ⟨Aq, cq, rfl, _, _, _⟩ := own_form hown
  have Hxl := Lib.hid hxl
  have Hao := Lib.hid hao
  have HNr := Lib.hid hbk
  have Hor := Lib.hid hown
  have HCr := Lib.hid hc
  have HOr := Lib.hid ho
  have zr := ho.size
  have hgnr := hbk.lt
  clear hxl hao hbk hown hc ho
  by_cases hlt : k < a
  ·have g2 : (k : Int) < (a : Int) := by omega
   obtain ⟨kk, hkk⟩ : ∃ kk : Nat, 2 * ((F : Int) + (k : Int)) = (kk : Int) := ⟨2 * (F + k), by omega⟩
   have Hkk := Lib.hid hkk
   have hk4 : 4 ≤ kk := by omega
   have hk100 : kk ≤ 100 := by omega
   go_wp2_with fail
   all_goals
    refine (s_Below _ HCr.out).mono ?_
    rintro e w5 ⟨y, rfl, hx, hc, hg⟩
    have hy : 0 ≤ y ∧ y ≤ (kk : Int) - 2 := by have h1 := hx.1 (by omega); omega
    have hy0 := hy.1
    have hy1 := hy.2
    have HC5 := Lib.hid hc
    have HO5 := Lib.hid (HOr.out.trans (only_of_grown (S := GN g gn) hg (.inl rfl)))
    have HN5 := Lib.hid (HNr.out.grown hg (by simp; omega))
    have Ho5 := Lib.hid (own_grown Hor.out (by omega) hg)
    have z5 := hg.size
    clear hx hc hg hkk hy
    go_wp2_with fail
    refine wp_region_lexC (by kernel_rfl) (by kernel_rfl) (fun x => Blk x gn 78 #[.int .i64 (1 + (i1 : Int)), .slice none 0 0, .slice Aq k cq, .slice none 0 0]) (HN5.out.drew) (fun lexNE => ?_)
    have c2 : ∀ W : Wd (fun x => Blk x gn 78 #[.int .i64 (1 + (i1 : Int)), .slice none 0 0, .slice Aq k cq, .slice none 0 0]), W.val.cell? ⟨gn, 2, none⟩ = some (.slice Aq k cq) := fun W => W.ok.cell 2
    (repeat (first | (refine lex_r fun K hK => ?_; go_big_quiet_op; refine hK _ ?_; clear hK K) | (refine lex_k fun K hK => ?_; go_simp; refine hK _ ?_; clear hK K)))
    (refine lex_e fun K hK => ?_; go_big_op)
    refine (s_Below (kk : Int) (cur_drew HC5.out)).mono ?_
    rintro e w6 ⟨z, rfl, hx, hc, hg⟩
    obtain ⟨hz00, hz01⟩ := hx.1 (by omega)
    have HC6 := Lib.hid hc
    have HO6 := Lib.hid (HO5.out.drew.trans (only_of_grown (S := GN g gn) hg (.inl rfl)))
    have HN6 := Lib.hid (HN5.out.drew.grown hg (by simp; omega))
    have Ho6 := Lib.hid (own_grown (own_drew Ho5.out) (by omega) hg)
    have z6 := hg.size
    refine hK _ _ (Cls.mk' HN6.out) ?_
    clear hK K hx hc hg
    (repeat (first | (refine lex_r fun K hK => ?_; go_big_quiet_op; refine hK _ ?_; clear hK K) | (refine lex_k fun K hK => ?_; go_simp; refine hK _ ?_; clear hK K)))
    (refine lex_e fun K hK => ?_; go_big_op)
    refine hK _ _ (Cls.mk' (HN6.out.alloc _)) ?_
    clear hK K
    have zz6 : w4.heap.size ≤ w6.heap.size := by have : w5.drew.heap.size = w5.heap.size := rfl; omega
    refine lex_e fun K hK => ?_
    refine wp_append_any _ _ _ 76 (by rfl) (w4.heap.size) 87 i0 (.agg #[.int .i64 0, .int .i64 0]) 2 16 Try.underlying76 hi hz0 hz1 hz2 rfl (by decide) _ _ _ (by rfl) (Ho6.out.alloc _) _ _ 1 1 _ (by rfl) (reads_new _ _ 1 2 rfl) (by intro u hu; simp at hu; first | (subst hu; rfl) | (rcases hu with rfl | rfl <;> rfl) | (rcases hu with rfl | rfl | rfl <;> rfl)) (by unfold maxLen; omega) (by omega) (by (try simp) <;> (try omega)) ?_
    intro v8 w8 hown8 hgrow8 hblk8
    go_simp
    have hrow : ∀ b, (Value.slice Aq k cq).ownBlock = some b → w4.heap.size ≤ b := fun b hb => (Ho6.out.lt b hb).1
    have HN8 := Lib.hid ((HN6.out.alloc _).grown hgrow8 (fun e => by have := hrow gn e.symm; omega))
    refine hK _ _ (Cls.mk' HN8.out) ?_
    clear hK K
    obtain ⟨A8, c8, rfl, _, _, _⟩ := own_form hown8
    have HC8 := Lib.hid ((HC6.out.alloc _).grown hgrow8 (fun b hb => by have := hrow b hb; omega))
    have HO8 := Lib.hid (only_more (HO6.out.alloc _) hgrow8 hrow)
    have Ho8 := Lib.hid hown8
    clear hown8 hgrow8 hblk8 hrow
    (repeat (first | (refine lex_r fun K hK => ?_; go_big_quiet_op; refine hK _ ?_; clear hK K) | (refine lex_k fun K hK => ?_; go_simp; refine hK _ ?_; clear hK K)))
    have q0 : w8.cell? ⟨gn, 2, none⟩ = some (.slice Aq k cq) := HN8.out.cell 2
    have f0 := HN8.out.frozen 2
    (refine lex_l fun K hK => ?_; go_big_op)
    (refine hK _ _ ?_; clear hK K)
    clear lexNE c2 q0 f0
    obtain ⟨wf, hwf⟩ : ∃ wf, wf = w8.setCell ⟨gn, 2, none⟩ (.slice A8 (k + 1) c8) := ⟨_, rfl⟩
    have HNf := Lib.hid (show Blk wf gn 78 #[.int .i64 (1 + (i1 : Int)), .slice none 0 0, .slice A8 (k + 1) c8, .slice none 0 0] by rw [hwf]; exact HN8.out.set_ 2 (.slice A8 (k + 1) c8))
    have HCf := Lib.hid (show Cur B g wf by rw [hwf]; exact HC8.out.set2 (p := ⟨gn, 2, none⟩) (by show g ≠ gn; omega) (by show B ≤ gn; omega) _)
    have HOf := Lib.hid (show Only (GN g gn) _ wf by rw [hwf]; exact HO8.out.setCell (p := ⟨gn, 2, none⟩) (.inl (.inr rfl)) _)
    have hkf : ∀ b, b ≠ gn → wf.heap[b]? = w8.heap[b]? := fun b hb => by rw [hwf]; exact Below.heap_setCell _ ⟨gn, 2, none⟩ _ b hb
    have hsf : wf.heap.size = w8.heap.size := by rw [hwf]; simp [World.setCell]
    rw [← hwf]
    clear hwf
    have Hof := Lib.hid (show wf.ownsRow w4.heap.size 87 2 (.slice A8 (k + 1) c8) (k + 1) (recs eAnd (xs ++ [((kk : Int) - 1 - y, z)])) by rw [recs_app]; exact own_keep Ho8.out (fun b hb => hkf b (fun e => by have := (Ho8.out.lt b hb).1; omega)))
    have Hao2 := Lib.hid (Hao.out.snoc (x := ((kk : Int) - 1 - y, z)) (by have := Hkk.out; rw [Hxl.out]; simp only; omega) (by have := Hkk.out; rw [Hxl.out]; simp only; omega))
    clear hkf
    go_wp2_with fail
    go_roundw
    case rel => exact ⟨k + 1, xs ++ [((kk : Int) - 1 - y, z)], _, by omega, by go_num, by rw [List.length_append, Hxl.out]; rfl, Hao2.out, HNf.out, Hof.out, HCf.out, HOf.out⟩
    case measure => simp [intOf]; omega
  obtain rfl : k = a := by omega
  obtain ⟨wa, hwa⟩ : ∃ x, x = wr := ⟨_, rfl⟩
  subst hwa
  have g2 : (k : Int) ≤ (k : Int) := Int.le_refl _
  obtain ⟨tt, htt⟩ : ∃ tt : Nat, 2 * ((F : Int) + (k : Int)) = (tt : Int) := ⟨2 * (F + k), by omega⟩
  have Htt := Lib.hid htt
  have ht4 : 4 ≤ tt := by omega
  have ht100 : tt ≤ 100 := by omega
  have HGr := Lib.hid (grown_only HG4.out HOr.out (by omega))
  have HRr := Lib.hid (HOr.out.blk HR4.out (by intro h; rcases h with h | h <;> omega))
  have HE2 := Lib.hid (Grow.nil wa wa.heap.size 3 139)
  clear i0 hi hz0 hz1 hz2
  obtain ⟨i0, hi, hz0, hz1, hz2⟩ := info_parts Try.infSeqD
  go_wp2_with fail
  clear htt
  go_loopw [17] (fun iv wl => ∃ (q : Nat) (ss : List Seq3) (sv : Value) (vs : List Value), q ≤ s ∧ iv = .int .i64 q ∧ ss.length = q ∧ (∀ x ∈ ss, SeqI (tt : Int) x) ∧ Blk wl gn 78 #[.int .i64 (1 + (i1 : Int)), sv, .slice Aq k cq, .slice none 0 0] ∧ Grow wl wa.heap.size 139 3 sv (ss.map rSeq) vs ∧ Cur B g wl ∧ Only (GN g gn) wa wl) (fun iv _ => s - (intOf iv).toNat)
  case atStart => exact ⟨0, [], _, [], Nat.zero_le _, rfl, rfl, fun x hx => by simp at hx, HNr.out, HE2.out, HCr.out, Only.refl _ _⟩
  case round =>
   obtain ⟨wl, hwl⟩ : ∃ x, x = wr := ⟨_, rfl⟩
   subst hwl
   obtain ⟨q, ss, sv, vs, hq, rfl, hsl, hsi, hbk, hgw, hc, ho⟩ := hrel
   have hgo := hgw.own
   rw [List.length_map, hsl] at hgo
   obtain ⟨Aw, cw, rfl, _, _, _⟩ := own_form hgo
   have Hsl := Lib.hid hsl
   have Hsi := Lib.hid hsi
   have HNl := Lib.hid hbk
   have Hgw := Lib.hid hgw
   have HCl := Lib.hid hc
   have HOl := Lib.hid ho
   have zl := ho.size
   clear hsl hsi hbk hgw hc ho hgo
   by_cases hlt : q < s
   ·have g2 : (q : Int) < (s : Int) := by omega
    go_wp2_with fail
    refine (s_Once 6 HCl.out).mono ?_
    rintro e w5 ⟨o, rfl, hc, hg⟩
    have HC5 := Lib.hid hc
    have HO5 := Lib.hid (HOl.out.trans (only_of_grown (S := GN g gn) hg (.inl rfl)))
    have HN5 := Lib.hid (HNl.out.grown hg (by simp; omega))
    have Hg5 := Lib.hid (grow_grown Hgw.out (by omega) hg)
    have z5 := hg.size
    clear hc hg
    cases o with
    | false =>
     go_wp2_with fail
     refine wp_region_lexC (by kernel_rfl) (by kernel_rfl) (fun x => Blk x gn 78 #[.int .i64 (1 + (i1 : Int)), .slice Aw q cw, .slice Aq k cq, .slice none 0 0]) (HN5.out.drew) (fun lexNE => ?_)
     have c1 : ∀ W : Wd (fun x => Blk x gn 78 #[.int .i64 (1 + (i1 : Int)), .slice Aw q cw, .slice Aq k cq, .slice none 0 0]), W.val.cell? ⟨gn, 1, none⟩ = some (.slice Aw q cw) := fun W => W.ok.cell 1
     (repeat (first | (refine lex_r fun K hK => ?_; go_big_quiet_op; refine hK _ ?_; clear hK K) | (refine lex_k fun K hK => ?_; go_simp; refine hK _ ?_; clear hK K)))
     (refine lex_e fun K hK => ?_; go_big_op)
     refine (s_Below (2) (cur_drew HC5.out)).mono ?_
     rintro e w6 ⟨v0, rfl, hx, hc, hg⟩
     have HC6 := Lib.hid hc
     have HO6 := Lib.hid (HO5.out.drew.trans (only_of_grown (S := GN g gn) hg (.inl rfl)))
     have HN6 := Lib.hid (HN5.out.drew.grown hg (by simp; omega))
     have Hg6 := Lib.hid (grow_grown Hg5.out.drew (by omega) hg)
     have zq6 := hg.size
     refine hK _ _ (Cls.mk' HN6.out) ?_
     clear hK K hc hg
     obtain ⟨hv00, hv01⟩ := hx.1 (by omega)
     clear hx
     (repeat (first | (refine lex_r fun K hK => ?_; go_big_quiet_op; refine hK _ ?_; clear hK K) | (refine lex_k fun K hK => ?_; go_simp; refine hK _ ?_; clear hK K)))
     (refine lex_e fun K hK => ?_; go_big_op)
     refine (s_Below (_) HC6.out).mono ?_
     rintro e w7 ⟨v1, rfl, hx, hc, hg⟩
     have HC7 := Lib.hid hc
     have HO7 := Lib.hid (HO6.out.trans (only_of_grown (S := GN g gn) hg (.inl rfl)))
     have HN7 := Lib.hid (HN6.out.grown hg (by simp; omega))
     have Hg7 := Lib.hid (grow_grown Hg6.out (by omega) hg)
     have zq7 := hg.size
     refine hK _ _ (Cls.mk' HN7.out) ?_
     clear hK K hc hg
     have hy : 0 ≤ v1 ∧ v1 ≤ (tt : Int) - 1 := by have h1 := hx.1 (by split <;> omega); split at h1 <;> omega
     have hy0 := hy.1
     have hy1 := hy.2
     clear hx hy
     (repeat (first | (refine lex_r fun K hK => ?_; go_big_quiet_op; refine hK _ ?_; clear hK K) | (refine lex_k fun K hK => ?_; go_simp; refine hK _ ?_; clear hK K)))
     (refine lex_e fun K hK => ?_; go_big_op)
     obtain ⟨W7, hW7⟩ : ∃ W7, W7 = w7.alloc (.cells #[.int .i64 ((tt : Int) - 1 - v1)] 3) := ⟨_, rfl⟩
     obtain ⟨gi, hgi⟩ : ∃ n, n = w7.heap.size := ⟨_, rfl⟩
     have HI7 := Lib.hid (show W7.ownsRow w7.heap.size 3 1 (.slice (some ⟨gi, 0, none⟩) 1 1) 1 (ints [(tt : Int) - 1 - v1]) by rw [hW7, hgi]; exact World.ownsRow_lit (base := w7.heap.size) (size := 1) (e := 3) w7 #[.int .i64 ((tt : Int) - 1 - v1)] 1 (Nat.le_refl _) (by unfold maxLen; omega) rfl)
     have HB7 := Lib.hid (show Below w7.heap.size w7 W7 by rw [hW7]; exact (Below.refl _ _).alloc (Nat.le_refl _) _)
     have HCX := Lib.hid (show Cur B g W7 by rw [hW7]; exact HC7.out.alloc _)
     have HOX := Lib.hid (show Only (GN g gn) wa W7 by rw [hW7]; exact HO7.out.alloc _)
     have HNX := Lib.hid (show Blk W7 gn 78 #[.int .i64 (1 + (i1 : Int)), .slice Aw q cw, .slice Aq k cq, .slice none 0 0] by rw [hW7]; exact HN7.out.alloc _)
     have HPX := Lib.hid (own_len_map Hg7.out Hsl.out)
     have HWX := Lib.hid (show W7.ownsRow wa.heap.size 139 3 (.slice Aw q cw) q vs by rw [hW7]; exact HPX.out.alloc _)
     have hgi7 : gi < W7.heap.size := (HI7.out.lt gi rfl).2
     have hgi6 : w7.heap.size ≤ gi := by omega
     have z7X := HB7.out.size
     rw [← hW7, ← hgi]
     refine hK _ _ (Cls.mk' HNX.out) ?_
     clear hK K hW7 hgi
     (repeat (first | (refine lex_r fun K hK => ?_; go_big_quiet_op; refine hK _ ?_; clear hK K) | (refine lex_k fun K hK => ?_; go_simp; refine hK _ ?_; clear hK K)))
     (refine lex_e fun K hK => ?_; go_big_op)
     refine hK _ _ (Cls.mk' (HNX.out.alloc _)) ?_
     clear hK K
     have zz6 : wa.heap.size ≤ W7.heap.size := HOX.out.size
     refine lex_e fun K hK => ?_
     refine wp_append_any _ _ _ 75 (by rfl) (wa.heap.size) 139 i0 (.agg #[.int .i64 0, .int .i64 0, .slice none 0 0]) 3 40 Try.underlying75 hi hz0 hz1 hz2 rfl (by decide) _ _ _ (by rfl) (HWX.out.alloc _) _ _ 1 1 _ (by rfl) (reads_new _ _ 1 3 rfl) (by intro u hu; simp at hu; first | (subst hu; rfl) | (rcases hu with rfl | rfl <;> rfl) | (rcases hu with rfl | rfl | rfl <;> rfl)) (by unfold maxLen; omega) (by omega) (by (try simp) <;> (try omega)) ?_
     intro v8 w8 hown8 hgrow8 hblk8
     go_simp
     have hrow : ∀ b, (Value.slice Aw q cw).ownBlock = some b → wa.heap.size ≤ b := fun b hb => (HWX.out.lt b hb).1
     have HN8 := Lib.hid ((HNX.out.alloc _).grown hgrow8 (fun e => by have := hrow gn e.symm; omega))
     refine hK _ _ (Cls.mk' HN8.out) ?_
     clear hK K
     obtain ⟨A8, c8, rfl, _, _, _⟩ := own_form hown8
     have HC8 := Lib.hid ((HCX.out.alloc _).grown hgrow8 (fun b hb => by have := hrow b hb; omega))
     have HO8 := Lib.hid (only_more (HOX.out.alloc _) hgrow8 hrow)
     have Hg8 := Lib.hid (show Grow w8 wa.heap.size 139 3 (.slice A8 (q + 1) c8) ((ss ++ [(0, v0, [(tt : Int) - 1 - v1])]).map rSeq) (vs ++ [.int .i64 0, .int .i64 v0, .slice (some ⟨gi, 0, none⟩) 1 1]) by
      rw [List.map_append]
      exact Grow.push (Q := fun j b => j = 2 ∧ b = gi) Hg7.out (HB7.out.alloc HB7.out.size _) (Nat.le_refl _) (HO7.out.size) (by rw [List.length_map, Hsl.out]; exact hown8) hgrow8 hblk8 rfl (fun j b hb => ⟨by omega, by simp; omega⟩) (fun j j' b h1 h2 => by omega) (row_seq (sep_ints (by unfold maxLen; omega) (HI7.out.alloc _) (fun g hg => ⟨rfl, by injection hg with hg; exact hg.symm⟩))))
     clear hown8 hgrow8 hblk8 hrow
     (repeat (first | (refine lex_r fun K hK => ?_; go_big_quiet_op; refine hK _ ?_; clear hK K) | (refine lex_k fun K hK => ?_; go_simp; refine hK _ ?_; clear hK K)))
     have q0 : w8.cell? ⟨gn, 1, none⟩ = some (.slice Aw q cw) := HN8.out.cell 1
     have f0 := HN8.out.frozen 1
     (refine lex_l fun K hK => ?_; go_big_op)
     (refine hK _ _ ?_; clear hK K)
     clear lexNE c1 q0 f0
     obtain ⟨wf, hwf⟩ : ∃ wf, wf = w8.setCell ⟨gn, 1, none⟩ (.slice A8 (q + 1) c8) := ⟨_, rfl⟩
     have HNf := Lib.hid (show Blk wf gn 78 #[.int .i64 (1 + (i1 : Int)), .slice A8 (q + 1) c8, .slice Aq k cq, .slice none 0 0] by rw [hwf]; exact HN8.out.set_ 1 (.slice A8 (q + 1) c8))
     have HCf := Lib.hid (show Cur B g wf by rw [hwf]; exact HC8.out.set2 (p := ⟨gn, 1, none⟩) (by show g ≠ gn; omega) (by show B ≤ gn; omega) _)
     have HOf := Lib.hid (show Only (GN g gn) _ wf by rw [hwf]; exact HO8.out.setCell (p := ⟨gn, 1, none⟩) (.inl (.inr rfl)) _)
     have hkf : ∀ b, b ≠ gn → wf.heap[b]? = w8.heap[b]? := fun b hb => by rw [hwf]; exact Below.heap_setCell _ ⟨gn, 1, none⟩ _ b hb
     have hsf : wf.heap.size = w8.heap.size := by rw [hwf]; simp [World.setCell]
     rw [← hwf]
     clear hwf
     have Hgf := Lib.hid (Hg8.out.keep (w' := wf) (fun b h1 _ => hkf b (by omega)) (by omega))
     clear hkf
     go_wp2_with fail
     go_roundw
     case rel => exact ⟨q + 1, ss ++ [(0, v0, [(tt : Int) - 1 - v1])], _, _, by omega, by go_num, by rw [List.length_append, Hsl.out]; rfl, fun x hx => by
      rcases List.mem_append.1 hx with hx | hx
      ·exact Hsi.out x hx
      ·simp only [List.mem_singleton] at hx
       subst hx
       exact ⟨.inl ⟨rfl, ⟨hv00, by show v0 ≤ 1; omega⟩, rfl⟩, fun r hr => by simp only [List.mem_singleton] at hr; subst hr; omega⟩, HNf.out, Hgf.out, HCf.out, HOf.out⟩
     case measure => simp [intOf]; omega
    | true =>
     go_wp2_with fail
     refine wp_region_lexC (by kernel_rfl) (by kernel_rfl) (fun x => Blk x gn 78 #[.int .i64 (1 + (i1 : Int)), .slice Aw q cw, .slice Aq k cq, .slice none 0 0]) (HN5.out.drew) (fun lexNE => ?_)
     have c1 : ∀ W : Wd (fun x => Blk x gn 78 #[.int .i64 (1 + (i1 : Int)), .slice Aw q cw, .slice Aq k cq, .slice none 0 0]), W.val.cell? ⟨gn, 1, none⟩ = some (.slice Aw q cw) := fun W => W.ok.cell 1
     (repeat (first | (refine lex_r fun K hK => ?_; go_big_quiet_op; refine hK _ ?_; clear hK K) | (refine lex_k fun K hK => ?_; go_simp; refine hK _ ?_; clear hK K)))
     (refine lex_e fun K hK => ?_; go_big_op)
     refine (s_Below (32) (cur_drew HC5.out)).mono ?_
     rintro e w6 ⟨v0, rfl, hx, hc, hg⟩
     have HC6 := Lib.hid hc
     have HO6 := Lib.hid (HO5.out.drew.trans (only_of_grown (S := GN g gn) hg (.inl rfl)))
     have HN6 := Lib.hid (HN5.out.drew.grown hg (by simp; omega))
     have Hg6 := Lib.hid (grow_grown Hg5.out.drew (by omega) hg)
     have zq6 := hg.size
     refine hK _ _ (Cls.mk' HN6.out) ?_
     clear hK K hc hg
     obtain ⟨hv00, hv01⟩ := hx.1 (by omega)
     clear hx
     (repeat (first | (refine lex_r fun K hK => ?_; go_big_quiet_op; refine hK _ ?_; clear hK K) | (refine lex_k fun K hK => ?_; go_simp; refine hK _ ?_; clear hK K)))
     (refine lex_e fun K hK => ?_; go_big_op)
     refine (s_Below ((tt : Int)) HC6.out).mono ?_
     rintro e w7 ⟨v1, rfl, hx, hc, hg⟩
     have HC7 := Lib.hid hc
     have HO7 := Lib.hid (HO6.out.trans (only_of_grown (S := GN g gn) hg (.inl rfl)))
     have HN7 := Lib.hid (HN6.out.grown hg (by simp; omega))
     have Hg7 := Lib.hid (grow_grown Hg6.out (by omega) hg)
     have zq7 := hg.size
     refine hK _ _ (Cls.mk' HN7.out) ?_
     clear hK K hc hg
     obtain ⟨hv10, hv11⟩ := hx.1 (by omega)
     clear hx
     (repeat (first | (refine lex_r fun K hK => ?_; go_big_quiet_op; refine hK _ ?_; clear hK K) | (refine lex_k fun K hK => ?_; go_simp; refine hK _ ?_; clear hK K)))
     (refine lex_e fun K hK => ?_; go_big_op)
     refine (s_Below ((tt : Int)) HC7.out).mono ?_
     rintro e w8 ⟨v2, rfl, hx, hc, hg⟩
     have HC8 := Lib.hid hc
     have HO8 := Lib.hid (HO7.out.trans (only_of_grown (S := GN g gn) hg (.inl rfl)))
     have HN8 := Lib.hid (HN7.out.grown hg (by simp; omega))
     have Hg8 := Lib.hid (grow_grown Hg7.out (by omega) hg)
     have zq8 := hg.size
     refine hK _ _ (Cls.mk' HN8.out) ?_
     clear hK K hc hg
     obtain ⟨hv20, hv21⟩ := hx.1 (by omega)
     clear hx
     (repeat (first | (refine lex_r fun K hK => ?_; go_big_quiet_op; refine hK _ ?_; clear hK K) | (refine lex_k fun K hK => ?_; go_simp; refine hK _ ?_; clear hK K)))
     (refine lex_e fun K hK => ?_; go_big_op)
     refine (s_Below ((tt : Int)) HC8.out).mono ?_
     rintro e w9 ⟨v3, rfl, hx, hc, hg⟩
     have HC9 := Lib.hid hc
     have HO9 := Lib.hid (HO8.out.trans (only_of_grown (S := GN g gn) hg (.inl rfl)))
     have HN9 := Lib.hid (HN8.out.grown hg (by simp; omega))
     have Hg9 := Lib.hid (grow_grown Hg8.out (by omega) hg)
     have zq9 := hg.size
     refine hK _ _ (Cls.mk' HN9.out) ?_
     clear hK K hc hg
     obtain ⟨hv30, hv31⟩ := hx.1 (by omega)
     clear hx
     (repeat (first | (refine lex_r fun K hK => ?_; go_big_quiet_op; refine hK _ ?_; clear hK K) | (refine lex_k fun K hK => ?_; go_simp; refine hK _ ?_; clear hK K)))
     (refine lex_e fun K hK => ?_; go_big_op)
     refine (s_Below ((tt : Int)) HC9.out).mono ?_
     rintro e w10 ⟨v4, rfl, hx, hc, hg⟩
     have HC10 := Lib.hid hc
     have HO10 := Lib.hid (HO9.out.trans (only_of_grown (S := GN g gn) hg (.inl rfl)))
     have HN10 := Lib.hid (HN9.out.grown hg (by simp; omega))
     have Hg10 := Lib.hid (grow_grown Hg9.out (by omega) hg)
     have zq10 := hg.size
     refine hK _ _ (Cls.mk' HN10.out) ?_
     clear hK K hc hg
     obtain ⟨hv40, hv41⟩ := hx.1 (by omega)
     clear hx
     (repeat (first | (refine lex_r fun K hK => ?_; go_big_quiet_op; refine hK _ ?_; clear hK K) | (refine lex_k fun K hK => ?_; go_simp; refine hK _ ?_; clear hK K)))
     (refine lex_e fun K hK => ?_; go_big_op)
     obtain ⟨W7, hW7⟩ : ∃ W7, W7 = w10.alloc (.cells #[.int .i64 v1, .int .i64 v2, .int .i64 v3, .int .i64 v4] 3) := ⟨_, rfl⟩
     obtain ⟨gi, hgi⟩ : ∃ n, n = w10.heap.size := ⟨_, rfl⟩
     have HI7 := Lib.hid (show W7.ownsRow w10.heap.size 3 1 (.slice (some ⟨gi, 0, none⟩) 4 4) 4 (ints [v1, v2, v3, v4]) by rw [hW7, hgi]; exact World.ownsRow_lit (base := w10.heap.size) (size := 1) (e := 3) w10 #[.int .i64 v1, .int .i64 v2, .int .i64 v3, .int .i64 v4] 4 (Nat.le_refl _) (by unfold maxLen; omega) rfl)
     have HB7 := Lib.hid (show Below w10.heap.size w10 W7 by rw [hW7]; exact (Below.refl _ _).alloc (Nat.le_refl _) _)
     have HCX := Lib.hid (show Cur B g W7 by rw [hW7]; exact HC10.out.alloc _)
     have HOX := Lib.hid (show Only (GN g gn) wa W7 by rw [hW7]; exact HO10.out.alloc _)
     have HNX := Lib.hid (show Blk W7 gn 78 #[.int .i64 (1 + (i1 : Int)), .slice Aw q cw, .slice Aq k cq, .slice none 0 0] by rw [hW7]; exact HN10.out.alloc _)
     have HPX := Lib.hid (own_len_map Hg10.out Hsl.out)
     have HWX := Lib.hid (show W7.ownsRow wa.heap.size 139 3 (.slice Aw q cw) q vs by rw [hW7]; exact HPX.out.alloc _)
     have hgi7 : gi < W7.heap.size := (HI7.out.lt gi rfl).2
     have hgi6 : w10.heap.size ≤ gi := by omega
     have z7X := HB7.out.size
     rw [← hW7, ← hgi]
     refine hK _ _ (Cls.mk' HNX.out) ?_
     clear hK K hW7 hgi
     (repeat (first | (refine lex_r fun K hK => ?_; go_big_quiet_op; refine hK _ ?_; clear hK K) | (refine lex_k fun K hK => ?_; go_simp; refine hK _ ?_; clear hK K)))
     (refine lex_e fun K hK => ?_; go_big_op)
     refine hK _ _ (Cls.mk' (HNX.out.alloc _)) ?_
     clear hK K
     have zz6 : wa.heap.size ≤ W7.heap.size := HOX.out.size
     refine lex_e fun K hK => ?_
     refine wp_append_any _ _ _ 75 (by rfl) (wa.heap.size) 139 i0 (.agg #[.int .i64 0, .int .i64 0, .slice none 0 0]) 3 40 Try.underlying75 hi hz0 hz1 hz2 rfl (by decide) _ _ _ (by rfl) (HWX.out.alloc _) _ _ 1 1 _ (by rfl) (reads_new _ _ 1 3 rfl) (by intro u hu; simp at hu; first | (subst hu; rfl) | (rcases hu with rfl | rfl <;> rfl) | (rcases hu with rfl | rfl | rfl <;> rfl)) (by unfold maxLen; omega) (by omega) (by (try simp) <;> (try omega)) ?_
     intro v8 w8 hown8 hgrow8 hblk8
     go_simp
     have hrow : ∀ b, (Value.slice Aw q cw).ownBlock = some b → wa.heap.size ≤ b := fun b hb => (HWX.out.lt b hb).1
     have HN8 := Lib.hid ((HNX.out.alloc _).grown hgrow8 (fun e => by have := hrow gn e.symm; omega))
     refine hK _ _ (Cls.mk' HN8.out) ?_
     clear hK K
     obtain ⟨A8, c8, rfl, _, _, _⟩ := own_form hown8
     have HC8 := Lib.hid ((HCX.out.alloc _).grown hgrow8 (fun b hb => by have := hrow b hb; omega))
     have HO8 := Lib.hid (only_more (HOX.out.alloc _) hgrow8 hrow)
     have Hg8 := Lib.hid (show Grow w8 wa.heap.size 139 3 (.slice A8 (q + 1) c8) ((ss ++ [(1, v0, [v1, v2, v3, v4])]).map rSeq) (vs ++ [.int .i64 1, .int .i64 v0, .slice (some ⟨gi, 0, none⟩) 4 4]) by
      rw [List.map_append]
      exact Grow.push (Q := fun j b => j = 2 ∧ b = gi) Hg10.out (HB7.out.alloc HB7.out.size _) (Nat.le_refl _) (HO10.out.size) (by rw [List.length_map, Hsl.out]; exact hown8) hgrow8 hblk8 rfl (fun j b hb => ⟨by omega, by simp; omega⟩) (fun j j' b h1 h2 => by omega) (row_seq (sep_ints (by unfold maxLen; omega) (HI7.out.alloc _) (fun g hg => ⟨rfl, by injection hg with hg; exact hg.symm⟩))))
     clear hown8 hgrow8 hblk8 hrow
     (repeat (first | (refine lex_r fun K hK => ?_; go_big_quiet_op; refine hK _ ?_; clear hK K) | (refine lex_k fun K hK => ?_; go_simp; refine hK _ ?_; clear hK K)))
     have q0 : w8.cell? ⟨gn, 1, none⟩ = some (.slice Aw q cw) := HN8.out.cell 1
     have f0 := HN8.out.frozen 1
     (refine lex_l fun K hK => ?_; go_big_op)
     (refine hK _ _ ?_; clear hK K)
     clear lexNE c1 q0 f0
     obtain ⟨wf, hwf⟩ : ∃ wf, wf = w8.setCell ⟨gn, 1, none⟩ (.slice A8 (q + 1) c8) := ⟨_, rfl⟩
     have HNf := Lib.hid (show Blk wf gn 78 #[.int .i64 (1 + (i1 : Int)), .slice A8 (q + 1) c8, .slice Aq k cq, .slice none 0 0] by rw [hwf]; exact HN8.out.set_ 1 (.slice A8 (q + 1) c8))
     have HCf := Lib.hid (show Cur B g wf by rw [hwf]; exact HC8.out.set2 (p := ⟨gn, 1, none⟩) (by show g ≠ gn; omega) (by show B ≤ gn; omega) _)
     have HOf := Lib.hid (show Only (GN g gn) _ wf by rw [hwf]; exact HO8.out.setCell (p := ⟨gn, 1, none⟩) (.inl (.inr rfl)) _)
     have hkf : ∀ b, b ≠ gn → wf.heap[b]? = w8.heap[b]? := fun b hb => by rw [hwf]; exact Below.heap_setCell _ ⟨gn, 1, none⟩ _ b hb
     have hsf : wf.heap.size = w8.heap.size := by rw [hwf]; simp [World.setCell]
     rw [← hwf]
     clear hwf
     have Hgf := Lib.hid (Hg8.out.keep (w' := wf) (fun b h1 _ => hkf b (by omega)) (by omega))
     clear hkf
     go_wp2_with fail
     go_roundw
     case rel => exact ⟨q + 1, ss ++ [(1, v0, [v1, v2, v3, v4])], _, _, by omega, by go_num, by rw [List.length_append, Hsl.out]; rfl, fun x hx => by
      rcases List.mem_append.1 hx with hx | hx
      ·exact Hsi.out x hx
      ·simp only [List.mem_singleton] at hx
       subst hx
       exact ⟨.inr ⟨rfl, ⟨hv00, by show v0 ≤ 31; omega⟩, rfl⟩, fun r hr => by simp only [List.mem_cons, List.not_mem_nil, or_false] at hr; rcases hr with rfl | rfl | rfl | rfl <;> omega⟩, HNf.out, Hgf.out, HCf.out, HOf.out⟩
     case measure => simp [intOf]; omega
   obtain rfl : q = s := by omega
   have g2 : (q : Int) ≤ (q : Int) := Int.le_refl _
   have HGl := Lib.hid (grown_only HGr.out HOl.out (by omega))
   have HRl := Lib.hid (HOl.out.blk HRr.out (by intro h; rcases h with h | h <;> omega))
   have HAl := Lib.hid (own_only Hor.out HOl.out (fun b hb => by rcases hb with h | h <;> omega))
   clear i0 hi hz0 hz1 hz2
   obtain ⟨i0, hi, hz0, hz1, hz2⟩ := info_parts Try.infoIntC
   have HE3 := Lib.hid (World.ownsRow_nil wl wl.heap.size 3 1)
   go_wp2_with fail
   refine (s_Below 4 HCl.out).mono ?_
   rintro e wm ⟨z0, rfl, hx, hc, hg⟩
   obtain ⟨hz30, hz31⟩ := hx.1 (by omega)
   have HCm := Lib.hid hc
   have HOm := Lib.hid (only_of_grown (S := GN g gn) hg (.inl rfl))
   have HNm := Lib.hid (HNl.out.grown hg (by simp; omega))
   have HEm := Lib.hid (own_grown HE3.out (by omega) hg)
   have hgnm := HNm.out.lt
   clear hx hc hg
   go_wp2_with fail
   go_loopw [18] (fun iv wo => ∃ (z : Int) (outs : List Int) (ov : Value), -1 ≤ z ∧ z + (outs.length : Int) ≤ 3 ∧ iv = .int .i64 z ∧ (∀ r ∈ outs, 0 ≤ r ∧ r < (tt : Int)) ∧ Blk wo gn 78 #[.int .i64 (1 + (i1 : Int)), .slice Aw q cw, .slice Aq k cq, ov] ∧ wo.ownsRow wl.heap.size 3 1 ov outs.length (ints outs) ∧ Cur B g wo ∧ Only (GN g gn) wl wo) (fun iv _ => (intOf iv + 1).toNat)
   case atStart => exact ⟨z0, [], _, by omega, by simp; omega, rfl, fun x hx => by simp at hx, HNm.out, HEm.out, HCm.out, HOm.out⟩
   case round =>
    obtain ⟨wo, hwo⟩ : ∃ x, x = wr := ⟨_, rfl⟩
    subst hwo
    obtain ⟨z, outs, ov, hzl, hzo, rfl, hou, hbk, hown, hc, ho⟩ := hrel
    obtain ⟨Ao, co, rfl, _, _, _⟩ := own_form hown
    obtain ⟨no, hno⟩ : ∃ n, n = outs.length := ⟨_, rfl⟩
    rw [← hno] at hzo hbk hown
    have Hno := Lib.hid hno
    have Hou := Lib.hid hou
    have HNo := Lib.hid hbk
    have Hoo := Lib.hid hown
    have HCo := Lib.hid hc
    have HOo := Lib.hid ho
    have zo := ho.size
    clear hno hou hbk hown hc ho
    by_cases hge : 0 ≤ z
    ·go_wp2_with fail
     refine wp_region_lexC (by kernel_rfl) (by kernel_rfl) (fun x => Blk x gn 78 #[.int .i64 (1 + (i1 : Int)), .slice Aw q cw, .slice Aq k cq, .slice Ao no co]) (HNo.out.drew) (fun lexNE => ?_)
     have c3 : ∀ W : Wd (fun x => Blk x gn 78 #[.int .i64 (1 + (i1 : Int)), .slice Aw q cw, .slice Aq k cq, .slice Ao no co]), W.val.cell? ⟨gn, 3, none⟩ = some (.slice Ao no co) := fun W => W.ok.cell 3
     (repeat (first | (refine lex_r fun K hK => ?_; go_big_quiet_op; refine hK _ ?_; clear hK K) | (refine lex_k fun K hK => ?_; go_simp; refine hK _ ?_; clear hK K)))
     (refine lex_e fun K hK => ?_; go_big_op)
     refine (s_Below _ (cur_drew HCo.out)).mono ?_
     rintro e w6 ⟨y, rfl, hx, hc, hg⟩
     have hy : 0 ≤ y ∧ y ≤ (tt : Int) - 1 := by have h1 := hx.1 (by split <;> omega); split at h1 <;> omega
     have hy0 := hy.1
     have hy1 := hy.2
     have HC6 := Lib.hid hc
     have HO6 := Lib.hid (HOo.out.drew.trans (only_of_grown (S := GN g gn) hg (.inl rfl)))
     have HN6 := Lib.hid (HNo.out.drew.grown hg (by simp; omega))
     have Ho6 := Lib.hid (own_grown (own_drew Hoo.out) (by omega) hg)
     have z6 := HO6.out.size
     refine hK _ _ (Cls.mk' HN6.out) ?_
     clear hK K hx hc hg hy
     (repeat (first | (refine lex_r fun K hK => ?_; go_big_quiet_op; refine hK _ ?_; clear hK K) | (refine lex_k fun K hK => ?_; go_simp; refine hK _ ?_; clear hK K)))
     (refine lex_e fun K hK => ?_; go_big_op)
     refine hK _ _ (Cls.mk' (HN6.out.alloc _)) ?_
     clear hK K
     refine lex_e fun K hK => ?_
     refine wp_append_any _ _ _ 28 (by rfl) (wl.heap.size) 3 i0 (.int .i64 0) 1 8 Try.underlying28 hi hz0 hz1 hz2 rfl (by decide) _ _ _ (by rfl) (Ho6.out.alloc _) _ _ 1 1 _ (by rfl) (reads_new _ _ 1 1 rfl) (by intro u hu; simp at hu; first | (subst hu; rfl) | (rcases hu with rfl | rfl <;> rfl) | (rcases hu with rfl | rfl | rfl <;> rfl)) (by unfold maxLen; omega) (by omega) (by (try simp) <;> (try omega)) ?_
     intro v8 w8 hown8 hgrow8 hblk8
     go_simp
     have hrow : ∀ b, (Value.slice Ao no co).ownBlock = some b → wl.heap.size ≤ b := fun b hb => (Ho6.out.lt b hb).1
     have HN8 := Lib.hid ((HN6.out.alloc _).grown hgrow8 (fun e => by have := hrow gn e.symm; omega))
     refine hK _ _ (Cls.mk' HN8.out) ?_
     clear hK K
     obtain ⟨A8, c8, rfl, _, _, _⟩ := own_form hown8
     have HC8 := Lib.hid ((HC6.out.alloc _).grown hgrow8 (fun b hb => by have := hrow b hb; omega))
     have HO8 := Lib.hid (only_more (HO6.out.alloc _) hgrow8 hrow)
     have Ho8 := Lib.hid hown8
     clear hown8 hgrow8 hblk8 hrow
     (repeat (first | (refine lex_r fun K hK => ?_; go_big_quiet_op; refine hK _ ?_; clear hK K) | (refine lex_k fun K hK => ?_; go_simp; refine hK _ ?_; clear hK K)))
     have q0 : w8.cell? ⟨gn, 3, none⟩ = some (.slice Ao no co) := HN8.out.cell 3
     have f0 := HN8.out.frozen 3
     (refine lex_l fun K hK => ?_; go_big_op)
     (refine hK _ _ ?_; clear hK K)
     clear lexNE c3 q0 f0
     obtain ⟨wf, hwf⟩ : ∃ wf, wf = w8.setCell ⟨gn, 3, none⟩ (.slice A8 (no + 1) c8) := ⟨_, rfl⟩
     have HNf := Lib.hid (show Blk wf gn 78 #[.int .i64 (1 + (i1 : Int)), .slice Aw q cw, .slice Aq k cq, .slice A8 (no + 1) c8] by rw [hwf]; exact HN8.out.set_ 3 (.slice A8 (no + 1) c8))
     have HCf := Lib.hid (show Cur B g wf by rw [hwf]; exact HC8.out.set2 (p := ⟨gn, 3, none⟩) (by show g ≠ gn; omega) (by show B ≤ gn; omega) _)
     have HOf := Lib.hid (show Only (GN g gn) _ wf by rw [hwf]; exact HO8.out.setCell (p := ⟨gn, 3, none⟩) (.inl (.inr rfl)) _)
     have hkf : ∀ b, b ≠ gn → wf.heap[b]? = w8.heap[b]? := fun b hb => by rw [hwf]; exact Below.heap_setCell _ ⟨gn, 3, none⟩ _ b hb
     have hsf : wf.heap.size = w8.heap.size := by rw [hwf]; simp [World.setCell]
     rw [← hwf]
     clear hwf
     have Hof := Lib.hid (show wf.ownsRow wl.heap.size 3 1 (.slice A8 (no + 1) c8) (outs ++ [(tt : Int) - 1 - y]).length (ints (outs ++ [(tt : Int) - 1 - y])) by rw [ints_app, List.length_append, ← Hno.out]; exact own_keep Ho8.out (fun b hb => hkf b (fun e => by have := (Ho8.out.lt b hb).1; omega)))
     clear hkf
     go_wp2_with fail
     go_roundw
     case rel => exact ⟨z - 1, outs ++ [(tt : Int) - 1 - y], _, by omega, by rw [List.length_append, ← Hno.out]; simp; omega, by go_num, fun r hr => by
      rcases List.mem_append.1 hr with hr | hr
      ·exact Hou.out r hr
      ·simp only [List.mem_singleton] at hr
       omega, HNf.out, Hof.out, HCf.out, HOf.out⟩
     case measure => simp [intOf]; omega
    ·have g3 : z < 0 := by omega
     obtain ⟨y0, y1, y2, y3⟩ := bk4 HNo.out
     have HRo := Lib.hid (HOo.out.blk HRl.out (by intro h; rcases h with h | h <;> omega))
     have HGo := Lib.hid (grown_only HGl.out HOo.out (by omega))
     have HAo := Lib.hid (own_only HAl.out HOo.out (fun b hb => by rcases hb with h | h <;> omega))
     have Hgo := Lib.hid (grow_only Hgw.out HOo.out (fun b hb => by rcases hb with h | h <;> omega))
     obtain ⟨r0, r1, r2, r3⟩ := bk4 HRo.out
     have f0 := HRo.out.frozen 0
     have f1 := HRo.out.frozen 1
     have f2 := HRo.out.frozen 2
     have f3 := HRo.out.frozen 3
     go_wp2_with fail
     clear y0 y1 y2 y3 r0 r1 r2 r3 f0 f1 f2 f3
     obtain ⟨wf, hwf⟩ : ∃ wf, wf = ((((wo.setCell ⟨w.heap.size, 0, none⟩ (.int .i64 (1 + (i1 : Int)))).setCell ⟨w.heap.size, 1, none⟩ (.slice Aw q cw)).setCell ⟨w.heap.size, 2, none⟩ (.slice Aq k cq)).setCell ⟨w.heap.size, 3, none⟩ (.slice Ao no co)) := ⟨_, rfl⟩
     have hRf : Blk wf w.heap.size 78 #[.int .i64 (1 + (i1 : Int)), .slice Aw q cw, .slice Aq k cq, .slice Ao no co] := by rw [hwf]; exact (((HRo.out.set_ 0 _).set_ 1 _).set_ 2 _).set_ 3 _
     have hOf : Only (fun b => b = w.heap.size) wo wf := by rw [hwf]; exact ((((Only.refl (fun b => b = w.heap.size) wo).setCell (.inl rfl) _).setCell (.inl rfl) _).setCell (.inl rfl) _).setCell (.inl rfl) _
     have hCf : Cur B g wf := by rw [hwf]; exact (((HCo.out.set2 (by show g ≠ w.heap.size; omega) (by show B ≤ w.heap.size; omega) _).set2 (by show g ≠ w.heap.size; omega) (by show B ≤ w.heap.size; omega) _).set2 (by show g ≠ w.heap.size; omega) (by show B ≤ w.heap.size; omega) _).set2 (by show g ≠ w.heap.size; omega) (by show B ≤ w.heap.size; omega) _
     have hGf : w.grownBy wf (some g) := grown_only2 HGo.out hOf (fun b hb => by omega)
     have hzf := hOf.size
     obtain ⟨s0, s1, s2, s3⟩ := bk4 hRf
     rw [← hwf]
     have hR1 := Hsl.out
     have hR2 := Hxl.out
     have rep1 : Rep wf (fun b => w.heap.size ≤ b ∧ b < wf.heap.size) (.slice Aw q cw) (fSeqS ss) := ((grow_only Hgo.out hOf (fun b hb => by omega)).sep (by rw [List.length_map]; exact hR1) (by unfold maxLen; omega)).rep.mono (fun b hb => ⟨by omega, hb.2⟩)
     have rep2 : Rep wf (fun b => w.heap.size ≤ b ∧ b < wf.heap.size) (.slice Aq k cq) (frecs eAnd xs) := Rep.of_reads (B := wf.heap.size) eAnd_len (by unfold maxLen; omega) hR2 (Reads.of_own (own_only HAo.out hOf (fun b hb => by omega))) (fun ad h => by have := own_block_bd (own_only HAo.out hOf (fun b hb => by omega)) h; exact ⟨by omega, this.2⟩)
     have rep3 : Rep wf (fun b => w.heap.size ≤ b ∧ b < wf.heap.size) (.slice Ao no co) (fints outs) := Rep.of_ints (B := wf.heap.size) (by unfold maxLen; omega) Hno.out.symm (Reads.of_own (own_only Hoo.out hOf (fun b hb => by omega))) (fun ad h => by have := own_block_bd (own_only Hoo.out hOf (fun b hb => by omega)) h; exact ⟨by omega, this.2⟩)
     have htk : (tt : Int) = 2 * ((F : Int) + (xs.length : Int)) := by rw [hR2]; exact Htt.out.symm
     refine bodyPost_ret (v := .agg #[.int .i64 (1 + (i1 : Int)), .slice Aw q cw, .slice Aq k cq, .slice Ao no co]) (by simp [results, Try.results143, go_sem, s0, s1, s2, s3]) rfl ⟨1 + (i1 : Int), F, ss, xs, outs, Aw, Aq, Ao, q, cw, k, cq, no, co, rfl, ⟨rep1, rep2, rep3⟩, ?_, hCf, hGf⟩
     exact net_ok (by rw [hR1]; have := HF.out; omega) (by omega) (by omega) (by omega) (by omega) (by rw [← Hno.out]; omega) Hao.out (by rw [← htk]; exact Hsi.out) (by rw [← htk]; exact Hou.out)
set_option maxRecDepth 100000 in
set_option maxHeartbeats 4000000 in
theorem s_l08Net {B g : Nat} {w : World} (hcur : Cur B g w) : Calls Try.prog 102 #[.pointer (some ⟨g, 0, none⟩)] w (NetD B g w) := by
 have hgl := hcur.lt
 have hgB := hcur.le
 go_enter Try.func102, Try.ntmps102
 go_wp2_with fail
 obtain ⟨U, hU⟩ : ∃ U, U = w.alloc (.cells #[.int .i64 0, .slice none 0 0, .slice none 0 0, .slice none 0 0] 78) := ⟨_, rfl⟩
 have HR0 := Lib.hid (show Blk U w.heap.size 78 #[.int .i64 0, .slice none 0 0, .slice none 0 0, .slice none 0 0] by rw [hU]; exact Blk.new _ _ _)
 have HG0 := Lib.hid (show w.grownBy U (some g) by rw [hU]; exact grown_alloc' (World.grownBy.refl w (some g)) _)
 have HC0 := Lib.hid (show Cur B g U by rw [hU]; exact hcur.alloc _)
 have hzu : U.heap.size = w.heap.size + 1 := by rw [hU]; simp
 rw [← hU]
 clear hU hcur
 refine (s_l08Sized HC0.out).mono ?_
 rintro e w2 ⟨inp, F, ss, ands, outs, As, Aa, Ao, ns, cs, na, ca, no, co, rfl, hnr, hng, hc, hg⟩
 have HR1 := Lib.hid (HR0.out.grown hg (by simp; omega))
 have HN2 := Lib.hid hnr
 have HGG := Lib.hid hng
 have HC2 := Lib.hid hc
 have HG2 := Lib.hid (HG0.out.trans hg)
 clear hnr hng hc hg
 obtain ⟨r0, r1, r2, r3⟩ := bk4 HR1.out
 have f0 := HR1.out.frozen 0
 have f1 := HR1.out.frozen 1
 have f2 := HR1.out.frozen 2
 have f3 := HR1.out.frozen 3
 go_wp2_with fail
 obtain ⟨wf, hwf⟩ : ∃ wf, wf = ((((w2.setCell ⟨w.heap.size, 0, none⟩ (.int .i64 inp)).setCell ⟨w.heap.size, 1, none⟩ (.slice As ns cs)).setCell ⟨w.heap.size, 2, none⟩ (.slice Aa na ca)).setCell ⟨w.heap.size, 3, none⟩ (.slice Ao no co)) := ⟨_, rfl⟩
 have hRf : Blk wf w.heap.size 78 #[.int .i64 inp, .slice As ns cs, .slice Aa na ca, .slice Ao no co] := by rw [hwf]; exact (((HR1.out.set_ 0 _).set_ 1 _).set_ 2 _).set_ 3 _
 have hOf : Only (fun b => b = w.heap.size) w2 wf := by rw [hwf]; exact ((((Only.refl (fun b => b = w.heap.size) w2).setCell (.inl rfl) _).setCell (.inl rfl) _).setCell (.inl rfl) _).setCell (.inl rfl) _
 have hzf := hOf.size
 obtain ⟨s0, s1, s2, s3⟩ := bk4 hRf
 have hNf := (HN2.out.only (fun b hb => hb.2) hOf (fun b hb e => by have := hb.1; omega)).keep (fun _ _ => rfl) (S' := fun b => w.heap.size ≤ b ∧ b < wf.heap.size) (fun b hb => ⟨by have := hb.1; omega, by have := hb.2; omega⟩)
 have hCf : Cur B g wf := by rw [hwf]; exact (((HC2.out.set2 (by show g ≠ w.heap.size; omega) (by show B ≤ w.heap.size; omega) _).set2 (by show g ≠ w.heap.size; omega) (by show B ≤ w.heap.size; omega) _).set2 (by show g ≠ w.heap.size; omega) (by show B ≤ w.heap.size; omega) _).set2 (by show g ≠ w.heap.size; omega) (by show B ≤ w.heap.size; omega) _
 have hGf : w.grownBy wf (some g) := grown_only2 HG2.out hOf (fun b hb => by omega)
 rw [← hwf]
 exact bodyPost_ret (v := .agg #[.int .i64 inp, .slice As ns cs, .slice Aa na ca, .slice Ao no co]) (by simp [results, Try.results102, go_sem, s0, s1, s2, s3]) rfl ⟨inp, F, ss, ands, outs, As, Aa, Ao, ns, cs, na, ca, no, co, rfl, hNf, HGG.out, hCf, hGf⟩
/-- the drawn net, in new memory -/
def NetDW (w : World) (e : Ending) (w' : World) : Prop :=
 ∃ (inp : Int) (F : Nat) (ss : List Seq3) (ands : List (Int × Int)) (outs : List Int) (As Aa Ao : Option Addr) (ns cs na ca no co : Nat), e = .returned (.agg #[.int .i64 inp, .slice As ns cs, .slice Aa na ca, .slice Ao no co]) ∧
  NetR w' (fun b => w.heap.size ≤ b ∧ b < w'.heap.size) As ns cs ss Aa na ca ands Ao no co outs ∧ NetG inp F ss ands outs ∧ Below w.heap.size w w'
set_option maxRecDepth 100000 in
set_option maxHeartbeats 4000000 in
theorem s_DrawNet {w : World} {A : Option Addr} {n c : Nat} {l : List UInt8} (hr : Reads w w.heap.size 1 A n (bys l)) (hn : n ≤ 1048576) : Calls Try.prog 37 #[.slice A n c] w (NetDW w) := by
 go_enter Try.func37, Try.ntmps37
 go_wp2_with fail
 obtain ⟨U, hU⟩ : ∃ U, U = w.alloc (.cells #[.int .i64 0, .slice none 0 0, .slice none 0 0, .slice none 0 0] 78) := ⟨_, rfl⟩
 have HR0 := Lib.hid (show Blk U w.heap.size 78 #[.int .i64 0, .slice none 0 0, .slice none 0 0, .slice none 0 0] by rw [hU]; exact Blk.new _ _ _)
 have HB0 := Lib.hid (show Below w.heap.size w U by rw [hU]; exact (Below.refl _ _).alloc (Nat.le_refl _) _)
 have hrU : Reads U U.heap.size 1 A n (bys l) := by rw [hU]; exact (hr.alloc (Nat.le_refl _) _).more (by simp)
 have hzu : U.heap.size = w.heap.size + 1 := by rw [hU]; simp
 rw [← hU]
 clear hU
 refine (s_New hrU hn).mono ?_
 rintro e w1 ⟨g, rfl, hc, hb⟩
 have HR0' := Lib.hid (HR0.out.below hb HR0.out.lt)
 have HB1 := Lib.hid (HB0.out.trans (hb.mono (by omega)))
 have HC1 := Lib.hid hc
 have hgl := hc.lt
 have hgB := hc.le
 have z1 := hb.size
 clear hc hb hrU
 go_wp2_with fail
 refine (s_l08Net HC1.out).mono ?_
 rintro e w2 ⟨inp, F, ss, ands, outs, As, Aa, Ao, ns, cs, na, ca, no, co, rfl, hnr, hng, hc, hg⟩
 have HR1 := Lib.hid (HR0'.out.grown hg (by simp; omega))
 have HN2 := Lib.hid hnr
 have HGG := Lib.hid hng
 have HB2 := Lib.hid (below_curL' HB1.out HC1.out (by omega) hg)
 clear hnr hng hc hg
 obtain ⟨r0, r1, r2, r3⟩ := bk4 HR1.out
 have f0 := HR1.out.frozen 0
 have f1 := HR1.out.frozen 1
 have f2 := HR1.out.frozen 2
 have f3 := HR1.out.frozen 3
 go_wp2_with fail
 obtain ⟨wf, hwf⟩ : ∃ wf, wf = ((((w2.setCell ⟨w.heap.size, 0, none⟩ (.int .i64 inp)).setCell ⟨w.heap.size, 1, none⟩ (.slice As ns cs)).setCell ⟨w.heap.size, 2, none⟩ (.slice Aa na ca)).setCell ⟨w.heap.size, 3, none⟩ (.slice Ao no co)) := ⟨_, rfl⟩
 have hRf : Blk wf w.heap.size 78 #[.int .i64 inp, .slice As ns cs, .slice Aa na ca, .slice Ao no co] := by rw [hwf]; exact (((HR1.out.set_ 0 _).set_ 1 _).set_ 2 _).set_ 3 _
 have hOf : Only (fun b => b = w.heap.size) w2 wf := by rw [hwf]; exact ((((Only.refl (fun b => b = w.heap.size) w2).setCell (.inl rfl) _).setCell (.inl rfl) _).setCell (.inl rfl) _).setCell (.inl rfl) _
 have hzf := hOf.size
 obtain ⟨s0, s1, s2, s3⟩ := bk4 hRf
 have hNf := (HN2.out.only (fun b hb => hb.2) hOf (fun b hb e => by have := hb.1; omega)).keep (fun _ _ => rfl) (S' := fun b => w.heap.size ≤ b ∧ b < wf.heap.size) (fun b hb => ⟨by have := hb.1; omega, by have := hb.2; omega⟩)
 have hBf : Below w.heap.size w wf := HB2.out.trans (hOf.below HB2.out.size (fun b hb => by omega))
 rw [← hwf]
 exact bodyPost_ret (v := .agg #[.int .i64 inp, .slice As ns cs, .slice Aa na ca, .slice Ao no co]) (by simp [results, Try.results37, go_sem, s0, s1, s2, s3]) rfl ⟨inp, F, ss, ands, outs, As, Aa, Ao, ns, cs, na, ca, no, co, rfl, hNf, HGG.out, hBf⟩
end Go.Proofs.Ytlkjdhjeecogjaa

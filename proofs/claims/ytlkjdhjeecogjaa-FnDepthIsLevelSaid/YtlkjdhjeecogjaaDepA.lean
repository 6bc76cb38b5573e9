/- Contracts: levels of a net, and lists compared. -/
import Derived.Test.YtlkjdhjeecogjaaDep
import Derived.Test.YtlkjdhjeecogjaaNetO
import Derived.Test.YtlkjdhjeecogjaaNetP
import Derived.Test.YtlkjdhjeecogjaaGa
import Derived.Outline
namespace Go.Proofs.Ytlkjdhjeecogjaa
open Go.RowKit

/-- what a valid net with F nodes ahead of its AND nodes gives -/
structure NetG (inp : Int) (F : Nat) (ss : List Seq3) (ands : List (Int × Int)) (outs : List Int) : Prop where
 hF : (F : Int) = 1 + inp + ss.length
 h0 : 0 ≤ inp
 h20 : inp ≤ 20
 hns : ss.length ≤ 12
 hna : ands.length ≤ 300
 hok : AndsOk F ands
 hro : ∀ r ∈ rootsL outs ss, 0 ≤ r ∧ r < 2 * ((F : Int) + ands.length)
 hrl : (rootsL outs ss).length ≤ 1000
 hB : NetB ss ands outs
 hnet : netB inp ss ands outs = true
theorem wcq {B : Nat} {W0 : World} {p : Addr} {u : Value} (h : W0.cell? p = some u) (hp : p.block < B) : ∀ W : Wd (fun w => Below B W0 w), W.val.cell? p = some u := fun W => (W.ok.cell hp).trans h
theorem ifmax (a b : Int) : (if a < b then b else a) = max a b := by split <;> omega
theorem ints_set' (l : List Int) (k : Nat) (x : Int) : (ints l).set k (.int .i64 x) = ints (l.set k x) := by simp [ints, List.map_set]
theorem hf_cast {a : Int} (h : 0 ≤ a) : a / 2 = ((hf a : Nat) : Int) := by unfold hf; omega
theorem own_int_at {w : World} {lo g n c : Nat} {l : List Int} {e : TypeId} (h : w.ownsRow lo e 1 (.slice (some ⟨g, 0, none⟩) n c) n (ints l)) {k : Nat} {x : Int} (hx : l[k]? = some x) : w.cell? ⟨g, k, none⟩ = some (.int .i64 x) := by
 have hk : k < n := by have h1 := h.1; rw [ints_len] at h1; have := (List.getElem?_eq_some_iff.1 hx).1; omega
 rw [h.cellAt k (by omega), ints_get, hx]
 rfl
set_option maxRecDepth 100000 in
set_option maxHeartbeats 4000000 in
theorem i_levels {inp : Int} {F : Nat} {ss : List Seq3} {ands : List (Int × Int)} {outs : List Int} (G : NetG inp F ss ands outs) {w : World} {S : Nat → Prop} {As Aa Ao : Option Addr} {ns cs na ca no co : Nat} (h : NetR w S As ns cs ss Aa na ca ands Ao no co outs) (hS : ∀ b, S b → b < w.heap.size) :
  Calls Try.prog 103 #[.agg #[.int .i64 inp, .slice As ns cs, .slice Aa na ca, .slice Ao no co]] w (OwnI (lvL F ands) w) := by
 obtain ⟨i0, hi, hz0, hz1, hz2⟩ := info_parts Try.infoIntC
 obtain ⟨l1, l2, l3, m1, m2, m3⟩ := h.lens
 have hF := G.hF
 have hi0 := G.h0
 have hi20 := G.h20
 have hns := G.hns
 have hna := G.hna
 rw [l1] at hF hns
 rw [l2] at hna
 have Hl1 := Lib.hid l1
 have Hl2 := Lib.hid l2
 have Hl3 := Lib.hid l3
 have Hok := Lib.hid G.hok
 have hS1 : ∀ b, S b → b < w.heap.size + 1 := fun b hb => by have := hS b hb; omega
 obtain ⟨U, hU⟩ : ∃ U, U = w.alloc (.cells #[.int .i64 inp, .slice As ns cs, .slice Aa na ca, .slice Ao no co] 78) := ⟨_, rfl⟩
 have HU := Lib.hid hU
 have HX := Lib.hid (show Blk U w.heap.size 78 #[.int .i64 inp, .slice As ns cs, .slice Aa na ca, .slice Ao no co] by rw [hU]; exact Blk.new _ _ _)
 have HB0 := Lib.hid (show Below w.heap.size w U by rw [hU]; exact (Below.refl _ _).alloc (Nat.le_refl _) _)
 have hzU : U.heap.size = w.heap.size + 1 := by rw [hU]; simp
 have HN := Lib.hid (h.under hS HB0.out)
 have HA := Lib.hid (Rep.to_reads (B := w.heap.size + 1) eAnd_len (by decide) HN.out.2.1 hS1)
 obtain ⟨N, hN⟩ : ∃ N, N = F + na := ⟨_, rfl⟩
 have hN400 : N ≤ 400 := by omega
 have HN2 := Lib.hid hN
 have HF := Lib.hid hF
 have HZU := Lib.hid hzU
 have HNI := Lib.hid (show 1 + inp + (ns : Int) + (na : Int) = (N : Int) by omega)
 have HFI := Lib.hid (show 1 + inp + (ns : Int) = (F : Int) by omega)
 have hFN : F + na ≤ N := by omega
 have hF1 : 1 ≤ F := by omega
 have hzu : w.heap.size + 1 ≤ U.heap.size := by omega
 have hzu2 : U.heap.size ≤ w.heap.size + 1 := by omega
 clear l1 l2 l3 m1 m2 m3 hU h hN hF hzU
 go_enter Try.func103, Try.ntmps103
 obtain ⟨y0, y1, y2, y3⟩ := bk4 HX.out
 go_wp2_with fail
 rw [← HU.out]
 go_wp2_with fail
 refine (i_nodeCount inp hi0 hi20 As Aa Ao ns cs na ca no co hns hna _).mono ?_
 rintro e w1 ⟨rfl, hb1⟩
 rw [HNI.out]
 have z1 := hb1.size
 have Hb1 := Lib.hid hb1
 have HX1 := Lib.hid (HX.out.below hb1 (by omega))
 clear hb1 y0 y1 y2 y3
 obtain ⟨y0, y1, y2, y3⟩ := bk4 HX1.out
 have hmk := run_make_rowN (P := Try.prog) 28 3 i0 (.int .i64 0) Try.underlying28 hi hz0 .i64 .i64 N N (Nat.le_refl _) (by rw [hz2]; omega) (by omega) w1
 rw [hz1] at hmk
 have hcs : (Value.int .i64 0).cells = #[.int .i64 0] := rfl
 rw [hcs, Nat.mul_one] at hmk
 clear hcs
 obtain ⟨x0, x1, x2, x3⟩ := bk4 (HX1.out.alloc (.cells (madeCells #[.int .i64 0] N) 3))
 go_wp2_with fail
 clear hmk x0 x1 x2 x3
 obtain ⟨W2, hW2⟩ : ∃ W2, W2 = w1.alloc (.cells (madeCells #[.int .i64 0] N) 3) := ⟨_, rfl⟩
 have HO2 := Lib.hid (show W2.ownsRow w1.heap.size 3 1 (.slice (some ⟨w1.heap.size, 0, none⟩) N N) N (ints (lvP F ands 0)) by rw [hW2, lvP_zero, Hl2.out, ← HN2.out]; exact own_ints (by unfold maxLen; omega))
 have HB2 := Lib.hid (show Below (w.heap.size + 1) U W2 by rw [hW2]; exact (Hb1.out.mono (by omega)).alloc (by omega) _)
 obtain ⟨gl, hgl⟩ : ∃ g, g = w1.heap.size := ⟨_, rfl⟩
 have hgl1 : w.heap.size + 1 ≤ gl := by omega
 have hgl2 : gl < W2.heap.size := by rw [hgl, hW2]; simp
 rw [← hW2, ← hgl]
 rw [← hgl] at HO2
 clear hW2 hgl
 have HXB := Lib.hid HB2.out
 go_loopw [4, 5, 12] (fun _ _ iv wr => ∃ k : Nat, k ≤ na ∧ iv = .int .i64 k ∧ wr.ownsRow (w.heap.size + 1) 3 1 (.slice (some ⟨gl, 0, none⟩) N N) N (ints (lvP F ands k)) ∧ Only (fun b => b = gl) W2 wr) (fun _ _ iv _ => na - (intOf iv).toNat)
 case atStart => exact ⟨0, Nat.zero_le _, rfl, own_mono HO2.out (by omega), Only.refl _ _⟩
 case round =>
  obtain ⟨k, hk, rfl, hown, ho⟩ := hrel
  have hsz := ho.size
  have Ho := Lib.hid ho
  have HBr := Lib.hid (HB2.out.trans (ho.below (B := w.heap.size + 1) (by omega) (fun b hb => by omega)))
  have Hown := Lib.hid hown
  have HXr := Lib.hid (HX.out.below HBr.out (by omega))
  clear y0 y1 y2 y3 ho hown
  obtain ⟨y0, y1, y2, y3⟩ := bk4 HXr.out
  by_cases hlt : k < na
  ·obtain ⟨ad, a, b, rfl, hab, hx, t0, t1⟩ := (HA.out.below HBr.out).atAnd hlt
   have g1 : (0 : Int) ≤ (k : Int) := by omega
   have g2 : (k : Int) < (na : Int) := by omega
   have hv := Hok.out k (a, b) hx
   have hl := Hok.out.lt hx
   have ea := hf_cast hv.1
   have eb := hf_cast hv.2.2.1
   obtain ⟨pa, hpa⟩ : ∃ p, p = hf a := ⟨_, rfl⟩
   obtain ⟨pb, hpb⟩ : ∃ p, p = hf b := ⟨_, rfl⟩
   simp only [← hpa, ← hpb] at hl ea eb
   have hl1 := hl.1
   have hl2 := hl.2
   have Hs := Lib.hid (lvP_succ (F := F) hx)
   obtain ⟨va, hva⟩ : ∃ v, v = (lvL F (ands.take k)).getD pa 0 := ⟨_, rfl⟩
   obtain ⟨vb, hvb⟩ : ∃ v, v = (lvL F (ands.take k)).getD pb 0 := ⟨_, rfl⟩
   have hka : k ≤ ands.length := by rw [Hl2.out]; omega
   have ca : wr.cell? ⟨gl, pa, none⟩ = some (.int .i64 va) := by rw [hva]; exact own_int_at Hown.out (lvP_get hka hl1)
   have cb : wr.cell? ⟨gl, pb, none⟩ = some (.int .i64 vb) := by rw [hvb]; exact own_int_at Hown.out (lvP_get hka hl2)
   have hva1 : 0 ≤ va ∧ va ≤ 300 := by have h1 := getD_bd (m := 300) (by omega) (fun v hv => by have h2 := lvL_bd F (ands.take k) v hv; have h3 : (ands.take k).length ≤ k := (by rw [List.length_take]; exact Nat.min_le_left _ _); omega) pa; rw [hva]; exact h1
   have hvb1 : 0 ≤ vb ∧ vb ≤ 300 := by have h1 := getD_bd (m := 300) (by omega) (fun v hv => by have h2 := lvL_bd F (ands.take k) v hv; have h3 : (ands.take k).length ≤ k := (by rw [List.length_take]; exact Nat.min_le_left _ _); omega) pb; rw [hvb]; exact h1
   obtain ⟨hva0, hva3⟩ := hva1
   obtain ⟨hvb0, hvb3⟩ := hvb1
   simp only [← hpa, ← hpb, ← hva, ← hvb] at Hs
   have gpa : (pa : Int) < (N : Int) := by omega
   have gpb : (pb : Int) < (N : Int) := by omega
   have gfk : (F : Int) + (k : Int) < (N : Int) := by omega
   have gf0 : (0 : Int) ≤ (F : Int) + (k : Int) := by omega
   obtain ⟨W3, hW3⟩ : ∃ W3, W3 = wr.alloc (.cells #[.int .i64 a, .int .i64 b] 87) := ⟨_, rfl⟩
   have HB3 := Lib.hid (show Below wr.heap.size wr W3 by rw [hW3]; exact (Below.refl _ _).alloc (Nat.le_refl _) _)
   have HV3 := Lib.hid (show Blk W3 wr.heap.size 87 #[.int .i64 a, .int .i64 b] by rw [hW3]; exact Blk.new _ _ _)
   have HX3 := Lib.hid (HXr.out.below HB3.out HXr.out.lt)
   have z3 : wr.heap.size < W3.heap.size := HV3.out.lt
   clear hpa hpb hva hvb hx hv hl hka
   go_wp2_with fail
   rw [← hW3]
   clear hW3 y0 y1 y2 y3 t0 t1
   refine wp_region_lexC (by kernel_rfl) (by kernel_rfl) (fun x => Below W3.heap.size W3 x) ((Below.refl _ _).drew) (fun lexNE => ?_)
   obtain ⟨c0, c1, c2, c3⟩ := bw4 (B := W3.heap.size) HX3.out (by omega)
   obtain ⟨d0, d1⟩ := bwS2 (B := W3.heap.size) HV3.out (by omega)
   have ea3 := wcq (B := W3.heap.size) ((HB3.out.cell (p := ⟨gl, pa, none⟩) (by show gl < wr.heap.size; omega)).trans ca) (by show gl < W3.heap.size; omega)
   have eb3 := wcq (B := W3.heap.size) ((HB3.out.cell (p := ⟨gl, pb, none⟩) (by show gl < wr.heap.size; omega)).trans cb) (by show gl < W3.heap.size; omega)
   clear ca cb
   (repeat (first | (refine lex_r fun K hK => ?_; go_big_quiet_op; refine hK _ ?_; clear hK K) | (refine lex_k fun K hK => ?_; go_simp; refine hK _ ?_; clear hK K)))
   (refine lex_e fun K hK => ?_; go_big_op)
   refine (i_firstAnd inp hi0 hi20 As (some ad) Ao ns cs na ca no co hns _).mono ?_
   rintro e w4 ⟨rfl, hb4⟩
   rw [HFI.out]
   have HB4 := Lib.hid ((Below.refl W3.heap.size W3).drew.trans hb4)
   refine hK _ _ (Cls.mk' HB4.out) ?_
   clear hK K hb4
   (repeat (first | (refine lex_r fun K hK => ?_; go_big_quiet_op; refine hK _ ?_; clear hK K) | (refine lex_k fun K hK => ?_; go_simp; refine hK _ ?_; clear hK K)))
   have Ho4 := Lib.hid (own_below (own_below Hown.out HB3.out (Nat.le_refl _)) HB4.out (Nat.le_refl _))
   obtain ⟨z, hz⟩ : ∃ z, w4.cell? ⟨gl, F + k, none⟩ = some z := by
    refine ⟨_, (Ho4.out.cellAt (F + k) (by omega)).trans (List.getElem?_eq_getElem ?_)⟩
    rw [ints_len, lvP_len (by rw [Hl2.out]; omega), Hl2.out]
    omega
   have fz := Ho4.out.frozenAt (F + k)
   (refine lex_l fun K hK => ?_; go_big_op)
   (refine hK _ _ ?_; clear hK K)
   clear lexNE c0 c1 c2 c3 d0 d1 ea3 eb3 hz fz
   obtain ⟨vm, hvm⟩ : ∃ v, v = 1 + if va < vb then vb else va := ⟨_, rfl⟩
   rw [← hvm]
   have HV := Lib.hid (show lvP F ands (k + 1) = (lvP F ands k).set (F + k) vm by rw [← Hs.out, hvm, ifmax])
   clear hvm
   go_wp2_with fail
   go_roundw
   case rel =>
    have h1 := (Ho4.out.stored (F + k) (.int .i64 vm)).1
    exact ⟨k + 1, by omega, by go_num, by rw [HV.out, ← ints_set']; exact h1, (Ho.out.trans ((Only.of_below (HB3.out.trans (HB4.out.mono (by omega))) _))).trans ((Only.refl (fun b => b = gl) _).setCell (p := ⟨gl, F + k, none⟩) (.inl rfl) _)⟩
   case measure => simp [intOf]; omega
  ·obtain rfl : k = na := by omega
   have g2 : (k : Int) ≤ (k : Int) := Int.le_refl _
   clear y0 y1 y2 y3
   go_wp2_with fail
   go_ret
   have HK := Lib.hid (show lvP F ands k = lvL F ands by rw [← Hl2.out]; exact lvP_all)
   have HLN := Lib.hid (show N = (lvL F ands).length by rw [lvL_len, Hl2.out]; exact HN2.out)
   unfold OwnI
   rw [← HLN.out]
   exact ⟨some ⟨gl, 0, none⟩, N, rfl, by rw [← HK.out]; exact own_mono Hown.out (by omega), HB0.out.trans (HBr.out.mono (by omega))⟩
end Go.Proofs.Ytlkjdhjeecogjaa

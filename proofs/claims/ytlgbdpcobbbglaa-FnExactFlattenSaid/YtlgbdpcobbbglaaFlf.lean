/- Contracts: a design flattened: the program's and the reference's functions. -/
import Derived.Test.YtlgbdpcobbbglaaFla
import Derived.Test.YtlgbdpcobbbglaaFls
import Derived.Test.YtlgbdpcobbbglaaFlq
import Derived.Test.YtlgbdpcobbbglaaFokC
import Derived.Outline
namespace Go.Proofs.Ytlgbdpcobbbglaa
open Go.RowKit

def FlnQ (d : TDesign) (param : Int) (w : World) (e : Ending) (w' : World) : Prop :=
 ∃ v', e = .returned (.tuple #[v', .bool (flnO d param)]) ∧ QModule w' (New w w') v' (flnM d param) ∧ Below w.heap.size w w'
theorem mod_nil (w : World) (S : Nat → Prop) : QModule w S (.agg #[.slice none 0 0, .slice none 0 0, .slice none 0 0, .slice none 0 0]) ([], [], [], []) :=
 ⟨_, _, _, _, fun _ _ => False, rfl, fun _ _ h => h.elim, fun _ _ _ h => h.elim,
  (RowsOf.nil w (fun _ => False) 3 []).sep (S' := fun _ => False) (e := 73) rfl (Nat.zero_le _) (fun _ h => by simp at h) (World.ownsRow_nil w 0 73 3) (fun g hg => by simp [Value.ownBlock] at hg) (fun _ h => h.elim),
  (RowsOf.nil w (fun _ => False) 2 []).sep (S' := fun _ => False) (e := 76) rfl (Nat.zero_le _) (fun _ h => by simp at h) (World.ownsRow_nil w 0 76 2) (fun g hg => by simp [Value.ownBlock] at hg) (fun _ h => h.elim),
  (RowsOf.nil w (fun _ => False) 3 []).sep (S' := fun _ => False) (e := 82) rfl (Nat.zero_le _) (fun _ h => by simp at h) (World.ownsRow_nil w 0 82 3) (fun g hg => by simp [Value.ownBlock] at hg) (fun _ h => h.elim),
  (RowsOf.nil w (fun _ => False) 4 []).sep (S' := fun _ => False) (e := 80) rfl (Nat.zero_le _) (fun _ h => by simp at h) (World.ownsRow_nil w 0 80 4) (fun g hg => by simp [Value.ownBlock] at hg) (fun _ h => h.elim)⟩
-- $1 function $2 the result's block $3 world $4 v0 $5 v1 $6 v3 $7 bool $8 Below w w3
set_option maxRecDepth 100000 in
set_option maxHeartbeats 16000000 in
theorem i_Flatten {w : World} {S : Nat → Prop} {v : Value} {d : TDesign} (param : Int) (hz : sDesign d ≤ 1048576) (h : RDesign w S v d) (hS : ∀ b, S b → b < w.heap.size) :
  Calls Try.prog 7 #[v, .int .i64 param] w (FlnQ d param w) := by
 obtain ⟨A, c, rfl, hr, hm⟩ := dsn_open h
 obtain ⟨n, hl⟩ : ∃ n, d.length = n := ⟨_, rfl⟩
 rw [hl] at hr hm h ⊢
 have Hl := Lib.hid hl
 have Hr := Lib.hid hr
 have H := Lib.hid h
 obtain ⟨U0, hU0⟩ : ∃ U0, U0 = (w.alloc (.cells #[.slice A n c] 36)).alloc (.cells #[.slice none 0 0, .slice none 0 0, .slice none 0 0, .slice none 0 0] 31) := ⟨_, rfl⟩
 have hu0 : w.heap.size + 1 < U0.heap.size := by rw [hU0]; simp
 have HB0 := Lib.hid (show Below w.heap.size w U0 by rw [hU0]; exact ((Below.refl _ _).alloc (Nat.le_refl _) _).alloc (by simp) _)
 have HXD := Lib.hid (show Blk U0 w.heap.size 36 #[.slice A n c] by rw [hU0]; exact (Blk.new _ _ _).alloc _)
 have HXR := Lib.hid (show Blk U0 (w.heap.size + 1) 31 #[.slice none 0 0, .slice none 0 0, .slice none 0 0, .slice none 0 0] by rw [hU0]; exact blk_new_at (by simp))
 have HU0 := Lib.hid hU0
 clear hl hr h hU0
 go_enter Try.func7, Try.ntmps7
 go_wp2_with fail
 rw [← HU0.out]
 refine (i_DesignOk (by omega) (RDesign.under H.out hS HB0.out) (fun b hb => by have := hS b hb; omega)).mono ?_
 rintro e w1 ⟨rfl, hb1⟩
 have HD1 := Lib.hid (HXD.out.below hb1 HXD.out.lt)
 have HR1 := Lib.hid (HXR.out.below hb1 HXR.out.lt)
 have HB1 := Lib.hid (HB0.out.trans (hb1.mono (by omega)))
 have zz1 := hb1.size
 clear hb1
 cases hd : designB d with
 | false =>
  have HN := Lib.hid (flnF_no1 (d := d) (param := param) (by rw [hd]; rfl))
  clear hd
  obtain ⟨r0, r1, r2, r3⟩ := blkS4 HR1.out
  have f0 := HR1.out.frozen 0
  have f1 := HR1.out.frozen 1
  have f2 := HR1.out.frozen 2
  have f3 := HR1.out.frozen 3
  go_wp2_with fail
  obtain ⟨wf, hwf⟩ : ∃ wf, wf = ((((w1.setCell ⟨w.heap.size + 1, 0, none⟩ (.slice none 0 0)).setCell ⟨w.heap.size + 1, 1, none⟩ (.slice none 0 0)).setCell ⟨w.heap.size + 1, 2, none⟩ (.slice none 0 0)).setCell ⟨w.heap.size + 1, 3, none⟩ (.slice none 0 0)) := ⟨_, rfl⟩
  have hRf : Blk wf (w.heap.size + 1) 31 #[(.slice none 0 0), (.slice none 0 0), .slice none 0 0, (.slice none 0 0)] := by rw [hwf]; exact blk_four HR1.out
  have hw1 : w.heap.size ≤ w.heap.size + 1 := Nat.le_succ _
  have hBf : Below w.heap.size w wf := by rw [hwf]; exact (((HB1.out.setCell hw1 _).setCell hw1 _).setCell hw1 _).setCell hw1 _
  have hk2 : ∀ b, b ≠ w.heap.size + 1 → wf.heap[b]? = w1.heap[b]? := fun b hb => by
   rw [hwf]
   exact (Below.heap_setCell _ ⟨w.heap.size + 1, 3, none⟩ _ b hb).trans ((Below.heap_setCell _ ⟨w.heap.size + 1, 2, none⟩ _ b hb).trans ((Below.heap_setCell _ ⟨w.heap.size + 1, 1, none⟩ _ b hb).trans (Below.heap_setCell _ ⟨w.heap.size + 1, 0, none⟩ _ b hb)))
  have hsf : wf.heap.size = w1.heap.size := by rw [hwf]; simp [World.setCell]
  obtain ⟨s0, s1, s2, s3⟩ := blkS4 hRf
  rw [← hwf]
  refine bodyPost_ret (v := .tuple #[.agg #[(.slice none 0 0), (.slice none 0 0), .slice none 0 0, (.slice none 0 0)], .bool false]) (by simp [results, Try.results7, go_sem, s0, s1, s2, s3]) rfl ?_
  unfold FlnQ flnO flnM
  rw [HN.out]
  exact ⟨_, rfl, mod_nil _ _, hBf⟩
 | true =>
 have Hd := Lib.hid hd
 go_wp2_with fail
 refine (i_inRange param 1 4 w1).mono ?_
 rintro e w2 ⟨rfl, rfl⟩
 cases hq : inR param 1 4 with
 | false =>
  have HN := Lib.hid (flnF_no1 (d := d) (param := param) (by rw [hd, hq]; rfl))
  clear hd hq
  obtain ⟨r0, r1, r2, r3⟩ := blkS4 HR1.out
  have f0 := HR1.out.frozen 0
  have f1 := HR1.out.frozen 1
  have f2 := HR1.out.frozen 2
  have f3 := HR1.out.frozen 3
  go_wp2_with fail
  obtain ⟨wf, hwf⟩ : ∃ wf, wf = ((((w1.setCell ⟨w.heap.size + 1, 0, none⟩ (.slice none 0 0)).setCell ⟨w.heap.size + 1, 1, none⟩ (.slice none 0 0)).setCell ⟨w.heap.size + 1, 2, none⟩ (.slice none 0 0)).setCell ⟨w.heap.size + 1, 3, none⟩ (.slice none 0 0)) := ⟨_, rfl⟩
  have hRf : Blk wf (w.heap.size + 1) 31 #[(.slice none 0 0), (.slice none 0 0), .slice none 0 0, (.slice none 0 0)] := by rw [hwf]; exact blk_four HR1.out
  have hw1 : w.heap.size ≤ w.heap.size + 1 := Nat.le_succ _
  have hBf : Below w.heap.size w wf := by rw [hwf]; exact (((HB1.out.setCell hw1 _).setCell hw1 _).setCell hw1 _).setCell hw1 _
  have hk2 : ∀ b, b ≠ w.heap.size + 1 → wf.heap[b]? = w1.heap[b]? := fun b hb => by
   rw [hwf]
   exact (Below.heap_setCell _ ⟨w.heap.size + 1, 3, none⟩ _ b hb).trans ((Below.heap_setCell _ ⟨w.heap.size + 1, 2, none⟩ _ b hb).trans ((Below.heap_setCell _ ⟨w.heap.size + 1, 1, none⟩ _ b hb).trans (Below.heap_setCell _ ⟨w.heap.size + 1, 0, none⟩ _ b hb)))
  have hsf : wf.heap.size = w1.heap.size := by rw [hwf]; simp [World.setCell]
  obtain ⟨s0, s1, s2, s3⟩ := blkS4 hRf
  rw [← hwf]
  refine bodyPost_ret (v := .tuple #[.agg #[(.slice none 0 0), (.slice none 0 0), .slice none 0 0, (.slice none 0 0)], .bool false]) (by simp [results, Try.results7, go_sem, s0, s1, s2, s3]) rfl ?_
  unfold FlnQ flnO flnM
  rw [HN.out]
  exact ⟨_, rfl, mod_nil _ _, hBf⟩
 | true =>
 have H0 := Lib.hid (show (designB d && inR param 1 4) = true by rw [hd, hq]; rfl)
 obtain ⟨hn1, hn4⟩ : 1 ≤ n ∧ n ≤ 4 := by have h1 := dsn_one hd; rw [Hl.out] at h1; exact h1
 obtain ⟨kk, hkk⟩ : ∃ kk, n = kk + 1 := ⟨n - 1, by omega⟩
 have hkn : kk < n := by omega
 have Hw := Lib.hid (show wrap64 ((n : Int) - 1) = (n : Int) - 1 from IntWalk.wrap64_in _ (by omega))
 have Hnk := Lib.hid (show ((n : Int) - 1) = (kk : Int) by omega)
 have Hkk := Lib.hid hkk
 clear hkk
 obtain ⟨U2, hU2⟩ : ∃ U2, U2 = w1.alloc (.cells #[.slice A n c, .slice none 0 0, .slice none 0 0, .slice none 0 0, .slice none 0 0] 52) := ⟨_, rfl⟩
 obtain ⟨gf, hgf⟩ : ∃ g, g = w1.heap.size := ⟨_, rfl⟩
 have HF2 := Lib.hid (show FB U2 gf A n c (.slice none 0 0) (.slice none 0 0) (.slice none 0 0) by rw [hU2, hgf]; exact Blk.new _ _ _)
 have HB2 := Lib.hid (show Below w1.heap.size w1 U2 by rw [hU2]; exact (Below.refl _ _).alloc (Nat.le_refl _) _)
 have HD2 := Lib.hid (HD1.out.below HB2.out HD1.out.lt)
 have HR2 := Lib.hid (HR1.out.below HB2.out HR1.out.lt)
 have HBw2 := Lib.hid (HB1.out.trans (HB2.out.mono (by omega)))
 have hg1 : w1.heap.size ≤ gf := by omega
 have hg2 : gf < U2.heap.size := HF2.out.lt
 clear hd hq
 obtain ⟨y0, y1⟩ := And.intro (blkS1 HD1.out) (blkS1 HD2.out)
 go_upto_region 4 with fail
 rw [← hU2, ← hgf]
 clear hU2 hgf y0
 have hw := Hw.out
 go_wp2_with fail
 clear hw y1
 rw [Hnk.out]
 have HA := Lib.hid (i_flAdd Hd.out Hl.out n kk hkn hkn param [] none 0 0 true U2 S A c w1.heap.size gf _ _ _ ([], [], []) (Hr.out.under hS HBw2.out) hm (fun b hb => by have := hS b hb; omega) (by omega) hg1 HF2.out (FlS.nil _ _) ⟨by simp, by simp, by simp, fun _ h => by simp at h⟩ (World.ownsRow_nil _ _ _ _) (fun i hi => by simp at hi) (fun h => by cases h))
 refine HA.out.mono ?_
 rintro e w3 ⟨hc3, hm3⟩
 have zz3 := hc3.size
 have HB3 := Lib.hid (HBw2.out.trans ((hc3.below (by omega) (fun b hb => hb.elim)).mono (by omega)))
 have HR3 := Lib.hid (hc3.blk HR2.out (by decide) (fun h => h))
 clear hc3 HA
 have he : addF d n kk param [] (!true) ([], [], []) = addF d d.length (d.length - 1) param [] false ([], [], []) := by rw [Hl.out, show n - 1 = kk by have := Hkk.out; omega]; rfl
 rw [he] at hm3
 clear he
 cases hA : addF d d.length (d.length - 1) param [] false ([], [], []) with
 | none =>
  rw [hA] at hm3
  subst hm3
  have HN := Lib.hid (flnF_no2 hA)
  clear hA
  obtain ⟨r0, r1, r2, r3⟩ := blkS4 HR3.out
  have f0 := HR3.out.frozen 0
  have f1 := HR3.out.frozen 1
  have f2 := HR3.out.frozen 2
  have f3 := HR3.out.frozen 3
  go_wp2_with fail
  obtain ⟨wf, hwf⟩ : ∃ wf, wf = ((((w3.setCell ⟨w.heap.size + 1, 0, none⟩ (.slice none 0 0)).setCell ⟨w.heap.size + 1, 1, none⟩ (.slice none 0 0)).setCell ⟨w.heap.size + 1, 2, none⟩ (.slice none 0 0)).setCell ⟨w.heap.size + 1, 3, none⟩ (.slice none 0 0)) := ⟨_, rfl⟩
  have hRf : Blk wf (w.heap.size + 1) 31 #[(.slice none 0 0), (.slice none 0 0), .slice none 0 0, (.slice none 0 0)] := by rw [hwf]; exact blk_four HR3.out
  have hw1 : w.heap.size ≤ w.heap.size + 1 := Nat.le_succ _
  have hBf : Below w.heap.size w wf := by rw [hwf]; exact (((HB3.out.setCell hw1 _).setCell hw1 _).setCell hw1 _).setCell hw1 _
  have hk2 : ∀ b, b ≠ w.heap.size + 1 → wf.heap[b]? = w3.heap[b]? := fun b hb => by
   rw [hwf]
   exact (Below.heap_setCell _ ⟨w.heap.size + 1, 3, none⟩ _ b hb).trans ((Below.heap_setCell _ ⟨w.heap.size + 1, 2, none⟩ _ b hb).trans ((Below.heap_setCell _ ⟨w.heap.size + 1, 1, none⟩ _ b hb).trans (Below.heap_setCell _ ⟨w.heap.size + 1, 0, none⟩ _ b hb)))
  have hsf : wf.heap.size = w3.heap.size := by rw [hwf]; simp [World.setCell]
  obtain ⟨s0, s1, s2, s3⟩ := blkS4 hRf
  rw [← hwf]
  refine bodyPost_ret (v := .tuple #[.agg #[(.slice none 0 0), (.slice none 0 0), .slice none 0 0, (.slice none 0 0)], .bool false]) (by simp [results, Try.results7, go_sem, s0, s1, s2, s3]) rfl ?_
  unfold FlnQ flnO flnM
  rw [HN.out]
  exact ⟨_, rfl, mod_nil _ _, hBf⟩
 | some g =>
  rw [hA] at hm3
  obtain ⟨rfl, hgz, v0, v1, v3, hfb, hfs⟩ := hm3
  obtain ⟨p0, t0, rfl, _, _, _⟩ := own_form hfs.s0
  obtain ⟨p3, t3, rfl, _, _, _⟩ := own_form hfs.s3
  obtain ⟨p1, t1, rfl⟩ : ∃ p1 t1, v1 = .slice p1 g.2.1.length t1 := by
   obtain ⟨R, xs, h1⟩ := hfs.s1
   have h2 := h1.own
   rw [List.length_map] at h2
   obtain ⟨a, c, h, _⟩ := own_form h2
   exact ⟨a, c, h⟩
  have hq := mod_sep (m := flatF g) hfs (InS.nil _ _) (by have := hgz.l0; unfold maxLen flatF; simp only; omega) (by have := hgz.l1; unfold maxLen flatF; simp only; omega) (by unfold flatF; exact Nat.zero_le _) (by have := hgz.l2; unfold maxLen flatF; simp only; omega)
  have HQ := Lib.hid hq
  have HF3 := Lib.hid hfb
  have Hgz := Lib.hid hgz
  obtain ⟨y0, y1, y2, y3, y4⟩ := blkS5 HF3.out
  clear hfb hfs hq hgz
  go_wp2_with fail
  refine (i_FlatOk (flatF_sz Hgz.out) HQ.out.r (fun b hb => hb.2)).mono ?_
  rintro e w4 ⟨rfl, hb4⟩
  have zz4 := hb4.size
  have HB4 := Lib.hid (HB3.out.trans (hb4.mono (by omega)))
  have HR4 := Lib.hid (HR3.out.below hb4 HR3.out.lt)
  have HF4 := Lib.hid (HF3.out.below hb4 HF3.out.lt)
  have HQ4 := Lib.hid (QModule.keep HQ.out (w' := w4) (fun b hb => hb4.block b hb.2))
  clear hb4 y0 y1 y2 y3 y4
  cases hf : flatB (flatF g) with
  | false =>
   have HN := Lib.hid (flnF_no3 hA hf)
   clear hA hf
   obtain ⟨r0, r1, r2, r3⟩ := blkS4 HR4.out
   have f0 := HR4.out.frozen 0
   have f1 := HR4.out.frozen 1
   have f2 := HR4.out.frozen 2
   have f3 := HR4.out.frozen 3
   go_wp2_with fail
   obtain ⟨wf, hwf⟩ : ∃ wf, wf = ((((w4.setCell ⟨w.heap.size + 1, 0, none⟩ (.slice none 0 0)).setCell ⟨w.heap.size + 1, 1, none⟩ (.slice none 0 0)).setCell ⟨w.heap.size + 1, 2, none⟩ (.slice none 0 0)).setCell ⟨w.heap.size + 1, 3, none⟩ (.slice none 0 0)) := ⟨_, rfl⟩
   have hRf : Blk wf (w.heap.size + 1) 31 #[(.slice none 0 0), (.slice none 0 0), .slice none 0 0, (.slice none 0 0)] := by rw [hwf]; exact blk_four HR4.out
   have hw1 : w.heap.size ≤ w.heap.size + 1 := Nat.le_succ _
   have hBf : Below w.heap.size w wf := by rw [hwf]; exact (((HB4.out.setCell hw1 _).setCell hw1 _).setCell hw1 _).setCell hw1 _
   have hk2 : ∀ b, b ≠ w.heap.size + 1 → wf.heap[b]? = w4.heap[b]? := fun b hb => by
    rw [hwf]
    exact (Below.heap_setCell _ ⟨w.heap.size + 1, 3, none⟩ _ b hb).trans ((Below.heap_setCell _ ⟨w.heap.size + 1, 2, none⟩ _ b hb).trans ((Below.heap_setCell _ ⟨w.heap.size + 1, 1, none⟩ _ b hb).trans (Below.heap_setCell _ ⟨w.heap.size + 1, 0, none⟩ _ b hb)))
   have hsf : wf.heap.size = w4.heap.size := by rw [hwf]; simp [World.setCell]
   obtain ⟨s0, s1, s2, s3⟩ := blkS4 hRf
   rw [← hwf]
   refine bodyPost_ret (v := .tuple #[.agg #[(.slice none 0 0), (.slice none 0 0), .slice none 0 0, (.slice none 0 0)], .bool false]) (by simp [results, Try.results7, go_sem, s0, s1, s2, s3]) rfl ?_
   unfold FlnQ flnO flnM
   rw [HN.out]
   exact ⟨_, rfl, mod_nil _ _, hBf⟩
  | true =>
   have HN := Lib.hid (flnF_yes H0.out hA hf)
   clear hA hf
   obtain ⟨y0, y1, y2, y3, y4⟩ := blkS5 HF4.out
   obtain ⟨r0, r1, r2, r3⟩ := blkS4 HR4.out
   have f0 := HR4.out.frozen 0
   have f1 := HR4.out.frozen 1
   have f2 := HR4.out.frozen 2
   have f3 := HR4.out.frozen 3
   go_wp2_with fail
   obtain ⟨wf, hwf⟩ : ∃ wf, wf = ((((w4.setCell ⟨w.heap.size + 1, 0, none⟩ (.slice p0 g.1.length t0)).setCell ⟨w.heap.size + 1, 1, none⟩ (.slice p1 g.2.1.length t1)).setCell ⟨w.heap.size + 1, 2, none⟩ (.slice none 0 0)).setCell ⟨w.heap.size + 1, 3, none⟩ (.slice p3 g.2.2.length t3)) := ⟨_, rfl⟩
   have hRf : Blk wf (w.heap.size + 1) 31 #[(.slice p0 g.1.length t0), (.slice p1 g.2.1.length t1), .slice none 0 0, (.slice p3 g.2.2.length t3)] := by rw [hwf]; exact blk_four HR4.out
   have hw1 : w.heap.size ≤ w.heap.size + 1 := Nat.le_succ _
   have hBf : Below w.heap.size w wf := by rw [hwf]; exact (((HB4.out.setCell hw1 _).setCell hw1 _).setCell hw1 _).setCell hw1 _
   have hk2 : ∀ b, b ≠ w.heap.size + 1 → wf.heap[b]? = w4.heap[b]? := fun b hb => by
    rw [hwf]
    exact (Below.heap_setCell _ ⟨w.heap.size + 1, 3, none⟩ _ b hb).trans ((Below.heap_setCell _ ⟨w.heap.size + 1, 2, none⟩ _ b hb).trans ((Below.heap_setCell _ ⟨w.heap.size + 1, 1, none⟩ _ b hb).trans (Below.heap_setCell _ ⟨w.heap.size + 1, 0, none⟩ _ b hb)))
   have hsf : wf.heap.size = w4.heap.size := by rw [hwf]; simp [World.setCell]
   obtain ⟨s0, s1, s2, s3⟩ := blkS4 hRf
   rw [← hwf]
   refine bodyPost_ret (v := .tuple #[.agg #[(.slice p0 g.1.length t0), (.slice p1 g.2.1.length t1), .slice none 0 0, (.slice p3 g.2.2.length t3)], .bool true]) (by simp [results, Try.results7, go_sem, s0, s1, s2, s3]) rfl ?_
   unfold FlnQ flnO flnM
   rw [HN.out]
   refine ⟨_, rfl, ?_, hBf⟩
   refine QModule.mono (QModule.keep HQ4.out (w' := wf) (fun b hb => hk2 b (by omega))) (fun b hb => ⟨by omega, by omega⟩)
set_option maxRecDepth 100000 in
set_option maxHeartbeats 16000000 in
theorem s_Flatten {w : World} {S : Nat → Prop} {v : Value} {d : TDesign} (param : Int) (hz : sDesign d ≤ 1048576) (h : RDesign w S v d) (hS : ∀ b, S b → b < w.heap.size) :
  Calls Try.prog 5 #[v, .int .i64 param] w (FlnQ d param w) := by
 obtain ⟨A, c, rfl, hr, hm⟩ := dsn_open h
 obtain ⟨n, hl⟩ : ∃ n, d.length = n := ⟨_, rfl⟩
 rw [hl] at hr hm h ⊢
 have Hl := Lib.hid hl
 have Hr := Lib.hid hr
 have H := Lib.hid h
 obtain ⟨U0, hU0⟩ : ∃ U0, U0 = (w.alloc (.cells #[.slice A n c] 36)).alloc (.cells #[.slice none 0 0, .slice none 0 0, .slice none 0 0, .slice none 0 0] 31) := ⟨_, rfl⟩
 have hu0 : w.heap.size + 1 < U0.heap.size := by rw [hU0]; simp
 have HB0 := Lib.hid (show Below w.heap.size w U0 by rw [hU0]; exact ((Below.refl _ _).alloc (Nat.le_refl _) _).alloc (by simp) _)
 have HXD := Lib.hid (show Blk U0 w.heap.size 36 #[.slice A n c] by rw [hU0]; exact (Blk.new _ _ _).alloc _)
 have HXR := Lib.hid (show Blk U0 (w.heap.size + 1) 31 #[.slice none 0 0, .slice none 0 0, .slice none 0 0, .slice none 0 0] by rw [hU0]; exact blk_new_at (by simp))
 have HU0 := Lib.hid hU0
 clear hl hr h hU0
 go_enter Try.func5, Try.ntmps5
 go_wp2_with fail
 rw [← HU0.out]
 refine (s_DesignOk (by omega) (RDesign.under H.out hS HB0.out) (fun b hb => by have := hS b hb; omega)).mono ?_
 rintro e w1 ⟨rfl, hb1⟩
 have HD1 := Lib.hid (HXD.out.below hb1 HXD.out.lt)
 have HR1 := Lib.hid (HXR.out.below hb1 HXR.out.lt)
 have HB1 := Lib.hid (HB0.out.trans (hb1.mono (by omega)))
 have zz1 := hb1.size
 clear hb1
 cases hd : designB d with
 | false =>
  have HN := Lib.hid (flnF_no1 (d := d) (param := param) (by rw [hd]; rfl))
  clear hd
  obtain ⟨r0, r1, r2, r3⟩ := blkS4 HR1.out
  have f0 := HR1.out.frozen 0
  have f1 := HR1.out.frozen 1
  have f2 := HR1.out.frozen 2
  have f3 := HR1.out.frozen 3
  go_wp2_with fail
  obtain ⟨wf, hwf⟩ : ∃ wf, wf = ((((w1.setCell ⟨w.heap.size + 1, 0, none⟩ (.slice none 0 0)).setCell ⟨w.heap.size + 1, 1, none⟩ (.slice none 0 0)).setCell ⟨w.heap.size + 1, 2, none⟩ (.slice none 0 0)).setCell ⟨w.heap.size + 1, 3, none⟩ (.slice none 0 0)) := ⟨_, rfl⟩
  have hRf : Blk wf (w.heap.size + 1) 31 #[(.slice none 0 0), (.slice none 0 0), .slice none 0 0, (.slice none 0 0)] := by rw [hwf]; exact blk_four HR1.out
  have hw1 : w.heap.size ≤ w.heap.size + 1 := Nat.le_succ _
  have hBf : Below w.heap.size w wf := by rw [hwf]; exact (((HB1.out.setCell hw1 _).setCell hw1 _).setCell hw1 _).setCell hw1 _
  have hk2 : ∀ b, b ≠ w.heap.size + 1 → wf.heap[b]? = w1.heap[b]? := fun b hb => by
   rw [hwf]
   exact (Below.heap_setCell _ ⟨w.heap.size + 1, 3, none⟩ _ b hb).trans ((Below.heap_setCell _ ⟨w.heap.size + 1, 2, none⟩ _ b hb).trans ((Below.heap_setCell _ ⟨w.heap.size + 1, 1, none⟩ _ b hb).trans (Below.heap_setCell _ ⟨w.heap.size + 1, 0, none⟩ _ b hb)))
  have hsf : wf.heap.size = w1.heap.size := by rw [hwf]; simp [World.setCell]
  obtain ⟨s0, s1, s2, s3⟩ := blkS4 hRf
  rw [← hwf]
  refine bodyPost_ret (v := .tuple #[.agg #[(.slice none 0 0), (.slice none 0 0), .slice none 0 0, (.slice none 0 0)], .bool false]) (by simp [results, Try.results5, go_sem, s0, s1, s2, s3]) rfl ?_
  unfold FlnQ flnO flnM
  rw [HN.out]
  exact ⟨_, rfl, mod_nil _ _, hBf⟩
 | true =>
 have Hd := Lib.hid hd
 go_wp2_with fail
 refine (s_l01In param 1 4 w1).mono ?_
 rintro e w2 ⟨rfl, rfl⟩
 cases hq : inR param 1 4 with
 | false =>
  have HN := Lib.hid (flnF_no1 (d := d) (param := param) (by rw [hd, hq]; rfl))
  clear hd hq
  obtain ⟨r0, r1, r2, r3⟩ := blkS4 HR1.out
  have f0 := HR1.out.frozen 0
  have f1 := HR1.out.frozen 1
  have f2 := HR1.out.frozen 2
  have f3 := HR1.out.frozen 3
  go_wp2_with fail
  obtain ⟨wf, hwf⟩ : ∃ wf, wf = ((((w1.setCell ⟨w.heap.size + 1, 0, none⟩ (.slice none 0 0)).setCell ⟨w.heap.size + 1, 1, none⟩ (.slice none 0 0)).setCell ⟨w.heap.size + 1, 2, none⟩ (.slice none 0 0)).setCell ⟨w.heap.size + 1, 3, none⟩ (.slice none 0 0)) := ⟨_, rfl⟩
  have hRf : Blk wf (w.heap.size + 1) 31 #[(.slice none 0 0), (.slice none 0 0), .slice none 0 0, (.slice none 0 0)] := by rw [hwf]; exact blk_four HR1.out
  have hw1 : w.heap.size ≤ w.heap.size + 1 := Nat.le_succ _
  have hBf : Below w.heap.size w wf := by rw [hwf]; exact (((HB1.out.setCell hw1 _).setCell hw1 _).setCell hw1 _).setCell hw1 _
  have hk2 : ∀ b, b ≠ w.heap.size + 1 → wf.heap[b]? = w1.heap[b]? := fun b hb => by
   rw [hwf]
   exact (Below.heap_setCell _ ⟨w.heap.size + 1, 3, none⟩ _ b hb).trans ((Below.heap_setCell _ ⟨w.heap.size + 1, 2, none⟩ _ b hb).trans ((Below.heap_setCell _ ⟨w.heap.size + 1, 1, none⟩ _ b hb).trans (Below.heap_setCell _ ⟨w.heap.size + 1, 0, none⟩ _ b hb)))
  have hsf : wf.heap.size = w1.heap.size := by rw [hwf]; simp [World.setCell]
  obtain ⟨s0, s1, s2, s3⟩ := blkS4 hRf
  rw [← hwf]
  refine bodyPost_ret (v := .tuple #[.agg #[(.slice none 0 0), (.slice none 0 0), .slice none 0 0, (.slice none 0 0)], .bool false]) (by simp [results, Try.results5, go_sem, s0, s1, s2, s3]) rfl ?_
  unfold FlnQ flnO flnM
  rw [HN.out]
  exact ⟨_, rfl, mod_nil _ _, hBf⟩
 | true =>
 have H0 := Lib.hid (show (designB d && inR param 1 4) = true by rw [hd, hq]; rfl)
 obtain ⟨hn1, hn4⟩ : 1 ≤ n ∧ n ≤ 4 := by have h1 := dsn_one hd; rw [Hl.out] at h1; exact h1
 obtain ⟨kk, hkk⟩ : ∃ kk, n = kk + 1 := ⟨n - 1, by omega⟩
 have hkn : kk < n := by omega
 have Hw := Lib.hid (show wrap64 ((n : Int) - 1) = (n : Int) - 1 from IntWalk.wrap64_in _ (by omega))
 have Hnk := Lib.hid (show ((n : Int) - 1) = (kk : Int) by omega)
 have Hkk := Lib.hid hkk
 clear hkk
 obtain ⟨U2, hU2⟩ : ∃ U2, U2 = w1.alloc (.cells #[] 3) := ⟨_, rfl⟩
 have HE2 := Lib.hid (show U2.ownsRow w1.heap.size 3 1 (.slice (some ⟨w1.heap.size, 0, none⟩) 0 0) 0 (ints []) by rw [hU2]; exact World.ownsRow_made (base := w1.heap.size) (size := 1) (e := 3) w1 #[] 0 (Nat.le_refl _) (by unfold maxLen; omega) rfl)
 have HB2 := Lib.hid (show Below w1.heap.size w1 U2 by rw [hU2]; exact (Below.refl _ _).alloc (Nat.le_refl _) _)
 have HR2 := Lib.hid (HR1.out.below HB2.out HR1.out.lt)
 have HBw2 := Lib.hid (HB1.out.trans (HB2.out.mono (by omega)))
 have hg2 : w1.heap.size ≤ U2.heap.size := HB2.out.size
 have HU2 := Lib.hid hU2
 clear hd hq hU2
 have y0 := blkS1 HD1.out
 have hw := Hw.out
 go_wp2_with fail
 rw [← HU2.out]
 clear hw y0
 rw [Hnk.out]
 have HA := Lib.hid (s_flAdd Hd.out Hl.out n kk hkn hkn param [] (some ⟨w1.heap.size, 0, none⟩) 0 0 false U2 S A c w1.heap.size _ _ _ ([], [], []) (Hr.out.under hS HBw2.out) hm (fun b hb => by have := hS b hb; omega) hg2 (FlS.nil _ _) ⟨by simp, by simp, by simp, fun _ h => by simp at h⟩ (own_mono HE2.out (Nat.zero_le _)) (fun i hi => by simp at hi) (fun h => by cases h))
 refine HA.out.mono ?_
 rintro e w3 ⟨hc3, hm3⟩
 have zz3 := hc3.size
 have HB3 := Lib.hid (HBw2.out.trans ((hc3.below (by omega) (fun b hb => hb.elim)).mono (by omega)))
 have HR3 := Lib.hid (hc3.blk HR2.out (by decide) (fun h => h))
 clear hc3 HA
 have he : addF d n kk param [] false ([], [], []) = addF d d.length (d.length - 1) param [] false ([], [], []) := by rw [Hl.out, show n - 1 = kk by have := Hkk.out; omega]
 rw [he] at hm3
 clear he
 cases hA : addF d d.length (d.length - 1) param [] false ([], [], []) with
 | none =>
  rw [hA] at hm3
  obtain ⟨A0, m0, c0, A1, m1, c1, A3, m3, c3, rfl⟩ := hm3
  have HN := Lib.hid (flnF_no2 hA)
  obtain ⟨w5, hw5⟩ : ∃ w5, w5 = w3.alloc (.cells #[.slice A0 m0 c0, .slice A1 m1 c1, .slice none 0 0, .slice A3 m3 c3] 31) := ⟨_, rfl⟩
  have HR5 := Lib.hid (show Blk w5 (w.heap.size + 1) 31 #[.slice none 0 0, .slice none 0 0, .slice none 0 0, .slice none 0 0] by rw [hw5]; exact HR3.out.alloc _)
  have HB5 := Lib.hid (show Below w.heap.size w w5 by rw [hw5]; exact HB3.out.alloc (by omega) _)
  clear hA
  go_upto_region 5 with fail
  rw [← hw5]
  clear hw5
  obtain ⟨r0, r1, r2, r3⟩ := blkS4 HR5.out
  have f0 := HR5.out.frozen 0
  have f1 := HR5.out.frozen 1
  have f2 := HR5.out.frozen 2
  have f3 := HR5.out.frozen 3
  go_wp2_with fail
  obtain ⟨wf, hwf⟩ : ∃ wf, wf = ((((w5.setCell ⟨w.heap.size + 1, 0, none⟩ (.slice none 0 0)).setCell ⟨w.heap.size + 1, 1, none⟩ (.slice none 0 0)).setCell ⟨w.heap.size + 1, 2, none⟩ (.slice none 0 0)).setCell ⟨w.heap.size + 1, 3, none⟩ (.slice none 0 0)) := ⟨_, rfl⟩
  have hRf : Blk wf (w.heap.size + 1) 31 #[(.slice none 0 0), (.slice none 0 0), .slice none 0 0, (.slice none 0 0)] := by rw [hwf]; exact blk_four HR5.out
  have hw1 : w.heap.size ≤ w.heap.size + 1 := Nat.le_succ _
  have hBf : Below w.heap.size w wf := by rw [hwf]; exact (((HB5.out.setCell hw1 _).setCell hw1 _).setCell hw1 _).setCell hw1 _
  have hk2 : ∀ b, b ≠ w.heap.size + 1 → wf.heap[b]? = w5.heap[b]? := fun b hb => by
   rw [hwf]
   exact (Below.heap_setCell _ ⟨w.heap.size + 1, 3, none⟩ _ b hb).trans ((Below.heap_setCell _ ⟨w.heap.size + 1, 2, none⟩ _ b hb).trans ((Below.heap_setCell _ ⟨w.heap.size + 1, 1, none⟩ _ b hb).trans (Below.heap_setCell _ ⟨w.heap.size + 1, 0, none⟩ _ b hb)))
  have hsf : wf.heap.size = w5.heap.size := by rw [hwf]; simp [World.setCell]
  obtain ⟨s0, s1, s2, s3⟩ := blkS4 hRf
  rw [← hwf]
  refine bodyPost_ret (v := .tuple #[.agg #[(.slice none 0 0), (.slice none 0 0), .slice none 0 0, (.slice none 0 0)], .bool false]) (by simp [results, Try.results5, go_sem, s0, s1, s2, s3]) rfl ?_
  unfold FlnQ flnO flnM
  rw [HN.out]
  exact ⟨_, rfl, mod_nil _ _, hBf⟩
 | some g =>
  rw [hA] at hm3
  obtain ⟨v0, v1, v3, rfl, hgz, hfs⟩ := hm3
  obtain ⟨p0, t0, rfl, _, _, _⟩ := own_form hfs.s0
  obtain ⟨p3, t3, rfl, _, _, _⟩ := own_form hfs.s3
  obtain ⟨p1, t1, rfl⟩ : ∃ p1 t1, v1 = .slice p1 g.2.1.length t1 := by
   obtain ⟨R, xs, h1⟩ := hfs.s1
   have h2 := h1.own
   rw [List.length_map] at h2
   obtain ⟨a, c, h, _⟩ := own_form h2
   exact ⟨a, c, h⟩
  obtain ⟨w5, hw5⟩ : ∃ w5, w5 = w3.alloc (.cells #[.slice p0 g.1.length t0, .slice p1 g.2.1.length t1, .slice none 0 0, .slice p3 g.2.2.length t3] 31) := ⟨_, rfl⟩
  have HR5 := Lib.hid (show Blk w5 (w.heap.size + 1) 31 #[.slice none 0 0, .slice none 0 0, .slice none 0 0, .slice none 0 0] by rw [hw5]; exact HR3.out.alloc _)
  have HB5 := Lib.hid (show Below w.heap.size w w5 by rw [hw5]; exact HB3.out.alloc (by omega) _)
  have HX5 := Lib.hid (show Blk w5 w3.heap.size 31 #[.slice p0 g.1.length t0, .slice p1 g.2.1.length t1, .slice none 0 0, .slice p3 g.2.2.length t3] by rw [hw5]; exact Blk.new _ _ _)
  have hfs5 : FlS w5 w1.heap.size (.slice p0 g.1.length t0) (.slice p1 g.2.1.length t1) (.slice p3 g.2.2.length t3) g.1 g.2.1 g.2.2 := by rw [hw5]; exact hfs.alloc _
  have zz5 : w3.heap.size < w5.heap.size := HX5.out.lt
  have hq := mod_sep (m := flatF g) hfs5 (InS.nil _ _) (by have := hgz.l0; unfold maxLen flatF; simp only; omega) (by have := hgz.l1; unfold maxLen flatF; simp only; omega) (by unfold flatF; exact Nat.zero_le _) (by have := hgz.l2; unfold maxLen flatF; simp only; omega)
  have HQ := Lib.hid hq
  have Hgz := Lib.hid hgz
  obtain ⟨y0, y1, y2, y3⟩ := blkS4 HX5.out
  clear hfs hq hgz hfs5
  go_upto_region 4 with fail
  rw [← hw5]
  clear hw5
  go_wp2_with fail
  refine (s_FlatOk (flatF_sz Hgz.out) HQ.out.r (fun b hb => hb.2)).mono ?_
  rintro e w4 ⟨rfl, hb4⟩
  have zz4 := hb4.size
  have HB4 := Lib.hid (HB5.out.trans (hb4.mono (by omega)))
  have HR4 := Lib.hid (HR5.out.below hb4 HR5.out.lt)
  have HX4 := Lib.hid (HX5.out.below hb4 HX5.out.lt)
  have HQ4 := Lib.hid (QModule.keep HQ.out (w' := w4) (fun b hb => hb4.block b hb.2))
  clear hb4 y0 y1 y2 y3
  cases hf : flatB (flatF g) with
  | false =>
   have HN := Lib.hid (flnF_no3 hA hf)
   clear hA hf
   obtain ⟨r0, r1, r2, r3⟩ := blkS4 HR4.out
   have f0 := HR4.out.frozen 0
   have f1 := HR4.out.frozen 1
   have f2 := HR4.out.frozen 2
   have f3 := HR4.out.frozen 3
   go_wp2_with fail
   obtain ⟨wf, hwf⟩ : ∃ wf, wf = ((((w4.setCell ⟨w.heap.size + 1, 0, none⟩ (.slice none 0 0)).setCell ⟨w.heap.size + 1, 1, none⟩ (.slice none 0 0)).setCell ⟨w.heap.size + 1, 2, none⟩ (.slice none 0 0)).setCell ⟨w.heap.size + 1, 3, none⟩ (.slice none 0 0)) := ⟨_, rfl⟩
   have hRf : Blk wf (w.heap.size + 1) 31 #[(.slice none 0 0), (.slice none 0 0), .slice none 0 0, (.slice none 0 0)] := by rw [hwf]; exact blk_four HR4.out
   have hw1 : w.heap.size ≤ w.heap.size + 1 := Nat.le_succ _
   have hBf : Below w.heap.size w wf := by rw [hwf]; exact (((HB4.out.setCell hw1 _).setCell hw1 _).setCell hw1 _).setCell hw1 _
   have hk2 : ∀ b, b ≠ w.heap.size + 1 → wf.heap[b]? = w4.heap[b]? := fun b hb => by
    rw [hwf]
    exact (Below.heap_setCell _ ⟨w.heap.size + 1, 3, none⟩ _ b hb).trans ((Below.heap_setCell _ ⟨w.heap.size + 1, 2, none⟩ _ b hb).trans ((Below.heap_setCell _ ⟨w.heap.size + 1, 1, none⟩ _ b hb).trans (Below.heap_setCell _ ⟨w.heap.size + 1, 0, none⟩ _ b hb)))
   have hsf : wf.heap.size = w4.heap.size := by rw [hwf]; simp [World.setCell]
   obtain ⟨s0, s1, s2, s3⟩ := blkS4 hRf
   rw [← hwf]
   refine bodyPost_ret (v := .tuple #[.agg #[(.slice none 0 0), (.slice none 0 0), .slice none 0 0, (.slice none 0 0)], .bool false]) (by simp [results, Try.results5, go_sem, s0, s1, s2, s3]) rfl ?_
   unfold FlnQ flnO flnM
   rw [HN.out]
   exact ⟨_, rfl, mod_nil _ _, hBf⟩
  | true =>
   have HN := Lib.hid (flnF_yes H0.out hA hf)
   clear hA hf
   obtain ⟨y0, y1, y2, y3⟩ := blkS4 HX4.out
   obtain ⟨r0, r1, r2, r3⟩ := blkS4 HR4.out
   have f0 := HR4.out.frozen 0
   have f1 := HR4.out.frozen 1
   have f2 := HR4.out.frozen 2
   have f3 := HR4.out.frozen 3
   go_wp2_with fail
   obtain ⟨wf, hwf⟩ : ∃ wf, wf = ((((w4.setCell ⟨w.heap.size + 1, 0, none⟩ (.slice p0 g.1.length t0)).setCell ⟨w.heap.size + 1, 1, none⟩ (.slice p1 g.2.1.length t1)).setCell ⟨w.heap.size + 1, 2, none⟩ (.slice none 0 0)).setCell ⟨w.heap.size + 1, 3, none⟩ (.slice p3 g.2.2.length t3)) := ⟨_, rfl⟩
   have hRf : Blk wf (w.heap.size + 1) 31 #[(.slice p0 g.1.length t0), (.slice p1 g.2.1.length t1), .slice none 0 0, (.slice p3 g.2.2.length t3)] := by rw [hwf]; exact blk_four HR4.out
   have hw1 : w.heap.size ≤ w.heap.size + 1 := Nat.le_succ _
   have hBf : Below w.heap.size w wf := by rw [hwf]; exact (((HB4.out.setCell hw1 _).setCell hw1 _).setCell hw1 _).setCell hw1 _
   have hk2 : ∀ b, b ≠ w.heap.size + 1 → wf.heap[b]? = w4.heap[b]? := fun b hb => by
    rw [hwf]
    exact (Below.heap_setCell _ ⟨w.heap.size + 1, 3, none⟩ _ b hb).trans ((Below.heap_setCell _ ⟨w.heap.size + 1, 2, none⟩ _ b hb).trans ((Below.heap_setCell _ ⟨w.heap.size + 1, 1, none⟩ _ b hb).trans (Below.heap_setCell _ ⟨w.heap.size + 1, 0, none⟩ _ b hb)))
   have hsf : wf.heap.size = w4.heap.size := by rw [hwf]; simp [World.setCell]
   obtain ⟨s0, s1, s2, s3⟩ := blkS4 hRf
   rw [← hwf]
   refine bodyPost_ret (v := .tuple #[.agg #[(.slice p0 g.1.length t0), (.slice p1 g.2.1.length t1), .slice none 0 0, (.slice p3 g.2.2.length t3)], .bool true]) (by simp [results, Try.results5, go_sem, s0, s1, s2, s3]) rfl ?_
   unfold FlnQ flnO flnM
   rw [HN.out]
   refine ⟨_, rfl, ?_, hBf⟩
   refine QModule.mono (QModule.keep HQ4.out (w' := wf) (fun b hb => hk2 b (by omega))) (fun b hb => ⟨by omega, by omega⟩)
end Go.Proofs.Ytlgbdpcobbbglaa

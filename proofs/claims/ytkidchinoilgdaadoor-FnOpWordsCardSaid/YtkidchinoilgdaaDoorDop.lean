/- Contracts: a drawn operator. -/
import Derived.Test.YtkidchinoilgdaaDoorPopI
import Derived.Test.YtkidchinoilgdaaDoorDcu
import Derived.Outline
namespace Go.Proofs.YtkidchinoilgdaaDoor
open Go.RowKit

theorem cur_set {B g : Nat} {w : World} (h : Cur B g w) {p : Addr} (hp : g ≠ p.block) (hB : B ≤ p.block) (u : Value) : Cur B g (w.setCell p u) := by
 obtain ⟨A, n, c, l, i, hh, hB0, hBg, hr, hin, hn⟩ := h
 exact ⟨A, n, c, l, i, hh, hB0.far hp u, hBg, hr.setCell hB u, hin, hn⟩
-- a draw is answered in world wd: hc hg
-- facts for the next steps in world wc
-- field $1 of the operator is set to $2 (world wd, then wc)
-- A is drawn below $1
-- whether a field is drawn
set_option maxRecDepth 100000 in
set_option maxHeartbeats 16000000 in
theorem s_DrawOpText {w : World} {A : Option Addr} {n c : Nat} {l : List UInt8} (hr : Reads w w.heap.size 1 A n (bys l)) (hn : n ≤ 1048576) : Calls Tryd.prog 17 #[.slice A n c] w fun e w' => ∃ k a b : Int, e = .returned (.agg #[.int .i64 k, .int .i64 a, .int .i64 b]) ∧ Below w.heap.size w w' := by
 go_enter Tryd.func17, Tryd.ntmps17
 go_wp2_with fail
 obtain ⟨U, hU⟩ : ∃ U, U = w.alloc (.cells #[.int .i64 0, .int .i64 0, .int .i64 0] 26) := ⟨_, rfl⟩
 have HR := Lib.hid (show Blk U w.heap.size 26 #[.int .i64 0, .int .i64 0, .int .i64 0] by rw [hU]; exact Blk.new _ _ _)
 have HB := Lib.hid (show Below w.heap.size w U by rw [hU]; exact (Below.refl _ _).alloc (Nat.le_refl _) _)
 have hrU : Reads U U.heap.size 1 A n (bys l) := by rw [hU]; exact (hr.alloc (Nat.le_refl _) _).more (by simp)
 have hzu : w.heap.size < U.heap.size := HR.out.lt
 rw [← hU]
 clear hU hr
 refine (s_New hrU hn).mono ?_
 rintro e w1 ⟨g, rfl, hc, hb⟩
 have HR := Lib.hid (HR.out.below hb hzu)
 have HB := Lib.hid (HB.out.trans (hb.mono (by omega)))
 have HC := Lib.hid hc
 have hgl := hc.lt
 have hgB := hc.le
 clear hc hb hrU
 go_wp2_with fail
 refine (s_Below 15 HC.out).mono ?_
 rintro e w2 ⟨x, rfl, hx, hc, hg⟩
 obtain ⟨hx0, hx1⟩ := hx.1 (by omega)
 have HR := Lib.hid (HR.out.grown hg (by simp; omega))
 have HB := Lib.hid (below_curL' HB.out HC.out (by omega) hg)
 have hgl2 := hc.lt
 have HC := Lib.hid hc
 clear hx hc hg
 obtain ⟨k, hk⟩ : ∃ k, x - 1 = k := ⟨_, rfl⟩
 obtain ⟨a, ha⟩ : ∃ a : Int, a = 0 := ⟨_, rfl⟩
 obtain ⟨b, hb⟩ : ∃ b : Int, b = 0 := ⟨_, rfl⟩
 obtain ⟨wc, hwc⟩ : ∃ x, x = w2.alloc (.cells #[.int .i64 k, .int .i64 0, .int .i64 0] 26) := ⟨_, rfl⟩
 obtain ⟨go, hgo⟩ : ∃ x, x = w2.heap.size := ⟨_, rfl⟩
 have HO := Lib.hid (show Blk wc go 26 #[.int .i64 k, .int .i64 a, .int .i64 b] by rw [hwc, hgo, ha, hb]; exact Blk.new _ _ _)
 have HR := Lib.hid (show Blk wc w.heap.size 26 #[.int .i64 0, .int .i64 0, .int .i64 0] by rw [hwc]; exact HR.out.alloc _)
 have HB := Lib.hid (show Below w.heap.size w wc by rw [hwc]; exact HB.out.alloc HB.out.size _)
 have HC := Lib.hid (show Cur U.heap.size g wc by rw [hwc]; exact HC.out.alloc _)
 have hgo1 : g < go := by omega
 have hgo2 : w.heap.size < go := by omega
 have Hwc := Lib.hid hwc
 have HGo := Lib.hid hgo
 obtain ⟨q0, q1, q2⟩ := bk3 (Blk.new w2 26 #[.int .i64 k, .int .i64 0, .int .i64 0])
 clear hwc hgo ha hb
 by_cases k0 : k = 0
 ·rw [k0] at hk q0 q1 q2
  go_wp2_with fail
  clear q0 q1 q2
  have hn := Hwc.out
  rw [k0] at hn
  rw [← hn, ← HGo.out]
  clear hn
  refine (s_Place 16 (by omega) HC.out).mono ?_
  rintro e wd ⟨a, rfl, _, hc, hg⟩
  have HO := Lib.hid (HO.out.grown hg (by simp; omega))
  have HR := Lib.hid (HR.out.grown hg (by simp; omega))
  have HB := Lib.hid (below_curL' HB.out HC.out (by omega) hg)
  have HC := Lib.hid hc
  clear hc hg
  obtain ⟨y0, y1, y2⟩ := bk3 HO.out
  have fo := (HO.out).frozen 1
  obtain ⟨wc, hwc⟩ : ∃ x, x = wd.setCell ⟨go, 1, none⟩ (.int .i64 (a)) := ⟨_, rfl⟩
  have HO := Lib.hid (show Blk wc go 26 #[.int .i64 k, .int .i64 a, .int .i64 b] by rw [hwc]; exact HO.out.set_ 1 _)
  have HR := Lib.hid (show Blk wc w.heap.size 26 #[.int .i64 0, .int .i64 0, .int .i64 0] by rw [hwc]; exact HR.out.far (p := ⟨go, 1, none⟩) (by show w.heap.size ≠ go; omega) _)
  have HB := Lib.hid (show Below w.heap.size w wc by rw [hwc]; exact HB.out.setCell (by show w.heap.size ≤ go; omega) _)
  have HC := Lib.hid (show Cur U.heap.size g wc by rw [hwc]; exact cur_set HC.out (by show g ≠ go; omega) (by show U.heap.size ≤ go; omega) _)
  obtain ⟨z0, z1, z2⟩ := bk3 HO.out
  obtain ⟨r0, r1, r2⟩ := bk3 HR.out
  have f0 := (HR.out).frozen 0
  have f1 := (HR.out).frozen 1
  have f2 := (HR.out).frozen 2
  rw [hwc] at z0 z1 z2 r0 r1 r2 f0 f1 f2
  go_wp2_with fail
  rw [← hwc]
  clear hwc y0 y1 y2 fo z0 z1 z2 r0 r1 r2 f0 f1 f2
  obtain ⟨wf, hwf⟩ : ∃ wf, wf = (((wc.setCell ⟨w.heap.size, 0, none⟩ (.int .i64 k)).setCell ⟨w.heap.size, 1, none⟩ (.int .i64 a)).setCell ⟨w.heap.size, 2, none⟩ (.int .i64 b)) := ⟨_, rfl⟩
  have hRf : Blk wf w.heap.size 26 #[.int .i64 k, .int .i64 a, .int .i64 b] := by rw [hwf]; exact ((HR.out.set_ 0 _).set_ 1 _).set_ 2 _
  have hBf : Below w.heap.size w wf := by rw [hwf]; exact ((HB.out.setCell (Nat.le_refl _) _).setCell (Nat.le_refl _) _).setCell (Nat.le_refl _) _
  obtain ⟨s0, s1, s2⟩ := bk3 hRf
  rw [k0] at hwf
  rw [← hwf]
  exact bodyPost_ret (v := .agg #[.int .i64 k, .int .i64 a, .int .i64 b]) (by simp [results, Tryd.results17, go_sem, s0, s1, s2]) rfl ⟨k, a, b, rfl, hBf⟩
 have k0' : (k == 0) = false := by simpa using k0
 go_wp2_with fail
 clear q0 q1 q2
 have hn := Hwc.out
 skip
 rw [← hn, ← HGo.out]
 clear hn
 refine (s_Once 8 HC.out).mono ?_
 rintro e wd ⟨o, rfl, hc, hg⟩
 have HO := Lib.hid (HO.out.grown hg (by simp; omega))
 have HR := Lib.hid (HR.out.grown hg (by simp; omega))
 have HB := Lib.hid (below_curL' HB.out HC.out (by omega) hg)
 have HC := Lib.hid hc
 clear hc hg
 obtain ⟨wc, hwc⟩ : ∃ x, x = wd := ⟨_, rfl⟩
 subst hwc
 by_cases k2 : k = 2
 ·cases o
  ·obtain ⟨y0, y1, y2⟩ := bk3 HO.out
   obtain ⟨r0, r1, r2⟩ := bk3 HR.out
   have f0 := (HR.out).frozen 0
   have f1 := (HR.out).frozen 1
   have f2 := (HR.out).frozen 2
   go_wp2_with fail
   clear y0 y1 y2 r0 r1 r2 f0 f1 f2
   refine (s_Place 30 (by omega) HC.out).mono ?_
   rintro e wd ⟨a, rfl, _, hc, hg⟩
   have HO := Lib.hid (HO.out.grown hg (by simp; omega))
   have HR := Lib.hid (HR.out.grown hg (by simp; omega))
   have HB := Lib.hid (below_curL' HB.out HC.out (by omega) hg)
   have HC := Lib.hid hc
   clear hc hg
   obtain ⟨y0, y1, y2⟩ := bk3 HO.out
   have fo := (HO.out).frozen 1
   obtain ⟨wc, hwc⟩ : ∃ x, x = wd.setCell ⟨go, 1, none⟩ (.int .i64 (a)) := ⟨_, rfl⟩
   have HO := Lib.hid (show Blk wc go 26 #[.int .i64 k, .int .i64 a, .int .i64 b] by rw [hwc]; exact HO.out.set_ 1 _)
   have HR := Lib.hid (show Blk wc w.heap.size 26 #[.int .i64 0, .int .i64 0, .int .i64 0] by rw [hwc]; exact HR.out.far (p := ⟨go, 1, none⟩) (by show w.heap.size ≠ go; omega) _)
   have HB := Lib.hid (show Below w.heap.size w wc by rw [hwc]; exact HB.out.setCell (by show w.heap.size ≤ go; omega) _)
   have HC := Lib.hid (show Cur U.heap.size g wc by rw [hwc]; exact cur_set HC.out (by show g ≠ go; omega) (by show U.heap.size ≤ go; omega) _)
   obtain ⟨z0, z1, z2⟩ := bk3 HO.out
   obtain ⟨r0, r1, r2⟩ := bk3 HR.out
   have f0 := (HR.out).frozen 0
   have f1 := (HR.out).frozen 1
   have f2 := (HR.out).frozen 2
   rw [hwc] at z0 z1 z2 r0 r1 r2 f0 f1 f2
   go_wp2_with fail
   rw [← hwc]
   clear hwc y0 y1 y2 fo z0 z1 z2 r0 r1 r2 f0 f1 f2
   refine (s_Once 8 HC.out).mono ?_
   rintro e wd ⟨o, rfl, hc, hg⟩
   have HO := Lib.hid (HO.out.grown hg (by simp; omega))
   have HR := Lib.hid (HR.out.grown hg (by simp; omega))
   have HB := Lib.hid (below_curL' HB.out HC.out (by omega) hg)
   have HC := Lib.hid hc
   clear hc hg
   obtain ⟨wc, hwc⟩ : ∃ x, x = wd := ⟨_, rfl⟩
   subst hwc
   cases o
   ·obtain ⟨y0, y1, y2⟩ := bk3 HO.out
    obtain ⟨r0, r1, r2⟩ := bk3 HR.out
    have f0 := (HR.out).frozen 0
    have f1 := (HR.out).frozen 1
    have f2 := (HR.out).frozen 2
    go_wp2_with fail
    clear y0 y1 y2 r0 r1 r2 f0 f1 f2
    obtain ⟨wf, hwf⟩ : ∃ wf, wf = (((wc.setCell ⟨w.heap.size, 0, none⟩ (.int .i64 k)).setCell ⟨w.heap.size, 1, none⟩ (.int .i64 a)).setCell ⟨w.heap.size, 2, none⟩ (.int .i64 b)) := ⟨_, rfl⟩
    have hRf : Blk wf w.heap.size 26 #[.int .i64 k, .int .i64 a, .int .i64 b] := by rw [hwf]; exact ((HR.out.set_ 0 _).set_ 1 _).set_ 2 _
    have hBf : Below w.heap.size w wf := by rw [hwf]; exact ((HB.out.setCell (Nat.le_refl _) _).setCell (Nat.le_refl _) _).setCell (Nat.le_refl _) _
    obtain ⟨s0, s1, s2⟩ := bk3 hRf
    rw [k2] at hwf
    rw [← hwf]
    exact bodyPost_ret (v := .agg #[.int .i64 k, .int .i64 a, .int .i64 b]) (by simp [results, Tryd.results17, go_sem, s0, s1, s2]) rfl ⟨k, a, b, rfl, hBf⟩
   ·obtain ⟨y0, y1, y2⟩ := bk3 HO.out
    obtain ⟨r0, r1, r2⟩ := bk3 HR.out
    have f0 := (HR.out).frozen 0
    have f1 := (HR.out).frozen 1
    have f2 := (HR.out).frozen 2
    go_wp2_with fail
    clear y0 y1 y2 r0 r1 r2 f0 f1 f2
    refine (s_Below 6 HC.out).mono ?_
    rintro e wd ⟨x, rfl, hx, hc, hg⟩
    obtain ⟨hx0, hx1⟩ := hx.1 (by omega)
    clear hx
    have HO := Lib.hid (HO.out.grown hg (by simp; omega))
    have HR := Lib.hid (HR.out.grown hg (by simp; omega))
    have HB := Lib.hid (below_curL' HB.out HC.out (by omega) hg)
    have HC := Lib.hid hc
    clear hc hg
    obtain ⟨b, hb⟩ : ∃ b, x - 1 = b := ⟨_, rfl⟩
    obtain ⟨y0, y1, y2⟩ := bk3 HO.out
    have fo := (HO.out).frozen 2
    obtain ⟨wc, hwc⟩ : ∃ x, x = wd.setCell ⟨go, 2, none⟩ (.int .i64 (b)) := ⟨_, rfl⟩
    have HO := Lib.hid (show Blk wc go 26 #[.int .i64 k, .int .i64 a, .int .i64 b] by rw [hwc]; exact HO.out.set_ 2 _)
    have HR := Lib.hid (show Blk wc w.heap.size 26 #[.int .i64 0, .int .i64 0, .int .i64 0] by rw [hwc]; exact HR.out.far (p := ⟨go, 2, none⟩) (by show w.heap.size ≠ go; omega) _)
    have HB := Lib.hid (show Below w.heap.size w wc by rw [hwc]; exact HB.out.setCell (by show w.heap.size ≤ go; omega) _)
    have HC := Lib.hid (show Cur U.heap.size g wc by rw [hwc]; exact cur_set HC.out (by show g ≠ go; omega) (by show U.heap.size ≤ go; omega) _)
    obtain ⟨z0, z1, z2⟩ := bk3 HO.out
    obtain ⟨r0, r1, r2⟩ := bk3 HR.out
    have f0 := (HR.out).frozen 0
    have f1 := (HR.out).frozen 1
    have f2 := (HR.out).frozen 2
    rw [hwc] at z0 z1 z2 r0 r1 r2 f0 f1 f2
    go_wp2_with fail
    rw [← hwc]
    clear hwc y0 y1 y2 fo z0 z1 z2 r0 r1 r2 f0 f1 f2
    clear hb hx0 hx1
    obtain ⟨wf, hwf⟩ : ∃ wf, wf = (((wc.setCell ⟨w.heap.size, 0, none⟩ (.int .i64 k)).setCell ⟨w.heap.size, 1, none⟩ (.int .i64 a)).setCell ⟨w.heap.size, 2, none⟩ (.int .i64 b)) := ⟨_, rfl⟩
    have hRf : Blk wf w.heap.size 26 #[.int .i64 k, .int .i64 a, .int .i64 b] := by rw [hwf]; exact ((HR.out.set_ 0 _).set_ 1 _).set_ 2 _
    have hBf : Below w.heap.size w wf := by rw [hwf]; exact ((HB.out.setCell (Nat.le_refl _) _).setCell (Nat.le_refl _) _).setCell (Nat.le_refl _) _
    obtain ⟨s0, s1, s2⟩ := bk3 hRf
    rw [k2] at hwf
    rw [← hwf]
    exact bodyPost_ret (v := .agg #[.int .i64 k, .int .i64 a, .int .i64 b]) (by simp [results, Tryd.results17, go_sem, s0, s1, s2]) rfl ⟨k, a, b, rfl, hBf⟩
  ·obtain ⟨y0, y1, y2⟩ := bk3 HO.out
   obtain ⟨r0, r1, r2⟩ := bk3 HR.out
   have f0 := (HR.out).frozen 0
   have f1 := (HR.out).frozen 1
   have f2 := (HR.out).frozen 2
   go_wp2_with fail
   clear y0 y1 y2 r0 r1 r2 f0 f1 f2
   refine (s_Place 16 (by omega) HC.out).mono ?_
   rintro e wd ⟨a, rfl, _, hc, hg⟩
   have HO := Lib.hid (HO.out.grown hg (by simp; omega))
   have HR := Lib.hid (HR.out.grown hg (by simp; omega))
   have HB := Lib.hid (below_curL' HB.out HC.out (by omega) hg)
   have HC := Lib.hid hc
   clear hc hg
   obtain ⟨y0, y1, y2⟩ := bk3 HO.out
   have fo := (HO.out).frozen 1
   obtain ⟨wc, hwc⟩ : ∃ x, x = wd.setCell ⟨go, 1, none⟩ (.int .i64 (a)) := ⟨_, rfl⟩
   have HO := Lib.hid (show Blk wc go 26 #[.int .i64 k, .int .i64 a, .int .i64 b] by rw [hwc]; exact HO.out.set_ 1 _)
   have HR := Lib.hid (show Blk wc w.heap.size 26 #[.int .i64 0, .int .i64 0, .int .i64 0] by rw [hwc]; exact HR.out.far (p := ⟨go, 1, none⟩) (by show w.heap.size ≠ go; omega) _)
   have HB := Lib.hid (show Below w.heap.size w wc by rw [hwc]; exact HB.out.setCell (by show w.heap.size ≤ go; omega) _)
   have HC := Lib.hid (show Cur U.heap.size g wc by rw [hwc]; exact cur_set HC.out (by show g ≠ go; omega) (by show U.heap.size ≤ go; omega) _)
   obtain ⟨z0, z1, z2⟩ := bk3 HO.out
   obtain ⟨r0, r1, r2⟩ := bk3 HR.out
   have f0 := (HR.out).frozen 0
   have f1 := (HR.out).frozen 1
   have f2 := (HR.out).frozen 2
   rw [hwc] at z0 z1 z2 r0 r1 r2 f0 f1 f2
   go_wp2_with fail
   rw [← hwc]
   clear hwc y0 y1 y2 fo z0 z1 z2 r0 r1 r2 f0 f1 f2
   refine (s_Place 30 (by omega) HC.out).mono ?_
   rintro e wd ⟨a, rfl, _, hc, hg⟩
   have HO := Lib.hid (HO.out.grown hg (by simp; omega))
   have HR := Lib.hid (HR.out.grown hg (by simp; omega))
   have HB := Lib.hid (below_curL' HB.out HC.out (by omega) hg)
   have HC := Lib.hid hc
   clear hc hg
   obtain ⟨y0, y1, y2⟩ := bk3 HO.out
   have fo := (HO.out).frozen 1
   obtain ⟨wc, hwc⟩ : ∃ x, x = wd.setCell ⟨go, 1, none⟩ (.int .i64 (a)) := ⟨_, rfl⟩
   have HO := Lib.hid (show Blk wc go 26 #[.int .i64 k, .int .i64 a, .int .i64 b] by rw [hwc]; exact HO.out.set_ 1 _)
   have HR := Lib.hid (show Blk wc w.heap.size 26 #[.int .i64 0, .int .i64 0, .int .i64 0] by rw [hwc]; exact HR.out.far (p := ⟨go, 1, none⟩) (by show w.heap.size ≠ go; omega) _)
   have HB := Lib.hid (show Below w.heap.size w wc by rw [hwc]; exact HB.out.setCell (by show w.heap.size ≤ go; omega) _)
   have HC := Lib.hid (show Cur U.heap.size g wc by rw [hwc]; exact cur_set HC.out (by show g ≠ go; omega) (by show U.heap.size ≤ go; omega) _)
   obtain ⟨z0, z1, z2⟩ := bk3 HO.out
   obtain ⟨r0, r1, r2⟩ := bk3 HR.out
   have f0 := (HR.out).frozen 0
   have f1 := (HR.out).frozen 1
   have f2 := (HR.out).frozen 2
   rw [hwc] at z0 z1 z2 r0 r1 r2 f0 f1 f2
   go_wp2_with fail
   rw [← hwc]
   clear hwc y0 y1 y2 fo z0 z1 z2 r0 r1 r2 f0 f1 f2
   refine (s_Once 8 HC.out).mono ?_
   rintro e wd ⟨o, rfl, hc, hg⟩
   have HO := Lib.hid (HO.out.grown hg (by simp; omega))
   have HR := Lib.hid (HR.out.grown hg (by simp; omega))
   have HB := Lib.hid (below_curL' HB.out HC.out (by omega) hg)
   have HC := Lib.hid hc
   clear hc hg
   obtain ⟨wc, hwc⟩ : ∃ x, x = wd := ⟨_, rfl⟩
   subst hwc
   cases o
   ·obtain ⟨y0, y1, y2⟩ := bk3 HO.out
    obtain ⟨r0, r1, r2⟩ := bk3 HR.out
    have f0 := (HR.out).frozen 0
    have f1 := (HR.out).frozen 1
    have f2 := (HR.out).frozen 2
    go_wp2_with fail
    clear y0 y1 y2 r0 r1 r2 f0 f1 f2
    obtain ⟨wf, hwf⟩ : ∃ wf, wf = (((wc.setCell ⟨w.heap.size, 0, none⟩ (.int .i64 k)).setCell ⟨w.heap.size, 1, none⟩ (.int .i64 a)).setCell ⟨w.heap.size, 2, none⟩ (.int .i64 b)) := ⟨_, rfl⟩
    have hRf : Blk wf w.heap.size 26 #[.int .i64 k, .int .i64 a, .int .i64 b] := by rw [hwf]; exact ((HR.out.set_ 0 _).set_ 1 _).set_ 2 _
    have hBf : Below w.heap.size w wf := by rw [hwf]; exact ((HB.out.setCell (Nat.le_refl _) _).setCell (Nat.le_refl _) _).setCell (Nat.le_refl _) _
    obtain ⟨s0, s1, s2⟩ := bk3 hRf
    rw [k2] at hwf
    rw [← hwf]
    exact bodyPost_ret (v := .agg #[.int .i64 k, .int .i64 a, .int .i64 b]) (by simp [results, Tryd.results17, go_sem, s0, s1, s2]) rfl ⟨k, a, b, rfl, hBf⟩
   ·obtain ⟨y0, y1, y2⟩ := bk3 HO.out
    obtain ⟨r0, r1, r2⟩ := bk3 HR.out
    have f0 := (HR.out).frozen 0
    have f1 := (HR.out).frozen 1
    have f2 := (HR.out).frozen 2
    go_wp2_with fail
    clear y0 y1 y2 r0 r1 r2 f0 f1 f2
    refine (s_Below 6 HC.out).mono ?_
    rintro e wd ⟨x, rfl, hx, hc, hg⟩
    obtain ⟨hx0, hx1⟩ := hx.1 (by omega)
    clear hx
    have HO := Lib.hid (HO.out.grown hg (by simp; omega))
    have HR := Lib.hid (HR.out.grown hg (by simp; omega))
    have HB := Lib.hid (below_curL' HB.out HC.out (by omega) hg)
    have HC := Lib.hid hc
    clear hc hg
    obtain ⟨b, hb⟩ : ∃ b, x - 1 = b := ⟨_, rfl⟩
    obtain ⟨y0, y1, y2⟩ := bk3 HO.out
    have fo := (HO.out).frozen 2
    obtain ⟨wc, hwc⟩ : ∃ x, x = wd.setCell ⟨go, 2, none⟩ (.int .i64 (b)) := ⟨_, rfl⟩
    have HO := Lib.hid (show Blk wc go 26 #[.int .i64 k, .int .i64 a, .int .i64 b] by rw [hwc]; exact HO.out.set_ 2 _)
    have HR := Lib.hid (show Blk wc w.heap.size 26 #[.int .i64 0, .int .i64 0, .int .i64 0] by rw [hwc]; exact HR.out.far (p := ⟨go, 2, none⟩) (by show w.heap.size ≠ go; omega) _)
    have HB := Lib.hid (show Below w.heap.size w wc by rw [hwc]; exact HB.out.setCell (by show w.heap.size ≤ go; omega) _)
    have HC := Lib.hid (show Cur U.heap.size g wc by rw [hwc]; exact cur_set HC.out (by show g ≠ go; omega) (by show U.heap.size ≤ go; omega) _)
    obtain ⟨z0, z1, z2⟩ := bk3 HO.out
    obtain ⟨r0, r1, r2⟩ := bk3 HR.out
    have f0 := (HR.out).frozen 0
    have f1 := (HR.out).frozen 1
    have f2 := (HR.out).frozen 2
    rw [hwc] at z0 z1 z2 r0 r1 r2 f0 f1 f2
    go_wp2_with fail
    rw [← hwc]
    clear hwc y0 y1 y2 fo z0 z1 z2 r0 r1 r2 f0 f1 f2
    clear hb hx0 hx1
    obtain ⟨wf, hwf⟩ : ∃ wf, wf = (((wc.setCell ⟨w.heap.size, 0, none⟩ (.int .i64 k)).setCell ⟨w.heap.size, 1, none⟩ (.int .i64 a)).setCell ⟨w.heap.size, 2, none⟩ (.int .i64 b)) := ⟨_, rfl⟩
    have hRf : Blk wf w.heap.size 26 #[.int .i64 k, .int .i64 a, .int .i64 b] := by rw [hwf]; exact ((HR.out.set_ 0 _).set_ 1 _).set_ 2 _
    have hBf : Below w.heap.size w wf := by rw [hwf]; exact ((HB.out.setCell (Nat.le_refl _) _).setCell (Nat.le_refl _) _).setCell (Nat.le_refl _) _
    obtain ⟨s0, s1, s2⟩ := bk3 hRf
    rw [k2] at hwf
    rw [← hwf]
    exact bodyPost_ret (v := .agg #[.int .i64 k, .int .i64 a, .int .i64 b]) (by simp [results, Tryd.results17, go_sem, s0, s1, s2]) rfl ⟨k, a, b, rfl, hBf⟩
 by_cases k3 : k = 3
 ·cases o
  ·obtain ⟨y0, y1, y2⟩ := bk3 HO.out
   obtain ⟨r0, r1, r2⟩ := bk3 HR.out
   have f0 := (HR.out).frozen 0
   have f1 := (HR.out).frozen 1
   have f2 := (HR.out).frozen 2
   go_wp2_with fail
   clear y0 y1 y2 r0 r1 r2 f0 f1 f2
   refine (s_Place 30 (by omega) HC.out).mono ?_
   rintro e wd ⟨a, rfl, _, hc, hg⟩
   have HO := Lib.hid (HO.out.grown hg (by simp; omega))
   have HR := Lib.hid (HR.out.grown hg (by simp; omega))
   have HB := Lib.hid (below_curL' HB.out HC.out (by omega) hg)
   have HC := Lib.hid hc
   clear hc hg
   obtain ⟨y0, y1, y2⟩ := bk3 HO.out
   have fo := (HO.out).frozen 1
   obtain ⟨wc, hwc⟩ : ∃ x, x = wd.setCell ⟨go, 1, none⟩ (.int .i64 (a)) := ⟨_, rfl⟩
   have HO := Lib.hid (show Blk wc go 26 #[.int .i64 k, .int .i64 a, .int .i64 b] by rw [hwc]; exact HO.out.set_ 1 _)
   have HR := Lib.hid (show Blk wc w.heap.size 26 #[.int .i64 0, .int .i64 0, .int .i64 0] by rw [hwc]; exact HR.out.far (p := ⟨go, 1, none⟩) (by show w.heap.size ≠ go; omega) _)
   have HB := Lib.hid (show Below w.heap.size w wc by rw [hwc]; exact HB.out.setCell (by show w.heap.size ≤ go; omega) _)
   have HC := Lib.hid (show Cur U.heap.size g wc by rw [hwc]; exact cur_set HC.out (by show g ≠ go; omega) (by show U.heap.size ≤ go; omega) _)
   obtain ⟨z0, z1, z2⟩ := bk3 HO.out
   obtain ⟨r0, r1, r2⟩ := bk3 HR.out
   have f0 := (HR.out).frozen 0
   have f1 := (HR.out).frozen 1
   have f2 := (HR.out).frozen 2
   rw [hwc] at z0 z1 z2 r0 r1 r2 f0 f1 f2
   go_wp2_with fail
   rw [← hwc]
   clear hwc y0 y1 y2 fo z0 z1 z2 r0 r1 r2 f0 f1 f2
   refine (s_Below 6 HC.out).mono ?_
   rintro e wd ⟨x, rfl, hx, hc, hg⟩
   obtain ⟨hx0, hx1⟩ := hx.1 (by omega)
   clear hx
   have HO := Lib.hid (HO.out.grown hg (by simp; omega))
   have HR := Lib.hid (HR.out.grown hg (by simp; omega))
   have HB := Lib.hid (below_curL' HB.out HC.out (by omega) hg)
   have HC := Lib.hid hc
   clear hc hg
   obtain ⟨b, hb⟩ : ∃ b, x - 1 = b := ⟨_, rfl⟩
   obtain ⟨y0, y1, y2⟩ := bk3 HO.out
   have fo := (HO.out).frozen 2
   obtain ⟨wc, hwc⟩ : ∃ x, x = wd.setCell ⟨go, 2, none⟩ (.int .i64 (b)) := ⟨_, rfl⟩
   have HO := Lib.hid (show Blk wc go 26 #[.int .i64 k, .int .i64 a, .int .i64 b] by rw [hwc]; exact HO.out.set_ 2 _)
   have HR := Lib.hid (show Blk wc w.heap.size 26 #[.int .i64 0, .int .i64 0, .int .i64 0] by rw [hwc]; exact HR.out.far (p := ⟨go, 2, none⟩) (by show w.heap.size ≠ go; omega) _)
   have HB := Lib.hid (show Below w.heap.size w wc by rw [hwc]; exact HB.out.setCell (by show w.heap.size ≤ go; omega) _)
   have HC := Lib.hid (show Cur U.heap.size g wc by rw [hwc]; exact cur_set HC.out (by show g ≠ go; omega) (by show U.heap.size ≤ go; omega) _)
   obtain ⟨z0, z1, z2⟩ := bk3 HO.out
   obtain ⟨r0, r1, r2⟩ := bk3 HR.out
   have f0 := (HR.out).frozen 0
   have f1 := (HR.out).frozen 1
   have f2 := (HR.out).frozen 2
   rw [hwc] at z0 z1 z2 r0 r1 r2 f0 f1 f2
   go_wp2_with fail
   rw [← hwc]
   clear hwc y0 y1 y2 fo z0 z1 z2 r0 r1 r2 f0 f1 f2
   clear hb hx0 hx1
   obtain ⟨wf, hwf⟩ : ∃ wf, wf = (((wc.setCell ⟨w.heap.size, 0, none⟩ (.int .i64 k)).setCell ⟨w.heap.size, 1, none⟩ (.int .i64 a)).setCell ⟨w.heap.size, 2, none⟩ (.int .i64 b)) := ⟨_, rfl⟩
   have hRf : Blk wf w.heap.size 26 #[.int .i64 k, .int .i64 a, .int .i64 b] := by rw [hwf]; exact ((HR.out.set_ 0 _).set_ 1 _).set_ 2 _
   have hBf : Below w.heap.size w wf := by rw [hwf]; exact ((HB.out.setCell (Nat.le_refl _) _).setCell (Nat.le_refl _) _).setCell (Nat.le_refl _) _
   obtain ⟨s0, s1, s2⟩ := bk3 hRf
   rw [k3] at hwf
   rw [← hwf]
   exact bodyPost_ret (v := .agg #[.int .i64 k, .int .i64 a, .int .i64 b]) (by simp [results, Tryd.results17, go_sem, s0, s1, s2]) rfl ⟨k, a, b, rfl, hBf⟩
  ·obtain ⟨y0, y1, y2⟩ := bk3 HO.out
   obtain ⟨r0, r1, r2⟩ := bk3 HR.out
   have f0 := (HR.out).frozen 0
   have f1 := (HR.out).frozen 1
   have f2 := (HR.out).frozen 2
   go_wp2_with fail
   clear y0 y1 y2 r0 r1 r2 f0 f1 f2
   refine (s_Place 16 (by omega) HC.out).mono ?_
   rintro e wd ⟨a, rfl, _, hc, hg⟩
   have HO := Lib.hid (HO.out.grown hg (by simp; omega))
   have HR := Lib.hid (HR.out.grown hg (by simp; omega))
   have HB := Lib.hid (below_curL' HB.out HC.out (by omega) hg)
   have HC := Lib.hid hc
   clear hc hg
   obtain ⟨y0, y1, y2⟩ := bk3 HO.out
   have fo := (HO.out).frozen 1
   obtain ⟨wc, hwc⟩ : ∃ x, x = wd.setCell ⟨go, 1, none⟩ (.int .i64 (a)) := ⟨_, rfl⟩
   have HO := Lib.hid (show Blk wc go 26 #[.int .i64 k, .int .i64 a, .int .i64 b] by rw [hwc]; exact HO.out.set_ 1 _)
   have HR := Lib.hid (show Blk wc w.heap.size 26 #[.int .i64 0, .int .i64 0, .int .i64 0] by rw [hwc]; exact HR.out.far (p := ⟨go, 1, none⟩) (by show w.heap.size ≠ go; omega) _)
   have HB := Lib.hid (show Below w.heap.size w wc by rw [hwc]; exact HB.out.setCell (by show w.heap.size ≤ go; omega) _)
   have HC := Lib.hid (show Cur U.heap.size g wc by rw [hwc]; exact cur_set HC.out (by show g ≠ go; omega) (by show U.heap.size ≤ go; omega) _)
   obtain ⟨z0, z1, z2⟩ := bk3 HO.out
   obtain ⟨r0, r1, r2⟩ := bk3 HR.out
   have f0 := (HR.out).frozen 0
   have f1 := (HR.out).frozen 1
   have f2 := (HR.out).frozen 2
   rw [hwc] at z0 z1 z2 r0 r1 r2 f0 f1 f2
   go_wp2_with fail
   rw [← hwc]
   clear hwc y0 y1 y2 fo z0 z1 z2 r0 r1 r2 f0 f1 f2
   refine (s_Place 30 (by omega) HC.out).mono ?_
   rintro e wd ⟨a, rfl, _, hc, hg⟩
   have HO := Lib.hid (HO.out.grown hg (by simp; omega))
   have HR := Lib.hid (HR.out.grown hg (by simp; omega))
   have HB := Lib.hid (below_curL' HB.out HC.out (by omega) hg)
   have HC := Lib.hid hc
   clear hc hg
   obtain ⟨y0, y1, y2⟩ := bk3 HO.out
   have fo := (HO.out).frozen 1
   obtain ⟨wc, hwc⟩ : ∃ x, x = wd.setCell ⟨go, 1, none⟩ (.int .i64 (a)) := ⟨_, rfl⟩
   have HO := Lib.hid (show Blk wc go 26 #[.int .i64 k, .int .i64 a, .int .i64 b] by rw [hwc]; exact HO.out.set_ 1 _)
   have HR := Lib.hid (show Blk wc w.heap.size 26 #[.int .i64 0, .int .i64 0, .int .i64 0] by rw [hwc]; exact HR.out.far (p := ⟨go, 1, none⟩) (by show w.heap.size ≠ go; omega) _)
   have HB := Lib.hid (show Below w.heap.size w wc by rw [hwc]; exact HB.out.setCell (by show w.heap.size ≤ go; omega) _)
   have HC := Lib.hid (show Cur U.heap.size g wc by rw [hwc]; exact cur_set HC.out (by show g ≠ go; omega) (by show U.heap.size ≤ go; omega) _)
   obtain ⟨z0, z1, z2⟩ := bk3 HO.out
   obtain ⟨r0, r1, r2⟩ := bk3 HR.out
   have f0 := (HR.out).frozen 0
   have f1 := (HR.out).frozen 1
   have f2 := (HR.out).frozen 2
   rw [hwc] at z0 z1 z2 r0 r1 r2 f0 f1 f2
   go_wp2_with fail
   rw [← hwc]
   clear hwc y0 y1 y2 fo z0 z1 z2 r0 r1 r2 f0 f1 f2
   refine (s_Below 6 HC.out).mono ?_
   rintro e wd ⟨x, rfl, hx, hc, hg⟩
   obtain ⟨hx0, hx1⟩ := hx.1 (by omega)
   clear hx
   have HO := Lib.hid (HO.out.grown hg (by simp; omega))
   have HR := Lib.hid (HR.out.grown hg (by simp; omega))
   have HB := Lib.hid (below_curL' HB.out HC.out (by omega) hg)
   have HC := Lib.hid hc
   clear hc hg
   obtain ⟨b, hb⟩ : ∃ b, x - 1 = b := ⟨_, rfl⟩
   obtain ⟨y0, y1, y2⟩ := bk3 HO.out
   have fo := (HO.out).frozen 2
   obtain ⟨wc, hwc⟩ : ∃ x, x = wd.setCell ⟨go, 2, none⟩ (.int .i64 (b)) := ⟨_, rfl⟩
   have HO := Lib.hid (show Blk wc go 26 #[.int .i64 k, .int .i64 a, .int .i64 b] by rw [hwc]; exact HO.out.set_ 2 _)
   have HR := Lib.hid (show Blk wc w.heap.size 26 #[.int .i64 0, .int .i64 0, .int .i64 0] by rw [hwc]; exact HR.out.far (p := ⟨go, 2, none⟩) (by show w.heap.size ≠ go; omega) _)
   have HB := Lib.hid (show Below w.heap.size w wc by rw [hwc]; exact HB.out.setCell (by show w.heap.size ≤ go; omega) _)
   have HC := Lib.hid (show Cur U.heap.size g wc by rw [hwc]; exact cur_set HC.out (by show g ≠ go; omega) (by show U.heap.size ≤ go; omega) _)
   obtain ⟨z0, z1, z2⟩ := bk3 HO.out
   obtain ⟨r0, r1, r2⟩ := bk3 HR.out
   have f0 := (HR.out).frozen 0
   have f1 := (HR.out).frozen 1
   have f2 := (HR.out).frozen 2
   rw [hwc] at z0 z1 z2 r0 r1 r2 f0 f1 f2
   go_wp2_with fail
   rw [← hwc]
   clear hwc y0 y1 y2 fo z0 z1 z2 r0 r1 r2 f0 f1 f2
   clear hb hx0 hx1
   obtain ⟨wf, hwf⟩ : ∃ wf, wf = (((wc.setCell ⟨w.heap.size, 0, none⟩ (.int .i64 k)).setCell ⟨w.heap.size, 1, none⟩ (.int .i64 a)).setCell ⟨w.heap.size, 2, none⟩ (.int .i64 b)) := ⟨_, rfl⟩
   have hRf : Blk wf w.heap.size 26 #[.int .i64 k, .int .i64 a, .int .i64 b] := by rw [hwf]; exact ((HR.out.set_ 0 _).set_ 1 _).set_ 2 _
   have hBf : Below w.heap.size w wf := by rw [hwf]; exact ((HB.out.setCell (Nat.le_refl _) _).setCell (Nat.le_refl _) _).setCell (Nat.le_refl _) _
   obtain ⟨s0, s1, s2⟩ := bk3 hRf
   rw [k3] at hwf
   rw [← hwf]
   exact bodyPost_ret (v := .agg #[.int .i64 k, .int .i64 a, .int .i64 b]) (by simp [results, Tryd.results17, go_sem, s0, s1, s2]) rfl ⟨k, a, b, rfl, hBf⟩
 have k2' : (k == 2) = false := by simpa using k2
 have k3' : (k == 3) = false := by simpa using k3
 cases o
 ·obtain ⟨y0, y1, y2⟩ := bk3 HO.out
  obtain ⟨r0, r1, r2⟩ := bk3 HR.out
  have f0 := (HR.out).frozen 0
  have f1 := (HR.out).frozen 1
  have f2 := (HR.out).frozen 2
  go_wp2_with fail
  clear y0 y1 y2 r0 r1 r2 f0 f1 f2
  obtain ⟨wf, hwf⟩ : ∃ wf, wf = (((wc.setCell ⟨w.heap.size, 0, none⟩ (.int .i64 k)).setCell ⟨w.heap.size, 1, none⟩ (.int .i64 a)).setCell ⟨w.heap.size, 2, none⟩ (.int .i64 b)) := ⟨_, rfl⟩
  have hRf : Blk wf w.heap.size 26 #[.int .i64 k, .int .i64 a, .int .i64 b] := by rw [hwf]; exact ((HR.out.set_ 0 _).set_ 1 _).set_ 2 _
  have hBf : Below w.heap.size w wf := by rw [hwf]; exact ((HB.out.setCell (Nat.le_refl _) _).setCell (Nat.le_refl _) _).setCell (Nat.le_refl _) _
  obtain ⟨s0, s1, s2⟩ := bk3 hRf
  skip
  rw [← hwf]
  exact bodyPost_ret (v := .agg #[.int .i64 k, .int .i64 a, .int .i64 b]) (by simp [results, Tryd.results17, go_sem, s0, s1, s2]) rfl ⟨k, a, b, rfl, hBf⟩
 ·obtain ⟨y0, y1, y2⟩ := bk3 HO.out
  obtain ⟨r0, r1, r2⟩ := bk3 HR.out
  have f0 := (HR.out).frozen 0
  have f1 := (HR.out).frozen 1
  have f2 := (HR.out).frozen 2
  go_wp2_with fail
  clear y0 y1 y2 r0 r1 r2 f0 f1 f2
  refine (s_Place 16 (by omega) HC.out).mono ?_
  rintro e wd ⟨a, rfl, _, hc, hg⟩
  have HO := Lib.hid (HO.out.grown hg (by simp; omega))
  have HR := Lib.hid (HR.out.grown hg (by simp; omega))
  have HB := Lib.hid (below_curL' HB.out HC.out (by omega) hg)
  have HC := Lib.hid hc
  clear hc hg
  obtain ⟨y0, y1, y2⟩ := bk3 HO.out
  have fo := (HO.out).frozen 1
  obtain ⟨wc, hwc⟩ : ∃ x, x = wd.setCell ⟨go, 1, none⟩ (.int .i64 (a)) := ⟨_, rfl⟩
  have HO := Lib.hid (show Blk wc go 26 #[.int .i64 k, .int .i64 a, .int .i64 b] by rw [hwc]; exact HO.out.set_ 1 _)
  have HR := Lib.hid (show Blk wc w.heap.size 26 #[.int .i64 0, .int .i64 0, .int .i64 0] by rw [hwc]; exact HR.out.far (p := ⟨go, 1, none⟩) (by show w.heap.size ≠ go; omega) _)
  have HB := Lib.hid (show Below w.heap.size w wc by rw [hwc]; exact HB.out.setCell (by show w.heap.size ≤ go; omega) _)
  have HC := Lib.hid (show Cur U.heap.size g wc by rw [hwc]; exact cur_set HC.out (by show g ≠ go; omega) (by show U.heap.size ≤ go; omega) _)
  obtain ⟨z0, z1, z2⟩ := bk3 HO.out
  obtain ⟨r0, r1, r2⟩ := bk3 HR.out
  have f0 := (HR.out).frozen 0
  have f1 := (HR.out).frozen 1
  have f2 := (HR.out).frozen 2
  rw [hwc] at z0 z1 z2 r0 r1 r2 f0 f1 f2
  go_wp2_with fail
  rw [← hwc]
  clear hwc y0 y1 y2 fo z0 z1 z2 r0 r1 r2 f0 f1 f2
  obtain ⟨wf, hwf⟩ : ∃ wf, wf = (((wc.setCell ⟨w.heap.size, 0, none⟩ (.int .i64 k)).setCell ⟨w.heap.size, 1, none⟩ (.int .i64 a)).setCell ⟨w.heap.size, 2, none⟩ (.int .i64 b)) := ⟨_, rfl⟩
  have hRf : Blk wf w.heap.size 26 #[.int .i64 k, .int .i64 a, .int .i64 b] := by rw [hwf]; exact ((HR.out.set_ 0 _).set_ 1 _).set_ 2 _
  have hBf : Below w.heap.size w wf := by rw [hwf]; exact ((HB.out.setCell (Nat.le_refl _) _).setCell (Nat.le_refl _) _).setCell (Nat.le_refl _) _
  obtain ⟨s0, s1, s2⟩ := bk3 hRf
  skip
  rw [← hwf]
  exact bodyPost_ret (v := .agg #[.int .i64 k, .int .i64 a, .int .i64 b]) (by simp [results, Tryd.results17, go_sem, s0, s1, s2]) rfl ⟨k, a, b, rfl, hBf⟩
end Go.Proofs.YtkidchinoilgdaaDoor

/- Contract: a signal's line (the program). -/
import Derived.Test.YtolndlmhbnpmeaaDoorFmp
import Derived.Test.YtolndlmhbnpmeaaDoorGi
import Derived.Deep.Cut
namespace Go.Proofs.YtolndlmhbnpmeaaDoor
open Go.RowKit

theorem cat_three (a b c : List UInt8) : ((⟨a.toArray⟩ : ByteArray) ++ (⟨b.toArray⟩ : ByteArray)) ++ (⟨c.toArray⟩ : ByteArray) = ⟨(a ++ (b ++ c)).toArray⟩ := by
 rw [cat_two, cat_two, List.append_assoc]
set_option maxRecDepth 100000 in
set_option maxHeartbeats 8000000 in
theorem i_signalLine0 (wd vl : Int) (hwd : i64B wd) (_hvl : i64B vl) (w : World) : Calls Tryd.prog 38 #[.agg #[.int .i64 0, .int .i64 wd, .int .i64 vl]] w fun e w' => e = .returned (.string ⟨(sgLine (0, wd, vl)).toArray⟩) ∧ Below w.heap.size w w' := by
 obtain ⟨U, hU⟩ : ∃ U, U = w.alloc (.cells #[.int .i64 0, .int .i64 wd, .int .i64 vl] 66) := ⟨_, rfl⟩
 have HU := Lib.hid hU
 have HX := Lib.hid (show Blk U w.heap.size 66 #[.int .i64 0, .int .i64 wd, .int .i64 vl] by rw [hU]; exact Blk.new _ _ _)
 have HB0 := Lib.hid (show Below w.heap.size w U by rw [hU]; exact (Below.refl _ _).alloc (Nat.le_refl _) _)
 have hzu : w.heap.size < U.heap.size := HX.out.lt
 clear hU
 have lw := widW_len wd
 have lv := Tx.fmtI_len vl
 go_enter Tryd.func38, Tryd.ntmps38
 have y0 := HX.out.cell 0
 have y1 := HX.out.cell 1
 have y2 := HX.out.cell 2
 simp only [List.getElem?_toArray, List.getElem?_cons_zero, List.getElem?_cons_succ] at y0 y1 y2
 rw [HU.out] at y0 y1 y2
 go_upto_region 1 with fail
 rw [← HU.out]
 rw [← HU.out] at y0 y1 y2
 go_cut [3] from 4 (fun s3 wc => s3 = .string ⟨(([105, 110] : List UInt8) ++ ([32] ++ widW wd)).toArray⟩ ∧ Below U.heap.size U wc)
 case first =>
  have Y0 := wcs (B := U.heap.size) y0 hzu
  have Y1 := wcs (B := U.heap.size) y1 hzu
  refine LM.wp_region_tree (X := [8]) (.node 0 8 (.node 4 8 (.leaf [0, 1, 2, 3, 4, 6, 7, 8, 5, 9, 10]) (.leaf [0, 6, 7, 8, 1, 2, 3, 4, 5, 9, 10])) (.leaf [6, 7, 8, 0, 1, 2, 3, 4, 5, 9, 10])) (by kernel_rfl) (by kernel_rfl) (fun x => Below U.heap.size U x) (bel_) (fun lexNE => ?_)
  simp only [OrdT.orders, List.cons_append, List.nil_append, AllL, ordOps, List.filterMap_cons, List.filterMap_nil, List.getElem?_cons_zero, List.getElem?_cons_succ, and_true]
  refine ⟨?_, ?_, ?_⟩
  ·(repeat (first | (refine LM.lex_r fun K hK => ?_; go_big_quiet_op; refine hK _ ?_; clear hK K) | (refine LM.lex_k fun K hK => ?_; go_simp; refine hK _ ?_; clear hK K)))
   (refine LM.lex_e fun K hK => ?_; go_big_op)
   (refine hK _ _ (Cls.mk' bel_) ?_; clear hK K)
   (repeat (first | (refine LM.lex_r fun K hK => ?_; go_big_quiet_op; refine hK _ ?_; clear hK K) | (refine LM.lex_k fun K hK => ?_; go_simp; refine hK _ ?_; clear hK K)))
   (refine LM.lex_e fun K hK => ?_; go_big_op)
   (refine hK _ _ (Cls.mk' bel_) ?_; clear hK K)
   (repeat (first | (refine LM.lex_r fun K hK => ?_; go_big_quiet_op; refine hK _ ?_; clear hK K) | (refine LM.lex_k fun K hK => ?_; go_simp; refine hK _ ?_; clear hK K)))
   (refine LM.lex_e fun K hK => ?_; go_big_op)
   refine (i_widthWord wd hwd _).mono ?_
   rintro e wq ⟨rfl, hbq⟩
   (refine hK _ _ (Cls.mk' bel_) ?_; clear hK K)
   (repeat (first | (refine LM.lex_r fun K hK => ?_; go_big_quiet_op; refine hK _ ?_; clear hK K) | (refine LM.lex_k fun K hK => ?_; go_simp; refine hK _ ?_; clear hK K)))
   (refine LM.lex_nil ?_)
   refine ⟨Cls.mk' bel_, ?_⟩
   go_wp2_with fail
   go_meet
   case rel =>
    refine ⟨by rw [← cat_three], bel_⟩
  ·(repeat (first | (refine LM.lex_r fun K hK => ?_; go_big_quiet_op; refine hK _ ?_; clear hK K) | (refine LM.lex_k fun K hK => ?_; go_simp; refine hK _ ?_; clear hK K)))
   (refine LM.lex_e fun K hK => ?_; go_big_op)
   (refine hK _ _ (Cls.mk' bel_) ?_; clear hK K)
   (repeat (first | (refine LM.lex_r fun K hK => ?_; go_big_quiet_op; refine hK _ ?_; clear hK K) | (refine LM.lex_k fun K hK => ?_; go_simp; refine hK _ ?_; clear hK K)))
   (refine LM.lex_e fun K hK => ?_; go_big_op)
   refine (i_widthWord wd hwd _).mono ?_
   rintro e wq ⟨rfl, hbq⟩
   have hz : wq.cell? ⟨U.heap.size, 0, none⟩ = some (.string ⟨([105, 110] : List UInt8).toArray⟩) := (hbq.cell (by simp)).trans (by simp)
   (refine hK _ _ (Cls.mk' bel_) ?_; clear hK K)
   (repeat (first | (refine LM.lex_r fun K hK => ?_; go_big_quiet_op; refine hK _ ?_; clear hK K) | (refine LM.lex_k fun K hK => ?_; go_simp; refine hK _ ?_; clear hK K)))
   (refine LM.lex_e fun K hK => ?_; go_big_op)
   (refine hK _ _ (Cls.mk' bel_) ?_; clear hK K)
   (repeat (first | (refine LM.lex_r fun K hK => ?_; go_big_quiet_op; refine hK _ ?_; clear hK K) | (refine LM.lex_k fun K hK => ?_; go_simp; refine hK _ ?_; clear hK K)))
   (refine LM.lex_nil ?_)
   refine ⟨Cls.mk' bel_, ?_⟩
   go_wp2_with fail
   go_meet
   case rel =>
    refine ⟨by rw [← cat_three], bel_⟩
  ·(repeat (first | (refine LM.lex_r fun K hK => ?_; go_big_quiet_op; refine hK _ ?_; clear hK K) | (refine LM.lex_k fun K hK => ?_; go_simp; refine hK _ ?_; clear hK K)))
   (refine LM.lex_e fun K hK => ?_; go_big_op)
   refine (i_widthWord wd hwd _).mono ?_
   rintro e wq ⟨rfl, hbq⟩
   have hzq : U.heap.size ≤ wq.heap.size := by simpa using hbq.size
   (refine hK _ _ (Cls.mk' bel_) ?_; clear hK K)
   (repeat (first | (refine LM.lex_r fun K hK => ?_; go_big_quiet_op; refine hK _ ?_; clear hK K) | (refine LM.lex_k fun K hK => ?_; go_simp; refine hK _ ?_; clear hK K)))
   (refine LM.lex_e fun K hK => ?_; go_big_op)
   (refine hK _ _ (Cls.mk' bel_) ?_; clear hK K)
   (repeat (first | (refine LM.lex_r fun K hK => ?_; go_big_quiet_op; refine hK _ ?_; clear hK K) | (refine LM.lex_k fun K hK => ?_; go_simp; refine hK _ ?_; clear hK K)))
   (refine LM.lex_e fun K hK => ?_; go_big_op)
   (refine hK _ _ (Cls.mk' bel_) ?_; clear hK K)
   (repeat (first | (refine LM.lex_r fun K hK => ?_; go_big_quiet_op; refine hK _ ?_; clear hK K) | (refine LM.lex_k fun K hK => ?_; go_simp; refine hK _ ?_; clear hK K)))
   (refine LM.lex_nil ?_)
   refine ⟨Cls.mk' bel_, ?_⟩
   go_wp2_with fail
   go_meet
   case rel =>
    refine ⟨by rw [← cat_three], bel_⟩
 case rest =>
  obtain ⟨rfl, hbc⟩ := hcut
  have Y0 := (hbc.cell hzu).trans y0
  have Y2 := (hbc.cell hzu).trans y2
  have HC := Lib.hid (HB0.out.trans (hbc.mono (by omega)))
  obtain ⟨t, ht⟩ : ∃ t, t = ([105, 110] : List UInt8) ++ ([32] ++ widW wd) := ⟨_, rfl⟩
  have E1 := Lib.hid (show sgLine (0, wd, vl) = t ++ [] by rw [ht]; simp [sgLine, kindW])
  have hlt : t.length ≤ 30 := by rw [ht]; simp; omega
  rw [← ht]
  clear hbc hzu y0 y1 y2 ht
  go_wp2_with fail
  go_ret
  refine ⟨?_, HC.out⟩
  rw [E1.out, List.append_nil]
  rfl
set_option maxRecDepth 100000 in
set_option maxHeartbeats 8000000 in
theorem i_signalLine1 (wd vl : Int) (hwd : i64B wd) (_hvl : i64B vl) (w : World) : Calls Tryd.prog 38 #[.agg #[.int .i64 1, .int .i64 wd, .int .i64 vl]] w fun e w' => e = .returned (.string ⟨(sgLine (1, wd, vl)).toArray⟩) ∧ Below w.heap.size w w' := by
 obtain ⟨U, hU⟩ : ∃ U, U = w.alloc (.cells #[.int .i64 1, .int .i64 wd, .int .i64 vl] 66) := ⟨_, rfl⟩
 have HU := Lib.hid hU
 have HX := Lib.hid (show Blk U w.heap.size 66 #[.int .i64 1, .int .i64 wd, .int .i64 vl] by rw [hU]; exact Blk.new _ _ _)
 have HB0 := Lib.hid (show Below w.heap.size w U by rw [hU]; exact (Below.refl _ _).alloc (Nat.le_refl _) _)
 have hzu : w.heap.size < U.heap.size := HX.out.lt
 clear hU
 have lw := widW_len wd
 have lv := Tx.fmtI_len vl
 go_enter Tryd.func38, Tryd.ntmps38
 have y0 := HX.out.cell 0
 have y1 := HX.out.cell 1
 have y2 := HX.out.cell 2
 simp only [List.getElem?_toArray, List.getElem?_cons_zero, List.getElem?_cons_succ] at y0 y1 y2
 rw [HU.out] at y0 y1 y2
 go_upto_region 1 with fail
 rw [← HU.out]
 rw [← HU.out] at y0 y1 y2
 go_cut [3] from 4 (fun s3 wc => s3 = .string ⟨(([111, 117, 116] : List UInt8) ++ ([32] ++ widW wd)).toArray⟩ ∧ Below U.heap.size U wc)
 case first =>
  have Y0 := wcs (B := U.heap.size) y0 hzu
  have Y1 := wcs (B := U.heap.size) y1 hzu
  refine LM.wp_region_tree (X := [8]) (.node 0 8 (.node 4 8 (.leaf [0, 1, 2, 3, 4, 6, 7, 8, 5, 9, 10]) (.leaf [0, 6, 7, 8, 1, 2, 3, 4, 5, 9, 10])) (.leaf [6, 7, 8, 0, 1, 2, 3, 4, 5, 9, 10])) (by kernel_rfl) (by kernel_rfl) (fun x => Below U.heap.size U x) (bel_) (fun lexNE => ?_)
  simp only [OrdT.orders, List.cons_append, List.nil_append, AllL, ordOps, List.filterMap_cons, List.filterMap_nil, List.getElem?_cons_zero, List.getElem?_cons_succ, and_true]
  refine ⟨?_, ?_, ?_⟩
  ·(repeat (first | (refine LM.lex_r fun K hK => ?_; go_big_quiet_op; refine hK _ ?_; clear hK K) | (refine LM.lex_k fun K hK => ?_; go_simp; refine hK _ ?_; clear hK K)))
   (refine LM.lex_e fun K hK => ?_; go_big_op)
   (refine hK _ _ (Cls.mk' bel_) ?_; clear hK K)
   (repeat (first | (refine LM.lex_r fun K hK => ?_; go_big_quiet_op; refine hK _ ?_; clear hK K) | (refine LM.lex_k fun K hK => ?_; go_simp; refine hK _ ?_; clear hK K)))
   (refine LM.lex_e fun K hK => ?_; go_big_op)
   (refine hK _ _ (Cls.mk' bel_) ?_; clear hK K)
   (repeat (first | (refine LM.lex_r fun K hK => ?_; go_big_quiet_op; refine hK _ ?_; clear hK K) | (refine LM.lex_k fun K hK => ?_; go_simp; refine hK _ ?_; clear hK K)))
   (refine LM.lex_e fun K hK => ?_; go_big_op)
   refine (i_widthWord wd hwd _).mono ?_
   rintro e wq ⟨rfl, hbq⟩
   (refine hK _ _ (Cls.mk' bel_) ?_; clear hK K)
   (repeat (first | (refine LM.lex_r fun K hK => ?_; go_big_quiet_op; refine hK _ ?_; clear hK K) | (refine LM.lex_k fun K hK => ?_; go_simp; refine hK _ ?_; clear hK K)))
   (refine LM.lex_nil ?_)
   refine ⟨Cls.mk' bel_, ?_⟩
   go_wp2_with fail
   go_meet
   case rel =>
    refine ⟨by rw [← cat_three], bel_⟩
  ·(repeat (first | (refine LM.lex_r fun K hK => ?_; go_big_quiet_op; refine hK _ ?_; clear hK K) | (refine LM.lex_k fun K hK => ?_; go_simp; refine hK _ ?_; clear hK K)))
   (refine LM.lex_e fun K hK => ?_; go_big_op)
   (refine hK _ _ (Cls.mk' bel_) ?_; clear hK K)
   (repeat (first | (refine LM.lex_r fun K hK => ?_; go_big_quiet_op; refine hK _ ?_; clear hK K) | (refine LM.lex_k fun K hK => ?_; go_simp; refine hK _ ?_; clear hK K)))
   (refine LM.lex_e fun K hK => ?_; go_big_op)
   refine (i_widthWord wd hwd _).mono ?_
   rintro e wq ⟨rfl, hbq⟩
   have hz : wq.cell? ⟨U.heap.size, 1, none⟩ = some (.string ⟨([111, 117, 116] : List UInt8).toArray⟩) := (hbq.cell (by simp)).trans (by simp)
   (refine hK _ _ (Cls.mk' bel_) ?_; clear hK K)
   (repeat (first | (refine LM.lex_r fun K hK => ?_; go_big_quiet_op; refine hK _ ?_; clear hK K) | (refine LM.lex_k fun K hK => ?_; go_simp; refine hK _ ?_; clear hK K)))
   (refine LM.lex_e fun K hK => ?_; go_big_op)
   (refine hK _ _ (Cls.mk' bel_) ?_; clear hK K)
   (repeat (first | (refine LM.lex_r fun K hK => ?_; go_big_quiet_op; refine hK _ ?_; clear hK K) | (refine LM.lex_k fun K hK => ?_; go_simp; refine hK _ ?_; clear hK K)))
   (refine LM.lex_nil ?_)
   refine ⟨Cls.mk' bel_, ?_⟩
   go_wp2_with fail
   go_meet
   case rel =>
    refine ⟨by rw [← cat_three], bel_⟩
  ·(repeat (first | (refine LM.lex_r fun K hK => ?_; go_big_quiet_op; refine hK _ ?_; clear hK K) | (refine LM.lex_k fun K hK => ?_; go_simp; refine hK _ ?_; clear hK K)))
   (refine LM.lex_e fun K hK => ?_; go_big_op)
   refine (i_widthWord wd hwd _).mono ?_
   rintro e wq ⟨rfl, hbq⟩
   have hzq : U.heap.size ≤ wq.heap.size := by simpa using hbq.size
   (refine hK _ _ (Cls.mk' bel_) ?_; clear hK K)
   (repeat (first | (refine LM.lex_r fun K hK => ?_; go_big_quiet_op; refine hK _ ?_; clear hK K) | (refine LM.lex_k fun K hK => ?_; go_simp; refine hK _ ?_; clear hK K)))
   (refine LM.lex_e fun K hK => ?_; go_big_op)
   (refine hK _ _ (Cls.mk' bel_) ?_; clear hK K)
   (repeat (first | (refine LM.lex_r fun K hK => ?_; go_big_quiet_op; refine hK _ ?_; clear hK K) | (refine LM.lex_k fun K hK => ?_; go_simp; refine hK _ ?_; clear hK K)))
   (refine LM.lex_e fun K hK => ?_; go_big_op)
   (refine hK _ _ (Cls.mk' bel_) ?_; clear hK K)
   (repeat (first | (refine LM.lex_r fun K hK => ?_; go_big_quiet_op; refine hK _ ?_; clear hK K) | (refine LM.lex_k fun K hK => ?_; go_simp; refine hK _ ?_; clear hK K)))
   (refine LM.lex_nil ?_)
   refine ⟨Cls.mk' bel_, ?_⟩
   go_wp2_with fail
   go_meet
   case rel =>
    refine ⟨by rw [← cat_three], bel_⟩
 case rest =>
  obtain ⟨rfl, hbc⟩ := hcut
  have Y0 := (hbc.cell hzu).trans y0
  have Y2 := (hbc.cell hzu).trans y2
  have HC := Lib.hid (HB0.out.trans (hbc.mono (by omega)))
  obtain ⟨t, ht⟩ : ∃ t, t = ([111, 117, 116] : List UInt8) ++ ([32] ++ widW wd) := ⟨_, rfl⟩
  have E1 := Lib.hid (show sgLine (1, wd, vl) = t ++ [] by rw [ht]; simp [sgLine, kindW])
  have hlt : t.length ≤ 30 := by rw [ht]; simp; omega
  rw [← ht]
  clear hbc hzu y0 y1 y2 ht
  go_wp2_with fail
  go_ret
  refine ⟨?_, HC.out⟩
  rw [E1.out, List.append_nil]
  rfl
set_option maxRecDepth 100000 in
set_option maxHeartbeats 8000000 in
theorem i_signalLine2 (wd vl : Int) (hwd : i64B wd) (_hvl : i64B vl) (w : World) : Calls Tryd.prog 38 #[.agg #[.int .i64 2, .int .i64 wd, .int .i64 vl]] w fun e w' => e = .returned (.string ⟨(sgLine (2, wd, vl)).toArray⟩) ∧ Below w.heap.size w w' := by
 obtain ⟨U, hU⟩ : ∃ U, U = w.alloc (.cells #[.int .i64 2, .int .i64 wd, .int .i64 vl] 66) := ⟨_, rfl⟩
 have HU := Lib.hid hU
 have HX := Lib.hid (show Blk U w.heap.size 66 #[.int .i64 2, .int .i64 wd, .int .i64 vl] by rw [hU]; exact Blk.new _ _ _)
 have HB0 := Lib.hid (show Below w.heap.size w U by rw [hU]; exact (Below.refl _ _).alloc (Nat.le_refl _) _)
 have hzu : w.heap.size < U.heap.size := HX.out.lt
 clear hU
 have lw := widW_len wd
 have lv := Tx.fmtI_len vl
 go_enter Tryd.func38, Tryd.ntmps38
 have y0 := HX.out.cell 0
 have y1 := HX.out.cell 1
 have y2 := HX.out.cell 2
 simp only [List.getElem?_toArray, List.getElem?_cons_zero, List.getElem?_cons_succ] at y0 y1 y2
 rw [HU.out] at y0 y1 y2
 go_upto_region 1 with fail
 rw [← HU.out]
 rw [← HU.out] at y0 y1 y2
 go_cut [3] from 4 (fun s3 wc => s3 = .string ⟨(([119, 105, 114, 101] : List UInt8) ++ ([32] ++ widW wd)).toArray⟩ ∧ Below U.heap.size U wc)
 case first =>
  have Y0 := wcs (B := U.heap.size) y0 hzu
  have Y1 := wcs (B := U.heap.size) y1 hzu
  refine LM.wp_region_tree (X := [8]) (.node 0 8 (.node 4 8 (.leaf [0, 1, 2, 3, 4, 6, 7, 8, 5, 9, 10]) (.leaf [0, 6, 7, 8, 1, 2, 3, 4, 5, 9, 10])) (.leaf [6, 7, 8, 0, 1, 2, 3, 4, 5, 9, 10])) (by kernel_rfl) (by kernel_rfl) (fun x => Below U.heap.size U x) (bel_) (fun lexNE => ?_)
  simp only [OrdT.orders, List.cons_append, List.nil_append, AllL, ordOps, List.filterMap_cons, List.filterMap_nil, List.getElem?_cons_zero, List.getElem?_cons_succ, and_true]
  refine ⟨?_, ?_, ?_⟩
  ·(repeat (first | (refine LM.lex_r fun K hK => ?_; go_big_quiet_op; refine hK _ ?_; clear hK K) | (refine LM.lex_k fun K hK => ?_; go_simp; refine hK _ ?_; clear hK K)))
   (refine LM.lex_e fun K hK => ?_; go_big_op)
   (refine hK _ _ (Cls.mk' bel_) ?_; clear hK K)
   (repeat (first | (refine LM.lex_r fun K hK => ?_; go_big_quiet_op; refine hK _ ?_; clear hK K) | (refine LM.lex_k fun K hK => ?_; go_simp; refine hK _ ?_; clear hK K)))
   (refine LM.lex_e fun K hK => ?_; go_big_op)
   (refine hK _ _ (Cls.mk' bel_) ?_; clear hK K)
   (repeat (first | (refine LM.lex_r fun K hK => ?_; go_big_quiet_op; refine hK _ ?_; clear hK K) | (refine LM.lex_k fun K hK => ?_; go_simp; refine hK _ ?_; clear hK K)))
   (refine LM.lex_e fun K hK => ?_; go_big_op)
   refine (i_widthWord wd hwd _).mono ?_
   rintro e wq ⟨rfl, hbq⟩
   (refine hK _ _ (Cls.mk' bel_) ?_; clear hK K)
   (repeat (first | (refine LM.lex_r fun K hK => ?_; go_big_quiet_op; refine hK _ ?_; clear hK K) | (refine LM.lex_k fun K hK => ?_; go_simp; refine hK _ ?_; clear hK K)))
   (refine LM.lex_nil ?_)
   refine ⟨Cls.mk' bel_, ?_⟩
   go_wp2_with fail
   go_meet
   case rel =>
    refine ⟨by rw [← cat_three], bel_⟩
  ·(repeat (first | (refine LM.lex_r fun K hK => ?_; go_big_quiet_op; refine hK _ ?_; clear hK K) | (refine LM.lex_k fun K hK => ?_; go_simp; refine hK _ ?_; clear hK K)))
   (refine LM.lex_e fun K hK => ?_; go_big_op)
   (refine hK _ _ (Cls.mk' bel_) ?_; clear hK K)
   (repeat (first | (refine LM.lex_r fun K hK => ?_; go_big_quiet_op; refine hK _ ?_; clear hK K) | (refine LM.lex_k fun K hK => ?_; go_simp; refine hK _ ?_; clear hK K)))
   (refine LM.lex_e fun K hK => ?_; go_big_op)
   refine (i_widthWord wd hwd _).mono ?_
   rintro e wq ⟨rfl, hbq⟩
   have hz : wq.cell? ⟨U.heap.size, 2, none⟩ = some (.string ⟨([119, 105, 114, 101] : List UInt8).toArray⟩) := (hbq.cell (by simp)).trans (by simp)
   (refine hK _ _ (Cls.mk' bel_) ?_; clear hK K)
   (repeat (first | (refine LM.lex_r fun K hK => ?_; go_big_quiet_op; refine hK _ ?_; clear hK K) | (refine LM.lex_k fun K hK => ?_; go_simp; refine hK _ ?_; clear hK K)))
   (refine LM.lex_e fun K hK => ?_; go_big_op)
   (refine hK _ _ (Cls.mk' bel_) ?_; clear hK K)
   (repeat (first | (refine LM.lex_r fun K hK => ?_; go_big_quiet_op; refine hK _ ?_; clear hK K) | (refine LM.lex_k fun K hK => ?_; go_simp; refine hK _ ?_; clear hK K)))
   (refine LM.lex_nil ?_)
   refine ⟨Cls.mk' bel_, ?_⟩
   go_wp2_with fail
   go_meet
   case rel =>
    refine ⟨by rw [← cat_three], bel_⟩
  ·(repeat (first | (refine LM.lex_r fun K hK => ?_; go_big_quiet_op; refine hK _ ?_; clear hK K) | (refine LM.lex_k fun K hK => ?_; go_simp; refine hK _ ?_; clear hK K)))
   (refine LM.lex_e fun K hK => ?_; go_big_op)
   refine (i_widthWord wd hwd _).mono ?_
   rintro e wq ⟨rfl, hbq⟩
   have hzq : U.heap.size ≤ wq.heap.size := by simpa using hbq.size
   (refine hK _ _ (Cls.mk' bel_) ?_; clear hK K)
   (repeat (first | (refine LM.lex_r fun K hK => ?_; go_big_quiet_op; refine hK _ ?_; clear hK K) | (refine LM.lex_k fun K hK => ?_; go_simp; refine hK _ ?_; clear hK K)))
   (refine LM.lex_e fun K hK => ?_; go_big_op)
   (refine hK _ _ (Cls.mk' bel_) ?_; clear hK K)
   (repeat (first | (refine LM.lex_r fun K hK => ?_; go_big_quiet_op; refine hK _ ?_; clear hK K) | (refine LM.lex_k fun K hK => ?_; go_simp; refine hK _ ?_; clear hK K)))
   (refine LM.lex_e fun K hK => ?_; go_big_op)
   (refine hK _ _ (Cls.mk' bel_) ?_; clear hK K)
   (repeat (first | (refine LM.lex_r fun K hK => ?_; go_big_quiet_op; refine hK _ ?_; clear hK K) | (refine LM.lex_k fun K hK => ?_; go_simp; refine hK _ ?_; clear hK K)))
   (refine LM.lex_nil ?_)
   refine ⟨Cls.mk' bel_, ?_⟩
   go_wp2_with fail
   go_meet
   case rel =>
    refine ⟨by rw [← cat_three], bel_⟩
 case rest =>
  obtain ⟨rfl, hbc⟩ := hcut
  have Y0 := (hbc.cell hzu).trans y0
  have Y2 := (hbc.cell hzu).trans y2
  have HC := Lib.hid (HB0.out.trans (hbc.mono (by omega)))
  obtain ⟨t, ht⟩ : ∃ t, t = ([119, 105, 114, 101] : List UInt8) ++ ([32] ++ widW wd) := ⟨_, rfl⟩
  have E1 := Lib.hid (show sgLine (2, wd, vl) = t ++ [] by rw [ht]; simp [sgLine, kindW])
  have hlt : t.length ≤ 30 := by rw [ht]; simp; omega
  rw [← ht]
  clear hbc hzu y0 y1 y2 ht
  go_wp2_with fail
  go_ret
  refine ⟨?_, HC.out⟩
  rw [E1.out, List.append_nil]
  rfl
set_option maxRecDepth 100000 in
set_option maxHeartbeats 8000000 in
theorem i_signalLine3 (wd vl : Int) (hwd : i64B wd) (hvl : i64B vl) (w : World) : Calls Tryd.prog 38 #[.agg #[.int .i64 3, .int .i64 wd, .int .i64 vl]] w fun e w' => e = .returned (.string ⟨(sgLine (3, wd, vl)).toArray⟩) ∧ Below w.heap.size w w' := by
 obtain ⟨U, hU⟩ : ∃ U, U = w.alloc (.cells #[.int .i64 3, .int .i64 wd, .int .i64 vl] 66) := ⟨_, rfl⟩
 have HU := Lib.hid hU
 have HX := Lib.hid (show Blk U w.heap.size 66 #[.int .i64 3, .int .i64 wd, .int .i64 vl] by rw [hU]; exact Blk.new _ _ _)
 have HB0 := Lib.hid (show Below w.heap.size w U by rw [hU]; exact (Below.refl _ _).alloc (Nat.le_refl _) _)
 have hzu : w.heap.size < U.heap.size := HX.out.lt
 clear hU
 have lw := widW_len wd
 have lv := Tx.fmtI_len vl
 go_enter Tryd.func38, Tryd.ntmps38
 have y0 := HX.out.cell 0
 have y1 := HX.out.cell 1
 have y2 := HX.out.cell 2
 simp only [List.getElem?_toArray, List.getElem?_cons_zero, List.getElem?_cons_succ] at y0 y1 y2
 rw [HU.out] at y0 y1 y2
 go_upto_region 1 with fail
 rw [← HU.out]
 rw [← HU.out] at y0 y1 y2
 go_cut [3] from 4 (fun s3 wc => s3 = .string ⟨(([114, 101, 103] : List UInt8) ++ ([32] ++ widW wd)).toArray⟩ ∧ Below U.heap.size U wc)
 case first =>
  have Y0 := wcs (B := U.heap.size) y0 hzu
  have Y1 := wcs (B := U.heap.size) y1 hzu
  refine LM.wp_region_tree (X := [8]) (.node 0 8 (.node 4 8 (.leaf [0, 1, 2, 3, 4, 6, 7, 8, 5, 9, 10]) (.leaf [0, 6, 7, 8, 1, 2, 3, 4, 5, 9, 10])) (.leaf [6, 7, 8, 0, 1, 2, 3, 4, 5, 9, 10])) (by kernel_rfl) (by kernel_rfl) (fun x => Below U.heap.size U x) (bel_) (fun lexNE => ?_)
  simp only [OrdT.orders, List.cons_append, List.nil_append, AllL, ordOps, List.filterMap_cons, List.filterMap_nil, List.getElem?_cons_zero, List.getElem?_cons_succ, and_true]
  refine ⟨?_, ?_, ?_⟩
  ·(repeat (first | (refine LM.lex_r fun K hK => ?_; go_big_quiet_op; refine hK _ ?_; clear hK K) | (refine LM.lex_k fun K hK => ?_; go_simp; refine hK _ ?_; clear hK K)))
   (refine LM.lex_e fun K hK => ?_; go_big_op)
   (refine hK _ _ (Cls.mk' bel_) ?_; clear hK K)
   (repeat (first | (refine LM.lex_r fun K hK => ?_; go_big_quiet_op; refine hK _ ?_; clear hK K) | (refine LM.lex_k fun K hK => ?_; go_simp; refine hK _ ?_; clear hK K)))
   (refine LM.lex_e fun K hK => ?_; go_big_op)
   (refine hK _ _ (Cls.mk' bel_) ?_; clear hK K)
   (repeat (first | (refine LM.lex_r fun K hK => ?_; go_big_quiet_op; refine hK _ ?_; clear hK K) | (refine LM.lex_k fun K hK => ?_; go_simp; refine hK _ ?_; clear hK K)))
   (refine LM.lex_e fun K hK => ?_; go_big_op)
   refine (i_widthWord wd hwd _).mono ?_
   rintro e wq ⟨rfl, hbq⟩
   (refine hK _ _ (Cls.mk' bel_) ?_; clear hK K)
   (repeat (first | (refine LM.lex_r fun K hK => ?_; go_big_quiet_op; refine hK _ ?_; clear hK K) | (refine LM.lex_k fun K hK => ?_; go_simp; refine hK _ ?_; clear hK K)))
   (refine LM.lex_nil ?_)
   refine ⟨Cls.mk' bel_, ?_⟩
   go_wp2_with fail
   go_meet
   case rel =>
    refine ⟨by rw [← cat_three], bel_⟩
  ·(repeat (first | (refine LM.lex_r fun K hK => ?_; go_big_quiet_op; refine hK _ ?_; clear hK K) | (refine LM.lex_k fun K hK => ?_; go_simp; refine hK _ ?_; clear hK K)))
   (refine LM.lex_e fun K hK => ?_; go_big_op)
   (refine hK _ _ (Cls.mk' bel_) ?_; clear hK K)
   (repeat (first | (refine LM.lex_r fun K hK => ?_; go_big_quiet_op; refine hK _ ?_; clear hK K) | (refine LM.lex_k fun K hK => ?_; go_simp; refine hK _ ?_; clear hK K)))
   (refine LM.lex_e fun K hK => ?_; go_big_op)
   refine (i_widthWord wd hwd _).mono ?_
   rintro e wq ⟨rfl, hbq⟩
   have hz : wq.cell? ⟨U.heap.size, 3, none⟩ = some (.string ⟨([114, 101, 103] : List UInt8).toArray⟩) := (hbq.cell (by simp)).trans (by simp)
   (refine hK _ _ (Cls.mk' bel_) ?_; clear hK K)
   (repeat (first | (refine LM.lex_r fun K hK => ?_; go_big_quiet_op; refine hK _ ?_; clear hK K) | (refine LM.lex_k fun K hK => ?_; go_simp; refine hK _ ?_; clear hK K)))
   (refine LM.lex_e fun K hK => ?_; go_big_op)
   (refine hK _ _ (Cls.mk' bel_) ?_; clear hK K)
   (repeat (first | (refine LM.lex_r fun K hK => ?_; go_big_quiet_op; refine hK _ ?_; clear hK K) | (refine LM.lex_k fun K hK => ?_; go_simp; refine hK _ ?_; clear hK K)))
   (refine LM.lex_nil ?_)
   refine ⟨Cls.mk' bel_, ?_⟩
   go_wp2_with fail
   go_meet
   case rel =>
    refine ⟨by rw [← cat_three], bel_⟩
  ·(repeat (first | (refine LM.lex_r fun K hK => ?_; go_big_quiet_op; refine hK _ ?_; clear hK K) | (refine LM.lex_k fun K hK => ?_; go_simp; refine hK _ ?_; clear hK K)))
   (refine LM.lex_e fun K hK => ?_; go_big_op)
   refine (i_widthWord wd hwd _).mono ?_
   rintro e wq ⟨rfl, hbq⟩
   have hzq : U.heap.size ≤ wq.heap.size := by simpa using hbq.size
   (refine hK _ _ (Cls.mk' bel_) ?_; clear hK K)
   (repeat (first | (refine LM.lex_r fun K hK => ?_; go_big_quiet_op; refine hK _ ?_; clear hK K) | (refine LM.lex_k fun K hK => ?_; go_simp; refine hK _ ?_; clear hK K)))
   (refine LM.lex_e fun K hK => ?_; go_big_op)
   (refine hK _ _ (Cls.mk' bel_) ?_; clear hK K)
   (repeat (first | (refine LM.lex_r fun K hK => ?_; go_big_quiet_op; refine hK _ ?_; clear hK K) | (refine LM.lex_k fun K hK => ?_; go_simp; refine hK _ ?_; clear hK K)))
   (refine LM.lex_e fun K hK => ?_; go_big_op)
   (refine hK _ _ (Cls.mk' bel_) ?_; clear hK K)
   (repeat (first | (refine LM.lex_r fun K hK => ?_; go_big_quiet_op; refine hK _ ?_; clear hK K) | (refine LM.lex_k fun K hK => ?_; go_simp; refine hK _ ?_; clear hK K)))
   (refine LM.lex_nil ?_)
   refine ⟨Cls.mk' bel_, ?_⟩
   go_wp2_with fail
   go_meet
   case rel =>
    refine ⟨by rw [← cat_three], bel_⟩
 case rest =>
  obtain ⟨rfl, hbc⟩ := hcut
  have Y0 := (hbc.cell hzu).trans y0
  have Y2 := (hbc.cell hzu).trans y2
  have HC := Lib.hid (HB0.out.trans (hbc.mono (by omega)))
  obtain ⟨t, ht⟩ : ∃ t, t = ([114, 101, 103] : List UInt8) ++ ([32] ++ widW wd) := ⟨_, rfl⟩
  have E1 := Lib.hid (show sgLine (3, wd, vl) = t ++ ([32] ++ Tx.fmtI vl) by rw [ht]; simp [sgLine, kindW])
  have hlt : t.length ≤ 30 := by rw [ht]; simp; omega
  rw [← ht]
  clear hbc hzu y0 y1 y2 ht
  have hsum1 : (1 : Int) + ((Tx.fmtI vl).length : Int) ≤ 8388608 := by omega
  have hsum2 : (t.length : Int) + (([32] ++ Tx.fmtI vl).length : Int) ≤ 8388608 := by simp; omega
  go_wp2_with fail
  refine (i_FormatInt vl hvl _).mono ?_
  rintro e w1 ⟨rfl, hb1⟩
  have HD := Lib.hid (HC.out.trans (hb1.mono (by have := HC.out.size; omega)))
  clear hb1
  go_wp2_with fail
  go_ret
  refine ⟨?_, HD.out⟩
  rw [E1.out, ← cat_two, ← cat_two]
  rfl
theorem i_signalLine (k : Nat) (wd vl : Int) (hk : k < 4) (hwd : i64B wd) (hvl : i64B vl) (w : World) : Calls Tryd.prog 38 #[.agg #[.int .i64 k, .int .i64 wd, .int .i64 vl]] w fun e w' => e = .returned (.string ⟨(sgLine (k, wd, vl)).toArray⟩) ∧ Below w.heap.size w w' := by
 match k, hk with
 | 0, _ => exact i_signalLine0 wd vl hwd hvl w
 | 1, _ => exact i_signalLine1 wd vl hwd hvl w
 | 2, _ => exact i_signalLine2 wd vl hwd hvl w
 | 3, _ => exact i_signalLine3 wd vl hwd hvl w
end Go.Proofs.YtolndlmhbnpmeaaDoor

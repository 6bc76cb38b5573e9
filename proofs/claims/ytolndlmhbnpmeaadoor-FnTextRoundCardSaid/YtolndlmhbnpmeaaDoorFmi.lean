/- Contract: a module's lines: the program's function. -/
import Derived.Test.YtolndlmhbnpmeaaDoorFmq
import Derived.Test.YtolndlmhbnpmeaaDoorFmpI
import Derived.Test.YtolndlmhbnpmeaaDoorCpyP
import Derived.Outline
namespace Go.Proofs.YtolndlmhbnpmeaaDoor
open Go.RowKit

abbrev QStringS (w : World) (S : Nat → Prop) (v : Value) (l : List ByteArray) : Prop := Sep w S v (fStringS l)
theorem str_nil (w : World) (S : Nat → Prop) : QStringS w S (.slice none 0 0) [] :=
 sep_strs (base := 0) (e := 9) (Nat.zero_le _) (World.ownsRow_nil w 0 9 1) (fun g hg => by simp [Value.ownBlock] at hg)
theorem own_snoc {w : World} {B : Nat} {v : Value} {L : List (List UInt8)} {y : List UInt8} (h : w.ownsRow B 9 1 v (L.length + 1) (strs (L.map bt) ++ [.string (bt y)])) : w.ownsRow B 9 1 v (L ++ [y]).length (strs ((L ++ [y]).map bt)) := by
 rw [List.length_append, List.map_append, strs, List.map_append]
 exact h
theorem map_snoc {α β : Type} {f : α → β} {l : List α} {k : Nat} {x : α} (h : l[k]? = some x) : (l.take (k + 1)).map f = (l.take k).map f ++ [f x] := by
 rw [List.take_add_one, h, List.map_append]
 rfl
theorem flat_snoc {α β : Type} {f : α → List β} {l : List α} {k : Nat} {x : α} (h : l[k]? = some x) : (l.take (k + 1)).flatMap f = (l.take k).flatMap f ++ f x := by
 rw [List.take_add_one, h, List.flatMap_append]
 simp
theorem i64_of {x : Int} (h0 : 0 ≤ x) (h1 : x ≤ 100) : i64B x := by unfold i64B; omega
theorem own_one (w : World) (y : List UInt8) : (w.alloc (.cells #[.string (bt y)] 9)).ownsRow w.heap.size 9 1 (.slice (some ⟨w.heap.size, 0, none⟩) 1 1) 1 (strs ([y].map bt)) :=
 World.ownsRow_lit (base := w.heap.size) (size := 1) (e := 9) w #[.string (bt y)] 1 (Nat.le_refl _) (by unfold maxLen; omega) rfl
/-- the lines so far -/
structure LnS (wr : World) (B : Nat) (ov : Value) (L : List (List UInt8)) : Prop where
 own : wr.ownsRow B 9 1 ov L.length (strs (L.map bt))
set_option maxRecDepth 100000 in
set_option maxHeartbeats 16000000 in
theorem i_FormatModule {w : World} {S : Nat → Prop} {v : Value} {d : TDesign} (kk : Int) (hz : sDesign d ≤ 1048576) (h : RDesign w S v d) (hS : ∀ b, S b → b < w.heap.size) (hsg : SignsAt w) :
  Calls Tryd.prog 21 #[v, .int .i64 kk] w fun e w' => ∃ v', e = .returned (.tuple #[v', .bool (fmtR d kk).2]) ∧ QStringS w' (New w w') v' (fmtR d kk).1 ∧ Below w.heap.size w w' := by
 obtain ⟨i0, hi, hz0, hz1, hz2⟩ := info_parts Tryd.infoStr
 obtain ⟨A, c, rfl, hr, hm⟩ := dsn_open h
 obtain ⟨n, hl⟩ : ∃ n, d.length = n := ⟨_, rfl⟩
 rw [hl] at hr hm h ⊢
 unfold maxLen at hm
 have Hl := Lib.hid hl
 have Hr := Lib.hid hr
 have H := Lib.hid h
 obtain ⟨U0, hU0⟩ : ∃ U0, U0 = w.alloc (.cells #[.slice A n c] 26) := ⟨_, rfl⟩
 have hu0 : w.heap.size < U0.heap.size := by rw [hU0]; simp
 have HB0 := Lib.hid (show Below w.heap.size w U0 by rw [hU0]; exact ((Below.refl _ _).alloc (Nat.le_refl _) _))
 have HXD := Lib.hid (show Blk U0 w.heap.size 26 #[.slice A n c] by rw [hU0]; exact (Blk.new _ _ _))
 have HU0 := Lib.hid hU0
 clear hl hr h hU0
 go_enter Tryd.func21, Tryd.ntmps21
 go_wp2_with fail
 rw [← HU0.out]
 refine (i_ModuleOk kk (by omega) (RDesign.under H.out hS HB0.out) (fun b hb => by have := hS b hb; omega)).mono ?_
 rintro e w1 ⟨rfl, hb1⟩
 have HD1 := Lib.hid (HXD.out.below hb1 HXD.out.lt)
 have HB1 := Lib.hid (HB0.out.trans (hb1.mono (by omega)))
 have zz1 := hb1.size
 clear hb1
 cases hd : moduleB d kk with
 | false =>
  have HO := Lib.hid (fmtR_no hd)
  clear hd
  go_wp2_with fail
  go_ret2
  rw [HO.out]
  exact ⟨_, rfl, str_nil _ _, HB1.out⟩
 | true =>
 have HO := Lib.hid (fmtR_yes hd)
 obtain ⟨kn, rfl, hkn, m, hmk⟩ : ∃ kn : Nat, kk = (kn : Int) ∧ kn < n ∧ ∃ m, d[kn]? = some m := by
  have h1 := hd
  unfold moduleB at h1
  rw [Bool.and_eq_true] at h1
  obtain ⟨⟨h0, hk⟩, _⟩ := l04C_iff.1 h1.1
  rw [Hl.out] at hk
  exact ⟨kk.toNat, by omega, by omega, _, List.getElem?_eq_getElem (by rw [Hl.out]; omega)⟩
 have LO := lines_ok hd hmk
 have Hmd := Lib.hid (md_get hmk)
 clear hd
 obtain ⟨ad, m', E0, k0, E1, k1, E2, k2, E3, k3, rfl, hab, hx, hro, ⟨ml0, ml1, ml2, ml3⟩, t0, t1, t2, t3⟩ := mod_row (Hr.out.under hS HB1.out) hkn
 obtain rfl : m = m' := Option.some.inj (hmk.symm.trans hx)
 obtain ⟨n0, hn0⟩ : ∃ n0, m.1.length = n0 := ⟨_, rfl⟩
 obtain ⟨n1, hn1⟩ : ∃ n1, m.2.1.length = n1 := ⟨_, rfl⟩
 obtain ⟨n2, hn2⟩ : ∃ n2, m.2.2.1.length = n2 := ⟨_, rfl⟩
 obtain ⟨n3, hn3⟩ : ∃ n3, m.2.2.2.length = n3 := ⟨_, rfl⟩
 obtain ⟨b0, b1, b2, b3⟩ : n0 ≤ 30 ∧ n1 ≤ 30 ∧ n2 ≤ 3 ∧ n3 ≤ 2 := ⟨by rw [← hn0]; exact LO.n0, by rw [← hn1]; exact LO.n1, by rw [← hn2]; exact LO.n2, by rw [← hn3]; exact LO.n3⟩
 rw [hn0, hn1, hn2, hn3] at hro
 rw [hn0] at t0 
 rw [hn1] at t1
 rw [hn2] at t2
 rw [hn3] at t3
 have Hn := Lib.hid (And.intro hn0 (And.intro hn1 (And.intro hn2 hn3)))
 obtain ⟨v0, v1, v2, v3, hv, rp0, rp1, rp2, rp3⟩ := hro
 injection hv with hv
 injection hv with hv
 injection hv with hva hv
 injection hv with hvb hv
 injection hv with hvc hv
 injection hv with hvd hv
 subst hva hvb hvc hvd
 have hS1 : ∀ b, S b → b < w1.heap.size := fun b hb => by have := hS b hb; omega
 have R0 := Lib.hid rp0
 have R1 := Lib.hid rp1
 have R2 := Lib.hid rp2
 have R3 := Lib.hid rp3
 have g1 : (0 : Int) ≤ (kn : Int) := by omega
 have g2 : (kn : Int) < (n : Int) := by omega
 have y0 := blkS1 HD1.out
 obtain ⟨U, hU⟩ : ∃ U, U = (w1.alloc (.cells #[.slice E0 n0 k0, .slice E1 n1 k1, .slice E2 n2 k2, .slice E3 n3 k3] 50)) := ⟨_, rfl⟩
 have HXM := Lib.hid (show Blk U w1.heap.size 50 #[.slice E0 n0 k0, .slice E1 n1 k1, .slice E2 n2 k2, .slice E3 n3 k3] by rw [hU]; exact Blk.new _ _ _)
 have HBU := Lib.hid (show Below w.heap.size w U by rw [hU]; exact HB1.out.alloc (by omega) _)
 have HB1U := Lib.hid (show Below w1.heap.size w1 U by rw [hU]; exact (Below.refl _ _).alloc (Nat.le_refl _) _)
 have zU : w1.heap.size < U.heap.size := HXM.out.lt
 have HUs := Lib.hid (show w1.heap.size + 1 = U.heap.size by rw [hU]; simp)
 have HU := Lib.hid hU
 clear hU hmk hx rp0 rp1 rp2 rp3 hn0 hn1 hn2 hn3 ml0 ml1 ml2 ml3
 have HOn := Lib.hid (own_one U [109, 111, 100, 117, 108, 101])
 go_wp2_with fail
 rw [← HU.out]
 clear t0 t1 t2 t3 y0
 go_loopw [7, 9, 37] (fun ov _ iv wr => ∃ (k : Nat) (L : List (List UInt8)), k ≤ n0 ∧ iv = .int .i64 k ∧ Hid (L = [[109, 111, 100, 117, 108, 101]] ++ (m.1.take k).map sgLine) ∧ wr.ownsRow U.heap.size 9 1 ov L.length (strs (L.map bt)) ∧ Below U.heap.size U wr) (fun _ _ iv _ => n0 - (intOf iv).toNat)
 case atStart => exact ⟨0, [[109, 111, 100, 117, 108, 101]], Nat.zero_le _, rfl, Lib.hid rfl, by rw [HUs.out]; exact HOn.out, bel_⟩
 case round =>
  obtain ⟨k, L, hk, rfl, hL, hown, hb⟩ := hrel
  have Hb := Lib.hid hb
  have Hbw := Lib.hid (HBU.out.trans (hb.mono (by omega)))
  have hsz := hb.size
  obtain ⟨Ao, co, rfl, _, _, _⟩ := own_form hown
  have Hown := Lib.hid hown
  have gx : (0 : Int) ≤ (k : Int) := by omega
  have hLn : L.length ≤ 70 := by rw [hL.out]; have := Hn.out; simp; omega
  clear hb hown
  by_cases hlt : k < n0
  ·obtain ⟨ad2, x0, x1, x2, rfl, hab2, hx, e0, e1, e2⟩ := fSignalS_row (R0.out.under hS1 (HB1U.out.trans (Hb.out.mono (by omega)))) hlt
   obtain ⟨q0, q1, q2, q3, q4, q5⟩ := LO.sig _ (List.mem_of_getElem? hx)
   simp only at q0 q1 q2 q3 q4 q5
   obtain ⟨xk, rfl⟩ : ∃ xk : Nat, x0 = (xk : Int) := ⟨x0.toNat, by omega⟩
   have Hs := Lib.hid (map_snoc (f := sgLine) hx)
   have g4 : (k : Int) < (n0 : Int) := by omega
   have i1 := i64_of q2 (by omega)
   have i2 := i64_of q4 (by omega)
   have hxk : xk < 4 := by omega
   clear hx q0 q1 q2 q3 q4 q5
   obtain ⟨W1, hW1⟩ : ∃ W1, W1 = wr.alloc (.cells #[.int .i64 xk, .int .i64 x1, .int .i64 x2] 66) := ⟨_, rfl⟩
   have HW1 := Lib.hid (show Below wr.heap.size wr W1 by rw [hW1]; exact (Below.refl _ _).alloc (Nat.le_refl _) _)
   have HX1 := Lib.hid (show Blk W1 wr.heap.size 66 #[.int .i64 xk, .int .i64 x1, .int .i64 x2] by rw [hW1]; exact Blk.new _ _ _)
   have zW1 : wr.heap.size < W1.heap.size := HX1.out.lt
   go_wp2_with fail
   rw [← hW1]
   clear hW1
   refine (i_signalLine xk x1 x2 hxk i1 i2 W1).mono ?_
   rintro e w2 ⟨rfl, hb2⟩
   have HD2 := Lib.hid (HW1.out.trans (hb2.mono (by omega)))
   have HC2 := Lib.hid (Hb.out.trans (HD2.out.mono (by omega)))
   have HO2 := Lib.hid (own_below Hown.out HD2.out (Nat.le_refl _))
   have zz2 := HD2.out.size
   clear hb2 e0 e1 e2
   go_wp2_with (at_builtin; refine wpList_append_any _ rfl _ _ 38 rfl (U.heap.size) 9 i0 (.string ByteArray.empty) 1 16 Tryd.underlying38 hi hz0 hz1 hz2 rfl (by decide) _ _ _ rfl (HO2.out.alloc _) _ _ 1 1 _ rfl (reads_new _ _ 1 1 rfl) (by intro u hu; simp at hu; first | (subst hu; rfl) | (rcases hu with rfl | rfl <;> rfl) | (rcases hu with rfl | rfl | rfl <;> rfl)) (by unfold maxLen; omega) (by omega) (by (try simp) <;> (try omega)) ?_; intro v3 w3 hown3 hgrow3 hblk3)
   have hbb := below_push HC2.out HO2.out (Nat.le_refl _) (by omega) hgrow3
   have Hown3 := Lib.hid hown3
   clear hown3 hgrow3 hblk3
   go_wp2_with fail
   go_roundw
   case rel => exact ⟨k + 1, L ++ [sgLine (xk, x1, x2)], by omega, by go_num, Lib.hid (by skip; rw [hL.out, Hs.out]; simp only [List.append_assoc]; try rfl), own_snoc Hown3.out, hbb⟩
   case measure => simp [intOf]; omega
  ·have hkn : k = n0 := by omega
   have hge : (n0 : Int) ≤ (k : Int) := by omega
   have HL := Lib.hid (show L = [[109, 111, 100, 117, 108, 101]] ++ m.1.map sgLine by rw [hL.out, List.take_of_length_le (by have := Hn.out; omega)])
   obtain ⟨y0, y1, y2, y3⟩ := blkS4 (HXM.out.below Hb.out HXM.out.lt)
   clear hL
   go_wp2_with fail
   clear y0 y1 y2 y3 hge hkn
   obtain ⟨wo, hwo⟩ : ∃ wo, wo = wr := ⟨_, rfl⟩
   subst hwo
   go_loopw [7, 11, 12, 14, 15, 16, 50, 61] (fun ov _ _ _ _ _ iv _ wr => ∃ (k : Nat) (L : List (List UInt8)), k ≤ n1 ∧ iv = .int .i64 k ∧ Hid (L = [[109, 111, 100, 117, 108, 101]] ++ m.1.map sgLine ++ (m.2.1.take k).map asgLine) ∧ wr.ownsRow U.heap.size 9 1 ov L.length (strs (L.map bt)) ∧ Below U.heap.size U wr) (fun _ _ _ _ _ _ iv _ _ => n1 - (intOf iv).toNat)
   case atStart => exact ⟨0, _, Nat.zero_le _, rfl, Lib.hid (by rw [HL.out]; simp only [List.take_zero, List.map_nil, List.append_nil]), Hown.out, Hb.out⟩
   clear HL Hown Hb Hbw hsz gx
   case round =>
    obtain ⟨k, L, hk, rfl, hL, hown, hb⟩ := hrel
    have Hb := Lib.hid hb
    have Hbw := Lib.hid (HBU.out.trans (hb.mono (by omega)))
    have hsz := hb.size
    obtain ⟨Ao, co, rfl, _, _, _⟩ := own_form hown
    have Hown := Lib.hid hown
    have gx : (0 : Int) ≤ (k : Int) := by omega
    have hLn : L.length ≤ 70 := by rw [hL.out]; have := Hn.out; simp; omega
    clear hb hown
    by_cases hlt : k < n1
    ·obtain ⟨ad2, a, os, A1, c1, rfl, hab2, hx, rps, hml, e0, e1⟩ := asg_row (R1.out.under hS1 (HB1U.out.trans (Hb.out.mono (by omega)))) hlt
     obtain ⟨q0, q1, q2⟩ := LO.asg _ (List.mem_of_getElem? hx)
     simp only at q0 q1 q2
     obtain ⟨no, hno⟩ : ∃ no, os.length = no := ⟨_, rfl⟩
     rw [hno] at rps hml e1 q2
     have Hno := Lib.hid hno
     have Hs := Lib.hid (map_snoc (f := asgLine) hx)
     have g4 : (k : Int) < (n1 : Int) := by omega
     have i1 := i64_of q0 (by omega)
     have ls := sigW_len a
     have hsum1 : (4 : Int) + ((sigW a).length : Int) ≤ 8388608 := by omega
     clear hx q0 q1 hno
     obtain ⟨W1, hW1⟩ : ∃ W1, W1 = wr.alloc (.cells #[.int .i64 a, .slice A1 no c1] 69) := ⟨_, rfl⟩
     have HW1 := Lib.hid (show Below wr.heap.size wr W1 by rw [hW1]; exact (Below.refl _ _).alloc (Nat.le_refl _) _)
     have HX1 := Lib.hid (show Blk W1 wr.heap.size 69 #[.int .i64 a, .slice A1 no c1] by rw [hW1]; exact Blk.new _ _ _)
     have zW1 : wr.heap.size < W1.heap.size := HX1.out.lt
     go_wp2_with fail
     rw [← hW1]
     clear hW1
     refine (i_signalWord a i1 W1).mono ?_
     rintro e w2 ⟨rfl, hb2⟩
     have HX2 := Lib.hid (HX1.out.below hb2 HX1.out.lt)
     obtain ⟨y0, y1⟩ := blkS2 HX2.out
     have HD2 := Lib.hid (HW1.out.trans (hb2.mono (by omega)))
     have HC2 := Lib.hid (Hb.out.trans (HD2.out.mono (by omega)))
     have Rps := Lib.hid (rps.under hS1 (HD2.out.mono (by omega)))
     have zz2 := HD2.out.size
     clear hb2 e0 e1 rps
     go_wp2_with fail
     clear y0 y1 hsum1
     go_loopw [12, 14, 15, 16, 61] (fun lv _ _ _ jv wr' => ∃ (j : Nat) (t : List UInt8), j ≤ no ∧ jv = .int .i64 j ∧ lv = .string ⟨t.toArray⟩ ∧ Hid (t = [115, 101, 116, 32] ++ sigW a ++ (os.take j).flatMap fun o => [32] ++ opTxR o.1 o.2.1 o.2.2) ∧ t.length ≤ 26 + 51 * j ∧ Below w2.heap.size w2 wr') (fun _ _ _ _ jv _ => no - (intOf jv).toNat)
     case atStart => exact ⟨0, [115, 101, 116, 32] ++ sigW a, Nat.zero_le _, rfl, by rw [← cat_two], Lib.hid (by simp), by (try simp) <;> (try omega), Below.refl _ _⟩
     case round =>
      obtain ⟨j, t, hj, rfl, rfl, ht, htl, hbj⟩ := hrel
      obtain ⟨wa, hwa⟩ : ∃ x, x = wr := ⟨_, rfl⟩
      subst hwa
      have Hbj := Lib.hid hbj
      have zj := hbj.size
      have gy : (0 : Int) ≤ (j : Int) := by omega
      have HDj := Lib.hid (HD2.out.trans (hbj.mono (by omega)))
      have HCj := Lib.hid (HC2.out.trans (hbj.mono (by omega)))
      clear hbj
      by_cases hlj : j < no
      ·obtain ⟨ad3, o0, o1, o2, rfl, hab3, hx, e0, e1, e2⟩ := fOpS_row (Rps.out.under (B := w2.heap.size) (fun b hb => by have := hS1 b hb; omega) Hbj.out) hlj
       have Ht := Lib.hid (flat_snoc (f := fun o : TOp => [32] ++ opTxR o.1 o.2.1 o.2.2) hx)
       have g5 : (j : Int) < (no : Int) := by omega
       have lo := opTxR_len o0 o1 o2
       have hsum1 : (1 : Int) + ((opTxR o0 o1 o2).length : Int) ≤ 8388608 := by omega
       have hsum2 : (t.length : Int) + (([32] ++ opTxR o0 o1 o2).length : Int) ≤ 8388608 := by simp; omega
       obtain ⟨V1, hV1⟩ : ∃ V1, V1 = wa.alloc (.cells #[.int .i64 o0, .int .i64 o1, .int .i64 o2] 71) := ⟨_, rfl⟩
       have HV1 := Lib.hid (show Below wa.heap.size wa V1 by rw [hV1]; exact (Below.refl _ _).alloc (Nat.le_refl _) _)
       have hsv := hsg.below (HBU.out.trans ((HCj.out.trans (HV1.out.mono (by omega))).mono (by omega)))
       clear hx
       go_wp2_with fail
       rw [← hV1]
       refine (i_OpText o0 o1 o2 V1 hsv).mono ?_
       rintro e w3 ⟨rfl, hb3⟩
       have HE3 := Lib.hid (Hbj.out.trans ((HV1.out.trans (hb3.mono HV1.out.size)).mono zj))
       clear hb3 hV1 e0 e1 e2 hsv
       go_wp2_with fail
       go_roundw
       case rel => exact ⟨j + 1, t ++ ([32] ++ opTxR o0 o1 o2), by omega, by go_num, by rw [← cat_two, ← cat_two], Lib.hid (by rw [ht.out, Ht.out, List.append_assoc]), by (try simp) <;> (try omega), HE3.out⟩
       case measure => simp [intOf]; omega
      ·have HT := Lib.hid (show t = asgLine (a, os) by rw [ht.out, List.take_of_length_le (by rw [Hno.out]; omega), List.append_assoc]; rfl)
       have hge : (no : Int) ≤ (j : Int) := by omega
       have HOj := Lib.hid (own_below Hown.out HDj.out (Nat.le_refl _))
       have zz3 := HDj.out.size
       clear ht
       go_wp2_with (at_builtin; refine wpList_append_any _ rfl _ _ 38 rfl (U.heap.size) 9 i0 (.string ByteArray.empty) 1 16 Tryd.underlying38 hi hz0 hz1 hz2 rfl (by decide) _ _ _ rfl (HOj.out.alloc _) _ _ 1 1 _ rfl (reads_new _ _ 1 1 rfl) (by intro u hu; simp at hu; first | (subst hu; rfl) | (rcases hu with rfl | rfl <;> rfl) | (rcases hu with rfl | rfl | rfl <;> rfl)) (by unfold maxLen; omega) (by omega) (by (try simp) <;> (try omega)) ?_; intro v3 w3 hown3 hgrow3 hblk3)
       have hbb := below_push HCj.out HOj.out (Nat.le_refl _) (by omega) hgrow3
       have Hown3 := Lib.hid hown3
       clear hown3 hgrow3 hblk3
       go_wp2_with fail
       go_roundw
       case rel => exact ⟨k + 1, L ++ [t], by omega, by go_num, Lib.hid (by rw [HT.out]; rw [hL.out, Hs.out]; simp only [List.append_assoc]; try rfl), own_snoc Hown3.out, hbb⟩
       case measure => simp [intOf]; omega
    ·have hkn : k = n1 := by omega
     have hge : (n1 : Int) ≤ (k : Int) := by omega
     have HL := Lib.hid (show L = [[109, 111, 100, 117, 108, 101]] ++ m.1.map sgLine ++ m.2.1.map asgLine by rw [hL.out, List.take_of_length_le (by have := Hn.out; omega)])
     obtain ⟨y0, y1, y2, y3⟩ := blkS4 (HXM.out.below Hb.out HXM.out.lt)
     clear hL
     go_wp2_with fail
     clear y0 y1 y2 y3 hge hkn
     obtain ⟨wo, hwo⟩ : ∃ wo, wo = wr := ⟨_, rfl⟩
     subst hwo
     go_loopw [7, 18, 19, 21, 83, 99] (fun ov _ _ _ iv _ wr => ∃ (k : Nat) (L : List (List UInt8)), k ≤ n2 ∧ iv = .int .i64 k ∧ Hid (L = [[109, 111, 100, 117, 108, 101]] ++ m.1.map sgLine ++ m.2.1.map asgLine ++ (m.2.2.1.take k).map insLine) ∧ wr.ownsRow U.heap.size 9 1 ov L.length (strs (L.map bt)) ∧ Below U.heap.size U wr) (fun _ _ _ _ iv _ _ => n2 - (intOf iv).toNat)
     case atStart => exact ⟨0, _, Nat.zero_le _, rfl, Lib.hid (by rw [HL.out]; simp only [List.take_zero, List.map_nil, List.append_nil]), Hown.out, Hb.out⟩
     clear HL Hown Hb Hbw hsz gx
     case round =>
      obtain ⟨k, L, hk, rfl, hL, hown, hb⟩ := hrel
      have Hb := Lib.hid hb
      have Hbw := Lib.hid (HBU.out.trans (hb.mono (by omega)))
      have hsz := hb.size
      obtain ⟨Ao, co, rfl, _, _, _⟩ := own_form hown
      have Hown := Lib.hid hown
      have gx : (0 : Int) ≤ (k : Int) := by omega
      have hLn : L.length ≤ 70 := by rw [hL.out]; have := Hn.out; simp; omega
      clear hb hown
      by_cases hlt : k < n2
      ·obtain ⟨ad2, a, b, ps, A2, c2, rfl, hab2, hx, rps, hml, e0, e1, e2⟩ := ins_row (R2.out.under hS1 (HB1U.out.trans (Hb.out.mono (by omega)))) hlt
       obtain ⟨q0, q1, q2, q3, q4, q5⟩ := LO.ins _ (List.mem_of_getElem? hx)
       simp only at q0 q1 q2 q3 q4 q5
       obtain ⟨no, hno⟩ : ∃ no, ps.length = no := ⟨_, rfl⟩
       rw [hno] at rps hml e2 q4
       have Hno := Lib.hid hno
       have Hq5 := Lib.hid q5
       have Hs := Lib.hid (map_snoc (f := insLine) hx)
       have g4 : (k : Int) < (n2 : Int) := by omega
       have i1 := i64_of q0 (by omega)
       have i2 := i64_of q2 (by omega)
       have ls := Tx.fmtI_len a
       have lw := widW_len b
       have hsum1 : (5 : Int) + ((Tx.fmtI a).length : Int) ≤ 8388608 := by omega
       have hsum2 : (5 : Int) + ((Tx.fmtI a).length : Int) + 1 ≤ 8388608 := by omega
       have hsum3 : (5 : Int) + ((Tx.fmtI a).length : Int) + 1 + ((widW b).length : Int) ≤ 8388608 := by omega
       clear hx q0 q1 q2 q3 q5 hno
       obtain ⟨W1, hW1⟩ : ∃ W1, W1 = wr.alloc (.cells #[.int .i64 a, .int .i64 b, .slice A2 no c2] 75) := ⟨_, rfl⟩
       have HW1 := Lib.hid (show Below wr.heap.size wr W1 by rw [hW1]; exact (Below.refl _ _).alloc (Nat.le_refl _) _)
       have HX1 := Lib.hid (show Blk W1 wr.heap.size 75 #[.int .i64 a, .int .i64 b, .slice A2 no c2] by rw [hW1]; exact Blk.new _ _ _)
       have zW1 : wr.heap.size < W1.heap.size := HX1.out.lt
       go_wp2_with fail
       rw [← hW1]
       clear hW1
       have c0 := wcs (B := W1.heap.size) (u := .int .i64 a) (HX1.out.cell 0) zW1
       have c1 := wcs (B := W1.heap.size) (u := .int .i64 b) (HX1.out.cell 1) zW1
       refine wp_region_lexC (by kernel_rfl) (by kernel_rfl) (fun x => Below W1.heap.size W1 x) ((Below.refl _ _).drew) (fun lexNE => ?_)
       (repeat (first | (refine lex_r fun K hK => ?_; go_big_quiet_op; refine hK _ ?_; clear hK K) | (refine lex_k fun K hK => ?_; go_simp; refine hK _ ?_; clear hK K)))
       (refine lex_e fun K hK => ?_; go_big_op)
       refine (i_FormatInt a i1 _).mono ?_
       rintro e w2 ⟨rfl, hb2⟩
       have HF2 := Lib.hid ((Below.refl W1.heap.size W1).drew.trans hb2)
       have zF2 := HF2.out.size
       refine hK _ _ (Cls.mk' HF2.out) ?_
       clear hK K hb2
       (repeat (first | (refine lex_r fun K hK => ?_; go_big_quiet_op; refine hK _ ?_; clear hK K) | (refine lex_k fun K hK => ?_; go_simp; refine hK _ ?_; clear hK K)))
       (refine lex_e fun K hK => ?_; go_big_op)
       refine (i_widthWord b i2 _).mono ?_
       rintro e w3 ⟨rfl, hb3⟩
       have HF3 := Lib.hid (HF2.out.trans (hb3.mono (by omega)))
       refine hK _ _ (Cls.mk' HF3.out) ?_
       clear hK K hb3
       (repeat (first | (refine lex_r fun K hK => ?_; go_big_quiet_op; refine hK _ ?_; clear hK K) | (refine lex_k fun K hK => ?_; go_simp; refine hK _ ?_; clear hK K)))
       (refine lex_nil ?_)
       clear lexNE c0 c1
       have HX2 := Lib.hid (HX1.out.below HF3.out HX1.out.lt)
       have HD2 := Lib.hid (HW1.out.trans (HF3.out.mono (by omega)))
       have HC2 := Lib.hid (Hb.out.trans (HD2.out.mono (by omega)))
       have Rps := Lib.hid (rps.under hS1 (HD2.out.mono (by omega)))
       have zz2 := HD2.out.size
       have y2 := HX2.out.cell 2
       simp only [List.getElem?_toArray, List.getElem?_cons_zero, List.getElem?_cons_succ] at y2
       clear e0 e1 e2 rps
       go_wp2_with fail
       clear y2 hsum1 hsum2 hsum3
       go_loopw [19, 21, 99] (fun lv _ jv wr' => ∃ (j : Nat) (t : List UInt8), j ≤ no ∧ jv = .int .i64 j ∧ lv = .string ⟨t.toArray⟩ ∧ Hid (t = [117, 115, 101, 32, 109] ++ Tx.fmtI a ++ [32] ++ widW b ++ (ps.take j).flatMap fun p => [32] ++ sigW p) ∧ t.length ≤ 50 + 23 * j ∧ Below w3.heap.size w3 wr') (fun _ _ jv _ => no - (intOf jv).toNat)
       case atStart => exact ⟨0, [117, 115, 101, 32, 109] ++ Tx.fmtI a ++ [32] ++ widW b, Nat.zero_le _, rfl, by rw [← cat_two, ← cat_two, ← cat_two], Lib.hid (by simp), by (try simp) <;> (try omega), Below.refl _ _⟩
       case round =>
        obtain ⟨j, t, hj, rfl, rfl, ht, htl, hbj⟩ := hrel
        obtain ⟨wa, hwa⟩ : ∃ x, x = wr := ⟨_, rfl⟩
        subst hwa
        have Hbj := Lib.hid hbj
        have zj := hbj.size
        have gy : (0 : Int) ≤ (j : Int) := by omega
        have HDj := Lib.hid (HD2.out.trans (hbj.mono (by omega)))
        have HCj := Lib.hid (HC2.out.trans (hbj.mono (by omega)))
        clear hbj
        by_cases hlj : j < no
        ·obtain ⟨ad3, p0, rfl, hab3, hx, e0⟩ := fIntS_row (Rps.out.under (B := w3.heap.size) (fun b hb => by have := hS1 b hb; omega) Hbj.out) hlj
         have Ht := Lib.hid (flat_snoc (f := fun p : Int => [32] ++ sigW p) hx)
         have g5 : (j : Int) < (no : Int) := by omega
         have hp := Hq5.out _ (List.mem_of_getElem? hx)
         have i3 := i64_of hp.1 (by omega)
         have lo := sigW_len p0
         have hsum1 : (1 : Int) + ((sigW p0).length : Int) ≤ 8388608 := by omega
         have hsum2 : (t.length : Int) + (([32] ++ sigW p0).length : Int) ≤ 8388608 := by simp; omega
         clear hx hp
         go_wp2_with fail
         refine (i_signalWord p0 i3 wa).mono ?_
         rintro e w4 ⟨rfl, hb4⟩
         have HE3 := Lib.hid (Hbj.out.trans (hb4.mono zj))
         clear hb4 e0
         go_wp2_with fail
         go_roundw
         case rel => exact ⟨j + 1, t ++ ([32] ++ sigW p0), by omega, by go_num, by rw [← cat_two, ← cat_two], Lib.hid (by rw [ht.out, Ht.out, List.append_assoc]), by (try simp) <;> (try omega), HE3.out⟩
         case measure => simp [intOf]; omega
        ·have HT := Lib.hid (show t = insLine (a, b, ps) by rw [ht.out, List.take_of_length_le (by rw [Hno.out]; omega)]; simp only [insLine, List.append_assoc])
         have hge : (no : Int) ≤ (j : Int) := by omega
         have HOj := Lib.hid (own_below Hown.out HDj.out (Nat.le_refl _))
         have zz3 := HDj.out.size
         clear ht
         go_wp2_with (at_builtin; refine wpList_append_any _ rfl _ _ 38 rfl (U.heap.size) 9 i0 (.string ByteArray.empty) 1 16 Tryd.underlying38 hi hz0 hz1 hz2 rfl (by decide) _ _ _ rfl (HOj.out.alloc _) _ _ 1 1 _ rfl (reads_new _ _ 1 1 rfl) (by intro u hu; simp at hu; first | (subst hu; rfl) | (rcases hu with rfl | rfl <;> rfl) | (rcases hu with rfl | rfl | rfl <;> rfl)) (by unfold maxLen; omega) (by omega) (by (try simp) <;> (try omega)) ?_; intro v3 w3 hown3 hgrow3 hblk3)
         have hbb := below_push HCj.out HOj.out (Nat.le_refl _) (by omega) hgrow3
         have Hown3 := Lib.hid hown3
         clear hown3 hgrow3 hblk3
         go_wp2_with fail
         go_roundw
         case rel => exact ⟨k + 1, L ++ [t], by omega, by go_num, Lib.hid (by rw [HT.out]; rw [hL.out, Hs.out]; simp only [List.append_assoc]; try rfl), own_snoc Hown3.out, hbb⟩
         case measure => simp [intOf]; omega
      ·have hkn : k = n2 := by omega
       have hge : (n2 : Int) ≤ (k : Int) := by omega
       have HL := Lib.hid (show L = [[109, 111, 100, 117, 108, 101]] ++ m.1.map sgLine ++ m.2.1.map asgLine ++ m.2.2.1.map insLine by rw [hL.out, List.take_of_length_le (by have := Hn.out; omega)])
       obtain ⟨y0, y1, y2, y3⟩ := blkS4 (HXM.out.below Hb.out HXM.out.lt)
       clear hL
       go_wp2_with fail
       clear y0 y1 y2 y3 hge hkn
       obtain ⟨wo, hwo⟩ : ∃ wo, wo = wr := ⟨_, rfl⟩
       subst hwo
       go_loopw [7, 23, 117] (fun ov _ iv  wr => ∃ (k : Nat) (L : List (List UInt8)), k ≤ n3 ∧ iv = .int .i64 k ∧ Hid (L = [[109, 111, 100, 117, 108, 101]] ++ m.1.map sgLine ++ m.2.1.map asgLine ++ m.2.2.1.map insLine ++ (m.2.2.2.take k).map memLine) ∧ wr.ownsRow U.heap.size 9 1 ov L.length (strs (L.map bt)) ∧ Below U.heap.size U wr) (fun _ _ iv  _ => n3 - (intOf iv).toNat)
       case atStart => exact ⟨0, _, Nat.zero_le _, rfl, Lib.hid (by rw [HL.out]; simp only [List.take_zero, List.map_nil, List.append_nil]), Hown.out, Hb.out⟩
       clear HL Hown Hb Hbw hsz gx
       case round =>
        obtain ⟨k, L, hk, rfl, hL, hown, hb⟩ := hrel
        have Hb := Lib.hid hb
        have Hbw := Lib.hid (HBU.out.trans (hb.mono (by omega)))
        have hsz := hb.size
        obtain ⟨Ao, co, rfl, _, _, _⟩ := own_form hown
        have Hown := Lib.hid hown
        have gx : (0 : Int) ≤ (k : Int) := by omega
        have hLn : L.length ≤ 70 := by rw [hL.out]; have := Hn.out; simp; omega
        clear hb hown
        have HgA := Lib.hid (show ∀ g, (Value.slice Ao L.length co).ownBlock = some g → U.heap.size ≤ g ∧ g < wr.heap.size from fun g hg => Hown.out.lt g hg)
        by_cases hlt : k < n3
        ·obtain ⟨ad2, x0, x1, x2, x3, rfl, hab2, hx, e0, e1, e2, e3⟩ := fMemS_row (R3.out.under hS1 (HB1U.out.trans (Hb.out.mono (by omega)))) hlt
         obtain ⟨q0, q1, q2, q3, q4, q5, q6, q7⟩ := LO.mem _ (List.mem_of_getElem? hx)
         simp only at q0 q1 q2 q3 q4 q5 q6 q7
         have Hs := Lib.hid (map_snoc (f := memLine) hx)
         have g4 : (k : Int) < (n3 : Int) := by omega
         have i1 := i64_of q0 (by omega)
         have i2 := i64_of q2 (by omega)
         have i3 := i64_of q4 (by omega)
         have i4 := i64_of q6 (by omega)
         have l0 := sigW_len x0
         have l1 := sigW_len x1
         have l2 := sigW_len x2
         have l3 := sigW_len x3
         have hs1 : (4 : Int) + ((sigW x0).length : Int) ≤ 8388608 := by omega
         have hs2 : (4 : Int) + ((sigW x0).length : Int) + 1 ≤ 8388608 := by omega
         have hs3 : (4 : Int) + ((sigW x0).length : Int) + 1 + ((sigW x1).length : Int) ≤ 8388608 := by omega
         have hs4 : (4 : Int) + ((sigW x0).length : Int) + 1 + ((sigW x1).length : Int) + 1 ≤ 8388608 := by omega
         have hs5 : (4 : Int) + ((sigW x0).length : Int) + 1 + ((sigW x1).length : Int) + 1 + ((sigW x2).length : Int) ≤ 8388608 := by omega
         have hs6 : (4 : Int) + ((sigW x0).length : Int) + 1 + ((sigW x1).length : Int) + 1 + ((sigW x2).length : Int) + 1 ≤ 8388608 := by omega
         have hs7 : (4 : Int) + ((sigW x0).length : Int) + 1 + ((sigW x1).length : Int) + 1 + ((sigW x2).length : Int) + 1 + ((sigW x3).length : Int) ≤ 8388608 := by omega
         clear hx q0 q1 q2 q3 q4 q5 q6 q7
         obtain ⟨W1, hW1⟩ : ∃ W1, W1 = wr.alloc (.cells #[.int .i64 x0, .int .i64 x1, .int .i64 x2, .int .i64 x3] 77) := ⟨_, rfl⟩
         have HW1 := Lib.hid (show Below wr.heap.size wr W1 by rw [hW1]; exact (Below.refl _ _).alloc (Nat.le_refl _) _)
         have HX1 := Lib.hid (show Blk W1 wr.heap.size 77 #[.int .i64 x0, .int .i64 x1, .int .i64 x2, .int .i64 x3] by rw [hW1]; exact Blk.new _ _ _)
         have zW1 : wr.heap.size < W1.heap.size := HX1.out.lt
         go_wp2_with fail
         rw [← hW1]
         clear hW1
         clear e0 e1 e2 e3
         have nx : ¬ (Value.slice Ao L.length co).ownBlock = some wr.heap.size := fun h1 => by have := HgA.out _ h1; omega
         have hsx : wr.heap.size < W1.heap.size := zW1
         obtain ⟨d0, d1, d2, d3⟩ := blkS4 HX1.out
         have c0 := ocel (S := fun b => (Value.slice Ao L.length co).ownBlock = some b) d0 hsx nx
         have c1 := ocel (S := fun b => (Value.slice Ao L.length co).ownBlock = some b) d1 hsx nx
         have c2 := ocel (S := fun b => (Value.slice Ao L.length co).ownBlock = some b) d2 hsx nx
         have c3 := ocel (S := fun b => (Value.slice Ao L.length co).ownBlock = some b) d3 hsx nx
         clear nx d0 d1 d2 d3
         refine wp_region_lexC (by kernel_rfl) (by kernel_rfl) (fun x => Only (fun b => (Value.slice Ao L.length co).ownBlock = some b) W1 x) ((Only.refl _ _).drew) (fun lexNE => ?_)
         (repeat (first | (refine lex_r fun K hK => ?_; go_big_quiet_op; refine hK _ ?_; clear hK K) | (refine lex_k fun K hK => ?_; go_simp; refine hK _ ?_; clear hK K)))
         (refine lex_e fun K hK => ?_; go_big_op)
         refine (i_signalWord x0 i1 _).mono ?_
         rintro e D1 ⟨rfl, hb2⟩
         have HF1 := Lib.hid ((Below.refl W1.heap.size W1).drew.trans hb2)
         have zF1 := HF1.out.size
         refine hK _ _ (Cls.mk' (Only.of_below HF1.out _)) ?_
         clear hK K hb2
         (repeat (first | (refine lex_r fun K hK => ?_; go_big_quiet_op; refine hK _ ?_; clear hK K) | (refine lex_k fun K hK => ?_; go_simp; refine hK _ ?_; clear hK K)))
         (refine lex_e fun K hK => ?_; go_big_op)
         refine (i_signalWord x1 i2 _).mono ?_
         rintro e D2 ⟨rfl, hb2⟩
         have HF2 := Lib.hid (HF1.out.trans (hb2.mono (by omega)))
         have zF2 := HF2.out.size
         refine hK _ _ (Cls.mk' (Only.of_below HF2.out _)) ?_
         clear hK K hb2
         (repeat (first | (refine lex_r fun K hK => ?_; go_big_quiet_op; refine hK _ ?_; clear hK K) | (refine lex_k fun K hK => ?_; go_simp; refine hK _ ?_; clear hK K)))
         (refine lex_e fun K hK => ?_; go_big_op)
         refine (i_signalWord x2 i3 _).mono ?_
         rintro e D3 ⟨rfl, hb2⟩
         have HF3 := Lib.hid (HF2.out.trans (hb2.mono (by omega)))
         have zF3 := HF3.out.size
         refine hK _ _ (Cls.mk' (Only.of_below HF3.out _)) ?_
         clear hK K hb2
         (repeat (first | (refine lex_r fun K hK => ?_; go_big_quiet_op; refine hK _ ?_; clear hK K) | (refine lex_k fun K hK => ?_; go_simp; refine hK _ ?_; clear hK K)))
         (refine lex_e fun K hK => ?_; go_big_op)
         refine (i_signalWord x3 i4 _).mono ?_
         rintro e D4 ⟨rfl, hb2⟩
         have HF4 := Lib.hid (HF3.out.trans (hb2.mono (by omega)))
         have zF4 := HF4.out.size
         refine hK _ _ (Cls.mk' (Only.of_below HF4.out _)) ?_
         clear hK K hb2
         (repeat (first | (refine lex_r fun K hK => ?_; go_big_quiet_op; refine hK _ ?_; clear hK K) | (refine lex_k fun K hK => ?_; go_simp; refine hK _ ?_; clear hK K)))
         (refine lex_e fun K hK => ?_; go_big_op)
         refine hK _ _ (Cls.mk' ((Only.of_below HF4.out _).alloc _)) ?_
         clear hK K
         have HD2 := Lib.hid (HW1.out.trans (HF4.out.mono (by omega)))
         have HC2 := Lib.hid (Hb.out.trans (HD2.out.mono (by omega)))
         have HO2 := Lib.hid (own_below Hown.out HD2.out (Nat.le_refl _))
         have zz2 := HD2.out.size
         obtain ⟨ty, hty⟩ : ∃ ty, ty = memLine (x0, x1, x2, x3) := ⟨_, rfl⟩
         refine lex_e fun K hK => ?_
         refine wp_append_any _ _ _ 38 (by rfl) (U.heap.size) 9 i0 (.string ByteArray.empty) 1 16 Tryd.underlying38 hi hz0 hz1 hz2 rfl (by decide) _ _ _ (by rfl) (HO2.out.alloc _) _ _ 1 1 _ (by rfl) (reads_new _ _ 1 1 rfl) (by intro u hu; simp at hu; first | (subst hu; rfl) | (rcases hu with rfl | rfl <;> rfl) | (rcases hu with rfl | rfl | rfl <;> rfl)) (by unfold maxLen; omega) (by omega) (by (try simp) <;> (try omega)) ?_
         intro v3 w3 hown3 hgrow3 hblk3
         go_simp
         have hbb := below_push HC2.out HO2.out (Nat.le_refl _) (by omega) hgrow3
         have Hown3 := Lib.hid hown3
         refine hK _ _ (Cls.mk' (Only.grown2 ((Only.of_below HF4.out (fun b => (Value.slice Ao L.length co).ownBlock = some b)).alloc _) hgrow3 (fun g hg => .inl hg))) ?_
         clear hK K hown3 hgrow3 hblk3 hs1 hs2 hs3 hs4 hs5 hs6 hs7
         (repeat (first | (refine lex_r fun K hK => ?_; go_big_quiet_op; refine hK _ ?_; clear hK K) | (refine lex_k fun K hK => ?_; go_simp; refine hK _ ?_; clear hK K)))
         (refine lex_nil ?_)
         clear lexNE c0 c1 c2 c3
         go_wp2_with fail
         go_roundw
         case rel => exact ⟨k + 1, L ++ [memLine (x0, x1, x2, x3)], by omega, by go_num, Lib.hid (by rw [hL.out, Hs.out]; simp only [List.append_assoc]), own_snoc (by
          have h1 := Hown3.out
          rw [cat_two, cat_two, cat_two, cat_two, cat_two, cat_two, cat_two] at h1
          simp only [List.append_assoc] at h1
          exact h1), hbb⟩
         case measure => simp [intOf]; omega
        ·have hkn : k = n3 := by omega
         have hge : (n3 : Int) ≤ (k : Int) := by omega
         have HL := Lib.hid (show L ++ [[101, 110, 100]] = fmtML m by rw [hL.out, List.take_of_length_le (by have := Hn.out; omega)]; simp only [fmtML, List.append_assoc])
         clear hL
         go_wp2_with (at_builtin; refine wpList_append_any _ rfl _ _ 38 rfl (U.heap.size) 9 i0 (.string ByteArray.empty) 1 16 Tryd.underlying38 hi hz0 hz1 hz2 rfl (by decide) _ _ _ rfl (Hown.out.alloc _) _ _ 1 1 _ rfl (reads_new _ _ 1 1 rfl) (by intro u hu; simp at hu; first | (subst hu; rfl) | (rcases hu with rfl | rfl <;> rfl) | (rcases hu with rfl | rfl | rfl <;> rfl)) (by unfold maxLen; omega) (by omega) (by (try simp) <;> (try omega)) ?_; intro v3 w3 hown3 hgrow3 hblk3)
         have hbb := below_push Hb.out Hown.out (Nat.le_refl _) (by omega) hgrow3
         have Hown3 := Lib.hid (own_snoc (y := [101, 110, 100]) hown3)
         clear hown3 hgrow3 hblk3
         have HO3 := Hown3.out
         rw [HL.out] at HO3
         obtain ⟨A4, c4, rfl, h4, h5, _⟩ := own_form HO3
         clear Hown3 HL
         go_wp2_with fail
         go_ret2
         rw [HO.out, Hmd.out]
         exact ⟨_, rfl, sep_strs (by omega) HO3 (fun g hg => ⟨by have := (HO3.lt g hg).1; omega, (HO3.lt g hg).2⟩), HBU.out.trans (hbb.mono (by omega))⟩
end Go.Proofs.YtolndlmhbnpmeaaDoor

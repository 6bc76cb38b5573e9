/- Contract: a module added to a flat module: the reference's function. -/
import Derived.Test.YtlgbdpcobbbglaaFlc
import Derived.Deep.CutRange
import Derived.Outline
namespace Go.Proofs.Ytlgbdpcobbbglaa
open Go.RowKit

def flS : List TypeId := [73, 76, 80]
theorem flS_sig : 73 ∈ flS := by decide
theorem flS_asg : 76 ∈ flS := by decide
theorem flS_mem : 80 ∈ flS := by decide
/-- a flat module's value, its box -/
abbrev FV (v0 v1 v3 : Value) : Value := .agg #[v0, v1, .slice none 0 0, v3]
abbrev MB (w : World) (g : Nat) (v0 v1 v3 : Value) : Prop := Blk w g 31 #[v0, v1, .slice none 0 0, v3]
def SAddQ (d : TDesign) (fu k : Nat) (param : Int) (ports : List Int) (copied : Bool) (f : FlSt) (lo : Nat) (w : World) (e : Ending) (w' : World) : Prop :=
 ChP lo flS noP w w' ∧ match addF d fu k param ports copied f with
  | none => ∃ A0 m0 c0 A1 m1 c1 A3 m3 c3, e = .returned (.tuple #[FV (.slice A0 m0 c0) (.slice A1 m1 c1) (.slice A3 m3 c3), .bool false])
  | some g => ∃ v0 v1 v3, e = .returned (.tuple #[FV v0 v1 v3, .bool true]) ∧ FlSz g ∧ FlS w' lo v0 v1 v3 g.1 g.2.1 g.2.2
-- $1 the slot's old list, own fact ; pushes one number
set_option maxRecDepth 100000 in
set_option maxHeartbeats 16000000 in
theorem s_flAdd {d : TDesign} (hd : designB d = true) {n : Nat} (hl : d.length = n) : ∀ (fu k : Nat), k < fu → k < n → ∀ (param : Int) (ports : List Int) (Ap : Option Addr) (np cp : Nat) (cpd : Bool) (w : World) (S : Nat → Prop) (A : Option Addr) (c lo : Nat) (v0 v1 v3 : Value) (f : FlSt),
  Rep w S (.slice A n c) (fModuleS d) → n ≤ maxLen → (∀ b, S b → b < lo) → lo ≤ w.heap.size → FlS w lo v0 v1 v3 f.1 f.2.1 f.2.2 → FlSz f → w.ownsRow 0 3 1 (.slice Ap np cp) np (ints ports) → (∀ i ∈ ports, 0 ≤ i ∧ i < f.1.length) → (cpd = true → ports.length = (portsM (md d (k : Int))).length) →
  Calls Try.prog 16 #[.agg #[.slice A n c], .int .i64 k, .int .i64 param, .bool cpd, .slice Ap np cp, FV v0 v1 v3] w (SAddQ d fu k param ports cpd f lo w) := by
 have Hd := Lib.hid hd
 have Hl := Lib.hid hl
 clear hd hl
 intro fu
 induction fu with
 | zero => intro k hk; omega
 | succ fu ih =>
 intro k hk hkn param ports Ap np cp cpd w S A c lo v0 v1 v3 f hr hnm hS hlo hfs hsz hpo hpb hpl
 have IH := Lib.hid ih
 clear ih
 obtain ⟨m, hmk⟩ : ∃ m, d[k]? = some m := ⟨_, List.getElem?_eq_getElem (by rw [Hl.out]; exact hkn)⟩
 have MO := md_ok (dsn_modF Hd.out (show k < d.length by rw [Hl.out]; exact hkn)) hmk
 have hmd := md_get hmk
 have Hmd := Lib.hid hmd
 rw [hmd] at hpl
 obtain ⟨ad, m', E0, k0, E1, k1, E2, k2, E3, k3, rfl, hab, hx, hro, ⟨ml0, ml1, ml2, ml3⟩, t0, t1, t2, t3⟩ := mod_row hr hkn
 obtain rfl : m = m' := Option.some.inj (hmk.symm.trans hx)
 obtain ⟨n0, hn0⟩ : ∃ n0, m.1.length = n0 := ⟨_, rfl⟩
 obtain ⟨n1, hn1⟩ : ∃ n1, m.2.1.length = n1 := ⟨_, rfl⟩
 obtain ⟨n2, hn2⟩ : ∃ n2, m.2.2.1.length = n2 := ⟨_, rfl⟩
 obtain ⟨n3, hn3⟩ : ∃ n3, m.2.2.2.length = n3 := ⟨_, rfl⟩
 obtain ⟨b0, b1, b2, b3⟩ : n0 ≤ 30 ∧ n1 ≤ 30 ∧ n2 ≤ 3 ∧ n3 ≤ 2 := ⟨by rw [← hn0]; exact MO.n0, by rw [← hn1]; exact MO.n1, by rw [← hn2]; exact MO.n2, by rw [← hn3]; exact MO.n3⟩
 rw [portsM_eq MO.n0] at hpl
 rw [hn0, hn1, hn2, hn3] at hro
 rw [hn0] at t0
 rw [hn1] at t1
 rw [hn2] at t2
 rw [hn3] at t3
 have Hn := Lib.hid (And.intro hn0 (And.intro hn1 (And.intro hn2 hn3)))
 obtain ⟨w0, w1, w2, w3, hv, rp0, rp1, rp2, rp3⟩ := hro
 injection hv with hv
 injection hv with hv
 injection hv with hva hv
 injection hv with hvb hv
 injection hv with hvc hv
 injection hv with hvd hv
 subst hva hvb hvc hvd
 have R0 := Lib.hid rp0
 have R1 := Lib.hid rp1
 have R2 := Lib.hid rp2
 have R3 := Lib.hid rp3
 have g1 : (0 : Int) ≤ (k : Int) := by omega
 have g2 : (k : Int) < (n : Int) := by omega
 obtain ⟨as0, cs0, rfl, _, _, _⟩ := own_form hfs.s0
 obtain ⟨as3, cs3, rfl, _, _, _⟩ := own_form hfs.s3
 obtain ⟨as1, cs1, rfl⟩ : ∃ as1 cs1, v1 = .slice as1 f.2.1.length cs1 := by
  obtain ⟨R, xs, h1⟩ := hfs.s1
  have h2 := h1.own
  rw [List.length_map] at h2
  obtain ⟨a, c, h, _⟩ := own_form h2
  exact ⟨a, c, h⟩
 have HFS := Lib.hid hfs
 have Hpo := Lib.hid hpo
 have Hrd := Lib.hid hr
 obtain ⟨U0, hU0⟩ : ∃ U0, U0 = (((w.alloc (.cells #[.slice (some ad) n c] 36)).alloc (.cells #[.slice as0 f.1.length cs0, .slice as1 f.2.1.length cs1, .slice none 0 0, .slice as3 f.2.2.length cs3] 31)).alloc (.cells #[.slice none 0 0, .slice none 0 0, .slice none 0 0, .slice none 0 0] 31)) := ⟨_, rfl⟩
 obtain ⟨gd, hgd⟩ : ∃ g, g = w.heap.size := ⟨_, rfl⟩
 obtain ⟨gF, hgF⟩ : ∃ g, g = w.heap.size + 1 := ⟨_, rfl⟩
 obtain ⟨gr, hgr⟩ : ∃ g, g = w.heap.size + 1 + 1 := ⟨_, rfl⟩
 have HXD0 := Lib.hid (show Blk U0 gd 36 #[.slice (some ad) n c] by rw [hU0, hgd]; exact ((Blk.new _ _ _).alloc _).alloc _)
 have HXF0 := Lib.hid (show MB U0 gF (.slice as0 f.1.length cs0) (.slice as1 f.2.1.length cs1) (.slice as3 f.2.2.length cs3) by rw [hU0, hgF]; exact (blk_new_at (by simp)).alloc _)
 have HXR0 := Lib.hid (show Blk U0 gr 31 #[.slice none 0 0, .slice none 0 0, .slice none 0 0, .slice none 0 0] by rw [hU0, hgr]; exact blk_new_at (by simp))
 have HB0 := Lib.hid (show Below w.heap.size w U0 by rw [hU0]; exact (((Below.refl _ _).alloc (Nat.le_refl _) _).alloc (by simp) _).alloc (by simp; omega) _)
 have hU0s : U0.heap.size = w.heap.size + 1 + 1 + 1 := by rw [hU0]; simp
 have HU0 := Lib.hid hU0
 have hltw := hS _ hab
 have T0 := (HB0.out.cell (p := ad.add (k * 4)) (by rw [block_of_add]; omega)).trans t0
 have T1 := (HB0.out.cell (p := nxt (ad.add (k * 4)) 1) (by rw [nxt_block]; omega)).trans t1
 have T2 := (HB0.out.cell (p := nxt (ad.add (k * 4)) 2) (by rw [nxt_block]; omega)).trans t2
 have T3 := (HB0.out.cell (p := nxt (ad.add (k * 4)) 3) (by rw [nxt_block]; omega)).trans t3
 obtain ⟨U, hU⟩ : ∃ U, U = U0.alloc (.cells #[.slice E0 n0 k0, .slice E1 n1 k1, .slice E2 n2 k2, .slice E3 n3 k3] 31) := ⟨_, rfl⟩
 obtain ⟨gm, hgm⟩ : ∃ g, g = U0.heap.size := ⟨_, rfl⟩
 have HXD := Lib.hid (show Blk U gd 36 #[.slice (some ad) n c] by rw [hU]; exact HXD0.out.alloc _)
 have HXF := Lib.hid (show MB U gF (.slice as0 f.1.length cs0) (.slice as1 f.2.1.length cs1) (.slice as3 f.2.2.length cs3) by rw [hU]; exact HXF0.out.alloc _)
 have HXR := Lib.hid (show Blk U gr 31 #[.slice none 0 0, .slice none 0 0, .slice none 0 0, .slice none 0 0] by rw [hU]; exact HXR0.out.alloc _)
 have HXM := Lib.hid (show Blk U gm 31 #[.slice E0 n0 k0, .slice E1 n1 k1, .slice E2 n2 k2, .slice E3 n3 k3] by rw [hU, hgm]; exact Blk.new _ _ _)
 have HBU := Lib.hid (show Below w.heap.size w U by rw [hU]; exact HB0.out.alloc (by omega) _)
 have hUs : U.heap.size = U0.heap.size + 1 := by rw [hU]; simp
 have HpoU := Lib.hid (own_below Hpo.out HBU.out (Nat.le_refl _))
 have HSU := Lib.hid (HFS.out.below HBU.out)
 have HU := Lib.hid hU
 have HUs := Lib.hid hUs
 have HU0s := Lib.hid hU0s
 have Hg := Lib.hid (And.intro hgd (And.intro hgF (And.intro hgr hgm)))
 have hU1 : gm < U.heap.size := by omega
 have hd1 : w.heap.size ≤ gd := by omega
 have hd2 : gd < gF := by omega
 have hd3 : gF < gr := by omega
 have hd4 : gr < gm := by omega
 have hgr1 : ¬ gr = gF := by omega
 have hgm1 : ¬ gm = gF := by omega
 have hgd1 : ¬ gd = gF := by omega
 obtain ⟨U2, hU2⟩ : ∃ U2, U2 = U.alloc (.cells #[] 3) := ⟨_, rfl⟩
 have HB2 := Lib.hid (show Below U.heap.size U U2 by rw [hU2]; exact (Below.refl _ _).alloc (Nat.le_refl _) _)
 have HE2 := Lib.hid (show U2.ownsRow U.heap.size 3 1 (.slice (some ⟨U.heap.size, 0, none⟩) 0 0) 0 (ints []) by rw [hU2]; exact World.ownsRow_made (base := U.heap.size) (size := 1) (e := 3) U #[] 0 (Nat.le_refl _) (by unfold maxLen; omega) rfl)
 have HU2 := Lib.hid hU2
 clear hU hU2 hgd hgF hgr hgm hUs hU0 hU0s t0 t1 t2 t3 hltw hmk hmd hx rp0 rp1 rp2 rp3 hn0 hn1 hn2 hn3 ml0 ml1 ml2 ml3 hfs hpo hr
 go_enter Try.func16, Try.ntmps16
 go_upto_region 1 with fail
 rw [← HU0.out, ← Hg.out.2.2.1, ← Hg.out.2.1, ← Hg.out.1]
 have y0 := blkS1 HXD0.out
 go_wp2_with fail
 rw [← HU.out, ← HU2.out, ← HUs.out, ← Hg.out.2.2.2]
 clear y0 T0 T1 T2 T3
 go_loopw [15, 16, 17, 18] (fun idv nv sv _ wr => ∃ (j : Nat) (s : SgSt) (u0 : Value), j ≤ n0 ∧ sv = .int .i64 j ∧ nv = .int .i64 (s.2.1 : Int) ∧ Hid ((m.1.take j).foldlM (sgF cpd param ports) ([], 0, f.1) = some s) ∧ wr.ownsRow U.heap.size 3 1 idv s.1.length (ints s.1) ∧ MB wr gF u0 (.slice as1 f.2.1.length cs1) (.slice as3 f.2.2.length cs3) ∧ FlS wr lo u0 (.slice as1 f.2.1.length cs1) (.slice as3 f.2.2.length cs3) s.2.2 f.2.1 f.2.2 ∧ ChP lo flS (fun b => b = gF) U wr) (fun _ _ sv _ _ => n0 - (intOf sv).toNat)
 case atStart => exact ⟨0, ([], 0, f.1), _, Nat.zero_le _, rfl, rfl, Lib.hid rfl, HE2.out, HXF.out.below HB2.out HXF.out.lt, HSU.out.below HB2.out, ChP.of_below _ _ _ HB2.out⟩
 case round =>
  obtain ⟨j, s, u0, hj, rfl, rfl, hst, hown, hfb, hfs, hch⟩ := hrel
  have hso := sgs_ok (sg := f.1) hpb (fun hc => hpl hc) j s (by have := Hn.out; omega) hst.out
  have hsl : s.1.length = j := by rw [hso.len, List.length_take]; have := Hn.out; omega
  have Hsl := Lib.hid hsl
  have hslj : s.1.length ≤ 30 := by omega
  clear hsl
  have Hst := Lib.hid hst.out
  have HFr := Lib.hid hfb
  have HSr := Lib.hid hfs
  have Hch := Lib.hid hch
  have hzr := hch.size
  have HBw := Lib.hid (show Below lo w wr from ((HBU.out.mono hlo).trans (hch.below (by have := HBU.out.size; omega) (fun b hb => by omega))))
  have HXr := Lib.hid (hch.blk HXM.out (by decide) hgm1)
  obtain ⟨at0, ct0, rfl, _, _, _⟩ := own_form hfs.s0
  obtain ⟨Ao, co, rfl, _, _, _⟩ := own_form hown
  have Hown := Lib.hid hown
  clear hst hown hfb hfs hch
  obtain ⟨y0, y1, y2, y3⟩ := blkS4 HXr.out
  have g3 : (0 : Int) ≤ (j : Int) := by omega
  by_cases hlt : j < n0
  ·obtain ⟨ad2, x0, x1, x2, rfl, hab2, hx, e0, e1, e2⟩ := fSignalS_row (R0.out.under hS HBw.out) hlt
   have g4 : (j : Int) < (n0 : Int) := by omega
   obtain ⟨W0, hW0⟩ : ∃ W0, W0 = wr.alloc (.cells #[.int .i64 x0, .int .i64 x1, .int .i64 x2] 73) := ⟨_, rfl⟩
   have HX0 := Lib.hid (show Blk W0 wr.heap.size 73 #[.int .i64 x0, .int .i64 x1, .int .i64 x2] by rw [hW0]; exact Blk.new _ _ _)
   have HW0 := Lib.hid (show Below wr.heap.size wr W0 by rw [hW0]; exact (Below.refl _ _).alloc (Nat.le_refl _) _)
   have Hx := Lib.hid hx
   clear hx
   go_upto_region 8 with fail
   rw [← hW0]
   clear hW0 e0 e1 e2 y0 y1 y2 y3
   obtain ⟨d0, d1, d2⟩ := blkS3 HX0.out
   have f1 := HX0.out.frozen 1
   by_cases hw : x1 = 0
   ·subst hw
    have Hwd := Lib.hid (show wdF param 0 = param from rfl)
    go_upto_region 10 with fail
    obtain ⟨W1, hW1⟩ : ∃ W1, W1 = W0.setCell ⟨wr.heap.size, 1, none⟩ (.int .i64 param) := ⟨_, rfl⟩
    rw [← hW1]
    have HX1 := Lib.hid (show Blk W1 wr.heap.size 73 #[.int .i64 x0, .int .i64 (param), .int .i64 x2] by rw [hW1]; exact HX0.out.set_ 1 _)
    have HK1 := Lib.hid (show Below wr.heap.size wr W1 by rw [hW1]; exact HW0.out.setCell (p := ⟨wr.heap.size, 1, none⟩) (Nat.le_refl _) _)
    have zW1 : wr.heap.size < W1.heap.size := HX1.out.lt
    have HP1 := Lib.hid (own_below Hown.out HK1.out (Nat.le_refl _))
    have HF1 := Lib.hid (HFr.out.below HK1.out HFr.out.lt)
    have HS1 := Lib.hid (HSr.out.below HK1.out)
    have HC1 := Lib.hid (Hch.out.bel HK1.out)
    clear hW1 d0 d1 d2 f1
    obtain ⟨d0, d1, d2⟩ := blkS3 HX1.out
    cases cpd with
    | false =>
     have HG := Lib.hid (show sgF false param ports s (x0, 0, x2) = some (s.1 ++ [(s.2.2.length : Int)], s.2.1, s.2.2 ++ [(x0, param, x2)]) by unfold sgF; rw [if_neg (by simp), Hwd.out])
     obtain ⟨y0, y1, y2, y3⟩ := blkS4 HF1.out
     obtain ⟨i0, hi, hz0, hz1, hz2⟩ := info_parts Try.infoIntC
     go_wp2_with (at_builtin; refine wpList_append_any _ rfl _ _ 47 rfl (U.heap.size) 3 i0 (.int .i64 0) 1 8 Try.underlying47 hi hz0 hz1 hz2 rfl (by decide) _ _ _ rfl (HP1.out.alloc _) _ _ 1 1 _ rfl (reads_new _ _ 1 1 rfl) (by intro u hu; simp at hu; first | (subst hu; rfl) | (rcases hu with rfl | rfl <;> rfl) | (rcases hu with rfl | rfl | rfl <;> rfl)) (by unfold maxLen; omega) (by omega) (by (try simp) <;> (try omega)) ?_; intro v8 w8 hown8 hgrow8 hblk8; refine stopX ?_)
     obtain ⟨Ai, ci, rfl, _, _, _⟩ := own_form hown8
     have HP8 := Lib.hid (show w8.ownsRow U.heap.size 3 1 (.slice Ai (s.1.length + 1) ci) (s.1.length + 1) (ints (s.1 ++ [((s.2.2.length : Nat) : Int)])) by rw [ints_app]; exact hown8)
     have hbl := (Below.refl W1.heap.size W1).alloc (Nat.le_refl _) (.cells #[.int .i64 (((s.2.2.length : Nat) : Int))] 3)
     have hna := own_below HP1.out hbl (Nat.le_refl _)
     have HC8 := Lib.hid ((HC1.out.bel hbl).rowN hna (Nat.le_refl _) hgrow8)
     have ngF : ¬ (Value.slice Ao s.1.length co).ownBlock = some gF := fun h1 => by have := (HP1.out.lt _ h1).1; omega
     have nbx : ¬ (Value.slice Ao s.1.length co).ownBlock = some wr.heap.size := fun h1 => by have := (Hown.out.lt _ h1).2; omega
     have HF8 := Lib.hid ((HF1.out.below hbl HF1.out.lt).grown hgrow8 (fun e => ngF e.symm))
     have HX8 := Lib.hid ((HX1.out.below hbl HX1.out.lt).grown hgrow8 (fun e => nbx e.symm))
     have HS8 := Lib.hid ((HS1.out.below hbl).only (only_row hgrow8) (grown_not hna (by decide)))
     have z8 := hgrow8.size
     try simp at z8
     clear hown8 hgrow8 hblk8 hbl hna ngF nbx
     clear y0 y1 y2 y3
     obtain ⟨y0, y1, y2, y3⟩ := blkS4 HF8.out
     obtain ⟨d0, d1, d2⟩ := blkS3 HX8.out
     have hsz0 := hso.hi
     rw [List.length_take] at hsz0
     have hfz := hsz.l0
     refine stopped ?_
     obtain ⟨i0, hi, hz0, hz1, hz2⟩ := info_parts Try.infSignalC
     go_wp2_with (at_builtin; refine wpList_append_any _ rfl _ _ 26 rfl (lo) 73 i0 (.agg #[.int .i64 0, .int .i64 0, .int .i64 0]) 3 24 Try.underlying26 hi hz0 hz1 hz2 rfl (by decide) _ _ _ rfl (HS8.out.s0.alloc _) _ _ 1 1 _ rfl (reads_new _ _ 1 3 rfl) (by intro u hu; simp at hu; first | (subst hu; rfl) | (rcases hu with rfl | rfl <;> rfl) | (rcases hu with rfl | rfl | rfl <;> rfl)) (by unfold maxLen; omega) (by omega) (by (try simp) <;> (try omega)) ?_; intro v9 w9 hown9 hgrow9 hblk9; refine stopX ?_)
     obtain ⟨A9, c9, rfl, _, _, _⟩ := own_form hown9
     have hbl := (Below.refl w8.heap.size w8).alloc (Nat.le_refl _) (.cells #[.int .i64 x0, .int .i64 (param), .int .i64 x2] 73)
     have ngF : ¬ (Value.slice at0 s.2.2.length ct0).ownBlock = some gF := own_blk_ne HS8.out.s0 HF8.out (by decide)
     have HS9 := Lib.hid ((HS8.out.below hbl).pushS (x := (x0, param, x2)) hown9 hgrow9)
     have HF9 := Lib.hid ((HF8.out.below hbl HF8.out.lt).grown hgrow9 (fun e => ngF e.symm))
     have HC9 := Lib.hid ((HC8.out.bel hbl).row (own_below HS8.out.s0 hbl (Nat.le_refl _)) (Nat.le_refl _) flS_sig hgrow9)
     have HP9 := Lib.hid (own_keep (own_below HP8.out hbl (Nat.le_refl _)) (fun g hg => (only_row hgrow9).block g (by have := (HP8.out.lt g hg).2; simp; omega) (fun hc => absurd ((own_of HS8.out.s0 hc).inj (own_of HP8.out hg)) (by decide))))
     have e0 := (blkS4 HF9.out).1
     have f0 := HF9.out.frozen 0
     clear hown9 hgrow9 hblk9 hbl ngF y0 y1 y2 y3 d0 d1 d2
     refine stopped ?_
     go_wp2_with fail
     clear e0 f0
     obtain ⟨wf, hwf⟩ : ∃ wf, wf = (w9.setCell ⟨gF, 0, none⟩ (.slice A9 (s.2.2.length + 1) c9)) := ⟨_, rfl⟩
     have HFf := Lib.hid (show MB wf gF (.slice A9 (s.2.2.length + 1) c9) (.slice as1 f.2.1.length cs1) (.slice as3 f.2.2.length cs3) by rw [hwf]; exact HF9.out.set_ 0 _)
     have HSf := Lib.hid (show FlS wf lo (.slice A9 (s.2.2.length + 1) c9) (.slice as1 f.2.1.length cs1) (.slice as3 f.2.2.length cs3) (s.2.2 ++ [(x0, param, x2)]) f.2.1 f.2.2 by rw [hwf]; exact fl_other HS9.out HF9.out.of (by decide) _ _)
     have HCf := Lib.hid (show ChP lo flS (fun b => b = gF) U wf by rw [hwf]; exact HC9.out.setP (p := ⟨gF, 0, none⟩) rfl _)
     have HPf := Lib.hid (show wf.ownsRow U.heap.size 3 1 (.slice Ai (s.1.length + 1) ci) (s.1.length + 1) (ints (s.1 ++ [(s.2.2.length : Int)])) by rw [hwf]; exact own_far HP9.out (fun g hg => by show g ≠ gF; have := (HP8.out.lt g hg).1; omega) _)
     rw [← hwf]
     clear hwf
     go_roundw
     case rel => exact ⟨j + 1, (s.1 ++ [(s.2.2.length : Int)], s.2.1, s.2.2 ++ [(x0, param, x2)]), _, by omega, by go_num, rfl, Lib.hid (by rw [foldlM_take Hx.out, Hst.out]; exact HG.out), by rw [List.length_append]; exact HPf.out, HFf.out, HSf.out, HCf.out⟩
     case measure => simp [intOf]; omega
    | true =>
     cases hip : isPort (x0, 0, x2) with
     | false =>
      have HG := Lib.hid (show sgF true param ports s (x0, 0, x2) = some (s.1 ++ [(s.2.2.length : Int)], s.2.1, s.2.2 ++ [(x0, param, x2)]) by unfold sgF; rw [if_neg (by simp [hip]), Hwd.out])
      have hx01 : x0 ≠ 0 ∧ x0 ≠ 1 := by
       have h1 := of_decide_eq_false hip
       simp only [not_or] at h1
       exact h1
      have hxa : (x0 == 0) = false := by simpa using hx01.1
      have hxb : (x0 == 1) = false := by simpa using hx01.2
      clear hx01 hip
      obtain ⟨y0, y1, y2, y3⟩ := blkS4 HF1.out
      obtain ⟨i0, hi, hz0, hz1, hz2⟩ := info_parts Try.infoIntC
      go_wp2_with (at_builtin; refine wpList_append_any _ rfl _ _ 47 rfl (U.heap.size) 3 i0 (.int .i64 0) 1 8 Try.underlying47 hi hz0 hz1 hz2 rfl (by decide) _ _ _ rfl (HP1.out.alloc _) _ _ 1 1 _ rfl (reads_new _ _ 1 1 rfl) (by intro u hu; simp at hu; first | (subst hu; rfl) | (rcases hu with rfl | rfl <;> rfl) | (rcases hu with rfl | rfl | rfl <;> rfl)) (by unfold maxLen; omega) (by omega) (by (try simp) <;> (try omega)) ?_; intro v8 w8 hown8 hgrow8 hblk8; refine stopX ?_)
      obtain ⟨Ai, ci, rfl, _, _, _⟩ := own_form hown8
      have HP8 := Lib.hid (show w8.ownsRow U.heap.size 3 1 (.slice Ai (s.1.length + 1) ci) (s.1.length + 1) (ints (s.1 ++ [((s.2.2.length : Nat) : Int)])) by rw [ints_app]; exact hown8)
      have hbl := (Below.refl W1.heap.size W1).alloc (Nat.le_refl _) (.cells #[.int .i64 (((s.2.2.length : Nat) : Int))] 3)
      have hna := own_below HP1.out hbl (Nat.le_refl _)
      have HC8 := Lib.hid ((HC1.out.bel hbl).rowN hna (Nat.le_refl _) hgrow8)
      have ngF : ¬ (Value.slice Ao s.1.length co).ownBlock = some gF := fun h1 => by have := (HP1.out.lt _ h1).1; omega
      have nbx : ¬ (Value.slice Ao s.1.length co).ownBlock = some wr.heap.size := fun h1 => by have := (Hown.out.lt _ h1).2; omega
      have HF8 := Lib.hid ((HF1.out.below hbl HF1.out.lt).grown hgrow8 (fun e => ngF e.symm))
      have HX8 := Lib.hid ((HX1.out.below hbl HX1.out.lt).grown hgrow8 (fun e => nbx e.symm))
      have HS8 := Lib.hid ((HS1.out.below hbl).only (only_row hgrow8) (grown_not hna (by decide)))
      have z8 := hgrow8.size
      try simp at z8
      clear hown8 hgrow8 hblk8 hbl hna ngF nbx
      clear y0 y1 y2 y3
      obtain ⟨y0, y1, y2, y3⟩ := blkS4 HF8.out
      obtain ⟨d0, d1, d2⟩ := blkS3 HX8.out
      have hsz0 := hso.hi
      rw [List.length_take] at hsz0
      have hfz := hsz.l0
      refine stopped ?_
      obtain ⟨i0, hi, hz0, hz1, hz2⟩ := info_parts Try.infSignalC
      go_wp2_with (at_builtin; refine wpList_append_any _ rfl _ _ 26 rfl (lo) 73 i0 (.agg #[.int .i64 0, .int .i64 0, .int .i64 0]) 3 24 Try.underlying26 hi hz0 hz1 hz2 rfl (by decide) _ _ _ rfl (HS8.out.s0.alloc _) _ _ 1 1 _ rfl (reads_new _ _ 1 3 rfl) (by intro u hu; simp at hu; first | (subst hu; rfl) | (rcases hu with rfl | rfl <;> rfl) | (rcases hu with rfl | rfl | rfl <;> rfl)) (by unfold maxLen; omega) (by omega) (by (try simp) <;> (try omega)) ?_; intro v9 w9 hown9 hgrow9 hblk9; refine stopX ?_)
      obtain ⟨A9, c9, rfl, _, _, _⟩ := own_form hown9
      have hbl := (Below.refl w8.heap.size w8).alloc (Nat.le_refl _) (.cells #[.int .i64 x0, .int .i64 (param), .int .i64 x2] 73)
      have ngF : ¬ (Value.slice at0 s.2.2.length ct0).ownBlock = some gF := own_blk_ne HS8.out.s0 HF8.out (by decide)
      have HS9 := Lib.hid ((HS8.out.below hbl).pushS (x := (x0, param, x2)) hown9 hgrow9)
      have HF9 := Lib.hid ((HF8.out.below hbl HF8.out.lt).grown hgrow9 (fun e => ngF e.symm))
      have HC9 := Lib.hid ((HC8.out.bel hbl).row (own_below HS8.out.s0 hbl (Nat.le_refl _)) (Nat.le_refl _) flS_sig hgrow9)
      have HP9 := Lib.hid (own_keep (own_below HP8.out hbl (Nat.le_refl _)) (fun g hg => (only_row hgrow9).block g (by have := (HP8.out.lt g hg).2; simp; omega) (fun hc => absurd ((own_of HS8.out.s0 hc).inj (own_of HP8.out hg)) (by decide))))
      have e0 := (blkS4 HF9.out).1
      have f0 := HF9.out.frozen 0
      clear hown9 hgrow9 hblk9 hbl ngF y0 y1 y2 y3 d0 d1 d2
      refine stopped ?_
      go_wp2_with fail
      clear e0 f0
      obtain ⟨wf, hwf⟩ : ∃ wf, wf = (w9.setCell ⟨gF, 0, none⟩ (.slice A9 (s.2.2.length + 1) c9)) := ⟨_, rfl⟩
      have HFf := Lib.hid (show MB wf gF (.slice A9 (s.2.2.length + 1) c9) (.slice as1 f.2.1.length cs1) (.slice as3 f.2.2.length cs3) by rw [hwf]; exact HF9.out.set_ 0 _)
      have HSf := Lib.hid (show FlS wf lo (.slice A9 (s.2.2.length + 1) c9) (.slice as1 f.2.1.length cs1) (.slice as3 f.2.2.length cs3) (s.2.2 ++ [(x0, param, x2)]) f.2.1 f.2.2 by rw [hwf]; exact fl_other HS9.out HF9.out.of (by decide) _ _)
      have HCf := Lib.hid (show ChP lo flS (fun b => b = gF) U wf by rw [hwf]; exact HC9.out.setP (p := ⟨gF, 0, none⟩) rfl _)
      have HPf := Lib.hid (show wf.ownsRow U.heap.size 3 1 (.slice Ai (s.1.length + 1) ci) (s.1.length + 1) (ints (s.1 ++ [(s.2.2.length : Int)])) by rw [hwf]; exact own_far HP9.out (fun g hg => by show g ≠ gF; have := (HP8.out.lt g hg).1; omega) _)
      rw [← hwf]
      clear hwf
      go_roundw
      case rel => exact ⟨j + 1, (s.1 ++ [(s.2.2.length : Int)], s.2.1, s.2.2 ++ [(x0, param, x2)]), _, by omega, by go_num, rfl, Lib.hid (by rw [foldlM_take Hx.out, Hst.out]; exact HG.out), by rw [List.length_append]; exact HPf.out, HFf.out, HSf.out, HCf.out⟩
      case measure => simp [intOf]; omega
     | true =>
      have hx01 : x0 = 0 ∨ x0 = 1 := of_decide_eq_true hip
      rcases hx01 with hx01 | hx01
      ·subst hx01
       clear d0 d1 d2
       have hpx : s.2.1 < ports.length := by
        have h1 := hso.nxt
        rw [if_pos (by rfl)] at h1
        rw [h1, hpl rfl]
        exact (List.getElem?_eq_some_iff.1 (idxL_at Hx.out hip)).1
       obtain ⟨pn, hpn⟩ : ∃ pn : Nat, ports[s.2.1]? = some (pn : Int) ∧ pn < s.2.2.length := by
        have h1 := hpb _ (List.getElem_mem hpx)
        have h2 := hso.lo
        exact ⟨(ports[s.2.1]).toNat, by rw [List.getElem?_eq_getElem hpx]; congr 1; omega, by omega⟩
       obtain ⟨hpn, hpn2⟩ := hpn
       have hpd : ports.getD s.2.1 0 = (pn : Int) := by simp [List.getD, hpn]
       have hnp : ports.length = np := by have h1 := Hpo.out.1; rw [ints_len] at h1; omega
       have Hpr := Lib.hid (HC1.out.own HpoU.out (by decide) (fun g hg hc => by have := (Hpo.out.lt g hg).2; omega))
       obtain ⟨gq, hgq⟩ : ∃ gq, Ap = some ⟨gq, 0, none⟩ := by
        obtain ⟨_, _, hv, _, _, h2⟩ := own_form Hpo.out
        injection hv with hA
        obtain ⟨g, h3, _⟩ := h2 (by omega)
        exact ⟨g, hA.trans h3⟩
       subst hgq
       have hq0 := own_at Hpr.out hpn
       have hbs : s.2.1 ≤ 30 := by have h1 := hpl rfl; have h2 := idxL_le (p := isPort) m.1; have h3 := MO.n0; omega
       have g5 : (0 : Int) ≤ (s.2.1 : Int) := by omega
       have g6 : (s.2.1 : Int) < (np : Int) := by omega
       have g7 : (0 : Int) ≤ (pn : Int) := by omega
       have g8 : (pn : Int) < (s.2.2.length : Int) := by omega
       obtain ⟨y0, y1, y2, y3⟩ := blkS4 HF1.out
       obtain ⟨d0, d1, d2⟩ := blkS3 HX1.out
       obtain ⟨⟨z0, z1, z2⟩, hz⟩ : ∃ z, s.2.2[pn]? = some z := ⟨_, List.getElem?_eq_getElem hpn2⟩
       obtain ⟨adz, zz, hadz, _, hzz, hzc⟩ := Reads.rec_at eSg_len (by decide) (Reads.of_own HS1.out.s0) hpn2
       obtain rfl : (z0, z1, z2) = zz := Option.some.inj (hz.symm.trans hzz)
       subst hadz
       have hz1c := hzc 1 z1 rfl
       rw [← nxt_add _ _ (by decide)] at hz1c
       have HWz := Lib.hid (show (s.2.2.getD (ports.getD s.2.1 0).toNat (0, 0, 0)).2.1 = z1 by rw [hpd, Int.toNat_natCast]; simp [List.getD, hz])
       have HGx := Lib.hid (show sgF true param ports s (0, 0, x2) = (if z1 = param then some (s.1 ++ [(pn : Int)], s.2.1 + 1, s.2.2) else none) by
        unfold sgF
        rw [if_pos (by simp [hip]), HWz.out, Hwd.out, hpd])
       clear hz hzz hzc hpn hpd
       go_upto_region 11 with fail
       by_cases hzw : z1 = param
       ·have HG := Lib.hid (show sgF true param ports s (0, 0, x2) = some (s.1 ++ [(pn : Int)], s.2.1 + 1, s.2.2) by rw [HGx.out, if_pos hzw])
        have hzb : (z1 != param) = false := by simp [hzw]
        clear hzw
        refine wp_region_lex (by kernel_rfl) (by kernel_rfl) (Cls (fun x => x = W1.drew)) (Cls.mk' rfl) ?_
        have lexNE : Nonempty (Wd (fun x => x = W1.drew)) := ⟨⟨_, rfl⟩⟩
        have lexW : ∀ W : Wd (fun x => x = W1.drew), W.val = W1.drew := fun W => W.ok
        (repeat (first | (refine lex_r fun K hK => ?_; go_big_quiet_op; refine hK _ ?_; clear hK K) | (refine lex_k fun K hK => ?_; go_simp; refine hK _ ?_; clear hK K)))
        (refine lex_nil ?_)
        clear lexNE lexW y0 y1 y2 y3 hz1c d0 d1 d2
        have hq1 : W1.drew.cell? ⟨gq, s.2.1, none⟩ = some (.int .i64 (pn : Int)) := hq0
        have HP1 := Lib.hid (own_drew HP1.out)
        have HF1 := Lib.hid (show MB W1.drew gF _ _ _ from HF1.out.drew)
        have HX1 := Lib.hid (show Blk W1.drew wr.heap.size 73 _ from HX1.out.drew)
        have HS1 := Lib.hid HS1.out.drew
        have HC1 := Lib.hid HC1.out.drew
        have zW1 : wr.heap.size < W1.drew.heap.size := zW1
        obtain ⟨W1, hW1⟩ : ∃ x, x = W1.drew := ⟨_, rfl⟩
        try rw [← hW1] at hq1
        try rw [← hW1] at HRd
        rw [← hW1] at HP1 HF1 HX1 HS1 HC1 zW1
        rw [← hW1]
        clear hW1
        have hq0 := hq1
        obtain ⟨i0, hi, hz0, hz1, hz2⟩ := info_parts Try.infoIntC
        go_wp2_with (at_builtin; refine wpList_append_any _ rfl _ _ 47 rfl (U.heap.size) 3 i0 (.int .i64 0) 1 8 Try.underlying47 hi hz0 hz1 hz2 rfl (by decide) _ _ _ rfl (HP1.out.alloc _) _ _ 1 1 _ rfl (reads_new _ _ 1 1 rfl) (by intro u hu; simp at hu; first | (subst hu; rfl) | (rcases hu with rfl | rfl <;> rfl) | (rcases hu with rfl | rfl | rfl <;> rfl)) (by unfold maxLen; omega) (by omega) (by (try simp) <;> (try omega)) ?_; intro v8 w8 hown8 hgrow8 hblk8; refine stopX ?_)
        obtain ⟨Ai, ci, rfl, _, _, _⟩ := own_form hown8
        have HP8 := Lib.hid (show w8.ownsRow U.heap.size 3 1 (.slice Ai (s.1.length + 1) ci) (s.1.length + 1) (ints (s.1 ++ [(pn : Int)])) by rw [ints_app]; exact hown8)
        have hbl := (Below.refl W1.heap.size W1).alloc (Nat.le_refl _) (.cells #[.int .i64 ((pn : Int))] 3)
        have hna := own_below HP1.out hbl (Nat.le_refl _)
        have HC8 := Lib.hid ((HC1.out.bel hbl).rowN hna (Nat.le_refl _) hgrow8)
        have ngF : ¬ (Value.slice Ao s.1.length co).ownBlock = some gF := fun h1 => by have := (HP1.out.lt _ h1).1; omega
        have nbx : ¬ (Value.slice Ao s.1.length co).ownBlock = some wr.heap.size := fun h1 => by have := (Hown.out.lt _ h1).2; omega
        have HF8 := Lib.hid ((HF1.out.below hbl HF1.out.lt).grown hgrow8 (fun e => ngF e.symm))
        have HX8 := Lib.hid ((HX1.out.below hbl HX1.out.lt).grown hgrow8 (fun e => nbx e.symm))
        have HS8 := Lib.hid ((HS1.out.below hbl).only (only_row hgrow8) (grown_not hna (by decide)))
        have z8 := hgrow8.size
        try simp at z8
        clear hown8 hgrow8 hblk8 hbl hna ngF nbx
        clear hq0
        refine stopped ?_
        go_wp2_with fail
        go_roundw
        case rel => exact ⟨j + 1, (s.1 ++ [(pn : Int)], s.2.1 + 1, s.2.2), _, by omega, by go_num, by go_num, Lib.hid (by rw [foldlM_take Hx.out, Hst.out]; exact HG.out), by rw [List.length_append]; exact HP8.out, HF8.out, HS8.out, HC8.out⟩
        case measure => simp [intOf]; omega
       ·have HG := Lib.hid (show sgF true param ports s (0, 0, x2) = none by rw [HGx.out, if_neg hzw])
        have hzb : (z1 != param) = true := by simp [hzw]
        have HN := Lib.hid (show addF d (fu + 1) k param ports true f = none from addF_none1 Hmd.out (j := j + 1) (by rw [foldlM_take Hx.out, Hst.out]; exact HG.out))
        have HRw := Lib.hid (HC1.out.blk HXR.out (by decide) hgr1)
        clear hzw
        refine wp_region_lex (by kernel_rfl) (by kernel_rfl) (Cls (fun x => x = W1.drew)) (Cls.mk' rfl) ?_
        have lexNE : Nonempty (Wd (fun x => x = W1.drew)) := ⟨⟨_, rfl⟩⟩
        have lexW : ∀ W : Wd (fun x => x = W1.drew), W.val = W1.drew := fun W => W.ok
        (repeat (first | (refine lex_r fun K hK => ?_; go_big_quiet_op; refine hK _ ?_; clear hK K) | (refine lex_k fun K hK => ?_; go_simp; refine hK _ ?_; clear hK K)))
        (refine lex_nil ?_)
        clear lexNE lexW y0 y1 y2 y3 hz1c d0 d1 d2
        have HRd := Lib.hid (show Blk W1.drew gr 31 #[.slice none 0 0, .slice none 0 0, .slice none 0 0, .slice none 0 0] from HRw.out.drew)
        have hq1 : W1.drew.cell? ⟨gq, s.2.1, none⟩ = some (.int .i64 (pn : Int)) := hq0
        have HP1 := Lib.hid (own_drew HP1.out)
        have HF1 := Lib.hid (show MB W1.drew gF _ _ _ from HF1.out.drew)
        have HX1 := Lib.hid (show Blk W1.drew wr.heap.size 73 _ from HX1.out.drew)
        have HS1 := Lib.hid HS1.out.drew
        have HC1 := Lib.hid HC1.out.drew
        have zW1 : wr.heap.size < W1.drew.heap.size := zW1
        obtain ⟨W1, hW1⟩ : ∃ x, x = W1.drew := ⟨_, rfl⟩
        try rw [← hW1] at hq1
        try rw [← hW1] at HRd
        rw [← hW1] at HP1 HF1 HX1 HS1 HC1 zW1
        rw [← hW1]
        clear hW1
        obtain ⟨z0, z1, z2, z3⟩ := blkS4 HF1.out
        obtain ⟨r0, r1, r2, r3⟩ := blkS4 HRd.out
        have f0 := HRd.out.frozen 0
        have f1 := HRd.out.frozen 1
        have f2 := HRd.out.frozen 2
        have f3 := HRd.out.frozen 3
        go_wp2_with fail
        obtain ⟨wf, hwf⟩ : ∃ wf, wf = ((((W1.setCell ⟨gr, 0, none⟩ (.slice (some adz) s.2.2.length ct0)).setCell ⟨gr, 1, none⟩ (.slice as1 f.2.1.length cs1)).setCell ⟨gr, 2, none⟩ (.slice none 0 0)).setCell ⟨gr, 3, none⟩ (.slice as3 f.2.2.length cs3)) := ⟨_, rfl⟩
        have hRf : Blk wf gr 31 #[(.slice (some adz) s.2.2.length ct0), (.slice as1 f.2.1.length cs1), .slice none 0 0, (.slice as3 f.2.2.length cs3)] := by rw [hwf]; exact blk_four HRd.out
        have Kf := Lib.hid (show ChP lo flS noP w wf by rw [hwf]; exact (((((ChP.of_below lo flS noP HBU.out).trans' HC1.out (fun b hb hl => by omega)).setN (p := ⟨gr, 0, none⟩) (show w.heap.size ≤ gr by omega) _).setN (p := ⟨gr, 1, none⟩) (show w.heap.size ≤ gr by omega) _).setN (p := ⟨gr, 2, none⟩) (show w.heap.size ≤ gr by omega) _).setN (p := ⟨gr, 3, none⟩) (show w.heap.size ≤ gr by omega) _)
        have Sf := fun (sg : List TSignal) (ag : List TAssign) (mm : List TMem) (h : FlS W1 lo (.slice (some adz) s.2.2.length ct0) (.slice as1 f.2.1.length cs1) (.slice as3 f.2.2.length cs3) sg ag mm) => (show FlS wf lo (.slice (some adz) s.2.2.length ct0) (.slice as1 f.2.1.length cs1) (.slice as3 f.2.2.length cs3) sg ag mm by
         rw [hwf]
         exact fl_other (fl_other (fl_other (fl_other h HRd.out.of (by decide) _ _) ((HRd.out.set_ 0 _).of) (by decide) _ _) (((HRd.out.set_ 0 _).set_ 1 _).of) (by decide) _ _) ((((HRd.out.set_ 0 _).set_ 1 _).set_ 2 _).of) (by decide) _ _)
        obtain ⟨s0, s1, s2, s3⟩ := blkS4 hRf
        rw [← hwf]
        clear hwf
        refine bodyPost_ret (v := .tuple #[FV (.slice (some adz) s.2.2.length ct0) (.slice as1 f.2.1.length cs1) (.slice as3 f.2.2.length cs3), .bool false]) (by simp [results, Try.results16, go_sem, s0, s1, s2, s3]) rfl ?_
        unfold SAddQ
        rw [HN.out]
        exact ⟨Kf.out, _, _, _, _, _, _, _, _, _, rfl⟩
      ·subst hx01
       clear d0 d1 d2
       have hpx : s.2.1 < ports.length := by
        have h1 := hso.nxt
        rw [if_pos (by rfl)] at h1
        rw [h1, hpl rfl]
        exact (List.getElem?_eq_some_iff.1 (idxL_at Hx.out hip)).1
       obtain ⟨pn, hpn⟩ : ∃ pn : Nat, ports[s.2.1]? = some (pn : Int) ∧ pn < s.2.2.length := by
        have h1 := hpb _ (List.getElem_mem hpx)
        have h2 := hso.lo
        exact ⟨(ports[s.2.1]).toNat, by rw [List.getElem?_eq_getElem hpx]; congr 1; omega, by omega⟩
       obtain ⟨hpn, hpn2⟩ := hpn
       have hpd : ports.getD s.2.1 0 = (pn : Int) := by simp [List.getD, hpn]
       have hnp : ports.length = np := by have h1 := Hpo.out.1; rw [ints_len] at h1; omega
       have Hpr := Lib.hid (HC1.out.own HpoU.out (by decide) (fun g hg hc => by have := (Hpo.out.lt g hg).2; omega))
       obtain ⟨gq, hgq⟩ : ∃ gq, Ap = some ⟨gq, 0, none⟩ := by
        obtain ⟨_, _, hv, _, _, h2⟩ := own_form Hpo.out
        injection hv with hA
        obtain ⟨g, h3, _⟩ := h2 (by omega)
        exact ⟨g, hA.trans h3⟩
       subst hgq
       have hq0 := own_at Hpr.out hpn
       have hbs : s.2.1 ≤ 30 := by have h1 := hpl rfl; have h2 := idxL_le (p := isPort) m.1; have h3 := MO.n0; omega
       have g5 : (0 : Int) ≤ (s.2.1 : Int) := by omega
       have g6 : (s.2.1 : Int) < (np : Int) := by omega
       have g7 : (0 : Int) ≤ (pn : Int) := by omega
       have g8 : (pn : Int) < (s.2.2.length : Int) := by omega
       obtain ⟨y0, y1, y2, y3⟩ := blkS4 HF1.out
       obtain ⟨d0, d1, d2⟩ := blkS3 HX1.out
       obtain ⟨⟨z0, z1, z2⟩, hz⟩ : ∃ z, s.2.2[pn]? = some z := ⟨_, List.getElem?_eq_getElem hpn2⟩
       obtain ⟨adz, zz, hadz, _, hzz, hzc⟩ := Reads.rec_at eSg_len (by decide) (Reads.of_own HS1.out.s0) hpn2
       obtain rfl : (z0, z1, z2) = zz := Option.some.inj (hz.symm.trans hzz)
       subst hadz
       have hz1c := hzc 1 z1 rfl
       rw [← nxt_add _ _ (by decide)] at hz1c
       have HWz := Lib.hid (show (s.2.2.getD (ports.getD s.2.1 0).toNat (0, 0, 0)).2.1 = z1 by rw [hpd, Int.toNat_natCast]; simp [List.getD, hz])
       have HGx := Lib.hid (show sgF true param ports s (1, 0, x2) = (if z1 = param then some (s.1 ++ [(pn : Int)], s.2.1 + 1, s.2.2) else none) by
        unfold sgF
        rw [if_pos (by simp [hip]), HWz.out, Hwd.out, hpd])
       clear hz hzz hzc hpn hpd
       go_upto_region 11 with fail
       by_cases hzw : z1 = param
       ·have HG := Lib.hid (show sgF true param ports s (1, 0, x2) = some (s.1 ++ [(pn : Int)], s.2.1 + 1, s.2.2) by rw [HGx.out, if_pos hzw])
        have hzb : (z1 != param) = false := by simp [hzw]
        clear hzw
        refine wp_region_lex (by kernel_rfl) (by kernel_rfl) (Cls (fun x => x = W1.drew)) (Cls.mk' rfl) ?_
        have lexNE : Nonempty (Wd (fun x => x = W1.drew)) := ⟨⟨_, rfl⟩⟩
        have lexW : ∀ W : Wd (fun x => x = W1.drew), W.val = W1.drew := fun W => W.ok
        (repeat (first | (refine lex_r fun K hK => ?_; go_big_quiet_op; refine hK _ ?_; clear hK K) | (refine lex_k fun K hK => ?_; go_simp; refine hK _ ?_; clear hK K)))
        (refine lex_nil ?_)
        clear lexNE lexW y0 y1 y2 y3 hz1c d0 d1 d2
        have hq1 : W1.drew.cell? ⟨gq, s.2.1, none⟩ = some (.int .i64 (pn : Int)) := hq0
        have HP1 := Lib.hid (own_drew HP1.out)
        have HF1 := Lib.hid (show MB W1.drew gF _ _ _ from HF1.out.drew)
        have HX1 := Lib.hid (show Blk W1.drew wr.heap.size 73 _ from HX1.out.drew)
        have HS1 := Lib.hid HS1.out.drew
        have HC1 := Lib.hid HC1.out.drew
        have zW1 : wr.heap.size < W1.drew.heap.size := zW1
        obtain ⟨W1, hW1⟩ : ∃ x, x = W1.drew := ⟨_, rfl⟩
        try rw [← hW1] at hq1
        try rw [← hW1] at HRd
        rw [← hW1] at HP1 HF1 HX1 HS1 HC1 zW1
        rw [← hW1]
        clear hW1
        have hq0 := hq1
        obtain ⟨i0, hi, hz0, hz1, hz2⟩ := info_parts Try.infoIntC
        go_wp2_with (at_builtin; refine wpList_append_any _ rfl _ _ 47 rfl (U.heap.size) 3 i0 (.int .i64 0) 1 8 Try.underlying47 hi hz0 hz1 hz2 rfl (by decide) _ _ _ rfl (HP1.out.alloc _) _ _ 1 1 _ rfl (reads_new _ _ 1 1 rfl) (by intro u hu; simp at hu; first | (subst hu; rfl) | (rcases hu with rfl | rfl <;> rfl) | (rcases hu with rfl | rfl | rfl <;> rfl)) (by unfold maxLen; omega) (by omega) (by (try simp) <;> (try omega)) ?_; intro v8 w8 hown8 hgrow8 hblk8; refine stopX ?_)
        obtain ⟨Ai, ci, rfl, _, _, _⟩ := own_form hown8
        have HP8 := Lib.hid (show w8.ownsRow U.heap.size 3 1 (.slice Ai (s.1.length + 1) ci) (s.1.length + 1) (ints (s.1 ++ [(pn : Int)])) by rw [ints_app]; exact hown8)
        have hbl := (Below.refl W1.heap.size W1).alloc (Nat.le_refl _) (.cells #[.int .i64 ((pn : Int))] 3)
        have hna := own_below HP1.out hbl (Nat.le_refl _)
        have HC8 := Lib.hid ((HC1.out.bel hbl).rowN hna (Nat.le_refl _) hgrow8)
        have ngF : ¬ (Value.slice Ao s.1.length co).ownBlock = some gF := fun h1 => by have := (HP1.out.lt _ h1).1; omega
        have nbx : ¬ (Value.slice Ao s.1.length co).ownBlock = some wr.heap.size := fun h1 => by have := (Hown.out.lt _ h1).2; omega
        have HF8 := Lib.hid ((HF1.out.below hbl HF1.out.lt).grown hgrow8 (fun e => ngF e.symm))
        have HX8 := Lib.hid ((HX1.out.below hbl HX1.out.lt).grown hgrow8 (fun e => nbx e.symm))
        have HS8 := Lib.hid ((HS1.out.below hbl).only (only_row hgrow8) (grown_not hna (by decide)))
        have z8 := hgrow8.size
        try simp at z8
        clear hown8 hgrow8 hblk8 hbl hna ngF nbx
        clear hq0
        refine stopped ?_
        go_wp2_with fail
        go_roundw
        case rel => exact ⟨j + 1, (s.1 ++ [(pn : Int)], s.2.1 + 1, s.2.2), _, by omega, by go_num, by go_num, Lib.hid (by rw [foldlM_take Hx.out, Hst.out]; exact HG.out), by rw [List.length_append]; exact HP8.out, HF8.out, HS8.out, HC8.out⟩
        case measure => simp [intOf]; omega
       ·have HG := Lib.hid (show sgF true param ports s (1, 0, x2) = none by rw [HGx.out, if_neg hzw])
        have hzb : (z1 != param) = true := by simp [hzw]
        have HN := Lib.hid (show addF d (fu + 1) k param ports true f = none from addF_none1 Hmd.out (j := j + 1) (by rw [foldlM_take Hx.out, Hst.out]; exact HG.out))
        have HRw := Lib.hid (HC1.out.blk HXR.out (by decide) hgr1)
        clear hzw
        refine wp_region_lex (by kernel_rfl) (by kernel_rfl) (Cls (fun x => x = W1.drew)) (Cls.mk' rfl) ?_
        have lexNE : Nonempty (Wd (fun x => x = W1.drew)) := ⟨⟨_, rfl⟩⟩
        have lexW : ∀ W : Wd (fun x => x = W1.drew), W.val = W1.drew := fun W => W.ok
        (repeat (first | (refine lex_r fun K hK => ?_; go_big_quiet_op; refine hK _ ?_; clear hK K) | (refine lex_k fun K hK => ?_; go_simp; refine hK _ ?_; clear hK K)))
        (refine lex_nil ?_)
        clear lexNE lexW y0 y1 y2 y3 hz1c d0 d1 d2
        have HRd := Lib.hid (show Blk W1.drew gr 31 #[.slice none 0 0, .slice none 0 0, .slice none 0 0, .slice none 0 0] from HRw.out.drew)
        have hq1 : W1.drew.cell? ⟨gq, s.2.1, none⟩ = some (.int .i64 (pn : Int)) := hq0
        have HP1 := Lib.hid (own_drew HP1.out)
        have HF1 := Lib.hid (show MB W1.drew gF _ _ _ from HF1.out.drew)
        have HX1 := Lib.hid (show Blk W1.drew wr.heap.size 73 _ from HX1.out.drew)
        have HS1 := Lib.hid HS1.out.drew
        have HC1 := Lib.hid HC1.out.drew
        have zW1 : wr.heap.size < W1.drew.heap.size := zW1
        obtain ⟨W1, hW1⟩ : ∃ x, x = W1.drew := ⟨_, rfl⟩
        try rw [← hW1] at hq1
        try rw [← hW1] at HRd
        rw [← hW1] at HP1 HF1 HX1 HS1 HC1 zW1
        rw [← hW1]
        clear hW1
        obtain ⟨z0, z1, z2, z3⟩ := blkS4 HF1.out
        obtain ⟨r0, r1, r2, r3⟩ := blkS4 HRd.out
        have f0 := HRd.out.frozen 0
        have f1 := HRd.out.frozen 1
        have f2 := HRd.out.frozen 2
        have f3 := HRd.out.frozen 3
        go_wp2_with fail
        obtain ⟨wf, hwf⟩ : ∃ wf, wf = ((((W1.setCell ⟨gr, 0, none⟩ (.slice (some adz) s.2.2.length ct0)).setCell ⟨gr, 1, none⟩ (.slice as1 f.2.1.length cs1)).setCell ⟨gr, 2, none⟩ (.slice none 0 0)).setCell ⟨gr, 3, none⟩ (.slice as3 f.2.2.length cs3)) := ⟨_, rfl⟩
        have hRf : Blk wf gr 31 #[(.slice (some adz) s.2.2.length ct0), (.slice as1 f.2.1.length cs1), .slice none 0 0, (.slice as3 f.2.2.length cs3)] := by rw [hwf]; exact blk_four HRd.out
        have Kf := Lib.hid (show ChP lo flS noP w wf by rw [hwf]; exact (((((ChP.of_below lo flS noP HBU.out).trans' HC1.out (fun b hb hl => by omega)).setN (p := ⟨gr, 0, none⟩) (show w.heap.size ≤ gr by omega) _).setN (p := ⟨gr, 1, none⟩) (show w.heap.size ≤ gr by omega) _).setN (p := ⟨gr, 2, none⟩) (show w.heap.size ≤ gr by omega) _).setN (p := ⟨gr, 3, none⟩) (show w.heap.size ≤ gr by omega) _)
        have Sf := fun (sg : List TSignal) (ag : List TAssign) (mm : List TMem) (h : FlS W1 lo (.slice (some adz) s.2.2.length ct0) (.slice as1 f.2.1.length cs1) (.slice as3 f.2.2.length cs3) sg ag mm) => (show FlS wf lo (.slice (some adz) s.2.2.length ct0) (.slice as1 f.2.1.length cs1) (.slice as3 f.2.2.length cs3) sg ag mm by
         rw [hwf]
         exact fl_other (fl_other (fl_other (fl_other h HRd.out.of (by decide) _ _) ((HRd.out.set_ 0 _).of) (by decide) _ _) (((HRd.out.set_ 0 _).set_ 1 _).of) (by decide) _ _) ((((HRd.out.set_ 0 _).set_ 1 _).set_ 2 _).of) (by decide) _ _)
        obtain ⟨s0, s1, s2, s3⟩ := blkS4 hRf
        rw [← hwf]
        clear hwf
        refine bodyPost_ret (v := .tuple #[FV (.slice (some adz) s.2.2.length ct0) (.slice as1 f.2.1.length cs1) (.slice as3 f.2.2.length cs3), .bool false]) (by simp [results, Try.results16, go_sem, s0, s1, s2, s3]) rfl ?_
        unfold SAddQ
        rw [HN.out]
        exact ⟨Kf.out, _, _, _, _, _, _, _, _, _, rfl⟩
   ·have hw' : (x1 == 0) = false := by simpa using hw
    have Hwd := Lib.hid (show wdF param x1 = x1 from (if_neg hw))
    go_upto_region 10 with fail
    obtain ⟨W1, hW1⟩ : ∃ W1, W1 = W0 := ⟨_, rfl⟩
    rw [← hW1]
    have HX1 := Lib.hid (show Blk W1 wr.heap.size 73 #[.int .i64 x0, .int .i64 (x1), .int .i64 x2] by rw [hW1]; exact HX0.out)
    have HK1 := Lib.hid (show Below wr.heap.size wr W1 by rw [hW1]; exact HW0.out)
    have zW1 : wr.heap.size < W1.heap.size := HX1.out.lt
    have HP1 := Lib.hid (own_below Hown.out HK1.out (Nat.le_refl _))
    have HF1 := Lib.hid (HFr.out.below HK1.out HFr.out.lt)
    have HS1 := Lib.hid (HSr.out.below HK1.out)
    have HC1 := Lib.hid (Hch.out.bel HK1.out)
    clear hW1 d0 d1 d2 f1
    obtain ⟨d0, d1, d2⟩ := blkS3 HX1.out
    cases cpd with
    | false =>
     have HG := Lib.hid (show sgF false param ports s (x0, x1, x2) = some (s.1 ++ [(s.2.2.length : Int)], s.2.1, s.2.2 ++ [(x0, x1, x2)]) by unfold sgF; rw [if_neg (by simp), Hwd.out])
     obtain ⟨y0, y1, y2, y3⟩ := blkS4 HF1.out
     obtain ⟨i0, hi, hz0, hz1, hz2⟩ := info_parts Try.infoIntC
     go_wp2_with (at_builtin; refine wpList_append_any _ rfl _ _ 47 rfl (U.heap.size) 3 i0 (.int .i64 0) 1 8 Try.underlying47 hi hz0 hz1 hz2 rfl (by decide) _ _ _ rfl (HP1.out.alloc _) _ _ 1 1 _ rfl (reads_new _ _ 1 1 rfl) (by intro u hu; simp at hu; first | (subst hu; rfl) | (rcases hu with rfl | rfl <;> rfl) | (rcases hu with rfl | rfl | rfl <;> rfl)) (by unfold maxLen; omega) (by omega) (by (try simp) <;> (try omega)) ?_; intro v8 w8 hown8 hgrow8 hblk8; refine stopX ?_)
     obtain ⟨Ai, ci, rfl, _, _, _⟩ := own_form hown8
     have HP8 := Lib.hid (show w8.ownsRow U.heap.size 3 1 (.slice Ai (s.1.length + 1) ci) (s.1.length + 1) (ints (s.1 ++ [((s.2.2.length : Nat) : Int)])) by rw [ints_app]; exact hown8)
     have hbl := (Below.refl W1.heap.size W1).alloc (Nat.le_refl _) (.cells #[.int .i64 (((s.2.2.length : Nat) : Int))] 3)
     have hna := own_below HP1.out hbl (Nat.le_refl _)
     have HC8 := Lib.hid ((HC1.out.bel hbl).rowN hna (Nat.le_refl _) hgrow8)
     have ngF : ¬ (Value.slice Ao s.1.length co).ownBlock = some gF := fun h1 => by have := (HP1.out.lt _ h1).1; omega
     have nbx : ¬ (Value.slice Ao s.1.length co).ownBlock = some wr.heap.size := fun h1 => by have := (Hown.out.lt _ h1).2; omega
     have HF8 := Lib.hid ((HF1.out.below hbl HF1.out.lt).grown hgrow8 (fun e => ngF e.symm))
     have HX8 := Lib.hid ((HX1.out.below hbl HX1.out.lt).grown hgrow8 (fun e => nbx e.symm))
     have HS8 := Lib.hid ((HS1.out.below hbl).only (only_row hgrow8) (grown_not hna (by decide)))
     have z8 := hgrow8.size
     try simp at z8
     clear hown8 hgrow8 hblk8 hbl hna ngF nbx
     clear y0 y1 y2 y3
     obtain ⟨y0, y1, y2, y3⟩ := blkS4 HF8.out
     obtain ⟨d0, d1, d2⟩ := blkS3 HX8.out
     have hsz0 := hso.hi
     rw [List.length_take] at hsz0
     have hfz := hsz.l0
     refine stopped ?_
     obtain ⟨i0, hi, hz0, hz1, hz2⟩ := info_parts Try.infSignalC
     go_wp2_with (at_builtin; refine wpList_append_any _ rfl _ _ 26 rfl (lo) 73 i0 (.agg #[.int .i64 0, .int .i64 0, .int .i64 0]) 3 24 Try.underlying26 hi hz0 hz1 hz2 rfl (by decide) _ _ _ rfl (HS8.out.s0.alloc _) _ _ 1 1 _ rfl (reads_new _ _ 1 3 rfl) (by intro u hu; simp at hu; first | (subst hu; rfl) | (rcases hu with rfl | rfl <;> rfl) | (rcases hu with rfl | rfl | rfl <;> rfl)) (by unfold maxLen; omega) (by omega) (by (try simp) <;> (try omega)) ?_; intro v9 w9 hown9 hgrow9 hblk9; refine stopX ?_)
     obtain ⟨A9, c9, rfl, _, _, _⟩ := own_form hown9
     have hbl := (Below.refl w8.heap.size w8).alloc (Nat.le_refl _) (.cells #[.int .i64 x0, .int .i64 (x1), .int .i64 x2] 73)
     have ngF : ¬ (Value.slice at0 s.2.2.length ct0).ownBlock = some gF := own_blk_ne HS8.out.s0 HF8.out (by decide)
     have HS9 := Lib.hid ((HS8.out.below hbl).pushS (x := (x0, x1, x2)) hown9 hgrow9)
     have HF9 := Lib.hid ((HF8.out.below hbl HF8.out.lt).grown hgrow9 (fun e => ngF e.symm))
     have HC9 := Lib.hid ((HC8.out.bel hbl).row (own_below HS8.out.s0 hbl (Nat.le_refl _)) (Nat.le_refl _) flS_sig hgrow9)
     have HP9 := Lib.hid (own_keep (own_below HP8.out hbl (Nat.le_refl _)) (fun g hg => (only_row hgrow9).block g (by have := (HP8.out.lt g hg).2; simp; omega) (fun hc => absurd ((own_of HS8.out.s0 hc).inj (own_of HP8.out hg)) (by decide))))
     have e0 := (blkS4 HF9.out).1
     have f0 := HF9.out.frozen 0
     clear hown9 hgrow9 hblk9 hbl ngF y0 y1 y2 y3 d0 d1 d2
     refine stopped ?_
     go_wp2_with fail
     clear e0 f0
     obtain ⟨wf, hwf⟩ : ∃ wf, wf = (w9.setCell ⟨gF, 0, none⟩ (.slice A9 (s.2.2.length + 1) c9)) := ⟨_, rfl⟩
     have HFf := Lib.hid (show MB wf gF (.slice A9 (s.2.2.length + 1) c9) (.slice as1 f.2.1.length cs1) (.slice as3 f.2.2.length cs3) by rw [hwf]; exact HF9.out.set_ 0 _)
     have HSf := Lib.hid (show FlS wf lo (.slice A9 (s.2.2.length + 1) c9) (.slice as1 f.2.1.length cs1) (.slice as3 f.2.2.length cs3) (s.2.2 ++ [(x0, x1, x2)]) f.2.1 f.2.2 by rw [hwf]; exact fl_other HS9.out HF9.out.of (by decide) _ _)
     have HCf := Lib.hid (show ChP lo flS (fun b => b = gF) U wf by rw [hwf]; exact HC9.out.setP (p := ⟨gF, 0, none⟩) rfl _)
     have HPf := Lib.hid (show wf.ownsRow U.heap.size 3 1 (.slice Ai (s.1.length + 1) ci) (s.1.length + 1) (ints (s.1 ++ [(s.2.2.length : Int)])) by rw [hwf]; exact own_far HP9.out (fun g hg => by show g ≠ gF; have := (HP8.out.lt g hg).1; omega) _)
     rw [← hwf]
     clear hwf
     go_roundw
     case rel => exact ⟨j + 1, (s.1 ++ [(s.2.2.length : Int)], s.2.1, s.2.2 ++ [(x0, x1, x2)]), _, by omega, by go_num, rfl, Lib.hid (by rw [foldlM_take Hx.out, Hst.out]; exact HG.out), by rw [List.length_append]; exact HPf.out, HFf.out, HSf.out, HCf.out⟩
     case measure => simp [intOf]; omega
    | true =>
     cases hip : isPort (x0, x1, x2) with
     | false =>
      have HG := Lib.hid (show sgF true param ports s (x0, x1, x2) = some (s.1 ++ [(s.2.2.length : Int)], s.2.1, s.2.2 ++ [(x0, x1, x2)]) by unfold sgF; rw [if_neg (by simp [hip]), Hwd.out])
      have hx01 : x0 ≠ 0 ∧ x0 ≠ 1 := by
       have h1 := of_decide_eq_false hip
       simp only [not_or] at h1
       exact h1
      have hxa : (x0 == 0) = false := by simpa using hx01.1
      have hxb : (x0 == 1) = false := by simpa using hx01.2
      clear hx01 hip
      obtain ⟨y0, y1, y2, y3⟩ := blkS4 HF1.out
      obtain ⟨i0, hi, hz0, hz1, hz2⟩ := info_parts Try.infoIntC
      go_wp2_with (at_builtin; refine wpList_append_any _ rfl _ _ 47 rfl (U.heap.size) 3 i0 (.int .i64 0) 1 8 Try.underlying47 hi hz0 hz1 hz2 rfl (by decide) _ _ _ rfl (HP1.out.alloc _) _ _ 1 1 _ rfl (reads_new _ _ 1 1 rfl) (by intro u hu; simp at hu; first | (subst hu; rfl) | (rcases hu with rfl | rfl <;> rfl) | (rcases hu with rfl | rfl | rfl <;> rfl)) (by unfold maxLen; omega) (by omega) (by (try simp) <;> (try omega)) ?_; intro v8 w8 hown8 hgrow8 hblk8; refine stopX ?_)
      obtain ⟨Ai, ci, rfl, _, _, _⟩ := own_form hown8
      have HP8 := Lib.hid (show w8.ownsRow U.heap.size 3 1 (.slice Ai (s.1.length + 1) ci) (s.1.length + 1) (ints (s.1 ++ [((s.2.2.length : Nat) : Int)])) by rw [ints_app]; exact hown8)
      have hbl := (Below.refl W1.heap.size W1).alloc (Nat.le_refl _) (.cells #[.int .i64 (((s.2.2.length : Nat) : Int))] 3)
      have hna := own_below HP1.out hbl (Nat.le_refl _)
      have HC8 := Lib.hid ((HC1.out.bel hbl).rowN hna (Nat.le_refl _) hgrow8)
      have ngF : ¬ (Value.slice Ao s.1.length co).ownBlock = some gF := fun h1 => by have := (HP1.out.lt _ h1).1; omega
      have nbx : ¬ (Value.slice Ao s.1.length co).ownBlock = some wr.heap.size := fun h1 => by have := (Hown.out.lt _ h1).2; omega
      have HF8 := Lib.hid ((HF1.out.below hbl HF1.out.lt).grown hgrow8 (fun e => ngF e.symm))
      have HX8 := Lib.hid ((HX1.out.below hbl HX1.out.lt).grown hgrow8 (fun e => nbx e.symm))
      have HS8 := Lib.hid ((HS1.out.below hbl).only (only_row hgrow8) (grown_not hna (by decide)))
      have z8 := hgrow8.size
      try simp at z8
      clear hown8 hgrow8 hblk8 hbl hna ngF nbx
      clear y0 y1 y2 y3
      obtain ⟨y0, y1, y2, y3⟩ := blkS4 HF8.out
      obtain ⟨d0, d1, d2⟩ := blkS3 HX8.out
      have hsz0 := hso.hi
      rw [List.length_take] at hsz0
      have hfz := hsz.l0
      refine stopped ?_
      obtain ⟨i0, hi, hz0, hz1, hz2⟩ := info_parts Try.infSignalC
      go_wp2_with (at_builtin; refine wpList_append_any _ rfl _ _ 26 rfl (lo) 73 i0 (.agg #[.int .i64 0, .int .i64 0, .int .i64 0]) 3 24 Try.underlying26 hi hz0 hz1 hz2 rfl (by decide) _ _ _ rfl (HS8.out.s0.alloc _) _ _ 1 1 _ rfl (reads_new _ _ 1 3 rfl) (by intro u hu; simp at hu; first | (subst hu; rfl) | (rcases hu with rfl | rfl <;> rfl) | (rcases hu with rfl | rfl | rfl <;> rfl)) (by unfold maxLen; omega) (by omega) (by (try simp) <;> (try omega)) ?_; intro v9 w9 hown9 hgrow9 hblk9; refine stopX ?_)
      obtain ⟨A9, c9, rfl, _, _, _⟩ := own_form hown9
      have hbl := (Below.refl w8.heap.size w8).alloc (Nat.le_refl _) (.cells #[.int .i64 x0, .int .i64 (x1), .int .i64 x2] 73)
      have ngF : ¬ (Value.slice at0 s.2.2.length ct0).ownBlock = some gF := own_blk_ne HS8.out.s0 HF8.out (by decide)
      have HS9 := Lib.hid ((HS8.out.below hbl).pushS (x := (x0, x1, x2)) hown9 hgrow9)
      have HF9 := Lib.hid ((HF8.out.below hbl HF8.out.lt).grown hgrow9 (fun e => ngF e.symm))
      have HC9 := Lib.hid ((HC8.out.bel hbl).row (own_below HS8.out.s0 hbl (Nat.le_refl _)) (Nat.le_refl _) flS_sig hgrow9)
      have HP9 := Lib.hid (own_keep (own_below HP8.out hbl (Nat.le_refl _)) (fun g hg => (only_row hgrow9).block g (by have := (HP8.out.lt g hg).2; simp; omega) (fun hc => absurd ((own_of HS8.out.s0 hc).inj (own_of HP8.out hg)) (by decide))))
      have e0 := (blkS4 HF9.out).1
      have f0 := HF9.out.frozen 0
      clear hown9 hgrow9 hblk9 hbl ngF y0 y1 y2 y3 d0 d1 d2
      refine stopped ?_
      go_wp2_with fail
      clear e0 f0
      obtain ⟨wf, hwf⟩ : ∃ wf, wf = (w9.setCell ⟨gF, 0, none⟩ (.slice A9 (s.2.2.length + 1) c9)) := ⟨_, rfl⟩
      have HFf := Lib.hid (show MB wf gF (.slice A9 (s.2.2.length + 1) c9) (.slice as1 f.2.1.length cs1) (.slice as3 f.2.2.length cs3) by rw [hwf]; exact HF9.out.set_ 0 _)
      have HSf := Lib.hid (show FlS wf lo (.slice A9 (s.2.2.length + 1) c9) (.slice as1 f.2.1.length cs1) (.slice as3 f.2.2.length cs3) (s.2.2 ++ [(x0, x1, x2)]) f.2.1 f.2.2 by rw [hwf]; exact fl_other HS9.out HF9.out.of (by decide) _ _)
      have HCf := Lib.hid (show ChP lo flS (fun b => b = gF) U wf by rw [hwf]; exact HC9.out.setP (p := ⟨gF, 0, none⟩) rfl _)
      have HPf := Lib.hid (show wf.ownsRow U.heap.size 3 1 (.slice Ai (s.1.length + 1) ci) (s.1.length + 1) (ints (s.1 ++ [(s.2.2.length : Int)])) by rw [hwf]; exact own_far HP9.out (fun g hg => by show g ≠ gF; have := (HP8.out.lt g hg).1; omega) _)
      rw [← hwf]
      clear hwf
      go_roundw
      case rel => exact ⟨j + 1, (s.1 ++ [(s.2.2.length : Int)], s.2.1, s.2.2 ++ [(x0, x1, x2)]), _, by omega, by go_num, rfl, Lib.hid (by rw [foldlM_take Hx.out, Hst.out]; exact HG.out), by rw [List.length_append]; exact HPf.out, HFf.out, HSf.out, HCf.out⟩
      case measure => simp [intOf]; omega
     | true =>
      have hx01 : x0 = 0 ∨ x0 = 1 := of_decide_eq_true hip
      rcases hx01 with hx01 | hx01
      ·subst hx01
       clear d0 d1 d2
       have hpx : s.2.1 < ports.length := by
        have h1 := hso.nxt
        rw [if_pos (by rfl)] at h1
        rw [h1, hpl rfl]
        exact (List.getElem?_eq_some_iff.1 (idxL_at Hx.out hip)).1
       obtain ⟨pn, hpn⟩ : ∃ pn : Nat, ports[s.2.1]? = some (pn : Int) ∧ pn < s.2.2.length := by
        have h1 := hpb _ (List.getElem_mem hpx)
        have h2 := hso.lo
        exact ⟨(ports[s.2.1]).toNat, by rw [List.getElem?_eq_getElem hpx]; congr 1; omega, by omega⟩
       obtain ⟨hpn, hpn2⟩ := hpn
       have hpd : ports.getD s.2.1 0 = (pn : Int) := by simp [List.getD, hpn]
       have hnp : ports.length = np := by have h1 := Hpo.out.1; rw [ints_len] at h1; omega
       have Hpr := Lib.hid (HC1.out.own HpoU.out (by decide) (fun g hg hc => by have := (Hpo.out.lt g hg).2; omega))
       obtain ⟨gq, hgq⟩ : ∃ gq, Ap = some ⟨gq, 0, none⟩ := by
        obtain ⟨_, _, hv, _, _, h2⟩ := own_form Hpo.out
        injection hv with hA
        obtain ⟨g, h3, _⟩ := h2 (by omega)
        exact ⟨g, hA.trans h3⟩
       subst hgq
       have hq0 := own_at Hpr.out hpn
       have hbs : s.2.1 ≤ 30 := by have h1 := hpl rfl; have h2 := idxL_le (p := isPort) m.1; have h3 := MO.n0; omega
       have g5 : (0 : Int) ≤ (s.2.1 : Int) := by omega
       have g6 : (s.2.1 : Int) < (np : Int) := by omega
       have g7 : (0 : Int) ≤ (pn : Int) := by omega
       have g8 : (pn : Int) < (s.2.2.length : Int) := by omega
       obtain ⟨y0, y1, y2, y3⟩ := blkS4 HF1.out
       obtain ⟨d0, d1, d2⟩ := blkS3 HX1.out
       obtain ⟨⟨z0, z1, z2⟩, hz⟩ : ∃ z, s.2.2[pn]? = some z := ⟨_, List.getElem?_eq_getElem hpn2⟩
       obtain ⟨adz, zz, hadz, _, hzz, hzc⟩ := Reads.rec_at eSg_len (by decide) (Reads.of_own HS1.out.s0) hpn2
       obtain rfl : (z0, z1, z2) = zz := Option.some.inj (hz.symm.trans hzz)
       subst hadz
       have hz1c := hzc 1 z1 rfl
       rw [← nxt_add _ _ (by decide)] at hz1c
       have HWz := Lib.hid (show (s.2.2.getD (ports.getD s.2.1 0).toNat (0, 0, 0)).2.1 = z1 by rw [hpd, Int.toNat_natCast]; simp [List.getD, hz])
       have HGx := Lib.hid (show sgF true param ports s (0, x1, x2) = (if z1 = x1 then some (s.1 ++ [(pn : Int)], s.2.1 + 1, s.2.2) else none) by
        unfold sgF
        rw [if_pos (by simp [hip]), HWz.out, Hwd.out, hpd])
       clear hz hzz hzc hpn hpd
       go_upto_region 11 with fail
       by_cases hzw : z1 = x1
       ·have HG := Lib.hid (show sgF true param ports s (0, x1, x2) = some (s.1 ++ [(pn : Int)], s.2.1 + 1, s.2.2) by rw [HGx.out, if_pos hzw])
        have hzb : (z1 != x1) = false := by simp [hzw]
        clear hzw
        refine wp_region_lex (by kernel_rfl) (by kernel_rfl) (Cls (fun x => x = W1.drew)) (Cls.mk' rfl) ?_
        have lexNE : Nonempty (Wd (fun x => x = W1.drew)) := ⟨⟨_, rfl⟩⟩
        have lexW : ∀ W : Wd (fun x => x = W1.drew), W.val = W1.drew := fun W => W.ok
        (repeat (first | (refine lex_r fun K hK => ?_; go_big_quiet_op; refine hK _ ?_; clear hK K) | (refine lex_k fun K hK => ?_; go_simp; refine hK _ ?_; clear hK K)))
        (refine lex_nil ?_)
        clear lexNE lexW y0 y1 y2 y3 hz1c d0 d1 d2
        have hq1 : W1.drew.cell? ⟨gq, s.2.1, none⟩ = some (.int .i64 (pn : Int)) := hq0
        have HP1 := Lib.hid (own_drew HP1.out)
        have HF1 := Lib.hid (show MB W1.drew gF _ _ _ from HF1.out.drew)
        have HX1 := Lib.hid (show Blk W1.drew wr.heap.size 73 _ from HX1.out.drew)
        have HS1 := Lib.hid HS1.out.drew
        have HC1 := Lib.hid HC1.out.drew
        have zW1 : wr.heap.size < W1.drew.heap.size := zW1
        obtain ⟨W1, hW1⟩ : ∃ x, x = W1.drew := ⟨_, rfl⟩
        try rw [← hW1] at hq1
        try rw [← hW1] at HRd
        rw [← hW1] at HP1 HF1 HX1 HS1 HC1 zW1
        rw [← hW1]
        clear hW1
        have hq0 := hq1
        obtain ⟨i0, hi, hz0, hz1, hz2⟩ := info_parts Try.infoIntC
        go_wp2_with (at_builtin; refine wpList_append_any _ rfl _ _ 47 rfl (U.heap.size) 3 i0 (.int .i64 0) 1 8 Try.underlying47 hi hz0 hz1 hz2 rfl (by decide) _ _ _ rfl (HP1.out.alloc _) _ _ 1 1 _ rfl (reads_new _ _ 1 1 rfl) (by intro u hu; simp at hu; first | (subst hu; rfl) | (rcases hu with rfl | rfl <;> rfl) | (rcases hu with rfl | rfl | rfl <;> rfl)) (by unfold maxLen; omega) (by omega) (by (try simp) <;> (try omega)) ?_; intro v8 w8 hown8 hgrow8 hblk8; refine stopX ?_)
        obtain ⟨Ai, ci, rfl, _, _, _⟩ := own_form hown8
        have HP8 := Lib.hid (show w8.ownsRow U.heap.size 3 1 (.slice Ai (s.1.length + 1) ci) (s.1.length + 1) (ints (s.1 ++ [(pn : Int)])) by rw [ints_app]; exact hown8)
        have hbl := (Below.refl W1.heap.size W1).alloc (Nat.le_refl _) (.cells #[.int .i64 ((pn : Int))] 3)
        have hna := own_below HP1.out hbl (Nat.le_refl _)
        have HC8 := Lib.hid ((HC1.out.bel hbl).rowN hna (Nat.le_refl _) hgrow8)
        have ngF : ¬ (Value.slice Ao s.1.length co).ownBlock = some gF := fun h1 => by have := (HP1.out.lt _ h1).1; omega
        have nbx : ¬ (Value.slice Ao s.1.length co).ownBlock = some wr.heap.size := fun h1 => by have := (Hown.out.lt _ h1).2; omega
        have HF8 := Lib.hid ((HF1.out.below hbl HF1.out.lt).grown hgrow8 (fun e => ngF e.symm))
        have HX8 := Lib.hid ((HX1.out.below hbl HX1.out.lt).grown hgrow8 (fun e => nbx e.symm))
        have HS8 := Lib.hid ((HS1.out.below hbl).only (only_row hgrow8) (grown_not hna (by decide)))
        have z8 := hgrow8.size
        try simp at z8
        clear hown8 hgrow8 hblk8 hbl hna ngF nbx
        clear hq0
        refine stopped ?_
        go_wp2_with fail
        go_roundw
        case rel => exact ⟨j + 1, (s.1 ++ [(pn : Int)], s.2.1 + 1, s.2.2), _, by omega, by go_num, by go_num, Lib.hid (by rw [foldlM_take Hx.out, Hst.out]; exact HG.out), by rw [List.length_append]; exact HP8.out, HF8.out, HS8.out, HC8.out⟩
        case measure => simp [intOf]; omega
       ·have HG := Lib.hid (show sgF true param ports s (0, x1, x2) = none by rw [HGx.out, if_neg hzw])
        have hzb : (z1 != x1) = true := by simp [hzw]
        have HN := Lib.hid (show addF d (fu + 1) k param ports true f = none from addF_none1 Hmd.out (j := j + 1) (by rw [foldlM_take Hx.out, Hst.out]; exact HG.out))
        have HRw := Lib.hid (HC1.out.blk HXR.out (by decide) hgr1)
        clear hzw
        refine wp_region_lex (by kernel_rfl) (by kernel_rfl) (Cls (fun x => x = W1.drew)) (Cls.mk' rfl) ?_
        have lexNE : Nonempty (Wd (fun x => x = W1.drew)) := ⟨⟨_, rfl⟩⟩
        have lexW : ∀ W : Wd (fun x => x = W1.drew), W.val = W1.drew := fun W => W.ok
        (repeat (first | (refine lex_r fun K hK => ?_; go_big_quiet_op; refine hK _ ?_; clear hK K) | (refine lex_k fun K hK => ?_; go_simp; refine hK _ ?_; clear hK K)))
        (refine lex_nil ?_)
        clear lexNE lexW y0 y1 y2 y3 hz1c d0 d1 d2
        have HRd := Lib.hid (show Blk W1.drew gr 31 #[.slice none 0 0, .slice none 0 0, .slice none 0 0, .slice none 0 0] from HRw.out.drew)
        have hq1 : W1.drew.cell? ⟨gq, s.2.1, none⟩ = some (.int .i64 (pn : Int)) := hq0
        have HP1 := Lib.hid (own_drew HP1.out)
        have HF1 := Lib.hid (show MB W1.drew gF _ _ _ from HF1.out.drew)
        have HX1 := Lib.hid (show Blk W1.drew wr.heap.size 73 _ from HX1.out.drew)
        have HS1 := Lib.hid HS1.out.drew
        have HC1 := Lib.hid HC1.out.drew
        have zW1 : wr.heap.size < W1.drew.heap.size := zW1
        obtain ⟨W1, hW1⟩ : ∃ x, x = W1.drew := ⟨_, rfl⟩
        try rw [← hW1] at hq1
        try rw [← hW1] at HRd
        rw [← hW1] at HP1 HF1 HX1 HS1 HC1 zW1
        rw [← hW1]
        clear hW1
        obtain ⟨z0, z1, z2, z3⟩ := blkS4 HF1.out
        obtain ⟨r0, r1, r2, r3⟩ := blkS4 HRd.out
        have f0 := HRd.out.frozen 0
        have f1 := HRd.out.frozen 1
        have f2 := HRd.out.frozen 2
        have f3 := HRd.out.frozen 3
        go_wp2_with fail
        obtain ⟨wf, hwf⟩ : ∃ wf, wf = ((((W1.setCell ⟨gr, 0, none⟩ (.slice (some adz) s.2.2.length ct0)).setCell ⟨gr, 1, none⟩ (.slice as1 f.2.1.length cs1)).setCell ⟨gr, 2, none⟩ (.slice none 0 0)).setCell ⟨gr, 3, none⟩ (.slice as3 f.2.2.length cs3)) := ⟨_, rfl⟩
        have hRf : Blk wf gr 31 #[(.slice (some adz) s.2.2.length ct0), (.slice as1 f.2.1.length cs1), .slice none 0 0, (.slice as3 f.2.2.length cs3)] := by rw [hwf]; exact blk_four HRd.out
        have Kf := Lib.hid (show ChP lo flS noP w wf by rw [hwf]; exact (((((ChP.of_below lo flS noP HBU.out).trans' HC1.out (fun b hb hl => by omega)).setN (p := ⟨gr, 0, none⟩) (show w.heap.size ≤ gr by omega) _).setN (p := ⟨gr, 1, none⟩) (show w.heap.size ≤ gr by omega) _).setN (p := ⟨gr, 2, none⟩) (show w.heap.size ≤ gr by omega) _).setN (p := ⟨gr, 3, none⟩) (show w.heap.size ≤ gr by omega) _)
        have Sf := fun (sg : List TSignal) (ag : List TAssign) (mm : List TMem) (h : FlS W1 lo (.slice (some adz) s.2.2.length ct0) (.slice as1 f.2.1.length cs1) (.slice as3 f.2.2.length cs3) sg ag mm) => (show FlS wf lo (.slice (some adz) s.2.2.length ct0) (.slice as1 f.2.1.length cs1) (.slice as3 f.2.2.length cs3) sg ag mm by
         rw [hwf]
         exact fl_other (fl_other (fl_other (fl_other h HRd.out.of (by decide) _ _) ((HRd.out.set_ 0 _).of) (by decide) _ _) (((HRd.out.set_ 0 _).set_ 1 _).of) (by decide) _ _) ((((HRd.out.set_ 0 _).set_ 1 _).set_ 2 _).of) (by decide) _ _)
        obtain ⟨s0, s1, s2, s3⟩ := blkS4 hRf
        rw [← hwf]
        clear hwf
        refine bodyPost_ret (v := .tuple #[FV (.slice (some adz) s.2.2.length ct0) (.slice as1 f.2.1.length cs1) (.slice as3 f.2.2.length cs3), .bool false]) (by simp [results, Try.results16, go_sem, s0, s1, s2, s3]) rfl ?_
        unfold SAddQ
        rw [HN.out]
        exact ⟨Kf.out, _, _, _, _, _, _, _, _, _, rfl⟩
      ·subst hx01
       clear d0 d1 d2
       have hpx : s.2.1 < ports.length := by
        have h1 := hso.nxt
        rw [if_pos (by rfl)] at h1
        rw [h1, hpl rfl]
        exact (List.getElem?_eq_some_iff.1 (idxL_at Hx.out hip)).1
       obtain ⟨pn, hpn⟩ : ∃ pn : Nat, ports[s.2.1]? = some (pn : Int) ∧ pn < s.2.2.length := by
        have h1 := hpb _ (List.getElem_mem hpx)
        have h2 := hso.lo
        exact ⟨(ports[s.2.1]).toNat, by rw [List.getElem?_eq_getElem hpx]; congr 1; omega, by omega⟩
       obtain ⟨hpn, hpn2⟩ := hpn
       have hpd : ports.getD s.2.1 0 = (pn : Int) := by simp [List.getD, hpn]
       have hnp : ports.length = np := by have h1 := Hpo.out.1; rw [ints_len] at h1; omega
       have Hpr := Lib.hid (HC1.out.own HpoU.out (by decide) (fun g hg hc => by have := (Hpo.out.lt g hg).2; omega))
       obtain ⟨gq, hgq⟩ : ∃ gq, Ap = some ⟨gq, 0, none⟩ := by
        obtain ⟨_, _, hv, _, _, h2⟩ := own_form Hpo.out
        injection hv with hA
        obtain ⟨g, h3, _⟩ := h2 (by omega)
        exact ⟨g, hA.trans h3⟩
       subst hgq
       have hq0 := own_at Hpr.out hpn
       have hbs : s.2.1 ≤ 30 := by have h1 := hpl rfl; have h2 := idxL_le (p := isPort) m.1; have h3 := MO.n0; omega
       have g5 : (0 : Int) ≤ (s.2.1 : Int) := by omega
       have g6 : (s.2.1 : Int) < (np : Int) := by omega
       have g7 : (0 : Int) ≤ (pn : Int) := by omega
       have g8 : (pn : Int) < (s.2.2.length : Int) := by omega
       obtain ⟨y0, y1, y2, y3⟩ := blkS4 HF1.out
       obtain ⟨d0, d1, d2⟩ := blkS3 HX1.out
       obtain ⟨⟨z0, z1, z2⟩, hz⟩ : ∃ z, s.2.2[pn]? = some z := ⟨_, List.getElem?_eq_getElem hpn2⟩
       obtain ⟨adz, zz, hadz, _, hzz, hzc⟩ := Reads.rec_at eSg_len (by decide) (Reads.of_own HS1.out.s0) hpn2
       obtain rfl : (z0, z1, z2) = zz := Option.some.inj (hz.symm.trans hzz)
       subst hadz
       have hz1c := hzc 1 z1 rfl
       rw [← nxt_add _ _ (by decide)] at hz1c
       have HWz := Lib.hid (show (s.2.2.getD (ports.getD s.2.1 0).toNat (0, 0, 0)).2.1 = z1 by rw [hpd, Int.toNat_natCast]; simp [List.getD, hz])
       have HGx := Lib.hid (show sgF true param ports s (1, x1, x2) = (if z1 = x1 then some (s.1 ++ [(pn : Int)], s.2.1 + 1, s.2.2) else none) by
        unfold sgF
        rw [if_pos (by simp [hip]), HWz.out, Hwd.out, hpd])
       clear hz hzz hzc hpn hpd
       go_upto_region 11 with fail
       by_cases hzw : z1 = x1
       ·have HG := Lib.hid (show sgF true param ports s (1, x1, x2) = some (s.1 ++ [(pn : Int)], s.2.1 + 1, s.2.2) by rw [HGx.out, if_pos hzw])
        have hzb : (z1 != x1) = false := by simp [hzw]
        clear hzw
        refine wp_region_lex (by kernel_rfl) (by kernel_rfl) (Cls (fun x => x = W1.drew)) (Cls.mk' rfl) ?_
        have lexNE : Nonempty (Wd (fun x => x = W1.drew)) := ⟨⟨_, rfl⟩⟩
        have lexW : ∀ W : Wd (fun x => x = W1.drew), W.val = W1.drew := fun W => W.ok
        (repeat (first | (refine lex_r fun K hK => ?_; go_big_quiet_op; refine hK _ ?_; clear hK K) | (refine lex_k fun K hK => ?_; go_simp; refine hK _ ?_; clear hK K)))
        (refine lex_nil ?_)
        clear lexNE lexW y0 y1 y2 y3 hz1c d0 d1 d2
        have hq1 : W1.drew.cell? ⟨gq, s.2.1, none⟩ = some (.int .i64 (pn : Int)) := hq0
        have HP1 := Lib.hid (own_drew HP1.out)
        have HF1 := Lib.hid (show MB W1.drew gF _ _ _ from HF1.out.drew)
        have HX1 := Lib.hid (show Blk W1.drew wr.heap.size 73 _ from HX1.out.drew)
        have HS1 := Lib.hid HS1.out.drew
        have HC1 := Lib.hid HC1.out.drew
        have zW1 : wr.heap.size < W1.drew.heap.size := zW1
        obtain ⟨W1, hW1⟩ : ∃ x, x = W1.drew := ⟨_, rfl⟩
        try rw [← hW1] at hq1
        try rw [← hW1] at HRd
        rw [← hW1] at HP1 HF1 HX1 HS1 HC1 zW1
        rw [← hW1]
        clear hW1
        have hq0 := hq1
        obtain ⟨i0, hi, hz0, hz1, hz2⟩ := info_parts Try.infoIntC
        go_wp2_with (at_builtin; refine wpList_append_any _ rfl _ _ 47 rfl (U.heap.size) 3 i0 (.int .i64 0) 1 8 Try.underlying47 hi hz0 hz1 hz2 rfl (by decide) _ _ _ rfl (HP1.out.alloc _) _ _ 1 1 _ rfl (reads_new _ _ 1 1 rfl) (by intro u hu; simp at hu; first | (subst hu; rfl) | (rcases hu with rfl | rfl <;> rfl) | (rcases hu with rfl | rfl | rfl <;> rfl)) (by unfold maxLen; omega) (by omega) (by (try simp) <;> (try omega)) ?_; intro v8 w8 hown8 hgrow8 hblk8; refine stopX ?_)
        obtain ⟨Ai, ci, rfl, _, _, _⟩ := own_form hown8
        have HP8 := Lib.hid (show w8.ownsRow U.heap.size 3 1 (.slice Ai (s.1.length + 1) ci) (s.1.length + 1) (ints (s.1 ++ [(pn : Int)])) by rw [ints_app]; exact hown8)
        have hbl := (Below.refl W1.heap.size W1).alloc (Nat.le_refl _) (.cells #[.int .i64 ((pn : Int))] 3)
        have hna := own_below HP1.out hbl (Nat.le_refl _)
        have HC8 := Lib.hid ((HC1.out.bel hbl).rowN hna (Nat.le_refl _) hgrow8)
        have ngF : ¬ (Value.slice Ao s.1.length co).ownBlock = some gF := fun h1 => by have := (HP1.out.lt _ h1).1; omega
        have nbx : ¬ (Value.slice Ao s.1.length co).ownBlock = some wr.heap.size := fun h1 => by have := (Hown.out.lt _ h1).2; omega
        have HF8 := Lib.hid ((HF1.out.below hbl HF1.out.lt).grown hgrow8 (fun e => ngF e.symm))
        have HX8 := Lib.hid ((HX1.out.below hbl HX1.out.lt).grown hgrow8 (fun e => nbx e.symm))
        have HS8 := Lib.hid ((HS1.out.below hbl).only (only_row hgrow8) (grown_not hna (by decide)))
        have z8 := hgrow8.size
        try simp at z8
        clear hown8 hgrow8 hblk8 hbl hna ngF nbx
        clear hq0
        refine stopped ?_
        go_wp2_with fail
        go_roundw
        case rel => exact ⟨j + 1, (s.1 ++ [(pn : Int)], s.2.1 + 1, s.2.2), _, by omega, by go_num, by go_num, Lib.hid (by rw [foldlM_take Hx.out, Hst.out]; exact HG.out), by rw [List.length_append]; exact HP8.out, HF8.out, HS8.out, HC8.out⟩
        case measure => simp [intOf]; omega
       ·have HG := Lib.hid (show sgF true param ports s (1, x1, x2) = none by rw [HGx.out, if_neg hzw])
        have hzb : (z1 != x1) = true := by simp [hzw]
        have HN := Lib.hid (show addF d (fu + 1) k param ports true f = none from addF_none1 Hmd.out (j := j + 1) (by rw [foldlM_take Hx.out, Hst.out]; exact HG.out))
        have HRw := Lib.hid (HC1.out.blk HXR.out (by decide) hgr1)
        clear hzw
        refine wp_region_lex (by kernel_rfl) (by kernel_rfl) (Cls (fun x => x = W1.drew)) (Cls.mk' rfl) ?_
        have lexNE : Nonempty (Wd (fun x => x = W1.drew)) := ⟨⟨_, rfl⟩⟩
        have lexW : ∀ W : Wd (fun x => x = W1.drew), W.val = W1.drew := fun W => W.ok
        (repeat (first | (refine lex_r fun K hK => ?_; go_big_quiet_op; refine hK _ ?_; clear hK K) | (refine lex_k fun K hK => ?_; go_simp; refine hK _ ?_; clear hK K)))
        (refine lex_nil ?_)
        clear lexNE lexW y0 y1 y2 y3 hz1c d0 d1 d2
        have HRd := Lib.hid (show Blk W1.drew gr 31 #[.slice none 0 0, .slice none 0 0, .slice none 0 0, .slice none 0 0] from HRw.out.drew)
        have hq1 : W1.drew.cell? ⟨gq, s.2.1, none⟩ = some (.int .i64 (pn : Int)) := hq0
        have HP1 := Lib.hid (own_drew HP1.out)
        have HF1 := Lib.hid (show MB W1.drew gF _ _ _ from HF1.out.drew)
        have HX1 := Lib.hid (show Blk W1.drew wr.heap.size 73 _ from HX1.out.drew)
        have HS1 := Lib.hid HS1.out.drew
        have HC1 := Lib.hid HC1.out.drew
        have zW1 : wr.heap.size < W1.drew.heap.size := zW1
        obtain ⟨W1, hW1⟩ : ∃ x, x = W1.drew := ⟨_, rfl⟩
        try rw [← hW1] at hq1
        try rw [← hW1] at HRd
        rw [← hW1] at HP1 HF1 HX1 HS1 HC1 zW1
        rw [← hW1]
        clear hW1
        obtain ⟨z0, z1, z2, z3⟩ := blkS4 HF1.out
        obtain ⟨r0, r1, r2, r3⟩ := blkS4 HRd.out
        have f0 := HRd.out.frozen 0
        have f1 := HRd.out.frozen 1
        have f2 := HRd.out.frozen 2
        have f3 := HRd.out.frozen 3
        go_wp2_with fail
        obtain ⟨wf, hwf⟩ : ∃ wf, wf = ((((W1.setCell ⟨gr, 0, none⟩ (.slice (some adz) s.2.2.length ct0)).setCell ⟨gr, 1, none⟩ (.slice as1 f.2.1.length cs1)).setCell ⟨gr, 2, none⟩ (.slice none 0 0)).setCell ⟨gr, 3, none⟩ (.slice as3 f.2.2.length cs3)) := ⟨_, rfl⟩
        have hRf : Blk wf gr 31 #[(.slice (some adz) s.2.2.length ct0), (.slice as1 f.2.1.length cs1), .slice none 0 0, (.slice as3 f.2.2.length cs3)] := by rw [hwf]; exact blk_four HRd.out
        have Kf := Lib.hid (show ChP lo flS noP w wf by rw [hwf]; exact (((((ChP.of_below lo flS noP HBU.out).trans' HC1.out (fun b hb hl => by omega)).setN (p := ⟨gr, 0, none⟩) (show w.heap.size ≤ gr by omega) _).setN (p := ⟨gr, 1, none⟩) (show w.heap.size ≤ gr by omega) _).setN (p := ⟨gr, 2, none⟩) (show w.heap.size ≤ gr by omega) _).setN (p := ⟨gr, 3, none⟩) (show w.heap.size ≤ gr by omega) _)
        have Sf := fun (sg : List TSignal) (ag : List TAssign) (mm : List TMem) (h : FlS W1 lo (.slice (some adz) s.2.2.length ct0) (.slice as1 f.2.1.length cs1) (.slice as3 f.2.2.length cs3) sg ag mm) => (show FlS wf lo (.slice (some adz) s.2.2.length ct0) (.slice as1 f.2.1.length cs1) (.slice as3 f.2.2.length cs3) sg ag mm by
         rw [hwf]
         exact fl_other (fl_other (fl_other (fl_other h HRd.out.of (by decide) _ _) ((HRd.out.set_ 0 _).of) (by decide) _ _) (((HRd.out.set_ 0 _).set_ 1 _).of) (by decide) _ _) ((((HRd.out.set_ 0 _).set_ 1 _).set_ 2 _).of) (by decide) _ _)
        obtain ⟨s0, s1, s2, s3⟩ := blkS4 hRf
        rw [← hwf]
        clear hwf
        refine bodyPost_ret (v := .tuple #[FV (.slice (some adz) s.2.2.length ct0) (.slice as1 f.2.1.length cs1) (.slice as3 f.2.2.length cs3), .bool false]) (by simp [results, Try.results16, go_sem, s0, s1, s2, s3]) rfl ?_
        unfold SAddQ
        rw [HN.out]
        exact ⟨Kf.out, _, _, _, _, _, _, _, _, _, rfl⟩
  ·have hge : (n0 : Int) ≤ (j : Int) := by omega
   have HST := Lib.hid (show m.1.foldlM (sgF cpd param ports) ([], 0, f.1) = some s by have h1 := Hst.out; rw [List.take_of_length_le (by have := Hn.out; omega)] at h1; exact h1)
   have HSO := Lib.hid (show SgOk cpd m.1 f.1 s by rw [List.take_of_length_le (by have := Hn.out; omega)] at hso; exact hso)
   have hsl0 : s.1.length = n0 := by have := Hsl.out; omega
   have Hown := Lib.hid (show wr.ownsRow U.heap.size 3 1 (.slice Ao n0 co) n0 (ints s.1) by have h1 := Hown.out; rw [hsl0] at h1; exact h1)
   have Hsl0 := Lib.hid hsl0
   go_wp2_with fail
   rw [Hsl0.out]
   obtain ⟨wo, hwo⟩ : ∃ wo, wo = wr := ⟨_, rfl⟩
   subst hwo
   have HPo := Lib.hid Hown.out
   have HXo := Lib.hid HXr.out
   have HBo := Lib.hid HBw.out
   have HRo := Lib.hid (Hch.out.blk HXR.out (by decide) hgr1)
   have HDo := Lib.hid (Hch.out.blk HXD.out (by decide) hgd1)
   have HCo := Lib.hid (show ChP lo flS noP w wo from (ChP.of_below lo flS noP HBU.out).trans' Hch.out (fun b hb hl => by omega))
   have hUw := HBU.out.size
   have hwz : w.heap.size ≤ wo.heap.size := HCo.out.size
   have hUo : U.heap.size ≤ wo.heap.size := hzr
   have hsh : s.2.2.length ≤ 60 := by have h1 := HSO.out.hi; have h2 := hsz.l0; have h3 := MO.n0; omega
   clear hso Hsl Hst Hown HXr Hch HBw hzr hge y0 y1 y2 y3 HXF HXD HXR HXM HE2 HB2 HU2
   go_loopw [19, 20, 21, 22] (fun iv _ _ _ wr => ∃ (kk : Nat) (u1 : Value), kk ≤ n1 ∧ iv = .int .i64 kk ∧ MB wr gF (.slice at0 s.2.2.length ct0) u1 (.slice as3 f.2.2.length cs3) ∧ FlS wr lo (.slice at0 s.2.2.length ct0) u1 (.slice as3 f.2.2.length cs3) s.2.2 (f.2.1 ++ (m.2.1.take kk).map (asF param s.1)) f.2.2 ∧ ChP lo flS (fun b => b = gF) wo wr) (fun iv _ _ _ _ => n1 - (intOf iv).toNat)
   case atStart => exact ⟨0, _, Nat.zero_le _, rfl, HFr.out, by simpa using HSr.out, ChP.refl _ _ _ _⟩
   case round =>
    clear HFr HSr
    obtain ⟨kk, u1, hkk, rfl, hfb, hfs, hch⟩ := hrel
    have Hch := Lib.hid hch
    have hzr := hch.size
    have HBw := Lib.hid (show Below lo w wr from (HBo.out.trans (hch.below (by omega) (fun b hb => by omega))))
    have HXr := Lib.hid (hch.blk HXo.out (by decide) hgm1)
    have HPr := Lib.hid (hch.own HPo.out (by decide) (fun g hg hc => by have := (HPo.out.lt g hg).1; omega))
    have gx0 : (0 : Int) ≤ (kk : Int) := by omega
    obtain ⟨y0, y1, y2, y3⟩ := blkS4 HXr.out
    clear hch
    obtain ⟨LA, hLA⟩ : ∃ LA, LA = f.2.1 ++ (m.2.1.take kk).map (asF param s.1) := ⟨_, rfl⟩
    rw [← hLA] at hfs
    have hLAn : LA.length ≤ 60 := by rw [hLA]; have h1 := hsz.l1; have h2 := MO.n1; simp; omega
    have HLA := Lib.hid hLA
    obtain ⟨R, xs, hrw⟩ := hfs.s1
    have ho1 := hrw.own
    rw [List.length_map] at ho1
    obtain ⟨aa, ca, rfl, _, _, _⟩ := own_form ho1
    have Hrw := Lib.hid hrw
    have Ho1 := Lib.hid ho1
    have HFr := Lib.hid hfb
    have HSr := Lib.hid hfs
    clear hfb hfs hLA hrw ho1
    by_cases hlt : kk < n1
    ·obtain ⟨ad2, a, os, A1, c1, rfl, hab2, hx, rps, hml, e0, e1⟩ := asg_row (R1.out.under hS HBw.out) hlt
     obtain ⟨⟨qa0, qa1⟩, q2, q3⟩ := MO.asg _ (List.mem_of_getElem? hx)
     simp only at qa0 qa1 q2 q3
     obtain ⟨an, tg, rfl, han, htg, htd⟩ := ids_at hsl0 qa0 (by have := Hn.out; omega)
     obtain ⟨gi, hgi⟩ : ∃ gi, Ao = some ⟨gi, 0, none⟩ := by
      obtain ⟨_, _, hv, _, _, h2⟩ := own_form HPo.out
      injection hv with hA
      obtain ⟨g, h3, _⟩ := h2 (by omega)
      exact ⟨g, hA.trans h3⟩
     subst hgi
     obtain ⟨no, hno⟩ : ∃ no, os.length = no := ⟨_, rfl⟩
     rw [hno] at rps hml e1 q2
     have Hno := Lib.hid hno
     have Hq3 := Lib.hid q3
     have Htd := Lib.hid htd
     have Hs := Lib.hid (map_snocF (g := asF param s.1) hx)
     have g4 : (kk : Int) < (n1 : Int) := by omega
     have g5 : (0 : Int) ≤ (an : Int) := by omega
     have g6 : (an : Int) < (n0 : Int) := by omega
     have hpa := own_at HPr.out htg
     have Rps := Lib.hid rps
     have hba := hS _ hab2
     have HE1 := Lib.hid e1
     obtain ⟨B2, hB2⟩ : ∃ B2, B2 = wr.alloc (.cells #[.int .i64 tg, .slice none 0 0] 76) := ⟨_, rfl⟩
     have HbB2 := Lib.hid (show Below wr.heap.size wr B2 by rw [hB2]; exact (Below.refl _ _).alloc (Nat.le_refl _) _)
     obtain ⟨gx, hgx⟩ : ∃ g, g = wr.heap.size := ⟨_, rfl⟩
     have HgB2 := Lib.hid (show Blk B2 gx 76 #[.int .i64 tg, .slice none 0 0] by rw [hB2, hgx]; exact Blk.new _ _ _)
     have zgx : wr.heap.size ≤ gx := by omega
     have zB2 : gx < B2.heap.size := HgB2.out.lt
     clear hx qa0 qa1 q3 hno htd htg rps
     go_wp2_with fail
     rw [← hB2, ← hgx]
     clear hB2 hgx hpa e0 e1 y0 y1 y2 y3
     go_loopw [21, 22] (fun jv _ wq => ∃ (j : Nat) (L : List TOp) (vo : Value), j ≤ no ∧ jv = .int .i64 j ∧ Blk wq gx 76 #[.int .i64 tg, vo] ∧ wq.ownsRow B2.heap.size 78 3 vo j (recs eOp L) ∧ Hid (L = (os.take j).map (opF param s.1)) ∧ Only (fun b => b = gx) B2 wq) (fun jv _ _ => no - (intOf jv).toNat)
     case atStart => exact ⟨0, [], _, Nat.zero_le _, rfl, HgB2.out, World.ownsRow_nil _ _ _ _, Lib.hid (by simp), Only.refl _ _⟩
     case round =>
      obtain ⟨j, L, vo, hj, rfl, hgb, hro, hL, hon⟩ := hrel
      obtain ⟨wq, hwq⟩ : ∃ x, x = wr := ⟨_, rfl⟩
      subst hwq
      have zq := hon.size
      obtain ⟨Aq, cq, rfl, _, _, _⟩ := own_form hro
      have HGq := Lib.hid hgb
      have HRq := Lib.hid hro
      have HOq := Lib.hid hon
      have gy : (0 : Int) ≤ (j : Int) := by omega
      have HBq := Lib.hid (show Below wr.heap.size wr wq from HbB2.out.trans (hon.below (by omega) (fun b hb => by omega)))
      obtain ⟨y0, y1, y2, y3⟩ := blkS4 (HXr.out.below HBq.out HXr.out.lt)
      have e1 := (HBq.out.cell (p := nxt (ad2.add (kk * 2)) 1) (by rw [nxt_block]; omega)).trans HE1.out
      clear hgb hro hon
      by_cases hlj : j < no
      ·obtain ⟨ad3, o0, o1, o2, rfl, hab3, hx, d0, d1, d2⟩ := fOpS_row (Rps.out.under (B := wr.heap.size) (fun b hb => by have := hS b hb; omega) HBq.out) hlj
       have Hq := Lib.hid (Hq3.out _ (List.mem_of_getElem? hx))
       have Hs5 := Lib.hid (map_snocF (g := opF param s.1) hx)
       have g7 : (j : Int) < (no : Int) := by omega
       obtain ⟨V1, hV1⟩ : ∃ V1, V1 = wq.alloc (.cells #[.int .i64 o0, .int .i64 o1, .int .i64 o2] 78) := ⟨_, rfl⟩
       have HbV := Lib.hid (show Below wq.heap.size wq V1 by rw [hV1]; exact (Below.refl _ _).alloc (Nat.le_refl _) _)
       have HkV := Lib.hid (show Blk V1 wq.heap.size 78 #[.int .i64 o0, .int .i64 o1, .int .i64 o2] by rw [hV1]; exact Blk.new _ _ _)
       have HgV := Lib.hid (HGq.out.below HbV.out HGq.out.lt)
       have HrV := Lib.hid (own_below HRq.out HbV.out (Nat.le_refl _))
       have HoV := Lib.hid (HOq.out.trans (Only.of_below HbV.out _))
       clear hx
       go_upto_region 25 with fail
       rw [← hV1]
       clear hV1 e1 d0 d1 d2 y0 y1 y2 y3
       obtain ⟨z0, z1, z2⟩ := blkS3 HkV.out
       have hro2 : ∀ g, (Value.slice Aq j cq).ownBlock = some g → g ≠ wq.heap.size := fun g hg => by have := (HRq.out.lt g hg).2; omega
       have hgx2 : gx ≠ wq.heap.size := by omega
       have hB2q : B2.heap.size ≤ wq.heap.size := zq
       have f0 := HkV.out.frozen 0
       have f1 := HkV.out.frozen 1
       have f2 := HkV.out.frozen 2
       by_cases h1 : o0 = 1
       ·subst h1
        have HE := Lib.hid (show opF param s.1 (1, o1, o2) = (0, param, 0) from opF_1)
        go_upto_region 31 with fail
        obtain ⟨V2, hV2⟩ : ∃ V2, V2 = (((V1.setCell ⟨wq.heap.size, 0, none⟩ (.int .i64 0)).setCell ⟨wq.heap.size, 1, none⟩ (.int .i64 param)).setCell ⟨wq.heap.size, 2, none⟩ (.int .i64 0)) := ⟨_, rfl⟩
        rw [← hV2]
        have HO2 := Lib.hid (show V2.ownsRow B2.heap.size 78 3 (.slice Aq j cq) j (recs eOp L) by rw [hV2]; exact own_far (own_far (own_far HrV.out hro2 _) hro2 _) hro2 _)
        have HG2 := Lib.hid (show Blk V2 gx 76 #[.int .i64 tg, .slice Aq j cq] by rw [hV2]; exact ((HgV.out.far (p := ⟨wq.heap.size, 0, none⟩) hgx2 _).far (p := ⟨wq.heap.size, 1, none⟩) hgx2 _).far (p := ⟨wq.heap.size, 2, none⟩) hgx2 _)
        have HB2x := Lib.hid (show Blk V2 wq.heap.size 78 #[.int .i64 (0), .int .i64 (param), .int .i64 (0)] by rw [hV2]; exact ((HkV.out.set_ 0 _).set_ 1 _).set_ 2 _)
        have HOn := Lib.hid (show Only (fun b => b = gx) B2 V2 by rw [hV2]; exact ((HoV.out.setCell (.inr hB2q) _).setCell (.inr hB2q) _).setCell (.inr hB2q) _)
        have zV2 : wq.heap.size < V2.heap.size := HB2x.out.lt
        clear hV2
        obtain ⟨d0, d1, d2⟩ := blkS3 HB2x.out
        obtain ⟨q0, q1⟩ := blkS2 HG2.out
        obtain ⟨i0, hi, hz0, hz1, hz2⟩ := info_parts Try.infOpC
        go_wp2_with (at_builtin; refine wpList_append_any _ rfl _ _ 74 rfl (B2.heap.size) 78 i0 (.agg #[.int .i64 0, .int .i64 0, .int .i64 0]) 3 24 Try.underlying74 hi hz0 hz1 hz2 rfl (by decide) _ _ _ rfl (HO2.out.alloc _) _ _ 1 1 _ rfl (reads_new _ _ 1 3 rfl) (by intro u hu; simp at hu; first | (subst hu; rfl) | (rcases hu with rfl | rfl <;> rfl) | (rcases hu with rfl | rfl | rfl <;> rfl)) (by unfold maxLen; omega) (by omega) (by (try simp) <;> (try omega)) ?_; intro v8 w8 hown8 hgrow8 hblk8; refine stopX ?_)
        obtain ⟨A8, c8, rfl, _, _, _⟩ := own_form hown8
        have ngx : ¬ (Value.slice Aq j cq).ownBlock = some gx := fun h1 => by have := (HO2.out.lt _ h1).1; omega
        have HG8 := Lib.hid ((HG2.out.alloc _).grown hgrow8 (fun e => ngx e.symm))
        have HO8 := Lib.hid (Only.grown2 (HOn.out.alloc _) hgrow8 (fun g hg => .inr (HO2.out.lt g hg).1))
        have HR8 := Lib.hid (show w8.ownsRow B2.heap.size 78 3 (.slice A8 (j + 1) c8) (j + 1) (recs eOp (L ++ [(0, param, 0)])) by rw [recs_app]; exact hown8)
        have e0 := HG8.out.cell 1
        have f0 := HG8.out.frozen 1
        simp only [List.getElem?_toArray, List.getElem?_cons_zero, List.getElem?_cons_succ] at e0
        clear d0 d1 d2 q0 q1 hown8 hgrow8 hblk8 ngx
        refine stopped ?_
        go_wp2_with fail
        obtain ⟨wf, hwf⟩ : ∃ wf, wf = (w8.setCell ⟨gx, 1, none⟩ (.slice A8 (j + 1) c8)) := ⟨_, rfl⟩
        have HGf := Lib.hid (show Blk wf gx 76 #[.int .i64 tg, .slice A8 (j + 1) c8] by rw [hwf]; exact HG8.out.set_ 1 _)
        have HRf := Lib.hid (show wf.ownsRow B2.heap.size 78 3 (.slice A8 (j + 1) c8) (j + 1) (recs eOp (L ++ [(0, param, 0)])) by rw [hwf]; exact own_far HR8.out (fun g hg => by show g ≠ gx; have := (HR8.out.lt g hg).1; omega) _)
        have HOf := Lib.hid (show Only (fun b => b = gx) B2 wf by rw [hwf]; exact HO8.out.setCell (.inl rfl) _)
        rw [← hwf]
        clear hwf e0 f0
        go_roundw
        case rel => exact ⟨j + 1, L ++ [(0, param, 0)], _, by omega, by go_num, HGf.out, HRf.out, Lib.hid (by rw [hL.out, Hs5.out, HE.out]), HOf.out⟩
        case measure => simp [intOf]; omega
       ·have h1b : (o0 == 1) = false := by simpa using h1
        by_cases h23 : o0 = 2 ∨ o0 = 3
        ·have hr := opB_at Hq.out h23
         obtain ⟨on, vv, rfl, hon2, hvv, hvd⟩ := ids_at hsl0 hr.1 (by have := Hn.out; omega)
         have HE := Lib.hid (show opF param s.1 (o0, (on : Int), o2) = (o0, vv, o2) by rw [opF_sig h1 h23, hvd])
         have hpq := own_at (own_below (own_below HPr.out HBq.out (Nat.le_refl _)) HbV.out (Nat.le_refl _)) hvv
         have g8 : (0 : Int) ≤ (on : Int) := by omega
         have g9 : (on : Int) < (n0 : Int) := by omega
         clear hvv hvd hr h1
         rcases h23 with rfl | rfl
         ·go_upto_region 31 with fail
          obtain ⟨V2, hV2⟩ : ∃ V2, V2 = V1.setCell ⟨wq.heap.size, 1, none⟩ (.int .i64 vv) := ⟨_, rfl⟩
          rw [← hV2]
          have HO2 := Lib.hid (show V2.ownsRow B2.heap.size 78 3 (.slice Aq j cq) j (recs eOp L) by rw [hV2]; exact own_far HrV.out hro2 _)
          have HG2 := Lib.hid (show Blk V2 gx 76 #[.int .i64 tg, .slice Aq j cq] by rw [hV2]; exact HgV.out.far (p := ⟨wq.heap.size, 1, none⟩) hgx2 _)
          have HB2x := Lib.hid (show Blk V2 wq.heap.size 78 #[.int .i64 (2), .int .i64 (vv), .int .i64 (o2)] by rw [hV2]; exact HkV.out.set_ 1 _)
          have HOn := Lib.hid (show Only (fun b => b = gx) B2 V2 by rw [hV2]; exact HoV.out.setCell (.inr hB2q) _)
          have zV2 : wq.heap.size < V2.heap.size := HB2x.out.lt
          clear hV2
          obtain ⟨d0, d1, d2⟩ := blkS3 HB2x.out
          obtain ⟨q0, q1⟩ := blkS2 HG2.out
          obtain ⟨i0, hi, hz0, hz1, hz2⟩ := info_parts Try.infOpC
          go_wp2_with (at_builtin; refine wpList_append_any _ rfl _ _ 74 rfl (B2.heap.size) 78 i0 (.agg #[.int .i64 0, .int .i64 0, .int .i64 0]) 3 24 Try.underlying74 hi hz0 hz1 hz2 rfl (by decide) _ _ _ rfl (HO2.out.alloc _) _ _ 1 1 _ rfl (reads_new _ _ 1 3 rfl) (by intro u hu; simp at hu; first | (subst hu; rfl) | (rcases hu with rfl | rfl <;> rfl) | (rcases hu with rfl | rfl | rfl <;> rfl)) (by unfold maxLen; omega) (by omega) (by (try simp) <;> (try omega)) ?_; intro v8 w8 hown8 hgrow8 hblk8; refine stopX ?_)
          obtain ⟨A8, c8, rfl, _, _, _⟩ := own_form hown8
          have ngx : ¬ (Value.slice Aq j cq).ownBlock = some gx := fun h1 => by have := (HO2.out.lt _ h1).1; omega
          have HG8 := Lib.hid ((HG2.out.alloc _).grown hgrow8 (fun e => ngx e.symm))
          have HO8 := Lib.hid (Only.grown2 (HOn.out.alloc _) hgrow8 (fun g hg => .inr (HO2.out.lt g hg).1))
          have HR8 := Lib.hid (show w8.ownsRow B2.heap.size 78 3 (.slice A8 (j + 1) c8) (j + 1) (recs eOp (L ++ [(2, vv, o2)])) by rw [recs_app]; exact hown8)
          have e0 := HG8.out.cell 1
          have f0 := HG8.out.frozen 1
          simp only [List.getElem?_toArray, List.getElem?_cons_zero, List.getElem?_cons_succ] at e0
          clear d0 d1 d2 q0 q1 hown8 hgrow8 hblk8 ngx
          refine stopped ?_
          go_wp2_with fail
          obtain ⟨wf, hwf⟩ : ∃ wf, wf = (w8.setCell ⟨gx, 1, none⟩ (.slice A8 (j + 1) c8)) := ⟨_, rfl⟩
          have HGf := Lib.hid (show Blk wf gx 76 #[.int .i64 tg, .slice A8 (j + 1) c8] by rw [hwf]; exact HG8.out.set_ 1 _)
          have HRf := Lib.hid (show wf.ownsRow B2.heap.size 78 3 (.slice A8 (j + 1) c8) (j + 1) (recs eOp (L ++ [(2, vv, o2)])) by rw [hwf]; exact own_far HR8.out (fun g hg => by show g ≠ gx; have := (HR8.out.lt g hg).1; omega) _)
          have HOf := Lib.hid (show Only (fun b => b = gx) B2 wf by rw [hwf]; exact HO8.out.setCell (.inl rfl) _)
          rw [← hwf]
          clear hwf e0 f0
          go_roundw
          case rel => exact ⟨j + 1, L ++ [(2, vv, o2)], _, by omega, by go_num, HGf.out, HRf.out, Lib.hid (by rw [hL.out, Hs5.out, HE.out]), HOf.out⟩
          case measure => simp [intOf]; omega
         ·go_upto_region 31 with fail
          obtain ⟨V2, hV2⟩ : ∃ V2, V2 = V1.setCell ⟨wq.heap.size, 1, none⟩ (.int .i64 vv) := ⟨_, rfl⟩
          rw [← hV2]
          have HO2 := Lib.hid (show V2.ownsRow B2.heap.size 78 3 (.slice Aq j cq) j (recs eOp L) by rw [hV2]; exact own_far HrV.out hro2 _)
          have HG2 := Lib.hid (show Blk V2 gx 76 #[.int .i64 tg, .slice Aq j cq] by rw [hV2]; exact HgV.out.far (p := ⟨wq.heap.size, 1, none⟩) hgx2 _)
          have HB2x := Lib.hid (show Blk V2 wq.heap.size 78 #[.int .i64 (3), .int .i64 (vv), .int .i64 (o2)] by rw [hV2]; exact HkV.out.set_ 1 _)
          have HOn := Lib.hid (show Only (fun b => b = gx) B2 V2 by rw [hV2]; exact HoV.out.setCell (.inr hB2q) _)
          have zV2 : wq.heap.size < V2.heap.size := HB2x.out.lt
          clear hV2
          obtain ⟨d0, d1, d2⟩ := blkS3 HB2x.out
          obtain ⟨q0, q1⟩ := blkS2 HG2.out
          obtain ⟨i0, hi, hz0, hz1, hz2⟩ := info_parts Try.infOpC
          go_wp2_with (at_builtin; refine wpList_append_any _ rfl _ _ 74 rfl (B2.heap.size) 78 i0 (.agg #[.int .i64 0, .int .i64 0, .int .i64 0]) 3 24 Try.underlying74 hi hz0 hz1 hz2 rfl (by decide) _ _ _ rfl (HO2.out.alloc _) _ _ 1 1 _ rfl (reads_new _ _ 1 3 rfl) (by intro u hu; simp at hu; first | (subst hu; rfl) | (rcases hu with rfl | rfl <;> rfl) | (rcases hu with rfl | rfl | rfl <;> rfl)) (by unfold maxLen; omega) (by omega) (by (try simp) <;> (try omega)) ?_; intro v8 w8 hown8 hgrow8 hblk8; refine stopX ?_)
          obtain ⟨A8, c8, rfl, _, _, _⟩ := own_form hown8
          have ngx : ¬ (Value.slice Aq j cq).ownBlock = some gx := fun h1 => by have := (HO2.out.lt _ h1).1; omega
          have HG8 := Lib.hid ((HG2.out.alloc _).grown hgrow8 (fun e => ngx e.symm))
          have HO8 := Lib.hid (Only.grown2 (HOn.out.alloc _) hgrow8 (fun g hg => .inr (HO2.out.lt g hg).1))
          have HR8 := Lib.hid (show w8.ownsRow B2.heap.size 78 3 (.slice A8 (j + 1) c8) (j + 1) (recs eOp (L ++ [(3, vv, o2)])) by rw [recs_app]; exact hown8)
          have e0 := HG8.out.cell 1
          have f0 := HG8.out.frozen 1
          simp only [List.getElem?_toArray, List.getElem?_cons_zero, List.getElem?_cons_succ] at e0
          clear d0 d1 d2 q0 q1 hown8 hgrow8 hblk8 ngx
          refine stopped ?_
          go_wp2_with fail
          obtain ⟨wf, hwf⟩ : ∃ wf, wf = (w8.setCell ⟨gx, 1, none⟩ (.slice A8 (j + 1) c8)) := ⟨_, rfl⟩
          have HGf := Lib.hid (show Blk wf gx 76 #[.int .i64 tg, .slice A8 (j + 1) c8] by rw [hwf]; exact HG8.out.set_ 1 _)
          have HRf := Lib.hid (show wf.ownsRow B2.heap.size 78 3 (.slice A8 (j + 1) c8) (j + 1) (recs eOp (L ++ [(3, vv, o2)])) by rw [hwf]; exact own_far HR8.out (fun g hg => by show g ≠ gx; have := (HR8.out.lt g hg).1; omega) _)
          have HOf := Lib.hid (show Only (fun b => b = gx) B2 wf by rw [hwf]; exact HO8.out.setCell (.inl rfl) _)
          rw [← hwf]
          clear hwf e0 f0
          go_roundw
          case rel => exact ⟨j + 1, L ++ [(3, vv, o2)], _, by omega, by go_num, HGf.out, HRf.out, Lib.hid (by rw [hL.out, Hs5.out, HE.out]), HOf.out⟩
          case measure => simp [intOf]; omega
        ·have h2b : (o0 == 2) = false := by simp; omega
         have h3b : (o0 == 3) = false := by simp; omega
         have HE := Lib.hid (show opF param s.1 (o0, o1, o2) = (o0, o1, o2) from opF_else h1 (by omega) (by omega))
         clear h1 h23
         go_upto_region 31 with fail
         obtain ⟨V2, hV2⟩ : ∃ V2, V2 = V1 := ⟨_, rfl⟩
         rw [← hV2]
         have HO2 := Lib.hid (show V2.ownsRow B2.heap.size 78 3 (.slice Aq j cq) j (recs eOp L) by rw [hV2]; exact HrV.out)
         have HG2 := Lib.hid (show Blk V2 gx 76 #[.int .i64 tg, .slice Aq j cq] by rw [hV2]; exact HgV.out)
         have HB2x := Lib.hid (show Blk V2 wq.heap.size 78 #[.int .i64 (o0), .int .i64 (o1), .int .i64 (o2)] by rw [hV2]; exact HkV.out)
         have HOn := Lib.hid (show Only (fun b => b = gx) B2 V2 by rw [hV2]; exact HoV.out)
         have zV2 : wq.heap.size < V2.heap.size := HB2x.out.lt
         clear hV2
         obtain ⟨d0, d1, d2⟩ := blkS3 HB2x.out
         obtain ⟨q0, q1⟩ := blkS2 HG2.out
         obtain ⟨i0, hi, hz0, hz1, hz2⟩ := info_parts Try.infOpC
         go_wp2_with (at_builtin; refine wpList_append_any _ rfl _ _ 74 rfl (B2.heap.size) 78 i0 (.agg #[.int .i64 0, .int .i64 0, .int .i64 0]) 3 24 Try.underlying74 hi hz0 hz1 hz2 rfl (by decide) _ _ _ rfl (HO2.out.alloc _) _ _ 1 1 _ rfl (reads_new _ _ 1 3 rfl) (by intro u hu; simp at hu; first | (subst hu; rfl) | (rcases hu with rfl | rfl <;> rfl) | (rcases hu with rfl | rfl | rfl <;> rfl)) (by unfold maxLen; omega) (by omega) (by (try simp) <;> (try omega)) ?_; intro v8 w8 hown8 hgrow8 hblk8; refine stopX ?_)
         obtain ⟨A8, c8, rfl, _, _, _⟩ := own_form hown8
         have ngx : ¬ (Value.slice Aq j cq).ownBlock = some gx := fun h1 => by have := (HO2.out.lt _ h1).1; omega
         have HG8 := Lib.hid ((HG2.out.alloc _).grown hgrow8 (fun e => ngx e.symm))
         have HO8 := Lib.hid (Only.grown2 (HOn.out.alloc _) hgrow8 (fun g hg => .inr (HO2.out.lt g hg).1))
         have HR8 := Lib.hid (show w8.ownsRow B2.heap.size 78 3 (.slice A8 (j + 1) c8) (j + 1) (recs eOp (L ++ [(o0, o1, o2)])) by rw [recs_app]; exact hown8)
         have e0 := HG8.out.cell 1
         have f0 := HG8.out.frozen 1
         simp only [List.getElem?_toArray, List.getElem?_cons_zero, List.getElem?_cons_succ] at e0
         clear d0 d1 d2 q0 q1 hown8 hgrow8 hblk8 ngx
         refine stopped ?_
         go_wp2_with fail
         obtain ⟨wf, hwf⟩ : ∃ wf, wf = (w8.setCell ⟨gx, 1, none⟩ (.slice A8 (j + 1) c8)) := ⟨_, rfl⟩
         have HGf := Lib.hid (show Blk wf gx 76 #[.int .i64 tg, .slice A8 (j + 1) c8] by rw [hwf]; exact HG8.out.set_ 1 _)
         have HRf := Lib.hid (show wf.ownsRow B2.heap.size 78 3 (.slice A8 (j + 1) c8) (j + 1) (recs eOp (L ++ [(o0, o1, o2)])) by rw [hwf]; exact own_far HR8.out (fun g hg => by show g ≠ gx; have := (HR8.out.lt g hg).1; omega) _)
         have HOf := Lib.hid (show Only (fun b => b = gx) B2 wf by rw [hwf]; exact HO8.out.setCell (.inl rfl) _)
         rw [← hwf]
         clear hwf e0 f0
         go_roundw
         case rel => exact ⟨j + 1, L ++ [(o0, o1, o2)], _, by omega, by go_num, HGf.out, HRf.out, Lib.hid (by rw [hL.out, Hs5.out, HE.out]), HOf.out⟩
         case measure => simp [intOf]; omega
      ·have HLe := Lib.hid (show asF param s.1 ((an : Int), os) = (tg, L) by rw [hL.out, List.take_of_length_le (by rw [Hno.out]; omega)]; show (s.1.getD (an : Int).toNat 0, _) = _; rw [Htd.out])
       have hge : (no : Int) ≤ (j : Int) := by omega
       have HFq := Lib.hid (HFr.out.below HBq.out HFr.out.lt)
       have HSq := Lib.hid (HSr.out.below HBq.out)
       have Hrq := Lib.hid (Hrw.out.only (Only.of_below HBq.out (fun _ => False)) (NoT.none _ _ _))
       have Hoq := Lib.hid (own_below Ho1.out HBq.out (Nat.le_refl _))
       have hqR : ∀ b, R b → b < wr.heap.size := fun b hb => (Hrw.out.rng b hb).2.lt
       obtain ⟨i0, hi, hz0, hz1, hz2⟩ := info_parts Try.infAssignC
       have ng : ¬ (Value.slice aa LA.length ca).ownBlock = some gF := own_blk_ne Hoq.out HFq.out (by decide)
       obtain ⟨q0, q1, q2, q3⟩ := blkS4 HFq.out
       obtain ⟨d0, d1⟩ := blkS2 HGq.out
       go_wp2_with (at_builtin; refine wpList_append_any _ rfl _ _ 27 rfl (lo) 76 i0 (.agg #[.int .i64 0, .slice none 0 0]) 2 32 Try.underlying27 hi hz0 hz1 hz2 rfl (by decide) _ _ _ rfl (Hoq.out.alloc _) _ _ 1 1 _ rfl (reads_new _ _ 1 2 rfl) (by intro u hu; simp at hu; first | (subst hu; rfl) | (rcases hu with rfl | rfl <;> rfl) | (rcases hu with rfl | rfl | rfl <;> rfl)) (by unfold maxLen; omega) (by omega) (by (try simp) <;> (try omega)) ?_; intro v8 w8 hown8 hgrow8 hblk8; refine stopX ?_)
       obtain ⟨A8, c8, rfl, _, _, _⟩ := own_form hown8
       have hbl := fun o : Obj => (Below.refl wq.heap.size wq).alloc (Nat.le_refl _) o
       have HS8 := Lib.hid (FlS.pushA (w0 := wr) (HSq.out.alloc _) (Hrq.out.only (Only.of_below (hbl _) (fun _ => False)) (NoT.none _ _ _)) hqR (by omega) (show wr.heap.size ≤ B2.heap.size by omega) (own_below HRq.out (hbl _) (Nat.le_refl _)) (by unfold maxLen; omega) hown8 hgrow8)
       have HF8 := Lib.hid ((HFq.out.alloc _).grown hgrow8 (fun e => ng e.symm))
       have K8 := Lib.hid (((Hch.out.bel HBq.out).alloc _).row (own_below Hoq.out ((Below.refl _ _).alloc (Nat.le_refl _) _) (Nat.le_refl _)) (Nat.le_refl _) flS_asg hgrow8)
       clear hown8 hgrow8 hblk8 hbl y0 y1 y2 y3 e1 q0 q1 q2 q3 d0 d1 ng
       have e1 := HF8.out.cell 1
       have f1 := HF8.out.frozen 1
       simp only [List.getElem?_toArray, List.getElem?_cons_zero, List.getElem?_cons_succ] at e1
       refine stopped ?_
       go_wp2_with fail
       clear e1 f1
       obtain ⟨wf, hwf⟩ : ∃ wf, wf = (w8.setCell ⟨gF, 1, none⟩ (.slice A8 (LA.length + 1) c8)) := ⟨_, rfl⟩
       have HFf := Lib.hid (show MB wf gF (.slice at0 s.2.2.length ct0) (.slice A8 (LA.length + 1) c8) (.slice as3 f.2.2.length cs3) by rw [hwf]; exact HF8.out.set_ 1 _)
       have HSf := Lib.hid (show FlS wf lo (.slice at0 s.2.2.length ct0) (.slice A8 (LA.length + 1) c8) (.slice as3 f.2.2.length cs3) s.2.2 (LA ++ [(tg, L)]) f.2.2 by rw [hwf]; exact fl_other HS8.out HF8.out.of (by decide) _ _)
       have Kf := Lib.hid (show ChP lo flS (fun b => b = gF) wo wf by rw [hwf]; exact K8.out.setP (p := ⟨gF, 1, none⟩) rfl _)
       rw [← hwf]
       clear hwf
       go_roundw
       case rel => exact ⟨kk + 1, _, by omega, by go_num, HFf.out, by rw [Hs.out, HLe.out, ← List.append_assoc, ← HLA.out]; exact HSf.out, Kf.out⟩
       case measure => simp [intOf]; omega
    ·have hge : (n1 : Int) ≤ (kk : Int) := by omega
     have HLB := Lib.hid (show LA = f.2.1 ++ m.2.1.map (asF param s.1) by rw [HLA.out, List.take_of_length_le (by have := Hn.out; omega)])
     obtain ⟨wp, hwp⟩ : ∃ wp, wp = wr := ⟨_, rfl⟩
     subst hwp
     have hLz : LA.length = f.2.1.length + n1 := by rw [HLB.out]; have := Hn.out; simp; omega
     have HLz := Lib.hid hLz
     clear hLz
     go_wp2_with fail
     clear y0 y1 y2 y3 hge HLA Hrw
     go_loopw [23, 24] (fun iv _ wr => ∃ (kk : Nat) (u3 : Value), kk ≤ n3 ∧ iv = .int .i64 kk ∧ MB wr gF (.slice at0 s.2.2.length ct0) (.slice aa LA.length ca) u3 ∧ FlS wr lo (.slice at0 s.2.2.length ct0) (.slice aa LA.length ca) u3 s.2.2 LA (f.2.2 ++ (m.2.2.2.take kk).map (mmF s.1)) ∧ ChP lo flS (fun b => b = gF) wo wr) (fun iv _ _ => n3 - (intOf iv).toNat)
     case atStart => exact ⟨0, _, Nat.zero_le _, rfl, HFr.out, by simpa using HSr.out, Hch.out⟩
     case round =>
      clear HFr HSr Hch HPr HXr HBw hzr gx0 Ho1 hlt
      obtain ⟨kk, u3, hkk, rfl, hfb, hfs, hch⟩ := hrel
      have Hch := Lib.hid hch
      have hzr := hch.size
      have HBw := Lib.hid (show Below lo w wr from (HBo.out.trans (hch.below (by omega) (fun b hb => by omega))))
      have HXr := Lib.hid (hch.blk HXo.out (by decide) hgm1)
      have HPr := Lib.hid (hch.own HPo.out (by decide) (fun g hg hc => by have := (HPo.out.lt g hg).1; omega))
      have gx0 : (0 : Int) ≤ (kk : Int) := by omega
      obtain ⟨y0, y1, y2, y3⟩ := blkS4 HXr.out
      clear hch
      obtain ⟨LM, hLM⟩ : ∃ LM, LM = f.2.2 ++ (m.2.2.2.take kk).map (mmF s.1) := ⟨_, rfl⟩
      rw [← hLM] at hfs
      have hLMn : LM.length ≤ 4 := by rw [hLM]; have h1 := hsz.l2; have h2 := MO.n3; simp; omega
      have HLM := Lib.hid hLM
      obtain ⟨am, cm, rfl, _, _, _⟩ := own_form hfs.s3
      have HFr := Lib.hid hfb
      have HSr := Lib.hid hfs
      clear hfb hfs hLM
      by_cases hlt : kk < n3
      ·obtain ⟨ad2, x0, x1, x2, x3, rfl, hab2, hx, e0, e1, e2, e3⟩ := fMemS_row (R3.out.under hS HBw.out) hlt
       obtain ⟨qa, qb, qc, qd⟩ := MO.mem _ (List.mem_of_getElem? hx)
       simp only at qa qb qc qd
       obtain ⟨p0, t0, rfl, hp0, ht0, hd0⟩ := ids_at hsl0 qa.1 (by have := Hn.out; omega)
       obtain ⟨p1, t1, rfl, hp1, ht1, hd1⟩ := ids_at hsl0 qb.1 (by have := Hn.out; omega)
       obtain ⟨p2, t2, rfl, hp2, ht2, hd2⟩ := ids_at hsl0 qc.1 (by have := Hn.out; omega)
       obtain ⟨p3, t3, rfl, hp3, ht3, hd3⟩ := ids_at hsl0 qd.1 (by have := Hn.out; omega)
       obtain ⟨gi, hgi⟩ : ∃ gi, Ao = some ⟨gi, 0, none⟩ := by
        obtain ⟨_, _, hv, _, _, h2⟩ := own_form HPo.out
        injection hv with hA
        obtain ⟨g, h3, _⟩ := h2 (by omega)
        exact ⟨g, hA.trans h3⟩
       subst hgi
       have hgi2 : gi < wr.heap.size := (HPr.out.lt gi rfl).2
       have Hs := Lib.hid (map_snocF (g := mmF s.1) hx)
       have Hmx := Lib.hid (show mmF s.1 ((p0 : Int), (p1 : Int), (p2 : Int), (p3 : Int)) = (t0, t1, t2, t3) by unfold mmF; rw [hd0, hd1, hd2, hd3])
       have g4 : (kk : Int) < (n3 : Int) := by omega
       have a0 : (0 : Int) ≤ (p0 : Int) := by omega
       have a1 : (0 : Int) ≤ (p1 : Int) := by omega
       have a2 : (0 : Int) ≤ (p2 : Int) := by omega
       have a3 : (0 : Int) ≤ (p3 : Int) := by omega
       have a4 : (p0 : Int) < (n0 : Int) := by omega
       have a5 : (p1 : Int) < (n0 : Int) := by omega
       have a6 : (p2 : Int) < (n0 : Int) := by omega
       have a7 : (p3 : Int) < (n0 : Int) := by omega
       obtain ⟨B1, hB1⟩ : ∃ B1, B1 = wr.alloc (.cells #[.int .i64 p0, .int .i64 p1, .int .i64 p2, .int .i64 p3] 80) := ⟨_, rfl⟩
       have HbB1 := Lib.hid (show Below wr.heap.size wr B1 by rw [hB1]; exact (Below.refl _ _).alloc (Nat.le_refl _) _)
       have HkB1 := Lib.hid (show Blk B1 wr.heap.size 80 #[.int .i64 p0, .int .i64 p1, .int .i64 p2, .int .i64 p3] by rw [hB1]; exact Blk.new _ _ _)
       have zB1 : wr.heap.size < B1.heap.size := HkB1.out.lt
       have HP1 := Lib.hid (own_below HPr.out HbB1.out (Nat.le_refl _))
       have HF1 := Lib.hid (HFr.out.below HbB1.out HFr.out.lt)
       have HS1 := Lib.hid (HSr.out.below HbB1.out)
       have i0' := own_at HP1.out ht0
       have i1' := own_at HP1.out ht1
       have i2' := own_at HP1.out ht2
       have i3' := own_at HP1.out ht3
       obtain ⟨i0, hi, hz0, hz1, hz2⟩ := info_parts Try.infMemC
       clear hx qa qb qc qd ht0 ht1 ht2 ht3 hd0 hd1 hd2 hd3
       go_wp2_with fail
       rw [← hB1]
       clear hB1 e0 e1 e2 e3 y0 y1 y2 y3
       have ng : ¬ (Value.slice am LM.length cm).ownBlock = some gF := own_blk_ne HS1.out.s3 HF1.out (by decide)
       have nx : ¬ (Value.slice am LM.length cm).ownBlock = some wr.heap.size := fun h1 => by have := (HSr.out.s3.lt _ h1).2; omega
       have np2 : ¬ (Value.slice am LM.length cm).ownBlock = some gi := fun h1 => absurd ((own_of HS1.out.s3 h1).inj (own_of HP1.out rfl)) (by decide)
       have hgpb : gi < B1.heap.size := by omega
       obtain ⟨q0, q1, q2, q3⟩ := blkS4 HF1.out
       obtain ⟨d0, d1, d2, d3⟩ := blkS4 HkB1.out
       have c0 := ocel (S := fun b => (Value.slice am LM.length cm).ownBlock = some b) d0 HkB1.out.lt nx
       have c1 := ocel (S := fun b => (Value.slice am LM.length cm).ownBlock = some b) d1 HkB1.out.lt nx
       have c2 := ocel (S := fun b => (Value.slice am LM.length cm).ownBlock = some b) d2 HkB1.out.lt nx
       have c3 := ocel (S := fun b => (Value.slice am LM.length cm).ownBlock = some b) d3 HkB1.out.lt nx
       have j0 := ocel (S := fun b => (Value.slice am LM.length cm).ownBlock = some b) i0' hgpb np2
       have j1 := ocel (S := fun b => (Value.slice am LM.length cm).ownBlock = some b) i1' hgpb np2
       have j2 := ocel (S := fun b => (Value.slice am LM.length cm).ownBlock = some b) i2' hgpb np2
       have j3 := ocel (S := fun b => (Value.slice am LM.length cm).ownBlock = some b) i3' hgpb np2
       have cg := ocel (S := fun b => (Value.slice am LM.length cm).ownBlock = some b) q3 HF1.out.lt ng
       clear d0 d1 d2 d3 q0 q1 q2 q3 nx np2 i0' i1' i2' i3'
       refine wp_region_lexC (by kernel_rfl) (by kernel_rfl) (fun x => Only (fun b => (Value.slice am LM.length cm).ownBlock = some b) B1 x) ((Only.refl _ _).drew) (fun lexNE => ?_)
       (repeat (first | (refine lex_r fun K hK => ?_; go_big_quiet_op; refine hK _ ?_; clear hK K) | (refine lex_k fun K hK => ?_; go_simp; refine hK _ ?_; clear hK K)))
       (refine lex_e fun K hK => ?_; go_big_op)
       refine hK _ _ (Cls.mk' (((Only.refl _ _).drew).alloc _)) ?_
       clear hK K
       have HO2 := Lib.hid (own_below HS1.out.s3 (Below.refl B1.heap.size B1).drew (Nat.le_refl _))
       refine lex_e fun K hK => ?_
       refine wp_append_any _ _ _ 29 (by rfl) (lo) 80 i0 (.agg #[.int .i64 0, .int .i64 0, .int .i64 0, .int .i64 0]) 4 32 Try.underlying29 hi hz0 hz1 hz2 rfl (by decide) _ _ _ (by rfl) (HO2.out.alloc _) _ _ 1 1 _ (by rfl) (reads_new _ _ 1 4 rfl) (by intro u hu; simp at hu; first | (subst hu; rfl) | (rcases hu with rfl | rfl <;> rfl) | (rcases hu with rfl | rfl | rfl <;> rfl) | (rcases hu with rfl | rfl | rfl | rfl <;> rfl)) (by unfold maxLen; omega) (by omega) (by (try simp) <;> (try omega)) ?_
       intro v8 w8 hown8 hgrow8 hblk8
       go_simp
       refine hK _ _ (Cls.mk' (Only.grown2 (((Only.refl (fun b => (Value.slice am LM.length cm).ownBlock = some b) B1).drew).alloc _) hgrow8 (fun g hg => .inl hg))) ?_
       clear hK K
       obtain ⟨A8, c8, rfl, _, _, _⟩ := own_form hown8
       have HS8 := Lib.hid ((HS1.out.drew.alloc _).pushM (x := (t0, t1, t2, t3)) hown8 hgrow8)
       have HF8 := Lib.hid (((HF1.out.drew).alloc _).grown hgrow8 (fun e => ng e.symm))
       have K8 := Lib.hid ((((Hch.out.bel HbB1.out).drew).alloc _).row (own_below HO2.out ((Below.refl _ _).alloc (Nat.le_refl _) _) (Nat.le_refl _)) (Nat.le_refl _) flS_mem hgrow8)
       clear hown8 hgrow8 hblk8
       (repeat (first | (refine lex_r fun K hK => ?_; go_big_quiet_op; refine hK _ ?_; clear hK K) | (refine lex_k fun K hK => ?_; go_simp; refine hK _ ?_; clear hK K)))
       have e1 := HF8.out.cell 3
       have f1 := HF8.out.frozen 3
       simp only [List.getElem?_toArray, List.getElem?_cons_zero, List.getElem?_cons_succ] at e1
       (refine lex_l fun K hK => ?_; go_big_op)
       (refine hK _ _ ?_; clear hK K)
       clear lexNE c0 c1 c2 c3 j0 j1 j2 j3 cg e1 f1 ng
       obtain ⟨wf, hwf⟩ : ∃ wf, wf = (w8.setCell ⟨gF, 3, none⟩ (.slice A8 (LM.length + 1) c8)) := ⟨_, rfl⟩
       have HFf := Lib.hid (show MB wf gF (.slice at0 s.2.2.length ct0) (.slice aa LA.length ca) (.slice A8 (LM.length + 1) c8) by rw [hwf]; exact HF8.out.set_ 3 _)
       have HSf := Lib.hid (show FlS wf lo (.slice at0 s.2.2.length ct0) (.slice aa LA.length ca) (.slice A8 (LM.length + 1) c8) s.2.2 LA (LM ++ [(t0, t1, t2, t3)]) by rw [hwf]; exact fl_other HS8.out HF8.out.of (by decide) _ _)
       have Kf := Lib.hid (show ChP lo flS (fun b => b = gF) wo wf by rw [hwf]; exact K8.out.setP (p := ⟨gF, 3, none⟩) rfl _)
       rw [← hwf]
       clear hwf
       go_wp2_with fail
       go_roundw
       case rel => exact ⟨kk + 1, _, by omega, by go_num, HFf.out, by rw [Hs.out, Hmx.out, ← List.append_assoc, ← HLM.out]; exact HSf.out, Kf.out⟩
       case measure => simp [intOf]; omega
      ·have hge : (n3 : Int) ≤ (kk : Int) := by omega
       have HMB := Lib.hid (show LM = f.2.2 ++ m.2.2.2.map (mmF s.1) by rw [HLM.out, List.take_of_length_le (by have := Hn.out; omega)])
       have HMz := Lib.hid (show LM.length = f.2.2.length + n3 by rw [HMB.out]; have := Hn.out; simp; omega)
       obtain ⟨q0, q1, q2, q3⟩ := blkS4 HFr.out
       obtain ⟨wc, hwc⟩ : ∃ wc, wc = wr := ⟨_, rfl⟩
       subst hwc
       clear HLM
       by_cases h1 : s.2.2.length ≤ 30
       ·have h1' : (s.2.2.length : Int) ≤ 30 := by omega
        by_cases h2 : LA.length ≤ 30
        ·have h2' : (LA.length : Int) ≤ 30 := by omega
         by_cases h3 : LM.length ≤ 2
         ·have h3' : (LM.length : Int) ≤ 2 := by omega
          have Hob := Lib.hid (show owB m f s.2.2 = true by unfold owB; exact decide_eq_true (by rw [Hn.out.2.1, Hn.out.2.2.2]; have := HLz.out; have := HMz.out; omega))
          have HSZ := Lib.hid (show FlSz (s.2.2, LA, LM) by rw [HLB.out, HMB.out]; exact owB_sz MO hsz Hob.out param s.1)
          go_wp2_with fail
          clear y0 y1 y2 y3 q0 q1 q2 q3 hge h1' h2' h3'
          go_loopw [25, 26, 27, 28, 29, 30, 31] (fun iv _ _ _ _ _ _ wr => ∃ (kk : Nat) (g : FlSt) (u0 u1 u3 : Value), kk ≤ n2 ∧ iv = .int .i64 kk ∧ Hid ((m.2.2.1.take kk).foldlM (fun (g : FlSt) (x : TInst) => addF d fu x.1.toNat (wdF param x.2.1) (x.2.2.map fun p => s.1.getD p.toNat 0) true g) (s.2.2, LA, LM) = some g) ∧ Hid (FlSz g) ∧ s.2.2.length ≤ g.1.length ∧ MB wr gF u0 u1 u3 ∧ FlS wr lo u0 u1 u3 g.1 g.2.1 g.2.2 ∧ ChP lo flS (fun b => b = gF) wo wr) (fun iv _ _ _ _ _ _ _ => n2 - (intOf iv).toNat)
          case atStart => exact ⟨0, (s.2.2, LA, LM), _, _, _, Nat.zero_le _, rfl, Lib.hid rfl, HSZ, Nat.le_refl _, HFr.out, HSr.out, Hch.out⟩
          case round =>
           clear HFr HSr Hch HPr HXr HBw hzr gx0 hlt
           obtain ⟨kk, g, u0, u1, u3, hkk, rfl, hfg, hgz, hgl, hfb, hfs, hch⟩ := hrel
           have Hch := Lib.hid hch
           have hzr := hch.size
           have HBw := Lib.hid (show Below lo w wr from (HBo.out.trans (hch.below (by omega) (fun b hb => by omega))))
           have HXr := Lib.hid (hch.blk HXo.out (by decide) hgm1)
           have HPr := Lib.hid (hch.own HPo.out (by decide) (fun g hg hc => by have := (HPo.out.lt g hg).1; omega))
           have gx0 : (0 : Int) ≤ (kk : Int) := by omega
           obtain ⟨y0, y1, y2, y3⟩ := blkS4 HXr.out
           clear hch
           obtain ⟨a0, q0, rfl, _, _, _⟩ := own_form hfs.s0
           obtain ⟨a3, q3, rfl, _, _, _⟩ := own_form hfs.s3
           obtain ⟨a1, q1, rfl⟩ : ∃ a1 q1, u1 = .slice a1 g.2.1.length q1 := by
            obtain ⟨R, xs, h1⟩ := hfs.s1
            have h2 := h1.own
            rw [List.length_map] at h2
            obtain ⟨a, c, h, _⟩ := own_form h2
            exact ⟨a, c, h⟩
           have HFr := Lib.hid hfb
           have HSr := Lib.hid hfs
           have Hfg := Lib.hid hfg.out
           have Hgz := Lib.hid hgz.out
           clear hfb hfs hfg hgz
           by_cases hlt : kk < n2
           ·obtain ⟨ad2, a, b, ps, A2, c2, rfl, hab2, hx, rps, hml, e0, e1, e2⟩ := ins_row (R2.out.under hS HBw.out) hlt
            obtain ⟨⟨qa0, qa1⟩, q4, q5⟩ := MO.ins _ (List.mem_of_getElem? hx)
            simp only at qa0 qa1 q4 q5
            obtain ⟨an, rfl⟩ := Int.eq_ofNat_of_zero_le qa0
            obtain ⟨no, hno⟩ : ∃ no, ps.length = no := ⟨_, rfl⟩
            rw [hno] at rps hml e2
            have hno2 : no ≤ 30 := by rw [← hno, q4]; exact portsL_len _
            have Hno := Lib.hid hno
            have Hq5 := Lib.hid q5
            have Hpl := Lib.hid q4
            have Hx := Lib.hid hx
            have Rps := Lib.hid rps
            have g4 : (kk : Int) < (n2 : Int) := by omega
            have hank : an < k := by omega
            obtain ⟨B1, hB1⟩ : ∃ B1, B1 = wr.alloc (.cells #[.int .i64 an, .int .i64 b, .slice A2 no c2] 82) := ⟨_, rfl⟩
            have HbB1 := Lib.hid (show Below wr.heap.size wr B1 by rw [hB1]; exact (Below.refl _ _).alloc (Nat.le_refl _) _)
            have HkB1 := Lib.hid (show Blk B1 wr.heap.size 82 #[.int .i64 an, .int .i64 b, .slice A2 no c2] by rw [hB1]; exact Blk.new _ _ _)
            have zB1 : wr.heap.size < B1.heap.size := HkB1.out.lt
            have HB1s := Lib.hid (show wr.heap.size + 1 = B1.heap.size by rw [hB1]; simp)
            obtain ⟨B2, hB2⟩ : ∃ B2, B2 = B1.alloc (.cells #[] 3) := ⟨_, rfl⟩
            have HbB2 := Lib.hid (show Below B1.heap.size B1 B2 by rw [hB2]; exact (Below.refl _ _).alloc (Nat.le_refl _) _)
            have HE1 := Lib.hid (show B2.ownsRow B1.heap.size 3 1 (.slice (some ⟨B1.heap.size, 0, none⟩) 0 0) 0 (ints []) by rw [hB2]; exact World.ownsRow_made (base := B1.heap.size) (size := 1) (e := 3) B1 #[] 0 (Nat.le_refl _) (by unfold maxLen; omega) rfl)
            have HB2e := Lib.hid hB2
            clear hx q4 q5 hno rps qa0 qa1 hB2
            by_cases hb : b = 0
            ·subst hb
             have Hwd := Lib.hid (show wdF param 0 = param from rfl)
             go_wp2_with fail
             rw [← hB1, ← HB2e.out]
             clear hB1 e0 e1 e2 y0 y1 y2 y3
             go_loopw [27, 28] (fun ov jv wq => ∃ (j : Nat) (L : List Int), j ≤ no ∧ jv = .int .i64 j ∧ wq.ownsRow B1.heap.size 3 1 ov j (ints L) ∧ Hid (L = (ps.take j).map fun p => s.1.getD p.toNat 0) ∧ Below B1.heap.size B1 wq) (fun _ jv _ => no - (intOf jv).toNat)
             case atStart => exact ⟨0, [], Nat.zero_le _, rfl, by rw [HB1s.out]; exact HE1.out, Lib.hid (by simp), HbB2.out⟩
             case round =>
              obtain ⟨j, L, hj, rfl, hro, hL, hbq⟩ := hrel
              obtain ⟨wq, hwq⟩ : ∃ x, x = wr := ⟨_, rfl⟩
              subst hwq
              have zq := hbq.size
              obtain ⟨Aq, cq, rfl, _, _, _⟩ := own_form hro
              have HRq := Lib.hid hro
              have Hbq := Lib.hid hbq
              have gy : (0 : Int) ≤ (j : Int) := by omega
              have HBq := Lib.hid (show Below wr.heap.size wr wq from HbB1.out.trans (hbq.mono (by omega)))
              obtain ⟨b0, b1, b2⟩ := blkS3 (HkB1.out.below hbq HkB1.out.lt)
              clear hro hbq
              by_cases hlj : j < no
              ·obtain ⟨ad3, p0, rfl, hab3, hx, e0⟩ := fIntS_row (Rps.out.under (B := wr.heap.size) (fun b hb => by have := hS b hb; omega) HBq.out) hlj
               have hp := Hq5.out _ (List.mem_of_getElem? hx)
               obtain ⟨pn, pv, rfl, hpn, hpv, hpd⟩ := ids_at hsl0 hp.1 (by have := Hn.out; omega)
               obtain ⟨gi, hgi⟩ : ∃ gi, Ao = some ⟨gi, 0, none⟩ := by
                obtain ⟨_, _, hv, _, _, h2⟩ := own_form HPo.out
                injection hv with hA
                obtain ⟨g, h3, _⟩ := h2 (by omega)
                exact ⟨g, hA.trans h3⟩
               subst hgi
               have Hs6 := Lib.hid (map_snocF (g := fun p : Int => s.1.getD p.toNat 0) hx)
               have Hpd := Lib.hid hpd
               have g7 : (j : Int) < (no : Int) := by omega
               have g8 : (0 : Int) ≤ (pn : Int) := by omega
               have g9 : (pn : Int) < (n0 : Int) := by omega
               have hpq := own_at (own_below HPr.out HBq.out (Nat.le_refl _)) hpv
               obtain ⟨i0, hi, hz0, hz1, hz2⟩ := info_parts Try.infoIntC
               clear hx hp hpv hpd
               go_wp2_with (at_builtin; refine wpList_append_any _ rfl _ _ 47 rfl (B1.heap.size) 3 i0 (.int .i64 0) 1 8 Try.underlying47 hi hz0 hz1 hz2 rfl (by decide) _ _ _ rfl (HRq.out.alloc _) _ _ 1 1 _ rfl (reads_new _ _ 1 1 rfl) (by intro u hu; simp at hu; first | (subst hu; rfl) | (rcases hu with rfl | rfl <;> rfl) | (rcases hu with rfl | rfl | rfl <;> rfl)) (by unfold maxLen; omega) (by omega) (by (try simp) <;> (try omega)) ?_; intro v8 w8 hown8 hgrow8 hblk8)
               have hb8 := below_push Hbq.out HRq.out (Nat.le_refl _) (by omega) hgrow8
               have Hown8 := Lib.hid (show w8.ownsRow B1.heap.size 3 1 v8 (j + 1) (ints (L ++ [pv])) by rw [ints_app]; exact hown8)
               clear hown8 hgrow8 hblk8 hpq e0 b0 b1 b2
               go_wp2_with fail
               go_roundw
               case rel => exact ⟨j + 1, L ++ [pv], by omega, by go_num, Hown8.out, Lib.hid (by rw [hL.out, Hs6.out, Hpd.out]), hb8⟩
               case measure => simp [intOf]; omega
              ·have hge : (no : Int) ≤ (j : Int) := by omega
               have HL := Lib.hid (show L = ps.map fun p => s.1.getD p.toNat 0 by rw [hL.out, List.take_of_length_le (by rw [Hno.out]; omega)])
               have HFx := Lib.hid (show m.2.2.1.foldlM (fun (g : FlSt) (x : TInst) => addF d fu x.1.toNat (wdF param x.2.1) (x.2.2.map fun p => s.1.getD p.toNat 0) true g) (s.2.2, LA, LM) = addF d (fu + 1) k param ports cpd f by
                rw [addF_some Hmd.out HST.out Hob.out, ← HLB.out, ← HMB.out])
               have HFy := Lib.hid (show (m.2.2.1.take (kk + 1)).foldlM (fun (g : FlSt) (x : TInst) => addF d fu x.1.toNat (wdF param x.2.1) (x.2.2.map fun p => s.1.getD p.toNat 0) true g) (s.2.2, LA, LM) = addF d fu an param L true g by
                rw [foldlM_take Hx.out, Hfg.out]
                show addF d fu (an : Int).toNat (wdF param 0) _ true g = _
                rw [Int.toNat_natCast, Hwd.out, ← HL.out])
               have HFq := Lib.hid (HFr.out.below HBq.out HFr.out.lt)
               have HSq := Lib.hid (HSr.out.below HBq.out)
               obtain ⟨q0, q1, q2, q3⟩ := blkS4 HFq.out
               have yd := blkS1 ((Hch.out.blk HDo.out (by decide) hgd1).below HBq.out (by omega))
               clear hL
               go_wp2_with fail
               refine (IH.out an (by omega) (by omega) (param) L Aq j cq true wq S (some ad) c lo _ _ _ g (Hrd.out.under hS (HBw.out.trans (HBq.out.mono (by omega)))) hnm hS (by omega) HSq.out Hgz.out (own_mono HRq.out (Nat.zero_le _)) (fun i hi => ?_) (fun _ => ?_)).mono ?_
               ·rw [HL.out] at hi
                obtain ⟨p, hp, rfl⟩ := List.mem_map.1 hi
                have h1 := Hq5.out p hp
                obtain ⟨pn, pv, rfl, hpn, hpv, hpd⟩ := ids_at hsl0 h1.1 (by have := Hn.out; omega)
                have h2 := HSO.out.ids pv (List.mem_of_getElem? hpv)
                show 0 ≤ s.1.getD _ 0 ∧ s.1.getD _ 0 < _
                rw [hpd]
                omega
               ·rw [HL.out, List.length_map]
                exact Hpl.out
               rintro e w5 ⟨hch5, hm5⟩
               have zz5 := hch5.size
               have HF5 := Lib.hid (hch5.blk HFq.out (by decide) (fun h => h))
               have HR5 := Lib.hid (hch5.blk ((Hch.out.blk HRo.out (by decide) hgr1).below HBq.out (by omega)) (by decide) (fun h => h))
               have Hch5 := Lib.hid (Hch.out.trans ((ChP.of_below lo flS (fun b => b = gF) HBq.out).trans (hch5.mono (fun _ h => h.elim))))
               clear hch5 b0 b1 b2 hge q0 q1 q2 q3 yd
               cases hA : addF d fu an (param) L true g with
               | none =>
                rw [hA] at hm5
                obtain ⟨A0, m0, c0, A1, m1, c1, A3, m3, c3, rfl⟩ := hm5
                have HN := Lib.hid (show addF d (fu + 1) k param ports cpd f = none by rw [← HFx.out]; exact foldlM_none (HFy.out.trans hA))
                clear hA
                go_upto_region 54 with fail
                obtain ⟨w6, hw6⟩ : ∃ w6, w6 = w5.alloc (.cells #[.slice A0 m0 c0, .slice A1 m1 c1, .slice none 0 0, .slice A3 m3 c3] 31) := ⟨_, rfl⟩
                rw [← hw6]
                have HF6 := Lib.hid (show MB w6 gF _ _ _ by rw [hw6]; exact HF5.out.alloc _)
                have HR6 := Lib.hid (show Blk w6 gr 31 #[.slice none 0 0, .slice none 0 0, .slice none 0 0, .slice none 0 0] by rw [hw6]; exact HR5.out.alloc _)
                have Hch6 := Lib.hid (show ChP lo flS (fun b => b = gF) wo w6 by rw [hw6]; exact Hch5.out.alloc _)
                clear hw6
                obtain ⟨z0, z1, z2, z3⟩ := blkS4 HF6.out
                obtain ⟨r0, r1, r2, r3⟩ := blkS4 HR6.out
                have f0 := HR6.out.frozen 0
                have f1 := HR6.out.frozen 1
                have f2 := HR6.out.frozen 2
                have f3 := HR6.out.frozen 3
                go_wp2_with fail
                obtain ⟨wf, hwf⟩ : ∃ wf, wf = ((((w6.setCell ⟨gr, 0, none⟩ (.slice a0 g.1.length q0)).setCell ⟨gr, 1, none⟩ (.slice a1 g.2.1.length q1)).setCell ⟨gr, 2, none⟩ (.slice none 0 0)).setCell ⟨gr, 3, none⟩ (.slice a3 g.2.2.length q3)) := ⟨_, rfl⟩
                have hRf : Blk wf gr 31 #[(.slice a0 g.1.length q0), (.slice a1 g.2.1.length q1), .slice none 0 0, (.slice a3 g.2.2.length q3)] := by rw [hwf]; exact blk_four HR6.out
                have Kf := Lib.hid (show ChP lo flS noP w wf by rw [hwf]; exact ((((HCo.out.trans' Hch6.out (fun b hb hl => by omega)).setN (p := ⟨gr, 0, none⟩) (show w.heap.size ≤ gr by omega) _).setN (p := ⟨gr, 1, none⟩) (show w.heap.size ≤ gr by omega) _).setN (p := ⟨gr, 2, none⟩) (show w.heap.size ≤ gr by omega) _).setN (p := ⟨gr, 3, none⟩) (show w.heap.size ≤ gr by omega) _)
                have Sf := fun (sg : List TSignal) (ag : List TAssign) (mm : List TMem) (h : FlS w6 lo (.slice a0 g.1.length q0) (.slice a1 g.2.1.length q1) (.slice a3 g.2.2.length q3) sg ag mm) => (show FlS wf lo (.slice a0 g.1.length q0) (.slice a1 g.2.1.length q1) (.slice a3 g.2.2.length q3) sg ag mm by
                 rw [hwf]
                 exact fl_other (fl_other (fl_other (fl_other h HR6.out.of (by decide) _ _) ((HR6.out.set_ 0 _).of) (by decide) _ _) (((HR6.out.set_ 0 _).set_ 1 _).of) (by decide) _ _) ((((HR6.out.set_ 0 _).set_ 1 _).set_ 2 _).of) (by decide) _ _)
                obtain ⟨s0, s1, s2, s3⟩ := blkS4 hRf
                rw [← hwf]
                clear hwf
                refine bodyPost_ret (v := .tuple #[FV (.slice a0 g.1.length q0) (.slice a1 g.2.1.length q1) (.slice a3 g.2.2.length q3), .bool false]) (by simp [results, Try.results16, go_sem, s0, s1, s2, s3]) rfl ?_
                unfold SAddQ
                rw [HN.out]
                exact ⟨Kf.out, _, _, _, _, _, _, _, _, _, rfl⟩
               | some g' =>
                rw [hA] at hm5
                obtain ⟨v0', v1', v3', rfl, hsz5, hfs5⟩ := hm5
                have hlen := addF_len _ _ _ _ _ _ _ hA
                obtain ⟨p0, t0, rfl, _, _, _⟩ := own_form hfs5.s0
                obtain ⟨p3, t3, rfl, _, _, _⟩ := own_form hfs5.s3
                obtain ⟨p1, t1, rfl⟩ : ∃ p1 t1, v1' = .slice p1 g'.2.1.length t1 := by
                 obtain ⟨R, xs, h1⟩ := hfs5.s1
                 have h2 := h1.own
                 rw [List.length_map] at h2
                 obtain ⟨a, c, h, _⟩ := own_form h2
                 exact ⟨a, c, h⟩
                have HA := Lib.hid hA
                have HZ5 := Lib.hid hsz5
                obtain ⟨w6, hw6⟩ : ∃ w6, w6 = w5.alloc (.cells #[.slice p0 g'.1.length t0, .slice p1 g'.2.1.length t1, .slice none 0 0, .slice p3 g'.2.2.length t3] 31) := ⟨_, rfl⟩
                have HF6 := Lib.hid (show MB w6 gF _ _ _ by rw [hw6]; exact HF5.out.alloc _)
                have HN6 := Lib.hid (show MB w6 w5.heap.size (.slice p0 g'.1.length t0) (.slice p1 g'.2.1.length t1) (.slice p3 g'.2.2.length t3) by rw [hw6]; exact Blk.new _ _ _)
                have HS6 := Lib.hid (show FlS w6 lo (.slice p0 g'.1.length t0) (.slice p1 g'.2.1.length t1) (.slice p3 g'.2.2.length t3) g'.1 g'.2.1 g'.2.2 by rw [hw6]; exact hfs5.alloc _)
                have Hch6 := Lib.hid (show ChP lo flS (fun b => b = gF) wo w6 by rw [hw6]; exact Hch5.out.alloc _)
                clear hA hfs5 hsz5
                go_upto_region 53 with fail
                rw [← hw6]
                clear hw6
                obtain ⟨x0, x1, x2, x3⟩ := blkS4 HN6.out
                obtain ⟨z0, z1, z2, z3⟩ := blkS4 HF6.out
                have f0 := HF6.out.frozen 0
                have f1 := HF6.out.frozen 1
                have f2 := HF6.out.frozen 2
                have f3 := HF6.out.frozen 3
                go_wp2_with fail
                clear x0 x1 x2 x3 z0 z1 z2 z3 f0 f1 f2 f3
                obtain ⟨wf, hwf⟩ : ∃ wf, wf = ((((w6.setCell ⟨gF, 0, none⟩ (.slice p0 g'.1.length t0)).setCell ⟨gF, 1, none⟩ (.slice p1 g'.2.1.length t1)).setCell ⟨gF, 2, none⟩ (.slice none 0 0)).setCell ⟨gF, 3, none⟩ (.slice p3 g'.2.2.length t3)) := ⟨_, rfl⟩
                have HFf := Lib.hid (show MB wf gF (.slice p0 g'.1.length t0) (.slice p1 g'.2.1.length t1) (.slice p3 g'.2.2.length t3) by rw [hwf]; exact blk_four HF6.out)
                have HSf := Lib.hid (show FlS wf lo (.slice p0 g'.1.length t0) (.slice p1 g'.2.1.length t1) (.slice p3 g'.2.2.length t3) g'.1 g'.2.1 g'.2.2 by
                 rw [hwf]
                 exact fl_other (fl_other (fl_other (fl_other HS6.out HF6.out.of (by decide) _ _) ((HF6.out.set_ 0 _).of) (by decide) _ _) (((HF6.out.set_ 0 _).set_ 1 _).of) (by decide) _ _) ((((HF6.out.set_ 0 _).set_ 1 _).set_ 2 _).of) (by decide) _ _)
                have Hchf := Lib.hid (show ChP lo flS (fun b => b = gF) wo wf by rw [hwf]; exact (((Hch6.out.setP (p := ⟨gF, 0, none⟩) rfl _).setP (p := ⟨gF, 1, none⟩) rfl _).setP (p := ⟨gF, 2, none⟩) rfl _).setP (p := ⟨gF, 3, none⟩) rfl _)
                rw [← hwf]
                clear hwf
                go_roundw
                case rel => exact ⟨kk + 1, g', _, _, _, by omega, by go_num, Lib.hid (HFy.out.trans HA.out), HZ5, by omega, HFf.out, HSf.out, Hchf.out⟩
                case measure => simp [intOf]; omega
            ·have hb' : (b == 0) = false := by simpa using hb
             have Hwd := Lib.hid (show wdF param b = b from (if_neg hb))
             go_wp2_with fail
             rw [← hB1, ← HB2e.out]
             clear hB1 e0 e1 e2 y0 y1 y2 y3
             go_loopw [27, 28] (fun ov jv wq => ∃ (j : Nat) (L : List Int), j ≤ no ∧ jv = .int .i64 j ∧ wq.ownsRow B1.heap.size 3 1 ov j (ints L) ∧ Hid (L = (ps.take j).map fun p => s.1.getD p.toNat 0) ∧ Below B1.heap.size B1 wq) (fun _ jv _ => no - (intOf jv).toNat)
             case atStart => exact ⟨0, [], Nat.zero_le _, rfl, by rw [HB1s.out]; exact HE1.out, Lib.hid (by simp), HbB2.out⟩
             case round =>
              obtain ⟨j, L, hj, rfl, hro, hL, hbq⟩ := hrel
              obtain ⟨wq, hwq⟩ : ∃ x, x = wr := ⟨_, rfl⟩
              subst hwq
              have zq := hbq.size
              obtain ⟨Aq, cq, rfl, _, _, _⟩ := own_form hro
              have HRq := Lib.hid hro
              have Hbq := Lib.hid hbq
              have gy : (0 : Int) ≤ (j : Int) := by omega
              have HBq := Lib.hid (show Below wr.heap.size wr wq from HbB1.out.trans (hbq.mono (by omega)))
              obtain ⟨b0, b1, b2⟩ := blkS3 (HkB1.out.below hbq HkB1.out.lt)
              clear hro hbq
              by_cases hlj : j < no
              ·obtain ⟨ad3, p0, rfl, hab3, hx, e0⟩ := fIntS_row (Rps.out.under (B := wr.heap.size) (fun b hb => by have := hS b hb; omega) HBq.out) hlj
               have hp := Hq5.out _ (List.mem_of_getElem? hx)
               obtain ⟨pn, pv, rfl, hpn, hpv, hpd⟩ := ids_at hsl0 hp.1 (by have := Hn.out; omega)
               obtain ⟨gi, hgi⟩ : ∃ gi, Ao = some ⟨gi, 0, none⟩ := by
                obtain ⟨_, _, hv, _, _, h2⟩ := own_form HPo.out
                injection hv with hA
                obtain ⟨g, h3, _⟩ := h2 (by omega)
                exact ⟨g, hA.trans h3⟩
               subst hgi
               have Hs6 := Lib.hid (map_snocF (g := fun p : Int => s.1.getD p.toNat 0) hx)
               have Hpd := Lib.hid hpd
               have g7 : (j : Int) < (no : Int) := by omega
               have g8 : (0 : Int) ≤ (pn : Int) := by omega
               have g9 : (pn : Int) < (n0 : Int) := by omega
               have hpq := own_at (own_below HPr.out HBq.out (Nat.le_refl _)) hpv
               obtain ⟨i0, hi, hz0, hz1, hz2⟩ := info_parts Try.infoIntC
               clear hx hp hpv hpd
               go_wp2_with (at_builtin; refine wpList_append_any _ rfl _ _ 47 rfl (B1.heap.size) 3 i0 (.int .i64 0) 1 8 Try.underlying47 hi hz0 hz1 hz2 rfl (by decide) _ _ _ rfl (HRq.out.alloc _) _ _ 1 1 _ rfl (reads_new _ _ 1 1 rfl) (by intro u hu; simp at hu; first | (subst hu; rfl) | (rcases hu with rfl | rfl <;> rfl) | (rcases hu with rfl | rfl | rfl <;> rfl)) (by unfold maxLen; omega) (by omega) (by (try simp) <;> (try omega)) ?_; intro v8 w8 hown8 hgrow8 hblk8)
               have hb8 := below_push Hbq.out HRq.out (Nat.le_refl _) (by omega) hgrow8
               have Hown8 := Lib.hid (show w8.ownsRow B1.heap.size 3 1 v8 (j + 1) (ints (L ++ [pv])) by rw [ints_app]; exact hown8)
               clear hown8 hgrow8 hblk8 hpq e0 b0 b1 b2
               go_wp2_with fail
               go_roundw
               case rel => exact ⟨j + 1, L ++ [pv], by omega, by go_num, Hown8.out, Lib.hid (by rw [hL.out, Hs6.out, Hpd.out]), hb8⟩
               case measure => simp [intOf]; omega
              ·have hge : (no : Int) ≤ (j : Int) := by omega
               have HL := Lib.hid (show L = ps.map fun p => s.1.getD p.toNat 0 by rw [hL.out, List.take_of_length_le (by rw [Hno.out]; omega)])
               have HFx := Lib.hid (show m.2.2.1.foldlM (fun (g : FlSt) (x : TInst) => addF d fu x.1.toNat (wdF param x.2.1) (x.2.2.map fun p => s.1.getD p.toNat 0) true g) (s.2.2, LA, LM) = addF d (fu + 1) k param ports cpd f by
                rw [addF_some Hmd.out HST.out Hob.out, ← HLB.out, ← HMB.out])
               have HFy := Lib.hid (show (m.2.2.1.take (kk + 1)).foldlM (fun (g : FlSt) (x : TInst) => addF d fu x.1.toNat (wdF param x.2.1) (x.2.2.map fun p => s.1.getD p.toNat 0) true g) (s.2.2, LA, LM) = addF d fu an b L true g by
                rw [foldlM_take Hx.out, Hfg.out]
                show addF d fu (an : Int).toNat (wdF param b) _ true g = _
                rw [Int.toNat_natCast, Hwd.out, ← HL.out])
               have HFq := Lib.hid (HFr.out.below HBq.out HFr.out.lt)
               have HSq := Lib.hid (HSr.out.below HBq.out)
               obtain ⟨q0, q1, q2, q3⟩ := blkS4 HFq.out
               have yd := blkS1 ((Hch.out.blk HDo.out (by decide) hgd1).below HBq.out (by omega))
               clear hL
               go_wp2_with fail
               refine (IH.out an (by omega) (by omega) (b) L Aq j cq true wq S (some ad) c lo _ _ _ g (Hrd.out.under hS (HBw.out.trans (HBq.out.mono (by omega)))) hnm hS (by omega) HSq.out Hgz.out (own_mono HRq.out (Nat.zero_le _)) (fun i hi => ?_) (fun _ => ?_)).mono ?_
               ·rw [HL.out] at hi
                obtain ⟨p, hp, rfl⟩ := List.mem_map.1 hi
                have h1 := Hq5.out p hp
                obtain ⟨pn, pv, rfl, hpn, hpv, hpd⟩ := ids_at hsl0 h1.1 (by have := Hn.out; omega)
                have h2 := HSO.out.ids pv (List.mem_of_getElem? hpv)
                show 0 ≤ s.1.getD _ 0 ∧ s.1.getD _ 0 < _
                rw [hpd]
                omega
               ·rw [HL.out, List.length_map]
                exact Hpl.out
               rintro e w5 ⟨hch5, hm5⟩
               have zz5 := hch5.size
               have HF5 := Lib.hid (hch5.blk HFq.out (by decide) (fun h => h))
               have HR5 := Lib.hid (hch5.blk ((Hch.out.blk HRo.out (by decide) hgr1).below HBq.out (by omega)) (by decide) (fun h => h))
               have Hch5 := Lib.hid (Hch.out.trans ((ChP.of_below lo flS (fun b => b = gF) HBq.out).trans (hch5.mono (fun _ h => h.elim))))
               clear hch5 b0 b1 b2 hge q0 q1 q2 q3 yd
               cases hA : addF d fu an (b) L true g with
               | none =>
                rw [hA] at hm5
                obtain ⟨A0, m0, c0, A1, m1, c1, A3, m3, c3, rfl⟩ := hm5
                have HN := Lib.hid (show addF d (fu + 1) k param ports cpd f = none by rw [← HFx.out]; exact foldlM_none (HFy.out.trans hA))
                clear hA
                go_upto_region 54 with fail
                obtain ⟨w6, hw6⟩ : ∃ w6, w6 = w5.alloc (.cells #[.slice A0 m0 c0, .slice A1 m1 c1, .slice none 0 0, .slice A3 m3 c3] 31) := ⟨_, rfl⟩
                rw [← hw6]
                have HF6 := Lib.hid (show MB w6 gF _ _ _ by rw [hw6]; exact HF5.out.alloc _)
                have HR6 := Lib.hid (show Blk w6 gr 31 #[.slice none 0 0, .slice none 0 0, .slice none 0 0, .slice none 0 0] by rw [hw6]; exact HR5.out.alloc _)
                have Hch6 := Lib.hid (show ChP lo flS (fun b => b = gF) wo w6 by rw [hw6]; exact Hch5.out.alloc _)
                clear hw6
                obtain ⟨z0, z1, z2, z3⟩ := blkS4 HF6.out
                obtain ⟨r0, r1, r2, r3⟩ := blkS4 HR6.out
                have f0 := HR6.out.frozen 0
                have f1 := HR6.out.frozen 1
                have f2 := HR6.out.frozen 2
                have f3 := HR6.out.frozen 3
                go_wp2_with fail
                obtain ⟨wf, hwf⟩ : ∃ wf, wf = ((((w6.setCell ⟨gr, 0, none⟩ (.slice a0 g.1.length q0)).setCell ⟨gr, 1, none⟩ (.slice a1 g.2.1.length q1)).setCell ⟨gr, 2, none⟩ (.slice none 0 0)).setCell ⟨gr, 3, none⟩ (.slice a3 g.2.2.length q3)) := ⟨_, rfl⟩
                have hRf : Blk wf gr 31 #[(.slice a0 g.1.length q0), (.slice a1 g.2.1.length q1), .slice none 0 0, (.slice a3 g.2.2.length q3)] := by rw [hwf]; exact blk_four HR6.out
                have Kf := Lib.hid (show ChP lo flS noP w wf by rw [hwf]; exact ((((HCo.out.trans' Hch6.out (fun b hb hl => by omega)).setN (p := ⟨gr, 0, none⟩) (show w.heap.size ≤ gr by omega) _).setN (p := ⟨gr, 1, none⟩) (show w.heap.size ≤ gr by omega) _).setN (p := ⟨gr, 2, none⟩) (show w.heap.size ≤ gr by omega) _).setN (p := ⟨gr, 3, none⟩) (show w.heap.size ≤ gr by omega) _)
                have Sf := fun (sg : List TSignal) (ag : List TAssign) (mm : List TMem) (h : FlS w6 lo (.slice a0 g.1.length q0) (.slice a1 g.2.1.length q1) (.slice a3 g.2.2.length q3) sg ag mm) => (show FlS wf lo (.slice a0 g.1.length q0) (.slice a1 g.2.1.length q1) (.slice a3 g.2.2.length q3) sg ag mm by
                 rw [hwf]
                 exact fl_other (fl_other (fl_other (fl_other h HR6.out.of (by decide) _ _) ((HR6.out.set_ 0 _).of) (by decide) _ _) (((HR6.out.set_ 0 _).set_ 1 _).of) (by decide) _ _) ((((HR6.out.set_ 0 _).set_ 1 _).set_ 2 _).of) (by decide) _ _)
                obtain ⟨s0, s1, s2, s3⟩ := blkS4 hRf
                rw [← hwf]
                clear hwf
                refine bodyPost_ret (v := .tuple #[FV (.slice a0 g.1.length q0) (.slice a1 g.2.1.length q1) (.slice a3 g.2.2.length q3), .bool false]) (by simp [results, Try.results16, go_sem, s0, s1, s2, s3]) rfl ?_
                unfold SAddQ
                rw [HN.out]
                exact ⟨Kf.out, _, _, _, _, _, _, _, _, _, rfl⟩
               | some g' =>
                rw [hA] at hm5
                obtain ⟨v0', v1', v3', rfl, hsz5, hfs5⟩ := hm5
                have hlen := addF_len _ _ _ _ _ _ _ hA
                obtain ⟨p0, t0, rfl, _, _, _⟩ := own_form hfs5.s0
                obtain ⟨p3, t3, rfl, _, _, _⟩ := own_form hfs5.s3
                obtain ⟨p1, t1, rfl⟩ : ∃ p1 t1, v1' = .slice p1 g'.2.1.length t1 := by
                 obtain ⟨R, xs, h1⟩ := hfs5.s1
                 have h2 := h1.own
                 rw [List.length_map] at h2
                 obtain ⟨a, c, h, _⟩ := own_form h2
                 exact ⟨a, c, h⟩
                have HA := Lib.hid hA
                have HZ5 := Lib.hid hsz5
                obtain ⟨w6, hw6⟩ : ∃ w6, w6 = w5.alloc (.cells #[.slice p0 g'.1.length t0, .slice p1 g'.2.1.length t1, .slice none 0 0, .slice p3 g'.2.2.length t3] 31) := ⟨_, rfl⟩
                have HF6 := Lib.hid (show MB w6 gF _ _ _ by rw [hw6]; exact HF5.out.alloc _)
                have HN6 := Lib.hid (show MB w6 w5.heap.size (.slice p0 g'.1.length t0) (.slice p1 g'.2.1.length t1) (.slice p3 g'.2.2.length t3) by rw [hw6]; exact Blk.new _ _ _)
                have HS6 := Lib.hid (show FlS w6 lo (.slice p0 g'.1.length t0) (.slice p1 g'.2.1.length t1) (.slice p3 g'.2.2.length t3) g'.1 g'.2.1 g'.2.2 by rw [hw6]; exact hfs5.alloc _)
                have Hch6 := Lib.hid (show ChP lo flS (fun b => b = gF) wo w6 by rw [hw6]; exact Hch5.out.alloc _)
                clear hA hfs5 hsz5
                go_upto_region 53 with fail
                rw [← hw6]
                clear hw6
                obtain ⟨x0, x1, x2, x3⟩ := blkS4 HN6.out
                obtain ⟨z0, z1, z2, z3⟩ := blkS4 HF6.out
                have f0 := HF6.out.frozen 0
                have f1 := HF6.out.frozen 1
                have f2 := HF6.out.frozen 2
                have f3 := HF6.out.frozen 3
                go_wp2_with fail
                clear x0 x1 x2 x3 z0 z1 z2 z3 f0 f1 f2 f3
                obtain ⟨wf, hwf⟩ : ∃ wf, wf = ((((w6.setCell ⟨gF, 0, none⟩ (.slice p0 g'.1.length t0)).setCell ⟨gF, 1, none⟩ (.slice p1 g'.2.1.length t1)).setCell ⟨gF, 2, none⟩ (.slice none 0 0)).setCell ⟨gF, 3, none⟩ (.slice p3 g'.2.2.length t3)) := ⟨_, rfl⟩
                have HFf := Lib.hid (show MB wf gF (.slice p0 g'.1.length t0) (.slice p1 g'.2.1.length t1) (.slice p3 g'.2.2.length t3) by rw [hwf]; exact blk_four HF6.out)
                have HSf := Lib.hid (show FlS wf lo (.slice p0 g'.1.length t0) (.slice p1 g'.2.1.length t1) (.slice p3 g'.2.2.length t3) g'.1 g'.2.1 g'.2.2 by
                 rw [hwf]
                 exact fl_other (fl_other (fl_other (fl_other HS6.out HF6.out.of (by decide) _ _) ((HF6.out.set_ 0 _).of) (by decide) _ _) (((HF6.out.set_ 0 _).set_ 1 _).of) (by decide) _ _) ((((HF6.out.set_ 0 _).set_ 1 _).set_ 2 _).of) (by decide) _ _)
                have Hchf := Lib.hid (show ChP lo flS (fun b => b = gF) wo wf by rw [hwf]; exact (((Hch6.out.setP (p := ⟨gF, 0, none⟩) rfl _).setP (p := ⟨gF, 1, none⟩) rfl _).setP (p := ⟨gF, 2, none⟩) rfl _).setP (p := ⟨gF, 3, none⟩) rfl _)
                rw [← hwf]
                clear hwf
                go_roundw
                case rel => exact ⟨kk + 1, g', _, _, _, by omega, by go_num, Lib.hid (HFy.out.trans HA.out), HZ5, by omega, HFf.out, HSf.out, Hchf.out⟩
                case measure => simp [intOf]; omega
           ·have hge : (n2 : Int) ≤ (kk : Int) := by omega
            have HN := Lib.hid (show addF d (fu + 1) k param ports cpd f = some g by
             have h1 := Hfg.out
             rw [List.take_of_length_le (by have := Hn.out; omega)] at h1
             rw [addF_some Hmd.out HST.out Hob.out, ← HLB.out, ← HMB.out]
             exact h1)
            have HRr := Lib.hid (Hch.out.blk HRo.out (by decide) hgr1)
            go_upto_region 56 with fail
            clear y0 y1 y2 y3
            obtain ⟨z0, z1, z2, z3⟩ := blkS4 HFr.out
            obtain ⟨r0, r1, r2, r3⟩ := blkS4 HRr.out
            have f0 := HRr.out.frozen 0
            have f1 := HRr.out.frozen 1
            have f2 := HRr.out.frozen 2
            have f3 := HRr.out.frozen 3
            go_wp2_with fail
            obtain ⟨wf, hwf⟩ : ∃ wf, wf = ((((wr.setCell ⟨gr, 0, none⟩ (.slice a0 g.1.length q0)).setCell ⟨gr, 1, none⟩ (.slice a1 g.2.1.length q1)).setCell ⟨gr, 2, none⟩ (.slice none 0 0)).setCell ⟨gr, 3, none⟩ (.slice a3 g.2.2.length q3)) := ⟨_, rfl⟩
            have hRf : Blk wf gr 31 #[(.slice a0 g.1.length q0), (.slice a1 g.2.1.length q1), .slice none 0 0, (.slice a3 g.2.2.length q3)] := by rw [hwf]; exact blk_four HRr.out
            have Kf := Lib.hid (show ChP lo flS noP w wf by rw [hwf]; exact ((((HCo.out.trans' Hch.out (fun b hb hl => by omega)).setN (p := ⟨gr, 0, none⟩) (show w.heap.size ≤ gr by omega) _).setN (p := ⟨gr, 1, none⟩) (show w.heap.size ≤ gr by omega) _).setN (p := ⟨gr, 2, none⟩) (show w.heap.size ≤ gr by omega) _).setN (p := ⟨gr, 3, none⟩) (show w.heap.size ≤ gr by omega) _)
            have Sf := fun (sg : List TSignal) (ag : List TAssign) (mm : List TMem) (h : FlS wr lo (.slice a0 g.1.length q0) (.slice a1 g.2.1.length q1) (.slice a3 g.2.2.length q3) sg ag mm) => (show FlS wf lo (.slice a0 g.1.length q0) (.slice a1 g.2.1.length q1) (.slice a3 g.2.2.length q3) sg ag mm by
             rw [hwf]
             exact fl_other (fl_other (fl_other (fl_other h HRr.out.of (by decide) _ _) ((HRr.out.set_ 0 _).of) (by decide) _ _) (((HRr.out.set_ 0 _).set_ 1 _).of) (by decide) _ _) ((((HRr.out.set_ 0 _).set_ 1 _).set_ 2 _).of) (by decide) _ _)
            obtain ⟨s0, s1, s2, s3⟩ := blkS4 hRf
            rw [← hwf]
            clear hwf
            refine bodyPost_ret (v := .tuple #[FV (.slice a0 g.1.length q0) (.slice a1 g.2.1.length q1) (.slice a3 g.2.2.length q3), .bool true]) (by simp [results, Try.results16, go_sem, s0, s1, s2, s3]) rfl ?_
            unfold SAddQ
            rw [HN.out]
            exact ⟨Kf.out, _, _, _, rfl, Hgz.out, Sf _ _ _ HSr.out⟩
         ·have h3' : (2 : Int) < (LM.length : Int) := by omega
          have HN := Lib.hid (show addF d (fu + 1) k param ports cpd f = none from addF_none2 Hmd.out HST.out (by unfold owB; exact decide_eq_false (by rw [Hn.out.2.1, Hn.out.2.2.2]; have := HLz.out; have := HMz.out; omega)))
          go_upto_region 39 with fail
          clear y0 y1 y2 y3 q0 q1 q2 q3
          have HRr := Lib.hid (Hch.out.blk HRo.out (by decide) hgr1)
          obtain ⟨z0, z1, z2, z3⟩ := blkS4 HFr.out
          obtain ⟨r0, r1, r2, r3⟩ := blkS4 HRr.out
          have f0 := HRr.out.frozen 0
          have f1 := HRr.out.frozen 1
          have f2 := HRr.out.frozen 2
          have f3 := HRr.out.frozen 3
          go_wp2_with fail
          obtain ⟨wf, hwf⟩ : ∃ wf, wf = ((((wc.setCell ⟨gr, 0, none⟩ (.slice at0 s.2.2.length ct0)).setCell ⟨gr, 1, none⟩ (.slice aa LA.length ca)).setCell ⟨gr, 2, none⟩ (.slice none 0 0)).setCell ⟨gr, 3, none⟩ (.slice am LM.length cm)) := ⟨_, rfl⟩
          have hRf : Blk wf gr 31 #[(.slice at0 s.2.2.length ct0), (.slice aa LA.length ca), .slice none 0 0, (.slice am LM.length cm)] := by rw [hwf]; exact blk_four HRr.out
          have Kf := Lib.hid (show ChP lo flS noP w wf by rw [hwf]; exact ((((HCo.out.trans' Hch.out (fun b hb hl => by omega)).setN (p := ⟨gr, 0, none⟩) (show w.heap.size ≤ gr by omega) _).setN (p := ⟨gr, 1, none⟩) (show w.heap.size ≤ gr by omega) _).setN (p := ⟨gr, 2, none⟩) (show w.heap.size ≤ gr by omega) _).setN (p := ⟨gr, 3, none⟩) (show w.heap.size ≤ gr by omega) _)
          have Sf := fun (sg : List TSignal) (ag : List TAssign) (mm : List TMem) (h : FlS wc lo (.slice at0 s.2.2.length ct0) (.slice aa LA.length ca) (.slice am LM.length cm) sg ag mm) => (show FlS wf lo (.slice at0 s.2.2.length ct0) (.slice aa LA.length ca) (.slice am LM.length cm) sg ag mm by
           rw [hwf]
           exact fl_other (fl_other (fl_other (fl_other h HRr.out.of (by decide) _ _) ((HRr.out.set_ 0 _).of) (by decide) _ _) (((HRr.out.set_ 0 _).set_ 1 _).of) (by decide) _ _) ((((HRr.out.set_ 0 _).set_ 1 _).set_ 2 _).of) (by decide) _ _)
          obtain ⟨s0, s1, s2, s3⟩ := blkS4 hRf
          rw [← hwf]
          clear hwf
          refine bodyPost_ret (v := .tuple #[FV (.slice at0 s.2.2.length ct0) (.slice aa LA.length ca) (.slice am LM.length cm), .bool false]) (by simp [results, Try.results16, go_sem, s0, s1, s2, s3]) rfl ?_
          unfold SAddQ
          rw [HN.out]
          exact ⟨Kf.out, _, _, _, _, _, _, _, _, _, rfl⟩
        ·have h2' : (30 : Int) < (LA.length : Int) := by omega
         have HN := Lib.hid (show addF d (fu + 1) k param ports cpd f = none from addF_none2 Hmd.out HST.out (by unfold owB; exact decide_eq_false (by rw [Hn.out.2.1, Hn.out.2.2.2]; have := HLz.out; have := HMz.out; omega)))
         go_upto_region 39 with fail
         clear y0 y1 y2 y3 q0 q1 q2 q3
         have HRr := Lib.hid (Hch.out.blk HRo.out (by decide) hgr1)
         obtain ⟨z0, z1, z2, z3⟩ := blkS4 HFr.out
         obtain ⟨r0, r1, r2, r3⟩ := blkS4 HRr.out
         have f0 := HRr.out.frozen 0
         have f1 := HRr.out.frozen 1
         have f2 := HRr.out.frozen 2
         have f3 := HRr.out.frozen 3
         go_wp2_with fail
         obtain ⟨wf, hwf⟩ : ∃ wf, wf = ((((wc.setCell ⟨gr, 0, none⟩ (.slice at0 s.2.2.length ct0)).setCell ⟨gr, 1, none⟩ (.slice aa LA.length ca)).setCell ⟨gr, 2, none⟩ (.slice none 0 0)).setCell ⟨gr, 3, none⟩ (.slice am LM.length cm)) := ⟨_, rfl⟩
         have hRf : Blk wf gr 31 #[(.slice at0 s.2.2.length ct0), (.slice aa LA.length ca), .slice none 0 0, (.slice am LM.length cm)] := by rw [hwf]; exact blk_four HRr.out
         have Kf := Lib.hid (show ChP lo flS noP w wf by rw [hwf]; exact ((((HCo.out.trans' Hch.out (fun b hb hl => by omega)).setN (p := ⟨gr, 0, none⟩) (show w.heap.size ≤ gr by omega) _).setN (p := ⟨gr, 1, none⟩) (show w.heap.size ≤ gr by omega) _).setN (p := ⟨gr, 2, none⟩) (show w.heap.size ≤ gr by omega) _).setN (p := ⟨gr, 3, none⟩) (show w.heap.size ≤ gr by omega) _)
         have Sf := fun (sg : List TSignal) (ag : List TAssign) (mm : List TMem) (h : FlS wc lo (.slice at0 s.2.2.length ct0) (.slice aa LA.length ca) (.slice am LM.length cm) sg ag mm) => (show FlS wf lo (.slice at0 s.2.2.length ct0) (.slice aa LA.length ca) (.slice am LM.length cm) sg ag mm by
          rw [hwf]
          exact fl_other (fl_other (fl_other (fl_other h HRr.out.of (by decide) _ _) ((HRr.out.set_ 0 _).of) (by decide) _ _) (((HRr.out.set_ 0 _).set_ 1 _).of) (by decide) _ _) ((((HRr.out.set_ 0 _).set_ 1 _).set_ 2 _).of) (by decide) _ _)
         obtain ⟨s0, s1, s2, s3⟩ := blkS4 hRf
         rw [← hwf]
         clear hwf
         refine bodyPost_ret (v := .tuple #[FV (.slice at0 s.2.2.length ct0) (.slice aa LA.length ca) (.slice am LM.length cm), .bool false]) (by simp [results, Try.results16, go_sem, s0, s1, s2, s3]) rfl ?_
         unfold SAddQ
         rw [HN.out]
         exact ⟨Kf.out, _, _, _, _, _, _, _, _, _, rfl⟩
       ·have h1' : (30 : Int) < (s.2.2.length : Int) := by omega
        have HN := Lib.hid (show addF d (fu + 1) k param ports cpd f = none from addF_none2 Hmd.out HST.out (by unfold owB; exact decide_eq_false (by rw [Hn.out.2.1, Hn.out.2.2.2]; have := HLz.out; have := HMz.out; omega)))
        go_upto_region 39 with fail
        clear y0 y1 y2 y3 q0 q1 q2 q3
        have HRr := Lib.hid (Hch.out.blk HRo.out (by decide) hgr1)
        obtain ⟨z0, z1, z2, z3⟩ := blkS4 HFr.out
        obtain ⟨r0, r1, r2, r3⟩ := blkS4 HRr.out
        have f0 := HRr.out.frozen 0
        have f1 := HRr.out.frozen 1
        have f2 := HRr.out.frozen 2
        have f3 := HRr.out.frozen 3
        go_wp2_with fail
        obtain ⟨wf, hwf⟩ : ∃ wf, wf = ((((wc.setCell ⟨gr, 0, none⟩ (.slice at0 s.2.2.length ct0)).setCell ⟨gr, 1, none⟩ (.slice aa LA.length ca)).setCell ⟨gr, 2, none⟩ (.slice none 0 0)).setCell ⟨gr, 3, none⟩ (.slice am LM.length cm)) := ⟨_, rfl⟩
        have hRf : Blk wf gr 31 #[(.slice at0 s.2.2.length ct0), (.slice aa LA.length ca), .slice none 0 0, (.slice am LM.length cm)] := by rw [hwf]; exact blk_four HRr.out
        have Kf := Lib.hid (show ChP lo flS noP w wf by rw [hwf]; exact ((((HCo.out.trans' Hch.out (fun b hb hl => by omega)).setN (p := ⟨gr, 0, none⟩) (show w.heap.size ≤ gr by omega) _).setN (p := ⟨gr, 1, none⟩) (show w.heap.size ≤ gr by omega) _).setN (p := ⟨gr, 2, none⟩) (show w.heap.size ≤ gr by omega) _).setN (p := ⟨gr, 3, none⟩) (show w.heap.size ≤ gr by omega) _)
        have Sf := fun (sg : List TSignal) (ag : List TAssign) (mm : List TMem) (h : FlS wc lo (.slice at0 s.2.2.length ct0) (.slice aa LA.length ca) (.slice am LM.length cm) sg ag mm) => (show FlS wf lo (.slice at0 s.2.2.length ct0) (.slice aa LA.length ca) (.slice am LM.length cm) sg ag mm by
         rw [hwf]
         exact fl_other (fl_other (fl_other (fl_other h HRr.out.of (by decide) _ _) ((HRr.out.set_ 0 _).of) (by decide) _ _) (((HRr.out.set_ 0 _).set_ 1 _).of) (by decide) _ _) ((((HRr.out.set_ 0 _).set_ 1 _).set_ 2 _).of) (by decide) _ _)
        obtain ⟨s0, s1, s2, s3⟩ := blkS4 hRf
        rw [← hwf]
        clear hwf
        refine bodyPost_ret (v := .tuple #[FV (.slice at0 s.2.2.length ct0) (.slice aa LA.length ca) (.slice am LM.length cm), .bool false]) (by simp [results, Try.results16, go_sem, s0, s1, s2, s3]) rfl ?_
        unfold SAddQ
        rw [HN.out]
        exact ⟨Kf.out, _, _, _, _, _, _, _, _, _, rfl⟩
end Go.Proofs.Ytlgbdpcobbbglaa

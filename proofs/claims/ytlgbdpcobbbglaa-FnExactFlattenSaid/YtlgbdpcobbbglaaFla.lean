/- Contract: a module added to a flat module: the program's function. -/
import Derived.Test.YtlgbdpcobbbglaaFlp
import Derived.Test.YtlgbdpcobbbglaaFlc
import Derived.Test.YtlgbdpcobbbglaaPto
import Derived.Deep.CutRange
import Derived.Outline
namespace Go.Proofs.Ytlgbdpcobbbglaa
open Go.RowKit

def flT : List TypeId := [52, 73, 76, 80]
/-- the flattener's block -/
abbrev FB (w : World) (gf : Nat) (A : Option Addr) (n c : Nat) (v0 v1 v3 : Value) : Prop := Blk w gf 52 #[.slice A n c, v0, v1, .slice none 0 0, v3]
def AddQ (d : TDesign) (fu k : Nat) (param : Int) (ports : List Int) (copied : Bool) (f : FlSt) (lo gf : Nat) (A : Option Addr) (n c : Nat) (w : World) (e : Ending) (w' : World) : Prop :=
 ChP lo flT noP w w' ∧ match addF d fu k param ports copied f with
  | none => e = .returned (.bool false)
  | some g => e = .returned (.bool true) ∧ FlSz g ∧ ∃ v0 v1 v3, FB w' gf A n c v0 v1 v3 ∧ FlS w' lo v0 v1 v3 g.1 g.2.1 g.2.2
theorem flT_sig : 73 ∈ flT := by decide
theorem flT_asg : 76 ∈ flT := by decide
theorem flT_mem : 80 ∈ flT := by decide
theorem flT_fl : 52 ∈ flT := by decide
/-- the flattener's block is written -/
theorem fl_set {w : World} {gf lo : Nat} {cs : Array Value} {v0 v1 v3 : Value} {sg : List TSignal} {ag : List TAssign} {mm : List TMem} (h : FlS w lo v0 v1 v3 sg ag mm) (hb : Blk w gf 52 cs) (i : Nat) (u : Value) : FlS (w.setCell ⟨gf, i, none⟩ u) lo v0 v1 v3 sg ag mm :=
 h.only ((Only.refl (fun b => b = gf) w).setCell (p := ⟨gf, i, none⟩) (.inl rfl) u) (fun b t hb' _ ht => by subst hb'; rw [← hb.of.inj ht]; decide)
theorem fl_int {w : World} {gp lo : Nat} {v0 v1 v3 : Value} {sg : List TSignal} {ag : List TAssign} {mm : List TMem} (h : FlS w lo v0 v1 v3 sg ag mm) (hb : OfT w 3 gp) (i : Nat) (u : Value) : FlS (w.setCell ⟨gp, i, none⟩ u) lo v0 v1 v3 sg ag mm :=
 h.only ((Only.refl (fun b => b = gp) w).setCell (p := ⟨gp, i, none⟩) (.inl rfl) u) (fun b t hb' _ ht => by subst hb'; rw [← hb.inj ht]; decide)
set_option maxRecDepth 100000 in
set_option maxHeartbeats 16000000 in
theorem i_flAdd {d : TDesign} (hd : designB d = true) {n : Nat} (hl : d.length = n) : ∀ (fu k : Nat), k < fu → k < n → ∀ (param : Int) (ports : List Int) (Ap : Option Addr) (np cp : Nat) (top : Bool) (w : World) (S : Nat → Prop) (A : Option Addr) (c lo gf : Nat) (v0 v1 v3 : Value) (f : FlSt),
  Rep w S (.slice A n c) (fModuleS d) → n ≤ maxLen → (∀ b, S b → b < lo) → lo ≤ w.heap.size → lo ≤ gf → FB w gf A n c v0 v1 v3 → FlS w lo v0 v1 v3 f.1 f.2.1 f.2.2 → FlSz f → w.ownsRow 0 3 1 (.slice Ap np cp) np (ints ports) → (∀ i ∈ ports, 0 ≤ i ∧ i < f.1.length) → (top = false → ports.length = (portsM (md d (k : Int))).length) →
  Calls Try.prog 21 #[.pointer (some ⟨gf, 0, none⟩), .int .i64 k, .int .i64 param, .slice Ap np cp, .bool top] w (AddQ d fu k param ports (!top) f lo gf A n c w) := by
 have Hd := Lib.hid hd
 have Hl := Lib.hid hl
 clear hd hl
 intro fu
 induction fu with
 | zero => intro k hk; omega
 | succ fu ih =>
 intro k hk hkn param ports Ap np cp top w S A c lo gf v0 v1 v3 f hr hnm hS hlo hgf hfb hfs hsz hpo hpb hpl
 have IH := Lib.hid ih
 clear ih
 obtain ⟨isg, hsg0, hsg1, hsg2, hsg3⟩ := info_parts Try.infSignalC
 obtain ⟨m, hmk⟩ : ∃ m, d[k]? = some m := ⟨_, List.getElem?_eq_getElem (by rw [Hl.out]; exact hkn)⟩
 have MO := md_ok (dsn_modF Hd.out (show k < d.length by rw [Hl.out]; exact hkn)) hmk
 have hmd := md_get hmk
 have Hmd := Lib.hid hmd
 rw [hmd] at hpl
 obtain ⟨ad, m', E0, k0, E1, k1, E2, k2, E3, k3, rfl, hab, hx, hro, ⟨ml0, ml1, ml2, ml3⟩, t0, t1, t2, t3⟩ := mod_row hr hkn
 obtain rfl : m = m' := Option.some.inj (hmk.symm.trans hx)
 obtain ⟨n0, hn0⟩ : ∃ n0, m.1.length = n0 := ⟨_, rfl⟩
 obtain ⟨n1, hn1⟩ : ∃ n1, m.2.1.length = n1 := ⟨_, rfl⟩
 obtain ⟨n2, hn2⟩ : ∃ n2, m.2.2.1.length = n2 := ⟨_, rfl⟩
 obtain ⟨n3, hn3⟩ : ∃ n3, m.2.2.2.length = n3 := ⟨_, rfl⟩
 obtain ⟨b0, b1, b2, b3⟩ : n0 ≤ 30 ∧ n1 ≤ 30 ∧ n2 ≤ 3 ∧ n3 ≤ 2 := ⟨by rw [← hn0]; exact MO.n0, by rw [← hn1]; exact MO.n1, by rw [← hn2]; exact MO.n2, by rw [← hn3]; exact MO.n3⟩
 rw [portsM_eq MO.n0] at hpl
 rw [hn0, hn1, hn2, hn3] at hro
 rw [hn0] at t0
 rw [hn1] at t1
 rw [hn2] at t2
 rw [hn3] at t3
 have Hn := Lib.hid (And.intro hn0 (And.intro hn1 (And.intro hn2 hn3)))
 have HRo := Lib.hid hro
 obtain ⟨w0, w1, w2, w3, hv, rp0, rp1, rp2, rp3⟩ := hro
 injection hv with hv
 injection hv with hv
 injection hv with hva hv
 injection hv with hvb hv
 injection hv with hvc hv
 injection hv with hvd hv
 subst hva hvb hvc hvd
 have R0 := Lib.hid rp0
 have R1 := Lib.hid rp1
 have R2 := Lib.hid rp2
 have R3 := Lib.hid rp3
 have g1 : (0 : Int) ≤ (k : Int) := by omega
 have g2 : (k : Int) < (n : Int) := by omega
 have HF := Lib.hid hfb
 have HFS := Lib.hid hfs
 have Hpo := Lib.hid hpo
 have y0 : w.cell? ⟨gf, 0, none⟩ = some (.slice (some ad) n c) := HF.out.cell 0
 obtain ⟨U, hU⟩ : ∃ U, U = (w.alloc (.cells #[.slice E0 n0 k0, .slice E1 n1 k1, .slice E2 n2 k2, .slice E3 n3 k3] 31)) := ⟨_, rfl⟩
 have HXM := Lib.hid (show Blk U w.heap.size 31 #[.slice E0 n0 k0, .slice E1 n1 k1, .slice E2 n2 k2, .slice E3 n3 k3] by rw [hU]; exact Blk.new _ _ _)
 have HBU := Lib.hid (show Below w.heap.size w U by rw [hU]; exact (Below.refl _ _).alloc (Nat.le_refl _) _)
 have zU : w.heap.size < U.heap.size := HXM.out.lt
 have HU := Lib.hid hU
 have Hrd := Lib.hid hr
 clear hU hmk hmd hx rp0 rp1 rp2 rp3 hn0 hn1 hn2 hn3 ml0 ml1 ml2 ml3 hfb hfs hpo hr
 go_enter Try.func21, Try.ntmps21
 go_upto_region 2 with fail
 rw [← HU.out]
 clear t0 t1 t2 t3 y0
 obtain ⟨ii, hi, hz0, hz1, hz2⟩ := info_parts Try.infoIntC
 have hmk := run_make_rowN (P := Try.prog) 47 3 ii (.int .i64 0) Try.underlying47 hi hz0 .i64 .i64 n0 n0 (Nat.le_refl _) (by rw [hz2]; omega) (by omega) U
 rw [hz1] at hmk
 have hcs : (Value.int .i64 0).cells = #[.int .i64 0] := rfl
 rw [hcs, Nat.mul_one] at hmk
 clear hcs
 obtain ⟨x0, x1, x2, x3⟩ := blkS4 (HXM.out.alloc (.cells (madeCells #[.int .i64 0] n0) 3))
 obtain ⟨y0, y1, y2, y3⟩ := blkS4 HXM.out
 go_wp2_with fail
 clear hmk x0 x1 x2 x3 y0 y1 y2 y3
 obtain ⟨U2, hU2⟩ : ∃ U2, U2 = U.alloc (.cells (madeCells #[.int .i64 0] n0) 3) := ⟨_, rfl⟩
 have HP2 := Lib.hid (show U2.ownsRow U.heap.size 3 1 (.slice (some ⟨U.heap.size, 0, none⟩) n0 n0) n0 (ints (List.replicate n0 0)) by rw [hU2]; exact own_ints (by unfold maxLen; omega))
 have HB2 := Lib.hid (show Below w.heap.size w U2 by rw [hU2]; exact HBU.out.alloc (by omega) _)
 have HX2 := Lib.hid (show Blk U2 w.heap.size 31 #[.slice E0 n0 k0, .slice E1 n1 k1, .slice E2 n2 k2, .slice E3 n3 k3] by rw [hU2]; exact HXM.out.alloc _)
 obtain ⟨gp, hgp⟩ : ∃ g, g = U.heap.size := ⟨_, rfl⟩
 have hgp1 : w.heap.size < gp := by omega
 have hgp2 : gp < U2.heap.size := by rw [hgp, hU2]; simp
 rw [← hU2, ← hgp]
 rw [← hgp] at HP2
 clear hU2 hgp HXM HBU HU zU
 refine (i_PortsOfO (RModule.under HRo.out (B := lo) hS (HB2.out.mono hlo)) (fun b hb => by have := hS b hb; omega)).mono ?_
 rintro e w3 ⟨Al, nl, cl, rfl, hol, hb3⟩
 have hnl : (idxL isPort m.1).length = nl := by
  have h1 := hol.1
  rw [ints_len, portsM_eq MO.n0] at h1
  omega
 rw [portsM_eq MO.n0] at hol
 have HOl := Lib.hid hol
 have HP3 := Lib.hid (own_below HP2.out hb3 (Nat.le_refl _))
 have HX3 := Lib.hid (HX2.out.below hb3 HX2.out.lt)
 have HB3 := Lib.hid (HB2.out.trans (hb3.mono (by omega)))
 have HF3 := Lib.hid (HF.out.below HB3.out HF.out.lt)
 have HS3 := Lib.hid (HFS.out.below HB3.out)
 have Hpo3 := Lib.hid (own_below Hpo.out HB3.out (Nat.le_refl _))
 have z3 : U2.heap.size ≤ w3.heap.size := hb3.size
 have hnl2 : nl ≤ 30 := by rw [← hnl]; exact Nat.le_trans (idxL_le _) MO.n0
 have hxgp : w.heap.size ≠ gp := by omega
 clear hol hb3 HP2 HX2 HB2
 obtain ⟨y0, y1, y2, y3⟩ := blkS4 HX3.out
 go_wp2_with fail
 clear y0 y1 y2 y3
 go_loopw [14, 15, 16, 17, 48] (fun nv _ _ _ iv wr => ∃ (j : Nat) (s : SgSt) (u0 : Value), j ≤ n0 ∧ iv = .int .i64 j ∧ nv = .int .i64 (s.2.1 : Int) ∧ Hid ((m.1.take j).foldlM (sgF (!top) param ports) ([], 0, f.1) = some s) ∧ wr.ownsRow gp 3 1 (.slice (some ⟨gp, 0, none⟩) n0 n0) n0 (ints (s.1 ++ List.replicate (n0 - j) 0)) ∧ FB wr gf (some ad) n c u0 v1 v3 ∧ FlS wr lo u0 v1 v3 s.2.2 f.2.1 f.2.2 ∧ ChP lo flT (fun b => b = gp) w3 wr) (fun _ _ _ _ iv _ => n0 - (intOf iv).toNat)
 case atStart => exact ⟨0, ([], 0, f.1), v0, Nat.zero_le _, rfl, rfl, Lib.hid rfl, HP3.out, HF3.out, HS3.out, ChP.refl _ _ _ _⟩
 case round =>
  obtain ⟨j, s, u0, hj, rfl, rfl, hst, hpl3, hfb, hfs, hch⟩ := hrel
  have hso := sgs_ok (sg := f.1) hpb (fun hc => hpl (by simpa using hc)) j s (by have := Hn.out; omega) hst.out
  have hsl : s.1.length = j := by rw [hso.len, List.length_take]; have := Hn.out; omega
  have Hst := Lib.hid hst.out
  have HPl := Lib.hid hpl3
  have HFr := Lib.hid hfb
  have HSr := Lib.hid hfs
  have Hch := Lib.hid hch
  have hzr := hch.size
  have HBw := Lib.hid (show Below lo w wr from ((HB3.out.mono hlo).trans (hch.below (by omega) (fun b hb => by omega))))
  have HXr := Lib.hid (hch.blk HX3.out (by decide) hxgp)
  obtain ⟨as0, cs0, rfl, _, _, _⟩ := own_form hfs.s0
  clear hst hpl3 hfb hfs hch
  by_cases hlt : j < n0
  ·obtain ⟨ad2, x0, x1, x2, rfl, hab2, hx, e0, e1, e2⟩ := fSignalS_row (R0.out.under hS HBw.out) hlt
   have g3 : (0 : Int) ≤ (j : Int) := by omega
   have g4 : (j : Int) < (n0 : Int) := by omega
   obtain ⟨W1, hW1⟩ : ∃ W1, W1 = wr.alloc (.cells #[.int .i64 x0, .int .i64 x1, .int .i64 x2] 73) := ⟨_, rfl⟩
   have hgfl : gf < w.heap.size := HF.out.lt
   have HX1 := Lib.hid (show Blk W1 wr.heap.size 73 #[.int .i64 x0, .int .i64 x1, .int .i64 x2] by rw [hW1]; exact Blk.new _ _ _)
   have HW1 := Lib.hid (show Below wr.heap.size wr W1 by rw [hW1]; exact (Below.refl _ _).alloc (Nat.le_refl _) _)
   have zW1 : wr.heap.size < W1.heap.size := HX1.out.lt
   have Hx := Lib.hid hx
   clear hx
   go_upto_region 9 with fail
   rw [← hW1]
   clear hW1 e0 e1 e2
   by_cases hw : x1 = 0
   ·subst hw
    have Hwd := Lib.hid (show wdF param 0 = param from rfl)
    cases top with
    | true =>
     have HG := Lib.hid (show sgF (!true) param ports s (x0, 0, x2) = some (s.1 ++ [(s.2.2.length : Int)], s.2.1, s.2.2 ++ [(x0, param, x2)]) by unfold sgF; rw [if_neg (by simp), Hwd.out])
     obtain ⟨i0, hi, hz0, hz1, hz2⟩ := info_parts Try.infSignalC
     have HP1 := Lib.hid (own_below HPl.out HW1.out (Nat.le_refl _))
     have HF1 := Lib.hid (HFr.out.below HW1.out HFr.out.lt)
     have HS1 := Lib.hid (HSr.out.below HW1.out)
     have hpc := own_at HP1.out (rep_at hsl hlt)
     have fz := HP1.out.frozenAt j
     have yg1 := HF1.out.cell 1
     simp only [List.getElem?_toArray, List.getElem?_cons_zero, List.getElem?_cons_succ] at yg1
     go_upto_region 17 with fail
     obtain ⟨W2, hW2⟩ : ∃ W2, W2 = W1.setCell ⟨gp, j, none⟩ (.int .i64 (((s.2.2.length : Nat) : Int))) := ⟨_, rfl⟩
     have HP2 := Lib.hid (show W2.ownsRow gp 3 1 (.slice (some ⟨gp, 0, none⟩) n0 n0) n0 (ints ((s.1 ++ [((s.2.2.length : Nat) : Int)]) ++ List.replicate (n0 - (j + 1)) 0)) by rw [hW2, ← rep_set hsl hlt]; exact own_put HP1.out j _)
     have HF2 := Lib.hid (show FB W2 gf (some ad) n c (.slice as0 s.2.2.length cs0) v1 v3 by rw [hW2]; exact HF1.out.far (by show gf ≠ gp; omega) _)
     have HS2 := Lib.hid (show FlS W2 lo (.slice as0 s.2.2.length cs0) v1 v3 s.2.2 f.2.1 f.2.2 by rw [hW2]; exact fl_int HS1.out (own_of HP1.out rfl) _ _)
     have HX2 := Lib.hid (show Blk W2 wr.heap.size 73 #[.int .i64 x0, .int .i64 (0), .int .i64 x2] by rw [hW2]; exact HX1.out.far (by show wr.heap.size ≠ gp; omega) _)
     have HC2 := Lib.hid (show ChP lo flT (fun b => b = gp) w3 W2 by rw [hW2]; exact (Hch.out.bel HW1.out).setP (p := ⟨gp, j, none⟩) rfl _)
     have zW2 : W1.heap.size ≤ W2.heap.size := by rw [hW2]; simp [World.setCell]
     rw [← hW2]
     clear hW2 hpc fz yg1
     have gb := HF2.out.lt
     have hsz0 := hso.hi
     rw [List.length_take] at hsz0
     have hfz := hsz.l0
     obtain ⟨d0, d1, d2⟩ := blkS3 HX2.out
     obtain ⟨q0, q1, q2, q3, q4⟩ := blkS5 HF2.out
     have nx : ¬ (Value.slice as0 s.2.2.length cs0).ownBlock = some wr.heap.size := fun h1 => by have := (HSr.out.s0.lt _ h1).2; omega
     have ng : ¬ (Value.slice as0 s.2.2.length cs0).ownBlock = some gf := own_blk_ne HS2.out.s0 HF2.out (by decide)
     have c0 := ocel (S := fun b => (Value.slice as0 s.2.2.length cs0).ownBlock = some b) d0 HX2.out.lt nx
     have c2 := ocel (S := fun b => (Value.slice as0 s.2.2.length cs0).ownBlock = some b) d2 HX2.out.lt nx
     have cg := ocel (S := fun b => (Value.slice as0 s.2.2.length cs0).ownBlock = some b) q1 HF2.out.lt ng
     clear d0 d1 d2 q0 q1 q2 q3 q4 nx
     refine wp_region_lexC (by kernel_rfl) (by kernel_rfl) (fun x => Only (fun b => (Value.slice as0 s.2.2.length cs0).ownBlock = some b) W2 x) ((Only.refl _ _).drew) (fun lexNE => ?_)
     (repeat (first | (refine lex_r fun K hK => ?_; go_big_quiet_op; refine hK _ ?_; clear hK K) | (refine lex_k fun K hK => ?_; go_simp; refine hK _ ?_; clear hK K)))
     (refine lex_e fun K hK => ?_; go_big_op)
     refine hK _ _ (Cls.mk' (((Only.refl _ _).drew).alloc _)) ?_
     clear hK K
     have HO2 := Lib.hid (own_below HS2.out.s0 (Below.refl W2.heap.size W2).drew (Nat.le_refl _))
     refine lex_e fun K hK => ?_
     refine wp_append_any _ _ _ 26 (by rfl) (lo) 73 i0 (.agg #[.int .i64 0, .int .i64 0, .int .i64 0]) 3 24 Try.underlying26 hi hz0 hz1 hz2 rfl (by decide) _ _ _ (by rfl) (HO2.out.alloc _) _ _ 1 1 _ (by rfl) (reads_new _ _ 1 3 rfl) (by intro u hu; simp at hu; first | (subst hu; rfl) | (rcases hu with rfl | rfl <;> rfl) | (rcases hu with rfl | rfl | rfl <;> rfl)) (by unfold maxLen; omega) (by omega) (by (try simp) <;> (try omega)) ?_
     intro v8 w8 hown8 hgrow8 hblk8
     go_simp
     refine hK _ _ (Cls.mk' (Only.grown2 (((Only.refl (fun b => (Value.slice as0 s.2.2.length cs0).ownBlock = some b) W2).drew).alloc _) hgrow8 (fun g hg => .inl hg))) ?_
     clear hK K
     obtain ⟨A8, c8, rfl, _, _, _⟩ := own_form hown8
     have HS8 := Lib.hid ((HS2.out.drew.alloc _).pushS (x := (x0, param, x2)) hown8 hgrow8)
     have HF8 := Lib.hid (((HF2.out.drew).alloc _).grown hgrow8 (fun e => ng e.symm))
     have K8 := Lib.hid ((((ChP.refl lo flT noP W2).drew).alloc _).row (own_below HO2.out ((Below.refl _ _).alloc (Nat.le_refl _) _) (Nat.le_refl _)) (Nat.le_refl _) flT_sig hgrow8)
     clear hown8 hgrow8 hblk8
     (repeat (first | (refine lex_r fun K hK => ?_; go_big_quiet_op; refine hK _ ?_; clear hK K) | (refine lex_k fun K hK => ?_; go_simp; refine hK _ ?_; clear hK K)))
     have e1 := HF8.out.cell 1
     have f1 := HF8.out.frozen 1
     simp only [List.getElem?_toArray, List.getElem?_cons_zero, List.getElem?_cons_succ] at e1
     (refine lex_l fun K hK => ?_; go_big_op)
     (refine hK _ _ ?_; clear hK K)
     clear lexNE c0 c2 cg e1 f1 ng
     obtain ⟨wf, hwf⟩ : ∃ wf, wf = (w8.setCell ⟨gf, 1, none⟩ (.slice A8 (s.2.2.length + 1) c8)) := ⟨_, rfl⟩
     have HFf := Lib.hid (show FB wf gf (some ad) n c (.slice A8 (s.2.2.length + 1) c8) v1 v3 by rw [hwf]; exact HF8.out.set_ 1 _)
     have HSf := Lib.hid (show FlS wf lo (.slice A8 (s.2.2.length + 1) c8) v1 v3 (s.2.2 ++ [(x0, param, x2)]) f.2.1 f.2.2 by rw [hwf]; exact fl_set HS8.out HF8.out _ _)
     have Kf := Lib.hid (show ChP lo flT noP W2 wf by rw [hwf]; exact K8.out.setT (p := ⟨gf, 1, none⟩) HF8.out.of flT_fl hgf _)
     have HPf := Lib.hid (Kf.out.own HP2.out (by decide) (fun _ _ h => h))
     rw [← hwf]
     clear hwf
     go_wp2_with fail
     go_roundw
     case rel => exact ⟨j + 1, (s.1 ++ [(s.2.2.length : Int)], s.2.1, s.2.2 ++ [(x0, param, x2)]), _, by omega, by go_num, rfl, Lib.hid (by rw [foldlM_take Hx.out, Hst.out]; exact HG.out), HPf.out, HFf.out, HSf.out, HC2.out.trans' Kf.out (fun _ h _ => h.elim)⟩
     case measure => simp [intOf]; omega
    | false =>
     cases hip : isPort (x0, 0, x2) with
     | false =>
      have HG := Lib.hid (show sgF (!false) param ports s (x0, 0, x2) = some (s.1 ++ [(s.2.2.length : Int)], s.2.1, s.2.2 ++ [(x0, param, x2)]) by unfold sgF; rw [if_neg (by simp [hip]), Hwd.out])
      have hnx := hso.nxt
      rw [if_pos (by rfl)] at hnx
      have Hnx := Lib.hid hnx
      clear hnx
      have HOr := Lib.hid (own_below (Hch.out.own HOl.out (by decide) (fun g hg hc => by have := (HOl.out.lt g hg).1; omega)) HW1.out (Nat.le_refl _))
      have g5 : (0 : Int) ≤ (s.2.1 : Int) := by omega
      by_cases hnn : s.2.1 < nl
      ·obtain ⟨v, hv⟩ : ∃ v, (idxL isPort m.1)[s.2.1]? = some v := ⟨_, List.getElem?_eq_getElem (by omega)⟩
       have hvj : (v == (j : Int)) = false := by simpa using idxL_not Hx.out hip (by rw [← Hnx.out]; exact hv)
       obtain ⟨gq, hgq⟩ : ∃ gq, Al = some ⟨gq, 0, none⟩ := by
        obtain ⟨_, _, hv, _, _, h2⟩ := own_form HOl.out
        injection hv with hA
        obtain ⟨g, h3, _⟩ := h2 (by omega)
        exact ⟨g, hA.trans h3⟩
       subst hgq
       have hq0 := own_at HOr.out hv
       have g6 : (s.2.1 : Int) < (nl : Int) := by omega
       clear hv
       obtain ⟨i0, hi, hz0, hz1, hz2⟩ := info_parts Try.infSignalC
       have HP1 := Lib.hid (own_below HPl.out HW1.out (Nat.le_refl _))
       have HF1 := Lib.hid (HFr.out.below HW1.out HFr.out.lt)
       have HS1 := Lib.hid (HSr.out.below HW1.out)
       have hpc := own_at HP1.out (rep_at hsl hlt)
       have fz := HP1.out.frozenAt j
       have yg1 := HF1.out.cell 1
       simp only [List.getElem?_toArray, List.getElem?_cons_zero, List.getElem?_cons_succ] at yg1
       go_upto_region 17 with fail
       obtain ⟨W2, hW2⟩ : ∃ W2, W2 = W1.setCell ⟨gp, j, none⟩ (.int .i64 (((s.2.2.length : Nat) : Int))) := ⟨_, rfl⟩
       have HP2 := Lib.hid (show W2.ownsRow gp 3 1 (.slice (some ⟨gp, 0, none⟩) n0 n0) n0 (ints ((s.1 ++ [((s.2.2.length : Nat) : Int)]) ++ List.replicate (n0 - (j + 1)) 0)) by rw [hW2, ← rep_set hsl hlt]; exact own_put HP1.out j _)
       have HF2 := Lib.hid (show FB W2 gf (some ad) n c (.slice as0 s.2.2.length cs0) v1 v3 by rw [hW2]; exact HF1.out.far (by show gf ≠ gp; omega) _)
       have HS2 := Lib.hid (show FlS W2 lo (.slice as0 s.2.2.length cs0) v1 v3 s.2.2 f.2.1 f.2.2 by rw [hW2]; exact fl_int HS1.out (own_of HP1.out rfl) _ _)
       have HX2 := Lib.hid (show Blk W2 wr.heap.size 73 #[.int .i64 x0, .int .i64 (0), .int .i64 x2] by rw [hW2]; exact HX1.out.far (by show wr.heap.size ≠ gp; omega) _)
       have HC2 := Lib.hid (show ChP lo flT (fun b => b = gp) w3 W2 by rw [hW2]; exact (Hch.out.bel HW1.out).setP (p := ⟨gp, j, none⟩) rfl _)
       have zW2 : W1.heap.size ≤ W2.heap.size := by rw [hW2]; simp [World.setCell]
       rw [← hW2]
       clear hW2 hpc fz yg1
       have gb := HF2.out.lt
       have hsz0 := hso.hi
       rw [List.length_take] at hsz0
       have hfz := hsz.l0
       obtain ⟨d0, d1, d2⟩ := blkS3 HX2.out
       obtain ⟨q0, q1, q2, q3, q4⟩ := blkS5 HF2.out
       have nx : ¬ (Value.slice as0 s.2.2.length cs0).ownBlock = some wr.heap.size := fun h1 => by have := (HSr.out.s0.lt _ h1).2; omega
       have ng : ¬ (Value.slice as0 s.2.2.length cs0).ownBlock = some gf := own_blk_ne HS2.out.s0 HF2.out (by decide)
       have c0 := ocel (S := fun b => (Value.slice as0 s.2.2.length cs0).ownBlock = some b) d0 HX2.out.lt nx
       have c2 := ocel (S := fun b => (Value.slice as0 s.2.2.length cs0).ownBlock = some b) d2 HX2.out.lt nx
       have cg := ocel (S := fun b => (Value.slice as0 s.2.2.length cs0).ownBlock = some b) q1 HF2.out.lt ng
       clear d0 d1 d2 q0 q1 q2 q3 q4 nx
       refine wp_region_lexC (by kernel_rfl) (by kernel_rfl) (fun x => Only (fun b => (Value.slice as0 s.2.2.length cs0).ownBlock = some b) W2 x) ((Only.refl _ _).drew) (fun lexNE => ?_)
       (repeat (first | (refine lex_r fun K hK => ?_; go_big_quiet_op; refine hK _ ?_; clear hK K) | (refine lex_k fun K hK => ?_; go_simp; refine hK _ ?_; clear hK K)))
       (refine lex_e fun K hK => ?_; go_big_op)
       refine hK _ _ (Cls.mk' (((Only.refl _ _).drew).alloc _)) ?_
       clear hK K
       have HO2 := Lib.hid (own_below HS2.out.s0 (Below.refl W2.heap.size W2).drew (Nat.le_refl _))
       refine lex_e fun K hK => ?_
       refine wp_append_any _ _ _ 26 (by rfl) (lo) 73 i0 (.agg #[.int .i64 0, .int .i64 0, .int .i64 0]) 3 24 Try.underlying26 hi hz0 hz1 hz2 rfl (by decide) _ _ _ (by rfl) (HO2.out.alloc _) _ _ 1 1 _ (by rfl) (reads_new _ _ 1 3 rfl) (by intro u hu; simp at hu; first | (subst hu; rfl) | (rcases hu with rfl | rfl <;> rfl) | (rcases hu with rfl | rfl | rfl <;> rfl)) (by unfold maxLen; omega) (by omega) (by (try simp) <;> (try omega)) ?_
       intro v8 w8 hown8 hgrow8 hblk8
       go_simp
       refine hK _ _ (Cls.mk' (Only.grown2 (((Only.refl (fun b => (Value.slice as0 s.2.2.length cs0).ownBlock = some b) W2).drew).alloc _) hgrow8 (fun g hg => .inl hg))) ?_
       clear hK K
       obtain ⟨A8, c8, rfl, _, _, _⟩ := own_form hown8
       have HS8 := Lib.hid ((HS2.out.drew.alloc _).pushS (x := (x0, param, x2)) hown8 hgrow8)
       have HF8 := Lib.hid (((HF2.out.drew).alloc _).grown hgrow8 (fun e => ng e.symm))
       have K8 := Lib.hid ((((ChP.refl lo flT noP W2).drew).alloc _).row (own_below HO2.out ((Below.refl _ _).alloc (Nat.le_refl _) _) (Nat.le_refl _)) (Nat.le_refl _) flT_sig hgrow8)
       clear hown8 hgrow8 hblk8
       (repeat (first | (refine lex_r fun K hK => ?_; go_big_quiet_op; refine hK _ ?_; clear hK K) | (refine lex_k fun K hK => ?_; go_simp; refine hK _ ?_; clear hK K)))
       have e1 := HF8.out.cell 1
       have f1 := HF8.out.frozen 1
       simp only [List.getElem?_toArray, List.getElem?_cons_zero, List.getElem?_cons_succ] at e1
       (refine lex_l fun K hK => ?_; go_big_op)
       (refine hK _ _ ?_; clear hK K)
       clear lexNE c0 c2 cg e1 f1 ng
       obtain ⟨wf, hwf⟩ : ∃ wf, wf = (w8.setCell ⟨gf, 1, none⟩ (.slice A8 (s.2.2.length + 1) c8)) := ⟨_, rfl⟩
       have HFf := Lib.hid (show FB wf gf (some ad) n c (.slice A8 (s.2.2.length + 1) c8) v1 v3 by rw [hwf]; exact HF8.out.set_ 1 _)
       have HSf := Lib.hid (show FlS wf lo (.slice A8 (s.2.2.length + 1) c8) v1 v3 (s.2.2 ++ [(x0, param, x2)]) f.2.1 f.2.2 by rw [hwf]; exact fl_set HS8.out HF8.out _ _)
       have Kf := Lib.hid (show ChP lo flT noP W2 wf by rw [hwf]; exact K8.out.setT (p := ⟨gf, 1, none⟩) HF8.out.of flT_fl hgf _)
       have HPf := Lib.hid (Kf.out.own HP2.out (by decide) (fun _ _ h => h))
       rw [← hwf]
       clear hwf
       go_wp2_with fail
       go_roundw
       case rel => exact ⟨j + 1, (s.1 ++ [(s.2.2.length : Int)], s.2.1, s.2.2 ++ [(x0, param, x2)]), _, by omega, by go_num, rfl, Lib.hid (by rw [foldlM_take Hx.out, Hst.out]; exact HG.out), HPf.out, HFf.out, HSf.out, HC2.out.trans' Kf.out (fun _ h _ => h.elim)⟩
       case measure => simp [intOf]; omega
      ·have g6 : (nl : Int) ≤ (s.2.1 : Int) := by omega
       obtain ⟨i0, hi, hz0, hz1, hz2⟩ := info_parts Try.infSignalC
       have HP1 := Lib.hid (own_below HPl.out HW1.out (Nat.le_refl _))
       have HF1 := Lib.hid (HFr.out.below HW1.out HFr.out.lt)
       have HS1 := Lib.hid (HSr.out.below HW1.out)
       have hpc := own_at HP1.out (rep_at hsl hlt)
       have fz := HP1.out.frozenAt j
       have yg1 := HF1.out.cell 1
       simp only [List.getElem?_toArray, List.getElem?_cons_zero, List.getElem?_cons_succ] at yg1
       go_upto_region 17 with fail
       obtain ⟨W2, hW2⟩ : ∃ W2, W2 = W1.setCell ⟨gp, j, none⟩ (.int .i64 (((s.2.2.length : Nat) : Int))) := ⟨_, rfl⟩
       have HP2 := Lib.hid (show W2.ownsRow gp 3 1 (.slice (some ⟨gp, 0, none⟩) n0 n0) n0 (ints ((s.1 ++ [((s.2.2.length : Nat) : Int)]) ++ List.replicate (n0 - (j + 1)) 0)) by rw [hW2, ← rep_set hsl hlt]; exact own_put HP1.out j _)
       have HF2 := Lib.hid (show FB W2 gf (some ad) n c (.slice as0 s.2.2.length cs0) v1 v3 by rw [hW2]; exact HF1.out.far (by show gf ≠ gp; omega) _)
       have HS2 := Lib.hid (show FlS W2 lo (.slice as0 s.2.2.length cs0) v1 v3 s.2.2 f.2.1 f.2.2 by rw [hW2]; exact fl_int HS1.out (own_of HP1.out rfl) _ _)
       have HX2 := Lib.hid (show Blk W2 wr.heap.size 73 #[.int .i64 x0, .int .i64 (0), .int .i64 x2] by rw [hW2]; exact HX1.out.far (by show wr.heap.size ≠ gp; omega) _)
       have HC2 := Lib.hid (show ChP lo flT (fun b => b = gp) w3 W2 by rw [hW2]; exact (Hch.out.bel HW1.out).setP (p := ⟨gp, j, none⟩) rfl _)
       have zW2 : W1.heap.size ≤ W2.heap.size := by rw [hW2]; simp [World.setCell]
       rw [← hW2]
       clear hW2 hpc fz yg1
       have gb := HF2.out.lt
       have hsz0 := hso.hi
       rw [List.length_take] at hsz0
       have hfz := hsz.l0
       obtain ⟨d0, d1, d2⟩ := blkS3 HX2.out
       obtain ⟨q0, q1, q2, q3, q4⟩ := blkS5 HF2.out
       have nx : ¬ (Value.slice as0 s.2.2.length cs0).ownBlock = some wr.heap.size := fun h1 => by have := (HSr.out.s0.lt _ h1).2; omega
       have ng : ¬ (Value.slice as0 s.2.2.length cs0).ownBlock = some gf := own_blk_ne HS2.out.s0 HF2.out (by decide)
       have c0 := ocel (S := fun b => (Value.slice as0 s.2.2.length cs0).ownBlock = some b) d0 HX2.out.lt nx
       have c2 := ocel (S := fun b => (Value.slice as0 s.2.2.length cs0).ownBlock = some b) d2 HX2.out.lt nx
       have cg := ocel (S := fun b => (Value.slice as0 s.2.2.length cs0).ownBlock = some b) q1 HF2.out.lt ng
       clear d0 d1 d2 q0 q1 q2 q3 q4 nx
       refine wp_region_lexC (by kernel_rfl) (by kernel_rfl) (fun x => Only (fun b => (Value.slice as0 s.2.2.length cs0).ownBlock = some b) W2 x) ((Only.refl _ _).drew) (fun lexNE => ?_)
       (repeat (first | (refine lex_r fun K hK => ?_; go_big_quiet_op; refine hK _ ?_; clear hK K) | (refine lex_k fun K hK => ?_; go_simp; refine hK _ ?_; clear hK K)))
       (refine lex_e fun K hK => ?_; go_big_op)
       refine hK _ _ (Cls.mk' (((Only.refl _ _).drew).alloc _)) ?_
       clear hK K
       have HO2 := Lib.hid (own_below HS2.out.s0 (Below.refl W2.heap.size W2).drew (Nat.le_refl _))
       refine lex_e fun K hK => ?_
       refine wp_append_any _ _ _ 26 (by rfl) (lo) 73 i0 (.agg #[.int .i64 0, .int .i64 0, .int .i64 0]) 3 24 Try.underlying26 hi hz0 hz1 hz2 rfl (by decide) _ _ _ (by rfl) (HO2.out.alloc _) _ _ 1 1 _ (by rfl) (reads_new _ _ 1 3 rfl) (by intro u hu; simp at hu; first | (subst hu; rfl) | (rcases hu with rfl | rfl <;> rfl) | (rcases hu with rfl | rfl | rfl <;> rfl)) (by unfold maxLen; omega) (by omega) (by (try simp) <;> (try omega)) ?_
       intro v8 w8 hown8 hgrow8 hblk8
       go_simp
       refine hK _ _ (Cls.mk' (Only.grown2 (((Only.refl (fun b => (Value.slice as0 s.2.2.length cs0).ownBlock = some b) W2).drew).alloc _) hgrow8 (fun g hg => .inl hg))) ?_
       clear hK K
       obtain ⟨A8, c8, rfl, _, _, _⟩ := own_form hown8
       have HS8 := Lib.hid ((HS2.out.drew.alloc _).pushS (x := (x0, param, x2)) hown8 hgrow8)
       have HF8 := Lib.hid (((HF2.out.drew).alloc _).grown hgrow8 (fun e => ng e.symm))
       have K8 := Lib.hid ((((ChP.refl lo flT noP W2).drew).alloc _).row (own_below HO2.out ((Below.refl _ _).alloc (Nat.le_refl _) _) (Nat.le_refl _)) (Nat.le_refl _) flT_sig hgrow8)
       clear hown8 hgrow8 hblk8
       (repeat (first | (refine lex_r fun K hK => ?_; go_big_quiet_op; refine hK _ ?_; clear hK K) | (refine lex_k fun K hK => ?_; go_simp; refine hK _ ?_; clear hK K)))
       have e1 := HF8.out.cell 1
       have f1 := HF8.out.frozen 1
       simp only [List.getElem?_toArray, List.getElem?_cons_zero, List.getElem?_cons_succ] at e1
       (refine lex_l fun K hK => ?_; go_big_op)
       (refine hK _ _ ?_; clear hK K)
       clear lexNE c0 c2 cg e1 f1 ng
       obtain ⟨wf, hwf⟩ : ∃ wf, wf = (w8.setCell ⟨gf, 1, none⟩ (.slice A8 (s.2.2.length + 1) c8)) := ⟨_, rfl⟩
       have HFf := Lib.hid (show FB wf gf (some ad) n c (.slice A8 (s.2.2.length + 1) c8) v1 v3 by rw [hwf]; exact HF8.out.set_ 1 _)
       have HSf := Lib.hid (show FlS wf lo (.slice A8 (s.2.2.length + 1) c8) v1 v3 (s.2.2 ++ [(x0, param, x2)]) f.2.1 f.2.2 by rw [hwf]; exact fl_set HS8.out HF8.out _ _)
       have Kf := Lib.hid (show ChP lo flT noP W2 wf by rw [hwf]; exact K8.out.setT (p := ⟨gf, 1, none⟩) HF8.out.of flT_fl hgf _)
       have HPf := Lib.hid (Kf.out.own HP2.out (by decide) (fun _ _ h => h))
       rw [← hwf]
       clear hwf
       go_wp2_with fail
       go_roundw
       case rel => exact ⟨j + 1, (s.1 ++ [(s.2.2.length : Int)], s.2.1, s.2.2 ++ [(x0, param, x2)]), _, by omega, by go_num, rfl, Lib.hid (by rw [foldlM_take Hx.out, Hst.out]; exact HG.out), HPf.out, HFf.out, HSf.out, HC2.out.trans' Kf.out (fun _ h _ => h.elim)⟩
       case measure => simp [intOf]; omega
     | true =>
      have hnx := hso.nxt
      rw [if_pos (by rfl)] at hnx
      have hlj : (idxL isPort m.1)[s.2.1]? = some (j : Int) := by rw [hnx]; exact idxL_at Hx.out hip
      have hln : s.2.1 < nl := by rw [← hnl]; exact (List.getElem?_eq_some_iff.1 hlj).1
      have HOr := Lib.hid (own_below (Hch.out.own HOl.out (by decide) (fun g hg hc => by have := (HOl.out.lt g hg).1; omega)) HW1.out (Nat.le_refl _))
      obtain ⟨gl, hgl⟩ : ∃ gl, Al = some ⟨gl, 0, none⟩ := by
       obtain ⟨_, _, hv, _, _, h2⟩ := own_form HOl.out
       injection hv with hA
       obtain ⟨g, h3, _⟩ := h2 (by omega)
       exact ⟨g, hA.trans h3⟩
      subst hgl
      have hl0 := own_at HOr.out hlj
      have g9 : (s.2.1 : Int) < (nl : Int) := by omega
      clear hnx hlj
      have hpx : s.2.1 < ports.length := by
       have h1 := hso.nxt
       rw [if_pos (by rfl)] at h1
       rw [h1, hpl rfl]
       exact (List.getElem?_eq_some_iff.1 (idxL_at Hx.out hip)).1
      obtain ⟨pn, hpn⟩ : ∃ pn : Nat, ports[s.2.1]? = some (pn : Int) ∧ pn < s.2.2.length := by
       have h1 := hpb _ (List.getElem_mem hpx)
       have h2 := hso.lo
       exact ⟨(ports[s.2.1]).toNat, by rw [List.getElem?_eq_getElem hpx]; congr 1; omega, by omega⟩
      obtain ⟨hpn, hpn2⟩ := hpn
      have hpd : ports.getD s.2.1 0 = (pn : Int) := by simp [List.getD, hpn]
      have hnp : ports.length = np := by have h1 := Hpo.out.1; rw [ints_len] at h1; omega
      have Hpr := Lib.hid (own_below (Hch.out.own Hpo3.out (by decide) (fun g hg hc => by have := (Hpo.out.lt g hg).2; omega)) HW1.out (Nat.le_refl _))
      obtain ⟨gq, hgq⟩ : ∃ gq, Ap = some ⟨gq, 0, none⟩ := by
       obtain ⟨_, _, hv, _, _, h2⟩ := own_form Hpo.out
       injection hv with hA
       obtain ⟨g, h3, _⟩ := h2 (by omega)
       exact ⟨g, hA.trans h3⟩
      subst hgq
      have hq0 := own_at Hpr.out hpn
      have g5 : (0 : Int) ≤ (s.2.1 : Int) := by omega
      have g6 : (s.2.1 : Int) < (np : Int) := by omega
      have g7 : (0 : Int) ≤ (pn : Int) := by omega
      have g8 : (pn : Int) < (s.2.2.length : Int) := by omega
      have HP1 := Lib.hid (own_below HPl.out HW1.out (Nat.le_refl _))
      have HF1 := Lib.hid (HFr.out.below HW1.out HFr.out.lt)
      have HS1 := Lib.hid (HSr.out.below HW1.out)
      have hpc := own_at HP1.out (rep_at hsl hlt)
      have fz := HP1.out.frozenAt j
      have yg1 := HF1.out.cell 1
      simp only [List.getElem?_toArray, List.getElem?_cons_zero, List.getElem?_cons_succ] at yg1
      go_upto_region 14 with fail
      obtain ⟨W2, hW2⟩ : ∃ W2, W2 = W1.setCell ⟨gp, j, none⟩ (.int .i64 ((pn : Int))) := ⟨_, rfl⟩
      have HP2 := Lib.hid (show W2.ownsRow gp 3 1 (.slice (some ⟨gp, 0, none⟩) n0 n0) n0 (ints ((s.1 ++ [(pn : Int)]) ++ List.replicate (n0 - (j + 1)) 0)) by rw [hW2, ← rep_set hsl hlt]; exact own_put HP1.out j _)
      have HF2 := Lib.hid (show FB W2 gf (some ad) n c (.slice as0 s.2.2.length cs0) v1 v3 by rw [hW2]; exact HF1.out.far (by show gf ≠ gp; omega) _)
      have HS2 := Lib.hid (show FlS W2 lo (.slice as0 s.2.2.length cs0) v1 v3 s.2.2 f.2.1 f.2.2 by rw [hW2]; exact fl_int HS1.out (own_of HP1.out rfl) _ _)
      have HX2 := Lib.hid (show Blk W2 wr.heap.size 73 #[.int .i64 x0, .int .i64 (0), .int .i64 x2] by rw [hW2]; exact HX1.out.far (by show wr.heap.size ≠ gp; omega) _)
      have HC2 := Lib.hid (show ChP lo flT (fun b => b = gp) w3 W2 by rw [hW2]; exact (Hch.out.bel HW1.out).setP (p := ⟨gp, j, none⟩) rfl _)
      have zW2 : W1.heap.size ≤ W2.heap.size := by rw [hW2]; simp [World.setCell]
      rw [← hW2]
      clear hW2 hpc fz yg1 hq0 hl0
      obtain ⟨y0, y1, y2, y3, y4⟩ := blkS5 HF2.out
      have hp2 := own_at HP2.out (k := j) (x := (pn : Int)) (by rw [List.getElem?_append_left (by simp [hsl]), List.getElem?_append_right (by omega), hsl, Nat.sub_self]; rfl)
      obtain ⟨⟨z0, z1, z2⟩, hz⟩ : ∃ z, s.2.2[pn]? = some z := ⟨_, List.getElem?_eq_getElem hpn2⟩
      have Hz := Lib.hid hz
      obtain ⟨adz, zz, hadz, _, hzz, hzc⟩ := Reads.rec_at eSg_len (by decide) (Reads.of_own HS2.out.s0) hpn2
      obtain rfl : (z0, z1, z2) = zz := Option.some.inj (hz.symm.trans hzz)
      subst hadz
      have hz1c := hzc 1 z1 rfl
      rw [← nxt_add _ _ (by decide)] at hz1c
      have HWz := Lib.hid (show (s.2.2.getD (ports.getD s.2.1 0).toNat (0, 0, 0)).2.1 = z1 by rw [hpd, Int.toNat_natCast]; simp [List.getD, hz])
      have HGx := Lib.hid (show sgF (!false) param ports s (x0, 0, x2) = (if z1 = param then some (s.1 ++ [(pn : Int)], s.2.1 + 1, s.2.2) else none) by
       unfold sgF
       rw [if_pos (by simp [hip]), HWz.out, Hwd.out, hpd])
      clear hz hzz hzc hpn hpd
      by_cases hzw : z1 = param
      ·have HG := Lib.hid (show sgF (!false) param ports s (x0, 0, x2) = some (s.1 ++ [(pn : Int)], s.2.1 + 1, s.2.2) by rw [HGx.out, if_pos hzw])
       have hzb : (z1 != param) = false := by simp [hzw]
       clear hzw
       refine wp_region_lex (by kernel_rfl) (by kernel_rfl) (Cls (fun x => x = W2.drew)) (Cls.mk' rfl) ?_
       have lexNE : Nonempty (Wd (fun x => x = W2.drew)) := ⟨⟨_, rfl⟩⟩
       have lexW : ∀ W : Wd (fun x => x = W2.drew), W.val = W2.drew := fun W => W.ok
       (repeat (first | (refine lex_r fun K hK => ?_; go_big_quiet_op; refine hK _ ?_; clear hK K) | (refine lex_k fun K hK => ?_; go_simp; refine hK _ ?_; clear hK K)))
       (refine lex_nil ?_)
       clear lexNE lexW y0 y1 y2 y3 y4 hp2 hz1c
       go_wp2_with fail
       go_roundw
       case rel => exact ⟨j + 1, (s.1 ++ [(pn : Int)], s.2.1 + 1, s.2.2), _, by omega, by go_num, by go_num, Lib.hid (by rw [foldlM_take Hx.out, Hst.out]; exact HG.out), own_drew HP2.out, HF2.out.drew, HS2.out.drew, HC2.out.drew⟩
       case measure => simp [intOf]; omega
      ·have HG := Lib.hid (show sgF (!false) param ports s (x0, 0, x2) = none by rw [HGx.out, if_neg hzw])
       have hzb : (z1 != param) = true := by simp [hzw]
       have HN := Lib.hid (show addF d (fu + 1) k param ports true f = none from addF_none1 (copied := !false) Hmd.out (j := j + 1) (by rw [foldlM_take Hx.out, Hst.out]; exact HG.out))
       clear hzw
       refine wp_region_lex (by kernel_rfl) (by kernel_rfl) (Cls (fun x => x = W2.drew)) (Cls.mk' rfl) ?_
       have lexNE : Nonempty (Wd (fun x => x = W2.drew)) := ⟨⟨_, rfl⟩⟩
       have lexW : ∀ W : Wd (fun x => x = W2.drew), W.val = W2.drew := fun W => W.ok
       (repeat (first | (refine lex_r fun K hK => ?_; go_big_quiet_op; refine hK _ ?_; clear hK K) | (refine lex_k fun K hK => ?_; go_simp; refine hK _ ?_; clear hK K)))
       (refine lex_nil ?_)
       clear lexNE lexW y0 y1 y2 y3 y4 hp2 hz1c
       go_wp2_with fail
       go_ret
       unfold AddQ
       rw [HN.out]
       exact ⟨((ChP.of_below lo flT noP HB3.out).trans' HC2.out (fun b hb hl => by omega)).drew, rfl⟩
   ·have hw' : (x1 == 0) = false := by simpa using hw
    have Hwd := Lib.hid (show wdF param x1 = x1 from (if_neg hw))
    cases top with
    | true =>
     have HG := Lib.hid (show sgF (!true) param ports s (x0, x1, x2) = some (s.1 ++ [(s.2.2.length : Int)], s.2.1, s.2.2 ++ [(x0, x1, x2)]) by unfold sgF; rw [if_neg (by simp), Hwd.out])
     obtain ⟨i0, hi, hz0, hz1, hz2⟩ := info_parts Try.infSignalC
     have HP1 := Lib.hid (own_below HPl.out HW1.out (Nat.le_refl _))
     have HF1 := Lib.hid (HFr.out.below HW1.out HFr.out.lt)
     have HS1 := Lib.hid (HSr.out.below HW1.out)
     have hpc := own_at HP1.out (rep_at hsl hlt)
     have fz := HP1.out.frozenAt j
     have yg1 := HF1.out.cell 1
     simp only [List.getElem?_toArray, List.getElem?_cons_zero, List.getElem?_cons_succ] at yg1
     go_upto_region 17 with fail
     obtain ⟨W2, hW2⟩ : ∃ W2, W2 = W1.setCell ⟨gp, j, none⟩ (.int .i64 (((s.2.2.length : Nat) : Int))) := ⟨_, rfl⟩
     have HP2 := Lib.hid (show W2.ownsRow gp 3 1 (.slice (some ⟨gp, 0, none⟩) n0 n0) n0 (ints ((s.1 ++ [((s.2.2.length : Nat) : Int)]) ++ List.replicate (n0 - (j + 1)) 0)) by rw [hW2, ← rep_set hsl hlt]; exact own_put HP1.out j _)
     have HF2 := Lib.hid (show FB W2 gf (some ad) n c (.slice as0 s.2.2.length cs0) v1 v3 by rw [hW2]; exact HF1.out.far (by show gf ≠ gp; omega) _)
     have HS2 := Lib.hid (show FlS W2 lo (.slice as0 s.2.2.length cs0) v1 v3 s.2.2 f.2.1 f.2.2 by rw [hW2]; exact fl_int HS1.out (own_of HP1.out rfl) _ _)
     have HX2 := Lib.hid (show Blk W2 wr.heap.size 73 #[.int .i64 x0, .int .i64 (x1), .int .i64 x2] by rw [hW2]; exact HX1.out.far (by show wr.heap.size ≠ gp; omega) _)
     have HC2 := Lib.hid (show ChP lo flT (fun b => b = gp) w3 W2 by rw [hW2]; exact (Hch.out.bel HW1.out).setP (p := ⟨gp, j, none⟩) rfl _)
     have zW2 : W1.heap.size ≤ W2.heap.size := by rw [hW2]; simp [World.setCell]
     rw [← hW2]
     clear hW2 hpc fz yg1
     have gb := HF2.out.lt
     have hsz0 := hso.hi
     rw [List.length_take] at hsz0
     have hfz := hsz.l0
     obtain ⟨d0, d1, d2⟩ := blkS3 HX2.out
     obtain ⟨q0, q1, q2, q3, q4⟩ := blkS5 HF2.out
     have nx : ¬ (Value.slice as0 s.2.2.length cs0).ownBlock = some wr.heap.size := fun h1 => by have := (HSr.out.s0.lt _ h1).2; omega
     have ng : ¬ (Value.slice as0 s.2.2.length cs0).ownBlock = some gf := own_blk_ne HS2.out.s0 HF2.out (by decide)
     have c0 := ocel (S := fun b => (Value.slice as0 s.2.2.length cs0).ownBlock = some b) d0 HX2.out.lt nx
     have c2 := ocel (S := fun b => (Value.slice as0 s.2.2.length cs0).ownBlock = some b) d2 HX2.out.lt nx
     have cg := ocel (S := fun b => (Value.slice as0 s.2.2.length cs0).ownBlock = some b) q1 HF2.out.lt ng
     clear d0 d1 d2 q0 q1 q2 q3 q4 nx
     refine wp_region_lexC (by kernel_rfl) (by kernel_rfl) (fun x => Only (fun b => (Value.slice as0 s.2.2.length cs0).ownBlock = some b) W2 x) ((Only.refl _ _).drew) (fun lexNE => ?_)
     (repeat (first | (refine lex_r fun K hK => ?_; go_big_quiet_op; refine hK _ ?_; clear hK K) | (refine lex_k fun K hK => ?_; go_simp; refine hK _ ?_; clear hK K)))
     (refine lex_e fun K hK => ?_; go_big_op)
     refine hK _ _ (Cls.mk' (((Only.refl _ _).drew).alloc _)) ?_
     clear hK K
     have HO2 := Lib.hid (own_below HS2.out.s0 (Below.refl W2.heap.size W2).drew (Nat.le_refl _))
     refine lex_e fun K hK => ?_
     refine wp_append_any _ _ _ 26 (by rfl) (lo) 73 i0 (.agg #[.int .i64 0, .int .i64 0, .int .i64 0]) 3 24 Try.underlying26 hi hz0 hz1 hz2 rfl (by decide) _ _ _ (by rfl) (HO2.out.alloc _) _ _ 1 1 _ (by rfl) (reads_new _ _ 1 3 rfl) (by intro u hu; simp at hu; first | (subst hu; rfl) | (rcases hu with rfl | rfl <;> rfl) | (rcases hu with rfl | rfl | rfl <;> rfl)) (by unfold maxLen; omega) (by omega) (by (try simp) <;> (try omega)) ?_
     intro v8 w8 hown8 hgrow8 hblk8
     go_simp
     refine hK _ _ (Cls.mk' (Only.grown2 (((Only.refl (fun b => (Value.slice as0 s.2.2.length cs0).ownBlock = some b) W2).drew).alloc _) hgrow8 (fun g hg => .inl hg))) ?_
     clear hK K
     obtain ⟨A8, c8, rfl, _, _, _⟩ := own_form hown8
     have HS8 := Lib.hid ((HS2.out.drew.alloc _).pushS (x := (x0, x1, x2)) hown8 hgrow8)
     have HF8 := Lib.hid (((HF2.out.drew).alloc _).grown hgrow8 (fun e => ng e.symm))
     have K8 := Lib.hid ((((ChP.refl lo flT noP W2).drew).alloc _).row (own_below HO2.out ((Below.refl _ _).alloc (Nat.le_refl _) _) (Nat.le_refl _)) (Nat.le_refl _) flT_sig hgrow8)
     clear hown8 hgrow8 hblk8
     (repeat (first | (refine lex_r fun K hK => ?_; go_big_quiet_op; refine hK _ ?_; clear hK K) | (refine lex_k fun K hK => ?_; go_simp; refine hK _ ?_; clear hK K)))
     have e1 := HF8.out.cell 1
     have f1 := HF8.out.frozen 1
     simp only [List.getElem?_toArray, List.getElem?_cons_zero, List.getElem?_cons_succ] at e1
     (refine lex_l fun K hK => ?_; go_big_op)
     (refine hK _ _ ?_; clear hK K)
     clear lexNE c0 c2 cg e1 f1 ng
     obtain ⟨wf, hwf⟩ : ∃ wf, wf = (w8.setCell ⟨gf, 1, none⟩ (.slice A8 (s.2.2.length + 1) c8)) := ⟨_, rfl⟩
     have HFf := Lib.hid (show FB wf gf (some ad) n c (.slice A8 (s.2.2.length + 1) c8) v1 v3 by rw [hwf]; exact HF8.out.set_ 1 _)
     have HSf := Lib.hid (show FlS wf lo (.slice A8 (s.2.2.length + 1) c8) v1 v3 (s.2.2 ++ [(x0, x1, x2)]) f.2.1 f.2.2 by rw [hwf]; exact fl_set HS8.out HF8.out _ _)
     have Kf := Lib.hid (show ChP lo flT noP W2 wf by rw [hwf]; exact K8.out.setT (p := ⟨gf, 1, none⟩) HF8.out.of flT_fl hgf _)
     have HPf := Lib.hid (Kf.out.own HP2.out (by decide) (fun _ _ h => h))
     rw [← hwf]
     clear hwf
     go_wp2_with fail
     go_roundw
     case rel => exact ⟨j + 1, (s.1 ++ [(s.2.2.length : Int)], s.2.1, s.2.2 ++ [(x0, x1, x2)]), _, by omega, by go_num, rfl, Lib.hid (by rw [foldlM_take Hx.out, Hst.out]; exact HG.out), HPf.out, HFf.out, HSf.out, HC2.out.trans' Kf.out (fun _ h _ => h.elim)⟩
     case measure => simp [intOf]; omega
    | false =>
     cases hip : isPort (x0, x1, x2) with
     | false =>
      have HG := Lib.hid (show sgF (!false) param ports s (x0, x1, x2) = some (s.1 ++ [(s.2.2.length : Int)], s.2.1, s.2.2 ++ [(x0, x1, x2)]) by unfold sgF; rw [if_neg (by simp [hip]), Hwd.out])
      have hnx := hso.nxt
      rw [if_pos (by rfl)] at hnx
      have Hnx := Lib.hid hnx
      clear hnx
      have HOr := Lib.hid (own_below (Hch.out.own HOl.out (by decide) (fun g hg hc => by have := (HOl.out.lt g hg).1; omega)) HW1.out (Nat.le_refl _))
      have g5 : (0 : Int) ≤ (s.2.1 : Int) := by omega
      by_cases hnn : s.2.1 < nl
      ·obtain ⟨v, hv⟩ : ∃ v, (idxL isPort m.1)[s.2.1]? = some v := ⟨_, List.getElem?_eq_getElem (by omega)⟩
       have hvj : (v == (j : Int)) = false := by simpa using idxL_not Hx.out hip (by rw [← Hnx.out]; exact hv)
       obtain ⟨gq, hgq⟩ : ∃ gq, Al = some ⟨gq, 0, none⟩ := by
        obtain ⟨_, _, hv, _, _, h2⟩ := own_form HOl.out
        injection hv with hA
        obtain ⟨g, h3, _⟩ := h2 (by omega)
        exact ⟨g, hA.trans h3⟩
       subst hgq
       have hq0 := own_at HOr.out hv
       have g6 : (s.2.1 : Int) < (nl : Int) := by omega
       clear hv
       obtain ⟨i0, hi, hz0, hz1, hz2⟩ := info_parts Try.infSignalC
       have HP1 := Lib.hid (own_below HPl.out HW1.out (Nat.le_refl _))
       have HF1 := Lib.hid (HFr.out.below HW1.out HFr.out.lt)
       have HS1 := Lib.hid (HSr.out.below HW1.out)
       have hpc := own_at HP1.out (rep_at hsl hlt)
       have fz := HP1.out.frozenAt j
       have yg1 := HF1.out.cell 1
       simp only [List.getElem?_toArray, List.getElem?_cons_zero, List.getElem?_cons_succ] at yg1
       go_upto_region 17 with fail
       obtain ⟨W2, hW2⟩ : ∃ W2, W2 = W1.setCell ⟨gp, j, none⟩ (.int .i64 (((s.2.2.length : Nat) : Int))) := ⟨_, rfl⟩
       have HP2 := Lib.hid (show W2.ownsRow gp 3 1 (.slice (some ⟨gp, 0, none⟩) n0 n0) n0 (ints ((s.1 ++ [((s.2.2.length : Nat) : Int)]) ++ List.replicate (n0 - (j + 1)) 0)) by rw [hW2, ← rep_set hsl hlt]; exact own_put HP1.out j _)
       have HF2 := Lib.hid (show FB W2 gf (some ad) n c (.slice as0 s.2.2.length cs0) v1 v3 by rw [hW2]; exact HF1.out.far (by show gf ≠ gp; omega) _)
       have HS2 := Lib.hid (show FlS W2 lo (.slice as0 s.2.2.length cs0) v1 v3 s.2.2 f.2.1 f.2.2 by rw [hW2]; exact fl_int HS1.out (own_of HP1.out rfl) _ _)
       have HX2 := Lib.hid (show Blk W2 wr.heap.size 73 #[.int .i64 x0, .int .i64 (x1), .int .i64 x2] by rw [hW2]; exact HX1.out.far (by show wr.heap.size ≠ gp; omega) _)
       have HC2 := Lib.hid (show ChP lo flT (fun b => b = gp) w3 W2 by rw [hW2]; exact (Hch.out.bel HW1.out).setP (p := ⟨gp, j, none⟩) rfl _)
       have zW2 : W1.heap.size ≤ W2.heap.size := by rw [hW2]; simp [World.setCell]
       rw [← hW2]
       clear hW2 hpc fz yg1
       have gb := HF2.out.lt
       have hsz0 := hso.hi
       rw [List.length_take] at hsz0
       have hfz := hsz.l0
       obtain ⟨d0, d1, d2⟩ := blkS3 HX2.out
       obtain ⟨q0, q1, q2, q3, q4⟩ := blkS5 HF2.out
       have nx : ¬ (Value.slice as0 s.2.2.length cs0).ownBlock = some wr.heap.size := fun h1 => by have := (HSr.out.s0.lt _ h1).2; omega
       have ng : ¬ (Value.slice as0 s.2.2.length cs0).ownBlock = some gf := own_blk_ne HS2.out.s0 HF2.out (by decide)
       have c0 := ocel (S := fun b => (Value.slice as0 s.2.2.length cs0).ownBlock = some b) d0 HX2.out.lt nx
       have c2 := ocel (S := fun b => (Value.slice as0 s.2.2.length cs0).ownBlock = some b) d2 HX2.out.lt nx
       have cg := ocel (S := fun b => (Value.slice as0 s.2.2.length cs0).ownBlock = some b) q1 HF2.out.lt ng
       clear d0 d1 d2 q0 q1 q2 q3 q4 nx
       refine wp_region_lexC (by kernel_rfl) (by kernel_rfl) (fun x => Only (fun b => (Value.slice as0 s.2.2.length cs0).ownBlock = some b) W2 x) ((Only.refl _ _).drew) (fun lexNE => ?_)
       (repeat (first | (refine lex_r fun K hK => ?_; go_big_quiet_op; refine hK _ ?_; clear hK K) | (refine lex_k fun K hK => ?_; go_simp; refine hK _ ?_; clear hK K)))
       (refine lex_e fun K hK => ?_; go_big_op)
       refine hK _ _ (Cls.mk' (((Only.refl _ _).drew).alloc _)) ?_
       clear hK K
       have HO2 := Lib.hid (own_below HS2.out.s0 (Below.refl W2.heap.size W2).drew (Nat.le_refl _))
       refine lex_e fun K hK => ?_
       refine wp_append_any _ _ _ 26 (by rfl) (lo) 73 i0 (.agg #[.int .i64 0, .int .i64 0, .int .i64 0]) 3 24 Try.underlying26 hi hz0 hz1 hz2 rfl (by decide) _ _ _ (by rfl) (HO2.out.alloc _) _ _ 1 1 _ (by rfl) (reads_new _ _ 1 3 rfl) (by intro u hu; simp at hu; first | (subst hu; rfl) | (rcases hu with rfl | rfl <;> rfl) | (rcases hu with rfl | rfl | rfl <;> rfl)) (by unfold maxLen; omega) (by omega) (by (try simp) <;> (try omega)) ?_
       intro v8 w8 hown8 hgrow8 hblk8
       go_simp
       refine hK _ _ (Cls.mk' (Only.grown2 (((Only.refl (fun b => (Value.slice as0 s.2.2.length cs0).ownBlock = some b) W2).drew).alloc _) hgrow8 (fun g hg => .inl hg))) ?_
       clear hK K
       obtain ⟨A8, c8, rfl, _, _, _⟩ := own_form hown8
       have HS8 := Lib.hid ((HS2.out.drew.alloc _).pushS (x := (x0, x1, x2)) hown8 hgrow8)
       have HF8 := Lib.hid (((HF2.out.drew).alloc _).grown hgrow8 (fun e => ng e.symm))
       have K8 := Lib.hid ((((ChP.refl lo flT noP W2).drew).alloc _).row (own_below HO2.out ((Below.refl _ _).alloc (Nat.le_refl _) _) (Nat.le_refl _)) (Nat.le_refl _) flT_sig hgrow8)
       clear hown8 hgrow8 hblk8
       (repeat (first | (refine lex_r fun K hK => ?_; go_big_quiet_op; refine hK _ ?_; clear hK K) | (refine lex_k fun K hK => ?_; go_simp; refine hK _ ?_; clear hK K)))
       have e1 := HF8.out.cell 1
       have f1 := HF8.out.frozen 1
       simp only [List.getElem?_toArray, List.getElem?_cons_zero, List.getElem?_cons_succ] at e1
       (refine lex_l fun K hK => ?_; go_big_op)
       (refine hK _ _ ?_; clear hK K)
       clear lexNE c0 c2 cg e1 f1 ng
       obtain ⟨wf, hwf⟩ : ∃ wf, wf = (w8.setCell ⟨gf, 1, none⟩ (.slice A8 (s.2.2.length + 1) c8)) := ⟨_, rfl⟩
       have HFf := Lib.hid (show FB wf gf (some ad) n c (.slice A8 (s.2.2.length + 1) c8) v1 v3 by rw [hwf]; exact HF8.out.set_ 1 _)
       have HSf := Lib.hid (show FlS wf lo (.slice A8 (s.2.2.length + 1) c8) v1 v3 (s.2.2 ++ [(x0, x1, x2)]) f.2.1 f.2.2 by rw [hwf]; exact fl_set HS8.out HF8.out _ _)
       have Kf := Lib.hid (show ChP lo flT noP W2 wf by rw [hwf]; exact K8.out.setT (p := ⟨gf, 1, none⟩) HF8.out.of flT_fl hgf _)
       have HPf := Lib.hid (Kf.out.own HP2.out (by decide) (fun _ _ h => h))
       rw [← hwf]
       clear hwf
       go_wp2_with fail
       go_roundw
       case rel => exact ⟨j + 1, (s.1 ++ [(s.2.2.length : Int)], s.2.1, s.2.2 ++ [(x0, x1, x2)]), _, by omega, by go_num, rfl, Lib.hid (by rw [foldlM_take Hx.out, Hst.out]; exact HG.out), HPf.out, HFf.out, HSf.out, HC2.out.trans' Kf.out (fun _ h _ => h.elim)⟩
       case measure => simp [intOf]; omega
      ·have g6 : (nl : Int) ≤ (s.2.1 : Int) := by omega
       obtain ⟨i0, hi, hz0, hz1, hz2⟩ := info_parts Try.infSignalC
       have HP1 := Lib.hid (own_below HPl.out HW1.out (Nat.le_refl _))
       have HF1 := Lib.hid (HFr.out.below HW1.out HFr.out.lt)
       have HS1 := Lib.hid (HSr.out.below HW1.out)
       have hpc := own_at HP1.out (rep_at hsl hlt)
       have fz := HP1.out.frozenAt j
       have yg1 := HF1.out.cell 1
       simp only [List.getElem?_toArray, List.getElem?_cons_zero, List.getElem?_cons_succ] at yg1
       go_upto_region 17 with fail
       obtain ⟨W2, hW2⟩ : ∃ W2, W2 = W1.setCell ⟨gp, j, none⟩ (.int .i64 (((s.2.2.length : Nat) : Int))) := ⟨_, rfl⟩
       have HP2 := Lib.hid (show W2.ownsRow gp 3 1 (.slice (some ⟨gp, 0, none⟩) n0 n0) n0 (ints ((s.1 ++ [((s.2.2.length : Nat) : Int)]) ++ List.replicate (n0 - (j + 1)) 0)) by rw [hW2, ← rep_set hsl hlt]; exact own_put HP1.out j _)
       have HF2 := Lib.hid (show FB W2 gf (some ad) n c (.slice as0 s.2.2.length cs0) v1 v3 by rw [hW2]; exact HF1.out.far (by show gf ≠ gp; omega) _)
       have HS2 := Lib.hid (show FlS W2 lo (.slice as0 s.2.2.length cs0) v1 v3 s.2.2 f.2.1 f.2.2 by rw [hW2]; exact fl_int HS1.out (own_of HP1.out rfl) _ _)
       have HX2 := Lib.hid (show Blk W2 wr.heap.size 73 #[.int .i64 x0, .int .i64 (x1), .int .i64 x2] by rw [hW2]; exact HX1.out.far (by show wr.heap.size ≠ gp; omega) _)
       have HC2 := Lib.hid (show ChP lo flT (fun b => b = gp) w3 W2 by rw [hW2]; exact (Hch.out.bel HW1.out).setP (p := ⟨gp, j, none⟩) rfl _)
       have zW2 : W1.heap.size ≤ W2.heap.size := by rw [hW2]; simp [World.setCell]
       rw [← hW2]
       clear hW2 hpc fz yg1
       have gb := HF2.out.lt
       have hsz0 := hso.hi
       rw [List.length_take] at hsz0
       have hfz := hsz.l0
       obtain ⟨d0, d1, d2⟩ := blkS3 HX2.out
       obtain ⟨q0, q1, q2, q3, q4⟩ := blkS5 HF2.out
       have nx : ¬ (Value.slice as0 s.2.2.length cs0).ownBlock = some wr.heap.size := fun h1 => by have := (HSr.out.s0.lt _ h1).2; omega
       have ng : ¬ (Value.slice as0 s.2.2.length cs0).ownBlock = some gf := own_blk_ne HS2.out.s0 HF2.out (by decide)
       have c0 := ocel (S := fun b => (Value.slice as0 s.2.2.length cs0).ownBlock = some b) d0 HX2.out.lt nx
       have c2 := ocel (S := fun b => (Value.slice as0 s.2.2.length cs0).ownBlock = some b) d2 HX2.out.lt nx
       have cg := ocel (S := fun b => (Value.slice as0 s.2.2.length cs0).ownBlock = some b) q1 HF2.out.lt ng
       clear d0 d1 d2 q0 q1 q2 q3 q4 nx
       refine wp_region_lexC (by kernel_rfl) (by kernel_rfl) (fun x => Only (fun b => (Value.slice as0 s.2.2.length cs0).ownBlock = some b) W2 x) ((Only.refl _ _).drew) (fun lexNE => ?_)
       (repeat (first | (refine lex_r fun K hK => ?_; go_big_quiet_op; refine hK _ ?_; clear hK K) | (refine lex_k fun K hK => ?_; go_simp; refine hK _ ?_; clear hK K)))
       (refine lex_e fun K hK => ?_; go_big_op)
       refine hK _ _ (Cls.mk' (((Only.refl _ _).drew).alloc _)) ?_
       clear hK K
       have HO2 := Lib.hid (own_below HS2.out.s0 (Below.refl W2.heap.size W2).drew (Nat.le_refl _))
       refine lex_e fun K hK => ?_
       refine wp_append_any _ _ _ 26 (by rfl) (lo) 73 i0 (.agg #[.int .i64 0, .int .i64 0, .int .i64 0]) 3 24 Try.underlying26 hi hz0 hz1 hz2 rfl (by decide) _ _ _ (by rfl) (HO2.out.alloc _) _ _ 1 1 _ (by rfl) (reads_new _ _ 1 3 rfl) (by intro u hu; simp at hu; first | (subst hu; rfl) | (rcases hu with rfl | rfl <;> rfl) | (rcases hu with rfl | rfl | rfl <;> rfl)) (by unfold maxLen; omega) (by omega) (by (try simp) <;> (try omega)) ?_
       intro v8 w8 hown8 hgrow8 hblk8
       go_simp
       refine hK _ _ (Cls.mk' (Only.grown2 (((Only.refl (fun b => (Value.slice as0 s.2.2.length cs0).ownBlock = some b) W2).drew).alloc _) hgrow8 (fun g hg => .inl hg))) ?_
       clear hK K
       obtain ⟨A8, c8, rfl, _, _, _⟩ := own_form hown8
       have HS8 := Lib.hid ((HS2.out.drew.alloc _).pushS (x := (x0, x1, x2)) hown8 hgrow8)
       have HF8 := Lib.hid (((HF2.out.drew).alloc _).grown hgrow8 (fun e => ng e.symm))
       have K8 := Lib.hid ((((ChP.refl lo flT noP W2).drew).alloc _).row (own_below HO2.out ((Below.refl _ _).alloc (Nat.le_refl _) _) (Nat.le_refl _)) (Nat.le_refl _) flT_sig hgrow8)
       clear hown8 hgrow8 hblk8
       (repeat (first | (refine lex_r fun K hK => ?_; go_big_quiet_op; refine hK _ ?_; clear hK K) | (refine lex_k fun K hK => ?_; go_simp; refine hK _ ?_; clear hK K)))
       have e1 := HF8.out.cell 1
       have f1 := HF8.out.frozen 1
       simp only [List.getElem?_toArray, List.getElem?_cons_zero, List.getElem?_cons_succ] at e1
       (refine lex_l fun K hK => ?_; go_big_op)
       (refine hK _ _ ?_; clear hK K)
       clear lexNE c0 c2 cg e1 f1 ng
       obtain ⟨wf, hwf⟩ : ∃ wf, wf = (w8.setCell ⟨gf, 1, none⟩ (.slice A8 (s.2.2.length + 1) c8)) := ⟨_, rfl⟩
       have HFf := Lib.hid (show FB wf gf (some ad) n c (.slice A8 (s.2.2.length + 1) c8) v1 v3 by rw [hwf]; exact HF8.out.set_ 1 _)
       have HSf := Lib.hid (show FlS wf lo (.slice A8 (s.2.2.length + 1) c8) v1 v3 (s.2.2 ++ [(x0, x1, x2)]) f.2.1 f.2.2 by rw [hwf]; exact fl_set HS8.out HF8.out _ _)
       have Kf := Lib.hid (show ChP lo flT noP W2 wf by rw [hwf]; exact K8.out.setT (p := ⟨gf, 1, none⟩) HF8.out.of flT_fl hgf _)
       have HPf := Lib.hid (Kf.out.own HP2.out (by decide) (fun _ _ h => h))
       rw [← hwf]
       clear hwf
       go_wp2_with fail
       go_roundw
       case rel => exact ⟨j + 1, (s.1 ++ [(s.2.2.length : Int)], s.2.1, s.2.2 ++ [(x0, x1, x2)]), _, by omega, by go_num, rfl, Lib.hid (by rw [foldlM_take Hx.out, Hst.out]; exact HG.out), HPf.out, HFf.out, HSf.out, HC2.out.trans' Kf.out (fun _ h _ => h.elim)⟩
       case measure => simp [intOf]; omega
     | true =>
      have hnx := hso.nxt
      rw [if_pos (by rfl)] at hnx
      have hlj : (idxL isPort m.1)[s.2.1]? = some (j : Int) := by rw [hnx]; exact idxL_at Hx.out hip
      have hln : s.2.1 < nl := by rw [← hnl]; exact (List.getElem?_eq_some_iff.1 hlj).1
      have HOr := Lib.hid (own_below (Hch.out.own HOl.out (by decide) (fun g hg hc => by have := (HOl.out.lt g hg).1; omega)) HW1.out (Nat.le_refl _))
      obtain ⟨gl, hgl⟩ : ∃ gl, Al = some ⟨gl, 0, none⟩ := by
       obtain ⟨_, _, hv, _, _, h2⟩ := own_form HOl.out
       injection hv with hA
       obtain ⟨g, h3, _⟩ := h2 (by omega)
       exact ⟨g, hA.trans h3⟩
      subst hgl
      have hl0 := own_at HOr.out hlj
      have g9 : (s.2.1 : Int) < (nl : Int) := by omega
      clear hnx hlj
      have hpx : s.2.1 < ports.length := by
       have h1 := hso.nxt
       rw [if_pos (by rfl)] at h1
       rw [h1, hpl rfl]
       exact (List.getElem?_eq_some_iff.1 (idxL_at Hx.out hip)).1
      obtain ⟨pn, hpn⟩ : ∃ pn : Nat, ports[s.2.1]? = some (pn : Int) ∧ pn < s.2.2.length := by
       have h1 := hpb _ (List.getElem_mem hpx)
       have h2 := hso.lo
       exact ⟨(ports[s.2.1]).toNat, by rw [List.getElem?_eq_getElem hpx]; congr 1; omega, by omega⟩
      obtain ⟨hpn, hpn2⟩ := hpn
      have hpd : ports.getD s.2.1 0 = (pn : Int) := by simp [List.getD, hpn]
      have hnp : ports.length = np := by have h1 := Hpo.out.1; rw [ints_len] at h1; omega
      have Hpr := Lib.hid (own_below (Hch.out.own Hpo3.out (by decide) (fun g hg hc => by have := (Hpo.out.lt g hg).2; omega)) HW1.out (Nat.le_refl _))
      obtain ⟨gq, hgq⟩ : ∃ gq, Ap = some ⟨gq, 0, none⟩ := by
       obtain ⟨_, _, hv, _, _, h2⟩ := own_form Hpo.out
       injection hv with hA
       obtain ⟨g, h3, _⟩ := h2 (by omega)
       exact ⟨g, hA.trans h3⟩
      subst hgq
      have hq0 := own_at Hpr.out hpn
      have g5 : (0 : Int) ≤ (s.2.1 : Int) := by omega
      have g6 : (s.2.1 : Int) < (np : Int) := by omega
      have g7 : (0 : Int) ≤ (pn : Int) := by omega
      have g8 : (pn : Int) < (s.2.2.length : Int) := by omega
      have HP1 := Lib.hid (own_below HPl.out HW1.out (Nat.le_refl _))
      have HF1 := Lib.hid (HFr.out.below HW1.out HFr.out.lt)
      have HS1 := Lib.hid (HSr.out.below HW1.out)
      have hpc := own_at HP1.out (rep_at hsl hlt)
      have fz := HP1.out.frozenAt j
      have yg1 := HF1.out.cell 1
      simp only [List.getElem?_toArray, List.getElem?_cons_zero, List.getElem?_cons_succ] at yg1
      go_upto_region 14 with fail
      obtain ⟨W2, hW2⟩ : ∃ W2, W2 = W1.setCell ⟨gp, j, none⟩ (.int .i64 ((pn : Int))) := ⟨_, rfl⟩
      have HP2 := Lib.hid (show W2.ownsRow gp 3 1 (.slice (some ⟨gp, 0, none⟩) n0 n0) n0 (ints ((s.1 ++ [(pn : Int)]) ++ List.replicate (n0 - (j + 1)) 0)) by rw [hW2, ← rep_set hsl hlt]; exact own_put HP1.out j _)
      have HF2 := Lib.hid (show FB W2 gf (some ad) n c (.slice as0 s.2.2.length cs0) v1 v3 by rw [hW2]; exact HF1.out.far (by show gf ≠ gp; omega) _)
      have HS2 := Lib.hid (show FlS W2 lo (.slice as0 s.2.2.length cs0) v1 v3 s.2.2 f.2.1 f.2.2 by rw [hW2]; exact fl_int HS1.out (own_of HP1.out rfl) _ _)
      have HX2 := Lib.hid (show Blk W2 wr.heap.size 73 #[.int .i64 x0, .int .i64 (x1), .int .i64 x2] by rw [hW2]; exact HX1.out.far (by show wr.heap.size ≠ gp; omega) _)
      have HC2 := Lib.hid (show ChP lo flT (fun b => b = gp) w3 W2 by rw [hW2]; exact (Hch.out.bel HW1.out).setP (p := ⟨gp, j, none⟩) rfl _)
      have zW2 : W1.heap.size ≤ W2.heap.size := by rw [hW2]; simp [World.setCell]
      rw [← hW2]
      clear hW2 hpc fz yg1 hq0 hl0
      obtain ⟨y0, y1, y2, y3, y4⟩ := blkS5 HF2.out
      have hp2 := own_at HP2.out (k := j) (x := (pn : Int)) (by rw [List.getElem?_append_left (by simp [hsl]), List.getElem?_append_right (by omega), hsl, Nat.sub_self]; rfl)
      obtain ⟨⟨z0, z1, z2⟩, hz⟩ : ∃ z, s.2.2[pn]? = some z := ⟨_, List.getElem?_eq_getElem hpn2⟩
      have Hz := Lib.hid hz
      obtain ⟨adz, zz, hadz, _, hzz, hzc⟩ := Reads.rec_at eSg_len (by decide) (Reads.of_own HS2.out.s0) hpn2
      obtain rfl : (z0, z1, z2) = zz := Option.some.inj (hz.symm.trans hzz)
      subst hadz
      have hz1c := hzc 1 z1 rfl
      rw [← nxt_add _ _ (by decide)] at hz1c
      have HWz := Lib.hid (show (s.2.2.getD (ports.getD s.2.1 0).toNat (0, 0, 0)).2.1 = z1 by rw [hpd, Int.toNat_natCast]; simp [List.getD, hz])
      have HGx := Lib.hid (show sgF (!false) param ports s (x0, x1, x2) = (if z1 = x1 then some (s.1 ++ [(pn : Int)], s.2.1 + 1, s.2.2) else none) by
       unfold sgF
       rw [if_pos (by simp [hip]), HWz.out, Hwd.out, hpd])
      clear hz hzz hzc hpn hpd
      by_cases hzw : z1 = x1
      ·have HG := Lib.hid (show sgF (!false) param ports s (x0, x1, x2) = some (s.1 ++ [(pn : Int)], s.2.1 + 1, s.2.2) by rw [HGx.out, if_pos hzw])
       have hzb : (z1 != x1) = false := by simp [hzw]
       clear hzw
       refine wp_region_lex (by kernel_rfl) (by kernel_rfl) (Cls (fun x => x = W2.drew)) (Cls.mk' rfl) ?_
       have lexNE : Nonempty (Wd (fun x => x = W2.drew)) := ⟨⟨_, rfl⟩⟩
       have lexW : ∀ W : Wd (fun x => x = W2.drew), W.val = W2.drew := fun W => W.ok
       (repeat (first | (refine lex_r fun K hK => ?_; go_big_quiet_op; refine hK _ ?_; clear hK K) | (refine lex_k fun K hK => ?_; go_simp; refine hK _ ?_; clear hK K)))
       (refine lex_nil ?_)
       clear lexNE lexW y0 y1 y2 y3 y4 hp2 hz1c
       go_wp2_with fail
       go_roundw
       case rel => exact ⟨j + 1, (s.1 ++ [(pn : Int)], s.2.1 + 1, s.2.2), _, by omega, by go_num, by go_num, Lib.hid (by rw [foldlM_take Hx.out, Hst.out]; exact HG.out), own_drew HP2.out, HF2.out.drew, HS2.out.drew, HC2.out.drew⟩
       case measure => simp [intOf]; omega
      ·have HG := Lib.hid (show sgF (!false) param ports s (x0, x1, x2) = none by rw [HGx.out, if_neg hzw])
       have hzb : (z1 != x1) = true := by simp [hzw]
       have HN := Lib.hid (show addF d (fu + 1) k param ports true f = none from addF_none1 (copied := !false) Hmd.out (j := j + 1) (by rw [foldlM_take Hx.out, Hst.out]; exact HG.out))
       clear hzw
       refine wp_region_lex (by kernel_rfl) (by kernel_rfl) (Cls (fun x => x = W2.drew)) (Cls.mk' rfl) ?_
       have lexNE : Nonempty (Wd (fun x => x = W2.drew)) := ⟨⟨_, rfl⟩⟩
       have lexW : ∀ W : Wd (fun x => x = W2.drew), W.val = W2.drew := fun W => W.ok
       (repeat (first | (refine lex_r fun K hK => ?_; go_big_quiet_op; refine hK _ ?_; clear hK K) | (refine lex_k fun K hK => ?_; go_simp; refine hK _ ?_; clear hK K)))
       (refine lex_nil ?_)
       clear lexNE lexW y0 y1 y2 y3 y4 hp2 hz1c
       go_wp2_with fail
       go_ret
       unfold AddQ
       rw [HN.out]
       exact ⟨((ChP.of_below lo flT noP HB3.out).trans' HC2.out (fun b hb hl => by omega)).drew, rfl⟩
  ·have hjn : j = n0 := by omega
   have hge : (n0 : Int) ≤ (j : Int) := by omega
   have HST := Lib.hid (show m.1.foldlM (sgF (!top) param ports) ([], 0, f.1) = some s by have h1 := Hst.out; rw [List.take_of_length_le (by have := Hn.out; omega)] at h1; exact h1)
   have HSO := Lib.hid (show SgOk (!top) m.1 f.1 s by rw [List.take_of_length_le (by have := Hn.out; omega)] at hso; exact hso)
   obtain ⟨wo, hwo⟩ : ∃ wo, wo = wr := ⟨_, rfl⟩
   subst hwo
   have HPo := Lib.hid (show wo.ownsRow gp 3 1 (.slice (some ⟨gp, 0, none⟩) n0 n0) n0 (ints s.1) by have h1 := HPl.out; rw [hjn, Nat.sub_self] at h1; simpa using h1)
   have HXo := Lib.hid HXr.out
   have HBo := Lib.hid HBw.out
   have HCo := Lib.hid (show ChP lo flT noP w wo from (ChP.of_below lo flT noP HB3.out).trans' Hch.out (fun b hb hl => by omega))
   have hsl0 : s.1.length = n0 := by omega
   have hwz : w.heap.size ≤ wo.heap.size := HCo.out.size
   have hsh : s.2.2.length ≤ 60 := by have h1 := HSO.out.hi; have h2 := hsz.l0; have h3 := MO.n0; omega
   have hgpo : gp < wo.heap.size := by omega
   have hgfl : gf < w.heap.size := HF.out.lt
   obtain ⟨y0, y1, y2, y3⟩ := blkS4 HXo.out
   clear hso hsl Hst HPl HXr Hch HBw hzr hjn HP3 HS3 HF3 HX3 HB3 Hpo3 HOl
   go_wp2_with fail
   clear y0 y1 y2 y3 hge
   go_loopw [19, 20, 22, 127, 140] (fun _ _ _ iv _ wr => ∃ (kk : Nat) (u1 : Value), kk ≤ n1 ∧ iv = .int .i64 kk ∧ FB wr gf (some ad) n c (.slice as0 s.2.2.length cs0) u1 v3 ∧ FlS wr lo (.slice as0 s.2.2.length cs0) u1 v3 s.2.2 (f.2.1 ++ (m.2.1.take kk).map (asF param s.1)) f.2.2 ∧ ChP lo flT noP wo wr) (fun _ _ _ iv _ _ => n1 - (intOf iv).toNat)
   case atStart => exact ⟨0, v1, Nat.zero_le _, rfl, HFr.out, by simpa using HSr.out, ChP.refl _ _ _ _⟩
   case round =>
    clear HFr HSr
    obtain ⟨kk, u1, hkk, rfl, hfb, hfs, hch⟩ := hrel
    have Hch := Lib.hid hch
    have hzr := hch.size
    have HBw := Lib.hid (show Below lo w wr from (HBo.out.trans (hch.below (by omega) (fun b hb => hb.elim))))
    have HXr := Lib.hid (hch.blk HXo.out (by decide) (fun h => h))
    have HPr := Lib.hid (hch.own HPo.out (by decide) (fun _ _ h => h))
    have gx : (0 : Int) ≤ (kk : Int) := by omega
    clear hch
    obtain ⟨LA, hLA⟩ : ∃ LA, LA = f.2.1 ++ (m.2.1.take kk).map (asF param s.1) := ⟨_, rfl⟩
    rw [← hLA] at hfs
    have hLAn : LA.length ≤ 60 := by rw [hLA]; have h1 := hsz.l1; have h2 := MO.n1; simp; omega
    have HLA := Lib.hid hLA
    obtain ⟨R, xs, hrw⟩ := hfs.s1
    have ho1 := hrw.own
    rw [List.length_map] at ho1
    obtain ⟨aa, ca, rfl, _, _, _⟩ := own_form ho1
    have Hrw := Lib.hid hrw
    have Ho1 := Lib.hid ho1
    have HFr := Lib.hid hfb
    have HSr := Lib.hid hfs
    clear hfb hfs hLA hrw ho1
    by_cases hlt : kk < n1
    ·obtain ⟨ad2, a, os, A1, c1, rfl, hab2, hx, rps, hml, e0, e1⟩ := asg_row (R1.out.under hS HBw.out) hlt
     obtain ⟨⟨qa0, qa1⟩, q2, q3⟩ := MO.asg _ (List.mem_of_getElem? hx)
     simp only at qa0 qa1 q2 q3
     obtain ⟨an, tg, rfl, han, htg, htd⟩ := ids_at hsl0 qa0 (by have := Hn.out; omega)
     obtain ⟨no, hno⟩ : ∃ no, os.length = no := ⟨_, rfl⟩
     rw [hno] at rps hml e1 q2
     have Hno := Lib.hid hno
     have Hq3 := Lib.hid q3
     have Htd := Lib.hid htd
     have Hs := Lib.hid (map_snocF (g := asF param s.1) hx)
     have g4 : (kk : Int) < (n1 : Int) := by omega
     have g5 : (0 : Int) ≤ (an : Int) := by omega
     have g6 : (an : Int) < (n0 : Int) := by omega
     have hpa := own_at HPr.out htg
     have Rps := Lib.hid rps
     obtain ⟨B1, hB1⟩ : ∃ B1, B1 = wr.alloc (.cells #[.int .i64 an, .slice A1 no c1] 76) := ⟨_, rfl⟩
     have HbB1 := Lib.hid (show Below wr.heap.size wr B1 by rw [hB1]; exact (Below.refl _ _).alloc (Nat.le_refl _) _)
     have HkB1 := Lib.hid (show Blk B1 wr.heap.size 76 #[.int .i64 an, .slice A1 no c1] by rw [hB1]; exact Blk.new _ _ _)
     have zB1 : wr.heap.size < B1.heap.size := HkB1.out.lt
     have hpa1 := (HbB1.out.cell (p := ⟨gp, an, none⟩) (by show gp < wr.heap.size; omega)).trans hpa
     clear hx qa0 qa1 q3 hno htd htg rps hpa
     go_upto_region 22 with fail
     rw [← hB1]
     clear hB1 e0 e1
     obtain ⟨b0, b1⟩ := blkS2 HkB1.out
     obtain ⟨B2, hB2⟩ : ∃ B2, B2 = B1.alloc (.cells #[.int .i64 tg, .slice none 0 0] 76) := ⟨_, rfl⟩
     have HbB2 := Lib.hid (show Below wr.heap.size wr B2 by rw [hB2]; exact HbB1.out.alloc (by omega) _)
     have HkB2 := Lib.hid (show Blk B2 wr.heap.size 76 #[.int .i64 an, .slice A1 no c1] by rw [hB2]; exact HkB1.out.alloc _)
     obtain ⟨gx, hgx⟩ : ∃ g, g = B1.heap.size := ⟨_, rfl⟩
     have HgB2 := Lib.hid (show Blk B2 gx 76 #[.int .i64 tg, .slice none 0 0] by rw [hB2, hgx]; exact Blk.new _ _ _)
     have zgx : wr.heap.size < gx := by omega
     have zB2 : gx < B2.heap.size := HgB2.out.lt
     go_upto_region 23 with fail
     rw [← hB2, ← hgx]
     clear hB2 hgx b0 b1 hpa1
     obtain ⟨b0, b1⟩ := blkS2 HkB2.out
     go_wp2_with fail
     clear b0 b1
     go_loopw [22, 140] (fun _ jv wq => ∃ (j : Nat) (L : List TOp) (vo : Value), j ≤ no ∧ jv = .int .i64 j ∧ Blk wq gx 76 #[.int .i64 tg, vo] ∧ wq.ownsRow B2.heap.size 78 3 vo j (recs eOp L) ∧ Hid (L = (os.take j).map (opF param s.1)) ∧ Only (fun b => b = gx) B2 wq) (fun _ jv _ => no - (intOf jv).toNat)
     case atStart => exact ⟨0, [], _, Nat.zero_le _, rfl, HgB2.out, World.ownsRow_nil _ _ _ _, Lib.hid (by simp), Only.refl _ _⟩
     case round =>
      obtain ⟨j, L, vo, hj, rfl, hgb, hro, hL, hon⟩ := hrel
      obtain ⟨wq, hwq⟩ : ∃ x, x = wr := ⟨_, rfl⟩
      subst hwq
      have zq := hon.size
      obtain ⟨Ao, co, rfl, _, _, _⟩ := own_form hro
      have HGq := Lib.hid hgb
      have HRq := Lib.hid hro
      have HOq := Lib.hid hon
      have gy : (0 : Int) ≤ (j : Int) := by omega
      have HBq := Lib.hid (show Below wr.heap.size wr wq from HbB2.out.trans (hon.below (by omega) (fun b hb => by omega)))
      clear hgb hro hon
      by_cases hlj : j < no
      ·obtain ⟨ad3, o0, o1, o2, rfl, hab3, hx, e0, e1, e2⟩ := fOpS_row (Rps.out.under (B := wr.heap.size) (fun b hb => by have := hS b hb; omega) HBq.out) hlj
       have Hq := Lib.hid (Hq3.out _ (List.mem_of_getElem? hx))
       have Hs5 := Lib.hid (map_snocF (g := opF param s.1) hx)
       have g7 : (j : Int) < (no : Int) := by omega
       obtain ⟨V1, hV1⟩ : ∃ V1, V1 = wq.alloc (.cells #[.int .i64 o0, .int .i64 o1, .int .i64 o2] 78) := ⟨_, rfl⟩
       have HbV := Lib.hid (show Below wq.heap.size wq V1 by rw [hV1]; exact (Below.refl _ _).alloc (Nat.le_refl _) _)
       have HkV := Lib.hid (show Blk V1 wq.heap.size 78 #[.int .i64 o0, .int .i64 o1, .int .i64 o2] by rw [hV1]; exact Blk.new _ _ _)
       have HgV := Lib.hid (HGq.out.below HbV.out HGq.out.lt)
       have HrV := Lib.hid (own_below HRq.out HbV.out (Nat.le_refl _))
       have HoV := Lib.hid (HOq.out.trans (Only.of_below HbV.out _))
       clear hx
       go_upto_region 26 with fail
       rw [← hV1]
       clear hV1 e0 e1 e2
       obtain ⟨z0, z1, z2⟩ := blkS3 HkV.out
       have hro2 : ∀ g, (Value.slice Ao j co).ownBlock = some g → g ≠ wq.heap.size := fun g hg => by have := (HRq.out.lt g hg).2; omega
       have hgx2 : gx ≠ wq.heap.size := by omega
       have hB2q : B2.heap.size ≤ wq.heap.size := zq
       have f0 := HkV.out.frozen 0
       have f1 := HkV.out.frozen 1
       have f2 := HkV.out.frozen 2
       by_cases h1 : o0 = 1
       ·subst h1
        have HE := Lib.hid (show opF param s.1 (1, o1, o2) = (0, param, 0) from opF_1)
        go_upto_region 32 with fail
        obtain ⟨V2, hV2⟩ : ∃ V2, V2 = (((V1.setCell ⟨wq.heap.size, 0, none⟩ (.int .i64 0)).setCell ⟨wq.heap.size, 1, none⟩ (.int .i64 param)).setCell ⟨wq.heap.size, 2, none⟩ (.int .i64 0)) := ⟨_, rfl⟩
        rw [← hV2]
        have HO2 := Lib.hid (show V2.ownsRow B2.heap.size 78 3 (.slice Ao j co) j (recs eOp L) by rw [hV2]; exact own_far (own_far (own_far HrV.out hro2 _) hro2 _) hro2 _)
        have HG2 := Lib.hid (show Blk V2 gx 76 #[.int .i64 tg, .slice Ao j co] by rw [hV2]; exact ((HgV.out.far (p := ⟨wq.heap.size, 0, none⟩) hgx2 _).far (p := ⟨wq.heap.size, 1, none⟩) hgx2 _).far (p := ⟨wq.heap.size, 2, none⟩) hgx2 _)
        have HB2x := Lib.hid (show Blk V2 wq.heap.size 78 #[.int .i64 (0), .int .i64 (param), .int .i64 (0)] by rw [hV2]; exact ((HkV.out.set_ 0 _).set_ 1 _).set_ 2 _)
        have HOn := Lib.hid (show Only (fun b => b = gx) B2 V2 by rw [hV2]; exact ((HoV.out.setCell (.inr hB2q) _).setCell (.inr hB2q) _).setCell (.inr hB2q) _)
        have zV2 : wq.heap.size < V2.heap.size := HB2x.out.lt
        clear hV2
        obtain ⟨d0, d1, d2⟩ := blkS3 HB2x.out
        obtain ⟨q0, q1⟩ := blkS2 HG2.out
        obtain ⟨i0, hi, hz0, hz1, hz2⟩ := info_parts Try.infOpC
        go_wp2_with (at_builtin; refine wpList_append_any _ rfl _ _ 74 rfl (B2.heap.size) 78 i0 (.agg #[.int .i64 0, .int .i64 0, .int .i64 0]) 3 24 Try.underlying74 hi hz0 hz1 hz2 rfl (by decide) _ _ _ rfl (HO2.out.alloc _) _ _ 1 1 _ rfl (reads_new _ _ 1 3 rfl) (by intro u hu; simp at hu; first | (subst hu; rfl) | (rcases hu with rfl | rfl <;> rfl) | (rcases hu with rfl | rfl | rfl <;> rfl)) (by unfold maxLen; omega) (by omega) (by (try simp) <;> (try omega)) ?_; intro v8 w8 hown8 hgrow8 hblk8; refine stopX ?_)
        obtain ⟨A8, c8, rfl, _, _, _⟩ := own_form hown8
        have ngx : ¬ (Value.slice Ao j co).ownBlock = some gx := fun h1 => by have := (HO2.out.lt _ h1).1; omega
        have HG8 := Lib.hid ((HG2.out.alloc _).grown hgrow8 (fun e => ngx e.symm))
        have HO8 := Lib.hid (Only.grown2 (HOn.out.alloc _) hgrow8 (fun g hg => .inr (HO2.out.lt g hg).1))
        have HR8 := Lib.hid (show w8.ownsRow B2.heap.size 78 3 (.slice A8 (j + 1) c8) (j + 1) (recs eOp (L ++ [(0, param, 0)])) by rw [recs_app]; exact hown8)
        have e0 := HG8.out.cell 1
        have f0 := HG8.out.frozen 1
        simp only [List.getElem?_toArray, List.getElem?_cons_zero, List.getElem?_cons_succ] at e0
        clear d0 d1 d2 q0 q1 hown8 hgrow8 hblk8 ngx
        refine stopped ?_
        go_wp2_with fail
        obtain ⟨wf, hwf⟩ : ∃ wf, wf = (w8.setCell ⟨gx, 1, none⟩ (.slice A8 (j + 1) c8)) := ⟨_, rfl⟩
        have HGf := Lib.hid (show Blk wf gx 76 #[.int .i64 tg, .slice A8 (j + 1) c8] by rw [hwf]; exact HG8.out.set_ 1 _)
        have HRf := Lib.hid (show wf.ownsRow B2.heap.size 78 3 (.slice A8 (j + 1) c8) (j + 1) (recs eOp (L ++ [(0, param, 0)])) by rw [hwf]; exact own_keep HR8.out (fun g hg => Below.heap_setCell _ ⟨gx, 1, none⟩ _ g (fun e => by have := (HR8.out.lt g hg).1; have e : g = gx := e; omega)))
        have HOf := Lib.hid (show Only (fun b => b = gx) B2 wf by rw [hwf]; exact HO8.out.setCell (.inl rfl) _)
        rw [← hwf]
        clear hwf e0 f0
        go_roundw
        case rel => exact ⟨j + 1, L ++ [(0, param, 0)], _, by omega, by go_num, HGf.out, HRf.out, Lib.hid (by rw [hL.out, Hs5.out, HE.out]), HOf.out⟩
        case measure => simp [intOf]; omega
       ·have h1b : (o0 == 1) = false := by simpa using h1
        by_cases h23 : o0 = 2 ∨ o0 = 3
        ·have hr := opB_at Hq.out h23
         obtain ⟨on, vv, rfl, hon2, hvv, hvd⟩ := ids_at hsl0 hr.1 (by have := Hn.out; omega)
         have HE := Lib.hid (show opF param s.1 (o0, (on : Int), o2) = (o0, vv, o2) by rw [opF_sig h1 h23, hvd])
         have hpq := own_at (own_below (own_below HPr.out HBq.out (Nat.le_refl _)) HbV.out (Nat.le_refl _)) hvv
         have g8 : (0 : Int) ≤ (on : Int) := by omega
         have g9 : (on : Int) < (n0 : Int) := by omega
         clear hvv hvd hr h1
         rcases h23 with rfl | rfl
         ·go_upto_region 32 with fail
          obtain ⟨V2, hV2⟩ : ∃ V2, V2 = V1.setCell ⟨wq.heap.size, 1, none⟩ (.int .i64 vv) := ⟨_, rfl⟩
          rw [← hV2]
          have HO2 := Lib.hid (show V2.ownsRow B2.heap.size 78 3 (.slice Ao j co) j (recs eOp L) by rw [hV2]; exact own_far HrV.out hro2 _)
          have HG2 := Lib.hid (show Blk V2 gx 76 #[.int .i64 tg, .slice Ao j co] by rw [hV2]; exact HgV.out.far (p := ⟨wq.heap.size, 1, none⟩) hgx2 _)
          have HB2x := Lib.hid (show Blk V2 wq.heap.size 78 #[.int .i64 (2), .int .i64 (vv), .int .i64 (o2)] by rw [hV2]; exact HkV.out.set_ 1 _)
          have HOn := Lib.hid (show Only (fun b => b = gx) B2 V2 by rw [hV2]; exact HoV.out.setCell (.inr hB2q) _)
          have zV2 : wq.heap.size < V2.heap.size := HB2x.out.lt
          clear hV2
          obtain ⟨d0, d1, d2⟩ := blkS3 HB2x.out
          obtain ⟨q0, q1⟩ := blkS2 HG2.out
          obtain ⟨i0, hi, hz0, hz1, hz2⟩ := info_parts Try.infOpC
          go_wp2_with (at_builtin; refine wpList_append_any _ rfl _ _ 74 rfl (B2.heap.size) 78 i0 (.agg #[.int .i64 0, .int .i64 0, .int .i64 0]) 3 24 Try.underlying74 hi hz0 hz1 hz2 rfl (by decide) _ _ _ rfl (HO2.out.alloc _) _ _ 1 1 _ rfl (reads_new _ _ 1 3 rfl) (by intro u hu; simp at hu; first | (subst hu; rfl) | (rcases hu with rfl | rfl <;> rfl) | (rcases hu with rfl | rfl | rfl <;> rfl)) (by unfold maxLen; omega) (by omega) (by (try simp) <;> (try omega)) ?_; intro v8 w8 hown8 hgrow8 hblk8; refine stopX ?_)
          obtain ⟨A8, c8, rfl, _, _, _⟩ := own_form hown8
          have ngx : ¬ (Value.slice Ao j co).ownBlock = some gx := fun h1 => by have := (HO2.out.lt _ h1).1; omega
          have HG8 := Lib.hid ((HG2.out.alloc _).grown hgrow8 (fun e => ngx e.symm))
          have HO8 := Lib.hid (Only.grown2 (HOn.out.alloc _) hgrow8 (fun g hg => .inr (HO2.out.lt g hg).1))
          have HR8 := Lib.hid (show w8.ownsRow B2.heap.size 78 3 (.slice A8 (j + 1) c8) (j + 1) (recs eOp (L ++ [(2, vv, o2)])) by rw [recs_app]; exact hown8)
          have e0 := HG8.out.cell 1
          have f0 := HG8.out.frozen 1
          simp only [List.getElem?_toArray, List.getElem?_cons_zero, List.getElem?_cons_succ] at e0
          clear d0 d1 d2 q0 q1 hown8 hgrow8 hblk8 ngx
          refine stopped ?_
          go_wp2_with fail
          obtain ⟨wf, hwf⟩ : ∃ wf, wf = (w8.setCell ⟨gx, 1, none⟩ (.slice A8 (j + 1) c8)) := ⟨_, rfl⟩
          have HGf := Lib.hid (show Blk wf gx 76 #[.int .i64 tg, .slice A8 (j + 1) c8] by rw [hwf]; exact HG8.out.set_ 1 _)
          have HRf := Lib.hid (show wf.ownsRow B2.heap.size 78 3 (.slice A8 (j + 1) c8) (j + 1) (recs eOp (L ++ [(2, vv, o2)])) by rw [hwf]; exact own_keep HR8.out (fun g hg => Below.heap_setCell _ ⟨gx, 1, none⟩ _ g (fun e => by have := (HR8.out.lt g hg).1; have e : g = gx := e; omega)))
          have HOf := Lib.hid (show Only (fun b => b = gx) B2 wf by rw [hwf]; exact HO8.out.setCell (.inl rfl) _)
          rw [← hwf]
          clear hwf e0 f0
          go_roundw
          case rel => exact ⟨j + 1, L ++ [(2, vv, o2)], _, by omega, by go_num, HGf.out, HRf.out, Lib.hid (by rw [hL.out, Hs5.out, HE.out]), HOf.out⟩
          case measure => simp [intOf]; omega
         ·go_upto_region 32 with fail
          obtain ⟨V2, hV2⟩ : ∃ V2, V2 = V1.setCell ⟨wq.heap.size, 1, none⟩ (.int .i64 vv) := ⟨_, rfl⟩
          rw [← hV2]
          have HO2 := Lib.hid (show V2.ownsRow B2.heap.size 78 3 (.slice Ao j co) j (recs eOp L) by rw [hV2]; exact own_far HrV.out hro2 _)
          have HG2 := Lib.hid (show Blk V2 gx 76 #[.int .i64 tg, .slice Ao j co] by rw [hV2]; exact HgV.out.far (p := ⟨wq.heap.size, 1, none⟩) hgx2 _)
          have HB2x := Lib.hid (show Blk V2 wq.heap.size 78 #[.int .i64 (3), .int .i64 (vv), .int .i64 (o2)] by rw [hV2]; exact HkV.out.set_ 1 _)
          have HOn := Lib.hid (show Only (fun b => b = gx) B2 V2 by rw [hV2]; exact HoV.out.setCell (.inr hB2q) _)
          have zV2 : wq.heap.size < V2.heap.size := HB2x.out.lt
          clear hV2
          obtain ⟨d0, d1, d2⟩ := blkS3 HB2x.out
          obtain ⟨q0, q1⟩ := blkS2 HG2.out
          obtain ⟨i0, hi, hz0, hz1, hz2⟩ := info_parts Try.infOpC
          go_wp2_with (at_builtin; refine wpList_append_any _ rfl _ _ 74 rfl (B2.heap.size) 78 i0 (.agg #[.int .i64 0, .int .i64 0, .int .i64 0]) 3 24 Try.underlying74 hi hz0 hz1 hz2 rfl (by decide) _ _ _ rfl (HO2.out.alloc _) _ _ 1 1 _ rfl (reads_new _ _ 1 3 rfl) (by intro u hu; simp at hu; first | (subst hu; rfl) | (rcases hu with rfl | rfl <;> rfl) | (rcases hu with rfl | rfl | rfl <;> rfl)) (by unfold maxLen; omega) (by omega) (by (try simp) <;> (try omega)) ?_; intro v8 w8 hown8 hgrow8 hblk8; refine stopX ?_)
          obtain ⟨A8, c8, rfl, _, _, _⟩ := own_form hown8
          have ngx : ¬ (Value.slice Ao j co).ownBlock = some gx := fun h1 => by have := (HO2.out.lt _ h1).1; omega
          have HG8 := Lib.hid ((HG2.out.alloc _).grown hgrow8 (fun e => ngx e.symm))
          have HO8 := Lib.hid (Only.grown2 (HOn.out.alloc _) hgrow8 (fun g hg => .inr (HO2.out.lt g hg).1))
          have HR8 := Lib.hid (show w8.ownsRow B2.heap.size 78 3 (.slice A8 (j + 1) c8) (j + 1) (recs eOp (L ++ [(3, vv, o2)])) by rw [recs_app]; exact hown8)
          have e0 := HG8.out.cell 1
          have f0 := HG8.out.frozen 1
          simp only [List.getElem?_toArray, List.getElem?_cons_zero, List.getElem?_cons_succ] at e0
          clear d0 d1 d2 q0 q1 hown8 hgrow8 hblk8 ngx
          refine stopped ?_
          go_wp2_with fail
          obtain ⟨wf, hwf⟩ : ∃ wf, wf = (w8.setCell ⟨gx, 1, none⟩ (.slice A8 (j + 1) c8)) := ⟨_, rfl⟩
          have HGf := Lib.hid (show Blk wf gx 76 #[.int .i64 tg, .slice A8 (j + 1) c8] by rw [hwf]; exact HG8.out.set_ 1 _)
          have HRf := Lib.hid (show wf.ownsRow B2.heap.size 78 3 (.slice A8 (j + 1) c8) (j + 1) (recs eOp (L ++ [(3, vv, o2)])) by rw [hwf]; exact own_keep HR8.out (fun g hg => Below.heap_setCell _ ⟨gx, 1, none⟩ _ g (fun e => by have := (HR8.out.lt g hg).1; have e : g = gx := e; omega)))
          have HOf := Lib.hid (show Only (fun b => b = gx) B2 wf by rw [hwf]; exact HO8.out.setCell (.inl rfl) _)
          rw [← hwf]
          clear hwf e0 f0
          go_roundw
          case rel => exact ⟨j + 1, L ++ [(3, vv, o2)], _, by omega, by go_num, HGf.out, HRf.out, Lib.hid (by rw [hL.out, Hs5.out, HE.out]), HOf.out⟩
          case measure => simp [intOf]; omega
        ·have h2b : (o0 == 2) = false := by simp; omega
         have h3b : (o0 == 3) = false := by simp; omega
         have HE := Lib.hid (show opF param s.1 (o0, o1, o2) = (o0, o1, o2) from opF_else h1 (by omega) (by omega))
         clear h1 h23
         go_upto_region 32 with fail
         obtain ⟨V2, hV2⟩ : ∃ V2, V2 = V1 := ⟨_, rfl⟩
         rw [← hV2]
         have HO2 := Lib.hid (show V2.ownsRow B2.heap.size 78 3 (.slice Ao j co) j (recs eOp L) by rw [hV2]; exact HrV.out)
         have HG2 := Lib.hid (show Blk V2 gx 76 #[.int .i64 tg, .slice Ao j co] by rw [hV2]; exact HgV.out)
         have HB2x := Lib.hid (show Blk V2 wq.heap.size 78 #[.int .i64 (o0), .int .i64 (o1), .int .i64 (o2)] by rw [hV2]; exact HkV.out)
         have HOn := Lib.hid (show Only (fun b => b = gx) B2 V2 by rw [hV2]; exact HoV.out)
         have zV2 : wq.heap.size < V2.heap.size := HB2x.out.lt
         clear hV2
         obtain ⟨d0, d1, d2⟩ := blkS3 HB2x.out
         obtain ⟨q0, q1⟩ := blkS2 HG2.out
         obtain ⟨i0, hi, hz0, hz1, hz2⟩ := info_parts Try.infOpC
         go_wp2_with (at_builtin; refine wpList_append_any _ rfl _ _ 74 rfl (B2.heap.size) 78 i0 (.agg #[.int .i64 0, .int .i64 0, .int .i64 0]) 3 24 Try.underlying74 hi hz0 hz1 hz2 rfl (by decide) _ _ _ rfl (HO2.out.alloc _) _ _ 1 1 _ rfl (reads_new _ _ 1 3 rfl) (by intro u hu; simp at hu; first | (subst hu; rfl) | (rcases hu with rfl | rfl <;> rfl) | (rcases hu with rfl | rfl | rfl <;> rfl)) (by unfold maxLen; omega) (by omega) (by (try simp) <;> (try omega)) ?_; intro v8 w8 hown8 hgrow8 hblk8; refine stopX ?_)
         obtain ⟨A8, c8, rfl, _, _, _⟩ := own_form hown8
         have ngx : ¬ (Value.slice Ao j co).ownBlock = some gx := fun h1 => by have := (HO2.out.lt _ h1).1; omega
         have HG8 := Lib.hid ((HG2.out.alloc _).grown hgrow8 (fun e => ngx e.symm))
         have HO8 := Lib.hid (Only.grown2 (HOn.out.alloc _) hgrow8 (fun g hg => .inr (HO2.out.lt g hg).1))
         have HR8 := Lib.hid (show w8.ownsRow B2.heap.size 78 3 (.slice A8 (j + 1) c8) (j + 1) (recs eOp (L ++ [(o0, o1, o2)])) by rw [recs_app]; exact hown8)
         have e0 := HG8.out.cell 1
         have f0 := HG8.out.frozen 1
         simp only [List.getElem?_toArray, List.getElem?_cons_zero, List.getElem?_cons_succ] at e0
         clear d0 d1 d2 q0 q1 hown8 hgrow8 hblk8 ngx
         refine stopped ?_
         go_wp2_with fail
         obtain ⟨wf, hwf⟩ : ∃ wf, wf = (w8.setCell ⟨gx, 1, none⟩ (.slice A8 (j + 1) c8)) := ⟨_, rfl⟩
         have HGf := Lib.hid (show Blk wf gx 76 #[.int .i64 tg, .slice A8 (j + 1) c8] by rw [hwf]; exact HG8.out.set_ 1 _)
         have HRf := Lib.hid (show wf.ownsRow B2.heap.size 78 3 (.slice A8 (j + 1) c8) (j + 1) (recs eOp (L ++ [(o0, o1, o2)])) by rw [hwf]; exact own_keep HR8.out (fun g hg => Below.heap_setCell _ ⟨gx, 1, none⟩ _ g (fun e => by have := (HR8.out.lt g hg).1; have e : g = gx := e; omega)))
         have HOf := Lib.hid (show Only (fun b => b = gx) B2 wf by rw [hwf]; exact HO8.out.setCell (.inl rfl) _)
         rw [← hwf]
         clear hwf e0 f0
         go_roundw
         case rel => exact ⟨j + 1, L ++ [(o0, o1, o2)], _, by omega, by go_num, HGf.out, HRf.out, Lib.hid (by rw [hL.out, Hs5.out, HE.out]), HOf.out⟩
         case measure => simp [intOf]; omega
      ·have HLe := Lib.hid (show asF param s.1 ((an : Int), os) = (tg, L) by rw [hL.out, List.take_of_length_le (by rw [Hno.out]; omega)]; show (s.1.getD (an : Int).toNat 0, _) = _; rw [Htd.out])
       have hge : (no : Int) ≤ (j : Int) := by omega
       have HFq := Lib.hid (HFr.out.below HBq.out HFr.out.lt)
       have HSq := Lib.hid (HSr.out.below HBq.out)
       have Hrq := Lib.hid (Hrw.out.only (Only.of_below HBq.out (fun _ => False)) (NoT.none _ _ _))
       have Hoq := Lib.hid (own_below Ho1.out HBq.out (Nat.le_refl _))
       have hqR : ∀ b, R b → b < wr.heap.size := fun b hb => (Hrw.out.rng b hb).2.lt
       obtain ⟨i0, hi, hz0, hz1, hz2⟩ := info_parts Try.infAssignC
       have ng : ¬ (Value.slice aa LA.length ca).ownBlock = some gf := own_blk_ne Hoq.out HFq.out (by decide)
       have nx : ¬ (Value.slice aa LA.length ca).ownBlock = some gx := fun h1 => by have := (Ho1.out.lt _ h1).2; omega
       obtain ⟨q0, q1, q2, q3, q4⟩ := blkS5 HFq.out
       obtain ⟨d0, d1⟩ := blkS2 HGq.out
       have c0 := ocel (S := fun b => (Value.slice aa LA.length ca).ownBlock = some b) d0 HGq.out.lt nx
       have c1 := ocel (S := fun b => (Value.slice aa LA.length ca).ownBlock = some b) d1 HGq.out.lt nx
       have cg := ocel (S := fun b => (Value.slice aa LA.length ca).ownBlock = some b) q2 HFq.out.lt ng
       clear d0 d1 q0 q1 q2 q3 q4 nx
       go_wp2_with fail
       refine wp_region_lexC (by kernel_rfl) (by kernel_rfl) (fun x => Only (fun b => (Value.slice aa LA.length ca).ownBlock = some b) wq x) ((Only.refl _ _).drew) (fun lexNE => ?_)
       (repeat (first | (refine lex_r fun K hK => ?_; go_big_quiet_op; refine hK _ ?_; clear hK K) | (refine lex_k fun K hK => ?_; go_simp; refine hK _ ?_; clear hK K)))
       (refine lex_e fun K hK => ?_; go_big_op)
       refine hK _ _ (Cls.mk' (((Only.refl _ _).drew).alloc _)) ?_
       clear hK K
       have HO2 := Lib.hid (own_below Hoq.out (Below.refl wq.heap.size wq).drew (Nat.le_refl _))
       refine lex_e fun K hK => ?_
       refine wp_append_any _ _ _ 27 (by rfl) (lo) 76 i0 (.agg #[.int .i64 0, .slice none 0 0]) 2 32 Try.underlying27 hi hz0 hz1 hz2 rfl (by decide) _ _ _ (by rfl) (HO2.out.alloc _) _ _ 1 1 _ (by rfl) (reads_new _ _ 1 2 rfl) (by intro u hu; simp at hu; first | (subst hu; rfl) | (rcases hu with rfl | rfl <;> rfl) | (rcases hu with rfl | rfl | rfl <;> rfl)) (by unfold maxLen; omega) (by omega) (by (try simp) <;> (try omega)) ?_
       intro v8 w8 hown8 hgrow8 hblk8
       go_simp
       refine hK _ _ (Cls.mk' (Only.grown2 (((Only.refl (fun b => (Value.slice aa LA.length ca).ownBlock = some b) wq).drew).alloc _) hgrow8 (fun g hg => .inl hg))) ?_
       clear hK K
       obtain ⟨A8, c8, rfl, _, _, _⟩ := own_form hown8
       have hbl := fun o : Obj => (Below.refl wq.heap.size wq).drew.alloc (Nat.le_refl _) o
       have HS8 := Lib.hid (FlS.pushA (w0 := wr) (HSq.out.drew.alloc _) (Hrq.out.only (Only.of_below (hbl _) (fun _ => False)) (NoT.none _ _ _)) hqR (by omega) (show wr.heap.size ≤ B2.heap.size by omega) (own_below HRq.out (hbl _) (Nat.le_refl _)) (by unfold maxLen; omega) hown8 hgrow8)
       have HF8 := Lib.hid (((HFq.out.drew).alloc _).grown hgrow8 (fun e => ng e.symm))
       have K8 := Lib.hid ((((Hch.out.bel HBq.out).drew).alloc _).row (own_below HO2.out ((Below.refl _ _).alloc (Nat.le_refl _) _) (Nat.le_refl _)) (Nat.le_refl _) flT_asg hgrow8)
       clear hown8 hgrow8 hblk8 hbl
       (repeat (first | (refine lex_r fun K hK => ?_; go_big_quiet_op; refine hK _ ?_; clear hK K) | (refine lex_k fun K hK => ?_; go_simp; refine hK _ ?_; clear hK K)))
       have e1 := HF8.out.cell 2
       have f1 := HF8.out.frozen 2
       simp only [List.getElem?_toArray, List.getElem?_cons_zero, List.getElem?_cons_succ] at e1
       (refine lex_l fun K hK => ?_; go_big_op)
       (refine hK _ _ ?_; clear hK K)
       clear lexNE c0 c1 cg e1 f1 ng
       obtain ⟨wf, hwf⟩ : ∃ wf, wf = (w8.setCell ⟨gf, 2, none⟩ (.slice A8 (LA.length + 1) c8)) := ⟨_, rfl⟩
       have HFf := Lib.hid (show FB wf gf (some ad) n c (.slice as0 s.2.2.length cs0) (.slice A8 (LA.length + 1) c8) v3 by rw [hwf]; exact HF8.out.set_ 2 _)
       have HSf := Lib.hid (show FlS wf lo (.slice as0 s.2.2.length cs0) (.slice A8 (LA.length + 1) c8) v3 s.2.2 (LA ++ [(tg, L)]) f.2.2 by rw [hwf]; exact fl_set HS8.out HF8.out _ _)
       have Kf := Lib.hid (show ChP lo flT noP wo wf by rw [hwf]; exact K8.out.setT (p := ⟨gf, 2, none⟩) HF8.out.of flT_fl hgf _)
       rw [← hwf]
       clear hwf
       go_wp2_with fail
       go_roundw
       case rel => exact ⟨kk + 1, _, by omega, by go_num, HFf.out, by rw [Hs.out, HLe.out, ← List.append_assoc, ← HLA.out]; exact HSf.out, Kf.out⟩
       case measure => simp [intOf]; omega
    ·have hge : (n1 : Int) ≤ (kk : Int) := by omega
     have HLB := Lib.hid (show LA = f.2.1 ++ m.2.1.map (asF param s.1) by rw [HLA.out, List.take_of_length_le (by have := Hn.out; omega)])
     obtain ⟨y0, y1, y2, y3⟩ := blkS4 HXr.out
     obtain ⟨wp, hwp⟩ : ∃ wp, wp = wr := ⟨_, rfl⟩
     subst hwp
     have hLz : LA.length = f.2.1.length + n1 := by rw [HLB.out]; have := Hn.out; simp; omega
     have HLz := Lib.hid hLz
     clear hLz
     go_wp2_with fail
     clear y0 y1 y2 y3 hge HLA Hrw
     go_loopw [24, 182] (fun _ iv wr => ∃ (kk : Nat) (u3 : Value), kk ≤ n3 ∧ iv = .int .i64 kk ∧ FB wr gf (some ad) n c (.slice as0 s.2.2.length cs0) (.slice aa LA.length ca) u3 ∧ FlS wr lo (.slice as0 s.2.2.length cs0) (.slice aa LA.length ca) u3 s.2.2 LA (f.2.2 ++ (m.2.2.2.take kk).map (mmF s.1)) ∧ ChP lo flT noP wo wr) (fun _ iv _ => n3 - (intOf iv).toNat)
     case atStart => exact ⟨0, v3, Nat.zero_le _, rfl, HFr.out, by simpa using HSr.out, Hch.out⟩
     case round =>
      clear HFr HSr Hch HPr HXr HBw hzr gx Ho1 hlt
      obtain ⟨kk, u3, hkk, rfl, hfb, hfs, hch⟩ := hrel
      have Hch := Lib.hid hch
      have hzr := hch.size
      have HBw := Lib.hid (show Below lo w wr from (HBo.out.trans (hch.below (by omega) (fun b hb => hb.elim))))
      have HXr := Lib.hid (hch.blk HXo.out (by decide) (fun h => h))
      have HPr := Lib.hid (hch.own HPo.out (by decide) (fun _ _ h => h))
      have gx : (0 : Int) ≤ (kk : Int) := by omega
      clear hch
      obtain ⟨LM, hLM⟩ : ∃ LM, LM = f.2.2 ++ (m.2.2.2.take kk).map (mmF s.1) := ⟨_, rfl⟩
      rw [← hLM] at hfs
      have hLMn : LM.length ≤ 4 := by rw [hLM]; have h1 := hsz.l2; have h2 := MO.n3; simp; omega
      have HLM := Lib.hid hLM
      obtain ⟨am, cm, rfl, _, _, _⟩ := own_form hfs.s3
      have HFr := Lib.hid hfb
      have HSr := Lib.hid hfs
      clear hfb hfs hLM
      by_cases hlt : kk < n3
      ·obtain ⟨ad2, x0, x1, x2, x3, rfl, hab2, hx, e0, e1, e2, e3⟩ := fMemS_row (R3.out.under hS HBw.out) hlt
       obtain ⟨qa, qb, qc, qd⟩ := MO.mem _ (List.mem_of_getElem? hx)
       simp only at qa qb qc qd
       obtain ⟨p0, t0, rfl, hp0, ht0, hd0⟩ := ids_at hsl0 qa.1 (by have := Hn.out; omega)
       obtain ⟨p1, t1, rfl, hp1, ht1, hd1⟩ := ids_at hsl0 qb.1 (by have := Hn.out; omega)
       obtain ⟨p2, t2, rfl, hp2, ht2, hd2⟩ := ids_at hsl0 qc.1 (by have := Hn.out; omega)
       obtain ⟨p3, t3, rfl, hp3, ht3, hd3⟩ := ids_at hsl0 qd.1 (by have := Hn.out; omega)
       have Hs := Lib.hid (map_snocF (g := mmF s.1) hx)
       have Hmx := Lib.hid (show mmF s.1 ((p0 : Int), (p1 : Int), (p2 : Int), (p3 : Int)) = (t0, t1, t2, t3) by unfold mmF; rw [hd0, hd1, hd2, hd3])
       have g4 : (kk : Int) < (n3 : Int) := by omega
       have a0 : (0 : Int) ≤ (p0 : Int) := by omega
       have a1 : (0 : Int) ≤ (p1 : Int) := by omega
       have a2 : (0 : Int) ≤ (p2 : Int) := by omega
       have a3 : (0 : Int) ≤ (p3 : Int) := by omega
       have a4 : (p0 : Int) < (n0 : Int) := by omega
       have a5 : (p1 : Int) < (n0 : Int) := by omega
       have a6 : (p2 : Int) < (n0 : Int) := by omega
       have a7 : (p3 : Int) < (n0 : Int) := by omega
       obtain ⟨B1, hB1⟩ : ∃ B1, B1 = wr.alloc (.cells #[.int .i64 p0, .int .i64 p1, .int .i64 p2, .int .i64 p3] 80) := ⟨_, rfl⟩
       have HbB1 := Lib.hid (show Below wr.heap.size wr B1 by rw [hB1]; exact (Below.refl _ _).alloc (Nat.le_refl _) _)
       have HkB1 := Lib.hid (show Blk B1 wr.heap.size 80 #[.int .i64 p0, .int .i64 p1, .int .i64 p2, .int .i64 p3] by rw [hB1]; exact Blk.new _ _ _)
       have zB1 : wr.heap.size < B1.heap.size := HkB1.out.lt
       have HP1 := Lib.hid (own_below HPr.out HbB1.out (Nat.le_refl _))
       have HF1 := Lib.hid (HFr.out.below HbB1.out HFr.out.lt)
       have HS1 := Lib.hid (HSr.out.below HbB1.out)
       have i0' := own_at HP1.out ht0
       have i1' := own_at HP1.out ht1
       have i2' := own_at HP1.out ht2
       have i3' := own_at HP1.out ht3
       obtain ⟨i0, hi, hz0, hz1, hz2⟩ := info_parts Try.infMemC
       clear hx qa qb qc qd ht0 ht1 ht2 ht3 hd0 hd1 hd2 hd3
       go_wp2_with fail
       rw [← hB1]
       clear hB1 e0 e1 e2 e3
       have ng : ¬ (Value.slice am LM.length cm).ownBlock = some gf := own_blk_ne HS1.out.s3 HF1.out (by decide)
       have nx : ¬ (Value.slice am LM.length cm).ownBlock = some wr.heap.size := fun h1 => by have := (HSr.out.s3.lt _ h1).2; omega
       have np2 : ¬ (Value.slice am LM.length cm).ownBlock = some gp := fun h1 => absurd ((own_of HS1.out.s3 h1).inj (own_of HP1.out rfl)) (by decide)
       have hgpb : gp < B1.heap.size := by omega
       obtain ⟨q0, q1, q2, q3, q4⟩ := blkS5 HF1.out
       obtain ⟨d0, d1, d2, d3⟩ := blkS4 HkB1.out
       have c0 := ocel (S := fun b => (Value.slice am LM.length cm).ownBlock = some b) d0 HkB1.out.lt nx
       have c1 := ocel (S := fun b => (Value.slice am LM.length cm).ownBlock = some b) d1 HkB1.out.lt nx
       have c2 := ocel (S := fun b => (Value.slice am LM.length cm).ownBlock = some b) d2 HkB1.out.lt nx
       have c3 := ocel (S := fun b => (Value.slice am LM.length cm).ownBlock = some b) d3 HkB1.out.lt nx
       have j0 := ocel (S := fun b => (Value.slice am LM.length cm).ownBlock = some b) i0' hgpb np2
       have j1 := ocel (S := fun b => (Value.slice am LM.length cm).ownBlock = some b) i1' hgpb np2
       have j2 := ocel (S := fun b => (Value.slice am LM.length cm).ownBlock = some b) i2' hgpb np2
       have j3 := ocel (S := fun b => (Value.slice am LM.length cm).ownBlock = some b) i3' hgpb np2
       have cg := ocel (S := fun b => (Value.slice am LM.length cm).ownBlock = some b) q4 HF1.out.lt ng
       clear d0 d1 d2 d3 q0 q1 q2 q3 q4 nx np2 i0' i1' i2' i3'
       refine wp_region_lexC (by kernel_rfl) (by kernel_rfl) (fun x => Only (fun b => (Value.slice am LM.length cm).ownBlock = some b) B1 x) ((Only.refl _ _).drew) (fun lexNE => ?_)
       (repeat (first | (refine lex_r fun K hK => ?_; go_big_quiet_op; refine hK _ ?_; clear hK K) | (refine lex_k fun K hK => ?_; go_simp; refine hK _ ?_; clear hK K)))
       (refine lex_e fun K hK => ?_; go_big_op)
       refine hK _ _ (Cls.mk' (((Only.refl _ _).drew).alloc _)) ?_
       clear hK K
       have HO2 := Lib.hid (own_below HS1.out.s3 (Below.refl B1.heap.size B1).drew (Nat.le_refl _))
       refine lex_e fun K hK => ?_
       refine wp_append_any _ _ _ 29 (by rfl) (lo) 80 i0 (.agg #[.int .i64 0, .int .i64 0, .int .i64 0, .int .i64 0]) 4 32 Try.underlying29 hi hz0 hz1 hz2 rfl (by decide) _ _ _ (by rfl) (HO2.out.alloc _) _ _ 1 1 _ (by rfl) (reads_new _ _ 1 4 rfl) (by intro u hu; simp at hu; first | (subst hu; rfl) | (rcases hu with rfl | rfl <;> rfl) | (rcases hu with rfl | rfl | rfl <;> rfl) | (rcases hu with rfl | rfl | rfl | rfl <;> rfl)) (by unfold maxLen; omega) (by omega) (by (try simp) <;> (try omega)) ?_
       intro v8 w8 hown8 hgrow8 hblk8
       go_simp
       refine hK _ _ (Cls.mk' (Only.grown2 (((Only.refl (fun b => (Value.slice am LM.length cm).ownBlock = some b) B1).drew).alloc _) hgrow8 (fun g hg => .inl hg))) ?_
       clear hK K
       obtain ⟨A8, c8, rfl, _, _, _⟩ := own_form hown8
       have HS8 := Lib.hid ((HS1.out.drew.alloc _).pushM (x := (t0, t1, t2, t3)) hown8 hgrow8)
       have HF8 := Lib.hid (((HF1.out.drew).alloc _).grown hgrow8 (fun e => ng e.symm))
       have K8 := Lib.hid ((((Hch.out.bel HbB1.out).drew).alloc _).row (own_below HO2.out ((Below.refl _ _).alloc (Nat.le_refl _) _) (Nat.le_refl _)) (Nat.le_refl _) flT_mem hgrow8)
       clear hown8 hgrow8 hblk8
       (repeat (first | (refine lex_r fun K hK => ?_; go_big_quiet_op; refine hK _ ?_; clear hK K) | (refine lex_k fun K hK => ?_; go_simp; refine hK _ ?_; clear hK K)))
       have e1 := HF8.out.cell 4
       have f1 := HF8.out.frozen 4
       simp only [List.getElem?_toArray, List.getElem?_cons_zero, List.getElem?_cons_succ] at e1
       (refine lex_l fun K hK => ?_; go_big_op)
       (refine hK _ _ ?_; clear hK K)
       clear lexNE c0 c1 c2 c3 j0 j1 j2 j3 cg e1 f1 ng
       obtain ⟨wf, hwf⟩ : ∃ wf, wf = (w8.setCell ⟨gf, 4, none⟩ (.slice A8 (LM.length + 1) c8)) := ⟨_, rfl⟩
       have HFf := Lib.hid (show FB wf gf (some ad) n c (.slice as0 s.2.2.length cs0) (.slice aa LA.length ca) (.slice A8 (LM.length + 1) c8) by rw [hwf]; exact HF8.out.set_ 4 _)
       have HSf := Lib.hid (show FlS wf lo (.slice as0 s.2.2.length cs0) (.slice aa LA.length ca) (.slice A8 (LM.length + 1) c8) s.2.2 LA (LM ++ [(t0, t1, t2, t3)]) by rw [hwf]; exact fl_set HS8.out HF8.out _ _)
       have Kf := Lib.hid (show ChP lo flT noP wo wf by rw [hwf]; exact K8.out.setT (p := ⟨gf, 4, none⟩) HF8.out.of flT_fl hgf _)
       rw [← hwf]
       clear hwf
       go_wp2_with fail
       go_roundw
       case rel => exact ⟨kk + 1, _, by omega, by go_num, HFf.out, by rw [Hs.out, Hmx.out, ← List.append_assoc, ← HLM.out]; exact HSf.out, Kf.out⟩
       case measure => simp [intOf]; omega
      ·have hge : (n3 : Int) ≤ (kk : Int) := by omega
       have HMB := Lib.hid (show LM = f.2.2 ++ m.2.2.2.map (mmF s.1) by rw [HLM.out, List.take_of_length_le (by have := Hn.out; omega)])
       have HMz := Lib.hid (show LM.length = f.2.2.length + n3 by rw [HMB.out]; have := Hn.out; simp; omega)
       obtain ⟨y0, y1, y2, y3⟩ := blkS4 HXr.out
       obtain ⟨q0, q1, q2, q3, q4⟩ := blkS5 HFr.out
       obtain ⟨wc, hwc⟩ : ∃ wc, wc = wr := ⟨_, rfl⟩
       subst hwc
       clear HLM
       by_cases h1 : s.2.2.length ≤ 30
       ·have h1' : (s.2.2.length : Int) ≤ 30 := by omega
        by_cases h2 : LA.length ≤ 30
        ·have h2' : (LA.length : Int) ≤ 30 := by omega
         by_cases h3 : LM.length ≤ 2
         ·have h3' : (LM.length : Int) ≤ 2 := by omega
          have Hob := Lib.hid (show owB m f s.2.2 = true by unfold owB; exact decide_eq_true (by rw [Hn.out.2.1, Hn.out.2.2.2]; have := HLz.out; have := HMz.out; omega))
          have HSZ := Lib.hid (show FlSz (s.2.2, LA, LM) by rw [HLB.out, HMB.out]; exact owB_sz MO hsz Hob.out param s.1)
          go_wp2_with fail
          clear y0 y1 y2 y3 q0 q1 q2 q3 q4 hge h1' h2' h3'
          go_loopw [26, 27, 28, 30, 247, 259] (fun _ _ _ _ iv _ wr => ∃ (kk : Nat) (g : FlSt) (u0 u1 u3 : Value), kk ≤ n2 ∧ iv = .int .i64 kk ∧ Hid ((m.2.2.1.take kk).foldlM (fun (g : FlSt) (x : TInst) => addF d fu x.1.toNat (wdF param x.2.1) (x.2.2.map fun p => s.1.getD p.toNat 0) true g) (s.2.2, LA, LM) = some g) ∧ Hid (FlSz g) ∧ s.2.2.length ≤ g.1.length ∧ FB wr gf (some ad) n c u0 u1 u3 ∧ FlS wr lo u0 u1 u3 g.1 g.2.1 g.2.2 ∧ ChP lo flT noP wo wr) (fun _ _ _ _ iv _ _ => n2 - (intOf iv).toNat)
          case atStart => exact ⟨0, (s.2.2, LA, LM), _, _, _, Nat.zero_le _, rfl, Lib.hid rfl, HSZ, Nat.le_refl _, HFr.out, HSr.out, Hch.out⟩
          case round =>
           clear HFr HSr Hch HPr HXr HBw hzr gx hlt
           obtain ⟨kk, g, u0, u1, u3, hkk, rfl, hfg, hgz, hgl, hfb, hfs, hch⟩ := hrel
           have Hch := Lib.hid hch
           have hzr := hch.size
           have HBw := Lib.hid (show Below lo w wr from (HBo.out.trans (hch.below (by omega) (fun b hb => hb.elim))))
           have HXr := Lib.hid (hch.blk HXo.out (by decide) (fun h => h))
           have HPr := Lib.hid (hch.own HPo.out (by decide) (fun _ _ h => h))
           have gx : (0 : Int) ≤ (kk : Int) := by omega
           clear hch
           have HFr := Lib.hid hfb
           have HSr := Lib.hid hfs
           have Hfg := Lib.hid hfg.out
           have Hgz := Lib.hid hgz.out
           clear hfb hfs hfg hgz
           by_cases hlt : kk < n2
           ·obtain ⟨ad2, a, b, ps, A2, c2, rfl, hab2, hx, rps, hml, e0, e1, e2⟩ := ins_row (R2.out.under hS HBw.out) hlt
            obtain ⟨⟨qa0, qa1⟩, q4, q5⟩ := MO.ins _ (List.mem_of_getElem? hx)
            simp only at qa0 qa1 q4 q5
            obtain ⟨an, rfl⟩ := Int.eq_ofNat_of_zero_le qa0
            obtain ⟨no, hno⟩ : ∃ no, ps.length = no := ⟨_, rfl⟩
            rw [hno] at rps hml e2
            have hno2 : no ≤ 30 := by rw [← hno, q4]; exact portsL_len _
            have Hno := Lib.hid hno
            have Hq5 := Lib.hid q5
            have Hpl := Lib.hid q4
            have Hx := Lib.hid hx
            have Rps := Lib.hid rps
            have g4 : (kk : Int) < (n2 : Int) := by omega
            have hank : an < k := by omega
            obtain ⟨B1, hB1⟩ : ∃ B1, B1 = wr.alloc (.cells #[.int .i64 an, .int .i64 b, .slice A2 no c2] 82) := ⟨_, rfl⟩
            have HbB1 := Lib.hid (show Below wr.heap.size wr B1 by rw [hB1]; exact (Below.refl _ _).alloc (Nat.le_refl _) _)
            have HkB1 := Lib.hid (show Blk B1 wr.heap.size 82 #[.int .i64 an, .int .i64 b, .slice A2 no c2] by rw [hB1]; exact Blk.new _ _ _)
            have zB1 : wr.heap.size < B1.heap.size := HkB1.out.lt
            clear hx q4 q5 hno rps qa0 qa1
            go_upto_region 46 with fail
            rw [← hB1]
            clear hB1 e0 e1 e2
            obtain ⟨b0, b1, b2⟩ := blkS3 HkB1.out
            by_cases hb : b = 0
            ·subst hb
             have Hwd := Lib.hid (show wdF param 0 = param from rfl)
             go_wp2_with fail
             clear b0 b1 b2
             go_loopw [28, 30, 259] (fun ov _ jv wq => ∃ (j : Nat) (L : List Int), j ≤ no ∧ jv = .int .i64 j ∧ wq.ownsRow B1.heap.size 3 1 ov j (ints L) ∧ Hid (L = (ps.take j).map fun p => s.1.getD p.toNat 0) ∧ Below B1.heap.size B1 wq) (fun _ _ jv _ => no - (intOf jv).toNat)
             case atStart => exact ⟨0, [], Nat.zero_le _, rfl, World.ownsRow_nil _ _ _ _, Lib.hid (by simp), Below.refl _ _⟩
             case round =>
              obtain ⟨j, L, hj, rfl, hro, hL, hbq⟩ := hrel
              obtain ⟨wq, hwq⟩ : ∃ x, x = wr := ⟨_, rfl⟩
              subst hwq
              have zq := hbq.size
              obtain ⟨Ao, co, rfl, _, _, _⟩ := own_form hro
              have HRq := Lib.hid hro
              have Hbq := Lib.hid hbq
              have gy : (0 : Int) ≤ (j : Int) := by omega
              have HBq := Lib.hid (show Below wr.heap.size wr wq from HbB1.out.trans (hbq.mono (by omega)))
              clear hro hbq
              by_cases hlj : j < no
              ·obtain ⟨ad3, p0, rfl, hab3, hx, e0⟩ := fIntS_row (Rps.out.under (B := wr.heap.size) (fun b hb => by have := hS b hb; omega) HBq.out) hlj
               have hp := Hq5.out _ (List.mem_of_getElem? hx)
               obtain ⟨pn, pv, rfl, hpn, hpv, hpd⟩ := ids_at hsl0 hp.1 (by have := Hn.out; omega)
               have Hs6 := Lib.hid (map_snocF (g := fun p : Int => s.1.getD p.toNat 0) hx)
               have Hpd := Lib.hid hpd
               have g7 : (j : Int) < (no : Int) := by omega
               have g8 : (0 : Int) ≤ (pn : Int) := by omega
               have g9 : (pn : Int) < (n0 : Int) := by omega
               have hpq := own_at (own_below HPr.out HBq.out (Nat.le_refl _)) hpv
               obtain ⟨i0, hi, hz0, hz1, hz2⟩ := info_parts Try.infoIntC
               clear hx hp hpv hpd
               go_wp2_with (at_builtin; refine wpList_append_any _ rfl _ _ 47 rfl (B1.heap.size) 3 i0 (.int .i64 0) 1 8 Try.underlying47 hi hz0 hz1 hz2 rfl (by decide) _ _ _ rfl (HRq.out.alloc _) _ _ 1 1 _ rfl (reads_new _ _ 1 1 rfl) (by intro u hu; simp at hu; first | (subst hu; rfl) | (rcases hu with rfl | rfl <;> rfl) | (rcases hu with rfl | rfl | rfl <;> rfl)) (by unfold maxLen; omega) (by omega) (by (try simp) <;> (try omega)) ?_; intro v8 w8 hown8 hgrow8 hblk8)
               have hb8 := below_push Hbq.out HRq.out (Nat.le_refl _) (by omega) hgrow8
               have Hown8 := Lib.hid (show w8.ownsRow B1.heap.size 3 1 v8 (j + 1) (ints (L ++ [pv])) by rw [ints_app]; exact hown8)
               clear hown8 hgrow8 hblk8 hpq e0
               go_wp2_with fail
               go_roundw
               case rel => exact ⟨j + 1, L ++ [pv], by omega, by go_num, Hown8.out, Lib.hid (by rw [hL.out, Hs6.out, Hpd.out]), hb8⟩
               case measure => simp [intOf]; omega
              ·have hge : (no : Int) ≤ (j : Int) := by omega
               have hjo : no = j := by omega
               have HL := Lib.hid (show L = ps.map fun p => s.1.getD p.toNat 0 by rw [hL.out, List.take_of_length_le (by rw [Hno.out]; omega)])
               have Hjo := Lib.hid hjo
               obtain ⟨b0, b1, b2⟩ := blkS3 (HkB1.out.below Hbq.out HkB1.out.lt)
               have HFx := Lib.hid (show m.2.2.1.foldlM (fun (g : FlSt) (x : TInst) => addF d fu x.1.toNat (wdF param x.2.1) (x.2.2.map fun p => s.1.getD p.toNat 0) true g) (s.2.2, LA, LM) = addF d (fu + 1) k param ports (!top) f by
                rw [addF_some Hmd.out HST.out Hob.out, ← HLB.out, ← HMB.out])
               have HFy := Lib.hid (show (m.2.2.1.take (kk + 1)).foldlM (fun (g : FlSt) (x : TInst) => addF d fu x.1.toNat (wdF param x.2.1) (x.2.2.map fun p => s.1.getD p.toNat 0) true g) (s.2.2, LA, LM) = addF d fu an param L true g by
                rw [foldlM_take Hx.out, Hfg.out]
                show addF d fu (an : Int).toNat (wdF param 0) _ true g = _
                rw [Int.toNat_natCast, Hwd.out, ← HL.out])
               clear hL hjo
               go_wp2_with fail
               refine (IH.out an (by omega) (by omega) (param) L Ao j co false wq S (some ad) c lo gf u0 u1 u3 g (Hrd.out.under hS (HBw.out.trans (HBq.out.mono (by omega)))) hnm hS (by omega) hgf (HFr.out.below HBq.out HFr.out.lt) (HSr.out.below HBq.out) Hgz.out (own_mono HRq.out (Nat.zero_le _)) (fun i hi => ?_) (fun _ => ?_)).mono ?_
               ·rw [HL.out] at hi
                obtain ⟨p, hp, rfl⟩ := List.mem_map.1 hi
                have h1 := Hq5.out p hp
                obtain ⟨pn, pv, rfl, hpn, hpv, hpd⟩ := ids_at hsl0 h1.1 (by have := Hn.out; omega)
                have h2 := HSO.out.ids pv (List.mem_of_getElem? hpv)
                show 0 ≤ s.1.getD _ 0 ∧ s.1.getD _ 0 < _
                rw [hpd]
                omega
               ·rw [HL.out, List.length_map]
                exact Hpl.out
               rintro e w5 ⟨hch5, hm5⟩
               have Hch5 := Lib.hid (Hch.out.trans ((ChP.of_below lo flT noP HBq.out).trans hch5))
               clear hch5 b0 b1 b2 hge
               cases hA : addF d fu an (param) L true g with
               | none =>
                rw [show (!false) = true from rfl, hA] at hm5
                subst hm5
                have HN := Lib.hid (show addF d (fu + 1) k param ports (!top) f = none by rw [← HFx.out]; exact foldlM_none (HFy.out.trans hA))
                clear hA
                go_wp2_with fail
                go_ret
                unfold AddQ
                rw [HN.out]
                exact ⟨HCo.out.trans Hch5.out, rfl⟩
               | some g' =>
                rw [show (!false) = true from rfl, hA] at hm5
                obtain ⟨rfl, hsz5, u0', u1', u3', hfb5, hfs5⟩ := hm5
                have hlen := addF_len _ _ _ _ _ _ _ hA
                have HA := Lib.hid hA
                have HF5 := Lib.hid hfb5
                have HS5 := Lib.hid hfs5
                have HZ5 := Lib.hid hsz5
                clear hA hfb5 hfs5 hsz5
                go_wp2_with fail
                go_roundw
                case rel => exact ⟨kk + 1, g', u0', u1', u3', by omega, by go_num, Lib.hid (HFy.out.trans HA.out), HZ5, by omega, HF5.out, HS5.out, Hch5.out⟩
                case measure => simp [intOf]; omega
            ·have hb' : (b == 0) = false := by simpa using hb
             have Hwd := Lib.hid (show wdF param b = b from (if_neg hb))
             go_wp2_with fail
             clear b0 b1 b2
             go_loopw [28, 30, 259] (fun ov _ jv wq => ∃ (j : Nat) (L : List Int), j ≤ no ∧ jv = .int .i64 j ∧ wq.ownsRow B1.heap.size 3 1 ov j (ints L) ∧ Hid (L = (ps.take j).map fun p => s.1.getD p.toNat 0) ∧ Below B1.heap.size B1 wq) (fun _ _ jv _ => no - (intOf jv).toNat)
             case atStart => exact ⟨0, [], Nat.zero_le _, rfl, World.ownsRow_nil _ _ _ _, Lib.hid (by simp), Below.refl _ _⟩
             case round =>
              obtain ⟨j, L, hj, rfl, hro, hL, hbq⟩ := hrel
              obtain ⟨wq, hwq⟩ : ∃ x, x = wr := ⟨_, rfl⟩
              subst hwq
              have zq := hbq.size
              obtain ⟨Ao, co, rfl, _, _, _⟩ := own_form hro
              have HRq := Lib.hid hro
              have Hbq := Lib.hid hbq
              have gy : (0 : Int) ≤ (j : Int) := by omega
              have HBq := Lib.hid (show Below wr.heap.size wr wq from HbB1.out.trans (hbq.mono (by omega)))
              clear hro hbq
              by_cases hlj : j < no
              ·obtain ⟨ad3, p0, rfl, hab3, hx, e0⟩ := fIntS_row (Rps.out.under (B := wr.heap.size) (fun b hb => by have := hS b hb; omega) HBq.out) hlj
               have hp := Hq5.out _ (List.mem_of_getElem? hx)
               obtain ⟨pn, pv, rfl, hpn, hpv, hpd⟩ := ids_at hsl0 hp.1 (by have := Hn.out; omega)
               have Hs6 := Lib.hid (map_snocF (g := fun p : Int => s.1.getD p.toNat 0) hx)
               have Hpd := Lib.hid hpd
               have g7 : (j : Int) < (no : Int) := by omega
               have g8 : (0 : Int) ≤ (pn : Int) := by omega
               have g9 : (pn : Int) < (n0 : Int) := by omega
               have hpq := own_at (own_below HPr.out HBq.out (Nat.le_refl _)) hpv
               obtain ⟨i0, hi, hz0, hz1, hz2⟩ := info_parts Try.infoIntC
               clear hx hp hpv hpd
               go_wp2_with (at_builtin; refine wpList_append_any _ rfl _ _ 47 rfl (B1.heap.size) 3 i0 (.int .i64 0) 1 8 Try.underlying47 hi hz0 hz1 hz2 rfl (by decide) _ _ _ rfl (HRq.out.alloc _) _ _ 1 1 _ rfl (reads_new _ _ 1 1 rfl) (by intro u hu; simp at hu; first | (subst hu; rfl) | (rcases hu with rfl | rfl <;> rfl) | (rcases hu with rfl | rfl | rfl <;> rfl)) (by unfold maxLen; omega) (by omega) (by (try simp) <;> (try omega)) ?_; intro v8 w8 hown8 hgrow8 hblk8)
               have hb8 := below_push Hbq.out HRq.out (Nat.le_refl _) (by omega) hgrow8
               have Hown8 := Lib.hid (show w8.ownsRow B1.heap.size 3 1 v8 (j + 1) (ints (L ++ [pv])) by rw [ints_app]; exact hown8)
               clear hown8 hgrow8 hblk8 hpq e0
               go_wp2_with fail
               go_roundw
               case rel => exact ⟨j + 1, L ++ [pv], by omega, by go_num, Hown8.out, Lib.hid (by rw [hL.out, Hs6.out, Hpd.out]), hb8⟩
               case measure => simp [intOf]; omega
              ·have hge : (no : Int) ≤ (j : Int) := by omega
               have hjo : no = j := by omega
               have HL := Lib.hid (show L = ps.map fun p => s.1.getD p.toNat 0 by rw [hL.out, List.take_of_length_le (by rw [Hno.out]; omega)])
               have Hjo := Lib.hid hjo
               obtain ⟨b0, b1, b2⟩ := blkS3 (HkB1.out.below Hbq.out HkB1.out.lt)
               have HFx := Lib.hid (show m.2.2.1.foldlM (fun (g : FlSt) (x : TInst) => addF d fu x.1.toNat (wdF param x.2.1) (x.2.2.map fun p => s.1.getD p.toNat 0) true g) (s.2.2, LA, LM) = addF d (fu + 1) k param ports (!top) f by
                rw [addF_some Hmd.out HST.out Hob.out, ← HLB.out, ← HMB.out])
               have HFy := Lib.hid (show (m.2.2.1.take (kk + 1)).foldlM (fun (g : FlSt) (x : TInst) => addF d fu x.1.toNat (wdF param x.2.1) (x.2.2.map fun p => s.1.getD p.toNat 0) true g) (s.2.2, LA, LM) = addF d fu an b L true g by
                rw [foldlM_take Hx.out, Hfg.out]
                show addF d fu (an : Int).toNat (wdF param b) _ true g = _
                rw [Int.toNat_natCast, Hwd.out, ← HL.out])
               clear hL hjo
               go_wp2_with fail
               refine (IH.out an (by omega) (by omega) (b) L Ao j co false wq S (some ad) c lo gf u0 u1 u3 g (Hrd.out.under hS (HBw.out.trans (HBq.out.mono (by omega)))) hnm hS (by omega) hgf (HFr.out.below HBq.out HFr.out.lt) (HSr.out.below HBq.out) Hgz.out (own_mono HRq.out (Nat.zero_le _)) (fun i hi => ?_) (fun _ => ?_)).mono ?_
               ·rw [HL.out] at hi
                obtain ⟨p, hp, rfl⟩ := List.mem_map.1 hi
                have h1 := Hq5.out p hp
                obtain ⟨pn, pv, rfl, hpn, hpv, hpd⟩ := ids_at hsl0 h1.1 (by have := Hn.out; omega)
                have h2 := HSO.out.ids pv (List.mem_of_getElem? hpv)
                show 0 ≤ s.1.getD _ 0 ∧ s.1.getD _ 0 < _
                rw [hpd]
                omega
               ·rw [HL.out, List.length_map]
                exact Hpl.out
               rintro e w5 ⟨hch5, hm5⟩
               have Hch5 := Lib.hid (Hch.out.trans ((ChP.of_below lo flT noP HBq.out).trans hch5))
               clear hch5 b0 b1 b2 hge
               cases hA : addF d fu an (b) L true g with
               | none =>
                rw [show (!false) = true from rfl, hA] at hm5
                subst hm5
                have HN := Lib.hid (show addF d (fu + 1) k param ports (!top) f = none by rw [← HFx.out]; exact foldlM_none (HFy.out.trans hA))
                clear hA
                go_wp2_with fail
                go_ret
                unfold AddQ
                rw [HN.out]
                exact ⟨HCo.out.trans Hch5.out, rfl⟩
               | some g' =>
                rw [show (!false) = true from rfl, hA] at hm5
                obtain ⟨rfl, hsz5, u0', u1', u3', hfb5, hfs5⟩ := hm5
                have hlen := addF_len _ _ _ _ _ _ _ hA
                have HA := Lib.hid hA
                have HF5 := Lib.hid hfb5
                have HS5 := Lib.hid hfs5
                have HZ5 := Lib.hid hsz5
                clear hA hfb5 hfs5 hsz5
                go_wp2_with fail
                go_roundw
                case rel => exact ⟨kk + 1, g', u0', u1', u3', by omega, by go_num, Lib.hid (HFy.out.trans HA.out), HZ5, by omega, HF5.out, HS5.out, Hch5.out⟩
                case measure => simp [intOf]; omega
           ·have hge : (n2 : Int) ≤ (kk : Int) := by omega
            have HN := Lib.hid (show addF d (fu + 1) k param ports (!top) f = some g by
             have h1 := Hfg.out
             rw [List.take_of_length_le (by have := Hn.out; omega)] at h1
             rw [addF_some Hmd.out HST.out Hob.out, ← HLB.out, ← HMB.out]
             exact h1)
            go_wp2_with fail
            go_ret
            unfold AddQ
            rw [HN.out]
            exact ⟨HCo.out.trans Hch.out, rfl, Hgz.out, u0, u1, u3, HFr.out, HSr.out⟩
         ·have h3' : (2 : Int) < (LM.length : Int) := by omega
          have HN := Lib.hid (show addF d (fu + 1) k param ports (!top) f = none from addF_none2 Hmd.out HST.out (by unfold owB; exact decide_eq_false (by rw [Hn.out.2.1, Hn.out.2.2.2]; have := HLz.out; have := HMz.out; omega)))
          go_wp2_with fail
          go_ret
          unfold AddQ
          rw [HN.out]
          exact ⟨HCo.out.trans Hch.out, rfl⟩
        ·have h2' : (30 : Int) < (LA.length : Int) := by omega
         have HN := Lib.hid (show addF d (fu + 1) k param ports (!top) f = none from addF_none2 Hmd.out HST.out (by unfold owB; exact decide_eq_false (by rw [Hn.out.2.1, Hn.out.2.2.2]; have := HLz.out; have := HMz.out; omega)))
         go_wp2_with fail
         go_ret
         unfold AddQ
         rw [HN.out]
         exact ⟨HCo.out.trans Hch.out, rfl⟩
       ·have h1' : (30 : Int) < (s.2.2.length : Int) := by omega
        have HN := Lib.hid (show addF d (fu + 1) k param ports (!top) f = none from addF_none2 Hmd.out HST.out (by unfold owB; exact decide_eq_false (by rw [Hn.out.2.1, Hn.out.2.2.2]; have := HLz.out; have := HMz.out; omega)))
        go_wp2_with fail
        go_ret
        unfold AddQ
        rw [HN.out]
        exact ⟨HCo.out.trans Hch.out, rfl⟩
end Go.Proofs.Ytlgbdpcobbbglaa

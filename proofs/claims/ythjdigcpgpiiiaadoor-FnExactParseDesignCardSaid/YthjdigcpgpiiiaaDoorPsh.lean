/- Contract: a text read as a design: the program's function. -/
import Derived.Test.YthjdigcpgpiiiaaDoorGn
import Derived.Test.YthjdigcpgpiiiaaDoorFdl
import Derived.Deep.CutRange
import Derived.Outline
namespace Go.Proofs.YthjdigcpgpiiiaaDoor
open Go.RowKit

def PdQ (s : ByteArray) (w : World) (e : Ending) (w' : World) : Prop :=
 ∃ v', e = .returned (.tuple #[v', .bool (pdB s)]) ∧ QDesign w' (New w w') v' (pdD s) ∧ Below w.heap.size w w'
/-- a line's text -/
def jb (f : List ByteArray) : ByteArray := bt (joinW (f.map byt))
theorem bt_inj {a b : List Wd8} : a.map bt = b.map bt ↔ a = b := by
 constructor
 ·intro h
  have h1 := congrArg (List.map byt) h
  rw [List.map_map, List.map_map] at h1
  have e : byt ∘ bt = id := by funext l; rfl
  rw [e, List.map_id, List.map_id] at h1
  exact h1
 ·rintro rfl
  rfl
theorem jb_map (fs : Fls) : fs.map jb = ((fldW fs).map joinW).map bt := by
 unfold fldW jb
 rw [List.map_map, List.map_map]
 rfl
theorem pd_no1 {s : ByteArray} (h : pdO s = none) : pdB s = false ∧ pdD s = [] := by unfold pdB pdD; rw [h]; exact ⟨rfl, rfl⟩
theorem pd_yes1 {s : ByteArray} {d : TDesign} (h : pdO s = some d) : pdB s = true ∧ pdD s = d := by unfold pdB pdD; rw [h]; exact ⟨rfl, rfl⟩
theorem pd_noI {s : ByteArray} {fs : Fls} (hs : s.size ≤ 20000) (hf : flsF (tlR s) = some fs) (h : ¬ (designB (rdAllI (fldW fs)) = true ∧ (linesD (rdAllI (fldW fs))).map bt = fs.map jb)) : pdO s = none := by
 rw [pdO_some hs hf]
 unfold parsI
 rw [jb_map, bt_inj] at h
 exact if_neg h
theorem pd_yesI {s : ByteArray} {fs : Fls} (hs : s.size ≤ 20000) (hf : flsF (tlR s) = some fs) (h : designB (rdAllI (fldW fs)) = true) (h2 : (linesD (rdAllI (fldW fs))).map bt = fs.map jb) : pdO s = some (rdAllI (fldW fs)) := by
 rw [pdO_some hs hf]
 unfold parsI
 rw [jb_map, bt_inj] at h2
 exact if_pos ⟨h, h2⟩
theorem fldW_snoc {fs : Fls} {k : Nat} {f : List ByteArray} (h : fs[k]? = some f) : fldW (fs.take (k + 1)) = fldW (fs.take k) ++ [f.map byt] := by
 rw [List.take_add_one, h, fldW_app]
 rfl
-- the result: $1 its world $2 value of the struct's cell $3 bool $4 facts of the result cell's block $5 Below
set_option maxRecDepth 100000 in
set_option maxHeartbeats 16000000 in
theorem i_ParseDesign (s : ByteArray) (hs : s.size ≤ 1099511627776) (w : World) (hsg : SignsAt w) : Calls Tryd.prog 6 #[.string s] w (PdQ s w) := by
 obtain ⟨U0, hU0⟩ : ∃ U0, U0 = w.alloc (.cells #[.slice none 0 0] 24) := ⟨_, rfl⟩
 have HB0 := Lib.hid (show Below w.heap.size w U0 by rw [hU0]; exact ((Below.refl _ _).alloc (Nat.le_refl _) _))
 have HX := Lib.hid (show Blk U0 w.heap.size 24 #[.slice none 0 0] by rw [hU0]; exact (Blk.new _ _ _))
 have hu0 : w.heap.size < U0.heap.size := HX.out.lt
 have HU0 := Lib.hid hU0
 clear hU0
 go_enter Tryd.func6, Tryd.ntmps6
 by_cases hsz : s.size ≤ 20000
 ·have g0 : (s.size : Int) ≤ 20000 := by omega
  go_wp2_with fail
  rw [← HU0.out]
  refine (i_fieldLines s hsz U0).mono ?_
  rintro e w2 ⟨hb2, hfl⟩
  have zz2 := hb2.size
  have HB2 := Lib.hid (HB0.out.trans (hb2.mono (by omega)))
  have HX2 := Lib.hid (HX.out.below hb2 HX.out.lt)
  clear hb2
  cases hF : flsF (tlR s) with
  | none =>
   rw [hF] at hfl
   subst hfl
   have HN := Lib.hid (pd_no1 (pdO_none hF))
   clear hF
   have f0 := HX2.out.frozen 0
   have y9 := blkS1 HX2.out
   go_wp2_with fail
   obtain ⟨wf, hwf⟩ : ∃ wf, wf = w2.setCell ⟨w.heap.size, 0, none⟩ (.slice none 0 0) := ⟨_, rfl⟩
   have hRf : Blk wf w.heap.size 24 #[.slice none 0 0] := by rw [hwf]; exact HX2.out.set_ 0 _
   have hBf : Below w.heap.size w wf := by rw [hwf]; exact HB2.out.setCell (Nat.le_refl _) _
   have s0 := blkS1 hRf
   rw [← hwf]
   refine bodyPost_ret (v := .tuple #[.agg #[.slice none 0 0], .bool false]) (by simp [results, Tryd.results6, go_sem, s0]) rfl ?_
   unfold PdQ
   rw [HN.out.1, HN.out.2]
   exact ⟨_, rfl, dsn_nil _ _, hBf⟩
  | some fs =>
  rw [hF] at hfl
  obtain ⟨fv, rfl, hfr⟩ := hfl
  obtain ⟨hfg, hfn⟩ := flsF_ok hsz hF
  have HF := Lib.hid hF
  have Hfg := Lib.hid hfg
  obtain ⟨n, hn⟩ : ∃ n, fs.length = n := ⟨_, rfl⟩
  obtain ⟨vals, hfo, hva⟩ := hfr
  obtain ⟨Af, cf, rfl, _, _, hfa⟩ := own_form hfo
  rw [hn] at hfo hfn hfa ⊢
  have Hn := Lib.hid hn
  have HFo := Lib.hid hfo
  have Hva := Lib.hid hva
  have Hfa := Lib.hid hfa
  clear hF hfg hfo hva hn hfa
  obtain ⟨w3, hw3⟩ : ∃ w3, w3 = w2.alloc (.cells #[.slice none 0 0] 24) := ⟨_, rfl⟩
  have HB3 := Lib.hid (show Below w2.heap.size w2 w3 by rw [hw3]; exact ((Below.refl _ _).alloc (Nat.le_refl _) _))
  have HD3 := Lib.hid (show Blk w3 w2.heap.size 24 #[.slice none 0 0] by rw [hw3]; exact (Blk.new _ _ _))
  have hu3 : w2.heap.size < w3.heap.size := HD3.out.lt
  have Hs3 := Lib.hid (show w3.heap.size = w2.heap.size + 1 by rw [hw3]; simp)
  have HW3 := Lib.hid hw3
  clear hw3
  go_wp2_with fail
  rw [← HW3.out]
  go_loopw [7, 9, 26] (fun lv _ iv wr => ∃ (k lo : Nat) (ov : Value) (D : TDesign), k ≤ n ∧ iv = .int .i64 k ∧ wr.ownsRow w3.heap.size 9 1 lv k (strs ((fs.take k).map jb)) ∧ Blk wr w2.heap.size 24 #[ov] ∧ MdI wr w3.heap.size lo ov D ∧ Hid (D = (fldW (fs.take k)).foldl rdDI []) ∧ w3.heap.size ≤ lo ∧ lo ≤ wr.heap.size ∧ Below w2.heap.size w2 wr) (fun _ _ iv _ => n - (intOf iv).toNat)
  case atStart => exact ⟨0, w3.heap.size, _, [], Nat.zero_le _, rfl, World.ownsRow_nil _ _ _ _, HD3.out, .inl ⟨rfl, rfl⟩, Lib.hid rfl, Nat.le_refl _, Nat.le_refl _, HB3.out⟩
  case round =>
   obtain ⟨k, lo, ov, D, hk, rfl, hown, hbd, hmd, hD, hlo0, hlo, hb⟩ := hrel
   have hszr := hb.size
   have Hb := Lib.hid hb
   have Hown := Lib.hid hown
   have Hbd := Lib.hid hbd
   have Hmd := Lib.hid hmd
   have g1 : (0 : Int) ≤ (k : Int) := by omega
   have HX6 := Lib.hid (HX2.out.below hb HX2.out.lt)
   have hDz : sDesign D ≤ 41 * k := by
    rw [hD.out]
    have h1 := rdAllI_sz (fl := fldW (fs.take k)) (fun f hf => fldW_40 Hfg.out f (by unfold fldW at hf ⊢; rw [List.map_take] at hf; exact List.mem_of_mem_take hf)) []
    rw [fldW_len, List.length_take] at h1
    have h0 : sDesign [] = 0 := rfl
    omega
   clear hown hbd hmd hb
   by_cases hlt : k < n
   ·obtain ⟨f, hf⟩ : ∃ f, fs[k]? = some f := ⟨_, List.getElem?_eq_getElem (by rw [Hn.out]; exact hlt)⟩
    obtain ⟨hf0, hf40, hfx⟩ := Hfg.out f (List.mem_of_getElem? hf)
    obtain ⟨Ax, cx, hv, hfo⟩ := Hva.out k f hf
    have Hs := Lib.hid (fldW_snoc hf)
    have Hj := Lib.hid (show (fs.take (k + 1)).map jb = (fs.take k).map jb ++ [jb f] by rw [List.take_add_one, hf, List.map_append]; rfl)
    obtain ⟨m, hm⟩ : ∃ m, f.length = m := ⟨_, rfl⟩
    rw [hm] at hf40 hv hfo
    have hm0 : 0 < m := by rw [← hm]; exact List.length_pos_iff.2 hf0
    obtain ⟨gf, hgf, _⟩ := Hfa.out (by omega)
    subst hgf
    have hck : wr.cell? ⟨gf, k, none⟩ = some (.slice Ax m cx) := by
     have h1 := (own_below HFo.out Hb.out (Nat.le_refl _)).cellAt k (by omega)
     rw [hv] at h1
     exact h1
    have HFO := Lib.hid hfo
    have Hfx := Lib.hid hfx
    have HR6 := Lib.hid (Reads.of_own (own_below hfo Hb.out (Nat.le_refl _)))
    have g2 : (k : Int) < (n : Int) := by omega
    clear hf hf0 hfx hv hfo hm
    go_wp2_with fail
    refine (i_joinWords HR6.out hf40 (fun x hx => (Hfx.out x hx).2.1)).mono ?_
    rintro e w4 ⟨rfl, rfl⟩
    obtain ⟨t, ht⟩ : ∃ t, t = joinW (f.map byt) := ⟨_, rfl⟩
    have Ht := Lib.hid (show jb f = ⟨t.toArray⟩ by rw [ht]; rfl)
    rw [← ht]
    clear ht
    obtain ⟨Ao, co, rfl, _, _, _⟩ := own_form Hown.out
    obtain ⟨i0, hi, hz0, hz1, hz2⟩ := info_parts Tryd.infoStr
    go_wp2_with (at_builtin; refine wpList_append_any _ rfl _ _ 43 rfl (w3.heap.size) 9 i0 (.string ByteArray.empty) 1 16 Tryd.underlying43 hi hz0 hz1 hz2 rfl (by decide) _ _ _ rfl (Hown.out.alloc _) _ _ 1 1 _ rfl (reads_new _ _ 1 1 rfl) (by intro u hu; simp at hu; first | (subst hu; rfl) | (rcases hu with rfl | rfl <;> rfl) | (rcases hu with rfl | rfl | rfl <;> rfl)) (by unfold maxLen; omega) (by omega) (by (try simp) <;> (try omega)) ?_; intro v8 w8 hown8 hgrow8 hblk8; refine stopX ?_)
    have hbl := (Below.refl wr.heap.size wr).alloc (Nat.le_refl _) (.cells #[.string ⟨t.toArray⟩] 9)
    have ho6 := own_below Hown.out hbl (Nat.le_refl _)
    have HM8 := Lib.hid ((Hmd.out.below hbl hlo0 hlo).only (only_row hgrow8) (grown_not ho6 (by decide)) hlo0 (by have := hbl.size; omega))
    have HD8 := Lib.hid ((Hbd.out.below hbl Hbd.out.lt).grown hgrow8 (fun e => by have := (Hown.out.lt _ e.symm).1; omega))
    have HB8 := Lib.hid (Hb.out.trans ((hbl.mono hszr).trans (below_of_grown hgrow8 (by simp; omega) (fun g hg => by have := (Hown.out.lt g hg).1; omega))))
    have HL8 := Lib.hid (show w8.ownsRow w3.heap.size 9 1 v8 (k + 1) (strs ((fs.take (k + 1)).map jb)) by rw [Hj.out, strs, List.map_append, List.map_singleton, Ht.out]; exact hown8)
    have zz8 := HB8.out.size
    have zr8 : wr.heap.size ≤ w8.heap.size := by have h1 := hgrow8.size; have h2 := hbl.size; omega
    clear hown8 hgrow8 hblk8 hbl ho6 hi hz0 hz1 hz2
    have HFx := Lib.hid (own_below HFO.out HB8.out (Nat.le_refl _))
    obtain ⟨g0, hg0, _⟩ : ∃ g, Ax = some ⟨g, 0, none⟩ ∧ True := by
     obtain ⟨_, _, hv, _, _, h2⟩ := own_form HFx.out
     injection hv with hA
     obtain ⟨g, h3, _⟩ := h2 hm0
     exact ⟨g, hA.trans h3, trivial⟩
    subst hg0
    obtain ⟨x, hx⟩ : ∃ x, f[0]? = some x := by
     cases h : f[0]? with
     | none => have h1 := HFx.out.1; rw [List.getElem?_eq_none_iff] at h; simp [strs] at h1; omega
     | some x => exact ⟨x, rfl⟩
    have hx0 : w8.cell? ⟨g0, 0, none⟩ = some (.string x) := by
     have h1 := HFx.out.cellAt 0 (by omega)
     rw [strs_get, hx] at h1
     exact h1
    have Ha := Lib.hid (at0_some hx)
    have y0 := blkS1 HD8.out
    have gm1 : (0 : Int) < (m : Int) := by omega
    clear hx hck
    refine stopped ?_
    by_cases h0 : byt x = wMod
    ·have e0 : (x.toList == ([109, 111, 100, 117, 108, 101] : List UInt8)) = true := is_word h0
     have HN := Lib.hid (show (fldW (fs.take (k + 1))).foldl rdDI [] = D ++ [noMod] by
      rw [Hs.out, List.foldl_append, ← hD.out, List.foldl_cons, List.foldl_nil]
      unfold rdDI
      rw [Ha.out, if_pos h0])
     obtain ⟨xs, hcl⟩ := HM8.out.close hlo0 (by omega) (by omega)
     obtain ⟨Ad, cd, rfl⟩ := hcl.form
     obtain ⟨nd, hnd⟩ : ∃ nd, D.length = nd := ⟨_, rfl⟩
     have hndz : nd ≤ 1048576 := by rw [← hnd]; have := szL_eq sModule D; have e : sDesign D = szL sModule D := rfl; omega
     rw [hnd] at hcl y0 HD8
     have Hcl := Lib.hid hcl
     have Hco := Lib.hid (show w8.ownsRow w3.heap.size 42 4 (.slice Ad nd cd) nd xs by rw [← hnd]; rw [← hnd] at hcl; exact hcl.1)
     have Hnd := Lib.hid hnd
     obtain ⟨i0, hi, hz0, hz1, hz2⟩ := info_parts Tryd.infModuleC
     clear hcl hnd h0
     go_wp2_with (at_builtin; refine wpList_append_any _ rfl _ _ 22 rfl (w3.heap.size) 42 i0 (.agg #[.slice none 0 0, .slice none 0 0, .slice none 0 0, .slice none 0 0]) 4 96 Tryd.underlying22 hi hz0 hz1 hz2 rfl (by decide) _ _ _ rfl (Hco.out.alloc _) _ _ 1 1 _ rfl (reads_new _ _ 1 4 rfl) (by intro u hu; simp at hu; first | (subst hu; rfl) | (rcases hu with rfl | rfl <;> rfl) | (rcases hu with rfl | rfl | rfl <;> rfl) | (rcases hu with rfl | rfl | rfl | rfl <;> rfl)) (by unfold maxLen; omega) (by omega) (by (try simp) <;> (try omega)) ?_; intro v9 w9 hown9 hgrow9 hblk9; refine stopX ?_)
     have hbl := (Below.refl w8.heap.size w8).alloc (Nat.le_refl _) (.cells #[.slice none 0 0, .slice none 0 0, .slice none 0 0, .slice none 0 0] 42)
     have hb1 := hbl.size
     have HM9 := Lib.hid ((Hcl.out.below hbl (Nat.le_refl _)).opened (by rw [Hnd.out]; exact hown9) hgrow9 hb1)
     have HD9 := Lib.hid ((HD8.out.below hbl HD8.out.lt).grown hgrow9 (fun e => by have := (Hco.out.lt _ e.symm).1; omega))
     have HB9 := Lib.hid (HB8.out.trans ((hbl.mono zz8).trans (below_of_grown hgrow9 (by simp; omega) (fun g hg => by have := (Hco.out.lt g hg).1; omega))))
     have HL9 := Lib.hid (row_kept (own_below HL8.out hbl (Nat.le_refl _)) (own_below Hco.out hbl (Nat.le_refl _)) (by decide) hgrow9)
     obtain ⟨A9, c9, rfl, _, _, _⟩ := own_form hown9
     have z9 := hgrow9.size
     have f9 := HD9.out.frozen 0
     have y9 := blkS1 HD9.out
     clear hown9 hgrow9 hblk9 hbl hi hz0 hz1 hz2 y0
     refine stopped ?_
     go_wp2_with fail
     obtain ⟨wf, hwf⟩ : ∃ wf, wf = w9.setCell ⟨w2.heap.size, 0, none⟩ (.slice A9 (nd + 1) c9) := ⟨_, rfl⟩
     have hsf : wf.heap.size = w9.heap.size := by rw [hwf]; simp [World.setCell]
     have hof : Only (fun b => b = w2.heap.size) w9 wf := by rw [hwf]; exact (Only.refl (fun b => b = w2.heap.size) w9).setCell (p := ⟨w2.heap.size, 0, none⟩) (.inl rfl) _
     have HDf := Lib.hid (show Blk wf w2.heap.size 24 #[.slice A9 (nd + 1) c9] by rw [hwf]; exact HD9.out.set_ 0 _)
     have HMf := Lib.hid (HM9.out.only hof (fun b t hb hl ht hm => by omega) (by omega) (Nat.le_refl _))
     have HLf := Lib.hid (own_keep HL9.out (fun g hg => hof.block g (HL9.out.lt g hg).2 (fun hC => by have := (HL9.out.lt g hg).1; omega)))
     have HBf := Lib.hid (show Below w2.heap.size w2 wf by rw [hwf]; exact HB9.out.setCell (p := ⟨w2.heap.size, 0, none⟩) (Nat.le_refl _) _)
     rw [← hwf]
     clear hwf hof
     go_roundw
     case rel => exact ⟨k + 1, w9.heap.size, _, D ++ [noMod], by omega, by go_num, HLf.out, HDf.out, HMf.out, Lib.hid HN.symm, by omega, by omega, HBf.out⟩
     case measure => simp [intOf]; omega
    ·have e0 : (x.toList == ([109, 111, 100, 117, 108, 101] : List UInt8)) = false := not_word h0
     have HN := Lib.hid (show (fldW (fs.take (k + 1))).foldl rdDI [] = rdDI D (f.map byt) by rw [Hs.out, List.foldl_append, ← hD.out, List.foldl_cons, List.foldl_nil])
     have Hne := Lib.hid (show ¬ at0 (f.map byt) 0 = wMod by rw [Ha.out]; exact h0)
     rcases HM8.out with ⟨rfl, rfl⟩ | ⟨D', md, gm, cm, xs0, v0, v1, v2, v3, rfl, rfl, hgm, hop, hrw⟩
     ·have HN2 := Lib.hid (show (fldW (fs.take (k + 1))).foldl rdDI [] = [] by rw [HN.out]; unfold rdDI; rw [if_neg Hne.out]; rfl)
      clear h0
      go_wp2_with fail
      go_roundw
      case rel => exact ⟨k + 1, lo, _, [], by omega, by go_num, HL8.out, HD8.out, .inl ⟨rfl, rfl⟩, Lib.hid HN2.out.symm, by omega, by omega, HB8.out⟩
      case measure => simp [intOf]; omega
     ·have HN2 := Lib.hid (show (fldW (fs.take (k + 1))).foldl rdDI [] = D' ++ [rdLnI md (f.map byt)] by rw [HN.out]; exact rdDI_in Hne.out)
      obtain ⟨nq, hnq⟩ : ∃ nq, D'.length = nq := ⟨_, rfl⟩
      have hl1 := dsn_last D' md
      obtain ⟨b0, b1, b2, b3⟩ := mod_lens md
      rw [hnq] at hop y0 HD8 hl1
      have Hop := Lib.hid hop
      have Hrw := Lib.hid hrw
      have Hnq := Lib.hid hnq
      have g3 : (0 : Int) < (nq : Int) + 1 := by omega
      have g4 : (0 : Int) ≤ (nq : Int) := by omega
      have g5 : (nq : Int) < (nq : Int) + 1 := by omega
      clear h0 hop hrw hnq HN
      go_wp2_with fail
      refine (i_readLine Hop.out (by omega) HFx.out hm0 hf40 (fun x hx => (Hfx.out x hx).2.1) (by omega) (by omega) (by omega) (by omega) (hsg.below (HB2.out.trans (HB8.out.mono (by omega))))).mono ?_
      rintro e w9 ⟨rfl, hc9, u0, u1, u2, u3, ho9⟩
      have ho9' : OpM w9 lo gm D'.length cm xs0 u0 u1 u2 u3 (rdLnI md (f.map byt)) := by rw [Hnq.out]; exact ho9
      have hM9 := MdI.read hgm ho9' Hrw.out (own_of Hop.out.row rfl) hc9
      rw [Hnq.out] at hM9
      have HM9 := Lib.hid hM9
      have HD9 := Lib.hid (hc9.blk HD8.out (by decide) (by omega))
      have HL9 := Lib.hid (hc9.own HL8.out (by decide) (fun g hg e => by subst e; exact absurd ((own_of HL8.out hg).inj (own_of Hop.out.row rfl)) (by decide)))
      have HB9 := Lib.hid (HB8.out.trans ((hc9.lo_mono (by omega)).below zz8 (fun b hb => by omega)))
      have z9 := hc9.size
      clear ho9 ho9' hM9 hc9
      go_wp2_with fail
      go_roundw
      case rel => exact ⟨k + 1, lo, _, D' ++ [rdLnI md (f.map byt)], by omega, by go_num, HL9.out, HD9.out, HM9.out, Lib.hid HN2.out.symm, by omega, by omega, HB9.out⟩
      case measure => simp [intOf]; omega
   ·have hkn : k = n := by omega
    subst hkn
    have HDe := Lib.hid (show D = rdAllI (fldW fs) by rw [hD.out, List.take_of_length_le (by rw [Hn.out]; exact Nat.le_refl _)]; rfl)
    have hown := Hown.out
    rw [List.take_of_length_le (by rw [Hn.out]; exact Nat.le_refl _)] at hown
    obtain ⟨Al, cl, rfl, _, _, _⟩ := own_form hown
    have Hlr := Lib.hid (Reads.of_own hown)
    obtain ⟨xs, hcl⟩ := Hmd.out.close hlo0 hlo (by omega)
    obtain ⟨Ad, cd, rfl⟩ := hcl.form
    obtain ⟨nd, hnd⟩ : ∃ nd, D.length = nd := ⟨_, rfl⟩
    have hndz : D.length ≤ 1048576 := by have := szL_eq sModule D; have e : sDesign D = szL sModule D := rfl; omega
    have Hcl := Lib.hid hcl
    have HR := Lib.hid ((hcl.dsn (S := fun b => w3.heap.size ≤ b ∧ b < wr.heap.size) hndz (fun b h1 h2 => ⟨h1, h2⟩)).r)
    have Hnz := Lib.hid hndz
    rw [hnd] at Hbd HR Hcl
    have y0 := blkS1 Hbd.out
    have g2 : (k : Int) ≤ (k : Int) := Int.le_refl _
    have HBw := Lib.hid (HB2.out.trans (Hb.out.mono (by omega)))
    clear hown hcl hnd hndz
    go_wp2_with fail
    refine (i_designLines (by omega) HR.out (fun b hb => hb.2) (hsg.below HBw.out)).mono ?_
    rintro e w5 ⟨v5, rfl, hq5, hb5⟩
    obtain ⟨A5, n5, c5, rfl⟩ := slv_of hq5.rep
    have HX5 := Lib.hid (HX6.out.below hb5 HX6.out.lt)
    have HD5 := Lib.hid (Hbd.out.below hb5 Hbd.out.lt)
    have HB5 := Lib.hid (HBw.out.trans (hb5.mono (by omega)))
    have Hlr5 := Lib.hid (Hlr.out.below hb5)
    have Hcl5 := Lib.hid (Hcl.out.below hb5 (Nat.le_refl _))
    have z5 := hb5.size
    clear y0 hb5
    cases hd : designB D with
    | false =>
     have HN := Lib.hid (pd_no1 (pd_noI hsz HF.out (fun h => by rw [← HDe.out, hd] at h; exact absurd h.1 (by simp))))
     clear hd hq5
     have f0 := HX5.out.frozen 0
     have y9 := blkS1 HX5.out
     go_wp2_with fail
     obtain ⟨wf, hwf⟩ : ∃ wf, wf = w5.setCell ⟨w.heap.size, 0, none⟩ (.slice none 0 0) := ⟨_, rfl⟩
     have hRf : Blk wf w.heap.size 24 #[.slice none 0 0] := by rw [hwf]; exact HX5.out.set_ 0 _
     have hBf : Below w.heap.size w wf := by rw [hwf]; exact HB5.out.setCell (Nat.le_refl _) _
     have s0 := blkS1 hRf
     rw [← hwf]
     refine bodyPost_ret (v := .tuple #[.agg #[.slice none 0 0], .bool false]) (by simp [results, Tryd.results6, go_sem, s0]) rfl ?_
     unfold PdQ
     rw [HN.out.1, HN.out.2]
     exact ⟨_, rfl, dsn_nil _ _, hBf⟩
    | true =>
     rw [dlR_yes hd] at hq5
     have hn5 : (linesD D).length = n5 := by have := hq5.len; rw [List.length_map, List.length_map] at this; exact this
     have hn6 : n5 ≤ 268 := by rw [← hn5]; exact linesD_len hd
     have Hd := Lib.hid hd
     have HR5 := Lib.hid (strs_reads hq5.rep (B := w5.heap.size) (fun b hb => hb.2))
     clear hd hq5 hn5
     go_wp2_with fail
     refine (i_sameWords (by omega) (by omega) HR5.out Hlr5.out (Nat.le_refl _) z5).mono ?_
     rintro e w6 ⟨rfl, hb6⟩
     have HX6' := Lib.hid (HX5.out.below hb6 HX5.out.lt)
     have HD6 := Lib.hid (HD5.out.below hb6 HD5.out.lt)
     have HB6 := Lib.hid (HB5.out.trans (hb6.mono (by omega)))
     have Hcl6 := Lib.hid (Hcl5.out.below hb6 z5)
     have z6 := hb6.size
     clear hb6
     by_cases heq : (linesD D).map bt = fs.map jb
     ·have HN := Lib.hid (pd_yes1 (pd_yesI hsz HF.out (by rw [← HDe.out]; exact Hd.out) (by rw [← HDe.out]; exact heq)))
      rw [decide_eq_true heq]
      have y0 := blkS1 HD6.out
      clear heq
      have f0 := HX6'.out.frozen 0
      have y9 := blkS1 HX6'.out
      go_wp2_with fail
      obtain ⟨wf, hwf⟩ : ∃ wf, wf = w6.setCell ⟨w.heap.size, 0, none⟩ (.slice Ad nd cd) := ⟨_, rfl⟩
      have hRf : Blk wf w.heap.size 24 #[.slice Ad nd cd] := by rw [hwf]; exact HX6'.out.set_ 0 _
      have hBf : Below w.heap.size w wf := by rw [hwf]; exact HB6.out.setCell (Nat.le_refl _) _
      have s0 := blkS1 hRf
      rw [← hwf]
      refine bodyPost_ret (v := .tuple #[.agg #[.slice Ad nd cd], .bool true]) (by simp [results, Tryd.results6, go_sem, s0]) rfl ?_
      unfold PdQ
      rw [HN.out.1, HN.out.2, ← HDe.out]
      have hcf : MdC wf w3.heap.size wr.heap.size (.slice Ad nd cd) D xs := by
       rw [hwf]
       exact Hcl6.out.only ((Only.refl (fun b => b = w.heap.size) w6).setCell (p := ⟨w.heap.size, 0, none⟩) (.inl rfl) _) (fun b t hb hl ht hm => by omega) (by omega)
      exact ⟨_, rfl, hcf.dsn Hnz.out (fun b h1 h2 => ⟨by omega, h2⟩), hBf⟩
     ·have HN := Lib.hid (pd_no1 (pd_noI hsz HF.out (fun h => by rw [← HDe.out] at h; exact heq h.2)))
      rw [decide_eq_false heq]
      clear heq
      have f0 := HX6'.out.frozen 0
      have y9 := blkS1 HX6'.out
      go_wp2_with fail
      obtain ⟨wf, hwf⟩ : ∃ wf, wf = w6.setCell ⟨w.heap.size, 0, none⟩ (.slice none 0 0) := ⟨_, rfl⟩
      have hRf : Blk wf w.heap.size 24 #[.slice none 0 0] := by rw [hwf]; exact HX6'.out.set_ 0 _
      have hBf : Below w.heap.size w wf := by rw [hwf]; exact HB6.out.setCell (Nat.le_refl _) _
      have s0 := blkS1 hRf
      rw [← hwf]
      refine bodyPost_ret (v := .tuple #[.agg #[.slice none 0 0], .bool false]) (by simp [results, Tryd.results6, go_sem, s0]) rfl ?_
      unfold PdQ
      rw [HN.out.1, HN.out.2]
      exact ⟨_, rfl, dsn_nil _ _, hBf⟩
 ·have g0 : (20000 : Int) < (s.size : Int) := by omega
  have HN := Lib.hid (pd_no1 (pdO_long hsz))
  go_wp2_with fail
  rw [← HU0.out]
  have s0 := blkS1 HX.out
  refine bodyPost_ret (v := .tuple #[.agg #[.slice none 0 0], .bool false]) (by simp [results, Tryd.results6, go_sem, s0]) rfl ?_
  unfold PdQ
  rw [HN.out.1, HN.out.2]
  exact ⟨_, rfl, dsn_nil _ _, HB0.out⟩
end Go.Proofs.YthjdigcpgpiiiaaDoor

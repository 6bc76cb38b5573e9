/- Contract: a text read as a design: the reference's function. -/
import Derived.Test.YthjdigcpgpiiiaaDoorPsj
import Derived.Deep.CutRange
import Derived.Outline
namespace Go.Proofs.YthjdigcpgpiiiaaDoor
open Go.RowKit

theorem MdC.chp {w w' : World} {lo0 lo : Nat} {ov : Value} {D : TDesign} {xs : List Value} (h : MdC w lo0 lo ov D xs) (hc : ChP lo rlT (fun _ => False) w w') : MdC w' lo0 lo ov D xs := by
 have hk : ∀ b, ClB w lo0 lo b → w'.heap[b]? = w.heap[b]? := fun b hb => by
  obtain ⟨C, c1, c2⟩ := hc
  refine c1.block b hb.2.lt (fun hC => ?_)
  rcases c2 b hC hb.2.lt with h | ⟨c3, _⟩
  ·exact h
  ·have := hb.1.2
   omega
 exact ⟨hc.own h.1 (by decide) (fun g hg h => h), h.2.keep hk (fun b hb => ⟨hb.1, hb.2.keep (hk b hb)⟩)⟩
theorem fls_forms {w : World} {lo : Nat} {v0 v1 v2 v3 : Value} {a : List TSignal} {b : List TAssign} {c : List TMem} {d : List TInst} (h : FlS w lo v0 v1 v3 a b c) (hi : InS w lo v2 d) :
  ∃ A0 n0 c0 A1 n1 c1 A2 n2 c2 A3 n3 c3, v0 = .slice A0 n0 c0 ∧ v1 = .slice A1 n1 c1 ∧ v2 = .slice A2 n2 c2 ∧ v3 = .slice A3 n3 c3 := by
 obtain ⟨h0, ⟨R1, x1, h1⟩, h3⟩ := h
 obtain ⟨R2, x2, h2⟩ := hi
 obtain ⟨A0, c0, rfl, _, _, _⟩ := own_form h0
 obtain ⟨A1, c1, rfl, _, _, _⟩ := own_form h1.own
 obtain ⟨A2, c2, rfl, _, _, _⟩ := own_form h2.own
 obtain ⟨A3, c3, rfl, _, _, _⟩ := own_form h3
 exact ⟨_, _, _, _, _, _, _, _, _, _, _, _, rfl, rfl, rfl, rfl⟩
theorem fld_at2 {w : World} {fb g0 n cc : Nat} {fs : List ByteArray} (h : w.ownsRow fb 9 1 (.slice (some ⟨g0, 0, none⟩) n cc) n (strs fs)) {i : Nat} (hi : i < n) :
  ∃ x, fs[i]? = some x ∧ x ∈ fs ∧ w.cell? ⟨g0, i, none⟩ = some (.string x) := by
 have hl : fs.length = n := (Reads.of_own h).slen
 have hx : fs[i]? = some fs[i] := List.getElem?_eq_getElem (by omega)
 refine ⟨fs[i], hx, List.mem_of_getElem? hx, ?_⟩
 have h1 := h.cellAt i (by omega)
 rw [strs_get, hx] at h1
 exact h1
theorem pd_noS {s : ByteArray} {fs : Fls} {t : RdSt} (hs : s.size ≤ 20000) (hf : foldS0 (tlR s) = some (fs, t)) (h : ¬ (t.2.2 = false ∧ designB t.1 = true ∧ (linesD t.1).map bt = fs.map jb)) : pdO s = none := by
 rw [pdO_foldY hs hf]
 rw [jb_map, bt_inj] at h
 exact if_neg h
theorem pd_yesS {s : ByteArray} {fs : Fls} {t : RdSt} (hs : s.size ≤ 20000) (hf : foldS0 (tlR s) = some (fs, t)) (h0 : t.2.2 = false) (h : designB t.1 = true) (h2 : (linesD t.1).map bt = fs.map jb) : pdO s = some t.1 := by
 rw [pdO_foldY hs hf]
 rw [jb_map, bt_inj] at h2
 exact if_pos ⟨h0, h, h2⟩
-- the result: $1 its world $2 value of the struct's cell $3 bool $4 facts of the result cell's block $5 Below
-- no module is open
-- 'module'
-- 'end'
set_option maxRecDepth 100000 in
set_option maxHeartbeats 16000000 in
theorem s_ParseDesign (s : ByteArray) (hs : s.size ≤ 1099511627776) (w : World) : Calls Tryd.prog 5 #[.string s] w (PdQ s w) := by
 obtain ⟨U0, hU0⟩ : ∃ U0, U0 = w.alloc (.cells #[.slice none 0 0] 24) := ⟨_, rfl⟩
 have HB0 := Lib.hid (show Below w.heap.size w U0 by rw [hU0]; exact ((Below.refl _ _).alloc (Nat.le_refl _) _))
 have HX := Lib.hid (show Blk U0 w.heap.size 24 #[.slice none 0 0] by rw [hU0]; exact (Blk.new _ _ _))
 have hu0 : w.heap.size < U0.heap.size := HX.out.lt
 have HU0 := Lib.hid hU0
 have hu1 : U0.heap.size = w.heap.size + 1 := by rw [hU0]; simp
 have Hu1 := Lib.hid hu1
 clear hU0 hu1
 go_enter Tryd.func5, Tryd.ntmps5
 by_cases hsz : s.size ≤ 20000
 ·have g0 : (s.size : Int) ≤ 20000 := by omega
  obtain ⟨U, hU⟩ : ∃ U, U = ((U0.alloc (.cells #[.slice none 0 0] 24)).alloc (.cells #[.slice none 0 0, .slice none 0 0, .slice none 0 0, .slice none 0 0] 42)).alloc (.cells #[] 9) := ⟨_, rfl⟩
  have HBU := Lib.hid (show Below w.heap.size w U by rw [hU]; exact ((HB0.out.alloc (by omega) _).alloc (by simp; omega) _).alloc (by simp; omega) _)
  have hzU : U.heap.size = w.heap.size + 4 := by rw [hU]; simp [Hu1.out]
  have HP := Lib.hid (show PsS U w.heap.size (w.heap.size + 3) (.slice none 0 0) (.slice none 0 0) (.slice none 0 0) (.slice none 0 0) (.slice none 0 0) [] st0S by
   refine ⟨?_, ?_, ?_, MdC.nil _ _ _, fun h => absurd h (by decide), Nat.le_refl _, by omega⟩
   ·rw [hU]; exact ((HX.out.alloc _).alloc _).alloc _
   ·rw [hU, ← Hu1.out]; exact ((Blk.new _ _ _).alloc _).alloc _
   ·rw [hU]; exact (blk_new_at (by simp [Hu1.out])).alloc _)
  have HE := Lib.hid (show U.ownsRow (w.heap.size + 3) 9 1 (.slice (some ⟨w.heap.size + 3, 0, none⟩) 0 0) 0 (strs []) by
   have h := own_strs0 ((U0.alloc (.cells #[.slice none 0 0] 24)).alloc (.cells #[.slice none 0 0, .slice none 0 0, .slice none 0 0, .slice none 0 0] 42))
   rw [← hU] at h
   simp only [World.size_alloc] at h
   rw [Hu1.out] at h
   exact h)
  go_wp2_with fail
  rw [← HU0.out, show w.heap.size + 1 + 1 + 1 = w.heap.size + 3 from rfl, show w.heap.size + 1 + 1 = w.heap.size + 2 from rfl]
  rw [← hU]
  clear hU
  go_loopw [6, 7, 8, 9, 10, 11, 12, 13, 14, 15] (fun bv lv gv iv _ _ _ _ _ _ wr => ∃ (k lo : Nat) (ov u0 u1 u2 u3 : Value) (xs : List Value) (fs : Fls) (st : RdSt), k ≤ s.size + 1 ∧ iv = .int .i64 k ∧ gv = .int .i64 ((tlx s k).2 : Int) ∧ Hid (foldS0 (tlx s k).1 = some (fs, st)) ∧ bv = .bool st.2.2 ∧ wr.ownsRow (w.heap.size + 3) 9 1 lv fs.length (strs (fs.map jb)) ∧ PsS wr w.heap.size lo ov u0 u1 u2 u3 xs st ∧ Below w.heap.size w wr) (fun _ _ _ iv _ _ _ _ _ _ _ => s.size + 1 - (intOf iv).toNat)
  case atStart => exact ⟨0, w.heap.size + 3, _, _, _, _, _, [], [], st0S, Nat.zero_le _, rfl, by rw [tlx_le (Nat.zero_le _)]; rfl, Lib.hid (by rw [tlx_le (Nat.zero_le _)]; rfl), rfl, HE.out, HP.out, HBU.out⟩
  case round =>
   obtain ⟨k, lo, ov, u0, u1, u2, u3, xs, fs, st, hk, rfl, rfl, hst, rfl, hown, hps, hb⟩ := hrel
   obtain ⟨wa, hwa⟩ : ∃ x, x = wr := ⟨_, rfl⟩
   subst hwa
   have Hb := Lib.hid hb
   have Hown := Lib.hid hown
   have Hps := Lib.hid hps
   have g1 : (0 : Int) ≤ (k : Int) := by omega
   have zzr : w.heap.size + 3 ≤ wa.heap.size := Nat.le_trans hps.l0 hps.l1
   clear hown hps hb
   by_cases hle : k ≤ s.size
   ·have g2 : (k : Int) ≤ (s.size : Int) := by omega
    have Hfold := Lib.hid (show foldS0 (tln s k).1 = some (fs, st) by rw [← tlx_le hle]; exact hst.out)
    obtain ⟨bg, hbg⟩ : ∃ bg, bg = (tln s k).2 := ⟨_, rfl⟩
    have hbk : bg ≤ k := by rw [hbg]; exact (tln_bd s k).2
    rw [tlx_le hle, ← hbg]
    have Hbg := Lib.hid hbg
    clear hst hbg
    by_cases hcut : k = s.size ∨ s.data.toList.getD k 0 = 10
    ·have HX := Lib.hid (tlx_cut hle hcut)
     go_upto_region 11 with fail
     go_cut [40] from 31 to 39 (fun v wc => v = .bool false ∧ wc = wa)
     case first =>
      by_cases hke : k = s.size
      ·have g3 : (s.size : Int) ≤ (k : Int) := by omega
       clear hcut
       go_wp2_with fail
       go_meet
       case rel => exact ⟨rfl, rfl⟩
      ·have hlt : k < s.size := by omega
       have g3 : (k : Int) < (s.size : Int) := by omega
       have h10 : ((s[k].toNat : Int) != 10) = false := by
        have h : s.data.toList.getD k 0 = 10 := hcut.resolve_left hke
        rw [byte_get hlt] at h
        rw [h]
        rfl
       clear hcut hke
       go_wp2_with fail
       go_meet
       case rel => exact ⟨rfl, rfl⟩
     case rest =>
     obtain ⟨rfl, hwc⟩ := hcut
     obtain rfl := hwc.symm
     obtain ⟨l, hl⟩ : ∃ l, l = s.extract bg k := ⟨_, rfl⟩
     have hlz : l.size ≤ 20000 := by rw [hl]; exact Nat.le_trans (ext_size s bg k) hsz
     have HL := Lib.hid (show tlx s (k + 1) = ((tln s k).1 ++ [l], k + 1) by rw [HX.out, hl, Hbg.out])
     have HFS := Lib.hid (show foldS0 (tlx s (k + 1)).1 = stpS (fs, st) l by rw [HL.out]; exact foldS0_snoc Hfold.out l)
     have g3 : (0 : Int) ≤ (bg : Int) := by omega
     have g4 : (bg : Int) ≤ (k : Int) := by omega
     have Hl := Lib.hid hl
     clear hl
     go_wp2_with fail
     rw [← Hl.out]
     refine (s_SplitFields l (by unfold maxLen; omega) wa).mono ?_
     rintro e w4 ⟨A4, c4, rfl, ho4, hb4⟩
     have zz4 := hb4.size
     have HB4 := Lib.hid (Hb.out.trans (hb4.mono (by omega)))
     have Hps4 := Lib.hid (Hps.out.below hb4)
     have Hown4 := Lib.hid (own_below Hown.out hb4 (Nat.le_refl _))
     have Ho4 := Lib.hid ho4
     have Hr4 := Lib.hid Hps4.out.res
     clear ho4 hb4
     cases hok : (spR l).2 with
     | false =>
      have HN := Lib.hid (pd_no1 (pdO_failed (s := s) (k := k + 1) (by rw [HFS.out]; exact stp_bad hok)))
      clear hok
      have f0 := Hr4.out.frozen 0
      have y9 := blkS1 Hr4.out
      go_wp2_with fail
      obtain ⟨wf, hwf⟩ : ∃ wf, wf = w4.setCell ⟨w.heap.size, 0, none⟩ (.slice none 0 0) := ⟨_, rfl⟩
      have hRf : Blk wf w.heap.size 24 #[.slice none 0 0] := by rw [hwf]; exact Hr4.out.set_ 0 _
      have hBf : Below w.heap.size w wf := by rw [hwf]; exact HB4.out.setCell (Nat.le_refl _) _
      have s0 := blkS1 hRf
      rw [← hwf]
      refine bodyPost_ret (v := .tuple #[.agg #[.slice none 0 0], .bool false]) (by simp [results, Tryd.results5, go_sem, s0]) rfl ?_
      unfold PdQ
      rw [HN.out.1, HN.out.2]
      exact ⟨_, rfl, dsn_nil _ _, hBf⟩
     | true =>
     have Hok := Lib.hid hok
     by_cases hem : (spR l).1 = []
     ·have HF1 := Lib.hid (HFS.out.trans (stp_emp hok hem))
      rw [hem]
      clear hok hem
      go_wp2_with fail
      go_roundw
      case rel => exact ⟨k + 1, lo, ov, u0, u1, u2, u3, xs, fs, st, by omega, by go_num, by rw [HL.out]; go_num, HF1, rfl, Hown4.out, Hps4.out, HB4.out⟩
      case measure => simp [intOf]; omega
     ·obtain ⟨f, hf⟩ : ∃ f, f = (spR l).1 := ⟨_, rfl⟩
      rw [← hf] at hem Ho4 ⊢
      have HF1 := Lib.hid (show foldS0 (tlx s (k + 1)).1 = (stS st (f.map byt)).map fun t => (fs ++ [f], t) by rw [HFS.out, stp_line hok (by rw [← hf]; exact hem), ← hf])
      have hf40 : f.length ≤ 40 := by rw [hf]; exact spR_len l
      have hfx : ∀ x ∈ f, x.size ≤ 600 := by rw [hf]; exact fun x hx => (spR_fld x hx).2.1
      have Hmu := Lib.hid (foldS_mu (ls := (tln s k).1) (by have := (tln_bd s k).1; omega) Hfold.out).1
      have hfl : fs.length ≤ k := by
       have h1 := (foldS_mu (ls := (tln s k).1) (by have := (tln_bd s k).1; omega) Hfold.out).2.2
       have := (tln_bd s k).1
       omega
      obtain ⟨n2, hn2⟩ : ∃ n, f.length = n := ⟨_, rfl⟩
      have hn0 : 0 < n2 := by rw [← hn2]; exact List.length_pos_iff.2 hem
      rw [hn2] at hf40 Ho4 ⊢
      have Hfx := Lib.hid hfx
      have Hn2 := Lib.hid hn2
      obtain ⟨g4', hg4⟩ : ∃ g, A4 = some ⟨g, 0, none⟩ := by
       obtain ⟨_, _, hv, _, _, h2⟩ := own_form Ho4.out
       injection hv with hA
       obtain ⟨g, h3, _⟩ := h2 hn0
       exact ⟨g, hA.trans h3⟩
      subst hg4
      obtain ⟨x0, hx0, hxm0, d0⟩ := fld_at2 Ho4.out hn0
      have Hx0 := Lib.hid hx0
      have gn : ((n2 : Int) == 0) = false := by simp; omega
      have gp : (0 : Int) < (n2 : Int) := by omega
      clear hok hem hf hfx hn2 hxm0 hx0
      go_wp2_with fail
      go_loopw [12, 13] (fun sv kv wr => ∃ (j : Nat) (t : List UInt8), 1 ≤ j ∧ j ≤ n2 ∧ kv = .int .i64 j ∧ sv = .string ⟨t.toArray⟩ ∧ Hid (t = joinW ((f.take j).map byt)) ∧ wr = w4) (fun _ kv _ => n2 - (intOf kv).toNat)
      case atStart => exact ⟨1, byt x0, Nat.le_refl _, hn0, rfl, rfl, Lib.hid (by
       have h1 : f.take 1 = [x0] := by rw [List.take_add_one, Hx0.out]; rfl
       rw [h1]
       simp [joinW]), rfl⟩
      case round =>
       obtain ⟨j, t, hj1, hjn, rfl, rfl, ht, hwr⟩ := hrel
       obtain rfl := hwr.symm
       have htl : t.length ≤ 24040 := by
        rw [ht.out]
        have h1 := joinW_len (l := (f.take j).map byt) (N := 600) (fun x hx => by
         obtain ⟨y, hy, rfl⟩ := List.mem_map.1 hx
         exact Hfx.out y (List.mem_of_mem_take hy))
        rw [List.length_map, List.length_take] at h1
        omega
       have gj : (0 : Int) ≤ (j : Int) := by omega
       by_cases hlj : j < n2
       ·obtain ⟨x, hx, hxm, dj⟩ := fld_at2 Ho4.out hlj
        have hxz := Hfx.out x hxm
        obtain ⟨y, hy⟩ : ∃ y, x = (⟨y.toArray⟩ : ByteArray) := ⟨x.data.toList, rfl⟩
        have hyb : byt x = y := by rw [hy]
        have hyl : y.length ≤ 600 := by rw [← hyb]; exact hxz
        have Hm := Lib.hid (show (f.take (j + 1)).map byt = (f.take j).map byt ++ [y] by rw [List.take_add_one, hx, List.map_append, ← hyb]; rfl)
        have Hs := Lib.hid (joinW_snoc (l := (f.take j).map byt) (fun h0 => by
         have h1 := congrArg List.length h0
         rw [List.length_map, List.length_take, List.length_nil] at h1
         have := Hn2.out
         omega) y)
        rw [hy] at dj
        have hsum1 : (t.length : Int) + 1 ≤ 8388608 := by omega
        have hsum2 : (t.length : Int) + 1 + (y.length : Int) ≤ 8388608 := by omega
        have gj2 : (j : Int) < (n2 : Int) := by omega
        clear hx hxm hy hyb hxz
        go_wp2_with fail
        go_roundw
        case rel => exact ⟨j + 1, t ++ ([32] ++ y), by omega, by omega, by go_num, by rw [← cat_three], Lib.hid (by rw [Hm.out, Hs.out, ht.out]), trivial⟩
        case measure => simp [intOf]; omega
       ·have hjn2 : j = n2 := by omega
        have Htf := Lib.hid (show t = joinW (f.map byt) by rw [ht.out, List.take_of_length_le (by have := Hn2.out; omega)])
        obtain ⟨sb, hsb⟩ : ∃ sb, sb = (⟨t.toArray⟩ : ByteArray) := ⟨_, rfl⟩
        have Hjb := Lib.hid (show jb f = sb by rw [hsb]; show bt (joinW (f.map byt)) = _; rw [← Htf.out]; rfl)
        have Hbt := Lib.hid (show byt sb = joinW (f.map byt) by rw [hsb, ← Htf.out])
        rw [← hsb]
        clear hsb ht htl
        obtain ⟨i0, hi, hz0, hz1, hz2⟩ := info_parts Tryd.infoStr
        obtain ⟨Ao, co, rfl, _, _, _⟩ := own_form Hown4.out
        go_wp2_with (at_builtin; refine wpList_append_any _ rfl _ _ 43 rfl (w.heap.size + 3) 9 i0 (.string ByteArray.empty) 1 16 Tryd.underlying43 hi hz0 hz1 hz2 rfl (by decide) _ _ _ rfl (Hown4.out.alloc _) _ _ 1 1 _ rfl (reads_new _ _ 1 1 rfl) (by intro u hu; simp at hu; first | (subst hu; rfl) | (rcases hu with rfl | rfl <;> rfl) | (rcases hu with rfl | rfl | rfl <;> rfl)) (by unfold maxLen; omega) (by omega) (by (try simp) <;> (try omega)) ?_; intro v8 w8 hown8 hgrow8 hblk8; refine stopX ?_)
        have hbl := (Below.refl w4.heap.size w4).alloc (Nat.le_refl _) (.cells #[.string sb] 9)
        have hb1 := hbl.size
        have ho6 := own_below Hown4.out hbl (Nat.le_refl _)
        have Hps8 := Lib.hid ((Hps4.out.below hbl).strs ho6 hgrow8)
        have HB8 := Lib.hid (HB4.out.trans ((hbl.mono (by omega)).trans (below_of_grown hgrow8 (by simp; omega) (fun g hg => by have := (Hown4.out.lt g hg).1; omega))))
        have Hown8 := Lib.hid (show w8.ownsRow (w.heap.size + 3) 9 1 v8 (fs ++ [f]).length (strs ((fs ++ [f]).map jb)) by rw [List.length_append, List.map_append, List.map_singleton, strs, List.map_append, Hjb.out]; exact hown8)
        have Ho8 := Lib.hid (own_keep (own_below Ho4.out hbl (Nat.le_refl _)) (fun g hg => hgrow8.block g (by have := (Ho4.out.lt g hg).2; omega) (fun e => by have h1 := (Hown.out.lt g e.symm).2; have h2 := (Ho4.out.lt g hg).1; omega)))
        have zz8 : w.heap.size + 3 ≤ w8.heap.size := Nat.le_trans Hps8.out.l0 Hps8.out.l1
        have Hr8 := Lib.hid Hps8.out.res
        clear hown8 hgrow8 hblk8 hbl hb1 ho6 hi hz0 hz1 hz2 hlj hjn2
        refine stopped ?_
        by_cases h0 : byt sb = wMod
        ·have e0 : (sb.toList == ([109, 111, 100, 117, 108, 101] : List UInt8)) = true := is_word h0
         cases hop : st.2.2 with
         | false =>
          have HF2 := Lib.hid (show foldS0 (tlx s (k + 1)).1 = some (fs ++ [f], (st.1, noMod, true)) by rw [HF1.out, stS_mod (by rw [← Hbt.out]; exact h0) hop]; rfl)
          clear h0 hop
          obtain ⟨y0, y1, y2, y3⟩ := blkS4 Hps8.out.mod
          have f0 := Hps8.out.mod.frozen 0
          have f1 := Hps8.out.mod.frozen 1
          have f2 := Hps8.out.mod.frozen 2
          have f3 := Hps8.out.mod.frozen 3
          go_wp2_with fail
          obtain ⟨wf, hwf⟩ : ∃ wf, wf = ((((w8.setCell ⟨w.heap.size + 2, 0, none⟩ (.slice none 0 0)).setCell ⟨w.heap.size + 2, 1, none⟩ (.slice none 0 0)).setCell ⟨w.heap.size + 2, 2, none⟩ (.slice none 0 0)).setCell ⟨w.heap.size + 2, 3, none⟩ (.slice none 0 0)) := ⟨_, rfl⟩
          have hof : Only (fun b => b = w.heap.size + 2) w8 wf := by rw [hwf]; exact mod_four Hps8.out.mod
          have hsf : wf.heap.size = w8.heap.size := by rw [hwf]; simp [World.setCell]
          have HPf := Lib.hid (show PsS wf w.heap.size wf.heap.size ov (.slice none 0 0) (.slice none 0 0) (.slice none 0 0) (.slice none 0 0) xs (st.1, noMod, true) from
           ⟨hof.blk Hps8.out.res (by omega), hof.blk Hps8.out.box (by omega), by rw [hwf]; exact blk_four Hps8.out.mod, (MdC.up (st := st) (Hps8.out.md.only hof (fun b t hb hl _ _ => by omega) Hps8.out.l1) (by have := Hps8.out.l1; omega)), fun _ => ⟨FlS.nil _ _, InS.nil _ _⟩, by omega, Nat.le_refl _⟩)
          have Hlf := Lib.hid (own_keep Hown8.out (fun g hg => hof.block g (Hown8.out.lt g hg).2 (fun e => by have := (Hown8.out.lt g hg).1; omega)))
          have HBf := Lib.hid (HB8.out.trans (hof.below (by omega) (fun b hb => by omega)))
          rw [← hwf]
          clear hwf hof hsf y0 y1 y2 y3 f0 f1 f2 f3
          go_roundw
          case rel => exact ⟨k + 1, wf.heap.size, ov, _, _, _, _, xs, fs ++ [f], (st.1, noMod, true), by omega, by go_num, by rw [HL.out]; go_num, HF2, rfl, Hlf.out, HPf.out, HBf.out⟩
          case measure => simp [intOf]; omega
         | true =>
          have e1 : (sb.toList == ([101, 110, 100] : List UInt8)) = false := not_word (by rw [h0]; decide)
          have hne : joinW (f.map byt) ≠ wEnd := by rw [← Hbt.out, h0]; decide
          clear h0
          obtain ⟨hfl, hin⟩ := Hps8.out.op hop
          have hmz : sModule st.2.1 ≤ 1048576 := by have h1 := Hmu.out; unfold muS at h1; rw [if_pos hop] at h1; omega
          obtain ⟨y0, y1, y2, y3⟩ := blkS4 Hps8.out.mod
          obtain ⟨p0, i0, c0, p1, i1, c1, p2, i2, c2, p3, i3, c3, rfl, rfl, rfl, rfl⟩ := fls_forms hfl hin
          go_wp2_with fail
          refine (s_l05Line hfl hin Hps8.out.l1 Ho8.out hn0 hf40 (fun x hx => Hfx.out x hx) hmz).mono ?_
          rintro e w9 ⟨hc9, hm9⟩
          have z9 := hc9.size
          have HB9 := Lib.hid (HB8.out.trans ((hc9.lo_mono (lo' := w.heap.size) (by have := Hps8.out.l0; omega)).below (by omega) (fun _ h => h.elim)))
          have Hr9 := Lib.hid (hc9.blk Hr8.out (by decide) (fun h => h))
          have Hx9 := Lib.hid (hc9.blk Hps8.out.box (by decide) (fun h => h))
          have Hm9 := Lib.hid (hc9.blk Hps8.out.mod (by decide) (fun h => h))
          have Hd9 := Lib.hid (Hps8.out.md.chp hc9)
          have Hl9 := Lib.hid (hc9.own Hown8.out (by decide) (fun g hg h => h))
          have l0 := Hps8.out.l0
          have l1 := Hps8.out.l1
          clear hfl hin y0 y1 y2 y3 e0 e1 hc9
          cases hrd : rdLnS st.2.1 (f.map byt) with
          | none =>
           rw [hrd] at hm9
           obtain ⟨_, _, _, _, ⟨⟨q0, j0, d0, rfl⟩, ⟨q1, j1, d1, rfl⟩, ⟨q2, j2, d2, rfl⟩, ⟨q3, j3, d3, rfl⟩⟩, rfl⟩ := hm9
           have HN := Lib.hid (pd_no1 (pdO_failed (s := s) (k := k + 1) (by rw [HF1.out, stS_in hne hop, hrd]; rfl)))
           obtain ⟨wb, hwb⟩ : ∃ wb, wb = w9.alloc (.cells #[.slice q0 j0 d0, .slice q1 j1 d1, .slice q2 j2 d2, .slice q3 j3 d3] 42) := ⟨_, rfl⟩
           have Hrb := Lib.hid (show Blk wb w.heap.size 24 #[.slice none 0 0] by rw [hwb]; exact Hr9.out.alloc _)
           have HBb := Lib.hid (show Below w.heap.size w wb by rw [hwb]; exact HB9.out.alloc (by omega) _)
           clear hrd hop hne
           go_upto_region 32 with fail
           rw [← hwb]
           clear hwb
           have f0 := Hrb.out.frozen 0
           have y9 := blkS1 Hrb.out
           go_wp2_with fail
           obtain ⟨wf, hwf⟩ : ∃ wf, wf = wb.setCell ⟨w.heap.size, 0, none⟩ (.slice none 0 0) := ⟨_, rfl⟩
           have hRf : Blk wf w.heap.size 24 #[.slice none 0 0] := by rw [hwf]; exact Hrb.out.set_ 0 _
           have hBf : Below w.heap.size w wf := by rw [hwf]; exact HBb.out.setCell (Nat.le_refl _) _
           have s0 := blkS1 hRf
           rw [← hwf]
           refine bodyPost_ret (v := .tuple #[.agg #[.slice none 0 0], .bool false]) (by simp [results, Tryd.results5, go_sem, s0]) rfl ?_
           unfold PdQ
           rw [HN.out.1, HN.out.2]
           exact ⟨_, rfl, dsn_nil _ _, hBf⟩
          | some m' =>
           rw [hrd] at hm9
           obtain ⟨_, _, _, _, rfl, hf9, hi9⟩ := hm9
           obtain ⟨q0, j0, d0, q1, j1, d1, q2, j2, d2, q3, j3, d3, rfl, rfl, rfl, rfl⟩ := fls_forms hf9 hi9
           have HF2 := Lib.hid (show foldS0 (tlx s (k + 1)).1 = some (fs ++ [f], (st.1, m', true)) by rw [HF1.out, stS_in hne hop, hrd]; rfl)
           obtain ⟨wb, hwb⟩ : ∃ wb, wb = w9.alloc (.cells #[.slice q0 j0 d0, .slice q1 j1 d1, .slice q2 j2 d2, .slice q3 j3 d3] 42) := ⟨_, rfl⟩
           obtain ⟨gb, hgb⟩ : ∃ g, g = w9.heap.size := ⟨_, rfl⟩
           have hbl : Below w9.heap.size w9 wb := by rw [hwb]; exact (Below.refl _ _).alloc (Nat.le_refl _) _
           have Hgb := Lib.hid (show Blk wb gb 42 #[.slice q0 j0 d0, .slice q1 j1 d1, .slice q2 j2 d2, .slice q3 j3 d3] by rw [hwb, hgb]; exact Blk.new _ _ _)
           have Hrb := Lib.hid (Hr9.out.below hbl Hr9.out.lt)
           have Hxb := Lib.hid (Hx9.out.below hbl Hx9.out.lt)
           have Hmb := Lib.hid (Hm9.out.below hbl Hm9.out.lt)
           have Hdb := Lib.hid (Hd9.out.below hbl (by omega))
           have Hlb := Lib.hid (own_below Hl9.out hbl (Nat.le_refl _))
           have Hfb := Lib.hid (hf9.below hbl)
           have Hib := Lib.hid (hi9.below hbl)
           have HBb := Lib.hid (HB9.out.trans (hbl.mono (by omega)))
           have zb := hbl.size
           clear hrd hop hne hf9 hi9 hbl
           go_upto_region 32 with fail
           rw [← hwb, ← hgb]
           clear hwb hgb
           obtain ⟨y0, y1, y2, y3⟩ := blkS4 Hmb.out
           obtain ⟨r0, r1, r2, r3⟩ := blkS4 Hgb.out
           have f0 := Hmb.out.frozen 0
           have f1 := Hmb.out.frozen 1
           have f2 := Hmb.out.frozen 2
           have f3 := Hmb.out.frozen 3
           go_wp2_with fail
           obtain ⟨wf, hwf⟩ : ∃ wf, wf = ((((wb.setCell ⟨w.heap.size + 2, 0, none⟩ (.slice q0 j0 d0)).setCell ⟨w.heap.size + 2, 1, none⟩ (.slice q1 j1 d1)).setCell ⟨w.heap.size + 2, 2, none⟩ (.slice q2 j2 d2)).setCell ⟨w.heap.size + 2, 3, none⟩ (.slice q3 j3 d3)) := ⟨_, rfl⟩
           have hof : Only (fun b => b = w.heap.size + 2) wb wf := by rw [hwf]; exact mod_four Hmb.out
           have hnt : ∀ ts, 42 ∉ ts → NoT wb lo (fun b => b = w.heap.size + 2) ts := fun ts hts b t hb _ ht hm => by subst hb; exact hts (ht.inj Hmb.out.of ▸ hm)
           have HPf := Lib.hid (show PsS wf w.heap.size lo ov (.slice q0 j0 d0) (.slice q1 j1 d1) (.slice q2 j2 d2) (.slice q3 j3 d3) xs (st.1, m', true) from
            ⟨hof.blk Hrb.out (by omega), hof.blk Hxb.out (by omega), by rw [hwf]; exact blk_four Hmb.out, Hdb.out.only hof (fun b t hb hl _ _ => by omega) (by omega), fun _ => ⟨Hfb.out.only hof (hnt _ (by decide)), Hib.out.only hof (hnt _ (by decide))⟩, l0, by have := hof.size; omega⟩)
           have Hlf := Lib.hid (own_keep Hlb.out (fun g hg => hof.block g (Hlb.out.lt g hg).2 (fun e => by have := (Hlb.out.lt g hg).1; omega)))
           have HBf := Lib.hid (HBb.out.trans (hof.below (by omega) (fun b hb => by omega)))
           rw [← hwf]
           clear hwf hof hnt y0 y1 y2 y3 f0 f1 f2 f3 r0 r1 r2 r3
           go_roundw
           case rel => exact ⟨k + 1, lo, ov, _, _, _, _, xs, fs ++ [f], (st.1, m', true), by omega, by go_num, by rw [HL.out]; go_num, HF2, rfl, Hlf.out, HPf.out, HBf.out⟩
           case measure => simp [intOf]; omega
        ·have e0 : (sb.toList == ([109, 111, 100, 117, 108, 101] : List UInt8)) = false := not_word h0
         by_cases h1 : byt sb = wEnd
         ·have e1 : (sb.toList == ([101, 110, 100] : List UInt8)) = true := is_word h1
          cases hop : st.2.2 with
          | false =>
           have HN := Lib.hid (pd_no1 (pdO_failed (s := s) (k := k + 1) (by rw [HF1.out, stS_out (by rw [← Hbt.out]; exact h0) hop]; rfl)))
           clear h0 h1 hop
           have f0 := Hr8.out.frozen 0
           have y9 := blkS1 Hr8.out
           go_wp2_with fail
           obtain ⟨wf, hwf⟩ : ∃ wf, wf = w8.setCell ⟨w.heap.size, 0, none⟩ (.slice none 0 0) := ⟨_, rfl⟩
           have hRf : Blk wf w.heap.size 24 #[.slice none 0 0] := by rw [hwf]; exact Hr8.out.set_ 0 _
           have hBf : Below w.heap.size w wf := by rw [hwf]; exact HB8.out.setCell (Nat.le_refl _) _
           have s0 := blkS1 hRf
           rw [← hwf]
           refine bodyPost_ret (v := .tuple #[.agg #[.slice none 0 0], .bool false]) (by simp [results, Tryd.results5, go_sem, s0]) rfl ?_
           unfold PdQ
           rw [HN.out.1, HN.out.2]
           exact ⟨_, rfl, dsn_nil _ _, hBf⟩
          | true =>
           have HF2 := Lib.hid (show foldS0 (tlx s (k + 1)).1 = some (fs ++ [f], (st.1 ++ [st.2.1], st.2.1, false)) by rw [HF1.out, stS_end (by rw [← Hbt.out]; exact h1) hop]; rfl)
           obtain ⟨hfl, hin⟩ := Hps8.out.op hop
           have hmu2 : sModule st.2.1 ≤ 1048576 ∧ sDesign st.1 ≤ 1048576 := by have h1 := Hmu.out; unfold muS at h1; rw [if_pos hop] at h1; omega
           have l0 := Hps8.out.l0
           have l1 := Hps8.out.l1
           obtain ⟨p0, i0', c0, p1, i1, c1, p2, i2, c2, p3, i3, c3, rfl, rfl, rfl, rfl⟩ := fls_forms hfl hin
           have Hrow := Lib.hid (rows_snoc Hps8.out.md.2 Hps8.out.md.1.1 (mod_sepT hfl hin hmu2.1) l0 l1)
           have hmd := Hps8.out.md
           obtain ⟨Ad, cd, rfl⟩ := hmd.form
           obtain ⟨nd, hnd⟩ : ∃ nd, st.1.length = nd := ⟨_, rfl⟩
           have hndz : nd ≤ 1048576 := by rw [← hnd]; have := szL_eq sModule st.1; have e : sDesign st.1 = szL sModule st.1 := rfl; omega
           have Hnd := Lib.hid hnd
           have hco := hmd.1
           have hbx := Hps8.out.box
           rw [hnd] at hco hbx
           have Hco := Lib.hid hco
           have Hbx := Lib.hid hbx
           have y4 := blkS1 hbx
           obtain ⟨y0, y1, y2, y3⟩ := blkS4 Hps8.out.mod
           obtain ⟨i0, hi, hz0, hz1, hz2⟩ := info_parts Tryd.infModuleC
           clear hfl hin hmd hco hbx hnd hop h0 h1
           go_wp2_with (at_builtin; refine wpList_append_any _ rfl _ _ 22 rfl (w.heap.size + 3) 42 i0 (.agg #[.slice none 0 0, .slice none 0 0, .slice none 0 0, .slice none 0 0]) 4 96 Tryd.underlying22 hi hz0 hz1 hz2 rfl (by decide) _ _ _ rfl (Hco.out.alloc _) _ _ 1 1 _ rfl (reads_new _ _ 1 4 rfl) (by intro u hu; simp at hu; first | (subst hu; rfl) | (rcases hu with rfl | rfl <;> rfl) | (rcases hu with rfl | rfl | rfl <;> rfl) | (rcases hu with rfl | rfl | rfl | rfl <;> rfl)) (by unfold maxLen; omega) (by omega) (by (try simp) <;> (try omega)) ?_; intro v9 w9 hown9 hgrow9 hblk9; refine stopX ?_)
           have hbl := fun o : Obj => (Below.refl w8.heap.size w8).alloc (Nat.le_refl _) o
           have ho6 := fun o : Obj => own_below Hco.out (hbl o) (Nat.le_refl _)
           have Hrow9 := Lib.hid (rows_only (rows_only Hrow.out (Only.of_below (hbl _) (fun _ => False)) (NoT.none _ _ _) (Nat.le_refl _)) (only_row hgrow9) (grown_not (ho6 _) (by decide)) (hbl _).size)
           have Hr9 := Lib.hid (blk_row (Hps8.out.res.below (hbl _) Hps8.out.res.lt) (ho6 _) (by decide) hgrow9)
           have Hx9 := Lib.hid (blk_row (Hbx.out.below (hbl _) Hbx.out.lt) (ho6 _) (by decide) hgrow9)
           have Hm9 := Lib.hid ((Hps8.out.mod.below (hbl _) Hps8.out.mod.lt).grown hgrow9 (fun e => by have := (Hco.out.lt _ e.symm).1; omega))
           have Hl9 := Lib.hid (row_kept (own_below Hown8.out (hbl _) (Nat.le_refl _)) (ho6 _) (by decide) hgrow9)
           have HB9 := Lib.hid (HB8.out.trans (((hbl _).mono (by omega)).trans (below_of_grown hgrow9 (by simp; omega) (fun g hg => by have := (Hco.out.lt g hg).1; omega))))
           obtain ⟨A9, c9, rfl, _, _, _⟩ := own_form hown9
           have Ho9 := Lib.hid hown9
           have z9 : w8.heap.size ≤ w9.heap.size := by have h2 := hgrow9.size; simp at h2; omega
           have y9 := blkS1 Hx9.out
           have f9 := Hx9.out.frozen 0
           clear hown9 hgrow9 hblk9 hbl ho6 y0 y1 y2 y3 y4 hi hz0 hz1 hz2
           refine stopped ?_
           go_wp2_with fail
           obtain ⟨wf, hwf⟩ : ∃ wf, wf = w9.setCell ⟨w.heap.size + 1, 0, none⟩ (.slice A9 (nd + 1) c9) := ⟨_, rfl⟩
           have hof : Only (fun b => b = w.heap.size + 1) w9 wf := by rw [hwf]; exact (Only.refl (fun b => b = w.heap.size + 1) w9).setCell (p := ⟨w.heap.size + 1, 0, none⟩) (.inl rfl) _
           have hsf : wf.heap.size = w9.heap.size := by rw [hwf]; simp [World.setCell]
           have hmf : MdC w9 (w.heap.size + 3) w8.heap.size (.slice A9 (nd + 1) c9) (st.1 ++ [st.2.1]) (xs ++ [.slice p0 i0' c0, .slice p1 i1 c1, .slice p2 i2 c2, .slice p3 i3 c3]) := ⟨by rw [List.length_append, List.length_singleton, Hnd.out]; exact Ho9.out, Hrow9.out⟩
           have HPf := Lib.hid (show PsS wf w.heap.size wf.heap.size (.slice A9 (nd + 1) c9) (.slice p0 i0' c0) (.slice p1 i1 c1) (.slice p2 i2 c2) (.slice p3 i3 c3) (xs ++ [.slice p0 i0' c0, .slice p1 i1 c1, .slice p2 i2 c2, .slice p3 i3 c3]) (st.1 ++ [st.2.1], st.2.1, false) from
            ⟨hof.blk Hr9.out (by omega), by rw [hwf]; exact Hx9.out.set_ 0 _, hof.blk Hm9.out (by omega), MdC.up (st := (st.1 ++ [st.2.1], st.2.1, false)) (hmf.only hof (fun b t hb hl _ _ => by omega) z9) (by omega), fun h => absurd h (by simp), by omega, Nat.le_refl _⟩)
           have Hlf := Lib.hid (own_keep Hl9.out (fun g hg => hof.block g (Hl9.out.lt g hg).2 (fun e => by have := (Hl9.out.lt g hg).1; omega)))
           have HBf := Lib.hid (HB9.out.trans (hof.below (by omega) (fun b hb => by omega)))
           rw [← hwf]
           clear hwf hof hsf hmf y9 f9
           go_roundw
           case rel => exact ⟨k + 1, wf.heap.size, _, _, _, _, _, _, fs ++ [f], (st.1 ++ [st.2.1], st.2.1, false), by omega, by go_num, by rw [HL.out]; go_num, HF2, rfl, Hlf.out, HPf.out, HBf.out⟩
           case measure => simp [intOf]; omega
         ·have e1 : (sb.toList == ([101, 110, 100] : List UInt8)) = false := not_word h1
          cases hop : st.2.2 with
          | false =>
           have HN := Lib.hid (pd_no1 (pdO_failed (s := s) (k := k + 1) (by rw [HF1.out, stS_out (by rw [← Hbt.out]; exact h0) hop]; rfl)))
           clear h0 h1 hop
           have f0 := Hr8.out.frozen 0
           have y9 := blkS1 Hr8.out
           go_wp2_with fail
           obtain ⟨wf, hwf⟩ : ∃ wf, wf = w8.setCell ⟨w.heap.size, 0, none⟩ (.slice none 0 0) := ⟨_, rfl⟩
           have hRf : Blk wf w.heap.size 24 #[.slice none 0 0] := by rw [hwf]; exact Hr8.out.set_ 0 _
           have hBf : Below w.heap.size w wf := by rw [hwf]; exact HB8.out.setCell (Nat.le_refl _) _
           have s0 := blkS1 hRf
           rw [← hwf]
           refine bodyPost_ret (v := .tuple #[.agg #[.slice none 0 0], .bool false]) (by simp [results, Tryd.results5, go_sem, s0]) rfl ?_
           unfold PdQ
           rw [HN.out.1, HN.out.2]
           exact ⟨_, rfl, dsn_nil _ _, hBf⟩
          | true =>
           have hne : joinW (f.map byt) ≠ wEnd := by rw [← Hbt.out]; exact h1
           clear h0 h1
           obtain ⟨hfl, hin⟩ := Hps8.out.op hop
           have hmz : sModule st.2.1 ≤ 1048576 := by have h1 := Hmu.out; unfold muS at h1; rw [if_pos hop] at h1; omega
           obtain ⟨y0, y1, y2, y3⟩ := blkS4 Hps8.out.mod
           obtain ⟨p0, i0, c0, p1, i1, c1, p2, i2, c2, p3, i3, c3, rfl, rfl, rfl, rfl⟩ := fls_forms hfl hin
           go_wp2_with fail
           refine (s_l05Line hfl hin Hps8.out.l1 Ho8.out hn0 hf40 (fun x hx => Hfx.out x hx) hmz).mono ?_
           rintro e w9 ⟨hc9, hm9⟩
           have z9 := hc9.size
           have HB9 := Lib.hid (HB8.out.trans ((hc9.lo_mono (lo' := w.heap.size) (by have := Hps8.out.l0; omega)).below (by omega) (fun _ h => h.elim)))
           have Hr9 := Lib.hid (hc9.blk Hr8.out (by decide) (fun h => h))
           have Hx9 := Lib.hid (hc9.blk Hps8.out.box (by decide) (fun h => h))
           have Hm9 := Lib.hid (hc9.blk Hps8.out.mod (by decide) (fun h => h))
           have Hd9 := Lib.hid (Hps8.out.md.chp hc9)
           have Hl9 := Lib.hid (hc9.own Hown8.out (by decide) (fun g hg h => h))
           have l0 := Hps8.out.l0
           have l1 := Hps8.out.l1
           clear hfl hin y0 y1 y2 y3 e0 e1 hc9
           cases hrd : rdLnS st.2.1 (f.map byt) with
           | none =>
            rw [hrd] at hm9
            obtain ⟨_, _, _, _, ⟨⟨q0, j0, d0, rfl⟩, ⟨q1, j1, d1, rfl⟩, ⟨q2, j2, d2, rfl⟩, ⟨q3, j3, d3, rfl⟩⟩, rfl⟩ := hm9
            have HN := Lib.hid (pd_no1 (pdO_failed (s := s) (k := k + 1) (by rw [HF1.out, stS_in hne hop, hrd]; rfl)))
            obtain ⟨wb, hwb⟩ : ∃ wb, wb = w9.alloc (.cells #[.slice q0 j0 d0, .slice q1 j1 d1, .slice q2 j2 d2, .slice q3 j3 d3] 42) := ⟨_, rfl⟩
            have Hrb := Lib.hid (show Blk wb w.heap.size 24 #[.slice none 0 0] by rw [hwb]; exact Hr9.out.alloc _)
            have HBb := Lib.hid (show Below w.heap.size w wb by rw [hwb]; exact HB9.out.alloc (by omega) _)
            clear hrd hop hne
            go_upto_region 32 with fail
            rw [← hwb]
            clear hwb
            have f0 := Hrb.out.frozen 0
            have y9 := blkS1 Hrb.out
            go_wp2_with fail
            obtain ⟨wf, hwf⟩ : ∃ wf, wf = wb.setCell ⟨w.heap.size, 0, none⟩ (.slice none 0 0) := ⟨_, rfl⟩
            have hRf : Blk wf w.heap.size 24 #[.slice none 0 0] := by rw [hwf]; exact Hrb.out.set_ 0 _
            have hBf : Below w.heap.size w wf := by rw [hwf]; exact HBb.out.setCell (Nat.le_refl _) _
            have s0 := blkS1 hRf
            rw [← hwf]
            refine bodyPost_ret (v := .tuple #[.agg #[.slice none 0 0], .bool false]) (by simp [results, Tryd.results5, go_sem, s0]) rfl ?_
            unfold PdQ
            rw [HN.out.1, HN.out.2]
            exact ⟨_, rfl, dsn_nil _ _, hBf⟩
           | some m' =>
            rw [hrd] at hm9
            obtain ⟨_, _, _, _, rfl, hf9, hi9⟩ := hm9
            obtain ⟨q0, j0, d0, q1, j1, d1, q2, j2, d2, q3, j3, d3, rfl, rfl, rfl, rfl⟩ := fls_forms hf9 hi9
            have HF2 := Lib.hid (show foldS0 (tlx s (k + 1)).1 = some (fs ++ [f], (st.1, m', true)) by rw [HF1.out, stS_in hne hop, hrd]; rfl)
            obtain ⟨wb, hwb⟩ : ∃ wb, wb = w9.alloc (.cells #[.slice q0 j0 d0, .slice q1 j1 d1, .slice q2 j2 d2, .slice q3 j3 d3] 42) := ⟨_, rfl⟩
            obtain ⟨gb, hgb⟩ : ∃ g, g = w9.heap.size := ⟨_, rfl⟩
            have hbl : Below w9.heap.size w9 wb := by rw [hwb]; exact (Below.refl _ _).alloc (Nat.le_refl _) _
            have Hgb := Lib.hid (show Blk wb gb 42 #[.slice q0 j0 d0, .slice q1 j1 d1, .slice q2 j2 d2, .slice q3 j3 d3] by rw [hwb, hgb]; exact Blk.new _ _ _)
            have Hrb := Lib.hid (Hr9.out.below hbl Hr9.out.lt)
            have Hxb := Lib.hid (Hx9.out.below hbl Hx9.out.lt)
            have Hmb := Lib.hid (Hm9.out.below hbl Hm9.out.lt)
            have Hdb := Lib.hid (Hd9.out.below hbl (by omega))
            have Hlb := Lib.hid (own_below Hl9.out hbl (Nat.le_refl _))
            have Hfb := Lib.hid (hf9.below hbl)
            have Hib := Lib.hid (hi9.below hbl)
            have HBb := Lib.hid (HB9.out.trans (hbl.mono (by omega)))
            have zb := hbl.size
            clear hrd hop hne hf9 hi9 hbl
            go_upto_region 32 with fail
            rw [← hwb, ← hgb]
            clear hwb hgb
            obtain ⟨y0, y1, y2, y3⟩ := blkS4 Hmb.out
            obtain ⟨r0, r1, r2, r3⟩ := blkS4 Hgb.out
            have f0 := Hmb.out.frozen 0
            have f1 := Hmb.out.frozen 1
            have f2 := Hmb.out.frozen 2
            have f3 := Hmb.out.frozen 3
            go_wp2_with fail
            obtain ⟨wf, hwf⟩ : ∃ wf, wf = ((((wb.setCell ⟨w.heap.size + 2, 0, none⟩ (.slice q0 j0 d0)).setCell ⟨w.heap.size + 2, 1, none⟩ (.slice q1 j1 d1)).setCell ⟨w.heap.size + 2, 2, none⟩ (.slice q2 j2 d2)).setCell ⟨w.heap.size + 2, 3, none⟩ (.slice q3 j3 d3)) := ⟨_, rfl⟩
            have hof : Only (fun b => b = w.heap.size + 2) wb wf := by rw [hwf]; exact mod_four Hmb.out
            have hnt : ∀ ts, 42 ∉ ts → NoT wb lo (fun b => b = w.heap.size + 2) ts := fun ts hts b t hb _ ht hm => by subst hb; exact hts (ht.inj Hmb.out.of ▸ hm)
            have HPf := Lib.hid (show PsS wf w.heap.size lo ov (.slice q0 j0 d0) (.slice q1 j1 d1) (.slice q2 j2 d2) (.slice q3 j3 d3) xs (st.1, m', true) from
             ⟨hof.blk Hrb.out (by omega), hof.blk Hxb.out (by omega), by rw [hwf]; exact blk_four Hmb.out, Hdb.out.only hof (fun b t hb hl _ _ => by omega) (by omega), fun _ => ⟨Hfb.out.only hof (hnt _ (by decide)), Hib.out.only hof (hnt _ (by decide))⟩, l0, by have := hof.size; omega⟩)
            have Hlf := Lib.hid (own_keep Hlb.out (fun g hg => hof.block g (Hlb.out.lt g hg).2 (fun e => by have := (Hlb.out.lt g hg).1; omega)))
            have HBf := Lib.hid (HBb.out.trans (hof.below (by omega) (fun b hb => by omega)))
            rw [← hwf]
            clear hwf hof hnt y0 y1 y2 y3 f0 f1 f2 f3 r0 r1 r2 r3
            go_roundw
            case rel => exact ⟨k + 1, lo, ov, _, _, _, _, xs, fs ++ [f], (st.1, m', true), by omega, by go_num, by rw [HL.out]; go_num, HF2, rfl, Hlf.out, HPf.out, HBf.out⟩
            case measure => simp [intOf]; omega
    ·have hlt : k < s.size := by
      rcases Nat.lt_or_ge k s.size with h | h
      ·exact h
      ·exact absurd (.inl (by omega)) hcut
     have HX := Lib.hid (tlx_on hlt (fun h => hcut (.inr h)))
     have g3 : (k : Int) < (s.size : Int) := by omega
     have h10 : ((s[k].toNat : Int) != 10) = true := by
      have h : ¬ s[k] = 10 := fun h => hcut (.inr (by rw [byte_get hlt]; exact h))
      have h2 : s[k].toNat ≠ 10 := fun h2 => h (UInt8.toNat_inj.1 h2)
      simp
      omega
     clear hcut
     go_wp2_with fail
     go_roundw
     case rel => exact ⟨k + 1, lo, ov, u0, u1, u2, u3, xs, fs, st, by omega, by go_num, by rw [HX.out, Hbg.out], Lib.hid (by rw [HX.out]; exact Hfold.out), rfl, Hown.out, Hps.out, Hb.out⟩
     case measure => simp [intOf]; omega
   ·have hke : k = s.size + 1 := by omega
    have g2 : (s.size : Int) < (k : Int) := by omega
    have Hfold := Lib.hid (show foldS0 (tlR s) = some (fs, st) by have h := hst.out; rw [tlx_end hle] at h; exact h)
    obtain ⟨hmu, hfg, hfl⟩ := foldS_mu (by have := tlR_len s; omega) Hfold.out
    have hf20 : fs.length ≤ 20001 := by have := tlR_len s; omega
    have hdz : sDesign st.1 ≤ 1048576 := by unfold muS at hmu; omega
    have Hr := Lib.hid Hps.out.res
    clear hst hmu hfg hfl
    cases hop : st.2.2 with
    | true =>
     have HN := Lib.hid (pd_no1 (pd_noS hsz Hfold.out (fun h => by rw [hop] at h; cases h.1)))
     clear hop
     have f0 := Hr.out.frozen 0
     have y9 := blkS1 Hr.out
     go_wp2_with fail
     obtain ⟨wf, hwf⟩ : ∃ wf, wf = wa.setCell ⟨w.heap.size, 0, none⟩ (.slice none 0 0) := ⟨_, rfl⟩
     have hRf : Blk wf w.heap.size 24 #[.slice none 0 0] := by rw [hwf]; exact Hr.out.set_ 0 _
     have hBf : Below w.heap.size w wf := by rw [hwf]; exact Hb.out.setCell (Nat.le_refl _) _
     have s0 := blkS1 hRf
     rw [← hwf]
     refine bodyPost_ret (v := .tuple #[.agg #[.slice none 0 0], .bool false]) (by simp [results, Tryd.results5, go_sem, s0]) rfl ?_
     unfold PdQ
     rw [HN.out.1, HN.out.2]
     exact ⟨_, rfl, dsn_nil _ _, hBf⟩
    | false =>
    have Hop := Lib.hid hop
    obtain ⟨nf, hnf⟩ : ∃ n, fs.length = n := ⟨_, rfl⟩
    have hown := Hown.out
    obtain ⟨Ao, co, rfl, _, _, _⟩ := own_form hown
    rw [hnf] at hown hf20 ⊢
    have HO := Lib.hid (Reads.of_own hown)
    have Hnf := Lib.hid hnf
    have hmd := Hps.out.md
    obtain ⟨Ad, cd, rfl⟩ := hmd.form
    obtain ⟨nd, hnd⟩ : ∃ nd, st.1.length = nd := ⟨_, rfl⟩
    have hndz : st.1.length ≤ 1048576 := by have := szL_eq sModule st.1; have e : sDesign st.1 = szL sModule st.1 := rfl; omega
    have hR := (hmd.dsn (S := fun b => w.heap.size + 3 ≤ b ∧ b < wa.heap.size) hndz (fun b h1 h2 => ⟨h1, h2⟩)).r
    have Hndz := Lib.hid hndz
    have hbx := Hps.out.box
    rw [hnd] at hmd hR hbx
    have Hmd := Lib.hid hmd
    have HR := Lib.hid hR
    have Hbx := Lib.hid hbx
    have l1 := Hps.out.l1
    have y4 := blkS1 hbx
    clear hop hown hnf hmd hnd hndz hR hbx
    go_wp2_with fail
    refine (s_DesignOk (by omega) HR.out (fun b hb => hb.2)).mono ?_
    rintro e w5 ⟨rfl, hb5⟩
    have z5 := hb5.size
    have HB5 := Lib.hid (Hb.out.trans (hb5.mono (by omega)))
    have Hr5 := Lib.hid (Hr.out.below hb5 Hr.out.lt)
    have Hbx5 := Lib.hid (Hbx.out.below hb5 Hbx.out.lt)
    have HR5 := Lib.hid (RDesign.under HR.out (B := wa.heap.size) (fun b hb => hb.2) hb5)
    have HW5 := Lib.hid hb5
    clear y4 hb5
    cases hd : designB st.1 with
    | false =>
     have HN := Lib.hid (pd_no1 (pd_noS hsz Hfold.out (fun h => by rw [hd] at h; cases h.2.1)))
     clear hd
     have f0 := Hr5.out.frozen 0
     have y9 := blkS1 Hr5.out
     go_wp2_with fail
     obtain ⟨wf, hwf⟩ : ∃ wf, wf = w5.setCell ⟨w.heap.size, 0, none⟩ (.slice none 0 0) := ⟨_, rfl⟩
     have hRf : Blk wf w.heap.size 24 #[.slice none 0 0] := by rw [hwf]; exact Hr5.out.set_ 0 _
     have hBf : Below w.heap.size w wf := by rw [hwf]; exact HB5.out.setCell (Nat.le_refl _) _
     have s0 := blkS1 hRf
     rw [← hwf]
     refine bodyPost_ret (v := .tuple #[.agg #[.slice none 0 0], .bool false]) (by simp [results, Tryd.results5, go_sem, s0]) rfl ?_
     unfold PdQ
     rw [HN.out.1, HN.out.2]
     exact ⟨_, rfl, dsn_nil _ _, hBf⟩
    | true =>
    have Hd := Lib.hid hd
    have y4 := blkS1 Hbx5.out
    go_wp2_with fail
    refine (s_l05Lines (by omega) hd HR5.out (fun b hb => by have := hb.2; omega)).mono ?_
    rintro e w6 ⟨v6, rfl, hq6, hb6⟩
    obtain ⟨A6, n6, c6, rfl⟩ := slv_of hq6.rep
    have hn6 : (linesD st.1).length = n6 := by have := hq6.len; rw [List.length_map, List.length_map] at this; exact this
    have hn7 : n6 ≤ 268 := by rw [← hn6]; exact linesD_len hd
    have z6 := hb6.size
    have HB6 := Lib.hid (HB5.out.trans (hb6.mono (by omega)))
    have HW6 := Lib.hid (HW5.out.trans (hb6.mono z5))
    have Hr6 := Lib.hid (Hr5.out.below hb6 Hr5.out.lt)
    have Hbx6 := Lib.hid (Hbx5.out.below hb6 Hbx5.out.lt)
    have HL6 := Lib.hid (strs_reads hq6.rep (B := w6.heap.size) (fun b hb => hb.2))
    have HO6 := Lib.hid (HO.out.below HW6.out)
    have Hn6 := Lib.hid hn6
    clear y4 hd hq6 hb6 hn6
    by_cases hnm : n6 = nf
    ·subst hnm
     have y4 := blkS1 Hbx6.out
     go_wp2_with fail
     go_loopw [17] (fun iv wr => ∃ j : Nat, j ≤ n6 ∧ iv = .int .i64 j ∧ ((linesD st.1).map bt).take j = (fs.map jb).take j ∧ Below w6.heap.size w6 wr) (fun iv _ => n6 - (intOf iv).toNat)
     case atStart => exact ⟨0, Nat.zero_le _, rfl, rfl, Below.refl _ _⟩
     case round =>
      obtain ⟨j, hj, rfl, heq, hb⟩ := hrel
      have Heq := Lib.hid heq
      have Hbj := Lib.hid hb
      have HBj := Lib.hid (HB6.out.trans (hb.mono (by omega)))
      have zj := hb.size
      clear heq hb y4
      by_cases hlj : j < n6
      ·obtain ⟨ad, x, rfl, hab, hx, hc⟩ := HL6.out.str_at hlj
       obtain ⟨ad', x', rfl, hab', hx', hc'⟩ := HO6.out.str_at hlj
       have e1 := (Hbj.out.cell (p := ad.add j) (by rw [block_of_add]; omega)).trans hc
       have e2 := (Hbj.out.cell (p := ad'.add j) (by rw [block_of_add]; omega)).trans hc'
       have Hx := Lib.hid hx
       have Hx' := Lib.hid hx'
       clear hc hc' hx hx'
       have k1 : (0 : Int) ≤ (j : Int) := by omega
       have k2 : (j : Int) < (n6 : Int) := by omega
       by_cases hxx : x = x'
       ·subst hxx
        go_wp2_with fail
        refine wp_region_lex (by kernel_rfl) (by kernel_rfl) (Cls (fun x => x = wr.drew)) (Cls.mk' rfl) ?_
        have lexNE : Nonempty (Wd (fun x => x = wr.drew)) := ⟨⟨_, rfl⟩⟩
        have lexW : ∀ W : Wd (fun x => x = wr.drew), W.val = wr.drew := fun W => W.ok
        (repeat (first | (refine lex_r fun K hK => ?_; go_big_quiet_op; refine hK _ ?_; clear hK K) | (refine lex_k fun K hK => ?_; go_simp; refine hK _ ?_; clear hK K)))
        (refine lex_nil ?_)
        clear lexNE lexW
        go_wp2_with fail
        go_roundw
        case rel =>
         refine ⟨j + 1, by omega, by go_num, ?_, Hbj.out.drew⟩
         rw [List.take_add_one, List.take_add_one, Heq.out, Hx.out, Hx'.out]
        case measure => simp [intOf]; omega
       ·have hne := str_ne hxx
        have HN := Lib.hid (pd_no1 (pd_noS hsz Hfold.out (fun h => hxx (by
         have h1 := Hx.out
         rw [h.2.2, Hx'.out] at h1
         injection h1 with h1
         exact h1.symm))))
        obtain ⟨wd, hwd⟩ : ∃ wd, wd = wr.drew := ⟨_, rfl⟩
        have Hrd := Lib.hid (show Blk wd w.heap.size 24 #[.slice none 0 0] by rw [hwd]; exact Hr6.out.below Hbj.out.drew Hr6.out.lt)
        have HBd := Lib.hid (show Below w.heap.size w wd by rw [hwd]; exact HBj.out.drew)
        clear hxx
        go_wp2_with fail
        refine wp_region_lex (by kernel_rfl) (by kernel_rfl) (Cls (fun x => x = wr.drew)) (Cls.mk' rfl) ?_
        have lexNE : Nonempty (Wd (fun x => x = wr.drew)) := ⟨⟨_, rfl⟩⟩
        have lexW : ∀ W : Wd (fun x => x = wr.drew), W.val = wr.drew := fun W => W.ok
        (repeat (first | (refine lex_r fun K hK => ?_; go_big_quiet_op; refine hK _ ?_; clear hK K) | (refine lex_k fun K hK => ?_; go_simp; refine hK _ ?_; clear hK K)))
        (refine lex_nil ?_)
        clear lexNE lexW
        rw [← hwd]
        clear hwd
        have f0 := Hrd.out.frozen 0
        have y9 := blkS1 Hrd.out
        go_wp2_with fail
        obtain ⟨wf, hwf⟩ : ∃ wf, wf = wd.setCell ⟨w.heap.size, 0, none⟩ (.slice none 0 0) := ⟨_, rfl⟩
        have hRf : Blk wf w.heap.size 24 #[.slice none 0 0] := by rw [hwf]; exact Hrd.out.set_ 0 _
        have hBf : Below w.heap.size w wf := by rw [hwf]; exact HBd.out.setCell (Nat.le_refl _) _
        have s0 := blkS1 hRf
        rw [← hwf]
        refine bodyPost_ret (v := .tuple #[.agg #[.slice none 0 0], .bool false]) (by simp [results, Tryd.results5, go_sem, s0]) rfl ?_
        unfold PdQ
        rw [HN.out.1, HN.out.2]
        exact ⟨_, rfl, dsn_nil _ _, hBf⟩
      ·have hje : j = n6 := by omega
       subst hje
       have hLL : (linesD st.1).map bt = fs.map jb := by
        have h1 := Heq.out
        rw [List.take_of_length_le (by rw [List.length_map, Hn6.out]; exact Nat.le_refl _), List.take_of_length_le (by rw [List.length_map, Hnf.out]; exact Nat.le_refl _)] at h1
        exact h1
       have HN := Lib.hid (pd_yes1 (pd_yesS hsz Hfold.out Hop.out Hd.out hLL))
       have Hrj := Lib.hid (Hr6.out.below Hbj.out Hr6.out.lt)
       have y4 := blkS1 (Hbx6.out.below Hbj.out Hbx6.out.lt)
       have hcj : MdC wr (w.heap.size + 3) lo (.slice Ad nd cd) st.1 xs := Hmd.out.below (HW6.out.trans (Hbj.out.mono (by omega))) l1
       have Hcj := Lib.hid hcj
       have l2 : lo ≤ wr.heap.size := by omega
       clear hLL hcj
       have f0 := Hrj.out.frozen 0
       have y9 := blkS1 Hrj.out
       go_wp2_with fail
       obtain ⟨wf, hwf⟩ : ∃ wf, wf = wr.setCell ⟨w.heap.size, 0, none⟩ (.slice Ad nd cd) := ⟨_, rfl⟩
       have hRf : Blk wf w.heap.size 24 #[.slice Ad nd cd] := by rw [hwf]; exact Hrj.out.set_ 0 _
       have hBf : Below w.heap.size w wf := by rw [hwf]; exact HBj.out.setCell (Nat.le_refl _) _
       have s0 := blkS1 hRf
       rw [← hwf]
       refine bodyPost_ret (v := .tuple #[.agg #[.slice Ad nd cd], .bool true]) (by simp [results, Tryd.results5, go_sem, s0]) rfl ?_
       unfold PdQ
       rw [HN.out.1, HN.out.2]
       have hcf : MdC wf (w.heap.size + 3) lo (.slice Ad nd cd) st.1 xs := by
        rw [hwf]
        exact Hcj.out.only ((Only.refl (fun b => b = w.heap.size) wr).setCell (p := ⟨w.heap.size, 0, none⟩) (.inl rfl) _) (fun b t hb hl ht hm => by omega) l2
       exact ⟨_, rfl, hcf.dsn Hndz.out (fun b h1 h2 => ⟨by omega, h2⟩), hBf⟩
    ·have hne : ((n6 : Int) != (nf : Int)) = true := by simp; omega
     have HN := Lib.hid (pd_no1 (pd_noS hsz Hfold.out (fun h => hnm (by
      have h1 := congrArg List.length h.2.2
      rw [List.length_map, List.length_map, Hn6.out, Hnf.out] at h1
      exact h1))))
     clear hnm
     have f0 := Hr6.out.frozen 0
     have y9 := blkS1 Hr6.out
     go_wp2_with fail
     obtain ⟨wf, hwf⟩ : ∃ wf, wf = w6.setCell ⟨w.heap.size, 0, none⟩ (.slice none 0 0) := ⟨_, rfl⟩
     have hRf : Blk wf w.heap.size 24 #[.slice none 0 0] := by rw [hwf]; exact Hr6.out.set_ 0 _
     have hBf : Below w.heap.size w wf := by rw [hwf]; exact HB6.out.setCell (Nat.le_refl _) _
     have s0 := blkS1 hRf
     rw [← hwf]
     refine bodyPost_ret (v := .tuple #[.agg #[.slice none 0 0], .bool false]) (by simp [results, Tryd.results5, go_sem, s0]) rfl ?_
     unfold PdQ
     rw [HN.out.1, HN.out.2]
     exact ⟨_, rfl, dsn_nil _ _, hBf⟩
 ·have g0 : (20000 : Int) < (s.size : Int) := by omega
  have HN := Lib.hid (pd_no1 (pdO_long hsz))
  go_wp2_with fail
  rw [← HU0.out]
  have s0 := blkS1 HX.out
  refine bodyPost_ret (v := .tuple #[.agg #[.slice none 0 0], .bool false]) (by simp [results, Tryd.results5, go_sem, s0]) rfl ?_
  unfold PdQ
  rw [HN.out.1, HN.out.2]
  exact ⟨_, rfl, dsn_nil _ _, HB0.out⟩
end Go.Proofs.YthjdigcpgpiiiaaDoor

/- Contracts: the drivers of a signal: the program's function. -/
import Derived.Test.YtjiijjihkgipkaaDsnD
import Derived.Outline
namespace Go.Proofs.Ytjiijjihkgipkaa
open Go.RowKit

/-- how often a signal is driven, -1 if the design is not so far valid -/
def dcB (d : TDesign) (k s : Int) : Int := if l04C d k && inR s 0 ((md d k).1.length - 1) then ((drvN d (md d k) s.toNat : Nat) : Int) else -1
theorem dcB_no {d : TDesign} {k s : Int} (h : l04C d k = false ∨ inR s 0 ((md d k).1.length - 1) = false) : dcB d k s = -1 := by
  unfold dcB
  rcases h with h | h <;> simp [h]
theorem drvN_le {d : TDesign} {m : TModule} (h : cntOk1 m = true) (s : Nat) : drvN d m s ≤ 500 := by
  obtain ⟨h1, h2, h3, h4⟩ := cntOk1_iff.1 h
  have a := asgN_le m.2.1 s
  have b := memN_le m.2.2.2 s
  have c := insN_le d m.2.2.1 s
  unfold drvN
  omega
set_option maxRecDepth 100000 in
set_option maxHeartbeats 4000000 in
theorem i_DriverCount {w : World} {S : Nat → Prop} {v : Value} {d : TDesign} (k s : Int) (h : RDesign w S v d) (hS : ∀ b, S b → b < w.heap.size) :
    Calls Try.prog 18 #[v, .int .i64 k, .int .i64 s] w fun e w' => e = .returned (.int .i64 (dcB d k s)) ∧ Below w.heap.size w w' := by
  obtain ⟨A, c, rfl, hr, hm⟩ := dsn_open h
  obtain ⟨n, hl⟩ : ∃ n, d.length = n := ⟨_, rfl⟩
  rw [hl] at hr hm h ⊢
  have Hl := Lib.hid hl
  have H := Lib.hid h
  unfold maxLen at hm
  have HD := Lib.hid (Blk.new w 29 #[.slice A n c])
  have HB := Lib.hid ((Below.refl w.heap.size w).alloc (Nat.le_refl _) (.cells #[.slice A n c] 29))
  have HDk := Lib.hid (RDesign.keep (w' := w.alloc (.cells #[.slice A n c] 29)) h (fun p hp => World.cell?_alloc_lt _ _ p (hS _ hp)))
  have hS1 : ∀ b, S b → b < (w.alloc (.cells #[.slice A n c] 29)).heap.size := fun b hb => by have := hS b hb; simp; omega
  clear hl h
  cases hqk : inR k 0 ((n : Int) - 1) with
  | false =>
    have Hqk := Lib.hid hqk
    have Hno := Lib.hid (show l04C d k = false by
      unfold l04C
      rw [decide_eq_false (fun hc => by have h1 : inR k 0 ((n : Int) - 1) = true := inR_iff.2 (by have := Hl.out; omega); rw [hqk] at h1; cases h1)]
      rfl)
    clear hqk
    go_enter Try.func18, Try.ntmps18
    go_wp2_with fail
    refine (i_inRange k 0 ((n : Int) - 1) _).mono ?_
    rintro e w9 ⟨rfl, rfl⟩
    rw [Hqk.out]
    go_wp2_with fail
    go_ret
    exact ⟨ret_int (dcB_no (.inl Hno.out)).symm, HB.out⟩
  | true =>
    obtain ⟨h1, h2⟩ := inR_iff.1 hqk
    obtain ⟨kn, rfl⟩ := Int.eq_ofNat_of_zero_le h1
    have hkn : kn < n := by omega
    have g5 : (0 : Int) ≤ (kn : Int) := by omega
    have g6 : (kn : Int) < (n : Int) := by omega
    obtain ⟨ad, m, A0, c0, A1, c1, A2, c2, A3, c3, rfl, hab, hx, hRm, hml, e0, e1, e2, e3⟩ := mod_row hr hkn
    have hmd := md_get hx
    have hab1 := hS _ hab
    have f0 := (World.cell?_alloc_lt w (.cells #[.slice (some ad) n c] 29) (ad.add (kn * 4)) (by rw [block_of_add]; exact hab1)).trans e0
    have hm0 := hml.1
    unfold maxLen at hm0
    have Hx := Lib.hid hx
    have Hqk := Lib.hid hqk
    have Hmd := Lib.hid hmd
    clear hqk h1 h2 hx hRm hml e0 e1 e2 e3 hmd hr
    obtain ⟨ns, hns⟩ : ∃ ns, m.1.length = ns := ⟨_, rfl⟩
    rw [hns] at f0 hm0
    have Hns := Lib.hid hns
    clear hns
    cases hqs : inR s 0 ((ns : Int) - 1) with
    | false =>
      have Hqs := Lib.hid hqs
      clear hqs
      go_enter Try.func18, Try.ntmps18
      go_wp2_with fail
      refine (i_inRange (kn : Int) 0 ((n : Int) - 1) _).mono ?_
      rintro e w9 ⟨rfl, rfl⟩
      rw [Hqk.out]
      go_wp2_with fail
      refine (i_inRange s 0 ((ns : Int) - 1) _).mono ?_
      rintro e w9 ⟨rfl, rfl⟩
      rw [Hqs.out]
      go_wp2_with fail
      go_ret
      exact ⟨ret_int (dcB_no (.inr (by rw [Hmd.out, Hns.out]; exact Hqs.out))).symm, HB.out⟩
    | true =>
      have Hqs := Lib.hid hqs
      cases hcb : countsB d with
      | false =>
        have Hcb := Lib.hid hcb
        clear hcb hqs
        go_enter Try.func18, Try.ntmps18
        go_wp2_with fail
        refine (i_inRange (kn : Int) 0 ((n : Int) - 1) _).mono ?_
        rintro e w9 ⟨rfl, rfl⟩
        rw [Hqk.out]
        go_wp2_with fail
        refine (i_inRange s 0 ((ns : Int) - 1) _).mono ?_
        rintro e w9 ⟨rfl, rfl⟩
        rw [Hqs.out]
        go_wp2_with fail
        refine (i_countsOk HDk.out hS1).mono ?_
        rintro e w2 ⟨rfl, hb2⟩
        rw [Hcb.out]
        have Hb2 := Lib.hid (HB.out.trans (hb2.mono (by simp)))
        go_wp2_with fail
        go_ret
        exact ⟨ret_int (dcB_no (.inl (by unfold l04C; rw [Hcb.out]; simp))).symm, Hb2.out⟩
      | true =>
        have Hcb := Lib.hid hcb
        clear hcb
        obtain ⟨s1, s2⟩ := inR_iff.1 hqs
        obtain ⟨sn, rfl⟩ := Int.eq_ofNat_of_zero_le s1
        have hsn : sn < ns := by omega
        have g7 : (0 : Int) ≤ (sn : Int) := by omega
        have g8 : (sn : Int) < (ns : Int) := by omega
        clear hqs s1 s2
        cases hib : instsB d (kn : Int) with
        | false =>
          have Hib := Lib.hid hib
          clear hib
          go_enter Try.func18, Try.ntmps18
          go_wp2_with fail
          refine (i_inRange (kn : Int) 0 ((n : Int) - 1) _).mono ?_
          rintro e w9 ⟨rfl, rfl⟩
          rw [Hqk.out]
          go_wp2_with fail
          refine (i_inRange (sn : Int) 0 ((ns : Int) - 1) _).mono ?_
          rintro e w9 ⟨rfl, rfl⟩
          rw [Hqs.out]
          go_wp2_with fail
          refine (i_countsOk HDk.out hS1).mono ?_
          rintro e w2 ⟨rfl, hb2⟩
          rw [Hcb.out]
          have Hb2 := Lib.hid (HB.out.trans (hb2.mono (by simp)))
          have z2 := hb2.size
          simp at z2
          have yd := blkS1 (HD.out.below hb2 HD.out.lt)
          clear hb2 f0
          go_wp2_with fail
          refine (i_instsOk (k := kn) (RDesign.under H.out hS Hb2.out) (fun b hb => by have := hS b hb; omega) (by have := Hl.out; omega)).mono ?_
          rintro e w3 ⟨rfl, hb3⟩
          rw [Hib.out]
          have Hb3 := Lib.hid (Hb2.out.trans (hb3.mono (by omega)))
          go_wp2_with fail
          go_ret
          exact ⟨ret_int (dcB_no (.inl (by unfold l04C; rw [Hib.out]; simp))).symm, Hb3.out⟩
        | true =>
          have Hib := Lib.hid hib
          have Hl4 := Lib.hid (show dcB d (kn : Int) (sn : Int) = ((drvN d m sn : Nat) : Int) by
            unfold dcB l04C
            rw [Hcb.out, hib, Hmd.out, Hns.out, Hqs.out, decide_eq_true (by have := Hl.out; omega)]
            simp)
          clear hib
          go_enter Try.func18, Try.ntmps18
          go_wp2_with fail
          refine (i_inRange (kn : Int) 0 ((n : Int) - 1) _).mono ?_
          rintro e w9 ⟨rfl, rfl⟩
          rw [Hqk.out]
          go_wp2_with fail
          refine (i_inRange (sn : Int) 0 ((ns : Int) - 1) _).mono ?_
          rintro e w9 ⟨rfl, rfl⟩
          rw [Hqs.out]
          go_wp2_with fail
          refine (i_countsOk HDk.out hS1).mono ?_
          rintro e w2 ⟨rfl, hb2⟩
          rw [Hcb.out]
          have Hb2 := Lib.hid (HB.out.trans (hb2.mono (by simp)))
          have z2 := hb2.size
          simp at z2
          have HD2 := Lib.hid (HD.out.below hb2 HD.out.lt)
          have yd := blkS1 HD2.out
          clear hb2 f0
          go_wp2_with fail
          refine (i_instsOk (k := kn) (RDesign.under H.out hS Hb2.out) (fun b hb => by have := hS b hb; omega) (by have := Hl.out; omega)).mono ?_
          rintro e w3 ⟨rfl, hb3⟩
          rw [Hib.out]
          have Hb3 := Lib.hid (Hb2.out.trans (hb3.mono (by omega)))
          have z3 := hb3.size
          have yd3 := blkS1 (HD2.out.below hb3 HD2.out.lt)
          clear hb3 yd
          go_wp2_with fail
          refine (i_driverCounts (k := kn) (m := m) (RDesign.under H.out hS Hb3.out) (fun b hb => by have := hS b hb; omega) Hx.out Hcb.out (by have h1 := Hib.out; unfold instsB at h1; rw [Hmd.out] at h1; exact h1)).mono ?_
          rintro e w4 ⟨v', rfl, hq, hb4⟩
          obtain ⟨A5, c5, rfl, hq5, _⟩ := sl_form hq (by rw [List.length_map, arrC_len])
          have Hb4 := Lib.hid (Hb3.out.trans (hb4.mono (by omega)))
          rw [Hns.out] at hq5 ⊢
          obtain ⟨ad5, y, rfl, _, hy, hc5⟩ := fIntS_row hq5 hsn
          rw [arrC_get hsn] at hy
          injection hy with hy
          subst hy
          go_wp2_with fail
          go_ret
          exact ⟨ret_int Hl4.out.symm, Hb4.out⟩
end Go.Proofs.Ytjiijjihkgipkaa

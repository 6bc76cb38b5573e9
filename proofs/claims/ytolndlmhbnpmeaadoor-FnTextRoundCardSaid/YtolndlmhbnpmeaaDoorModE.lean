/- Contracts: is a design valid: the program's and the reference's functions. -/
import Derived.Test.YtolndlmhbnpmeaaDoorModD
import Derived.Outline
namespace Go.Proofs.YtolndlmhbnpmeaaDoor
open Go.RowKit

def designB (d : TDesign) : Bool := inR d.length 1 4 && (List.range d.length).all (fun k : Nat => moduleB d (k : Int))

set_option maxRecDepth 100000 in
set_option maxHeartbeats 4000000 in
theorem i_DesignOk {w : World} {S : Nat → Prop} {v : Value} {d : TDesign} (hzd : sDesign d ≤ 1099511627776) (h : RDesign w S v d) (hS : ∀ b, S b → b < w.heap.size) :
  Calls Tryd.prog 20 #[v] w fun e w' => e = .returned (.bool (designB d)) ∧ Below w.heap.size w w' := by
 obtain ⟨A, c, rfl, hr, hm⟩ := dsn_open h
 obtain ⟨n, hl⟩ : ∃ n, d.length = n := ⟨_, rfl⟩
 rw [hl] at hr hm h ⊢
 have Hl := Lib.hid hl
 have H := Lib.hid h
 unfold maxLen at hm
 have HD := Lib.hid (Blk.new w 26 #[.slice A n c])
 have HB := Lib.hid ((Below.refl w.heap.size w).alloc (Nat.le_refl _) (.cells #[.slice A n c] 26))
 clear hl h hr
 go_enter Tryd.func20, Tryd.ntmps20
 go_wp2_with fail
 go_loopw [3, 7] (fun _ iv wr => ∃ k : Nat, k ≤ n ∧ iv = .int .i64 k ∧ Hid ((List.range k).all (fun k : Nat => moduleB d (k : Int)) = true) ∧ Blk wr w.heap.size 26 #[.slice A n c] ∧ Below w.heap.size w wr) (fun _ iv _ => n - (intOf iv).toNat)
 case atStart => exact ⟨0, Nat.zero_le _, rfl, Lib.hid rfl, HD.out, HB.out⟩
 case round =>
  obtain ⟨k, hk, rfl, Hok, hD, hb⟩ := hrel
  have Hb := Lib.hid hb
  have HD' := Lib.hid hD
  have hsz := hb.size
  have y0 := blkS1 hD
  clear hb hD
  by_cases hlt : k < n
  ·go_wp2_with fail
   refine (i_ModuleOk (k : Int) hzd (RDesign.under H.out hS Hb.out) (fun b hb => by have := hS b hb; omega)).mono ?_
   rintro e w2 ⟨rfl, hb2⟩
   have Hb2 := Lib.hid (Hb.out.trans (hb2.mono (by omega)))
   have HD2 := Lib.hid (HD'.out.below hb2 HD'.out.lt)
   clear hb2 y0
   cases hq : moduleB d (k : Int) with
   | false =>
    have Hq := Lib.hid hq
    clear hq
    go_wp2_with fail
    go_ret
    exact ⟨ret_bool (by unfold designB; rw [range_all (n := d.length) (k := k) (by rw [Hl.out]; omega) Hq.out, Bool.and_false]), Hb2.out⟩
   | true =>
    have Hq := Lib.hid hq
    clear hq
    go_wp2_with fail
    go_roundw
    case rel => exact ⟨k + 1, by omega, by go_num, Lib.hid (by rw [range_succ_all, Hok.out, Hq.out]; rfl), HD2.out, Hb2.out⟩
    case measure => simp [intOf]; omega
  ·have hge : (n : Int) ≤ (k : Int) := by omega
   have hkn : k = n := by omega
   have He := Lib.hid (show designB d = inR n 1 4 by unfold designB; rw [Hl.out, ← hkn, Hok.out, Bool.and_true])
   clear hkn
   go_wp2_with fail
   refine (i_inRange (n : Int) 1 4 _).mono ?_
   rintro e w9 ⟨rfl, rfl⟩
   go_wp2_with fail
   go_ret
   exact ⟨ret_bool He.out.symm, Hb.out⟩
end Go.Proofs.YtolndlmhbnpmeaaDoor

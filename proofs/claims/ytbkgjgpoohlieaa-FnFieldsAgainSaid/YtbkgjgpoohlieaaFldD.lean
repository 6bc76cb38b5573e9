/- Contracts: drawn lines. -/
import Derived.Test.YtbkgjgpoohlieaaFld
import Derived.Test.YtbkgjgpoohlieaaDrawH
import Derived.Deep.DeepCutAuto
import Derived.Outline
namespace Go.Proofs.Ytbkgjgpoohlieaa
open Go.RowKit

set_option maxRecDepth 100000 in
set_option maxHeartbeats 1000000 in
theorem s_Pick {B g : Nat} {w : World} {ad : Addr} {n c m : Nat} {l : List ByteArray} (hcur : Cur B g w) (hn : 0 < n) (hn1 : n ≤ 1000) (hl : l.length = n) (hm : ∀ x ∈ l, x.size ≤ m) (hne : ad.block ≠ g) (hb : ad.block < w.heap.size) (hc : ∀ j x, l[j]? = some x → w.cell? (ad.add j) = some (.string x)) :
    Calls Try.prog 51 #[.pointer (some ⟨g, 0, none⟩), .slice (some ad) n c] w (DrawStr B g m w) := by
  go_enter Try.func51, Try.ntmps51
  go_wp2_with fail
  refine (s_Below n hcur).mono ?_
  rintro e w1 ⟨x, rfl, hx, hc1, hg1⟩
  obtain ⟨hx0, hx1⟩ := hx.1 (by omega)
  obtain ⟨j, rfl⟩ := Int.eq_ofNat_of_zero_le hx0
  have hj : j < l.length := by omega
  have hcell : w1.cell? (ad.add j) = some (.string l[j]) := by
    have h1 := hg1.block ad.block hb (by intro h; injection h with h; exact hne h)
    have h2 : w1.cell? (ad.add j) = w.cell? (ad.add j) := World.cell?_of_block (by rw [block_of_add]; exact h1)
    rw [h2]
    exact hc j _ (List.getElem?_eq_getElem hj)
  have Hg1 := Lib.hid hg1
  have Hc1 := Lib.hid hc1
  clear hg1 hc1 hx hc
  go_wp2_with fail
  go_ret
  exact ⟨l[j], rfl, hm _ (List.getElem_mem hj), Hc1.out, Hg1.out⟩

def pickL : List ByteArray := [⟨#[32]⟩, ⟨#[32, 32]⟩, ⟨#[9]⟩, ⟨#[10]⟩, ⟨#[127]⟩, ⟨#[233]⟩]
theorem pickL_bd : ∀ x ∈ pickL, x.size ≤ 2 := by
  intro x hx
  simp only [pickL, List.mem_cons, List.not_mem_nil, or_false] at hx
  rcases hx with rfl | rfl | rfl | rfl | rfl | rfl <;> decide

theorem pickL_cell {w : World} {j : Nat} {x : ByteArray} (hj : pickL[j]? = some x) : (w.alloc (.cells #[.string ⟨#[32]⟩, .string ⟨#[32, 32]⟩, .string ⟨#[9]⟩, .string ⟨#[10]⟩, .string ⟨#[127]⟩, .string ⟨#[233]⟩] 9)).cell? ((⟨w.heap.size, 0, none⟩ : Addr).add j) = some (.string x) := by
  obtain ⟨ad, h1, _, h3⟩ := (reads_new (w := w) 9 #[.string ⟨#[32]⟩, .string ⟨#[32, 32]⟩, .string ⟨#[9]⟩, .string ⟨#[10]⟩, .string ⟨#[127]⟩, .string ⟨#[233]⟩] 6 1 rfl).2 (by omega)
  injection h1 with h1
  subst h1
  refine h3 j _ ?_
  have e : (#[.string ⟨#[32]⟩, .string ⟨#[32, 32]⟩, .string ⟨#[9]⟩, .string ⟨#[10]⟩, .string ⟨#[127]⟩, .string ⟨#[233]⟩] : Array Value).toList = strs pickL := rfl
  rw [e, strs_get, hj]
  rfl
theorem mul_bd {x y : Int} (h0 : 0 ≤ x) (h1 : x < 2) (h2 : 0 ≤ y) (h3 : y < 3) : 0 ≤ x * y ∧ x * y ≤ 2 := by
  rcases (by omega : x = 0 ∨ x = 1) with rfl | rfl <;> omega
theorem own_byte1 (w : World) (m : Nat) (hm : m < 94) : (w.alloc (.cells #[.int .u8 (33 + (m : Int))] 5)).ownsRow w.heap.size 5 1 (.slice (some ⟨w.heap.size, 0, none⟩) 1 1) 1 (bys [UInt8.ofNat (33 + m)]) := by
  have e : bys [UInt8.ofNat (33 + m)] = [.int .u8 (33 + (m : Int))] := by
    simp only [bys, List.map_cons, List.map_nil, UInt8.toNat_ofNat']
    rw [Nat.mod_eq_of_lt (by omega)]
    congr 2
  rw [e]
  exact ⟨rfl, .inr ⟨w.heap.size, 1, #[.int .u8 (33 + (m : Int))], rfl, Nat.le_refl _, heap_alloc_new w _, Nat.le_refl _, by unfold maxLen; omega, rfl, rfl⟩⟩

theorem Cur.below {B g : Nat} {w w' : World} (h : Cur B g w) (hb : Below w.heap.size w w') : Cur B g w' := by
  have hl := h.lt
  obtain ⟨A, n, c, l, i, hh, hB, hBg, hr, hin, hn⟩ := h
  exact ⟨A, n, c, l, i, hh, hB.below hb hl, hBg, hr.below (hb.mono (by omega)), hin, hn⟩
/-- the state of the loop: a cursor, a line -/
def LineRel (B g : Nat) (w0 : World) (m : Nat) (v : Value) (w : World) : Prop := ∃ s : ByteArray, v = .string s ∧ s.size ≤ m ∧ Cur B g w ∧ Below B w0 w

def OneS (m : Nat) (w : World) (e : Ending) (w' : World) : Prop := ∃ s : ByteArray, e = .returned (.string s) ∧ s.size ≤ m ∧ Below w.heap.size w w'

set_option maxRecDepth 100000 in
set_option maxHeartbeats 4000000 in
theorem s_DrawSplitFields {w : World} {A : Option Addr} {n c : Nat} {l : List UInt8} (hr : Reads w w.heap.size 1 A n (bys l)) (hn : n ≤ 1048576) : Calls Try.prog 13 #[.slice A n c] w (OneS 1000 w) := by
  go_enter Try.func13, Try.ntmps13
  go_wp2_with fail
  refine (s_New hr hn).mono ?_
  rintro e w1 ⟨g, rfl, hc1, hb1⟩
  go_wp2_with fail
  refine (s_Below 9 hc1).mono ?_
  rintro e w2 ⟨x, rfl, hx, hc2, hg2⟩
  obtain ⟨hx0, hx1⟩ := hx.1 (by omega)
  obtain ⟨n0, rfl⟩ := Int.eq_ofNat_of_zero_le hx0
  clear hx
  have hb2 := below_cur hb1 hc1 hg2
  have Hb2 := Lib.hid hb2
  have Hc2 := Lib.hid hc2
  clear hb1 hc1 hg2 hb2 hc2
  go_upto_if 13 with (first | (go_at_call 49; refine (s_Once 15 Hc2.out).mono ?_; rintro e w3 ⟨b, rfl, hc3, hg3⟩; have Hc3 := Lib.hid hc3; have Hb3 := Lib.hid (below_cur Hb2.out Hc2.out hg3); clear hc3 hg3))
  go_cut [4] (fun k wc => ∃ m : Nat, m ≤ 41 ∧ k = .int .i64 m ∧ Cur w.heap.size g wc ∧ Below w.heap.size w wc)
  case first =>
    cases b
    · go_wp2_with fail
      go_meet
      case rel => exact ⟨n0, by omega, rfl, Hc3.out, Hb3.out⟩
    · go_wp2_with fail
      refine (s_Below 2 Hc3.out).mono ?_
      rintro e w4 ⟨y, rfl, hy, hc4, hg4⟩
      obtain ⟨hy0, hy1⟩ := hy.1 (by omega)
      obtain ⟨y0, rfl⟩ := Int.eq_ofNat_of_zero_le hy0
      have hb4 := below_cur Hb3.out Hc3.out hg4
      clear hy
      go_wp2_with fail
      go_meet
      case rel => exact ⟨40 + y0, by omega, by go_num, hc4, hb4⟩
  case rest =>
    obtain ⟨m, hm, rfl, hc4, hb4⟩ := hcut
    have Hc4 := Lib.hid hc4
    have Hb4 := Lib.hid hb4
    clear hc4 hb4
    go_wp2_with fail
    go_loopg [5, 6, 7] m (fun gk v i _ wr => ∃ z : Int, 0 ≤ z ∧ z + gk = m ∧ i = .int .i64 z ∧ LineRel w.heap.size g w (8 * z.toNat) v wr)
    case atStart => exact ⟨0, by omega, by omega, rfl, _, rfl, by decide, Hc4.out, Hb4.out⟩
    case round =>
      obtain ⟨z, hz0, hk, rfl, s, rfl, hs, hc5, hb5⟩ := hrel
      obtain ⟨k, hkz⟩ : ∃ k : Nat, k = z.toNat := ⟨_, rfl⟩
      have Hk := Lib.hid (show z + gk = m from hk)
      have hk1 : z ≤ k := by omega
      have hk2 : (k : Int) ≤ z := by omega
      have hk3 : k ≤ m := by omega
      rw [← hkz] at hs
      clear hkz hk
      have Hc5 := Lib.hid hc5
      have Hb5 := Lib.hid hb5
      clear hc5 hb5
      by_cases g1 : z < (m : Int)
      ·
        go_upto_region 9 with fail
        go_cut [27] (fun v wx => ∃ b, v = .bool b ∧ Cur w.heap.size g wx ∧ Below w.heap.size w wx)
        case first =>
          by_cases h0 : z < 1
          · have g2 : z ≤ 0 := by omega
            go_wp2_with fail
            refine (s_Once 5 Hc5.out).mono ?_
            rintro e w6 ⟨b, rfl, hc6, hg6⟩
            have hb6 := below_cur Hb5.out Hc5.out hg6
            go_wp2_with fail
            go_meet
            case rel => exact ⟨_, rfl, hc6, hb6⟩
          · have g2 : 0 < z := by omega
            go_wp2_with fail
            go_meet
            case rel => exact ⟨_, rfl, Hc5.out, Hb5.out⟩
        case rest =>
          obtain ⟨b, rfl, hc6, hb6⟩ := hcut
          have Hc6 := Lib.hid hc6
          have Hb6 := Lib.hid hb6
          clear hc6 hb6
          go_upto_if 27 with fail
          go_cut [5] (fun v wx => LineRel w.heap.size g w (8 * k + 3) v wx)
          case first =>
            cases b
            · go_wp2_with fail
              go_meet
              case rel => exact ⟨s, rfl, by omega, Hc6.out, Hb6.out⟩
            · go_wp2_with fail
              refine (s_Below 2 Hc6.out).mono ?_
              rintro e w7 ⟨x, rfl, hx, hc7, hg7⟩
              obtain ⟨hx0, hx1⟩ := hx.1 (by omega)
              have Hb7 := Lib.hid (below_cur Hb6.out Hc6.out hg7)
              clear hx
              go_wp2_with fail
              refine (s_Below 3 hc7).mono ?_
              rintro e w8 ⟨y, rfl, hy, hc8, hg8⟩
              obtain ⟨hy0, hy1⟩ := hy.1 (by omega)
              have Hb8 := Lib.hid (below_cur Hb7.out hc7 hg8)
              have Hc8 := Lib.hid hc8
              clear hy hc8 hg8 hc7 hg7
              have hxy := mul_bd hx0 hx1 hy0 hy1
              have hxy0 := hxy.1
              have hxy1 := hxy.2
              clear hxy
              go_wp2_with fail
              obtain ⟨z, hz⟩ := Int.eq_ofNat_of_zero_le (show 0 ≤ 1 + x * y by omega)
              rw [hz]
              refine (s_Long _ z 32 (by omega) (by omega)).mono ?_
              rintro e w9 ⟨t, rfl, ht, hb9⟩
              have hb9' := Hb8.out.trans (hb9.mono Hb8.out.size)
              have hc9 := Hc8.out.below hb9
              go_wp2_with fail
              go_meet
              case rel => exact ⟨_, rfl, by have := ByteArray.size_append (a := s) (b := t); omega, hc9, hb9'⟩
          case rest =>
            obtain ⟨s1, rfl, hs1, hc7, hb7⟩ := hcut
            have Hc7 := Lib.hid hc7
            have Hb7 := Lib.hid hb7
            clear hc7 hb7 Hc6 Hb6 Hc5 Hb5
            go_wp2_with fail
            have hgk : ∃ y, y = gk := ⟨_, rfl⟩
            obtain ⟨gk0, rfl⟩ := hgk
            go_loopg [5, 7] 6 (fun gk v j wr => ∃ q : Nat, q + gk = 6 ∧ q ≤ 5 ∧ j = .int .i64 q ∧ LineRel w.heap.size g w (8 * k + 3 + q) v wr)
            case atStart => exact ⟨0, by omega, by omega, rfl, _, rfl, by omega, Hc7.out, Hb7.out⟩
            case round =>
              obtain ⟨q, hq, hq5, rfl, s2, rfl, hs2, hc8, hb8⟩ := hrel
              have Hc8 := Lib.hid hc8
              have Hb8 := Lib.hid hb8
              clear hc8 hb8
              go_wp2_with fail
              refine (s_Below 5 Hc8.out).mono ?_
              rintro e w9 ⟨x, rfl, hx, hc9, hg9⟩
              obtain ⟨hx0, hx1⟩ := hx.1 (by omega)
              have Hb9 := Lib.hid (below_cur Hb8.out Hc8.out hg9)
              have Hc9 := Lib.hid hc9
              clear hx hc9 hg9
              by_cases hqx : (q : Int) ≤ x
              · go_wp2_with fail
                refine (s_Below 94 Hc9.out).mono ?_
                rintro e w10 ⟨y, rfl, hy, hc10, hg10⟩
                obtain ⟨hy0, hy1⟩ := hy.1 (by omega)
                have Hb10 := Lib.hid (below_cur Hb9.out Hc9.out hg10)
                have Hc10 := Lib.hid hc10
                obtain ⟨y0, rfl⟩ := Int.eq_ofNat_of_zero_le hy0
                have hcv := run_str (own_byte1 w10 y0 (by omega))
                clear hy hc10 hg10
                go_wp2_with fail
                go_roundg (gk - 1)
                case measure => omega
                case rel => exact ⟨q + 1, by omega, by omega, by go_num, _, rfl, by rw [ByteArray.size_append]; show s2.size + 1 ≤ _; omega, Hc10.out.alloc _, Hb10.out.alloc Hb10.out.size _⟩
              · go_wp2_with fail
                go_roundg (gk0 - 1)
                case measure => have := Hk.out; omega
                case rel => exact ⟨z + 1, by omega, by have := Hk.out; omega, rfl, _, rfl, by omega, Hc9.out, Hb9.out⟩
      · have g2 : (m : Int) ≤ z := by omega
        go_wp2_with fail
        refine (s_Below 12 Hc5.out).mono ?_
        rintro e w6 ⟨x, rfl, hx, hc6, hg6⟩
        obtain ⟨hx0, hx1⟩ := hx.1 (by omega)
        have Hb6 := Lib.hid (below_cur Hb5.out Hc5.out hg6)
        have Hc6 := Lib.hid hc6
        clear hx hc6 hg6
        by_cases h0 : x = 0
        · subst h0
          go_wp2_with fail
          refine (s_Pick (n := 6) (l := pickL) (m := 2) (Hc6.out.alloc _) (by omega) (by omega) rfl pickL_bd (by simp; have := Hc6.out.lt; omega) (by simp) (fun j x hj => ?_)).mono ?_
          · exact pickL_cell hj
          · rintro e w7 ⟨t, rfl, ht, hc7, hg7⟩
            have Hb7 := Lib.hid (below_cur (Hb6.out.alloc Hb6.out.size _) (Hc6.out.alloc _) hg7)
            go_wp2_with fail
            go_ret
            exact ⟨_, rfl, by have := ByteArray.size_append (a := s) (b := t); omega, Hb7.out⟩
        · have hd0 : (x == 0) = false := by simpa using h0
          by_cases h1 : x = 1
          · subst h1
            by_cases hl : s.size < 600
            · go_wp2_with fail
              refine (s_Below 2 Hc6.out).mono ?_
              rintro e w7 ⟨y, rfl, hy, hc7, hg7⟩
              obtain ⟨hy0, hy1⟩ := hy.1 (by omega)
              have Hb7 := Lib.hid (below_cur Hb6.out Hc6.out hg7)
              clear hy hc7 hg7
              go_wp2_with fail
              obtain ⟨z, hz⟩ := Int.eq_ofNat_of_zero_le (show 0 ≤ 600 - (s.size : Int) + y by omega)
              rw [hz]
              refine (s_Long _ z 32 (by omega) (by omega)).mono ?_
              rintro e w9 ⟨t, rfl, ht, hb9⟩
              have hb9' := Hb7.out.trans (hb9.mono Hb7.out.size)
              go_wp2_with fail
              go_ret
              exact ⟨_, rfl, by have := ByteArray.size_append (a := s) (b := t); omega, hb9'⟩
            · exfalso; omega
          · have hd1 : (x == 1) = false := by simpa using h1
            go_wp2_with fail
            go_ret
            exact ⟨_, rfl, by omega, Hb6.out⟩
end Go.Proofs.Ytbkgjgpoohlieaa

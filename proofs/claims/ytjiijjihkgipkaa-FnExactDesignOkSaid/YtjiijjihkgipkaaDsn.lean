/- Plain: drivers in a design; how its rows lie in memory. -/
import Derived.Test.YtjiijjihkgipkaaDesignD
import Derived.Test.YtjiijjihkgipkaaPorts
namespace Go.Proofs.Ytjiijjihkgipkaa
open Go.RowKit

def noM : TModule := ([], [], [], [])
def md (d : TDesign) (k : Int) : TModule := d.getD k.toNat noM
theorem md_get {d : TDesign} {k : Nat} {m : TModule} (h : d[k]? = some m) : md d (k : Int) = m := by simp [md, h]
def cntOk1 (m : TModule) : Bool := decide (m.1.length ≤ 30) && (decide (m.2.1.length ≤ 30) && (decide (m.2.2.1.length ≤ 3) && decide (m.2.2.2.length ≤ 2)))
def countsB (d : TDesign) : Bool := decide (d.length ≤ 4) && d.all cntOk1
def insB (d : TDesign) (k : Int) (x : TInst) : Bool := inR x.1 0 (k - 1) && decide (x.2.2.length = (portsM (md d x.1)).length)
def instsB (d : TDesign) (k : Int) : Bool := (md d k).2.2.1.all (insB d k)
/-- the lists are short and the instances of module k name earlier modules, with their ports -/
def l04C (d : TDesign) (k : Int) : Bool := decide (0 ≤ k ∧ k < d.length) && (countsB d && instsB d k)
theorem all_take {α : Type} {p : α → Bool} {l : List α} {k : Nat} {x : α} (h : l[k]? = some x) : (l.take (k + 1)).all p = ((l.take k).all p && p x) := by
  rw [List.take_add_one, h, List.all_append]
  simp
theorem all_not {α : Type} {p : α → Bool} {l : List α} {k : Nat} {x : α} (h : l[k]? = some x) (hx : p x = false) : l.all p = false := by
  rw [List.all_eq_false]
  exact ⟨x, List.mem_of_getElem? h, by simp [hx]⟩
theorem cntOk1_iff {m : TModule} : cntOk1 m = true ↔ m.1.length ≤ 30 ∧ m.2.1.length ≤ 30 ∧ m.2.2.1.length ≤ 3 ∧ m.2.2.2.length ≤ 2 := by
  simp [cntOk1]

section
variable {w : World} {S : Nat → Prop} {A : Option Addr} {n c k : Nat}
theorem sl_form {rows : List (List Fd)} {v : Value} {m : Nat} (h : Rep w S v (.sl rows)) (hm : rows.length = m) : ∃ A c, v = .slice A m c ∧ Rep w S (.slice A m c) (.sl rows) ∧ m ≤ maxLen := by
  obtain ⟨A, c, rfl, hx⟩ := h.sl_val
  subst hm
  exact ⟨A, c, rfl, h, hx⟩
theorem mod_open {v : Value} {m : TModule} (h : RModule w S v m) : ∃ A0 c0 A1 c1 A2 c2 A3 c3, v = .agg #[.slice A0 m.1.length c0, .slice A1 m.2.1.length c1, .slice A2 m.2.2.1.length c2, .slice A3 m.2.2.2.length c3] ∧
    Rep w S (.slice A0 m.1.length c0) (fSignalS m.1) ∧ Rep w S (.slice A1 m.2.1.length c1) (fAssignS m.2.1) ∧ Rep w S (.slice A2 m.2.2.1.length c2) (fInstS m.2.2.1) ∧ Rep w S (.slice A3 m.2.2.2.length c3) (fMemS m.2.2.2) ∧
    m.1.length ≤ maxLen ∧ m.2.1.length ≤ maxLen ∧ m.2.2.1.length ≤ maxLen ∧ m.2.2.2.length ≤ maxLen := by
  obtain ⟨v0, v1, v2, v3, rfl, h0, h1, h2, h3⟩ := h
  obtain ⟨A0, c0, rfl, r0, m0⟩ := sl_form h0 (List.length_map _)
  obtain ⟨A1, c1, rfl, r1, m1⟩ := sl_form h1 (List.length_map _)
  obtain ⟨A2, c2, rfl, r2, m2⟩ := sl_form h2 (List.length_map _)
  obtain ⟨A3, c3, rfl, r3, m3⟩ := sl_form h3 (List.length_map _)
  exact ⟨A0, c0, A1, c1, A2, c2, A3, c3, rfl, r0, r1, r2, r3, m0, m1, m2, m3⟩
theorem dsn_open {v : Value} {d : TDesign} (h : RDesign w S v d) : ∃ A c, v = .agg #[.slice A d.length c] ∧ Rep w S (.slice A d.length c) (fModuleS d) ∧ d.length ≤ maxLen := by
  obtain ⟨v0, rfl, h0⟩ := h
  obtain ⟨A0, c0, rfl, r0, m0⟩ := sl_form h0 (List.length_map _)
  exact ⟨A0, c0, rfl, r0, m0⟩
theorem mod_row {d : TDesign} (h : Rep w S (.slice A n c) (fModuleS d)) (hk : k < n) : ∃ (ad : Addr) (m : TModule) (A0 : Option Addr) (c0 : Nat) (A1 : Option Addr) (c1 : Nat) (A2 : Option Addr) (c2 : Nat) (A3 : Option Addr) (c3 : Nat),
    A = some ad ∧ S ad.block ∧ d[k]? = some m ∧ RModule w S (.agg #[.slice A0 m.1.length c0, .slice A1 m.2.1.length c1, .slice A2 m.2.2.1.length c2, .slice A3 m.2.2.2.length c3]) m ∧
    (m.1.length ≤ maxLen ∧ m.2.1.length ≤ maxLen ∧ m.2.2.1.length ≤ maxLen ∧ m.2.2.2.length ≤ maxLen) ∧
    w.cell? (ad.add (k * 4)) = some (.slice A0 m.1.length c0) ∧ w.cell? (nxt (ad.add (k * 4)) 1) = some (.slice A1 m.2.1.length c1) ∧ w.cell? (nxt (ad.add (k * 4)) 2) = some (.slice A2 m.2.2.1.length c2) ∧ w.cell? (nxt (ad.add (k * 4)) 3) = some (.slice A3 m.2.2.2.length c3) := by
  obtain ⟨ad, x0, x1, x2, x3, v0, v1, v2, v3, rfl, hb, hx, h0, h1, h2, h3, e0, e1, e2, e3⟩ := fModuleS_row h hk
  obtain ⟨A0, c0, rfl, r0, m0⟩ := sl_form h0 (List.length_map _)
  obtain ⟨A1, c1, rfl, r1, m1⟩ := sl_form h1 (List.length_map _)
  obtain ⟨A2, c2, rfl, r2, m2⟩ := sl_form h2 (List.length_map _)
  obtain ⟨A3, c3, rfl, r3, m3⟩ := sl_form h3 (List.length_map _)
  exact ⟨ad, (x0, x1, x2, x3), A0, c0, A1, c1, A2, c2, A3, c3, rfl, hb, hx, ⟨_, _, _, _, rfl, r0, r1, r2, r3⟩, ⟨m0, m1, m2, m3⟩, e0, e1, e2, e3⟩
theorem ins_row {l : List TInst} (h : Rep w S (.slice A n c) (fInstS l)) (hk : k < n) : ∃ (ad : Addr) (a b : Int) (ps : List Int) (A2 : Option Addr) (c2 : Nat),
    A = some ad ∧ S ad.block ∧ l[k]? = some (a, b, ps) ∧ Rep w S (.slice A2 ps.length c2) (fIntS ps) ∧ ps.length ≤ maxLen ∧
    w.cell? (ad.add (k * 3)) = some (.int .i64 a) ∧ w.cell? (nxt (ad.add (k * 3)) 1) = some (.int .i64 b) ∧ w.cell? (nxt (ad.add (k * 3)) 2) = some (.slice A2 ps.length c2) := by
  obtain ⟨ad, x0, x1, x2, v2, rfl, hb, hx, h2, e0, e1, e2⟩ := fInstS_row h hk
  obtain ⟨A2, c2, rfl, r2, m2⟩ := sl_form h2 (List.length_map _)
  exact ⟨ad, x0, x1, x2, A2, c2, rfl, hb, hx, r2, m2, e0, e1, e2⟩
theorem asg_row {l : List TAssign} (h : Rep w S (.slice A n c) (fAssignS l)) (hk : k < n) : ∃ (ad : Addr) (a : Int) (os : List TOp) (A1 : Option Addr) (c1 : Nat),
    A = some ad ∧ S ad.block ∧ l[k]? = some (a, os) ∧ Rep w S (.slice A1 os.length c1) (fOpS os) ∧ os.length ≤ maxLen ∧
    w.cell? (ad.add (k * 2)) = some (.int .i64 a) ∧ w.cell? (nxt (ad.add (k * 2)) 1) = some (.slice A1 os.length c1) := by
  obtain ⟨ad, x0, x1, v1, rfl, hb, hx, h1, e0, e1⟩ := fAssignS_row h hk
  obtain ⟨A1, c1, rfl, r1, m1⟩ := sl_form h1 (List.length_map _)
  exact ⟨ad, x0, x1, A1, c1, rfl, hb, hx, r1, m1, e0, e1⟩
end
end Go.Proofs.Ytjiijjihkgipkaa

/-
  Points: how they lie, and what the program says of them.
-/
import Derived.Test.YtdginfjlelpkmaaOpenS
set_option linter.unusedVariables false
set_option linter.unusedSimpArgs false
namespace Go
open Go.RowKit

structure Pt where
  x : Int
  y : Int

instance : Inhabited Pt := ⟨⟨0, 0⟩⟩
instance : DecidableEq Pt := fun a b => decidable_of_iff (a.x = b.x ∧ a.y = b.y) (by cases a; cases b; simp)

def Pt.cells (p : Pt) : List Value := [.int .i64 p.x, .int .i64 p.y]
def Pt.val (p : Pt) : Value := .agg #[.int .i64 p.x, .int .i64 p.y]
def pts (l : List Pt) : List Value := l.flatMap Pt.cells

theorem pts_len (l : List Pt) : (pts l).length = l.length * 2 := flatMap_len Pt.cells 2 (fun _ => rfl) l
theorem pts_get (l : List Pt) (i j : Nat) (hi : i < l.length) (hj : j < 2) : (pts l)[i * 2 + j]? = (l[i]).cells[j]? := flatMap_get Pt.cells 2 (fun _ => rfl) l i j hi hj
theorem pts_append (a b : List Pt) : pts (a ++ b) = pts a ++ pts b := by simp [pts]
theorem pts_snoc (a : List Pt) (p : Pt) : pts (a ++ [p]) = pts a ++ p.cells := by simp [pts]
theorem Pt.cells_one (p : Pt) : ∀ u ∈ p.cells, u.oneCell' = true := by intro u hu; simp [Pt.cells] at hu; rcases hu with rfl | rfl <;> rfl
theorem pts_one (l : List Pt) : ∀ u ∈ pts l, u.oneCell' = true := by
  intro u hu
  obtain ⟨p, -, hu⟩ := List.mem_flatMap.1 hu
  exact p.cells_one u hu
theorem pts_take (l : List Pt) (n : Nat) : (pts l).take (n * 2) = pts (l.take n) := by
  induction l generalizing n with
  | nil => simp [pts]
  | cons p l ih =>
    cases n with
    | zero => simp [pts]
    | succ n =>
      have := ih n
      simp only [pts, List.flatMap_cons, List.take_succ_cons] at *
      rw [← this, show (n + 1) * 2 = 2 + n * 2 by omega, List.take_add]
      simp [Pt.cells]

/-- The cells of one point of many. -/
theorem Rd.pt {w : World} {a : Option Addr} {l : List Pt} (h : Rd w a (pts l)) (i : Nat) (hi : i < l.length) :
    ∃ b off, a = some ⟨b, off, none⟩ ∧ b < w.heap.size ∧ w.cell? ⟨b, off + i * 2, none⟩ = some (.int .i64 l[i].x) ∧ w.cell? ⟨b, off + i * 2 + 1, none⟩ = some (.int .i64 l[i].y) := by
  obtain ⟨b, off, rfl, h0, hb⟩ := h.at (i := i * 2 + 0) (v := .int .i64 l[i].x) (by rw [pts_get l i 0 hi (by omega)]; rfl)
  obtain ⟨b', off', e, h1, -⟩ := h.at (i := i * 2 + 1) (v := .int .i64 l[i].y) (by rw [pts_get l i 1 hi (by omega)]; rfl)
  cases e
  exact ⟨b, off, rfl, hb, h0, by rw [Nat.add_assoc]; exact h1⟩

/-- May a point be? -/
def okPt (p : Pt) : Bool := decide (-16777216 ≤ p.x ∧ p.x ≤ 16777216) && decide (-16777216 ≤ p.y ∧ p.y ≤ 16777216)
theorem okPt_iff (p : Pt) : okPt p = true ↔ (-16777216 ≤ p.x ∧ p.x ≤ 16777216) ∧ (-16777216 ≤ p.y ∧ p.y ≤ 16777216) := by simp [okPt]

/-- The doubled area of three points. -/
def crs (a b c : Pt) : Int := (b.x - a.x) * (c.y - a.y) - (b.y - a.y) * (c.x - a.x)

theorem mul_bd (a b m n : Int) (ha : -m ≤ a ∧ a ≤ m) (hb : -n ≤ b ∧ b ≤ n) (hm : 0 ≤ m) (hn : 0 ≤ n) : -(m * n) ≤ a * b ∧ a * b ≤ m * n := by
  have h1 : (a * b).natAbs ≤ (m * n).natAbs := by
    rw [Int.natAbs_mul, Int.natAbs_mul]
    exact Nat.mul_le_mul (by omega) (by omega)
  have h2 : 0 ≤ m * n := Int.mul_nonneg hm hn
  omega

theorem crs_bd (a b c : Pt) (ha : okPt a = true) (hb : okPt b = true) (hc : okPt c = true) : -2251799813685248 ≤ crs a b c ∧ crs a b c ≤ 2251799813685248 := by
  rw [okPt_iff] at ha hb hc
  unfold crs
  have h1 := mul_bd (b.x - a.x) (c.y - a.y) 33554432 33554432 (by omega) (by omega) (by omega) (by omega)
  have h2 := mul_bd (b.y - a.y) (c.x - a.x) 33554432 33554432 (by omega) (by omega) (by omega) (by omega)
  omega
end Go

/-
  The shoelace: plain.
-/
import Derived.Test.YtdginfjlelpkmaaArea
set_option linter.unusedVariables false
set_option linter.unusedSimpArgs false
namespace Go

def sumTo (f : Nat → Int) : Nat → Int
  | 0 => 0
  | n + 1 => sumTo f n + f n

/-- What the document adds for an edge. -/
def shoT (l : List Pt) (i : Nat) : Int := l[i]!.x * l[(i + 1) % l.length]!.y - l[(i + 1) % l.length]!.x * l[i]!.y
def sho (l : List Pt) : Int := sumTo (shoT l) l.length

theorem fan_range (l : List Pt) (e : Nat → Pt × Pt) (n : Nat) : fan l ((List.range n).map e) = sumTo (fun i => crs l[0]! (e i).1 (e i).2) n := by
  induction n with
  | zero => rfl
  | succ n ih => rw [List.range_succ, List.map_append, List.map_cons, List.map_nil, fan_snoc, ih]; rfl

theorem crs_split (p a b : Pt) : crs p a b = (a.x * b.y - b.x * a.y) - (p.x * b.y - p.x * a.y) + (p.y * b.x - p.y * a.x) := by
  unfold crs
  simp only [Int.sub_mul, Int.mul_sub]
  have h1 : a.y * b.x = b.x * a.y := Int.mul_comm _ _
  have h2 : a.x * p.y = p.y * a.x := Int.mul_comm _ _
  have h3 : a.y * p.x = p.x * a.y := Int.mul_comm _ _
  have h4 : p.x * p.y = p.y * p.x := Int.mul_comm _ _
  omega

theorem fan_part (l : List Pt) (n : Nat) (hn : n ≤ l.length) : sumTo (fun i => crs l[0]! l[i]! l[(i + 1) % l.length]!) n =
    sumTo (shoT l) n - (l[0]!.x * l[n % l.length]!.y - l[0]!.x * l[0]!.y) + (l[0]!.y * l[n % l.length]!.x - l[0]!.y * l[0]!.x) := by
  induction n with
  | zero => simp [sumTo]
  | succ n ih =>
    have e : n % l.length = n := Nat.mod_eq_of_lt (by omega)
    rw [sumTo, ih (by omega), sumTo, crs_split, e]
    unfold shoT
    omega

theorem fan_sho (l : List Pt) : fan l (edges l) = sho l := by
  unfold edges
  rw [fan_range, fan_part l l.length (Nat.le_refl _), Nat.mod_self]
  unfold sho
  omega

theorem shoT_bd (l : List Pt) (h : l.all okPt = true) (i : Nat) (hi : i < l.length) : -562949953421312 ≤ shoT l i ∧ shoT l i ≤ 562949953421312 := by
  have h1 := ok_get l h i hi
  have h2 := ok_get l h ((i + 1) % l.length) (Nat.mod_lt _ (by omega))
  rw [okPt_iff] at h1 h2
  unfold shoT
  have a := mul_bd l[i]!.x l[(i + 1) % l.length]!.y 16777216 16777216 (by omega) (by omega) (by omega) (by omega)
  have b := mul_bd l[(i + 1) % l.length]!.x l[i]!.y 16777216 16777216 (by omega) (by omega) (by omega) (by omega)
  omega

theorem sho_bd (l : List Pt) (h : l.all okPt = true) (n : Nat) (hn : n ≤ l.length) : -(562949953421312 * n) ≤ sumTo (shoT l) n ∧ sumTo (shoT l) n ≤ 562949953421312 * n := by
  induction n with
  | zero => simp [sumTo]
  | succ n ih =>
    have h1 := shoT_bd l h n (by omega)
    have h2 := ih (by omega)
    rw [sumTo]
    omega
end Go

/-
  Slices of points that come in: PC; an opener for []api.Point.
-/
import Derived.Test.YtdginfjlelpkmaaOpenP
import Derived.Test.YtdginfjlelpkmaaOpenS
set_option linter.unusedVariables false
set_option linter.unusedSimpArgs false
set_option maxRecDepth 100000
namespace Go
open Go.RowKit

/-- A slice of points, with its address and capacity. -/
structure PC where
  l : List Pt
  p : Option Addr
  c : Nat
instance : Inhabited PC := ⟨⟨[], none, 0⟩⟩
def PC.val (x : PC) : Value := .slice x.p x.l.length x.c
def PC.cells (x : PC) : List Value := [x.val]
def PC.Ok (W : World) (x : PC) : Prop := Rd W x.p (pts x.l) ∧ x.l.length ≤ x.c ∧ x.c ≤ maxLen ∧ (x.p = none → x.c = 0)
theorem PC.Ok.keep {w w' : World} {x : PC} (h : x.Ok w) (hb : Below w.heap.size w w') : x.Ok w' := ⟨h.1.keep hb, h.2⟩
def PC.cut (x : PC) : PC := ⟨x.l.take 40, x.p, x.c⟩
theorem PC.Ok.cut {w : World} {x : PC} (h : x.Ok w) : x.cut.Ok w :=
  ⟨by have := h.1.take (40 * 2); rw [pts_take] at this; exact this, by have := h.2.1; simp [PC.cut]; omega, h.2.2.1, h.2.2.2⟩
end Go
namespace Go.Proofs.Ytdginfjlelpkmaa
open Go.RowKit Go.ChangeShapes Go.WideShapes Go.ChangeAt
theorem one_ring {H : Type} {enc : TypeId × Value → H} {W : World} {base : Nat} {spare : Nat → Bool} {held : Bool} (hsp : ∀ b, spare b = true) (n : Nat) (cs' : List Value) (z : DataW H × List MemPlace) (hl : cs'.length = 1)
    (h : DataW.trod enc Try.prog W base spare held n 66 cs' = some z) : ∃ y : PC, cs' = y.cells ∧ y.Ok W := by
  have c3 : Try.prog.cellsOf 3 = 1 := by kernel_rfl
  match cs', hl with
  | [v], _ =>
    obtain ⟨a, l, c, rfl⟩ : ∃ a l c, v = .slice a l c := by
      rcases DataW.trod_slice Try.underlying66 h with ⟨hc, _⟩ | ⟨a, l, c, _, _, _, _, hc, _⟩
      · simp at hc; exact ⟨_, _, _, hc⟩
      · simp at hc; exact ⟨_, _, _, hc⟩
    obtain ⟨xs, rfl, h1, h2, h3, h4, -⟩ := open_flat 2 (by decide) Pt.cells (fun _ => True) (fun _ => rfl) Try.underlying66 (by kernel_rfl) (fun n cs z hcl ht => by
      obtain ⟨ys, k, hk, hxy, _, hxl, hf⟩ := DataW.trod_struct Try.underlying37 ht
      match ys, hxl, cs, hcl with
      | [y0, y1], _, [v0, v1], _ =>
        have g0 := hf 0 _ rfl
        have g1 := hf 1 _ rfl
        simp [c3] at g0 g1
        obtain ⟨n0, e0, -, w0⟩ := DataW.trod_int Try.underlying3 g0
        obtain ⟨n1, e1, -, w1⟩ := DataW.trod_int Try.underlying3 g1
        simp at e0 e1
        subst e0 e1
        exact ⟨⟨n0, n1⟩, rfl, trivial⟩) h
    exact ⟨⟨xs, a, c⟩, rfl, h4, h1, h2, h3⟩

theorem one_pt {H : Type} {enc : TypeId × Value → H} {W : World} {base : Nat} {spare : Nat → Bool} {held : Bool} (n : Nat) (cs : List Value) (z : DataW H × List MemPlace) (hcl : cs.length = 2)
    (ht : DataW.trod enc Try.prog W base spare held n 37 cs = some z) : ∃ y : Pt, cs = y.cells ∧ PtIn y := by
  have c3 : Try.prog.cellsOf 3 = 1 := by kernel_rfl
  obtain ⟨ys, k, hk, hxy, _, hxl, hf⟩ := DataW.trod_struct Try.underlying37 ht
  match ys, hxl, cs, hcl with
  | [y0, y1], _, [v0, v1], _ =>
    have g0 := hf 0 _ rfl
    have g1 := hf 1 _ rfl
    simp [c3] at g0 g1
    obtain ⟨n0, e0, -, w0⟩ := DataW.trod_int Try.underlying3 g0
    obtain ⟨n1, e1, -, w1⟩ := DataW.trod_int Try.underlying3 g1
    simp at e0 e1
    subst e0 e1
    exact ⟨⟨n0, n1⟩, rfl, w0, w1⟩
theorem open_pts {H : Type} {enc : TypeId × Value → H} {W : World} {base : Nat} {spare : Nat → Bool} {fuel : Nat} {a : Option Addr} {len cap : Nat} {x : DataW H × List MemPlace} {held : Bool} (hsp : ∀ b, spare b = true)
    (h : DataW.trod enc Try.prog W base spare held fuel 66 [.slice a len cap] = some x) :
    ∃ xs : List Pt, len = xs.length ∧ len ≤ cap ∧ cap ≤ maxLen ∧ (a = none → cap = 0) ∧ Rd W a (pts xs) ∧ ∀ y ∈ xs, PtIn y :=
  open_flat 2 (by decide) Pt.cells PtIn (fun _ => rfl) Try.underlying66 (by kernel_rfl) (fun n cs' z hl hz => one_pt n cs' z hl hz) h
end Go.Proofs.Ytdginfjlelpkmaa

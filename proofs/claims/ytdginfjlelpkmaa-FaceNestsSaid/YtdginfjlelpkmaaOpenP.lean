/-
  Opening a law's arguments: a point.
-/
import Derived.Test.YtdginfjlelpkmaaOpenS
import Derived.Test.YtdginfjlelpkmaaInfo
import Derived.Test.YtdginfjlelpkmaaPts
set_option maxRecDepth 100000
namespace Go.Proofs.Ytdginfjlelpkmaa
open Go.RowKit Go.ChangeShapes Go.WideShapes Go.ChangeAt
/-- What is known of a point that came in. -/
def PtIn (p : Pt) : Prop := (Lit.int .i64 p.x).wf = true ∧ (Lit.int .i64 p.y).wf = true
theorem open_pt {H : Type} {enc : TypeId × Value → H} {W : World} {base b0 : Nat} {spare : Nat → Bool} {held : Bool} {r : Reach} {v : Value} {d : DataW H} {ps : List MemPlace} (hv : Value.okWide Try.prog W r b0 37 v)
    (hd : DataW.Trod enc Try.prog W base spare held 37 v d ps) : ∃ p : Pt, v = p.val ∧ PtIn p := by
  obtain ⟨cs, rfl, hsz⟩ := okWide_struct Try.underlying37 hv
  obtain ⟨n, hd⟩ := hd
  have hc : (Value.agg cs).cells.toList = cs.toList := by simp [Value.cells]
  rw [hc] at hd
  obtain ⟨xs, k, hk, hxy, _, hxl, hf⟩ := DataW.trod_struct Try.underlying37 hd
  have c2 : Try.prog.cellsOf 37 = 2 := by kernel_rfl
  have c3 : Try.prog.cellsOf 3 = 1 := by kernel_rfl
  rw [c2] at hsz
  obtain ⟨l⟩ := cs
  match xs, hxl, l, hsz with
  | [y0, y1], _, [v0, v1], _ =>
    have g0 := hf 0 _ rfl
    have g1 := hf 1 _ rfl
    simp [c3] at g0 g1
    obtain ⟨n0, e0, -, w0⟩ := DataW.trod_int Try.underlying3 g0
    obtain ⟨n1, e1, -, w1⟩ := DataW.trod_int Try.underlying3 g1
    simp at e0 e1
    subst e0 e1
    exact ⟨⟨n0, n1⟩, rfl, w0, w1⟩
end Go.Proofs.Ytdginfjlelpkmaa

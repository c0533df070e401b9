/-
  Opening a law's arguments: faces.
-/
import Derived.Test.YtdginfjlelpkmaaOpenS
import Derived.Test.YtdginfjlelpkmaaFfew
set_option linter.unusedVariables false
set_option linter.unusedSimpArgs false
set_option maxRecDepth 100000
namespace Go
open Go.RowKit
/-- An attribute that came in. -/
def AtIn (a : At) : Prop := AtOk a ∧ (Lit.int .i64 a.kind).wf = true ∧ (Lit.int .i64 a.n).wf = true
/-- A face that came in, its attributes' numbers too. -/
def FcIn (W : World) (f : Fc) : Prop := f.Ok W ∧ ∀ x ∈ f.ls, AtIn x
theorem FcIn.in {W : World} {f : Fc} (h : FcIn W f) : f.In W := ⟨h.1, fun x hx => (h.2 x hx).1⟩
end Go
namespace Go.Proofs.Ytdginfjlelpkmaa
open Go.RowKit Go.ChangeShapes Go.WideShapes Go.ChangeAt
theorem one_attr {H : Type} {enc : TypeId × Value → H} {W : World} {base : Nat} {spare : Nat → Bool} {held : Bool} (n : Nat) (cs : List Value) (z : DataW H × List MemPlace) (hcl : cs.length = 4)
    (ht : DataW.trod enc Try.prog W base spare held n 92 cs = some z) : ∃ y : At, cs = y.cells ∧ AtIn y := by
  have c3 : Try.prog.cellsOf 3 = 1 := by kernel_rfl
  have c1 : Try.prog.cellsOf 9 = 1 := by kernel_rfl
  have cv : Try.prog.cellsOf 90 = 3 := by kernel_rfl
  obtain ⟨ys, k, hk, hxy, _, hxl, hf⟩ := DataW.trod_struct Try.underlying92 ht
  match ys, hxl, cs, hcl with
  | [y0, y1], _, [v0, v1, v2, v3], _ =>
    have g0 := hf 0 _ rfl
    have g1 := hf 1 _ rfl
    simp [c1, cv] at g0 g1
    obtain ⟨s0, e0, -, w0⟩ := DataW.trod_string Try.underlying9 g0
    simp at e0
    subst e0
    obtain ⟨zs, k2, hk2, hxy2, _, hzl, hf2⟩ := DataW.trod_struct Try.underlying90 g1
    match zs, hzl with
    | [u0, u1, u2], _ =>
      have g2 := hf2 0 _ rfl
      have g3 := hf2 1 _ rfl
      have g4 := hf2 2 _ rfl
      simp [c1, c3] at g2 g3 g4
      obtain ⟨n1, e1, -, w1⟩ := DataW.trod_int Try.underlying3 g2
      obtain ⟨s2, e2, -, w2⟩ := DataW.trod_string Try.underlying9 g3
      obtain ⟨n3, e3, -, w3⟩ := DataW.trod_int Try.underlying3 g4
      simp at e1 e2 e3
      subst e1 e2 e3
      exact ⟨⟨s0, n1, s2, n3⟩, rfl, ⟨w0, w2⟩, w1, w3⟩

theorem one_slice {cs : List Value} {H : Type} {enc : TypeId × Value → H} {W : World} {base : Nat} {spare : Nat → Bool} {held : Bool} {n : Nat} {v : Value} {z : DataW H × List MemPlace} {t e : TypeId} (ht : Try.prog.underlying t = some (.slice e))
    (h : DataW.trod enc Try.prog W base spare held n t [v] = some z) : ∃ a l c, v = .slice a l c := by
  rcases DataW.trod_slice ht h with ⟨hc, _⟩ | ⟨a, l, c, _, _, _, _, hc, _⟩
  · simp at hc; exact ⟨_, _, _, hc⟩
  · simp at hc; exact ⟨_, _, _, hc⟩

theorem one_face {H : Type} {enc : TypeId × Value → H} {W : World} {base : Nat} {spare : Nat → Bool} {held : Bool} (hsp : ∀ b, spare b = true) (n : Nat) (cs' : List Value) (z : DataW H × List MemPlace) (hl : cs'.length = 2)
    (h : DataW.trod enc Try.prog W base spare held n 49 cs' = some z) : ∃ y : Fc, cs' = y.cells ∧ FcIn W y := by
  have c1 : Try.prog.cellsOf 46 = 1 := by kernel_rfl
  have c2 : Try.prog.cellsOf 47 = 1 := by kernel_rfl
  obtain ⟨ys, k, hk, hxy, _, hxl, hf⟩ := DataW.trod_struct Try.underlying49 h
  match ys, hxl, cs', hl with
  | [y0, y1], _, [v0, v1], _ =>
    have g0 := hf 0 _ rfl
    have g1 := hf 1 _ rfl
    simp [c1, c2] at g0 g1
    obtain ⟨a, l, c, rfl⟩ := one_slice (cs := []) Try.underlying46 g0
    obtain ⟨b, m, d, rfl⟩ := one_slice (cs := []) Try.underlying47 g1
    obtain ⟨xs, rfl, h1, h2, h3, h4, h5⟩ := open_flat 1 (by decide) PC.cells (PC.Ok W) (fun _ => rfl) Try.underlying46 (by kernel_rfl) (fun n cs' z hl hz => one_ring hsp n cs' z hl hz) g0
    obtain ⟨ys, rfl, k1, k2, k3, k4, k5⟩ := open_flat 4 (by decide) At.cells AtIn (fun _ => rfl) Try.underlying47 (by kernel_rfl) (fun n cs' z hl hz => one_attr n cs' z hl hz) g1
    exact ⟨⟨xs, a, c, ys, b, d⟩, rfl, ⟨⟨h4, h1, h2, h3⟩, h5, ⟨k4, k1, k2, k3⟩⟩, k5⟩

theorem open_faces {H : Type} {enc : TypeId × Value → H} {W : World} {base : Nat} {spare : Nat → Bool} {fuel : Nat} {a : Option Addr} {len cap : Nat} {x : DataW H × List MemPlace} {held : Bool} (hsp : ∀ b, spare b = true)
    (h : DataW.trod enc Try.prog W base spare held fuel 22 [.slice a len cap] = some x) :
    ∃ xs : List Fc, len = xs.length ∧ len ≤ cap ∧ cap ≤ maxLen ∧ (a = none → cap = 0) ∧ Rd W a (fcs xs) ∧ ∀ y ∈ xs, FcIn W y :=
  open_flat 2 (by decide) Fc.cells (FcIn W) (fun _ => rfl) Try.underlying22 (by kernel_rfl) (fun n cs' z hl hz => one_face hsp n cs' z hl hz) h
/-- One face as an argument. -/
theorem open_face {H : Type} {enc : TypeId × Value → H} {W : World} {base b0 : Nat} {spare : Nat → Bool} {held : Bool} {r : Reach} {v : Value} {d : DataW H} {ps : List MemPlace} (hv : Value.okWide Try.prog W r b0 49 v) (hsp : ∀ b, spare b = true)
    (hd : DataW.Trod enc Try.prog W base spare held 49 v d ps) : ∃ f : Fc, v = f.val ∧ FcIn W f := by
  obtain ⟨cs, rfl, hsz⟩ := okWide_struct Try.underlying49 hv
  obtain ⟨n, hd⟩ := hd
  have hc : (Value.agg cs).cells.toList = cs.toList := by simp [Value.cells]
  rw [hc] at hd
  have c2 : Try.prog.cellsOf 49 = 2 := by kernel_rfl
  rw [c2] at hsz
  obtain ⟨l⟩ := cs
  obtain ⟨f, e, hf⟩ := one_face hsp n l _ hsz hd
  exact ⟨f, by subst e; rfl, hf⟩
end Go.Proofs.Ytdginfjlelpkmaa

/-
  Opening a law's arguments: a tile.
-/
import Derived.Test.YtjggoajfilnfjaaGreatPk9
import Derived.Test.YtjggoajfilnfjaaGreatPk28
/- Opening a law's arguments: a tile. -/
set_option linter.unusedVariables false
set_option linter.unusedSimpArgs false
set_option maxRecDepth 100000
namespace Go.Proofs.YtjggoajfilnfjaaGreat
open Go.RowKit Go.ChangeShapes Go.WideShapes Go.ChangeAt
theorem one_attr {H : Type} {enc : TypeId × Value → H} {W : World} {base : Nat} {spare : Nat → Bool} {held : Bool} (n : Nat) (cs : List Value) (z : DataW H × List MemPlace) (hcl : cs.length = 4)
    (ht : DataW.trod enc Tryz.prog W base spare held n 103 cs = some z) : ∃ y : At, cs = y.cells ∧ AtW y := by
  have c3 : Tryz.prog.cellsOf 3 = 1 := by kernel_rfl
  have c1 : Tryz.prog.cellsOf 9 = 1 := by kernel_rfl
  have cv : Tryz.prog.cellsOf 101 = 3 := by kernel_rfl
  obtain ⟨ys, k, hk, hxy, _, hxl, hf⟩ := DataW.trod_struct Tryz.underlying103 ht
  match ys, hxl, cs, hcl with
  | [y0, y1], _, [v0, v1, v2, v3], _ =>
    have g0 := hf 0 _ rfl; have g1 := hf 1 _ rfl; simp [c1, cv] at g0 g1; obtain ⟨s0, e0, -, w0⟩ := DataW.trod_string Tryz.underlying9 g0; simp at e0; subst e0; obtain ⟨zs, k2, hk2, hxy2, _, hzl, hf2⟩ := DataW.trod_struct Tryz.underlying101 g1
    match zs, hzl with
    | [u0, u1, u2], _ =>
      have g2 := hf2 0 _ rfl; have g3 := hf2 1 _ rfl; have g4 := hf2 2 _ rfl; simp [c1, c3] at g2 g3 g4; obtain ⟨n1, e1, -, w1⟩ := DataW.trod_int Tryz.underlying3 g2; obtain ⟨s2, e2, -, w2⟩ := DataW.trod_string Tryz.underlying9 g3; obtain ⟨n3, e3, -, w3⟩ := DataW.trod_int Tryz.underlying3 g4; simp at e1 e2 e3; subst e1 e2 e3; exact ⟨⟨s0, n1, s2, n3⟩, rfl, ⟨w0, w2⟩, w1, w3⟩

theorem one_ringW {H : Type} {enc : TypeId × Value → H} {W : World} {base : Nat} {spare : Nat → Bool} {held : Bool} (hsp : ∀ b, spare b = true) (n : Nat) (cs' : List Value) (z : DataW H × List MemPlace) (hl : cs'.length = 1)
    (h : DataW.trod enc Tryz.prog W base spare held n 80 cs' = some z) : ∃ y : PC, cs' = y.cells ∧ y.Ok W ∧ ∀ p ∈ y.l, PtIn p := by
  match cs', hl with
  | [v], _ =>
    obtain ⟨a, l, c, rfl⟩ : ∃ a l c, v = .slice a l c := by
      rcases DataW.trod_slice Tryz.underlying80 h with ⟨hc, _⟩ | ⟨a, l, c, _, _, _, _, hc, _⟩
      · simp at hc; exact ⟨_, _, _, hc⟩
      · simp at hc; exact ⟨_, _, _, hc⟩
    obtain ⟨xs, rfl, h1, h2, h3, h4, h5⟩ := open_pts hsp h; exact ⟨⟨xs, a, c⟩, rfl, ⟨h4, h1, h2, h3⟩, h5⟩
theorem one_slice {cs : List Value} {H : Type} {enc : TypeId × Value → H} {W : World} {base : Nat} {spare : Nat → Bool} {held : Bool} {n : Nat} {v : Value} {z : DataW H × List MemPlace} {t e : TypeId} (ht : Tryz.prog.underlying t = some (.slice e))
    (h : DataW.trod enc Tryz.prog W base spare held n t [v] = some z) : ∃ a l c, v = .slice a l c := by
  rcases DataW.trod_slice ht h with ⟨hc, _⟩ | ⟨a, l, c, _, _, _, _, hc, _⟩
  · simp at hc; exact ⟨_, _, _, hc⟩
  · simp at hc; exact ⟨_, _, _, hc⟩

def FtIn (W : World) (f : Ft) : Prop := f.Ok W ∧ f.W
theorem one_feat {H : Type} {enc : TypeId × Value → H} {W : World} {base : Nat} {spare : Nat → Bool} {held : Bool} (hsp : ∀ b, spare b = true) (n : Nat) (cs' : List Value) (z : DataW H × List MemPlace) (hl : cs'.length = 4)
    (h : DataW.trod enc Tryz.prog W base spare held n 53 cs' = some z) : ∃ y : Ft, cs' = y.cells ∧ FtIn W y := by
  have c1 : Tryz.prog.cellsOf 51 = 1 := by kernel_rfl
  have c2 : Tryz.prog.cellsOf 50 = 1 := by kernel_rfl
  have c3 : Tryz.prog.cellsOf 3 = 1 := by kernel_rfl
  obtain ⟨ys, k, hk, hxy, _, hxl, hf⟩ := DataW.trod_struct Tryz.underlying53 h
  match ys, hxl, cs', hl with
  | [y0, y1, y2, y3], _, [v0, v1, v2, v3], _ =>
    have g0 := hf 0 _ rfl; have g1 := hf 1 _ rfl; have g2 := hf 2 _ rfl; have g3 := hf 3 _ rfl; simp [c1, c2, c3] at g0 g1 g2 g3; obtain ⟨n0, e0, -, w0⟩ := DataW.trod_int Tryz.underlying3 g0; obtain ⟨n1, e1, -, w1⟩ := DataW.trod_int Tryz.underlying3 g1; simp at e0 e1; subst e0 e1; obtain ⟨b, m, d, rfl⟩ := one_slice (cs := []) Tryz.underlying50 g2; obtain ⟨a, l, c, rfl⟩ := one_slice (cs := []) Tryz.underlying51 g3; obtain ⟨ys, rfl, k1, k2, k3, k4, k5⟩ := open_flat 4 (by decide) At.cells AtW (fun _ => rfl) Tryz.underlying50 (by kernel_rfl) (fun n cs' z hl hz => one_attr n cs' z hl hz) g2; obtain ⟨xs, rfl, h1, h2, h3, h4, h5⟩ := open_flat 1 (by decide) PC.cells (fun y => y.Ok W ∧ ∀ p ∈ y.l, PtIn p) (fun _ => rfl) Tryz.underlying51 (by kernel_rfl) (fun n cs' z hl hz => one_ringW hsp n cs' z hl hz) g3; exact ⟨⟨n0, n1, ys, b, d, xs, a, c⟩, rfl, ⟨⟨k4, k1, k2, k3⟩, ⟨h4, h1, h2, h3⟩, fun r hr => (h5 r hr).1⟩, w0, w1, k5, fun r hr => (h5 r hr).2⟩
theorem one_lay {H : Type} {enc : TypeId × Value → H} {W : World} {base : Nat} {spare : Nat → Bool} {held : Bool} (hsp : ∀ b, spare b = true) (n : Nat) (cs' : List Value) (z : DataW H × List MemPlace) (hl : cs'.length = 2)
    (h : DataW.trod enc Tryz.prog W base spare held n 46 cs' = some z) : ∃ y : Ly, cs' = y.cells ∧ LyIn W y := by
  have c1 : Tryz.prog.cellsOf 9 = 1 := by kernel_rfl
  have c2 : Tryz.prog.cellsOf 44 = 1 := by kernel_rfl
  obtain ⟨ys, k, hk, hxy, _, hxl, hf⟩ := DataW.trod_struct Tryz.underlying46 h
  match ys, hxl, cs', hl with
  | [y0, y1], _, [v0, v1], _ =>
    have g0 := hf 0 _ rfl; have g1 := hf 1 _ rfl; simp [c1, c2] at g0 g1; obtain ⟨s0, e0, -, w0⟩ := DataW.trod_string Tryz.underlying9 g0; simp at e0; subst e0; obtain ⟨b, m, d, rfl⟩ := one_slice (cs := []) Tryz.underlying44 g1; obtain ⟨ys, rfl, k1, k2, k3, k4, k5⟩ := open_flat 4 (by decide) Ft.cells (FtIn W) (fun _ => rfl) Tryz.underlying44 (by kernel_rfl) (fun n cs' z hl hz => one_feat hsp n cs' z hl hz) g1; exact ⟨⟨s0, ys, b, d⟩, rfl, ⟨⟨k4, k1, k2, k3⟩, fun f hf => (k5 f hf).1⟩, w0, fun f hf => (k5 f hf).2⟩
theorem open_tile {H : Type} {enc : TypeId × Value → H} {W : World} {base b0 : Nat} {spare : Nat → Bool} {held : Bool} {r : Reach} {v : Value} {d : DataW H} {ps : List MemPlace} (hv : Value.okWide Tryz.prog W r b0 24 v) (hsp : ∀ b, spare b = true)
    (hd : DataW.Trod enc Tryz.prog W base spare held 24 v d ps) : ∃ (a : Option Addr) (c : Nat) (Y : List Ly), v = .agg #[.slice a Y.length c] ∧ Y.length ≤ c ∧ c ≤ maxLen ∧ Rd W a (lys Y) ∧ (∀ y ∈ Y, LyIn W y) := by
  obtain ⟨cs, rfl, hsz⟩ := okWide_struct Tryz.underlying24 hv; obtain ⟨n, hd⟩ := hd; have hc : (Value.agg cs).cells.toList = cs.toList := by simp [Value.cells]
  rw [hc] at hd; have c2 : Tryz.prog.cellsOf 24 = 1 := by kernel_rfl
  have c1 : Tryz.prog.cellsOf 22 = 1 := by kernel_rfl
  rw [c2] at hsz; obtain ⟨l⟩ := cs; obtain ⟨ys, k, hk, hxy, _, hxl, hf⟩ := DataW.trod_struct Tryz.underlying24 hd
  match ys, hxl, l, hsz with
  | [y0], _, [v0], _ =>
    have g0 := hf 0 _ rfl; simp [c1] at g0; obtain ⟨b, m, d, rfl⟩ := one_slice (cs := []) Tryz.underlying22 g0; obtain ⟨ys, rfl, k1, k2, k3, k4, k5⟩ := open_flat 2 (by decide) Ly.cells (LyIn W) (fun _ => rfl) Tryz.underlying22 (by kernel_rfl) (fun n cs' z hl hz => one_lay hsp n cs' z hl hz) g0; exact ⟨b, d, ys, rfl, k1, k2, k4, k5⟩
end Go.Proofs.YtjggoajfilnfjaaGreat

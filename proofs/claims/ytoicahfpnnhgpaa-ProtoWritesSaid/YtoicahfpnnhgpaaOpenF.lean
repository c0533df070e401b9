/-
  Opening a law's arguments: a slice of fields.
-/
import Derived.Test.YtoicahfpnnhgpaaOpenS
import Derived.Test.YtoicahfpnnhgpaaPsame
namespace Go
open Go.Proto
instance : Inhabited FC := ⟨⟨Fld.zero, none, 0⟩⟩
end Go
namespace Go.Proofs.Ytoicahfpnnhgpaa
open Go.RowKit Go.Vint Go.Proto Go.ChangeShapes Go.WideShapes Go.ChangeAt

/-- What is known of a field that came in. -/
def FIn (W : World) (y : FC) : Prop := y.Ok W ∧ Byt y.f ∧ (0 ≤ y.f.n ∧ y.f.n ≤ 18446744073709551615) ∧ (-9223372036854775808 ≤ y.f.num ∧ y.f.num ≤ 9223372036854775807) ∧ (-9223372036854775808 ≤ y.f.kind ∧ y.f.kind ≤ 9223372036854775807)

theorem one_field {H : Type} {enc : TypeId × Value → H} {W : World} {base : Nat} {spare : Nat → Bool} {held : Bool} (hsp : ∀ b, spare b = true) (n : Nat) (cs' : List Value) (z : DataW H × List MemPlace) (hl : cs'.length = 4)
    (h : DataW.trod enc Try.prog W base spare held n 25 cs' = some z) : ∃ y : FC, cs' = y.cells ∧ FIn W y := by
  obtain ⟨xs, k, hk, hxy, _, hxl, hf⟩ := DataW.trod_struct Try.underlying25 h
  have c3 : Try.prog.cellsOf 3 = 1 := by kernel_rfl
  have c23 : Try.prog.cellsOf 23 = 1 := by kernel_rfl
  have c22 : Try.prog.cellsOf 22 = 1 := by kernel_rfl
  match xs, hxl, cs', hl with
  | [y0, y1, y2, y3], _, [v0, v1, v2, v3], _ =>
    have g0 := hf 0 _ rfl
    have g1 := hf 1 _ rfl
    have g2 := hf 2 _ rfl
    have g3 := hf 3 _ rfl
    simp [c3, c23, c22] at g0 g1 g2 g3
    obtain ⟨n0, e0, -, w0⟩ := DataW.trod_int Try.underlying3 g0
    obtain ⟨n1, e1, -, w1⟩ := DataW.trod_int Try.underlying3 g1
    obtain ⟨n2, e2, -, w2⟩ := DataW.trod_int Try.underlying23 g2
    simp at e0 e1 e2
    subst e0 e1 e2
    obtain ⟨a, l, c, rfl⟩ : ∃ a l c, v3 = .slice a l c := by
      rcases DataW.trod_slice Try.underlying22 g3 with ⟨hc, _⟩ | ⟨a, l, c, _, _, _, _, hc, _⟩
      · simp at hc; exact ⟨_, _, _, hc⟩
      · simp at hc; exact ⟨_, _, _, hc⟩
    obtain ⟨L, rfl, hlc, hm, hn, hr, hw⟩ := open_row Try.underlying22 Try.underlying5 (by kernel_rfl) hsp g3
    exact ⟨⟨⟨n0, n1, n2, L⟩, a, c⟩, rfl, ⟨hr, hlc, hm, hn⟩, fun x hx => bd_u8 (hw x hx), bd_u64 w2, bd_i64 w0, bd_i64 w1⟩

theorem open_fields {H : Type} {enc : TypeId × Value → H} {W : World} {base : Nat} {spare : Nat → Bool} {fuel : Nat} {a : Option Addr} {len cap : Nat} {x : DataW H × List MemPlace} {held : Bool} (hsp : ∀ b, spare b = true)
    (h : DataW.trod enc Try.prog W base spare held fuel 36 [.slice a len cap] = some x) :
    ∃ xs : List FC, len = xs.length ∧ len ≤ cap ∧ cap ≤ maxLen ∧ (a = none → cap = 0) ∧ Rd W a (flat xs) ∧ ∀ y ∈ xs, FIn W y :=
  open_flat 4 (by decide) FC.cells (FIn W) (fun _ => rfl) Try.underlying36 (by kernel_rfl) (fun n cs' z hl hz => one_field hsp n cs' z hl hz) h
end Go.Proofs.Ytoicahfpnnhgpaa

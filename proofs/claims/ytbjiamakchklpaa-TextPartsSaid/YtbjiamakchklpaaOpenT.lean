/-
  Opening a law's arguments: a slice of strings.
-/
import Derived.Test.YtbjiamakchklpaaOpenS
import Derived.Test.YtbjiamakchklpaaProg
set_option linter.unusedVariables false
set_option linter.unusedSimpArgs false
namespace Go
instance : Inhabited ByteArray := ⟨ByteArray.empty⟩
end Go
namespace Go.Proofs.Ytbjiamakchklpaa
open Go.RowKit Go.ChangeShapes Go.WideShapes Go.ChangeAt
/-- Strings, as cells. -/
def scell (s : ByteArray) : List Value := [.string s]
def scells (l : List ByteArray) : List Value := l.flatMap scell
def SIn (s : ByteArray) : Prop := s.size ≤ maxLen
theorem open_strs {H : Type} {enc : TypeId × Value → H} {W : World} {base : Nat} {spare : Nat → Bool} {fuel : Nat} {a : Option Addr} {len cap : Nat} {x : DataW H × List MemPlace} {held : Bool} (hsp : ∀ b, spare b = true)
    (h : DataW.trod enc Try.prog W base spare held fuel 44 [.slice a len cap] = some x) :
    ∃ xs : List ByteArray, len = xs.length ∧ len ≤ cap ∧ cap ≤ maxLen ∧ (a = none → cap = 0) ∧ Rd W a (scells xs) ∧ ∀ y ∈ xs, SIn y :=
  open_flat 1 (by decide) scell SIn (fun _ => rfl) Try.underlying44 (by kernel_rfl) (fun n cs' z hl hz => by
    match cs', hl with
    | [v], _ =>
      obtain ⟨s', h, hx, hs⟩ := DataW.trod_string Try.underlying9 hz
      simp at h
      subst h
      exact ⟨s', rfl, hs⟩) h
end Go.Proofs.Ytbjiamakchklpaa

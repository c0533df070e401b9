/-
  Opening a law's arguments: a slice of integers that came in, as 'Rd'.
-/
import Derived.WalkKit
import Derived.ProofKit
import Derived.OpenShut
import Derived.ShutString
import Derived.ChangeOld
import Derived.Below
import Derived.JoinedCond
import Derived.Test.YtdginfjlelpkmaaLib
namespace Go
open Go.ChangeShapes Go.WideShapes Go.ChangeAt Go.RowKit

theorem cell_spot {w : World} {x : Addr} {v : Value} (h : w.cell? x = some v) : x.spot = none := by
  unfold World.cell? at h
  split at h
  · split at h
    · cases h
    · rename_i hs; simpa using hs
  · cases h

theorem open_row {H : Type} {enc : TypeId × Value → H} {P : Program} {W : World} {base : Nat} {spare : Nat → Bool} {t e : TypeId} {k : IntKind} {fuel : Nat} {a : Option Addr} {len cap : Nat} {x : DataW H × List MemPlace}
    (ht : P.underlying t = some (.slice e)) (he : P.underlying e = some (.int k)) (hc : P.cellsOf e = 1) (hsp : ∀ b, spare b = true) {held : Bool}
    (h : DataW.trod enc P W base spare held fuel t [.slice a len cap] = some x) :
    ∃ L : List Int, len = L.length ∧ len ≤ cap ∧ cap ≤ maxLen ∧ (a = none → cap = 0) ∧ Rd W a (L.map (Value.int k)) ∧ ∀ n ∈ L, (Lit.int k n).wf = true := by
  rcases open_ints ht he hc h with ⟨hcs, _⟩ | ⟨y, l, c, zs, hcs, _, hl, hm, hz, _, hcell, hwz⟩
  · simp at hcs
    obtain ⟨rfl, rfl, rfl⟩ := hcs
    exact ⟨[], rfl, Nat.le_refl _, by simp [maxLen], fun _ => rfl, .inl rfl, by simp⟩
  · simp at hcs
    obtain ⟨rfl, rfl, rfl⟩ := hcs
    rw [hsp, if_pos rfl] at hz
    refine ⟨zs.take len, by simp; omega, hl, hm, fun h => (by cases h), ?_, fun n hn => hwz n (List.mem_of_mem_take hn)⟩
    by_cases h0 : zs.length = 0
    · left
      have : zs = [] := List.length_eq_zero_iff.1 h0
      simp [this]
    · have hs := cell_spot (hcell 0 (by omega))
      have hs' : y.spot = none := by simpa [Addr.add] using hs
      obtain ⟨b, off, sp⟩ := y
      simp only at hs'
      subst hs'
      refine .inr ⟨b, off, rfl, fun i v hv => ?_⟩
      rw [List.getElem?_map, List.getElem?_take] at hv
      split at hv
      · cases hzi : zs[i]? with
        | none => rw [hzi] at hv; cases hv
        | some z =>
          rw [hzi] at hv
          simp at hv
          subst hv
          have hi : i < zs.length := (List.getElem?_eq_some_iff.1 hzi).1
          have hc := hcell i hi
          rw [List.getD_eq_getElem?_getD, hzi] at hc
          unfold Addr.add at hc
          split at hc
          · subst_vars; simpa using hc
          · simpa using hc
      · cases hv

theorem bd_u8 {n : Int} (h : (Lit.int .u8 n).wf = true) : 0 ≤ n ∧ n ≤ 255 := by simpa [Lit.wf, IntKind.min, IntKind.max, IntKind.signed, IntKind.bits] using h
theorem bd_u64 {n : Int} (h : (Lit.int .u64 n).wf = true) : 0 ≤ n ∧ n ≤ 18446744073709551615 := by simpa [Lit.wf, IntKind.min, IntKind.max, IntKind.signed, IntKind.bits] using h
theorem bd_i64 {n : Int} (h : (Lit.int .i64 n).wf = true) : -9223372036854775808 ≤ n ∧ n ≤ 9223372036854775807 := by simpa [Lit.wf, IntKind.min, IntKind.max, IntKind.signed, IntKind.bits] using h
end Go

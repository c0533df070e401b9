/-
  Bytes that a string is made of.
-/
import Derived.Test.YtbjiamakchklpaaLib
import Derived.Laws.BytesArg
namespace Go
open Go.RowKit

/-- 'string(b)', b read by Rd. -/
theorem run_convert_rd {P : Program} (w : World) (src e dst : TypeId) (hs : P.underlying src = some (.slice e)) (he : P.underlying e = some (.int .u8)) (hd : P.underlying dst = some .string)
    (a : Option Addr) (c : Nat) (xs : List Int) (hr : Rd w a (xs.map (Value.int .u8))) :
    (convert src dst (.slice a xs.length c)).run P w = .ok (.string (strOfNums xs)) w := by
  rcases hr with h | ⟨b, off, rfl, h⟩
  · have : xs = [] := by simpa using h
    subst this
    rw [run_convert_bytes_string w src dst e _ _ c hs he hd]
    cases a <;> simp [Conv.bytesToString, loadCells]
    all_goals rfl
  · refine run_convert_bytes_arg w src e hs he b off xs.length c xs rfl (fun i hi => ?_) dst hd
    exact h i _ (by simp [List.getD, hi])

theorem strOfNums_inj (xs ys : List Int) (hx : ∀ x ∈ xs, 0 ≤ x ∧ x ≤ 255) (hy : ∀ x ∈ ys, 0 ≤ x ∧ x ≤ 255) (h : strOfNums xs = strOfNums ys) : xs = ys := by
  have h1 : (strOfNums xs).data.toList = (strOfNums ys).data.toList := by rw [h]
  rw [strOfNums_data, strOfNums_data] at h1
  clear h
  induction xs generalizing ys with
  | nil => cases ys with
    | nil => rfl
    | cons => simp at h1
  | cons x xs ih => cases ys with
    | nil => simp at h1
    | cons y ys =>
      simp only [List.map_cons, List.cons.injEq] at h1
      have a1 := hx x (by simp)
      have a2 := hy y (by simp)
      have : x.toNat = y.toNat := by
        have h2 := congrArg UInt8.toNat h1.1
        rw [UInt8.toNat_ofNat', UInt8.toNat_ofNat'] at h2
        omega
      rw [ih ys (fun z hz => hx z (by simp [hz])) (fun z hz => hy z (by simp [hz])) h1.2, show x = y by omega]
end Go

/-
  Plain: quoted words with one blank between are the words of the line.
-/
import Derived.Test.YtbjiamakchklpaaTback
import Derived.Test.YtbjiamakchklpaaTwords
set_option linter.unusedVariables false
set_option linter.unusedSimpArgs false
set_option maxRecDepth 100000
namespace Go
open Go.RowKit
/-- Quoted words, each behind a blank. -/
def tailF (l : List ByteArray) : List UInt8 := l.flatMap (fun y => 32 :: quoteF y)
/-- Quoted words with one blank between. -/
def joinF : List ByteArray → List UInt8
  | [] => []
  | x :: xs => quoteF x ++ tailF xs
theorem joinF_snoc (l : List ByteArray) (y : ByteArray) : joinF (l ++ [y]) = if l = [] then quoteF y else joinF l ++ 32 :: quoteF y := by
  cases l with
  | nil => simp [joinF, tailF]
  | cons x xs => simp [joinF, tailF]
theorem wordF_quote (T : ByteArray) (x : ByteArray) (hx : rightF x = true) (xs : List ByteArray) (h : T.data.toList = quoteF x ++ tailF xs) : wordF T = (x.data.toList, true, (quoteF x).length, 0) := by
  have hT : T = ⟨(quoteF x ++ tailF xs).toArray⟩ := by
    apply ByteArray.ext
    rw [← h]
  have hu := unquote_quote x hx (tailF xs)
  rw [← hT] at hu
  have hsz : T.size = (quoteF x).length + (tailF xs).length := by rw [hT, lsize, List.length_append]
  have hq := quote_runes x
  have hq0 : 0 < (quoteF x).length := by rw [hq]; simp
  have h0 : byt T 0 = 34 := by rw [hT, lbyt, hq]; simp
  unfold wordF
  rw [if_pos ⟨by omega, h0⟩, hu, if_neg (by simp)]
  dsimp only
  rw [if_neg]
  rintro ⟨h1, h2⟩
  cases xs with
  | nil => simp [tailF] at hsz; omega
  | cons y ys =>
    refine h2 ?_
    rw [hT, lbyt, List.getD_eq_getElem?_getD, List.getElem?_append_right (Nat.le_refl _)]
    simp [tailF]
theorem wordsF_join (S : ByteArray) : ∀ (xs : List ByteArray) (x : ByteArray) (f p : Nat) (out : List (List UInt8 × Bool)), rightF x = true → (∀ y ∈ xs, rightF y = true) → S.size < p + f → S.data.toList.drop p = quoteF x ++ tailF xs →
    wordsF S f p out = (out ++ (x :: xs).map (fun y => (y.data.toList, true)), 0, 0) := by
  intro xs
  induction xs with
  | nil =>
    intro x f p out hx _ hf h
    have hl := congrArg List.length h
    rw [List.length_drop, Array.length_toList, List.length_append] at hl
    have hss : S.data.size = S.size := rfl
    have hq := quote_runes x
    have hq0 : 0 < (quoteF x).length := by rw [hq]; simp
    obtain ⟨f, rfl⟩ : ∃ g, f = g + 1 := ⟨f - 1, by omega⟩
    have hw := wordF_quote (S.extract p S.size) x hx [] (by rw [ext_drop]; exact h)
    unfold wordsF
    rw [hw]
    dsimp only
    rw [if_neg (by simp), if_neg (by simp [tailF] at hl; omega)]
    rfl
  | cons y ys ih =>
    intro x f p out hx hys hf h
    have hl := congrArg List.length h
    rw [List.length_drop, Array.length_toList, List.length_append] at hl
    have hss : S.data.size = S.size := rfl
    have hq := quote_runes x
    have hq0 : 0 < (quoteF x).length := by rw [hq]; simp
    obtain ⟨f, rfl⟩ : ∃ g, f = g + 1 := ⟨f - 1, by omega⟩
    have hw := wordF_quote (S.extract p S.size) x hx (y :: ys) (by rw [ext_drop]; exact h)
    have hlt : p + (quoteF x).length < S.size := by simp [tailF] at hl; omega
    unfold wordsF
    rw [hw]
    dsimp only
    rw [if_neg (by simp), if_pos hlt]
    have hd : S.data.toList.drop (p + (quoteF x).length + 1) = quoteF y ++ tailF ys := by
      rw [Nat.add_assoc, ← List.drop_drop, h, ← List.drop_drop, List.drop_left]
      simp [tailF]
    rw [ih y f _ _ (hys y (by simp)) (fun z hz => hys z (by simp [hz])) (by omega) hd]
    simp
theorem wordsT_join (l : List ByteArray) (h : ∀ y ∈ l, rightF y = true) : wordsT ⟨(joinF l).toArray⟩ = (l.map (fun y => (y.data.toList, true)), 0, 0) := by
  unfold wordsT
  cases l with
  | nil => rfl
  | cons x xs =>
    have hq := quote_runes x
    have hq0 : 0 < (quoteF x).length := by rw [hq]; simp
    rw [if_neg (by rw [lsize]; simp only [joinF, List.length_append]; omega)]
    have := wordsF_join ⟨(joinF (x :: xs)).toArray⟩ xs x ((⟨(joinF (x :: xs)).toArray⟩ : ByteArray).size + 1) 0 [] (h x (by simp)) (fun y hy => h y (by simp [hy])) (by omega) (by rw [List.drop_zero]; rfl)
    rw [this, List.nil_append]
end Go

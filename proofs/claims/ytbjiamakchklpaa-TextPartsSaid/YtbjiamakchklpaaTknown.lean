/-
  The chapter's examples: known.
-/
import Derived.Test.YtbjiamakchklpaaTwords
import Derived.Test.YtbjiamakchklpaaTquote
set_option linter.unusedVariables false
set_option linter.unusedSimpArgs false
set_option maxRecDepth 100000
namespace Go.Proofs.Ytbjiamakchklpaa
open Go.RowKit

set_option maxHeartbeats 6400000 in
theorem tknown_any (w : World) :
    Calls Try.prog 13 #[] w fun e w' => e = .returned (.bool true) ∧ Below w.heap.size w w' := by
  have HQ := Lib.hid (quote_any ⟨#[97, 34, 98, 10]⟩ (by decide))
  rw [show rightF ⟨#[97, 34, 98, 10]⟩ = true by decide +kernel, if_pos rfl, if_pos rfl, show quoteF ⟨#[97, 34, 98, 10]⟩ = [34, 97, 92, 34, 98, 92, 110, 34] by decide +kernel] at HQ
  have H1 := Lib.hid (words_any ⟨#[102, 97, 99, 101, 32, 34, 120, 32, 121, 34, 32, 51]⟩ (by decide))
  rw [show wordsT ⟨#[102, 97, 99, 101, 32, 34, 120, 32, 121, 34, 32, 51]⟩ = ([([102, 97, 99, 101], false), ([120, 32, 121], true), ([51], false)], 0, 0) by decide +kernel] at H1
  have H2 := Lib.hid (words_any ⟨#[97, 32, 32, 98]⟩ (by decide))
  rw [show wordsT ⟨#[97, 32, 32, 98]⟩ = ([], 2, 3) by decide +kernel] at H2
  go_enter Try.func13, Try.ntmps13
  go_wp2_with fail
  refine (HQ.out _).mono ?_
  rintro e w1 ⟨rfl, hb1⟩
  go_wp2_with fail
  refine (H1.out _).mono ?_
  rintro e w2 ⟨v2, rfl, ho2, hb2⟩
  obtain ⟨a, c, rfl, hc1, hc2, -, hr, -⟩ := ho2.form
  have hbb := hb1.trans (hb2.mono hb1.size)
  go_wp2_with fail
  refine (H2.out _).mono ?_
  rintro e w3 ⟨v3, rfl, -, hb3⟩
  have hbe := hbb.trans (hb3.mono hbb.size)
  have hr := hr.keep hb3
  obtain ⟨b, off, rfl, c2, -⟩ := hr.at (i := 2) (v := .string ⟨#[120, 32, 121]⟩) rfl
  obtain ⟨b', off', he, c3, -⟩ := hr.at (i := 3) (v := .bool true) rfl
  cases he
  obtain ⟨b', off', he, c4, -⟩ := hr.at (i := 4) (v := .string ⟨#[51]⟩) rfl
  cases he
  obtain ⟨b', off', he, c5, -⟩ := hr.at (i := 5) (v := .bool false) rfl
  cases he
  clear HQ H1 H2 ho2 hr
  go_wp2
  go_ret
  exact ⟨rfl, hbe⟩
end Go.Proofs.Ytbjiamakchklpaa

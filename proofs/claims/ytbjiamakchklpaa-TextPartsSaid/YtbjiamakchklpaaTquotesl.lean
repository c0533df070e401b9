/-
  TextQuotes: the walk.
-/
import Derived.Test.YtbjiamakchklpaaTknown
import Derived.Test.YtbjiamakchklpaaTcutl
import Derived.Test.YtbjiamakchklpaaTback
import Derived.Test.YtbjiamakchklpaaTrunes
import Derived.Test.YtbjiamakchklpaaTunq
import Derived.Test.YtbjiamakchklpaaTrunq
set_option linter.unusedVariables false
set_option linter.unusedSimpArgs false
set_option maxRecDepth 100000
namespace Go
open Go.RowKit
theorem rl_len (s : ByteArray) : ∀ (f p : Nat), (rl s f p).length ≤ f := by
  intro f
  induction f with
  | zero => intro p; simp [rl]
  | succ f ih =>
    intro p
    by_cases hp : p < s.size
    · rw [rl_step s f p hp, List.length_cons]
      have := ih (p + (Utf8.decode s p).2)
      omega
    · rw [rl_end s _ p hp]; simp
theorem quote_len (s : ByteArray) : (quoteF s).length ≤ 4 * s.size + 2 := by
  unfold quoteF
  have h1 := forms_len (runesF s)
  have h2 : (runesF s).length ≤ s.size := rl_len s s.size 0
  simp only [List.length_append, List.length_cons, List.length_nil]
  omega
theorem unqF_len (s : ByteArray) : ∀ (f p : Nat) (acc : List UInt8), (unqF s f p acc).1.length ≤ acc.length + (s.size - p) := by
  intro f
  induction f with
  | zero => intro p acc; simp [unqF]
  | succ f ih =>
    intro p acc
    by_cases hp : p < s.size
    · have hw := decode_wid hp
      cases hb : badAt s p with
      | true => rw [unqF_bad hp hb]; simp
      | false =>
        by_cases c1 : (Utf8.decode s p).1 = 34
        · rw [unqF_shut hp hb c1]; simp
        · by_cases c2 : (Utf8.decode s p).1 = 92
          · rw [unqF_esc hp hb c2]
            split
            · have := ih (p + 1 + (escF (s.extract (p + 1) s.size)).2.1) (acc ++ [(escF (s.extract (p + 1) s.size)).1.toUInt8])
              rw [List.length_append, List.length_cons, List.length_nil] at this
              omega
            · simp
          · by_cases c3 : (Utf8.decode s p).1 < 32 ∨ (Utf8.decode s p).1 = 127
            · rw [unqF_low hp hb c1 c2 c3]; simp
            · rw [unqF_on hp hb c1 c2 c3]
              have := ih (p + (Utf8.decode s p).2) (acc ++ bts s p (Utf8.decode s p).2)
              rw [List.length_append, bts_len s p _ hw.2.1] at this
              omega
    · rw [unqF_end s _ p acc hp]; simp
theorem unquoteF_len (s : ByteArray) : (unquoteF s).1.length ≤ s.size := by
  unfold unquoteF
  split
  · simp
  · split
    · simp
    · have := unqF_len s s.size 1 []
      simp only [List.length_nil] at this
      omega
theorem append_eq (l : List UInt8) (s : ByteArray) : (⟨l.toArray⟩ : ByteArray) ++ s = ⟨(l ++ s.data.toList).toArray⟩ := by
  apply ByteArray.ext
  rw [ByteArray.data_append]
  apply Array.ext'
  simp
theorem take_ext (s : ByteArray) (n : Nat) : (⟨(s.data.toList.take n).toArray⟩ : ByteArray) = s.extract 0 n := by
  apply ByteArray.ext
  apply Array.ext'
  show s.data.toList.take n = (s.extract 0 n).data.toList
  rw [pre_list]
end Go
namespace Go.Proofs.Ytbjiamakchklpaa
open Go.RowKit

set_option maxHeartbeats 6400000 in
theorem quotes_law {w : World} (s : ByteArray) (hs : s.size ≤ maxLen) :
    Calls Try.prog 3 #[.string s] w fun e w' => e = .returned (.bool true) ∧ Below w.heap.size w w' := by
  have HC := Lib.hid (cutl_any s hs)
  have hcs : (s.extract 0 (min s.size 200)).size ≤ 200 := by rw [ByteArray.size_extract]; omega
  generalize s.extract 0 (min s.size 200) = C at *
  have HR := Lib.hid (rrunes_any C (by omega))
  have HQ := Lib.hid (quote_any C (by omega))
  have HRQ := Lib.hid (rquote_any C (by omega))
  have HU := Lib.hid (unq_any C (by omega))
  have HRU := Lib.hid (runq_any C (by omega))
  have hql := quote_len C
  have hul := unquoteF_len C
  have hulm := unquoteF_le C
  have HYY : Hid ((unquoteF C).2.2 = 0 → ∀ w, Calls Try.prog 9 #[.string ⟨(unquoteF C).1.toArray⟩] w fun e w' => e = .returned (.tuple #[.string (C.extract 0 (unquoteF C).2.1), .int .i64 0]) ∧ Below w.heap.size w w') := Lib.hid (fun h w => by
    obtain ⟨h1, h2⟩ := quote_unquote C h
    have := quote_any ⟨(unquoteF C).1.toArray⟩ (by rw [lsize]; omega) w
    rw [h1, if_pos rfl, if_pos rfl, h2, take_ext] at this
    exact this)
  have HX : Hid (rightF C = true → ∀ w, Calls Try.prog 11 #[.string (⟨(quoteF C).toArray⟩ ++ C)] w fun e w' => e = .returned (.tuple #[.string C, .int .i64 ((quoteF C).length : Nat), .int .i64 0]) ∧ Below w.heap.size w w') := Lib.hid (fun h w => by
    have := unq_any (⟨(quoteF C).toArray⟩ ++ C) (by rw [ByteArray.size_append, lsize]; omega) w
    rw [append_eq, unquote_quote C h] at this
    rw [append_eq]
    exact this)
  have hRQ2 : Hid (rightF C = true → rquoteF C = quoteF C) := Lib.hid (rquote_eq C)
  have HUL := Lib.hid hulm
  clear hul hulm
  generalize unquoteF C = U at *
  generalize quoteF C = Q at *
  generalize rquoteF C = RQ at *
  generalize rightF C = T at *
  obtain ⟨U1, U2, U3⟩ := U
  dsimp only at *
  have hl4 : ¬ 9223372036854775807 < Q.length + C.size := by omega
  go_enter Try.func3, Try.ntmps3
  go_wp2_with fail
  refine (HC.out _).mono ?_
  rintro e w1 ⟨rfl, rfl⟩
  clear HC
  have hbb := Below.refl w1.heap.size w1
  go_wp2_with fail
  refine (HR.out _).mono ?_
  rintro e w2 ⟨vo, va, rfl, -, -, hb2⟩
  have hbb := hbb.trans (hb2.mono hbb.size)
  clear HR
  go_wp2_with fail
  refine (HQ.out _).mono ?_
  rintro e w9 ⟨rfl, hb9⟩
  have hbb := hbb.trans (hb9.mono hbb.size)
  clear HQ
  cases T with
  | true =>
    have hrq := hRQ2.out rfl
    subst hrq
    have HX2 := Lib.hid (HX.out rfl)
    clear HX
    rw [if_pos rfl, if_pos rfl]
    go_wp2_with fail
    refine (HRQ.out _).mono ?_
    rintro e w9 ⟨rfl, hb9⟩
    have hbb := hbb.trans (hb9.mono hbb.size)
    clear HRQ
    go_wp2_with fail
    refine (HU.out _).mono ?_
    rintro e w9 ⟨rfl, hb9⟩
    have hbb := hbb.trans (hb9.mono hbb.size)
    clear HU
    go_wp2_with fail
    refine (HRU.out _).mono ?_
    rintro e w9 ⟨rfl, hb9⟩
    have hbb := hbb.trans (hb9.mono hbb.size)
    clear HRU
    go_wp2_with fail
    refine (HX2.out _).mono ?_
    rintro e w9 ⟨rfl, hb9⟩
    have hbb := hbb.trans (hb9.mono hbb.size)
    clear HX2
    by_cases u3 : U3 = 0
    · subst u3
      have HY := Lib.hid (HYY.out rfl)
      have hn2 : (U2 : Int) ≤ (C.size : Int) := by have := HUL.out rfl; omega
      clear HYY HUL
      go_wp2_with fail
      refine (HY.out _).mono ?_
      rintro e w9 ⟨rfl, hb9⟩
      have hbb := hbb.trans (hb9.mono hbb.size)
      clear HY
      go_wp2_with fail
      refine (tknown_any _).mono ?_
      rintro e w9 ⟨rfl, hb9⟩
      have hbb := hbb.trans (hb9.mono hbb.size)
      go_wp2
      refine bodyPost_ret (v := .bool true) (by simp [results, Try.results3, go_sem]) rfl ⟨rfl, hbb⟩
    · have u4 : ((U3 : Int) != 0) = true := bne_iff_ne.2 (by omega)
      clear HYY HUL
      go_wp2_with fail
      refine (tknown_any _).mono ?_
      rintro e w9 ⟨rfl, hb9⟩
      have hbb := hbb.trans (hb9.mono hbb.size)
      go_wp2
      refine bodyPost_ret (v := .bool true) (by simp [results, Try.results3, go_sem]) rfl ⟨rfl, hbb⟩
  | false =>
    clear HX HRQ hRQ2
    rw [if_neg (show ¬ (false = true) by decide), if_neg (show ¬ (false = true) by decide)]
    go_wp2_with fail
    refine (HU.out _).mono ?_
    rintro e w9 ⟨rfl, hb9⟩
    have hbb := hbb.trans (hb9.mono hbb.size)
    clear HU
    go_wp2_with fail
    refine (HRU.out _).mono ?_
    rintro e w9 ⟨rfl, hb9⟩
    have hbb := hbb.trans (hb9.mono hbb.size)
    clear HRU
    by_cases u3 : U3 = 0
    · subst u3
      have HY := Lib.hid (HYY.out rfl)
      have hn2 : (U2 : Int) ≤ (C.size : Int) := by have := HUL.out rfl; omega
      clear HYY HUL
      go_wp2_with fail
      refine (HY.out _).mono ?_
      rintro e w9 ⟨rfl, hb9⟩
      have hbb := hbb.trans (hb9.mono hbb.size)
      clear HY
      go_wp2_with fail
      refine (tknown_any _).mono ?_
      rintro e w9 ⟨rfl, hb9⟩
      have hbb := hbb.trans (hb9.mono hbb.size)
      go_wp2
      refine bodyPost_ret (v := .bool true) (by simp [results, Try.results3, go_sem]) rfl ⟨rfl, hbb⟩
    · have u4 : ((U3 : Int) != 0) = true := bne_iff_ne.2 (by omega)
      clear HYY HUL
      go_wp2_with fail
      refine (tknown_any _).mono ?_
      rintro e w9 ⟨rfl, hb9⟩
      have hbb := hbb.trans (hb9.mono hbb.size)
      go_wp2
      refine bodyPost_ret (v := .bool true) (by simp [results, Try.results3, go_sem]) rfl ⟨rfl, hbb⟩
end Go.Proofs.Ytbjiamakchklpaa

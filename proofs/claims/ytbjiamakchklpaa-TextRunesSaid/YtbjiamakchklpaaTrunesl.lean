/-
  TextRunes: the walk.
-/
import Derived.Test.YtbjiamakchklpaaTknown
import Derived.Test.YtbjiamakchklpaaTcut
import Derived.Test.YtbjiamakchklpaaTrname
set_option linter.unusedVariables false
set_option linter.unusedSimpArgs false
set_option maxRecDepth 100000
namespace Go
open Go.RowKit
/-- What the law wants of 'Cut'. -/
def wantF (s : ByteArray) (n : Int) : ByteArray :=
  if rightF s then (if n < ((runesT s).length : Int) then (if 0 < n then (match (runesT s)[n.toNat]? with | some x => s.extract 0 x.2 | none => ⟨#[]⟩) else ⟨#[]⟩) else s) else ⟨#[]⟩
theorem runes_pos (s : ByteArray) : ∀ (f p : Nat) (x : Nat × Nat), x ∈ rl s f p → x.2 ≤ s.size := by
  intro f
  induction f with
  | zero => intro p x h; simp [rl] at h
  | succ f ih =>
    intro p x h
    by_cases hp : p < s.size
    · rw [rl_step s f p hp, List.mem_cons] at h
      rcases h with rfl | h
      · exact Nat.le_of_lt hp
      · exact ih _ x h
    · rw [rl_end s _ p hp] at h; simp at h
theorem want_eq (s : ByteArray) (n : Int) : wantF s n = cutF s n := by
  unfold wantF cutF runesT
  cases h : rightF s with
  | false => rfl
  | true =>
    simp only [if_true]
    by_cases h1 : n < ((runesF s).length : Int)
    · rw [if_pos h1]
      by_cases h2 : 0 < n
      · rw [if_pos h2]
        rw [List.getElem?_eq_getElem (by omega)]
      · rw [if_neg h2]
        have h3 : n.toNat = 0 := by omega
        rw [h3]
        cases hl : (runesF s)[0]? with
        | none =>
          dsimp only
          rw [List.getElem?_eq_none_iff] at hl
          unfold runesF at hl
          cases hs : s.size with
          | zero =>
            apply ByteArray.ext
            exact (Array.eq_empty_of_size_eq_zero hs).symm
          | succ f =>
            rw [hs, rl_step s f 0 (by omega)] at hl
            simp at hl
        | some x =>
          have hz := (runes_zero s 0 x hl).2 rfl
          dsimp only
          rw [hz]
          apply ByteArray.ext
          rw [ByteArray.data_extract]
          simp
    · rw [if_neg h1]
      rw [List.getElem?_eq_none (by omega)]
end Go
namespace Go.Proofs.Ytbjiamakchklpaa
open Go.RowKit

set_option maxHeartbeats 800000 in
theorem cutl_any (s : ByteArray) (hs : s.size ≤ maxLen) (w : World) :
    Calls Try.prog 7 #[.string s] w fun e w' => e = .returned (.string (s.extract 0 (min s.size 200))) ∧ w' = w := by
  have hs2 : s.size ≤ 9223372036854775807 := by unfold maxLen at hs; omega
  go_enter Try.func7, Try.ntmps7
  have hm : (min (s.size : Int) 200).toNat = min s.size 200 := by omega
  have h0 : 0 ≤ min (s.size : Int) 200 := by omega
  have h1 : min (s.size : Int) 200 ≤ (s.size : Int) := by omega
  go_wp2
  go_ret
  exact ⟨rfl, rfl⟩

set_option maxHeartbeats 6400000 in
theorem runes_law {w : World} (s : ByteArray) (hs : s.size ≤ maxLen) (n : Int) (_ : (Lit.int .i64 n).wf = true) :
    Calls Try.prog 6 #[.string s, .int .i64 n] w fun e w' => e = .returned (.bool true) ∧ Below w.heap.size w w' := by
  have HC := Lib.hid (cutl_any s hs)
  have hcs : (s.extract 0 (min s.size 200)).size ≤ 200 := by rw [ByteArray.size_extract]; omega
  generalize s.extract 0 (min s.size 200) = C at *
  have hcm : C.size ≤ maxLen := by unfold maxLen; omega
  have HR := Lib.hid (rrunes_any C (by omega))
  have HCO := Lib.hid (count_any C hcm)
  have HRI := Lib.hid (right_any C hcm)
  have HCU := Lib.hid (cut_any C hcm n)
  have HNA := Lib.hid (name_any C hcm)
  have HRN := Lib.hid (rname_any C (by omega))
  have hW := want_eq C n
  have hW2 : Hid (wantF C n = if rightF C then (if n < ((runesT C).length : Int) then (if 0 < n then (match (runesT C)[n.toNat]? with | some x => C.extract 0 x.2 | none => ⟨#[]⟩) else ⟨#[]⟩) else C) else ⟨#[]⟩) := Lib.hid rfl
  have hcnt : (if rightF C then ((runesF C).length : Int) else 0) = ((runesT C).length : Int) := by
    unfold runesT
    cases rightF C <;> rfl
  have hpb : Hid (∀ x, x ∈ runesT C → x.2 ≤ C.size) := Lib.hid (fun x hx => by
    unfold runesT at hx
    split at hx
    · exact runes_pos C C.size 0 x hx
    · simp at hx)
  rw [hcnt] at HCO
  rw [← hW] at HCU
  generalize wantF C n = WF at *
  generalize cutF C n = CF at *
  generalize runesT C = L at *
  generalize nameF C = N at *
  generalize rightF C = T at *
  clear hcnt hW
  go_enter Try.func6, Try.ntmps6
  go_wp2_with fail
  refine (HC.out _).mono ?_
  rintro e w1 ⟨rfl, rfl⟩
  go_wp2_with fail
  refine (HR.out _).mono ?_
  rintro e w2 ⟨vo, va, rfl, ho, ha, hb2⟩
  obtain ⟨ao, co, rfl, hco1, hco2, -, -, -⟩ := ho.form
  obtain ⟨aa, ca, rfl, hca1, hca2, -, hra, -⟩ := ha.form
  go_wp2_with fail
  refine (HCO.out _).mono ?_
  rintro e w3 ⟨rfl, hb3⟩
  have hra := hra.keep hb3
  have hbb := hb2.trans (hb3.mono hb2.size)
  clear HC HR HCO ho ha hb2 hb3
  cases T with
  | false =>
    have hw := hW2.out
    rw [if_neg (by decide)] at hw
    subst hw
    clear hW2
    by_cases h1 : n < (L.length : Int)
    · by_cases h2 : 0 < n
      · obtain ⟨k, rfl⟩ : ∃ k : Nat, n = k := ⟨n.toNat, by omega⟩
        have hk : k < L.length := by omega
        obtain ⟨x, hx⟩ : ∃ x, L[k]? = some x := ⟨_, List.getElem?_eq_getElem hk⟩
        obtain ⟨b, off, rfl, hcell, -⟩ := hra.at (i := k) (v := .int .i64 (x.2 : Int)) (by simp [rps, hx])
        have hxs := hpb.out x (List.mem_of_getElem? hx)
        have hxi : (x.2 : Int) ≤ (C.size : Int) := by omega
        clear hpb hra hx
        obtain ⟨x1, x2⟩ := x
        dsimp only at *
        go_wp2_with fail
        refine (tknown_any _).mono ?_
        rintro e w4 ⟨rfl, hb4⟩
        have hbb := hbb.trans (hb4.mono hbb.size)
        go_wp2_with fail
        refine (HRI.out _).mono ?_
        rintro e w5 ⟨rfl, hb5⟩
        have hbb := hbb.trans (hb5.mono hbb.size)
        go_wp2_with fail
        refine (HCU.out _).mono ?_
        rintro e w6 ⟨rfl, hb6⟩
        have hbb := hbb.trans (hb6.mono hbb.size)
        go_wp2_with fail
        refine (HNA.out _).mono ?_
        rintro e w7 ⟨rfl, hb7⟩
        have hbb := hbb.trans (hb7.mono hbb.size)
        go_wp2_with fail
        refine (HRN.out _).mono ?_
        rintro e w8 ⟨rfl, hb8⟩
        have hbb := hbb.trans (hb8.mono hbb.size)
        go_wp2
        refine bodyPost_ret (v := .bool true) (by simp [results, Try.results6, go_sem]) rfl ⟨rfl, hbb⟩
      · clear hpb hra
        go_wp2_with fail
        refine (tknown_any _).mono ?_
        rintro e w4 ⟨rfl, hb4⟩
        have hbb := hbb.trans (hb4.mono hbb.size)
        go_wp2_with fail
        refine (HRI.out _).mono ?_
        rintro e w5 ⟨rfl, hb5⟩
        have hbb := hbb.trans (hb5.mono hbb.size)
        go_wp2_with fail
        refine (HCU.out _).mono ?_
        rintro e w6 ⟨rfl, hb6⟩
        have hbb := hbb.trans (hb6.mono hbb.size)
        go_wp2_with fail
        refine (HNA.out _).mono ?_
        rintro e w7 ⟨rfl, hb7⟩
        have hbb := hbb.trans (hb7.mono hbb.size)
        go_wp2_with fail
        refine (HRN.out _).mono ?_
        rintro e w8 ⟨rfl, hb8⟩
        have hbb := hbb.trans (hb8.mono hbb.size)
        go_wp2
        refine bodyPost_ret (v := .bool true) (by simp [results, Try.results6, go_sem]) rfl ⟨rfl, hbb⟩
    · clear hpb hra
      go_wp2_with fail
      refine (tknown_any _).mono ?_
      rintro e w4 ⟨rfl, hb4⟩
      have hbb := hbb.trans (hb4.mono hbb.size)
      go_wp2_with fail
      refine (HRI.out _).mono ?_
      rintro e w5 ⟨rfl, hb5⟩
      have hbb := hbb.trans (hb5.mono hbb.size)
      go_wp2_with fail
      refine (HCU.out _).mono ?_
      rintro e w6 ⟨rfl, hb6⟩
      have hbb := hbb.trans (hb6.mono hbb.size)
      go_wp2_with fail
      refine (HNA.out _).mono ?_
      rintro e w7 ⟨rfl, hb7⟩
      have hbb := hbb.trans (hb7.mono hbb.size)
      go_wp2_with fail
      refine (HRN.out _).mono ?_
      rintro e w8 ⟨rfl, hb8⟩
      have hbb := hbb.trans (hb8.mono hbb.size)
      go_wp2
      refine bodyPost_ret (v := .bool true) (by simp [results, Try.results6, go_sem]) rfl ⟨rfl, hbb⟩
  | true =>
    have hw := hW2.out
    rw [if_pos rfl] at hw
    by_cases h1 : n < (L.length : Int)
    · rw [if_pos h1] at hw
      by_cases h2 : 0 < n
      · rw [if_pos h2] at hw
        obtain ⟨k, rfl⟩ : ∃ k : Nat, n = k := ⟨n.toNat, by omega⟩
        rw [Int.toNat_natCast] at hw
        have hk : k < L.length := by omega
        obtain ⟨x, hx⟩ : ∃ x, L[k]? = some x := ⟨_, List.getElem?_eq_getElem hk⟩
        rw [hx] at hw
        dsimp only at hw
        subst hw
        obtain ⟨b, off, rfl, hcell, -⟩ := hra.at (i := k) (v := .int .i64 (x.2 : Int)) (by simp [rps, hx])
        have hxs := hpb.out x (List.mem_of_getElem? hx)
        have hxi : (x.2 : Int) ≤ (C.size : Int) := by omega
        clear hW2 hpb hra hx
        obtain ⟨x1, x2⟩ := x
        dsimp only at *
        go_wp2_with fail
        refine (tknown_any _).mono ?_
        rintro e w4 ⟨rfl, hb4⟩
        have hbb := hbb.trans (hb4.mono hbb.size)
        go_wp2_with fail
        refine (HRI.out _).mono ?_
        rintro e w5 ⟨rfl, hb5⟩
        have hbb := hbb.trans (hb5.mono hbb.size)
        go_wp2_with fail
        refine (HCU.out _).mono ?_
        rintro e w6 ⟨rfl, hb6⟩
        have hbb := hbb.trans (hb6.mono hbb.size)
        go_wp2_with fail
        refine (HNA.out _).mono ?_
        rintro e w7 ⟨rfl, hb7⟩
        have hbb := hbb.trans (hb7.mono hbb.size)
        go_wp2_with fail
        refine (HRN.out _).mono ?_
        rintro e w8 ⟨rfl, hb8⟩
        have hbb := hbb.trans (hb8.mono hbb.size)
        go_wp2
        refine bodyPost_ret (v := .bool true) (by simp [results, Try.results6, go_sem]) rfl ⟨rfl, hbb⟩
      · rw [if_neg h2] at hw
        subst hw
        clear hW2 hpb hra
        go_wp2_with fail
        refine (tknown_any _).mono ?_
        rintro e w4 ⟨rfl, hb4⟩
        have hbb := hbb.trans (hb4.mono hbb.size)
        go_wp2_with fail
        refine (HRI.out _).mono ?_
        rintro e w5 ⟨rfl, hb5⟩
        have hbb := hbb.trans (hb5.mono hbb.size)
        go_wp2_with fail
        refine (HCU.out _).mono ?_
        rintro e w6 ⟨rfl, hb6⟩
        have hbb := hbb.trans (hb6.mono hbb.size)
        go_wp2_with fail
        refine (HNA.out _).mono ?_
        rintro e w7 ⟨rfl, hb7⟩
        have hbb := hbb.trans (hb7.mono hbb.size)
        go_wp2_with fail
        refine (HRN.out _).mono ?_
        rintro e w8 ⟨rfl, hb8⟩
        have hbb := hbb.trans (hb8.mono hbb.size)
        go_wp2
        refine bodyPost_ret (v := .bool true) (by simp [results, Try.results6, go_sem]) rfl ⟨rfl, hbb⟩
    · rw [if_neg h1] at hw
      subst hw
      clear hW2 hpb hra
      go_wp2_with fail
      refine (tknown_any _).mono ?_
      rintro e w4 ⟨rfl, hb4⟩
      have hbb := hbb.trans (hb4.mono hbb.size)
      go_wp2_with fail
      refine (HRI.out _).mono ?_
      rintro e w5 ⟨rfl, hb5⟩
      have hbb := hbb.trans (hb5.mono hbb.size)
      go_wp2_with fail
      refine (HCU.out _).mono ?_
      rintro e w6 ⟨rfl, hb6⟩
      have hbb := hbb.trans (hb6.mono hbb.size)
      go_wp2_with fail
      refine (HNA.out _).mono ?_
      rintro e w7 ⟨rfl, hb7⟩
      have hbb := hbb.trans (hb7.mono hbb.size)
      go_wp2_with fail
      refine (HRN.out _).mono ?_
      rintro e w8 ⟨rfl, hb8⟩
      have hbb := hbb.trans (hb8.mono hbb.size)
      go_wp2
      refine bodyPost_ret (v := .bool true) (by simp [results, Try.results6, go_sem]) rfl ⟨rfl, hbb⟩
end Go.Proofs.Ytbjiamakchklpaa

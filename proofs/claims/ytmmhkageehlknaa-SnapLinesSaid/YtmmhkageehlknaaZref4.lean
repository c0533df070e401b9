/-
  graticuleref04: Find, Put behind what is not greater, Uniq of numbers in order.
-/
import Derived.Test.YtmmhkageehlknaaLib
import Derived.Test.YtmmhkageehlknaaZmerge
import Derived.Test.YtmmhkageehlknaaZuniq
set_option linter.unusedVariables false
set_option linter.unusedSimpArgs false
set_option maxRecDepth 100000
namespace Go
open Go.RowKit Go.Lib
theorem cup_inv {l : List Int} (hp : l.Pairwise (· ≤ ·)) : ∀ (k : Nat), k < l.length → ∃ Y, compactUpTo l.toArray (k + 1) = Y ++ [l[k]!] ∧ ∀ y ∈ Y, y < l[k]!
  | 0, h => ⟨[], by rw [compactUpTo_succ, if_pos (keeps_lt_one _ 0 (by omega))]; simp [compactUpTo], by simp⟩
  | k + 1, h => by
    obtain ⟨Y, hY, hlt⟩ := cup_inv hp k (by omega)
    have hle : l[k]! ≤ l[k + 1]! := by
      rw [getElem!_pos l k (by omega), getElem!_pos l (k + 1) h]
      exact List.pairwise_iff_getElem.1 hp k (k + 1) (by omega) h (by omega)
    have ea : l.toArray[k + 1]! = l[k + 1]! := by simp
    have eb : l.toArray[k]! = l[k]! := by simp
    by_cases q : l[k + 1]! = l[k]!
    · refine ⟨Y, ?_, ?_⟩
      · rw [compactUpTo_succ, keeps_neg (by omega) (by show l.toArray[k + 1]! = l.toArray[k]!; rw [ea, eb, q]), hY, q]; simp
      · rw [q]; exact hlt
    · refine ⟨Y ++ [l[k]!], ?_, ?_⟩
      · rw [compactUpTo_succ, keeps_pos (by show l.toArray[k + 1]! ≠ l.toArray[k]!; rw [ea, eb]; exact q), hY, ea]; simp
      · intro y hy
        rcases List.mem_append.1 hy with hy | hy
        · have := hlt y hy; omega
        · have := List.mem_singleton.1 hy; omega
/-- What the next number does to what is kept. -/
theorem cup_next {l : List Int} (hp : l.Pairwise (· ≤ ·)) (k : Nat) (h : k < l.length) :
    (compactUpTo l.toArray (k + 1) = compactUpTo l.toArray k ++ [l[k]!] ∧ ∀ y ∈ compactUpTo l.toArray k, y < l[k]!) ∨
    (compactUpTo l.toArray (k + 1) = compactUpTo l.toArray k ∧ ∃ Y, compactUpTo l.toArray k = Y ++ [l[k]!] ∧ ∀ y ∈ Y, y < l[k]!) := by
  have ea : l.toArray[k]! = l[k]! := by simp
  by_cases q : keeps l.toArray k = true
  · refine .inl ⟨by rw [compactUpTo_succ, if_pos q, ea], ?_⟩
    cases k with
    | zero => simp [compactUpTo]
    | succ k =>
      obtain ⟨Y, hY, hlt⟩ := cup_inv hp k (by omega)
      obtain ⟨Y2, hY2, hlt2⟩ := cup_inv hp (k + 1) h
      rw [compactUpTo_succ, if_pos q, ea] at hY2
      have := List.append_inj_left' hY2 rfl
      rw [this]; exact hlt2
  · refine .inr ⟨by rw [compactUpTo_succ, if_neg q]; simp, ?_⟩
    obtain ⟨Y2, hY2, hlt2⟩ := cup_inv hp k h
    rw [compactUpTo_succ, if_neg q, List.append_nil] at hY2
    exact ⟨Y2, hY2, hlt2⟩
end Go
namespace Go.Proofs.Ytmmhkageehlknaa
open Go.RowKit

set_option maxHeartbeats 3200000 in
theorem rfind_any (a : Option Addr) (c : Nat) (l : List Int) (n : Int) (hl : l.length ≤ 1000000) (w : World) (hr : Rd w a (ins l)) :
    Calls Try.prog 39 #[.slice a l.length c, .int .i64 n] w fun e w' => (∃ q, w' = w.drewN q) ∧ ∃ k, k ≤ l.length ∧ (∀ j, j < k → l[j]! < n) ∧
      ((k = l.length ∧ e = .returned (.tuple #[.int .i64 k, .bool false])) ∨ (k < l.length ∧ n ≤ l[k]! ∧ e = .returned (.tuple #[.int .i64 k, .bool (l[k]! == n)]))) := by
  obtain ⟨m, hm⟩ : ∃ m, l.length = m := ⟨_, rfl⟩
  have HM := Lib.hid hm
  rw [hm] at hl ⊢
  clear hm
  have HR := Lib.hid hr
  clear hr
  go_enter Try.func39, Try.ntmps39
  go_wp2
  go_loopw [6] (fun o wr => ∃ (k : Nat), k ≤ m ∧ o = .int .i64 k ∧ Hid (∀ j, j < k → l[j]! < n) ∧ wr = w) (fun o _ => m - (intOf o).toNat)
  case atStart => exact ⟨0, by omega, rfl, Lib.hid (fun j h => by omega), rfl⟩
  case round =>
    obtain ⟨k, hk, rfl, HJ, rfl⟩ := hrel
    by_cases hlt : k < m
    · have hlt2 : (k : Int) < (m : Int) := by omega
      have hkl : k < l.length := by rw [HM.out]; exact hlt
      obtain ⟨b, off, rfl, hc, -⟩ := HR.out.at (i := k) (v := .int .i64 l[k]!) (by simp [ins, hkl])
      have HK : Hid (∀ j, j < k + 1 → l[j]! < n ∨ j = k) := Lib.hid (fun j h => by
        by_cases q : j = k
        · exact .inr q
        · exact .inl (HJ.out j (by omega)))
      have HX : Hid (l[k]! = l[k]!) := Lib.hid rfl
      generalize hx : l[k]! = x at *
      by_cases hge : n ≤ x
      · go_wp2
        go_quiet (fail)
        go_wp2
        refine bodyPost_ret (v := .tuple #[.int .i64 k, .bool (x == n)]) (by simp [results, Try.results39, go_sem]) rfl ⟨⟨_, rfl⟩, k, by omega, HJ.out, .inr ⟨hlt, by rw [hx]; exact hge, by rw [hx]⟩⟩
      · go_wp2
        refine ⟨⟨k + 1, by omega, val_int (by omega), Lib.hid (fun j h => ?_), trivial⟩, by simp [intOf]; omega⟩
        rcases HK.out j h with h | rfl
        · exact h
        · rw [hx]; omega
    · have hk3 : k = m := by omega
      subst hk3
      go_wp2
      refine bodyPost_ret (v := .tuple #[.int .i64 k, .bool false]) (by simp [results, Try.results39, go_sem]) rfl ⟨⟨0, rfl⟩, k, by omega, HJ.out, .inl ⟨rfl, rfl⟩⟩

set_option maxHeartbeats 3200000 in
theorem rput_nil (n : Int) (w : World) :
    Calls Try.prog 40 #[.slice none 0 0, .int .i64 n] w fun e w' => ∃ v, e = .returned v ∧ w'.ownsRow w.heap.size 3 1 v (0 + 1) (ins [] ++ [.int .i64 n]) ∧ Below w.heap.size w w' := by
  go_enter Try.func40, Try.ntmps40
  go_wp2
  go_loopw [5] (fun o wr => o = .int .i64 (0 : Nat) ∧ Hid (wr = w)) (fun o _ => 0)
  case atStart => exact ⟨rfl, Lib.hid rfl⟩
  case round =>
    obtain ⟨rfl, HW⟩ := hrel
    have hw := HW.out
    subst hw
    clear HW
    go_wp2_with (at_builtin; first
      | (refine wpList_app' wr (Below.new wr (.cells #[] 3)) rfl (.tmp 22) (.tmp 25) 26 rfl 3 (.int .i64 0) 1 8 Try.underlying26 Try.infoIz rfl (by decide) (.slice (some ⟨wr.heap.size, 0, none⟩) 0 0) 0 [] rfl (ownsRow_empty wr _ _) (none) 0 0 ((ins [])) rfl (fun _ => rfl) (Rd.nil _ _) (rfl) (ints_one _ _) (by omega) (by decide) ?_
         intro v1 w1 ho1 hg1 hb1)
      | (refine wpList_appLit' wr hb1 rfl (.tmp 26) (.tmp 28) 26 rfl 3 (.int .i64 0) 1 8 Try.underlying26 Try.infoIz rfl (by decide) (by decide) v1 (0 + 0) ([] ++ (ins [])) rfl ho1 1 1 [.int .i64 n] _ rfl rfl (by simp [Value.oneCell']) (by omega) ?_
         intro v2 w2 ho2 hg2 hb2)
      | (refine wpList_app' wr hb2 rfl (.tmp 30) (.tmp 33) 26 rfl 3 (.int .i64 0) 1 8 Try.underlying26 Try.infoIz rfl (by decide) v2 (0 + 0 + 1) ([] ++ (ins []) ++ [.int .i64 n]) rfl ho2 (none) 0 (0) [] rfl (fun _ => rfl) (Rd.nil _ _) rfl (by simp) (by omega) (by decide) ?_
         intro v3 w3 ho3 hg3 hb3))
    refine bodyPost_ret (v := v3) (by simp [results, Try.results40, go_sem]) rfl ⟨_, rfl, by simpa [ins] using ho3, hb3⟩

set_option maxHeartbeats 6400000 in
theorem rput_some (b off c m : Nat) (l : List Int) (n : Int) (hle : ∀ x ∈ l, x ≤ n) (hm : l.length = m) (hl : m ≤ 1000000) (hlc : m ≤ c) (w : World) (hr : Rd w (some ⟨b, off, none⟩) (ins l)) :
    Calls Try.prog 40 #[.slice (some ⟨b, off, none⟩) m c, .int .i64 n] w fun e w' => ∃ v, e = .returned v ∧ w'.ownsRow w.heap.size 3 1 v (m + 1) (ins l ++ [.int .i64 n]) ∧ Below w.heap.size w w' := by
  have HM := Lib.hid hm
  have HR := Lib.hid hr
  have HLE := Lib.hid hle
  clear hr hle hm
  go_enter Try.func40, Try.ntmps40
  go_wp2
  go_loopw [5] (fun o wr => o = .int .i64 m ∧ Hid (wr = w)) (fun o _ => 0)
  case atStart => exact ⟨rfl, Lib.hid rfl⟩
  case round =>
    obtain ⟨rfl, HW⟩ := hrel
    have hw := HW.out
    subst hw
    clear HW
    by_cases hm0 : m = 0
    · subst hm0
      by_cases hcm : c = 0
      · subst hcm
        go_wp2_with (at_builtin; first
          | (refine wpList_app' wr (Below.new wr (.cells #[] 3)) rfl (.tmp 22) (.tmp 25) 26 rfl 3 (.int .i64 0) 1 8 Try.underlying26 Try.infoIz rfl (by decide) (.slice (some ⟨wr.heap.size, 0, none⟩) 0 0) 0 [] rfl (ownsRow_empty wr _ _) (some ⟨b, off, none⟩) 0 0 ((ins l)) rfl (fun h => by cases h) (HR.out.alloc _) (by rw [ins_len, HM.out]) (ints_one _ _) (by omega) (by decide) ?_
             intro v1 w1 ho1 hg1 hb1)
          | (refine wpList_appLit' wr hb1 rfl (.tmp 26) (.tmp 28) 26 rfl 3 (.int .i64 0) 1 8 Try.underlying26 Try.infoIz rfl (by decide) (by decide) v1 (0 + 0) ([] ++ (ins l)) rfl ho1 1 1 [.int .i64 n] _ rfl rfl (by simp [Value.oneCell']) (by omega) ?_
             intro v2 w2 ho2 hg2 hb2)
          | (refine wpList_app' wr hb2 rfl (.tmp 30) (.tmp 33) 26 rfl 3 (.int .i64 0) 1 8 Try.underlying26 Try.infoIz rfl (by decide) v2 (0 + 0 + 1) ([] ++ (ins l) ++ [.int .i64 n]) rfl ho2 (some ⟨b, off, none⟩) 0 (0) [] rfl (fun h => by cases h) (Rd.nil _ _) rfl (by simp) (by omega) (by decide) ?_
             intro v3 w3 ho3 hg3 hb3))
        refine bodyPost_ret (v := v3) (by simp [results, Try.results40, go_sem]) rfl ⟨_, rfl, by simpa [ins] using ho3, hb3⟩
      · have hcp : ¬ c = 0 := hcm
        go_wp2_with (at_builtin; first
          | (refine wpList_app' wr (Below.new wr (.cells #[] 3)) rfl (.tmp 22) (.tmp 25) 26 rfl 3 (.int .i64 0) 1 8 Try.underlying26 Try.infoIz rfl (by decide) (.slice (some ⟨wr.heap.size, 0, none⟩) 0 0) 0 [] rfl (ownsRow_empty wr _ _) (some ⟨b, off, none⟩) 0 c ((ins l)) rfl (fun h => by cases h) (HR.out.alloc _) (by rw [ins_len, HM.out]) (ints_one _ _) (by omega) (by decide) ?_
             intro v1 w1 ho1 hg1 hb1)
          | (refine wpList_appLit' wr hb1 rfl (.tmp 26) (.tmp 28) 26 rfl 3 (.int .i64 0) 1 8 Try.underlying26 Try.infoIz rfl (by decide) (by decide) v1 (0 + 0) ([] ++ (ins l)) rfl ho1 1 1 [.int .i64 n] _ rfl rfl (by simp [Value.oneCell']) (by omega) ?_
             intro v2 w2 ho2 hg2 hb2)
          | (refine wpList_app' wr hb2 rfl (.tmp 30) (.tmp 33) 26 rfl 3 (.int .i64 0) 1 8 Try.underlying26 Try.infoIz rfl (by decide) v2 (0 + 0 + 1) ([] ++ (ins l) ++ [.int .i64 n]) rfl ho2 (some ⟨b, off, none⟩) 0 (c) [] rfl (fun h => by cases h) (Rd.nil _ _) rfl (by simp) (by omega) (by decide) ?_
             intro v3 w3 ho3 hg3 hb3))
        refine bodyPost_ret (v := v3) (by simp [results, Try.results40, go_sem]) rfl ⟨_, rfl, by simpa [ins] using ho3, hb3⟩
    · obtain ⟨m1, hm1⟩ : ∃ m1, m = m1 + 1 := ⟨m - 1, by omega⟩
      have hml : m1 < l.length := by rw [HM.out]; omega
      obtain ⟨b', off', he, hc, -⟩ := HR.out.at (i := m1) (v := .int .i64 l[m1]!) (by simp [ins, hml])
      cases he
      have hx : ¬ n < l[m1]! := by
        have := HLE.out l[m1]! (by rw [getElem!_pos l m1 hml]; exact List.getElem_mem hml)
        omega
      generalize l[m1]! = x at *
      have h0 : (0 : Int) < (m : Int) := by omega
      have hw1 : IntKind.i64.wrap ((m : Int) - 1) = (m1 : Int) := by rw [IntWalk.i64_in _ (by omega)]; omega
      have hw2 : (m : Int) - 1 = (m1 : Int) := by omega
      have hm2 : m1 < m := by omega
      clear hm1
      by_cases hcm : c = m
      · subst hcm
        go_wp2_with (at_builtin; first
          | (refine wpList_app' wr (Below.new wr (.cells #[] 3)) rfl (.tmp 22) (.tmp 25) 26 rfl 3 (.int .i64 0) 1 8 Try.underlying26 Try.infoIz rfl (by decide) (.slice (some ⟨wr.heap.size, 0, none⟩) 0 0) 0 [] rfl (ownsRow_empty wr _ _) (some ⟨b, off, none⟩) c c ((ins l)) rfl (fun h => by cases h) (HR.out.alloc _) (by rw [ins_len, HM.out]) (ints_one _ _) (by omega) (by decide) ?_
             intro v1 w1 ho1 hg1 hb1)
          | (refine wpList_appLit' wr hb1 rfl (.tmp 26) (.tmp 28) 26 rfl 3 (.int .i64 0) 1 8 Try.underlying26 Try.infoIz rfl (by decide) (by decide) v1 (0 + c) ([] ++ (ins l)) rfl ho1 1 1 [.int .i64 n] _ rfl rfl (by simp [Value.oneCell']) (by omega) ?_
             intro v2 w2 ho2 hg2 hb2)
          | (refine wpList_app' wr hb2 rfl (.tmp 30) (.tmp 33) 26 rfl 3 (.int .i64 0) 1 8 Try.underlying26 Try.infoIz rfl (by decide) v2 (0 + c + 1) ([] ++ (ins l) ++ [.int .i64 n]) rfl ho2 (some ⟨b, off, none⟩) 0 (0) [] rfl (fun h => by cases h) (Rd.nil _ _) rfl (by simp) (by omega) (by decide) ?_
             intro v3 w3 ho3 hg3 hb3))
        refine bodyPost_ret (v := v3) (by simp [results, Try.results40, go_sem]) rfl ⟨_, rfl, by simpa [ins] using ho3, hb3⟩
      · have hcp : ¬ c = m := hcm
        go_wp2_with (at_builtin; first
          | (refine wpList_app' wr (Below.new wr (.cells #[] 3)) rfl (.tmp 22) (.tmp 25) 26 rfl 3 (.int .i64 0) 1 8 Try.underlying26 Try.infoIz rfl (by decide) (.slice (some ⟨wr.heap.size, 0, none⟩) 0 0) 0 [] rfl (ownsRow_empty wr _ _) (some ⟨b, off, none⟩) m c ((ins l)) rfl (fun h => by cases h) (HR.out.alloc _) (by rw [ins_len, HM.out]) (ints_one _ _) (by omega) (by decide) ?_
             intro v1 w1 ho1 hg1 hb1)
          | (refine wpList_appLit' wr hb1 rfl (.tmp 26) (.tmp 28) 26 rfl 3 (.int .i64 0) 1 8 Try.underlying26 Try.infoIz rfl (by decide) (by decide) v1 (0 + m) ([] ++ (ins l)) rfl ho1 1 1 [.int .i64 n] _ rfl rfl (by simp [Value.oneCell']) (by omega) ?_
             intro v2 w2 ho2 hg2 hb2)
          | (refine wpList_app' wr hb2 rfl (.tmp 30) (.tmp 33) 26 rfl 3 (.int .i64 0) 1 8 Try.underlying26 Try.infoIz rfl (by decide) v2 (0 + m + 1) ([] ++ (ins l) ++ [.int .i64 n]) rfl ho2 (some ⟨b, off + m, none⟩) 0 (c - m) [] rfl (fun h => by cases h) (Rd.nil _ _) rfl (by simp) (by omega) (by decide) ?_
             intro v3 w3 ho3 hg3 hb3))
        refine bodyPost_ret (v := v3) (by simp [results, Try.results40, go_sem]) rfl ⟨_, rfl, by simpa [ins] using ho3, hb3⟩

/-- Put, of a number that is not less than any. -/
theorem rput_any (a : Option Addr) (c : Nat) (l : List Int) (n : Int) (hle : ∀ x ∈ l, x ≤ n) (hl : l.length ≤ 1000000) (hlc : l.length ≤ c) (hna : a = none → c = 0) (hsp : ∀ ad, a = some ad → ad.spot = none) (w : World) (hr : Rd w a (ins l)) :
    Calls Try.prog 40 #[.slice a l.length c, .int .i64 n] w fun e w' => ∃ v, e = .returned v ∧ w'.ownsRow w.heap.size 3 1 v (l ++ [n]).length (ins (l ++ [n])) ∧ Below w.heap.size w w' := by
  rw [List.length_append]
  have e1 : ins (l ++ [n]) = ins l ++ [.int .i64 n] := by simp [ins]
  rw [e1]
  cases a with
  | none =>
    have h0 : l = [] := List.length_eq_zero_iff.1 (by have := hna rfl; omega)
    subst h0
    have h1 := hna rfl
    subst h1
    exact rput_nil n w
  | some ad =>
    obtain ⟨b, off, sp⟩ := ad
    have h2 := hsp _ rfl
    dsimp only at h2
    subst h2
    exact rput_some b off c l.length l n hle rfl hl hlc w hr
end Go.Proofs.Ytmmhkageehlknaa

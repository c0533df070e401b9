/-
  geom.Check.
-/
import Derived.Test.YtephdnahmgfmeaaGpart
set_option linter.unusedVariables false
set_option linter.unusedSimpArgs false
namespace Go
def chk (kind : Int) (first : Bool) : List (List Pt) → Int
  | [] => 0
  | l :: t => if partE kind first l ≠ 0 then partE kind first l else chk kind false t
/-- What is wrong with a geometry. -/
def checkE (kind : Int) (G : List (List Pt)) : Int := if kind ≠ 2 ∧ kind ≠ 3 then 14 else if G.length = 0 then 15 else chk kind true G
theorem chk_end (kind : Int) (first : Bool) (G : List (List Pt)) (k : Nat) (h : ¬ k < G.length) : chk kind first (G.drop k) = 0 := by
  rw [List.drop_of_length_le (by omega)]; rfl
end Go
namespace Go.Proofs.Ytephdnahmgfmeaa
open Go.RowKit

set_option maxHeartbeats 1600000 in
theorem gcheck_any (kind : Int) (a : Option Addr) (c : Nat) (xs : List PC) (hl : xs.length ≤ 1000000) (hle : ∀ x ∈ xs, x.l.length ≤ 1000) (w : World) (hr : Rd w a (xs.map PC.val)) (hok : ∀ x ∈ xs, x.Ok w) :
    Calls Try.prog 13 #[.int .i64 kind, .slice a xs.length c] w fun e w' => e = .returned (.int .i64 (checkE kind (xs.map (·.l)))) ∧ Below w.heap.size w w' := by
  obtain ⟨E, hE⟩ : ∃ E, checkE kind (xs.map (·.l)) = E := ⟨_, rfl⟩
  rw [hE]
  unfold checkE at hE
  rw [List.length_map] at hE
  have HE := Lib.hid hE
  clear hE
  go_enter Try.func13, Try.ntmps13
  by_cases hk : kind = 2 ∨ kind = 3
  · have hkk : ((kind != 2) && (kind != 3)) = false := by rcases hk with rfl | rfl <;> rfl
    by_cases h0 : xs.length = 0
    · have HE0 : Hid (E = 15) := Lib.hid (by rw [← HE.out, if_neg (by omega), if_pos h0])
      have HK := Lib.hid hk
      rcases hk with rfl | rfl
      · go_wp2
        go_ret
        exact ⟨ret_int HE0.out.symm, Below.refl _ _⟩
      · go_wp2
        go_ret
        exact ⟨ret_int HE0.out.symm, Below.refl _ _⟩
    · have HE0 : Hid (E = chk kind true (xs.map (·.l))) := Lib.hid (by rw [← HE.out, if_neg (by omega), if_neg h0])
      have HK := Lib.hid hk
      clear HE
      have loop : ∀ k kk : Int, (kind = k) → True := fun _ _ _ => trivial
      clear loop
      rcases hk with rfl | rfl
      all_goals
        go_wp2
        go_loopw [21] (fun i wr => ∃ k : Nat, k ≤ xs.length ∧ i = .int .i64 k ∧ E = chk _ (decide (k = 0)) ((xs.map (·.l)).drop k) ∧ Below w.heap.size w wr) (fun i _ => xs.length - (intOf i).toNat)
        case atStart => exact ⟨0, Nat.zero_le _, rfl, HE0.out, Below.refl _ _⟩
        case round =>
          obtain ⟨k, hk, rfl, hst, hbl⟩ := hrel
          have hs := hbl.size
          by_cases hlt : k < xs.length
          · obtain ⟨x, hxk⟩ : ∃ x, xs[k] = x := ⟨_, rfl⟩
            have hxm : x ∈ xs := by rw [← hxk]; exact List.getElem_mem _
            have hxo : x.Ok w := hok x hxm
            have hxl := hle x hxm
            obtain ⟨b1, off1, rfl, c0, _⟩ := (hr.keep hbl).at (i := k) (v := x.val) (by simp [hlt, hxk])
            have hd : (xs.map (·.l)).drop k = x.l :: (xs.map (·.l)).drop (k + 1) := by
              rw [List.drop_eq_getElem_cons (by simpa using hlt)]; simp [hxk]
            rw [hd] at hst
            have hp := fun kd hkd => gpart_any kd (decide (k = 0)) x hxl hkd wr (hxo.keep hbl)
            have HP := Lib.hid hp
            have hkz : (((k : Nat) : Int) == 0) = decide (k = 0) := by
              by_cases h : k = 0
              · subst h; rfl
              · rw [decide_eq_false h]; simp; omega
            rw [chk] at hst
            have HST := Lib.hid hst
            have hk1 : decide (k + 1 = 0) = false := by simp
            have HK1 := Lib.hid hk1
            clear hst hp hxk hxm hxo hok hle hr hd hk1 HE0
            obtain ⟨l, p, cx⟩ := x
            dsimp only [PC.val] at *
            go_wp2_with fail
            refine (HP.out _ (by first | exact .inl rfl | exact .inr rfl)).mono ?_
            rintro e w1 ⟨rfl, hb1⟩
            have hbl1 := hbl.trans (hb1.mono hs)
            clear hb1 HP c0
            have HST := HST.out
            generalize partE _ (decide (k = 0)) l = pe at *
            by_cases hpe : pe = 0
            · subst hpe
              rw [if_neg (by simp), ← HK1.out] at HST
              have HST := Lib.hid HST
              go_wp2
              go_roundw
              case rel => exact ⟨k + 1, by omega, by go_num, HST.out, hbl1⟩
              case measure => simp [intOf]; omega
            · rw [if_pos hpe] at HST
              have HST := Lib.hid HST
              have hpe' : (pe != 0) = true := by simpa using hpe
              go_wp2
              go_ret
              exact ⟨ret_int HST.out.symm, hbl1⟩
          · rw [chk_end _ _ _ _ (by simpa using hlt)] at hst
            obtain rfl : k = xs.length := by omega
            have HST := Lib.hid hst
            go_wp2
            go_ret
            exact ⟨ret_int HST.out.symm, hbl⟩
  · have HE0 : Hid (E = 14) := Lib.hid (by rw [← HE.out, if_pos (by omega)])
    have hk2 : (kind != 2) = true := by simp; omega
    have hk3 : (kind != 3) = true := by simp; omega
    go_wp2
    go_ret
    exact ⟨ret_int HE0.out.symm, Below.refl _ _⟩
end Go.Proofs.Ytephdnahmgfmeaa

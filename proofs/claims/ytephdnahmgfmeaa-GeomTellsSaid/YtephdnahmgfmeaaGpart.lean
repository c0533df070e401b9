/-
  geom.within, part, Check.
-/
import Derived.Test.YtephdnahmgfmeaaGroups
set_option linter.unusedVariables false
set_option linter.unusedSimpArgs false
namespace Go
/-- A point that is near. -/
def near (p : Pt) : Bool := decide (-1048576 ≤ p.x ∧ p.x ≤ 1048576) && decide (-1048576 ≤ p.y ∧ p.y ≤ 1048576)
/-- Two neighbours are the same. -/
def twin (l : List Pt) : Bool := (List.range (l.length - 1)).any fun i => decide (l[i + 1]! = l[i]!)
/-- What is wrong with a part. -/
def partE (kind : Int) (first : Bool) (l : List Pt) : Int :=
  if l.all near = false then 5
  else if (l.length : Int) < kind then 15
  else if twin l = true then 15
  else if kind = 3 ∧ (l[0]! = l[l.length - 1]! ∨ areaF l = 0 ∨ first = true ∧ areaF l < 0) then 15
  else 0
theorem pts_drop1 (L : List Pt) : (pts L).drop 2 = pts (L.drop 1) := by
  cases L with
  | nil => rfl
  | cons p L => rfl
end Go
namespace Go.Proofs.Ytephdnahmgfmeaa
open Go.RowKit

theorem gwithin_any (n : Int) (w : World) :
    Calls Try.prog 41 #[.int .i64 n] w fun e w' => e = .returned (.bool (decide (-1048576 ≤ n ∧ n ≤ 1048576))) ∧ w = w' := by
  go_enter Try.func41, Try.ntmps41
  by_cases h1 : -1048576 ≤ n
  · go_wp2
    go_ret
    refine ⟨ret_bool ?_, rfl⟩
    simp [h1]
  · go_wp2
    go_ret
    refine ⟨ret_bool ?_, rfl⟩
    symm; rw [Bool.and_eq_false_iff]
    exact .inl (decide_eq_false (by omega))

set_option maxHeartbeats 1600000 in
theorem gpart_any (kind : Int) (first : Bool) (x : PC) (hl : x.l.length ≤ 1000) (hk : kind = 2 ∨ kind = 3) (w : World) (hx : x.Ok w) :
    Calls Try.prog 30 #[.int .i64 kind, .bool first, x.val] w fun e w' => e = .returned (.int .i64 (partE kind first x.l)) ∧ Below w.heap.size w w' := by
  obtain ⟨L, a, c⟩ := x
  obtain ⟨hr, h2, h3, h4⟩ := hx
  dsimp only [PC.val] at *
  obtain ⟨PE, hPE⟩ : ∃ PE, partE kind first L = PE := ⟨_, rfl⟩
  rw [hPE]
  have HPE := Lib.hid hPE
  clear hPE
  go_enter Try.func30, Try.ntmps30
  go_wp2
  go_loopw [14] (fun i wr => ∃ k : Nat, k ≤ L.length ∧ i = .int .i64 k ∧ (L.take k).all near = true ∧ Below w.heap.size w wr) (fun i _ => L.length - (intOf i).toNat)
  case atStart => exact ⟨0, Nat.zero_le _, rfl, rfl, Below.refl _ _⟩
  case round =>
    obtain ⟨k, hk1, rfl, hall, hbl⟩ := hrel
    have HA := Lib.hid hall
    clear hall
    by_cases hlt : k < L.length
    · obtain ⟨b, off, rfl, hb, c0, c1⟩ := (hr.keep hbl).pt k hlt
      have HST : Hid ((L.take (k + 1)).all near = near L[k]) := by
        refine Lib.hid ?_
        rw [List.take_succ_eq_append_getElem hlt, List.all_append, HA.out]
        simp
      have HNO : Hid (near L[k] = false → PE = 5) := by
        refine Lib.hid fun h => ?_
        rw [← HPE.out]
        have : L.all near = false := by
          rw [List.all_eq_false]
          exact ⟨L[k], List.getElem_mem _, by simp [h]⟩
        unfold partE
        rw [if_pos this]
      generalize L[k] = p at *
      obtain ⟨x, y⟩ := p
      dsimp only at c0 c1
      have hs := hbl.size
      by_cases hx : -1048576 ≤ x ∧ x ≤ 1048576
      · by_cases hy : -1048576 ≤ y ∧ y ≤ 1048576
        · have HX := Lib.hid hx
          have HY := Lib.hid hy
          clear hx hy
          go_wp2_with fail
          refine (gwithin_any x _).mono ?_
          rintro e w1 ⟨rfl, rfl⟩
          rw [decide_eq_true HX.out]
          go_wp2_with fail
          refine (gwithin_any y _).mono ?_
          rintro e w1 ⟨rfl, rfl⟩
          rw [decide_eq_true HY.out]
          go_wp2
          go_roundw
          case rel =>
            refine ⟨k + 1, by omega, by go_num, ?_, hbl.alloc hs _⟩
            rw [HST.out]
            simp [near, HX.out, HY.out]
          case measure => simp [intOf]; omega
        · have HX := Lib.hid hx
          have HY := Lib.hid hy
          clear hx hy
          go_wp2_with fail
          refine (gwithin_any x _).mono ?_
          rintro e w1 ⟨rfl, rfl⟩
          rw [decide_eq_true HX.out]
          go_wp2_with fail
          refine (gwithin_any y _).mono ?_
          rintro e w1 ⟨rfl, rfl⟩
          rw [decide_eq_false HY.out]
          go_wp2
          go_ret
          refine ⟨ret_int (HNO.out ?_).symm, hbl.alloc hs _⟩
          simp [near, HY.out]
      · have HX := Lib.hid hx
        clear hx
        go_wp2_with fail
        refine (gwithin_any x _).mono ?_
        rintro e w1 ⟨rfl, rfl⟩
        rw [decide_eq_false HX.out]
        go_wp2
        go_ret
        refine ⟨ret_int (HNO.out ?_).symm, hbl.alloc hs _⟩
        simp [near, HX.out]
    · obtain rfl : k = L.length := by omega
      have HA := Lib.hid HA.out
      rw [List.take_length] at HA
      by_cases hlk : (L.length : Int) < kind
      · have hE : Hid (PE = 15) := Lib.hid (by rw [← HPE.out]; unfold partE; rw [if_neg (by rw [HA.out]; simp), if_pos hlk])
        go_wp2
        go_ret
        exact ⟨ret_int hE.out.symm, hbl⟩
      · have hL2 : 2 ≤ L.length := by rcases hk with rfl | rfl <;> omega
        obtain ⟨b, off, rfl, hb, -, -⟩ := hr.pt 0 (by omega)
        have hP1 : Hid (twin L = true → PE = 15) := Lib.hid fun h => by
          rw [← HPE.out]
          unfold partE
          rw [if_neg (by rw [HA.out]; simp), if_neg hlk, if_pos h]
        have hP2 : Hid (twin L = false → kind = 3 → (L[0]! = L[L.length - 1]! ∨ areaF L = 0 ∨ first = true ∧ areaF L < 0) → PE = 15) := Lib.hid fun h h1 h2 => by
          rw [← HPE.out]
          unfold partE
          rw [if_neg (by rw [HA.out]; simp), if_neg hlk, if_neg (by rw [h]; simp), if_pos ⟨h1, h2⟩]
        have hP3 : Hid (twin L = false → ¬ (kind = 3 ∧ (L[0]! = L[L.length - 1]! ∨ areaF L = 0 ∨ first = true ∧ areaF L < 0)) → PE = 0) := Lib.hid fun h h1 => by
          rw [← HPE.out]
          unfold partE
          rw [if_neg (by rw [HA.out]; simp), if_neg hlk, if_neg (by rw [h]; simp), if_neg h1]
        have har := fun W h => rarea_any (some ⟨b, off, none⟩) c L hl W h
        have HAR := Lib.hid har
        have hc1 : ¬ c = 1 := by omega
        have hc1' : ¬ (L.length : Int) < 1 := by omega
        clear har HA hlt hk1
        have hrd := hr.drop 2
        rw [pts_drop1] at hrd
        go_wp2
        go_loopw [36] (fun i wr => ∃ j : Nat, j + 1 ≤ L.length ∧ i = .int .i64 j ∧ (∀ q, q < j → L[q + 1]! ≠ L[q]!) ∧ Below w.heap.size w wr) (fun i _ => L.length - (intOf i).toNat)
        case atStart => exact ⟨0, by omega, rfl, fun q hq => absurd hq (Nat.not_lt_zero _), hbl⟩
        case round =>
          obtain ⟨j, hj1, rfl, hne, hbl'⟩ := hrel
          have HNE := Lib.hid hne
          clear hne hbl
          by_cases hlt : j + 1 < L.length
          · have hjd : j < (L.drop 1).length := by simp; omega
            obtain ⟨b1, off1, he, -, d0, d1⟩ := (hrd.keep hbl').pt j hjd
            cases he
            obtain ⟨b2, off2, he, hb2, c0, c1⟩ := (hr.keep hbl').pt j (by omega)
            cases he
            have hd : (L.drop 1)[j] = L[j + 1]! := by rw [List.getElem_drop, getElem!_pos L (j + 1) hlt]; congr 1; omega
            rw [hd] at d0 d1
            rw [← getElem!_pos L j (by omega)] at c0 c1
            have hs := hbl'.size
            have HEQ : Hid (L[j + 1]! = L[j]! → twin L = true) := Lib.hid fun h => by
              unfold twin
              rw [List.any_eq_true]
              exact ⟨j, List.mem_range.2 (by omega), by simp [h]⟩
            have HNO : Hid (L[j + 1]! ≠ L[j]! → ∀ q, q < j + 1 → L[q + 1]! ≠ L[q]!) := Lib.hid fun h q hq => by
              by_cases h1 : q = j
              · subst h1; exact h
              · exact HNE.out q (by omega)
            generalize L[j + 1]! = p at *
            generalize L[j]! = q at *
            obtain ⟨px, py⟩ := p
            obtain ⟨qx, qy⟩ := q
            dsimp only at c0 c1 d0 d1
            clear hjd hd
            go_wp2_with fail
            have hbne : b ≠ wr.heap.size := by omega
            by_cases hx : px = qx
            · subst hx
              by_cases hy : py = qy
              · subst hy
                go_quiet (fail)
                go_wp2
                go_ret
                exact ⟨ret_int (hP1.out (HEQ.out trivial)).symm, below_drewN (hbl'.alloc hs _) _⟩
              · go_quiet (fail)
                go_wp2
                go_roundw
                case rel => exact ⟨j + 1, by omega, by go_num, HNO.out (by simp [hy]), below_drewN (hbl'.alloc hs _) _⟩
                case measure => simp [intOf]; omega
            · go_quiet (fail)
              go_wp2
              go_roundw
              case rel => exact ⟨j + 1, by omega, by go_num, HNO.out (by simp [hx]), below_drewN (hbl'.alloc hs _) _⟩
              case measure => simp [intOf]; omega
          · obtain rfl : j = L.length - 1 := by omega
            have HT : Hid (twin L = false) := Lib.hid (by
              unfold twin
              rw [List.any_eq_false]
              intro q hq
              have := HNE.out q (List.mem_range.1 hq)
              simpa using this)
            clear HNE hP1 hrd
            have hs := hbl'.size
            rcases hk with rfl | rfl
            · go_wp2
              go_ret
              exact ⟨ret_int (hP3.out HT.out (by simp)).symm, hbl'⟩
            · go_wp2_with fail
              refine (HAR.out _ (hr.keep hbl')).mono ?_
              rintro e w1 ⟨rfl, hb1⟩
              have hbl1 := hbl'.trans (hb1.mono hs)
              obtain ⟨b2, off2, he, hb2, c0, c1⟩ := (hr.keep hbl1).pt 0 (by omega)
              cases he
              obtain ⟨b3, off3, he, hb3, d0, d1⟩ := (hr.keep hbl1).pt (L.length - 1) (by omega)
              cases he
              rw [← getElem!_pos L 0 (by omega)] at c0 c1
              rw [← getElem!_pos L (L.length - 1) (by omega)] at d0 d1
              clear hb1 hbl' HAR
              have HP2 := hP2.out HT.out trivial
              have HP3 := hP3.out HT.out
              generalize areaF L = ar at *
              generalize L[0]! = p at *
              generalize L[L.length - 1]! = q at *
              obtain ⟨px, py⟩ := p
              obtain ⟨qx, qy⟩ := q
              dsimp only at c0 c1 d0 d1
              have HP2' := Lib.hid HP2
              have HP3' := Lib.hid HP3
              clear HP2 HP3 hP2 hP3
              have hL1 : 0 < L.length := by omega
              rw [Nat.zero_mul, Nat.add_zero] at c0
              rw [Nat.zero_mul, Nat.add_zero] at c1
              have hw : IntKind.i64.wrap ((L.length : Int) - 1) = ((L.length - 1 : Nat) : Int) := by
                have : ((L.length - 1 : Nat) : Int) = (L.length : Int) - 1 := by omega
                rw [this]; exact IntWalk.i64_in _ (by omega)
              by_cases hx : px = qx ∧ py = qy
              · obtain ⟨rfl, rfl⟩ := hx
                go_wp2_with fail
                go_quiet (fail)
                go_wp2
                go_ret
                exact ⟨ret_int (HP2'.out (.inl trivial)).symm, below_drewN hbl1 _⟩
              · have hne : (⟨px, py⟩ : Pt) ≠ ⟨qx, qy⟩ := by simpa using hx
                have HNE := Lib.hid hne
                clear hne
                have hxy : ¬ px = qx ∨ px = qx ∧ ¬ py = qy := by
                  by_cases h1 : px = qx
                  · exact .inr ⟨h1, fun h2 => hx ⟨h1, h2⟩⟩
                  · exact .inl h1
                clear hx
                have har : ar = 0 ∨ ¬ ar = 0 ∧ decide (ar < 0) = false ∨ ¬ ar = 0 ∧ ar < 0 := by
                  by_cases h1 : ar < 0
                  · exact .inr (.inr ⟨by omega, h1⟩)
                  · by_cases h2 : ar = 0
                    · exact .inl h2
                    · exact .inr (.inl ⟨h2, decide_eq_false h1⟩)
                rcases hxy with hx | ⟨rfl, hy⟩
                all_goals rcases har with rfl | ⟨hz, hp⟩ | ⟨hz, hn⟩
                all_goals cases first
                all_goals try (have hz' : (ar == 0) = false := by simpa using hz)
                all_goals go_wp2_with fail
                all_goals go_quiet (fail)
                all_goals go_wp2
                all_goals go_ret
                all_goals first | exact ⟨ret_int (HP2'.out (by simp [*])).symm, below_drewN hbl1 _⟩ | exact ⟨ret_int (HP3'.out (by have h := HNE.out; have h2 := of_decide_eq_false ‹decide (ar < 0) = false›; simp [*])).symm, below_drewN hbl1 _⟩ | exact ⟨ret_int (HP3'.out (by have h := HNE.out; simp [*])).symm, below_drewN hbl1 _⟩
end Go.Proofs.Ytephdnahmgfmeaa

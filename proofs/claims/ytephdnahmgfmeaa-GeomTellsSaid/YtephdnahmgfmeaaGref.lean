/-
  graticuleref23.far, part, Check.
-/
import Derived.Test.YtephdnahmgfmeaaGchk
set_option linter.unusedVariables false
set_option linter.unusedSimpArgs false
namespace Go
theorem near_ok {L : List Pt} (h : L.all near = true) : L.all okPt = true := by
  rw [List.all_eq_true] at h ⊢
  intro p hp
  have := h p hp
  rw [okPt_iff]
  simp [near] at this
  omega
theorem area_sho {L : List Pt} (h1 : 3 ≤ L.length) (h2 : L.all okPt = true) : areaF L = sho L := by
  unfold areaF
  rw [if_neg (by rw [h2]; simp; omega), fan_sho]
end Go
namespace Go.Proofs.Ytephdnahmgfmeaa
open Go.RowKit

theorem rfar_any (p : Pt) (w : World) :
    Calls Try.prog 40 #[p.val] w fun e w' => e = .returned (.bool (!near p)) ∧ Below w.heap.size w w' := by
  obtain ⟨x, y⟩ := p
  dsimp only [Pt.val]
  obtain ⟨B, hB⟩ : ∃ B, (!near ⟨x, y⟩) = B := ⟨_, rfl⟩
  have hC : Hid (B = (decide (1048576 < x) || (decide (x < -1048576) || (decide (1048576 < y) || decide (y < -1048576))))) := by
    refine Lib.hid ?_
    rw [← hB]
    simp only [near]
    by_cases h1 : 1048576 < x <;> by_cases h2 : x < -1048576 <;> by_cases h3 : 1048576 < y <;> by_cases h4 : y < -1048576 <;> simp [h1, h2, h3, h4] <;> omega
  rw [hB]
  clear hB
  go_enter Try.func40, Try.ntmps40
  go_wp2
  all_goals (go_ret; refine ⟨ret_bool ?_, Below.new _ _⟩; rw [hC.out]; clear hC; first | (simp [*]; done) | (simp_all; done) | simp only [Bool.or_assoc])

set_option maxHeartbeats 1600000 in
theorem rpart23_any (kind : Int) (first : Bool) (x : PC) (hl : x.l.length ≤ 1000) (hk : kind = 2 ∨ kind = 3) (w : World) (hx : x.Ok w) :
    Calls Try.prog 26 #[.int .i64 kind, .bool first, x.val] w fun e w' => e = .returned (.int .i64 (partE kind first x.l)) ∧ Below w.heap.size w w' := by
  obtain ⟨L, a, c⟩ := x
  obtain ⟨hr, h2, h3, h4⟩ := hx
  dsimp only [PC.val] at *
  obtain ⟨PE, hPE⟩ : ∃ PE, partE kind first L = PE := ⟨_, rfl⟩
  rw [hPE]
  have HPE := Lib.hid hPE
  clear hPE
  go_enter Try.func26, Try.ntmps26
  go_wp2
  go_loopw [7] (fun i wr => ∃ k : Nat, k ≤ L.length ∧ i = .int .i64 k ∧ (L.take k).all near = true ∧ Below w.heap.size w wr) (fun i _ => L.length - (intOf i).toNat)
  case atStart => exact ⟨0, Nat.zero_le _, rfl, rfl, Below.refl _ _⟩
  case round =>
    obtain ⟨k, hk1, rfl, hall, hbl⟩ := hrel
    have HA := Lib.hid hall
    clear hall
    by_cases hlt : k < L.length
    · obtain ⟨b, off, rfl, hb, c0, c1⟩ := (hr.keep hbl).pt k hlt
      have HST : Hid ((L.take (k + 1)).all near = near L[k]) := by
        refine Lib.hid ?_
        rw [List.take_succ_eq_append_getElem hlt, List.all_append, HA.out]
        simp
      have HNO : Hid (near L[k] = false → PE = 5) := by
        refine Lib.hid fun h => ?_
        rw [← HPE.out]
        have : L.all near = false := by
          rw [List.all_eq_false]
          exact ⟨L[k], List.getElem_mem _, by simp [h]⟩
        unfold partE
        rw [if_pos this]
      generalize L[k] = p at *
      have hm := rfar_any p wr
      obtain ⟨x, y⟩ := p
      dsimp only [Pt.val] at c0 c1 hm
      have hs := hbl.size
      cases hp : near ⟨x, y⟩ with
      | true =>
        rw [hp] at hm
        have HM := Lib.hid hm
        have HP := Lib.hid hp
        clear hm hp
        go_wp2_with fail
        refine HM.out.mono ?_
        rintro e w1 ⟨rfl, hb1⟩
        have hbl1 := hbl.trans (hb1.mono hs)
        clear hb1 hbl HM c0 c1
        go_wp2
        go_roundw
        case rel => exact ⟨k + 1, by omega, by go_num, HST.out.trans HP.out, hbl1⟩
        case measure => simp [intOf]; omega
      | false =>
        rw [hp] at hm
        have HM := Lib.hid hm
        have HP := Lib.hid hp
        clear hm hp
        go_wp2_with fail
        refine HM.out.mono ?_
        rintro e w1 ⟨rfl, hb1⟩
        have hbl1 := hbl.trans (hb1.mono hs)
        clear hb1 hbl HM c0 c1
        go_wp2
        go_ret
        exact ⟨ret_int (HNO.out HP.out).symm, hbl1⟩
    · obtain rfl : k = L.length := by omega
      have HA := Lib.hid HA.out
      rw [List.take_length] at HA
      by_cases hlk : (L.length : Int) < kind
      · have hE : Hid (PE = 15) := Lib.hid (by rw [← HPE.out]; unfold partE; rw [if_neg (by rw [HA.out]; simp), if_pos hlk])
        go_wp2
        go_ret
        exact ⟨ret_int hE.out.symm, hbl⟩
      · have hL2 : 2 ≤ L.length := by rcases hk with rfl | rfl <;> omega
        obtain ⟨b, off, rfl, hb, -, -⟩ := hr.pt 0 (by omega)
        have hP1 : Hid (twin L = true → PE = 15) := Lib.hid fun h => by
          rw [← HPE.out]
          unfold partE
          rw [if_neg (by rw [HA.out]; simp), if_neg hlk, if_pos h]
        have hP2 : Hid (twin L = false → kind = 3 → (L[0]! = L[L.length - 1]! ∨ areaF L = 0 ∨ first = true ∧ areaF L < 0) → PE = 15) := Lib.hid fun h h1 h2 => by
          rw [← HPE.out]
          unfold partE
          rw [if_neg (by rw [HA.out]; simp), if_neg hlk, if_neg (by rw [h]; simp), if_pos ⟨h1, h2⟩]
        have hP3 : Hid (twin L = false → ¬ (kind = 3 ∧ (L[0]! = L[L.length - 1]! ∨ areaF L = 0 ∨ first = true ∧ areaF L < 0)) → PE = 0) := Lib.hid fun h h1 => by
          rw [← HPE.out]
          unfold partE
          rw [if_neg (by rw [HA.out]; simp), if_neg hlk, if_neg (by rw [h]; simp), if_neg h1]
        have har := fun W h => rarea3_any (some ⟨b, off, none⟩) c L hl (near_ok HA.out) W h
        have hAF : Hid (kind = 3 → areaF L = sho L) := Lib.hid fun h => area_sho (by omega) (near_ok HA.out)
        have HAR := Lib.hid har
        have hc1 : ¬ c = 1 := by omega
        have hc1' : ¬ (L.length : Int) < 1 := by omega
        clear har HA hlt hk1
        go_wp2
        go_loopw [9] (fun i wr => ∃ j : Nat, j + 1 ≤ L.length ∧ i = .int .i64 ((j + 1 : Nat) : Int) ∧ (∀ q, q < j → L[q + 1]! ≠ L[q]!) ∧ Below w.heap.size w wr) (fun i _ => L.length - (intOf i).toNat)
        case atStart => exact ⟨0, by omega, rfl, fun q hq => absurd hq (Nat.not_lt_zero _), hbl⟩
        case round =>
          obtain ⟨j, hj1, rfl, hne, hbl'⟩ := hrel
          have HNE := Lib.hid hne
          clear hne hbl
          by_cases hlt : j + 1 < L.length
          · obtain ⟨b1, off1, he, -, d0, d1⟩ := (hr.keep hbl').pt (j + 1) hlt
            cases he
            obtain ⟨b2, off2, he, hb2, c0, c1⟩ := (hr.keep hbl').pt j (by omega)
            cases he
            rw [← getElem!_pos L (j + 1) hlt] at d0 d1
            rw [← getElem!_pos L j (by omega)] at c0 c1
            have hs := hbl'.size
            have HEQ : Hid (L[j + 1]! = L[j]! → twin L = true) := Lib.hid fun h => by
              unfold twin
              rw [List.any_eq_true]
              exact ⟨j, List.mem_range.2 (by omega), by simp [h]⟩
            have HNO : Hid (L[j + 1]! ≠ L[j]! → ∀ q, q < j + 1 → L[q + 1]! ≠ L[q]!) := Lib.hid fun h q hq => by
              by_cases h1 : q = j
              · subst h1; exact h
              · exact HNE.out q (by omega)
            generalize L[j + 1]! = p at *
            generalize L[j]! = q at *
            obtain ⟨px, py⟩ := p
            obtain ⟨qx, qy⟩ := q
            dsimp only at c0 c1 d0 d1
            have hw1 : IntKind.i64.wrap (((j + 1 : Nat) : Int) - 1) = (j : Int) := by
              have : ((j + 1 : Nat) : Int) - 1 = (j : Int) := by omega
              rw [this]; exact IntWalk.i64_in _ (by omega)
            go_wp2_with fail
            by_cases hx : px = qx
            · subst hx
              by_cases hy : py = qy
              · subst hy
                go_quiet (fail)
                go_wp2
                go_ret
                exact ⟨ret_int (hP1.out (HEQ.out trivial)).symm, below_drewN hbl' _⟩
              · go_quiet (fail)
                go_wp2
                go_roundw
                case rel => exact ⟨j + 1, by omega, by go_num, HNO.out (by simp [hy]), below_drewN hbl' _⟩
                case measure => simp [intOf]; omega
            · go_quiet (fail)
              go_wp2
              go_roundw
              case rel => exact ⟨j + 1, by omega, by go_num, HNO.out (by simp [hx]), below_drewN hbl' _⟩
              case measure => simp [intOf]; omega
          · obtain rfl : j = L.length - 1 := by omega
            have HT : Hid (twin L = false) := Lib.hid (by
              unfold twin
              rw [List.any_eq_false]
              intro q hq
              have := HNE.out q (List.mem_range.1 hq)
              simpa using this)
            clear HNE hP1
            have hs := hbl'.size
            rcases hk with rfl | rfl
            · go_wp2
              go_ret
              exact ⟨ret_int (hP3.out HT.out (by simp)).symm, hbl'⟩
            · go_wp2_with fail
              refine (HAR.out _ (hr.keep hbl')).mono ?_
              rintro e w1 ⟨rfl, hb1⟩
              have hbl1 := hbl'.trans (hb1.mono hs)
              obtain ⟨b2, off2, he, hb2, c0, c1⟩ := (hr.keep hbl1).pt 0 (by omega)
              cases he
              obtain ⟨b3, off3, he, hb3, d0, d1⟩ := (hr.keep hbl1).pt (L.length - 1) (by omega)
              cases he
              rw [← getElem!_pos L 0 (by omega)] at c0 c1
              rw [← getElem!_pos L (L.length - 1) (by omega)] at d0 d1
              clear hb1 hbl' HAR
              have haf := hAF.out trivial
              rw [haf] at hP2 hP3
              clear haf hAF
              have HP2 := hP2.out HT.out trivial
              have HP3 := hP3.out HT.out
              generalize sho L = ar at *
              generalize L[0]! = p at *
              generalize L[L.length - 1]! = q at *
              obtain ⟨px, py⟩ := p
              obtain ⟨qx, qy⟩ := q
              dsimp only at c0 c1 d0 d1
              have HP2' := Lib.hid HP2
              have HP3' := Lib.hid HP3
              clear HP2 HP3 hP2 hP3
              have hL1 : 0 < L.length := by omega
              rw [Nat.zero_mul, Nat.add_zero] at c0
              rw [Nat.zero_mul, Nat.add_zero] at c1
              have hw : IntKind.i64.wrap ((L.length : Int) - 1) = ((L.length - 1 : Nat) : Int) := by
                have : ((L.length - 1 : Nat) : Int) = (L.length : Int) - 1 := by omega
                rw [this]; exact IntWalk.i64_in _ (by omega)
              by_cases hx : px = qx ∧ py = qy
              · obtain ⟨rfl, rfl⟩ := hx
                go_wp2_with fail
                go_quiet (fail)
                go_wp2
                go_ret
                exact ⟨ret_int (HP2'.out (.inl trivial)).symm, below_drewN hbl1 _⟩
              · have hne : (⟨px, py⟩ : Pt) ≠ ⟨qx, qy⟩ := by simpa using hx
                have HNE := Lib.hid hne
                clear hne
                have hxy : ¬ px = qx ∨ px = qx ∧ ¬ py = qy := by
                  by_cases h1 : px = qx
                  · exact .inr ⟨h1, fun h2 => hx ⟨h1, h2⟩⟩
                  · exact .inl h1
                clear hx
                have har : ar = 0 ∨ ¬ ar = 0 ∧ decide (ar < 0) = false ∨ ¬ ar = 0 ∧ ar < 0 := by
                  by_cases h1 : ar < 0
                  · exact .inr (.inr ⟨by omega, h1⟩)
                  · by_cases h2 : ar = 0
                    · exact .inl h2
                    · exact .inr (.inl ⟨h2, decide_eq_false h1⟩)
                rcases hxy with hx | ⟨rfl, hy⟩
                all_goals rcases har with rfl | ⟨hz, hp⟩ | ⟨hz, hn⟩
                all_goals cases first
                all_goals try (have hz' : (ar == 0) = false := by simpa using hz)
                all_goals go_wp2_with fail
                all_goals go_quiet (fail)
                all_goals go_wp2
                all_goals go_ret
                all_goals first | exact ⟨ret_int (HP2'.out (by simp [*])).symm, below_drewN hbl1 _⟩ | exact ⟨ret_int (HP3'.out (by have h := HNE.out; have h2 := of_decide_eq_false ‹decide (ar < 0) = false›; simp [*])).symm, below_drewN hbl1 _⟩ | exact ⟨ret_int (HP3'.out (by have h := HNE.out; simp [*])).symm, below_drewN hbl1 _⟩
set_option maxHeartbeats 1600000 in
theorem rcheck23_any (kind : Int) (a : Option Addr) (c : Nat) (xs : List PC) (hl : xs.length ≤ 1000000) (hle : ∀ x ∈ xs, x.l.length ≤ 1000) (w : World) (hr : Rd w a (xs.map PC.val)) (hok : ∀ x ∈ xs, x.Ok w) :
    Calls Try.prog 10 #[.int .i64 kind, .slice a xs.length c] w fun e w' => e = .returned (.int .i64 (checkE kind (xs.map (·.l)))) ∧ Below w.heap.size w w' := by
  obtain ⟨E, hE⟩ : ∃ E, checkE kind (xs.map (·.l)) = E := ⟨_, rfl⟩
  rw [hE]
  unfold checkE at hE
  rw [List.length_map] at hE
  have HE := Lib.hid hE
  clear hE
  go_enter Try.func10, Try.ntmps10
  by_cases hk : kind = 2 ∨ kind = 3
  · have hkk : ((kind != 2) && (kind != 3)) = false := by rcases hk with rfl | rfl <;> rfl
    by_cases h0 : xs.length = 0
    · have HE0 : Hid (E = 15) := Lib.hid (by rw [← HE.out, if_neg (by omega), if_pos h0])
      have HK := Lib.hid hk
      rcases hk with rfl | rfl
      · go_wp2
        go_ret
        exact ⟨ret_int HE0.out.symm, Below.refl _ _⟩
      · go_wp2
        go_ret
        exact ⟨ret_int HE0.out.symm, Below.refl _ _⟩
    · have HE0 : Hid (E = chk kind true (xs.map (·.l))) := Lib.hid (by rw [← HE.out, if_neg (by omega), if_neg h0])
      have HK := Lib.hid hk
      clear HE
      have loop : ∀ k kk : Int, (kind = k) → True := fun _ _ _ => trivial
      clear loop
      rcases hk with rfl | rfl
      all_goals
        go_wp2
        go_loopw [5] (fun i wr => ∃ k : Nat, k ≤ xs.length ∧ i = .int .i64 k ∧ E = chk _ (decide (k = 0)) ((xs.map (·.l)).drop k) ∧ Below w.heap.size w wr) (fun i _ => xs.length - (intOf i).toNat)
        case atStart => exact ⟨0, Nat.zero_le _, rfl, HE0.out, Below.refl _ _⟩
        case round =>
          obtain ⟨k, hk, rfl, hst, hbl⟩ := hrel
          have hs := hbl.size
          by_cases hlt : k < xs.length
          · obtain ⟨x, hxk⟩ : ∃ x, xs[k] = x := ⟨_, rfl⟩
            have hxm : x ∈ xs := by rw [← hxk]; exact List.getElem_mem _
            have hxo : x.Ok w := hok x hxm
            have hxl := hle x hxm
            obtain ⟨b1, off1, rfl, c0, _⟩ := (hr.keep hbl).at (i := k) (v := x.val) (by simp [hlt, hxk])
            have hd : (xs.map (·.l)).drop k = x.l :: (xs.map (·.l)).drop (k + 1) := by
              rw [List.drop_eq_getElem_cons (by simpa using hlt)]; simp [hxk]
            rw [hd] at hst
            have hp := fun kd hkd => rpart23_any kd (decide (k = 0)) x hxl hkd wr (hxo.keep hbl)
            have HP := Lib.hid hp
            have hkz : (((k : Nat) : Int) == 0) = decide (k = 0) := by
              by_cases h : k = 0
              · subst h; rfl
              · rw [decide_eq_false h]; simp; omega
            rw [chk] at hst
            have HST := Lib.hid hst
            have hk1 : decide (k + 1 = 0) = false := by simp
            have HK1 := Lib.hid hk1
            clear hst hp hxk hxm hxo hok hle hr hd hk1 HE0
            obtain ⟨l, p, cx⟩ := x
            dsimp only [PC.val] at *
            go_wp2_with fail
            refine (HP.out _ (by first | exact .inl rfl | exact .inr rfl)).mono ?_
            rintro e w1 ⟨rfl, hb1⟩
            have hbl1 := hbl.trans (hb1.mono hs)
            clear hb1 HP c0
            have HST := HST.out
            generalize partE _ (decide (k = 0)) l = pe at *
            by_cases hpe : pe = 0
            · subst hpe
              rw [if_neg (by simp), ← HK1.out] at HST
              have HST := Lib.hid HST
              go_wp2
              go_roundw
              case rel => exact ⟨k + 1, by omega, by go_num, HST.out, hbl1⟩
              case measure => simp [intOf]; omega
            · rw [if_pos hpe] at HST
              have HST := Lib.hid HST
              have hpe' : (pe != 0) = true := by simpa using hpe
              go_wp2
              go_ret
              exact ⟨ret_int HST.out.symm, hbl1⟩
          · rw [chk_end _ _ _ _ (by simpa using hlt)] at hst
            obtain rfl : k = xs.length := by omega
            have HST := Lib.hid hst
            go_wp2
            go_ret
            exact ⟨ret_int HST.out.symm, hbl⟩
  · have HE0 : Hid (E = 14) := Lib.hid (by rw [← HE.out, if_pos (by omega)])
    have hk2 : (kind != 2) = true := by simp; omega
    have hk3 : (kind != 3) = true := by simp; omega
    go_wp2
    all_goals first | (exfalso; omega) | (go_ret; exact ⟨ret_int HE0.out.symm, Below.refl _ _⟩)
end Go.Proofs.Ytephdnahmgfmeaa

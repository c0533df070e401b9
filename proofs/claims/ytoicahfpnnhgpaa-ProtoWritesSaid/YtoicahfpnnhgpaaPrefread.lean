/-
  graticuleref08.Read.
-/
import Derived.Test.YtoicahfpnnhgpaaPread
import Derived.Test.YtoicahfpnnhgpaaVrefread
import Derived.Test.YtoicahfpnnhgpaaStr
set_option linter.unusedVariables false
set_option linter.unusedSimpArgs false
namespace Go.Proofs.Ytoicahfpnnhgpaa
open Go.RowKit Go.Vint Go.Proto

/-- What the document's reader of a field hands back. -/
def RFldV (f : Fld) : Value := .agg #[.int .i64 f.num, .int .i64 f.kind, .int .u64 f.n, .string (strOfNums f.bs)]
def RFldE (r : Fld × Int × Int) : Ending := .returned (.tuple #[RFldV r.1, .int .i64 r.2.1, .int .i64 r.2.2])

set_option maxHeartbeats 4000000 in
theorem prefread_any (a : Option Addr) (c : Nat) (L : List Int) (hb : ∀ x ∈ L, 0 ≤ x ∧ x ≤ 255) (hlen : L.length ≤ 1073741824) (hlc : L.length ≤ c) (hcm : c ≤ maxLen) (w : World) (hr : Rd w a (L.map (Value.int .u8))) :
    Calls Try.prog 8 #[.slice a L.length c] w fun e w' => e = RFldE (prd L) ∧ Below w.heap.size w w' := by
  have hv := fun W h => rread_any a c L hb (by omega) W h
  obtain ⟨key, pk, re, hrd⟩ : ∃ key pk re, rd L = (key, pk, re) := ⟨_, _, _, rfl⟩
  have HV := Lib.hid hv
  have HRD := Lib.hid hrd
  clear hv hrd
  go_enter Try.func8, Try.ntmps8
  go_wp2_with fail
  refine (HV.out _ (hr.alloc _)).mono ?_
  rintro e w1 ⟨he, rfl⟩
  rw [HRD.out] at he
  simp only [Rd3] at he
  subst he
  clear HV
  by_cases h0 : re = 0
  · have hkb := rd_bd L hb (by rw [HRD.out]; exact h0)
    obtain ⟨k, hk, hrk, -⟩ := rd_ok L (by rw [HRD.out]; exact h0)
    rw [HRD.out] at hkb hrk
    simp only [Prod.mk.injEq] at hkb hrk
    obtain ⟨-, rfl, -⟩ := hrk
    have hb0 : (re != 0) = false := by simp [h0]
    have HB : Hid (¬ (key / 8 < 1 ∨ 536870911 < key / 8) → prd L = body L key (k + 1)) := by
      intro h
      unfold prd
      rw [HRD.out, if_pos h0, if_neg h]
      have : ((k : Int) + 1).toNat = k + 1 := by omega
      rw [this]
    have HX : Hid ((key / 8 < 1 ∨ 536870911 < key / 8) → prd L = (Fld.zero, 0, 5)) := by
      intro h
      unfold prd
      rw [HRD.out, if_pos h0, if_pos h]
    clear h0 HRD
    obtain ⟨b0, off0, rfl, -, -⟩ := hr.at (i := k) (v := .int .u8 L[k]) (by simp [hk])
    obtain ⟨D, hD⟩ : ∃ D, D = L.drop (k + 1) := ⟨_, rfl⟩
    have hDl : D.length = L.length - (k + 1) := by rw [hD]; simp
    have hDb : ∀ x ∈ D, 0 ≤ x ∧ x ≤ 255 := by rw [hD]; exact fun x hx => hb x (List.mem_of_mem_drop hx)
    have hDr : ∀ W, Rd W (some ⟨b0, off0, none⟩) (L.map (Value.int .u8)) → Rd W (some ⟨b0, off0 + (k + 1), none⟩) (D.map (Value.int .u8)) := by
      intro W h
      rw [hD, List.map_drop]; exact h.drop (k + 1)
    have hv2 : ∀ (a' : Option Addr) W, Rd W a' (D.map (Value.int .u8)) → Calls Try.prog 23 #[.slice a' (L.length - (k + 1)) (c - (k + 1))] W fun e w' => e = Rd3 (rd D) ∧ W = w' := by
      intro a' W h
      have := rread_any a' (c - (k + 1)) D hDb (by omega) W h
      rw [hDl] at this
      exact this
    have HV2 := Lib.hid hv2
    have HDR := Lib.hid hDr
    have HD := Lib.hid hD
    have HDL := Lib.hid hDl
    clear hv2 hDr hD hDl
    by_cases h1 : key / 8 < 1
    · have HP := Lib.hid (HX.out (.inl h1))
      clear HB HX
      go_wp2
      refine bodyPost_ret (v := .tuple #[.agg #[.int .i64 0, .int .i64 0, .int .u64 0, .string ⟨#[]⟩], .int .i64 0, .int .i64 5]) (by simp [results, Try.results8, go_sem]) rfl ⟨?_, Below.new w _⟩
      rw [HP.out]
      rfl
    · by_cases h2 : 536870911 < key / 8
      · have HP := Lib.hid (HX.out (.inr h2))
        clear HB HX
        go_wp2
        refine bodyPost_ret (v := .tuple #[.agg #[.int .i64 0, .int .i64 0, .int .u64 0, .string ⟨#[]⟩], .int .i64 0, .int .i64 5]) (by simp [results, Try.results8, go_sem]) rfl ⟨?_, Below.new w _⟩
        rw [HP.out]
        rfl
      · have HP := Lib.hid (HB.out (by omega))
        clear HB HX
        have hk8 : key % 8 = 0 ∨ key % 8 = 1 ∨ key % 8 = 2 ∨ key % 8 = 3 ∨ key % 8 = 4 ∨ key % 8 = 5 ∨ key % 8 = 6 ∨ key % 8 = 7 := by omega
        rcases hk8 with k8 | k8 | k8 | k8 | k8 | k8 | k8 | k8
        · have KK := Lib.hid k8
          obtain ⟨num, hnum⟩ : ∃ num, num = key / 8 := ⟨_, rfl⟩
          rw [← hnum] at h1 h2
          have hnm : key / 8 = num := hnum.symm
          have hkm : key % 8 = 0 := k8
          by_cases hD0 : L.length = k + 1
          · have HP : Hid (prd L = (Fld.zero, 0, 4)) := by
              show _ = _
              have h0 : D = [] := List.length_eq_zero_iff.1 (by have := HDL.out; omega)
              rw [HP.out]; unfold body; rw [if_pos (by omega), ← HD.out, h0, if_neg (by decide)]; rfl
            clear HV2 HDR HD HDL k8 hnum
            go_wp2_with fail
            all_goals
              refine (rread_any _ _ [] (by simp) (by simp) _ (.inl rfl)).mono ?_
              rintro e w1 ⟨he, rfl⟩
              have h4 : rd [] = (0, 0, 4) := by decide
              rw [h4] at he
              simp only [Rd3] at he
              subst he
              go_wp2
              refine bodyPost_ret (v := .tuple #[.agg #[.int .i64 0, .int .i64 0, .int .u64 0, .string ⟨#[]⟩], .int .i64 0, .int .i64 4]) (by simp [results, Try.results8, go_sem]) rfl ⟨?_, (Below.new w _).alloc (by simp) _⟩
              rw [HP.out]
              rfl
          · have hck : ¬ c = k + 1 := by omega
            clear k8 hnum
            obtain ⟨n, k2, e2, hrd2⟩ : ∃ n k2 e2, rd D = (n, k2, e2) := ⟨_, _, _, rfl⟩
            have HR2 := Lib.hid hrd2
            clear hrd2
            by_cases he2 : e2 = 0
            · have hbd2 := rd_bd D hDb (by rw [HR2.out]; exact he2)
              obtain ⟨m, hm, hrm, -⟩ := rd_ok D (by rw [HR2.out]; exact he2)
              rw [HR2.out] at hbd2 hrm
              simp only [Prod.mk.injEq] at hbd2 hrm
              obtain ⟨-, rfl, -⟩ := hrm
              have hml : m + 1 ≤ L.length - (k + 1) := by have := HDL.out; omega
              have hb2e : (e2 != 0) = false := by simp [he2]
              have HP : Hid (prd L = (⟨num, 0, n, []⟩, (k : Int) + 1 + ((m : Int) + 1), 0)) := by
                show _ = _
                rw [HP.out]; unfold body
                rw [if_pos (by omega), ← HD.out, HR2.out, if_pos (by exact he2), if_pos (by omega)]
                simp [hnm]
              clear he2
              go_wp2_with fail
              refine (HV2.out _ _ (HDR.out _ ((hr.alloc _).alloc _))).mono ?_
              rintro e w1 ⟨he, rfl⟩
              rw [HR2.out] at he
              simp only [Rd3] at he
              subst he
              go_wp2
              refine bodyPost_ret (v := .tuple #[.agg #[.int .i64 num, .int .i64 0, .int .u64 n, .string ⟨#[]⟩], .int .i64 ((k : Int) + 1 + ((m : Int) + 1)), .int .i64 0]) (by simp [results, Try.results8, go_sem]) rfl ⟨?_, (Below.new w _).alloc (by simp) _⟩
              rw [HP.out]
              rfl
            · have hb2e : (e2 != 0) = true := by simpa using he2
              have HP : Hid (prd L = (Fld.zero, 0, e2)) := by
                show _ = _
                rw [HP.out]; unfold body; rw [if_pos (by omega), ← HD.out, HR2.out, if_neg (by exact he2)]
              clear he2
              go_wp2_with fail
              refine (HV2.out _ _ (HDR.out _ ((hr.alloc _).alloc _))).mono ?_
              rintro e w1 ⟨he, rfl⟩
              rw [HR2.out] at he
              simp only [Rd3] at he
              subst he
              go_wp2
              refine bodyPost_ret (v := .tuple #[.agg #[.int .i64 0, .int .i64 0, .int .u64 0, .string ⟨#[]⟩], .int .i64 0, .int .i64 e2]) (by simp [results, Try.results8, go_sem]) rfl ⟨?_, (Below.new w _).alloc (by simp) _⟩
              rw [HP.out]
              rfl
        · have KK := Lib.hid k8
          obtain ⟨num, hnum⟩ : ∃ num, num = key / 8 := ⟨_, rfl⟩
          rw [← hnum] at h1 h2
          have hnm : key / 8 = num := hnum.symm
          have hkm : key % 8 = 1 := k8
          by_cases hn : (L.length : Int) - ((k : Int) + 1) < 8
          · have HP : Hid (prd L = (Fld.zero, 0, 4)) := by
              show _ = _
              rw [HP.out]; unfold body
              rw [if_neg (by omega), if_pos (by omega), if_pos (by omega)]
            clear HD HDL k8 hnum
            go_wp2
            refine bodyPost_ret (v := .tuple #[.agg #[.int .i64 0, .int .i64 0, .int .u64 0, .string ⟨#[]⟩], .int .i64 0, .int .i64 4]) (by simp [results, Try.results8, go_sem]) rfl ⟨?_, (Below.new w _).alloc (by simp) _⟩
            rw [HP.out]
            rfl
          · have HP : Hid (prd L = (⟨num, 1, le ((L.drop (k + 1)).take 8), []⟩, (k : Int) + 1 + 8, 0)) := by
              show _ = _
              rw [HP.out]; unfold body
              rw [if_neg (by omega), if_pos (by omega), if_neg (by omega)]
              simp [hnm]
            obtain ⟨T, hT⟩ : ∃ T, T = (L.drop (k + 1)).take 8 := ⟨_, rfl⟩
            rw [← hT] at HP
            have hTl : T.length = 8 := by rw [hT]; simp; omega
            have hTb : ∀ x ∈ T, 0 ≤ x ∧ x ≤ 255 := by rw [hT]; exact fun x hx => hb x (List.mem_of_mem_drop (List.mem_of_mem_take hx))
            have hTg : ∀ j, j < 8 → T[j]? = L[k + 1 + j]? := by
              intro j hj
              rw [hT, List.getElem?_take, if_pos (by omega), List.getElem?_drop]
            have HTL := Lib.hid hTl
            have HTB := Lib.hid hTb
            have HTG := Lib.hid hTg
            clear hT hTl hTb hTg HD HDL k8 hnum
            have hF := Blk.lit (w.alloc (.cells #[.int .i64 0, .int .i64 0, .int .u64 0, .string ⟨#[]⟩] 30)) (w.heap.size + 1) [.int .i64 num, .int .i64 1, .int .u64 0, .string ⟨#[]⟩] 30 (by simp)
            have hR := (Blk.lit w w.heap.size [.int .i64 0, .int .i64 0, .int .u64 0, .string ⟨#[]⟩] 30 rfl).alloc (.cells #[.int .i64 num, .int .i64 1, .int .u64 0, .string ⟨#[]⟩] 30)
            have hB : Below w.heap.size w ((w.alloc (.cells #[.int .i64 0, .int .i64 0, .int .u64 0, .string ⟨#[]⟩] 30)).alloc (.cells #[.int .i64 num, .int .i64 1, .int .u64 0, .string ⟨#[]⟩] 30)) := (Below.new w _).alloc (by simp) _
            go_wp2
            go_loopw [14] (fun d wr => ∃ j : Nat, j ≤ 8 ∧ d = .int .i64 ((k : Int) + j) ∧ Blk wr (w.heap.size + 1) [.int .i64 num, .int .i64 1, .int .u64 (le (T.drop j)), .string ⟨#[]⟩] ∧
              Blk wr w.heap.size [.int .i64 0, .int .i64 0, .int .u64 0, .string ⟨#[]⟩] ∧ Below w.heap.size w wr) (fun d _ => (intOf d + 1).toNat)
            case atStart =>
              have h0 : T.drop 8 = [] := List.drop_of_length_le (by rw [HTL.out]; exact Nat.le_refl _)
              exact ⟨8, Nat.le_refl _, val_int (by omega), by rw [h0]; exact hF, hR, hB⟩
            case round =>
              obtain ⟨j, hj, rfl, hF1, hR1, hB1⟩ := hrel
              clear hF hR hB
              by_cases hj0 : j ≤ 0
              · obtain rfl : j = 0 := by omega
                rw [List.drop_zero] at hF1
                have d0 := hF1.cell 0 rfl
                have d1 := hF1.cell 1 rfl
                have d2 := hF1.cell 2 rfl
                have d3 := hF1.cell 3 rfl
                have r0 := hR1.cell 0 rfl
                have r1 := hR1.cell 1 rfl
                have r2 := hR1.cell 2 rfl
                have r3 := hR1.cell 3 rfl
                have s0 := hR1.free 0
                have s1 := hR1.free 1
                have s2 := hR1.free 2
                have s3 := hR1.free 3
                go_wp2
                clear d0 d1 d2 d3 r0 r1 r2 r3 s0 s1 s2 s3
                have hR5 := ((((hR1.set 0 (.int .i64 num)).set 1 (.int .i64 1)).set 2 (.int .u64 (le T))).set 3 (.string ⟨#[]⟩))
                have q0 := hR5.cell 0 rfl
                have q1 := hR5.cell 1 rfl
                have q2 := hR5.cell 2 rfl
                have q3 := hR5.cell 3 rfl
                have hB5 := ((((hB1.set_at (b := w.heap.size) (o := 0) (Nat.le_refl _) (.int .i64 num)).set_at (b := w.heap.size) (o := 1) (Nat.le_refl _) (.int .i64 1)).set_at (b := w.heap.size) (o := 2) (Nat.le_refl _) (.int .u64 (le T))).set_at (b := w.heap.size) (o := 3) (Nat.le_refl _) (.string ⟨#[]⟩))
                clear hR5 hR1 hF1 hB1
                generalize ((((wr.setCell ⟨w.heap.size, 0, none⟩ (.int .i64 num)).setCell ⟨w.heap.size, 1, none⟩ (.int .i64 1)).setCell ⟨w.heap.size, 2, none⟩ (.int .u64 (le T))).setCell ⟨w.heap.size, 3, none⟩ (.string ⟨#[]⟩)) = w5 at *
                refine bodyPost_ret (v := .tuple #[.agg #[.int .i64 num, .int .i64 1, .int .u64 (le T), .string ⟨#[]⟩], .int .i64 ((k : Int) + 1 + 8), .int .i64 0]) (by simp [results, Try.results8, go_sem, q0, q1, q2, q3]) rfl ⟨?_, hB5⟩
                rw [HP.out]
                rfl
              · obtain ⟨i, rfl⟩ : ∃ i, j = i + 1 := ⟨j - 1, by omega⟩
                have hip : k + 1 + i < L.length := by omega
                have hLe := le_drop T i (by rw [HTL.out]; omega)
                have hTi : T[i]'(by rw [HTL.out]; omega) = L[k + 1 + i] := by
                  have h1 := HTG.out i (by omega)
                  rw [List.getElem?_eq_getElem (by rw [HTL.out]; omega), List.getElem?_eq_getElem hip] at h1
                  exact Option.some.inj h1
                have hbn := le_8 (T.drop (i + 1)) (fun x hx => HTB.out x (List.mem_of_mem_drop hx)) 7 (by rw [List.length_drop, HTL.out]; omega) (by omega)
                simp only [Int.reducePow] at hbn
                rw [hTi] at hLe
                obtain ⟨b1, off1, hao, hcell, _⟩ := (hr.keep hB1).at (i := k + 1 + i) (v := .int .u8 L[k + 1 + i]) (by simp [hip])
                cases hao
                have hx := hb L[k + 1 + i] (by simp)
                have HLE := Lib.hid hLe
                clear hLe hTi
                generalize le (T.drop (i + 1)) = nv at *
                have d2 := hF1.cell 2 rfl
                have f2 := hF1.free 2
                have hi1 : (k : Int) + ((i + 1 : Nat) : Int) = ((k + 1 + i : Nat) : Int) := by omega
                rw [hi1]
                go_wp2
                go_region
                have hF2 := (hF1.set 2 (.int .u64 (256 * nv + L[k + 1 + i]))).drew
                have hR2 := (hR1.set_at (b' := w.heap.size + 1) (o := 2) (by omega) (.int .u64 (256 * nv + L[k + 1 + i]))).drew
                have hB2 := (hB1.set_at (b := w.heap.size + 1) (o := 2) (by omega) (.int .u64 (256 * nv + L[k + 1 + i]))).drew
                go_wp2
                go_roundw
                case rel =>
                  refine ⟨i, by omega, val_int (by omega), ?_, hR2, hB2⟩
                  rw [show le (T.drop i) = 256 * nv + L[k + 1 + i] by rw [HLE.out]; omega]
                  exact hF2
                case measure => simp [intOf] <;> omega
        · have KK := Lib.hid k8
          obtain ⟨num, hnum⟩ : ∃ num, num = key / 8 := ⟨_, rfl⟩
          rw [← hnum] at h1 h2
          have hnm : key / 8 = num := hnum.symm
          have hkm : key % 8 = 2 := k8
          by_cases hD0 : L.length = k + 1
          · have HP : Hid (prd L = (Fld.zero, 0, 4)) := by
              show _ = _
              have h0 : D = [] := List.length_eq_zero_iff.1 (by have := HDL.out; omega)
              rw [HP.out]; unfold body; rw [if_pos (by omega), ← HD.out, h0, if_neg (by decide)]; rfl
            clear HV2 HDR HD HDL k8 hnum
            go_wp2_with fail
            all_goals
              refine (rread_any _ _ [] (by simp) (by simp) _ (.inl rfl)).mono ?_
              rintro e w1 ⟨he, rfl⟩
              have h4 : rd [] = (0, 0, 4) := by decide
              rw [h4] at he
              simp only [Rd3] at he
              subst he
              go_wp2
              refine bodyPost_ret (v := .tuple #[.agg #[.int .i64 0, .int .i64 0, .int .u64 0, .string ⟨#[]⟩], .int .i64 0, .int .i64 4]) (by simp [results, Try.results8, go_sem]) rfl ⟨?_, (Below.new w _).alloc (by simp) _⟩
              rw [HP.out]
              rfl
          · have hck : ¬ c = k + 1 := by omega
            clear k8 hnum
            obtain ⟨n, k2, e2, hrd2⟩ : ∃ n k2 e2, rd D = (n, k2, e2) := ⟨_, _, _, rfl⟩
            have HR2 := Lib.hid hrd2
            clear hrd2
            by_cases he2 : e2 = 0
            · have hbd2 := rd_bd D hDb (by rw [HR2.out]; exact he2)
              obtain ⟨m, hm, hrm, -⟩ := rd_ok D (by rw [HR2.out]; exact he2)
              rw [HR2.out] at hbd2 hrm
              simp only [Prod.mk.injEq] at hbd2 hrm
              obtain ⟨-, rfl, -⟩ := hrm
              have hml : m + 1 ≤ L.length - (k + 1) := by have := HDL.out; omega
              have hb2e : (e2 != 0) = false := by simp [he2]
              obtain ⟨q, hq⟩ : ∃ q : Nat, q = k + 1 + (m + 1) := ⟨_, rfl⟩
              have hqq : ((k : Int) + 1 + ((m : Int) + 1)) = (q : Int) := by omega
              by_cases hn : (L.length : Int) - (q : Int) < n
              · have HP : Hid (prd L = (Fld.zero, 0, 4)) := by
                  show _ = _
                  rw [HP.out]; unfold body
                  rw [if_pos (by omega), ← HD.out, HR2.out, if_pos (by exact he2), if_neg (by omega), if_pos (by simp; omega)]
                clear he2 hq
                go_wp2_with fail
                refine (HV2.out _ _ (HDR.out _ ((hr.alloc _).alloc _))).mono ?_
                rintro e w1 ⟨he, rfl⟩
                rw [HR2.out] at he
                simp only [Rd3] at he
                subst he
                go_wp2
                refine bodyPost_ret (v := .tuple #[.agg #[.int .i64 0, .int .i64 0, .int .u64 0, .string ⟨#[]⟩], .int .i64 0, .int .i64 4]) (by simp [results, Try.results8, go_sem]) rfl ⟨?_, (Below.new w _).alloc (by simp) _⟩
                rw [HP.out]
                rfl
              · obtain ⟨nn, rfl⟩ : ∃ nn : Nat, n = nn := ⟨n.toNat, by omega⟩
                have HP : Hid (prd L = (⟨num, 2, 0, (L.drop q).take nn⟩, (q : Int) + (nn : Int), 0)) := by
                  show _ = _
                  rw [HP.out]; unfold body
                  rw [if_pos (by omega), ← HD.out, HR2.out, if_pos (by exact he2), if_neg (by omega), if_neg (by simp; omega)]
                  have h3 : k + 1 + ((m : Int) + 1).toNat = q := by omega
                  simp [hnm, h3, hqq]
                  rw [hq]
                have hsl : ((L.drop q).take nn).length = nn := by simp; omega
                have hsr : ∀ W, Rd W (some ⟨b0, off0, none⟩) (L.map (Value.int .u8)) → Rd W (some ⟨b0, off0 + q, none⟩) (((L.drop q).take nn).map (Value.int .u8)) := by
                  intro W h
                  rw [List.map_take, List.map_drop]; exact (h.drop q).take nn
                have hcv := fun W p c' h => run_convert_rd (P := Try.prog) W 22 5 9 Try.underlying22 Try.underlying5 Try.underlying9 p c' ((L.drop q).take nn) h
                rw [hsl] at hcv
                have HSR := Lib.hid hsr
                have HCV := Lib.hid hcv
                generalize hbs : (L.drop q).take nn = bs at *
                have HBS := Lib.hid hbs
                clear he2 hsl hsr hcv hbs hq
                go_wp2_with fail
                refine (HV2.out _ _ (HDR.out _ ((hr.alloc _).alloc _))).mono ?_
                rintro e w1 ⟨he, rfl⟩
                rw [HR2.out] at he
                simp only [Rd3] at he
                subst he
                by_cases hcq : c = q
                · have hn0 : nn = 0 := by omega
                  subst hn0
                  have hbs0 : bs = [] := by rw [← HBS.out]; rfl
                  have cv := fun c' => HCV.out ((w.alloc (.cells #[.int .i64 0, .int .i64 0, .int .u64 0, .string ⟨#[]⟩] 30)).alloc (.cells #[.int .i64 num, .int .i64 2, .int .u64 0, .string ⟨#[]⟩] 30)) (some ⟨b0, off0, none⟩) c' (by rw [hbs0]; exact .inl rfl)
                  clear hbs0
                  go_wp2
                  refine bodyPost_ret (v := .tuple #[.agg #[.int .i64 num, .int .i64 2, .int .u64 0, .string (strOfNums bs)], .int .i64 ((q : Int) + (0 : Nat)), .int .i64 0]) (by simp [results, Try.results8, go_sem]) rfl ⟨?_, (Below.new w _).alloc (by simp) _⟩
                  rw [HP.out]
                  rfl
                · have cv := fun c' => HCV.out ((w.alloc (.cells #[.int .i64 0, .int .i64 0, .int .u64 0, .string ⟨#[]⟩] 30)).alloc (.cells #[.int .i64 num, .int .i64 2, .int .u64 0, .string ⟨#[]⟩] 30)) (some ⟨b0, off0 + q, none⟩) c' (HSR.out _ ((hr.alloc _).alloc _))
                  go_wp2
                  refine bodyPost_ret (v := .tuple #[.agg #[.int .i64 num, .int .i64 2, .int .u64 0, .string (strOfNums bs)], .int .i64 ((q : Int) + (nn : Nat)), .int .i64 0]) (by simp [results, Try.results8, go_sem]) rfl ⟨?_, (Below.new w _).alloc (by simp) _⟩
                  rw [HP.out]
                  rfl
            · have hb2e : (e2 != 0) = true := by simpa using he2
              have HP : Hid (prd L = (Fld.zero, 0, e2)) := by
                show _ = _
                rw [HP.out]; unfold body; rw [if_pos (by omega), ← HD.out, HR2.out, if_neg (by exact he2)]
              clear he2
              go_wp2_with fail
              refine (HV2.out _ _ (HDR.out _ ((hr.alloc _).alloc _))).mono ?_
              rintro e w1 ⟨he, rfl⟩
              rw [HR2.out] at he
              simp only [Rd3] at he
              subst he
              go_wp2
              refine bodyPost_ret (v := .tuple #[.agg #[.int .i64 0, .int .i64 0, .int .u64 0, .string ⟨#[]⟩], .int .i64 0, .int .i64 e2]) (by simp [results, Try.results8, go_sem]) rfl ⟨?_, (Below.new w _).alloc (by simp) _⟩
              rw [HP.out]
              rfl
        · have KK := Lib.hid k8
          obtain ⟨num, hnum⟩ : ∃ num, num = key / 8 := ⟨_, rfl⟩
          rw [← hnum] at h1 h2
          have hnm : key / 8 = num := hnum.symm
          have hkm : key % 8 = 3 := k8
          have HP : Hid (prd L = (Fld.zero, 0, 14)) := by
            show _ = _
            rw [HP.out]; unfold body; rw [if_neg (by omega), if_neg (by omega), if_neg (by omega)]
          clear k8 hnum
          go_wp2
          refine bodyPost_ret (v := .tuple #[.agg #[.int .i64 0, .int .i64 0, .int .u64 0, .string ⟨#[]⟩], .int .i64 0, .int .i64 14]) (by simp [results, Try.results8, go_sem]) rfl ⟨?_, (Below.new w _).alloc (by simp) _⟩
          rw [HP.out]
          rfl
        · have KK := Lib.hid k8
          obtain ⟨num, hnum⟩ : ∃ num, num = key / 8 := ⟨_, rfl⟩
          rw [← hnum] at h1 h2
          have hnm : key / 8 = num := hnum.symm
          have hkm : key % 8 = 4 := k8
          have HP : Hid (prd L = (Fld.zero, 0, 14)) := by
            show _ = _
            rw [HP.out]; unfold body; rw [if_neg (by omega), if_neg (by omega), if_neg (by omega)]
          clear k8 hnum
          go_wp2
          refine bodyPost_ret (v := .tuple #[.agg #[.int .i64 0, .int .i64 0, .int .u64 0, .string ⟨#[]⟩], .int .i64 0, .int .i64 14]) (by simp [results, Try.results8, go_sem]) rfl ⟨?_, (Below.new w _).alloc (by simp) _⟩
          rw [HP.out]
          rfl
        · have KK := Lib.hid k8
          obtain ⟨num, hnum⟩ : ∃ num, num = key / 8 := ⟨_, rfl⟩
          rw [← hnum] at h1 h2
          have hnm : key / 8 = num := hnum.symm
          have hkm : key % 8 = 5 := k8
          by_cases hn : (L.length : Int) - ((k : Int) + 1) < 4
          · have HP : Hid (prd L = (Fld.zero, 0, 4)) := by
              show _ = _
              rw [HP.out]; unfold body
              rw [if_neg (by omega), if_neg (by omega), if_pos (by omega), if_pos (by omega)]
            clear HD HDL k8 hnum
            go_wp2
            refine bodyPost_ret (v := .tuple #[.agg #[.int .i64 0, .int .i64 0, .int .u64 0, .string ⟨#[]⟩], .int .i64 0, .int .i64 4]) (by simp [results, Try.results8, go_sem]) rfl ⟨?_, (Below.new w _).alloc (by simp) _⟩
            rw [HP.out]
            rfl
          · have HP : Hid (prd L = (⟨num, 5, le ((L.drop (k + 1)).take 4), []⟩, (k : Int) + 1 + 4, 0)) := by
              show _ = _
              rw [HP.out]; unfold body
              rw [if_neg (by omega), if_neg (by omega), if_pos (by omega), if_neg (by omega)]
              simp [hnm]
            obtain ⟨T, hT⟩ : ∃ T, T = (L.drop (k + 1)).take 4 := ⟨_, rfl⟩
            rw [← hT] at HP
            have hTl : T.length = 4 := by rw [hT]; simp; omega
            have hTb : ∀ x ∈ T, 0 ≤ x ∧ x ≤ 255 := by rw [hT]; exact fun x hx => hb x (List.mem_of_mem_drop (List.mem_of_mem_take hx))
            have hTg : ∀ j, j < 4 → T[j]? = L[k + 1 + j]? := by
              intro j hj
              rw [hT, List.getElem?_take, if_pos (by omega), List.getElem?_drop]
            have HTL := Lib.hid hTl
            have HTB := Lib.hid hTb
            have HTG := Lib.hid hTg
            clear hT hTl hTb hTg HD HDL k8 hnum
            have hF := Blk.lit (w.alloc (.cells #[.int .i64 0, .int .i64 0, .int .u64 0, .string ⟨#[]⟩] 30)) (w.heap.size + 1) [.int .i64 num, .int .i64 5, .int .u64 0, .string ⟨#[]⟩] 30 (by simp)
            have hR := (Blk.lit w w.heap.size [.int .i64 0, .int .i64 0, .int .u64 0, .string ⟨#[]⟩] 30 rfl).alloc (.cells #[.int .i64 num, .int .i64 5, .int .u64 0, .string ⟨#[]⟩] 30)
            have hB : Below w.heap.size w ((w.alloc (.cells #[.int .i64 0, .int .i64 0, .int .u64 0, .string ⟨#[]⟩] 30)).alloc (.cells #[.int .i64 num, .int .i64 5, .int .u64 0, .string ⟨#[]⟩] 30)) := (Below.new w _).alloc (by simp) _
            go_wp2
            go_loopw [14] (fun d wr => ∃ j : Nat, j ≤ 4 ∧ d = .int .i64 ((k : Int) + j) ∧ Blk wr (w.heap.size + 1) [.int .i64 num, .int .i64 5, .int .u64 (le (T.drop j)), .string ⟨#[]⟩] ∧
              Blk wr w.heap.size [.int .i64 0, .int .i64 0, .int .u64 0, .string ⟨#[]⟩] ∧ Below w.heap.size w wr) (fun d _ => (intOf d + 1).toNat)
            case atStart =>
              have h0 : T.drop 4 = [] := List.drop_of_length_le (by rw [HTL.out]; exact Nat.le_refl _)
              exact ⟨4, Nat.le_refl _, val_int (by omega), by rw [h0]; exact hF, hR, hB⟩
            case round =>
              obtain ⟨j, hj, rfl, hF1, hR1, hB1⟩ := hrel
              clear hF hR hB
              by_cases hj0 : j ≤ 0
              · obtain rfl : j = 0 := by omega
                rw [List.drop_zero] at hF1
                have d0 := hF1.cell 0 rfl
                have d1 := hF1.cell 1 rfl
                have d2 := hF1.cell 2 rfl
                have d3 := hF1.cell 3 rfl
                have r0 := hR1.cell 0 rfl
                have r1 := hR1.cell 1 rfl
                have r2 := hR1.cell 2 rfl
                have r3 := hR1.cell 3 rfl
                have s0 := hR1.free 0
                have s1 := hR1.free 1
                have s2 := hR1.free 2
                have s3 := hR1.free 3
                go_wp2
                clear d0 d1 d2 d3 r0 r1 r2 r3 s0 s1 s2 s3
                have hR5 := ((((hR1.set 0 (.int .i64 num)).set 1 (.int .i64 5)).set 2 (.int .u64 (le T))).set 3 (.string ⟨#[]⟩))
                have q0 := hR5.cell 0 rfl
                have q1 := hR5.cell 1 rfl
                have q2 := hR5.cell 2 rfl
                have q3 := hR5.cell 3 rfl
                have hB5 := ((((hB1.set_at (b := w.heap.size) (o := 0) (Nat.le_refl _) (.int .i64 num)).set_at (b := w.heap.size) (o := 1) (Nat.le_refl _) (.int .i64 5)).set_at (b := w.heap.size) (o := 2) (Nat.le_refl _) (.int .u64 (le T))).set_at (b := w.heap.size) (o := 3) (Nat.le_refl _) (.string ⟨#[]⟩))
                clear hR5 hR1 hF1 hB1
                generalize ((((wr.setCell ⟨w.heap.size, 0, none⟩ (.int .i64 num)).setCell ⟨w.heap.size, 1, none⟩ (.int .i64 5)).setCell ⟨w.heap.size, 2, none⟩ (.int .u64 (le T))).setCell ⟨w.heap.size, 3, none⟩ (.string ⟨#[]⟩)) = w5 at *
                refine bodyPost_ret (v := .tuple #[.agg #[.int .i64 num, .int .i64 5, .int .u64 (le T), .string ⟨#[]⟩], .int .i64 ((k : Int) + 1 + 4), .int .i64 0]) (by simp [results, Try.results8, go_sem, q0, q1, q2, q3]) rfl ⟨?_, hB5⟩
                rw [HP.out]
                rfl
              · obtain ⟨i, rfl⟩ : ∃ i, j = i + 1 := ⟨j - 1, by omega⟩
                have hip : k + 1 + i < L.length := by omega
                have hLe := le_drop T i (by rw [HTL.out]; omega)
                have hTi : T[i]'(by rw [HTL.out]; omega) = L[k + 1 + i] := by
                  have h1 := HTG.out i (by omega)
                  rw [List.getElem?_eq_getElem (by rw [HTL.out]; omega), List.getElem?_eq_getElem hip] at h1
                  exact Option.some.inj h1
                have hbn := le_8 (T.drop (i + 1)) (fun x hx => HTB.out x (List.mem_of_mem_drop hx)) 3 (by rw [List.length_drop, HTL.out]; omega) (by omega)
                simp only [Int.reducePow] at hbn
                rw [hTi] at hLe
                obtain ⟨b1, off1, hao, hcell, _⟩ := (hr.keep hB1).at (i := k + 1 + i) (v := .int .u8 L[k + 1 + i]) (by simp [hip])
                cases hao
                have hx := hb L[k + 1 + i] (by simp)
                have HLE := Lib.hid hLe
                clear hLe hTi
                generalize le (T.drop (i + 1)) = nv at *
                have d2 := hF1.cell 2 rfl
                have f2 := hF1.free 2
                have hi1 : (k : Int) + ((i + 1 : Nat) : Int) = ((k + 1 + i : Nat) : Int) := by omega
                rw [hi1]
                go_wp2
                go_region
                have hF2 := (hF1.set 2 (.int .u64 (256 * nv + L[k + 1 + i]))).drew
                have hR2 := (hR1.set_at (b' := w.heap.size + 1) (o := 2) (by omega) (.int .u64 (256 * nv + L[k + 1 + i]))).drew
                have hB2 := (hB1.set_at (b := w.heap.size + 1) (o := 2) (by omega) (.int .u64 (256 * nv + L[k + 1 + i]))).drew
                go_wp2
                go_roundw
                case rel =>
                  refine ⟨i, by omega, val_int (by omega), ?_, hR2, hB2⟩
                  rw [show le (T.drop i) = 256 * nv + L[k + 1 + i] by rw [HLE.out]; omega]
                  exact hF2
                case measure => simp [intOf] <;> omega
        · have KK := Lib.hid k8
          obtain ⟨num, hnum⟩ : ∃ num, num = key / 8 := ⟨_, rfl⟩
          rw [← hnum] at h1 h2
          have hnm : key / 8 = num := hnum.symm
          have hkm : key % 8 = 6 := k8
          have HP : Hid (prd L = (Fld.zero, 0, 14)) := by
            show _ = _
            rw [HP.out]; unfold body; rw [if_neg (by omega), if_neg (by omega), if_neg (by omega)]
          clear k8 hnum
          go_wp2
          refine bodyPost_ret (v := .tuple #[.agg #[.int .i64 0, .int .i64 0, .int .u64 0, .string ⟨#[]⟩], .int .i64 0, .int .i64 14]) (by simp [results, Try.results8, go_sem]) rfl ⟨?_, (Below.new w _).alloc (by simp) _⟩
          rw [HP.out]
          rfl
        · have KK := Lib.hid k8
          obtain ⟨num, hnum⟩ : ∃ num, num = key / 8 := ⟨_, rfl⟩
          rw [← hnum] at h1 h2
          have hnm : key / 8 = num := hnum.symm
          have hkm : key % 8 = 7 := k8
          have HP : Hid (prd L = (Fld.zero, 0, 14)) := by
            show _ = _
            rw [HP.out]; unfold body; rw [if_neg (by omega), if_neg (by omega), if_neg (by omega)]
          clear k8 hnum
          go_wp2
          refine bodyPost_ret (v := .tuple #[.agg #[.int .i64 0, .int .i64 0, .int .u64 0, .string ⟨#[]⟩], .int .i64 0, .int .i64 14]) (by simp [results, Try.results8, go_sem]) rfl ⟨?_, (Below.new w _).alloc (by simp) _⟩
          rw [HP.out]
          rfl
  · have hb0 : (re != 0) = true := by simpa using h0
    have HP : Hid (prd L = (Fld.zero, 0, re)) := by show _ = _; unfold prd; rw [HRD.out]; simp [h0]
    clear h0
    go_wp2
    refine bodyPost_ret (v := .tuple #[.agg #[.int .i64 0, .int .i64 0, .int .u64 0, .string ⟨#[]⟩], .int .i64 0, .int .i64 re]) (by simp [results, Try.results8, go_sem]) rfl ⟨?_, Below.new w _⟩
    rw [HP.out]
    rfl
end Go.Proofs.Ytoicahfpnnhgpaa

/-
  face.around.
-/
import Derived.Test.YtdginfjlelpkmaaFc
import Derived.Test.YtdginfjlelpkmaaReg
import Derived.Test.YtdginfjlelpkmaaArea
import Derived.Test.YtdginfjlelpkmaaRbes
set_option linter.unusedVariables false
set_option linter.unusedSimpArgs false
set_option maxRecDepth 100000
namespace Go
open Go.RowKit
/-- The place of the exterior about a hole. -/
def arGo (h : List Pt) : Nat → Int → Int → List (List Pt) → Int
  | _, out, _, [] => out
  | i, out, least, r :: l =>
    if areaF r ≤ 0 ∨ h.length < 2 then arGo h (i + 1) out least l
    else if besOk r h[0]! h[1]! = false then -1
    else if 0 < besF r h[0]! h[1]! ∧ (out < 0 ∨ areaF r < least) then arGo h (i + 1) i (areaF r) l
    else arGo h (i + 1) out least l
def arF (rs : List (List Pt)) (h : List Pt) : Int := arGo h 0 (-1) 0 rs
end Go
namespace Go.Proofs.Ytdginfjlelpkmaa
open Go.RowKit

set_option maxHeartbeats 6400000 in
theorem around_any (f : Fc) (hn : f.rs.length ≤ 1000) (hl : ∀ r ∈ f.rs, r.l.length ≤ 1000) (HL : List Pt) (ha : Option Addr) (hc : Nat) (hhl : HL.length ≤ 1000) (w : World) (hok : f.Ok w) (hhr : Rd w ha (pts HL)) :
    Calls Try.prog 34 #[f.val, .slice ha HL.length hc] w fun e w' => e = .returned (.int .i64 (arF f.rings HL)) ∧ Below w.heap.size w w' := by
  have HLL := Lib.hid hl
  have HOK := Lib.hid hok
  have HHR := Lib.hid hhr
  have HT : Hid (arF f.rings HL = arGo HL 0 (-1) 0 (f.rs.map PC.l)) := Lib.hid rfl
  generalize arF f.rings HL = TT at *
  obtain ⟨rs, ra, rc, ls, aa, ac⟩ := f
  have hrc := hok.1.2
  dsimp only [Fc.val, Fc.rval, Fc.aval] at HT HLL hn hrc ⊢
  obtain ⟨N, hN⟩ : ∃ N, rs.length = N := ⟨_, rfl⟩
  have HN := Lib.hid hN
  rw [hN] at hn hrc ⊢
  obtain ⟨HN2, hH2⟩ : ∃ N, HL.length = N := ⟨_, rfl⟩
  have HHN := Lib.hid hH2
  rw [hH2] at hhl ⊢
  clear hN hl hok hhr hH2
  have hHS := Below.new w (.cells #[.slice ra N rc, .slice aa ls.length ac] 49)
  go_enter Try.func34, Try.ntmps34
  go_wp2
  generalize w.alloc (.cells #[.slice ra N rc, .slice aa ls.length ac] 49) = wS at *
  go_loopw [5, 6, 15] (fun o m i wr => ∃ (k : Nat) (x y : Int), k ≤ N ∧ i = .int .i64 k ∧ o = .int .i64 x ∧ m = .int .i64 y ∧ Hid (TT = arGo HL k x y ((rs.drop k).map PC.l)) ∧ Below w.heap.size w wr) (fun _ _ i _ => N - (intOf i).toNat)
  case atStart => exact ⟨0, -1, 0, by omega, rfl, rfl, rfl, HT, hHS⟩
  case round =>
    obtain ⟨k, x, y, hk, rfl, rfl, rfl, HZ, hbl⟩ := hrel
    by_cases h1 : k < N
    · have h1' : (k : Int) < (N : Int) := by omega
      have hkl : k < rs.length := by rw [HN.out]; exact h1
      obtain ⟨b2, o2, rfl, hb2, d0⟩ := (HOK.out.1.1.keep hbl).rc k hkl
      have HRO := Lib.hid (HOK.out.2.1 _ (List.getElem_mem hkl))
      have hL := HLL.out rs[k] (List.getElem_mem hkl)
      have HD : Hid (rs.drop k = rs[k] :: rs.drop (k + 1)) := Lib.hid (List.drop_eq_getElem_cons hkl)
      generalize rs[k] = R at *
      obtain ⟨LL, Rp, Rc⟩ := R
      dsimp only [PC.val] at d0 hL
      have HZ2 : Hid (TT = if areaF LL ≤ 0 ∨ HN2 < 2 then arGo HL (k + 1) x y ((rs.drop (k + 1)).map PC.l) else if besOk LL HL[0]! HL[1]! = false then -1 else if 0 < besF LL HL[0]! HL[1]! ∧ (x < 0 ∨ areaF LL < y) then arGo HL (k + 1) k (areaF LL) ((rs.drop (k + 1)).map PC.l) else arGo HL (k + 1) x y ((rs.drop (k + 1)).map PC.l)) := Lib.hid (by
        rw [HZ.out, HD.out, ← HHN.out]; rfl)
      have HAC := Lib.hid (fun W h => rarea_any Rp Rc LL hL W h)
      have HBB := Lib.hid (fun a b W h => bes_any Rp Rc LL hL a b W h)
      obtain ⟨AR, hAR⟩ : ∃ z, areaF LL = z := ⟨_, rfl⟩
      rw [hAR] at HZ2 HAC
      clear hAR HZ
      go_wp2_with fail
      refine (HAC.out _ (HRO.out.1.keep hbl)).mono ?_
      rintro e w2 ⟨rfl, hx2⟩
      have hb2 := hbl.trans (hx2.mono hbl.size)
      by_cases q1 : AR ≤ 0
      · have HZ3 : Hid (TT = arGo HL (k + 1) x y ((rs.drop (k + 1)).map PC.l)) := Lib.hid (by rw [HZ2.out, if_pos (.inl q1)])
        go_wp2
        exact ⟨⟨k + 1, x, y, by omega, by go_num, rfl, rfl, HZ3, hb2⟩, by simp [intOf]; omega⟩
      · by_cases q2 : HN2 < 2
        · have q2' : (HN2 : Int) < 2 := by omega
          have HZ3 : Hid (TT = arGo HL (k + 1) x y ((rs.drop (k + 1)).map PC.l)) := Lib.hid (by rw [HZ2.out, if_pos (.inr q2)])
          go_wp2
          exact ⟨⟨k + 1, x, y, by omega, by go_num, rfl, rfl, HZ3, hb2⟩, by simp [intOf]; omega⟩
        · have q2' : ¬ (HN2 : Int) < 2 := by omega
          have hh0 : 0 < HL.length := by rw [HHN.out]; omega
          have hh1 : 1 < HL.length := by rw [HHN.out]; omega
          rw [if_neg (by intro h; rcases h with h | h <;> omega)] at HZ2
          rw [getElem!_pos HL 0 hh0, getElem!_pos HL 1 hh1] at HZ2
          obtain ⟨hb, ho, rfl, hhb, p0, p1⟩ := HHR.out.pt 0 hh0
          obtain ⟨hb', ho', e, hhb', q0, q3⟩ := HHR.out.pt 1 hh1
          cases e
          generalize HL[0] = P0 at *
          generalize HL[1] = P1 at *
          obtain ⟨x1, y1⟩ := P0
          obtain ⟨x2, y2⟩ := P1
          have HBC := Lib.hid (fun W h => HBB.out ⟨x1, y1⟩ ⟨x2, y2⟩ W h)
          obtain ⟨BO, hBO⟩ : ∃ z, besOk LL ⟨x1, y1⟩ ⟨x2, y2⟩ = z := ⟨_, rfl⟩
          obtain ⟨BF, hBF⟩ : ∃ z, besF LL ⟨x1, y1⟩ ⟨x2, y2⟩ = z := ⟨_, rfl⟩
          rw [hBO, hBF] at HZ2 HBC
          clear hBO hBF HBB
          have HRO2 : Hid (Rd w2.drew Rp (pts LL)) := Lib.hid (HRO.out.1.keep hb2.drew)
          dsimp only [Pt.val] at p0 p1 q0 q3 HBC
          have h2a : (0 : Int) < (HN2 : Int) := by omega
          have n2a : 0 < HN2 := by omega
          have n2b : 1 < HN2 := by omega
          have h2b : (1 : Int) < (HN2 : Int) := by omega
          go_wp2
          refine wp_region_lit_txt [0, 1, 2, 3, 4, 5, 6, 8, 9, 10, 11, 12] (fun W => Below w.heap.size w W) (by kernel_rfl) (by kernel_rfl) (by kernel_rfl) (hb2.drew) ?_
          (refine txt_light ?_ rfl rfl ?_ ?_; rotate_left; · (intro w' hS; (try dsimp only at hS); go_simp; with_reducible rfl)); try simp only [Act.put, List.getElem_toArray, List.getElem_cons_succ, List.getElem_cons_zero, List.setIfInBounds_toArray, List.set_cons_zero, List.set_cons_succ]
          (refine txt_light ?_ rfl rfl ?_ ?_; rotate_left; · (intro w' hS; (try dsimp only at hS); go_simp; with_reducible rfl)); try simp only [Act.put, List.getElem_toArray, List.getElem_cons_succ, List.getElem_cons_zero, List.setIfInBounds_toArray, List.set_cons_zero, List.set_cons_succ]
          (refine txt_light ?_ rfl rfl ?_ ?_; rotate_left; · (intro w' hS; (try dsimp only at hS); go_simp; with_reducible rfl)); try simp only [Act.put, List.getElem_toArray, List.getElem_cons_succ, List.getElem_cons_zero, List.setIfInBounds_toArray, List.set_cons_zero, List.set_cons_succ]
          refine txt_light (.agg #[.int .i64 x1, .int .i64 y1]) rfl rfl ?_ ?_
          · intro w' hS
            have e0 := (hS.cell (p := ⟨hb, ho + 0 * 2, none⟩) hhb).trans p0
            have e1 := (hS.cell (p := ⟨hb, ho + 0 * 2 + 1, none⟩) hhb).trans p1
            simp only [Nat.zero_mul, Nat.add_zero] at e0 e1
            go_simp
          try simp only [Act.put, List.getElem_toArray, List.getElem_cons_succ, List.getElem_cons_zero, List.setIfInBounds_toArray, List.set_cons_zero, List.set_cons_succ]
          (refine txt_light ?_ rfl rfl ?_ ?_; rotate_left; · (intro w' hS; (try dsimp only at hS); go_simp; with_reducible rfl)); try simp only [Act.put, List.getElem_toArray, List.getElem_cons_succ, List.getElem_cons_zero, List.setIfInBounds_toArray, List.set_cons_zero, List.set_cons_succ]
          (refine txt_light ?_ rfl rfl ?_ ?_; rotate_left; · (intro w' hS; (try dsimp only at hS); go_simp; with_reducible rfl)); try simp only [Act.put, List.getElem_toArray, List.getElem_cons_succ, List.getElem_cons_zero, List.setIfInBounds_toArray, List.set_cons_zero, List.set_cons_succ]
          refine txt_light (.agg #[.int .i64 x2, .int .i64 y2]) rfl rfl ?_ ?_
          · intro w' hS
            have e0 := (hS.cell (p := ⟨hb, ho + 1 * 2, none⟩) hhb).trans q0
            have e1 := (hS.cell (p := ⟨hb, ho + 1 * 2 + 1, none⟩) hhb).trans q3
            simp only [Nat.one_mul] at e0 e1
            go_simp
          try simp only [Act.put, List.getElem_toArray, List.getElem_cons_succ, List.getElem_cons_zero, List.setIfInBounds_toArray, List.set_cons_zero, List.set_cons_succ]
          have hbd : Below w.heap.size w w2.drew := hb2.drew
          refine txt_call [.slice Rp LL.length Rc, .agg #[.int .i64 x1, .int .i64 y1], .agg #[.int .i64 x2, .int .i64 y2]] Try.f54 rfl rfl Try.func54 (by kernel_rfl) (by kernel_rfl) rfl ((HBC.out w2.drew (HRO2.out)).mono ?_)
          rintro e w3 ⟨rfl, hb3⟩
          have hb4 := hbd.trans (hb3.mono hbd.size)
          refine ⟨_, rfl, hb4, ?_⟩
          try simp only [Act.put, List.getElem_toArray, List.getElem_cons_succ, List.getElem_cons_zero, List.setIfInBounds_toArray, List.set_cons_zero, List.set_cons_succ]
          (refine txt_light ?_ rfl rfl ?_ ?_; rotate_left; · (intro w' hS; (try dsimp only at hS); go_simp; with_reducible rfl)); try simp only [Act.put, List.getElem_toArray, List.getElem_cons_succ, List.getElem_cons_zero, List.setIfInBounds_toArray, List.set_cons_zero, List.set_cons_succ]
          (refine txt_light ?_ rfl rfl ?_ ?_; rotate_left; · (intro w' hS; (try dsimp only at hS); go_simp; with_reducible rfl)); try simp only [Act.put, List.getElem_toArray, List.getElem_cons_succ, List.getElem_cons_zero, List.setIfInBounds_toArray, List.set_cons_zero, List.set_cons_succ]
          (refine txt_light ?_ rfl rfl ?_ ?_; rotate_left; · (intro w' hS; (try dsimp only at hS); go_simp; with_reducible rfl)); try simp only [Act.put, List.getElem_toArray, List.getElem_cons_succ, List.getElem_cons_zero, List.setIfInBounds_toArray, List.set_cons_zero, List.set_cons_succ]
          (refine txt_light ?_ rfl rfl ?_ ?_; rotate_left; · (intro w' hS; (try dsimp only at hS); go_simp; with_reducible rfl)); try simp only [Act.put, List.getElem_toArray, List.getElem_cons_succ, List.getElem_cons_zero, List.setIfInBounds_toArray, List.set_cons_zero, List.set_cons_succ]
          (refine txt_light ?_ rfl rfl ?_ ?_; rotate_left; · (intro w' hS; (try dsimp only at hS); go_simp; with_reducible rfl)); try simp only [Act.put, List.getElem_toArray, List.getElem_cons_succ, List.getElem_cons_zero, List.setIfInBounds_toArray, List.set_cons_zero, List.set_cons_succ]
          refine txt_nil ?_
          clear hbd
          cases BO with
          | false =>
            have HZ3 : Hid (TT = -1) := Lib.hid (by rw [HZ2.out]; rfl)
            go_wp2
            go_ret
            exact ⟨ret_int HZ3.out.symm, hb4⟩
          | true =>
            replace HZ2 : Hid (TT = if 0 < BF ∧ (x < 0 ∨ AR < y) then arGo HL (k + 1) k AR ((rs.drop (k + 1)).map PC.l) else arGo HL (k + 1) x y ((rs.drop (k + 1)).map PC.l)) := Lib.hid (by rw [HZ2.out]; rfl)
            by_cases g1 : 0 < BF
            · by_cases g2 : x < 0
              · have HZ3 : Hid (TT = arGo HL (k + 1) k AR ((rs.drop (k + 1)).map PC.l)) := Lib.hid (by rw [HZ2.out, if_pos ⟨g1, .inl g2⟩])
                go_wp2
                exact ⟨⟨k + 1, k, AR, by omega, by go_num, rfl, rfl, HZ3, hb4⟩, by simp [intOf]; omega⟩
              · by_cases g3 : AR < y
                · have HZ3 : Hid (TT = arGo HL (k + 1) k AR ((rs.drop (k + 1)).map PC.l)) := Lib.hid (by rw [HZ2.out, if_pos ⟨g1, .inr g3⟩])
                  go_wp2
                  exact ⟨⟨k + 1, k, AR, by omega, by go_num, rfl, rfl, HZ3, hb4⟩, by simp [intOf]; omega⟩
                · have HZ3 : Hid (TT = arGo HL (k + 1) x y ((rs.drop (k + 1)).map PC.l)) := Lib.hid (by rw [HZ2.out, if_neg (by intro h; rcases h.2 with h | h <;> omega)])
                  go_wp2
                  exact ⟨⟨k + 1, x, y, by omega, by go_num, rfl, rfl, HZ3, hb4⟩, by simp [intOf]; omega⟩
            · have HZ3 : Hid (TT = arGo HL (k + 1) x y ((rs.drop (k + 1)).map PC.l)) := Lib.hid (by rw [HZ2.out, if_neg (fun h => g1 h.1)])
              go_wp2
              exact ⟨⟨k + 1, x, y, by omega, by go_num, rfl, rfl, HZ3, hb4⟩, by simp [intOf]; omega⟩
    · have h1' : ¬ (k : Int) < (N : Int) := by omega
      have hd : rs.drop k = [] := List.drop_of_length_le (by rw [HN.out]; omega)
      rw [hd] at HZ
      go_wp2
      go_ret
      exact ⟨ret_int HZ.out.symm, hbl⟩
end Go.Proofs.Ytdginfjlelpkmaa

/-
  face.around. face.Nest. face.within; slices.ContainsFunc of points out of the world. face.Count. face.Check, whatever table.Check answers.
-/
import Derived.Test.YtebplobagmjfeaaPk2
import Derived.Test.YtebplobagmjfeaaPk3
import Derived.Test.YtebplobagmjfeaaPk5
import Derived.Test.YtebplobagmjfeaaPk8
/- face.around. -/
set_option linter.unusedVariables false
set_option linter.unusedSimpArgs false
set_option maxRecDepth 100000
namespace Go
open Go.RowKit
/-- The place of the exterior about a hole. -/
def arGo (h : List Pt) : Nat → Int → Int → List (List Pt) → Int
  | _, out, _, [] => out
  | i, out, least, r :: l =>
    if areaF r ≤ 0 ∨ h.length < 2 then arGo h (i + 1) out least l
    else if besOk r h[0]! h[1]! = false then -1
    else if 0 < besF r h[0]! h[1]! ∧ (out < 0 ∨ areaF r < least) then arGo h (i + 1) i (areaF r) l
    else arGo h (i + 1) out least l
def arF (rs : List (List Pt)) (h : List Pt) : Int := arGo h 0 (-1) 0 rs
end Go
namespace Go.Proofs.Ytebplobagmjfeaa
open Go.RowKit

set_option maxHeartbeats 6400000 in
theorem around_any (f : Fc) (hn : f.rs.length ≤ 1000) (hl : ∀ r ∈ f.rs, r.l.length ≤ 1000) (HL : List Pt) (ha : Option Addr) (hc : Nat) (hhl : HL.length ≤ 1000) (w : World) (hok : f.Ok w) (hhr : Rd w ha (pts HL)) :
    Calls Try.prog 36 #[f.val, .slice ha HL.length hc] w fun e w' => e = .returned (.int .i64 (arF f.rings HL)) ∧ Below w.heap.size w w' := by
  have HLL := Lib.hid hl
  have HOK := Lib.hid hok
  have HHR := Lib.hid hhr
  have HT : Hid (arF f.rings HL = arGo HL 0 (-1) 0 (f.rs.map PC.l)) := Lib.hid rfl
  generalize arF f.rings HL = TT at *
  obtain ⟨rs, ra, rc, ls, aa, ac⟩ := f
  have hrc := hok.1.2
  dsimp only [Fc.val, Fc.rval, Fc.aval] at HT HLL hn hrc ⊢
  obtain ⟨N, hN⟩ : ∃ N, rs.length = N := ⟨_, rfl⟩
  have HN := Lib.hid hN
  rw [hN] at hn hrc ⊢
  obtain ⟨HN2, hH2⟩ : ∃ N, HL.length = N := ⟨_, rfl⟩
  have HHN := Lib.hid hH2
  rw [hH2] at hhl ⊢
  clear hN hl hok hhr hH2
  have hHS := Below.new w (.cells #[.slice ra N rc, .slice aa ls.length ac] 49)
  go_enter Try.func36, Try.ntmps36
  go_wp2
  generalize w.alloc (.cells #[.slice ra N rc, .slice aa ls.length ac] 49) = wS at *
  go_loopw [5, 6, 15] (fun o m i wr => ∃ (k : Nat) (x y : Int), k ≤ N ∧ i = .int .i64 k ∧ o = .int .i64 x ∧ m = .int .i64 y ∧ Hid (TT = arGo HL k x y ((rs.drop k).map PC.l)) ∧ Below w.heap.size w wr) (fun _ _ i _ => N - (intOf i).toNat)
  case atStart => exact ⟨0, -1, 0, by omega, rfl, rfl, rfl, HT, hHS⟩
  case round =>
    obtain ⟨k, x, y, hk, rfl, rfl, rfl, HZ, hbl⟩ := hrel
    by_cases h1 : k < N
    · have h1' : (k : Int) < (N : Int) := by omega
      have hkl : k < rs.length := by rw [HN.out]; exact h1
      obtain ⟨b2, o2, rfl, hb2, d0⟩ := (HOK.out.1.1.keep hbl).rc k hkl
      have HRO := Lib.hid (HOK.out.2.1 _ (List.getElem_mem hkl))
      have hL := HLL.out rs[k] (List.getElem_mem hkl)
      have HD : Hid (rs.drop k = rs[k] :: rs.drop (k + 1)) := Lib.hid (List.drop_eq_getElem_cons hkl)
      generalize rs[k] = R at *
      obtain ⟨LL, Rp, Rc⟩ := R
      dsimp only [PC.val] at d0 hL
      have HZ2 : Hid (TT = if areaF LL ≤ 0 ∨ HN2 < 2 then arGo HL (k + 1) x y ((rs.drop (k + 1)).map PC.l) else if besOk LL HL[0]! HL[1]! = false then -1 else if 0 < besF LL HL[0]! HL[1]! ∧ (x < 0 ∨ areaF LL < y) then arGo HL (k + 1) k (areaF LL) ((rs.drop (k + 1)).map PC.l) else arGo HL (k + 1) x y ((rs.drop (k + 1)).map PC.l)) := Lib.hid (by
        rw [HZ.out, HD.out, ← HHN.out]; rfl)
      have HAC := Lib.hid (fun W h => rarea_any Rp Rc LL hL W h)
      have HBB := Lib.hid (fun a b W h => bes_any Rp Rc LL hL a b W h)
      obtain ⟨AR, hAR⟩ : ∃ z, areaF LL = z := ⟨_, rfl⟩
      rw [hAR] at HZ2 HAC
      clear hAR HZ
      go_wp2_with fail
      refine (HAC.out _ (HRO.out.1.keep hbl)).mono ?_
      rintro e w2 ⟨rfl, hx2⟩
      have hb2 := hbl.trans (hx2.mono hbl.size)
      by_cases q1 : AR ≤ 0
      · have HZ3 : Hid (TT = arGo HL (k + 1) x y ((rs.drop (k + 1)).map PC.l)) := Lib.hid (by rw [HZ2.out, if_pos (.inl q1)])
        go_wp2
        exact ⟨⟨k + 1, x, y, by omega, by go_num, rfl, rfl, HZ3, hb2⟩, by simp [intOf]; omega⟩
      · by_cases q2 : HN2 < 2
        · have q2' : (HN2 : Int) < 2 := by omega
          have HZ3 : Hid (TT = arGo HL (k + 1) x y ((rs.drop (k + 1)).map PC.l)) := Lib.hid (by rw [HZ2.out, if_pos (.inr q2)])
          go_wp2
          exact ⟨⟨k + 1, x, y, by omega, by go_num, rfl, rfl, HZ3, hb2⟩, by simp [intOf]; omega⟩
        · have q2' : ¬ (HN2 : Int) < 2 := by omega
          have hh0 : 0 < HL.length := by rw [HHN.out]; omega
          have hh1 : 1 < HL.length := by rw [HHN.out]; omega
          rw [if_neg (by intro h; rcases h with h | h <;> omega)] at HZ2
          rw [getElem!_pos HL 0 hh0, getElem!_pos HL 1 hh1] at HZ2
          obtain ⟨hb, ho, rfl, hhb, p0, p1⟩ := HHR.out.pt 0 hh0
          obtain ⟨hb', ho', e, hhb', q0, q3⟩ := HHR.out.pt 1 hh1
          cases e
          generalize HL[0] = P0 at *
          generalize HL[1] = P1 at *
          obtain ⟨x1, y1⟩ := P0
          obtain ⟨x2, y2⟩ := P1
          have HBC := Lib.hid (fun W h => HBB.out ⟨x1, y1⟩ ⟨x2, y2⟩ W h)
          obtain ⟨BO, hBO⟩ : ∃ z, besOk LL ⟨x1, y1⟩ ⟨x2, y2⟩ = z := ⟨_, rfl⟩
          obtain ⟨BF, hBF⟩ : ∃ z, besF LL ⟨x1, y1⟩ ⟨x2, y2⟩ = z := ⟨_, rfl⟩
          rw [hBO, hBF] at HZ2 HBC
          clear hBO hBF HBB
          have HRO2 : Hid (Rd w2.drew Rp (pts LL)) := Lib.hid (HRO.out.1.keep hb2.drew)
          dsimp only [Pt.val] at p0 p1 q0 q3 HBC
          have h2a : (0 : Int) < (HN2 : Int) := by omega
          have n2a : 0 < HN2 := by omega
          have n2b : 1 < HN2 := by omega
          have h2b : (1 : Int) < (HN2 : Int) := by omega
          go_wp2
          refine wp_region_lit_txt [0, 1, 2, 3, 4, 5, 6, 8, 9, 10, 11, 12] (fun W => Below w.heap.size w W) (by kernel_rfl) (by kernel_rfl) (by kernel_rfl) (hb2.drew) ?_
          (refine txt_light ?_ rfl rfl ?_ ?_; rotate_left; · (intro w' hS; (try dsimp only at hS); go_simp; with_reducible rfl)); try simp only [Act.put, List.getElem_toArray, List.getElem_cons_succ, List.getElem_cons_zero, List.setIfInBounds_toArray, List.set_cons_zero, List.set_cons_succ]
          (refine txt_light ?_ rfl rfl ?_ ?_; rotate_left; · (intro w' hS; (try dsimp only at hS); go_simp; with_reducible rfl)); try simp only [Act.put, List.getElem_toArray, List.getElem_cons_succ, List.getElem_cons_zero, List.setIfInBounds_toArray, List.set_cons_zero, List.set_cons_succ]
          (refine txt_light ?_ rfl rfl ?_ ?_; rotate_left; · (intro w' hS; (try dsimp only at hS); go_simp; with_reducible rfl)); try simp only [Act.put, List.getElem_toArray, List.getElem_cons_succ, List.getElem_cons_zero, List.setIfInBounds_toArray, List.set_cons_zero, List.set_cons_succ]
          refine txt_light (.agg #[.int .i64 x1, .int .i64 y1]) rfl rfl ?_ ?_
          · intro w' hS
            have e0 := (hS.cell (p := ⟨hb, ho + 0 * 2, none⟩) hhb).trans p0
            have e1 := (hS.cell (p := ⟨hb, ho + 0 * 2 + 1, none⟩) hhb).trans p1
            simp only [Nat.zero_mul, Nat.add_zero] at e0 e1
            go_simp
          try simp only [Act.put, List.getElem_toArray, List.getElem_cons_succ, List.getElem_cons_zero, List.setIfInBounds_toArray, List.set_cons_zero, List.set_cons_succ]
          (refine txt_light ?_ rfl rfl ?_ ?_; rotate_left; · (intro w' hS; (try dsimp only at hS); go_simp; with_reducible rfl)); try simp only [Act.put, List.getElem_toArray, List.getElem_cons_succ, List.getElem_cons_zero, List.setIfInBounds_toArray, List.set_cons_zero, List.set_cons_succ]
          (refine txt_light ?_ rfl rfl ?_ ?_; rotate_left; · (intro w' hS; (try dsimp only at hS); go_simp; with_reducible rfl)); try simp only [Act.put, List.getElem_toArray, List.getElem_cons_succ, List.getElem_cons_zero, List.setIfInBounds_toArray, List.set_cons_zero, List.set_cons_succ]
          refine txt_light (.agg #[.int .i64 x2, .int .i64 y2]) rfl rfl ?_ ?_
          · intro w' hS
            have e0 := (hS.cell (p := ⟨hb, ho + 1 * 2, none⟩) hhb).trans q0
            have e1 := (hS.cell (p := ⟨hb, ho + 1 * 2 + 1, none⟩) hhb).trans q3
            simp only [Nat.one_mul] at e0 e1
            go_simp
          try simp only [Act.put, List.getElem_toArray, List.getElem_cons_succ, List.getElem_cons_zero, List.setIfInBounds_toArray, List.set_cons_zero, List.set_cons_succ]
          have hbd : Below w.heap.size w w2.drew := hb2.drew
          refine txt_call [.slice Rp LL.length Rc, .agg #[.int .i64 x1, .int .i64 y1], .agg #[.int .i64 x2, .int .i64 y2]] Try.f58 rfl rfl Try.func58 (by kernel_rfl) (by kernel_rfl) rfl ((HBC.out w2.drew (HRO2.out)).mono ?_)
          rintro e w3 ⟨rfl, hb3⟩
          have hb4 := hbd.trans (hb3.mono hbd.size)
          refine ⟨_, rfl, hb4, ?_⟩
          try simp only [Act.put, List.getElem_toArray, List.getElem_cons_succ, List.getElem_cons_zero, List.setIfInBounds_toArray, List.set_cons_zero, List.set_cons_succ]
          (refine txt_light ?_ rfl rfl ?_ ?_; rotate_left; · (intro w' hS; (try dsimp only at hS); go_simp; with_reducible rfl)); try simp only [Act.put, List.getElem_toArray, List.getElem_cons_succ, List.getElem_cons_zero, List.setIfInBounds_toArray, List.set_cons_zero, List.set_cons_succ]
          (refine txt_light ?_ rfl rfl ?_ ?_; rotate_left; · (intro w' hS; (try dsimp only at hS); go_simp; with_reducible rfl)); try simp only [Act.put, List.getElem_toArray, List.getElem_cons_succ, List.getElem_cons_zero, List.setIfInBounds_toArray, List.set_cons_zero, List.set_cons_succ]
          (refine txt_light ?_ rfl rfl ?_ ?_; rotate_left; · (intro w' hS; (try dsimp only at hS); go_simp; with_reducible rfl)); try simp only [Act.put, List.getElem_toArray, List.getElem_cons_succ, List.getElem_cons_zero, List.setIfInBounds_toArray, List.set_cons_zero, List.set_cons_succ]
          (refine txt_light ?_ rfl rfl ?_ ?_; rotate_left; · (intro w' hS; (try dsimp only at hS); go_simp; with_reducible rfl)); try simp only [Act.put, List.getElem_toArray, List.getElem_cons_succ, List.getElem_cons_zero, List.setIfInBounds_toArray, List.set_cons_zero, List.set_cons_succ]
          (refine txt_light ?_ rfl rfl ?_ ?_; rotate_left; · (intro w' hS; (try dsimp only at hS); go_simp; with_reducible rfl)); try simp only [Act.put, List.getElem_toArray, List.getElem_cons_succ, List.getElem_cons_zero, List.setIfInBounds_toArray, List.set_cons_zero, List.set_cons_succ]
          refine txt_nil ?_
          clear hbd
          cases BO with
          | false =>
            have HZ3 : Hid (TT = -1) := Lib.hid (by rw [HZ2.out]; rfl)
            go_wp2
            go_ret
            exact ⟨ret_int HZ3.out.symm, hb4⟩
          | true =>
            replace HZ2 : Hid (TT = if 0 < BF ∧ (x < 0 ∨ AR < y) then arGo HL (k + 1) k AR ((rs.drop (k + 1)).map PC.l) else arGo HL (k + 1) x y ((rs.drop (k + 1)).map PC.l)) := Lib.hid (by rw [HZ2.out]; rfl)
            by_cases g1 : 0 < BF
            · by_cases g2 : x < 0
              · have HZ3 : Hid (TT = arGo HL (k + 1) k AR ((rs.drop (k + 1)).map PC.l)) := Lib.hid (by rw [HZ2.out, if_pos ⟨g1, .inl g2⟩])
                go_wp2
                exact ⟨⟨k + 1, k, AR, by omega, by go_num, rfl, rfl, HZ3, hb4⟩, by simp [intOf]; omega⟩
              · by_cases g3 : AR < y
                · have HZ3 : Hid (TT = arGo HL (k + 1) k AR ((rs.drop (k + 1)).map PC.l)) := Lib.hid (by rw [HZ2.out, if_pos ⟨g1, .inr g3⟩])
                  go_wp2
                  exact ⟨⟨k + 1, k, AR, by omega, by go_num, rfl, rfl, HZ3, hb4⟩, by simp [intOf]; omega⟩
                · have HZ3 : Hid (TT = arGo HL (k + 1) x y ((rs.drop (k + 1)).map PC.l)) := Lib.hid (by rw [HZ2.out, if_neg (by intro h; rcases h.2 with h | h <;> omega)])
                  go_wp2
                  exact ⟨⟨k + 1, x, y, by omega, by go_num, rfl, rfl, HZ3, hb4⟩, by simp [intOf]; omega⟩
            · have HZ3 : Hid (TT = arGo HL (k + 1) x y ((rs.drop (k + 1)).map PC.l)) := Lib.hid (by rw [HZ2.out, if_neg (fun h => g1 h.1)])
              go_wp2
              exact ⟨⟨k + 1, x, y, by omega, by go_num, rfl, rfl, HZ3, hb4⟩, by simp [intOf]; omega⟩
    · have h1' : ¬ (k : Int) < (N : Int) := by omega
      have hd : rs.drop k = [] := List.drop_of_length_le (by rw [HN.out]; omega)
      rw [hd] at HZ
      go_wp2
      go_ret
      exact ⟨ret_int HZ.out.symm, hbl⟩
end Go.Proofs.Ytebplobagmjfeaa
/- face.Nest. -/
set_option linter.unusedVariables false
set_option linter.unusedSimpArgs false
set_option maxRecDepth 100000
namespace Go
open Go.RowKit
/-- The exteriors about holes. -/
def nestGo (rs : List (List Pt)) (acc : List Int) : List (List Pt) → List Int × Bool
  | [] => (acc, true)
  | r :: l =>
    if areaF r = 0 then ([], false)
    else if areaF r < 0 then (if arF rs r < 0 then ([], false) else nestGo rs (acc ++ [arF rs r]) l)
    else nestGo rs (acc ++ [-1]) l
def nestF (rs : List (List Pt)) : List Int × Bool := nestGo rs [] rs
end Go
namespace Go.Proofs.Ytebplobagmjfeaa
open Go.RowKit
theorem Try.infoNI : (Try.prog.info? 3).map (fun i => (i.zero, i.size, i.bytes)) = some (some (.int .i64 0), 1, 8) := by kernel_rfl

set_option maxHeartbeats 6400000 in
theorem nest_any (f : Fc) (hn : f.rs.length ≤ 1000) (hl : ∀ r ∈ f.rs, r.l.length ≤ 1000) (w : World) (hok : f.Ok w) :
    Calls Try.prog 18 #[f.val] w fun e w' => ∃ v, e = .returned (.tuple #[v, .bool (nestF f.rings).2]) ∧ w'.ownsRow w.heap.size 3 1 v (nestF f.rings).1.length ((nestF f.rings).1.map (Value.int .i64)) ∧ Below w.heap.size w w' := by
  have HLL := Lib.hid hl
  have HOK := Lib.hid hok
  have HAR := Lib.hid (fun (r : PC) (hr : r ∈ f.rs) (W : World) (h1 : f.Ok W) (h2 : Rd W r.p (pts r.l)) => around_any f hn hl r.l r.p r.c (hl r hr) W h1 h2)
  have HRG : Hid (f.rings = f.rs.map PC.l) := Lib.hid rfl
  have HT : Hid (nestF f.rings = nestGo f.rings [] (f.rs.map PC.l)) := Lib.hid rfl
  generalize nestF f.rings = TT at *
  generalize f.rings = RS at *
  obtain ⟨rs, ra, rc, ls, aa, ac⟩ := f
  have hrc := hok.1.2
  dsimp only [Fc.val, Fc.rval, Fc.aval] at HT HLL hn hrc HAR ⊢
  obtain ⟨N, hN⟩ : ∃ N, rs.length = N := ⟨_, rfl⟩
  have HN := Lib.hid hN
  rw [hN] at hn hrc HAR ⊢
  clear hN hl hok
  have hHS := Below.new w (.cells #[.slice ra N rc, .slice aa ls.length ac] 49)
  have kF : Blk (w.alloc (.cells #[.slice ra N rc, .slice aa ls.length ac] 49)) w.heap.size [.slice ra N rc, .slice aa ls.length ac] := Blk.new w [.slice ra N rc, .slice aa ls.length ac] 49
  have hsz : (w.alloc (.cells #[.slice ra N rc, .slice aa ls.length ac] 49)).heap.size = w.heap.size + 1 := by simp
  go_enter Try.func18, Try.ntmps18
  go_wp2
  generalize w.alloc (.cells #[.slice ra N rc, .slice aa ls.length ac] 49) = wS at *
  go_loopw [4, 12] (fun o i wr => ∃ (k : Nat) (acc : List Int), k ≤ N ∧ i = .int .i64 k ∧ acc.length = k ∧ wr.ownsRow wS.heap.size 3 1 o k (acc.map (Value.int .i64)) ∧ Hid (TT = nestGo RS acc ((rs.drop k).map PC.l)) ∧ Below wS.heap.size wS wr) (fun _ i _ => N - (intOf i).toNat)
  case atStart => exact ⟨0, [], by omega, rfl, rfl, World.ownsRow_nil _ _ _ _, HT, Below.refl _ _⟩
  case round =>
    obtain ⟨k, acc, hk, rfl, hal, ho, HZ, hbl⟩ := hrel
    have hbw := hHS.trans (hbl.mono (by omega))
    by_cases h1 : k < N
    · have h1' : (k : Int) < (N : Int) := by omega
      have hkl : k < rs.length := by rw [HN.out]; exact h1
      obtain ⟨b2, o2, rfl, hb2, d0⟩ := (HOK.out.1.1.keep hbw).rc k hkl
      have HRO := Lib.hid (HOK.out.2.1 _ (List.getElem_mem hkl))
      have hL := HLL.out rs[k] (List.getElem_mem hkl)
      have HRC := Lib.hid (fun W h1 h2 => HAR.out (rs[k]'hkl) (List.getElem_mem hkl) W h1 h2)
      have HD : Hid (rs.drop k = rs[k] :: rs.drop (k + 1)) := Lib.hid (List.drop_eq_getElem_cons hkl)
      generalize rs[k] = R at *
      obtain ⟨LL, Rp, Rc⟩ := R
      dsimp only [PC.val] at d0 hL HRC
      have HZ2 : Hid (TT = if areaF LL = 0 then ([], false) else if areaF LL < 0 then (if arF RS LL < 0 then ([], false) else nestGo RS (acc ++ [arF RS LL]) ((rs.drop (k + 1)).map PC.l)) else nestGo RS (acc ++ [-1]) ((rs.drop (k + 1)).map PC.l)) := Lib.hid (by
        rw [HZ.out, HD.out]; rfl)
      have HAC := Lib.hid (fun W h => rarea_any Rp Rc LL hL W h)
      obtain ⟨AR, hAR⟩ : ∃ z, areaF LL = z := ⟨_, rfl⟩
      obtain ⟨AF, hAF⟩ : ∃ z, arF RS LL = z := ⟨_, rfl⟩
      rw [hAR] at HZ2 HAC
      rw [hAF] at HZ2 HRC
      clear hAR hAF HZ
      go_wp2_with fail
      refine (HAC.out _ (HRO.out.1.keep hbw)).mono ?_
      rintro e w2 ⟨rfl, hx2⟩
      have hb2' := hbl.trans (hx2.mono hbl.size)
      have ho2 := ho.below hx2
      have hbw2 := hHS.trans (hb2'.mono (by omega))
      have bF := kF.keep hb2'
      have e0 := bF.cell 0 rfl
      have e1 := bF.cell 1 rfl
      clear ho hx2 bF
      by_cases q1 : AR = 0
      · have HV : Hid (TT = ([], false)) := Lib.hid (by rw [HZ2.out, if_pos q1])
        go_wp2
        refine bodyPost_ret (v := .tuple #[.slice none 0 0, .bool false]) ?_ rfl ⟨.slice none 0 0, by rw [HV.out], by rw [HV.out]; exact World.ownsRow_nil _ _ _ _, hbw2⟩
        simp [results, Try.results18, go_sem]
      · by_cases q2 : AR < 0
        · go_wp2_with fail
          refine (HRC.out _ (HOK.out.keep hbw2) (HRO.out.1.keep hbw2)).mono ?_
          rintro e w3 ⟨rfl, hx3⟩
          have hb3 := hb2'.trans (hx3.mono hb2'.size)
          have ho3 := ho2.below hx3
          have hbw3 := hHS.trans (hb3.mono (by omega))
          clear ho2 hx3 e0 e1
          by_cases q3 : AF < 0
          · have HV : Hid (TT = ([], false)) := Lib.hid (by rw [HZ2.out, if_neg q1, if_pos q2, if_pos q3])
            go_wp2
            refine bodyPost_ret (v := .tuple #[.slice none 0 0, .bool false]) ?_ rfl ⟨.slice none 0 0, by rw [HV.out], by rw [HV.out]; exact World.ownsRow_nil _ _ _ _, hbw3⟩
            simp [results, Try.results18, go_sem]
          · have HZ3 : Hid (TT = nestGo RS (acc ++ [AF]) ((rs.drop (k + 1)).map PC.l)) := Lib.hid (by rw [HZ2.out, if_neg q1, if_pos q2, if_neg q3])
            go_wp2_with (at_builtin; go_must (refine wpList_appLit' wS hb3 rfl (.tmp 29) (.tmp 31) 56 rfl 3 (.int .i64 0) 1 8 Try.underlying56 Try.infoNI rfl (by decide) (by decide) u4 k (acc.map (Value.int .i64)) rfl ho3 1 1 [.int .i64 AF] _ rfl rfl (by simp [Value.oneCell']) (by omega) ?_); intro v9 W9 ho9 hg9 hb9; clear ho3 hg9)
            exact ⟨⟨k + 1, acc ++ [AF], by omega, by go_num, by simp [hal], by simpa using ho9, HZ3, hb9⟩, by simp [intOf]; omega⟩
        · have HZ3 : Hid (TT = nestGo RS (acc ++ [-1]) ((rs.drop (k + 1)).map PC.l)) := Lib.hid (by rw [HZ2.out, if_neg q1, if_neg q2])
          go_wp2_with (at_builtin; go_must (refine wpList_appLit' wS hb2' rfl (.tmp 29) (.tmp 31) 56 rfl 3 (.int .i64 0) 1 8 Try.underlying56 Try.infoNI rfl (by decide) (by decide) u4 k (acc.map (Value.int .i64)) rfl ho2 1 1 [.int .i64 (-1)] _ rfl rfl (by simp [Value.oneCell']) (by omega) ?_); intro v9 W9 ho9 hg9 hb9; clear ho2 hg9)
          exact ⟨⟨k + 1, acc ++ [-1], by omega, by go_num, by simp [hal], by simpa using ho9, HZ3, hb9⟩, by simp [intOf]; omega⟩
    · have h1' : ¬ (k : Int) < (N : Int) := by omega
      have hd : rs.drop k = [] := List.drop_of_length_le (by rw [HN.out]; omega)
      rw [hd] at HZ
      have HV : Hid (TT = (acc, true)) := Lib.hid (by rw [HZ.out]; rfl)
      have HO : Hid (wr.ownsRow w.heap.size 3 1 u4 acc.length (acc.map (Value.int .i64))) := Lib.hid (by rw [hal]; exact ho.mono (by omega))
      go_wp2
      refine bodyPost_ret (v := .tuple #[u4, .bool true]) ?_ rfl ⟨u4, by rw [HV.out], by rw [HV.out]; exact HO.out, hbw⟩
      simp [results, Try.results18, go_sem]
end Go.Proofs.Ytebplobagmjfeaa
/- face.within; slices.ContainsFunc of points out of the world. -/
set_option linter.unusedVariables false
set_option linter.unusedSimpArgs false
set_option maxRecDepth 100000
namespace Go
open Go.RowKit
def inW (p : Pt) : Bool := decide (0 ≤ p.x) && (decide (p.x ≤ 65536) && (decide (0 ≤ p.y) && decide (p.y ≤ 65536)))
end Go
namespace Go.Proofs.Ytebplobagmjfeaa
open Go.RowKit

set_option maxHeartbeats 800000 in
theorem fwithin_any (p : Pt) (w : World) :
    Calls Try.prog 30 #[p.val] w fun e w' => e = .returned (.bool (inW p)) ∧ Below w.heap.size w w' := by
  have HB : Hid (inW p = (decide (0 ≤ p.x) && (decide (p.x ≤ 65536) && (decide (0 ≤ p.y) && decide (p.y ≤ 65536))))) := Lib.hid rfl
  generalize inW p = BB at *
  obtain ⟨x, y⟩ := p
  dsimp only [Pt.val] at *
  go_enter Try.func30, Try.ntmps30
  by_cases q1 : 0 ≤ x
  · by_cases q2 : x ≤ 65536
    · by_cases q3 : 0 ≤ y
      · by_cases q4 : y ≤ 65536
        · go_wp2
          go_ret
          exact ⟨by rw [HB.out]; simp [q1, q2, q3, q4], Below.new _ _⟩
        · go_wp2
          go_ret
          exact ⟨by rw [HB.out]; simp [q1, q2, q3, q4]; try omega, Below.new _ _⟩
      · go_wp2
        go_ret
        exact ⟨by rw [HB.out]; simp [q1, q2, q3]; try omega, Below.new _ _⟩
    · go_wp2
      go_ret
      exact ⟨by rw [HB.out]; simp [q1, q2]; try omega, Below.new _ _⟩
  · go_wp2
    go_ret
    exact ⟨by rw [HB.out]; simp [q1]; try omega, Below.new _ _⟩

theorem fcheck1_any (p : Pt) (w : World) :
    Calls Try.prog 29 #[p.val] w fun e w' => e = .returned (.bool (!inW p)) ∧ Below w.heap.size w w' := by
  have H := Lib.hid (fun w => fwithin_any p w)
  generalize inW p = BB at *
  obtain ⟨x, y⟩ := p
  dsimp only [Pt.val] at *
  have hb0 := Below.new w (.cells #[.int .i64 x, .int .i64 y] 37)
  go_enter Try.func29, Try.ntmps29
  go_wp2_with fail
  refine (H.out _).mono ?_
  rintro e w1 ⟨rfl, hb1⟩
  have hb2 := hb0.trans (hb1.mono hb0.size)
  cases BB with
  | true =>
    go_wp2
    go_ret
    exact ⟨rfl, hb2⟩
  | false =>
    go_wp2
    go_ret
    exact ⟨rfl, hb2⟩

set_option maxHeartbeats 1600000 in
theorem indexW_any (a : Option Addr) (c : Nat) (L : List Pt) (hlen : L.length ≤ 1000000) (w : World) (hr : Rd w a (pts L)) :
    Calls Try.prog 53 #[.slice a L.length c, .func (.func 29) #[] #[]] w fun e w' => ∃ z : Int, e = .returned (.int .i64 z) ∧ Hid (0 ≤ z ↔ L.all inW = false) ∧ Below w.heap.size w w' := by
  have HR := Lib.hid hr
  have HC := Lib.hid (fun p w => fcheck1_any p w)
  obtain ⟨N, hN⟩ : ∃ N, L.length = N := ⟨_, rfl⟩
  have HN := Lib.hid hN
  rw [hN] at hlen ⊢
  obtain ⟨AB, hAB⟩ : ∃ B, L.all inW = B := ⟨_, rfl⟩
  have HAB := Lib.hid hAB
  rw [hAB]
  clear hr hN hAB
  go_enter Try.func53, Try.ntmps53
  go_wp2
  go_loopw [8] (fun i wr => ∃ k : Nat, k ≤ N ∧ i = .int .i64 k ∧ Hid ((L.take k).all inW = true) ∧ Below w.heap.size w wr) (fun i _ => N - (intOf i).toNat)
  case atStart => exact ⟨0, by omega, rfl, Lib.hid rfl, Below.refl _ _⟩
  case round =>
    obtain ⟨k, hk, rfl, HA, hbl⟩ := hrel
    by_cases h1 : k < N
    · have h1' : (k : Int) < (N : Int) := by omega
      have hkl : k < L.length := by rw [HN.out]; exact h1
      obtain ⟨b, o, rfl, hb, c0, c1⟩ := (HR.out.keep hbl).pt k hkl
      have HM := Lib.hid (List.getElem_mem hkl)
      have HT : Hid (L.take (k + 1) = L.take k ++ [L[k]]) := Lib.hid (List.take_succ_eq_append_getElem hkl)
      generalize L[k] = P at *
      have HCP := Lib.hid (fun w => HC.out P w)
      obtain ⟨BB, hBB⟩ : ∃ B, inW P = B := ⟨_, rfl⟩
      rw [hBB] at HCP
      have HBB := Lib.hid hBB
      clear hBB HC
      obtain ⟨x, y⟩ := P
      dsimp only [Pt.val] at c0 c1 HCP
      go_wp2_with fail
      refine (HCP.out _).mono ?_
      rintro e w1 ⟨rfl, hb1⟩
      have hb2 := hbl.trans (hb1.mono hbl.size)
      cases BB with
      | true =>
        have HA2 : Hid ((L.take (k + 1)).all inW = true) := Lib.hid (by rw [HT.out, List.all_append, HA.out]; simp [HBB.out])
        go_wp2
        exact ⟨⟨k + 1, by omega, by go_num, HA2, hb2⟩, by simp [intOf]; omega⟩
      | false =>
        have HF : Hid (AB = false) := Lib.hid (by rw [← HAB.out, List.all_eq_false]; exact ⟨_, HM.out, by rw [HBB.out]; simp⟩)
        go_wp2
        go_ret
        exact ⟨k, rfl, Lib.hid ⟨fun _ => HF.out, fun _ => by omega⟩, hb2⟩
    · have h1' : ¬ (k : Int) < (N : Int) := by omega
      have hall : L.take k = L := List.take_of_length_le (by rw [HN.out]; omega)
      have HAT : Hid (AB = true) := Lib.hid (by rw [← HAB.out, ← hall]; exact HA.out)
      clear hall
      go_wp2
      go_ret
      exact ⟨-1, rfl, Lib.hid ⟨fun h => by omega, fun h => by rw [HAT.out] at h; cases h⟩, hbl⟩

set_option maxHeartbeats 800000 in
theorem containsW_any (a : Option Addr) (c : Nat) (L : List Pt) (hlen : L.length ≤ 1000000) (w : World) (hr : Rd w a (pts L)) :
    Calls Try.prog 28 #[.slice a L.length c, .func (.func 29) #[] #[]] w fun e w' => e = .returned (.bool (!L.all inW)) ∧ Below w.heap.size w w' := by
  have H := Lib.hid (indexW_any a c L hlen w hr)
  generalize L.all inW = BB at *
  generalize L.length = N at *
  clear hr
  go_enter Try.func28, Try.ntmps28
  go_wp2_with fail
  refine H.out.mono ?_
  rintro e w1 ⟨z, rfl, HZ, hb⟩
  by_cases q : 0 ≤ z
  · go_wp2
    go_ret
    exact ⟨by rw [HZ.out.1 q]; simp [q], hb⟩
  · have e1 : BB = true := by
      cases BB with
      | true => rfl
      | false => exact absurd (HZ.out.2 rfl) q
    have HE := Lib.hid e1
    clear e1
    go_wp2
    go_ret
    exact ⟨by rw [HE.out]; simp; try omega, hb⟩
end Go.Proofs.Ytebplobagmjfeaa
/- face.Count. -/
set_option linter.unusedVariables false
set_option linter.unusedSimpArgs false
set_option maxRecDepth 100000
namespace Go
open Go.RowKit
def lenS : List (List Pt) → Nat
  | [] => 0
  | r :: l => r.length + lenS l
def cntR : List (List (List Pt)) → Nat
  | [] => 0
  | f :: l => f.length + cntR l
def cntP : List (List (List Pt)) → Nat
  | [] => 0
  | f :: l => lenS f + cntP l
theorem lenS_append (a b : List (List Pt)) : lenS (a ++ b) = lenS a + lenS b := by
  induction a with
  | nil => simp [lenS]
  | cons r a ih => simp only [List.cons_append, lenS, ih]; omega
theorem cntR_append (a b : List (List (List Pt))) : cntR (a ++ b) = cntR a + cntR b := by
  induction a with
  | nil => simp [cntR]
  | cons r a ih => simp only [List.cons_append, cntR, ih]; omega
theorem cntP_append (a b : List (List (List Pt))) : cntP (a ++ b) = cntP a + cntP b := by
  induction a with
  | nil => simp [cntP]
  | cons r a ih => simp only [List.cons_append, cntP, ih]; omega
theorem lenS_take (l : List (List Pt)) (k : Nat) : lenS (l.take k) ≤ lenS l := by
  have := lenS_append (l.take k) (l.drop k)
  rw [List.take_append_drop] at this
  omega
theorem cntR_take (l : List (List (List Pt))) (k : Nat) : cntR (l.take k) ≤ cntR l := by
  have := cntR_append (l.take k) (l.drop k)
  rw [List.take_append_drop] at this
  omega
theorem cntP_take (l : List (List (List Pt))) (k : Nat) : cntP (l.take k) ≤ cntP l := by
  have := cntP_append (l.take k) (l.drop k)
  rw [List.take_append_drop] at this
  omega
theorem lenS_snoc (l : List (List Pt)) (k : Nat) (h : k < l.length) : lenS (l.take (k + 1)) = lenS (l.take k) + l[k].length := by
  rw [List.take_succ_eq_append_getElem h, lenS_append]; simp [lenS]
theorem cntR_snoc (l : List (List (List Pt))) (k : Nat) (h : k < l.length) : cntR (l.take (k + 1)) = cntR (l.take k) + l[k].length := by
  rw [List.take_succ_eq_append_getElem h, cntR_append]; simp [cntR]
theorem cntP_snoc (l : List (List (List Pt))) (k : Nat) (h : k < l.length) : cntP (l.take (k + 1)) = cntP (l.take k) + lenS l[k] := by
  rw [List.take_succ_eq_append_getElem h, cntP_append]; simp [cntP]
end Go
namespace Go.Proofs.Ytebplobagmjfeaa
open Go.RowKit

set_option maxHeartbeats 3200000 in
theorem fcount_any (a : Option Addr) (c : Nat) (L : List Fc) (hlen : L.length ≤ 1000000) (h1 : cntR (L.map Fc.rings) ≤ 1000000) (h2 : cntP (L.map Fc.rings) ≤ 1000000) (w : World) (hr : Rd w a (fcs L)) (hok : ∀ f ∈ L, f.Ok w) :
    Calls Try.prog 8 #[.slice a L.length c] w fun e w' => e = .returned (.tuple #[.int .i64 (cntR (L.map Fc.rings)), .int .i64 (cntP (L.map Fc.rings))]) ∧ Below w.heap.size w w' := by
  have HR := Lib.hid hr
  have HOK := Lib.hid hok
  obtain ⟨RL, hRL⟩ : ∃ R, L.map Fc.rings = R := ⟨_, rfl⟩
  have HRL := Lib.hid hRL
  rw [hRL] at h1 h2 ⊢
  have hRn : RL.length = L.length := by rw [← hRL, List.length_map]
  have HTR := Lib.hid (cntR_take RL)
  have HTP := Lib.hid (cntP_take RL)
  obtain ⟨N, hN⟩ : ∃ N, L.length = N := ⟨_, rfl⟩
  have HN := Lib.hid hN
  rw [hN] at hlen hRn ⊢
  clear hr hok hRL hN
  go_enter Try.func8, Try.ntmps8
  go_wp2
  go_loopw [4, 5, 12] (fun x y i wr => ∃ (k : Nat) (X Y : Nat), i = .int .i64 k ∧ k ≤ N ∧ x = .int .i64 X ∧ y = .int .i64 Y ∧ Hid (X = cntR (RL.take k)) ∧ Hid (Y = cntP (RL.take k)) ∧ Below w.heap.size w wr) (fun _ _ i _ => N - (intOf i).toNat)
  case atStart => exact ⟨0, 0, 0, rfl, Nat.zero_le _, rfl, rfl, Lib.hid rfl, Lib.hid rfl, Below.refl _ _⟩
  case round =>
    obtain ⟨i, X, Y, rfl, hi, rfl, rfl, HX, HY, hbl⟩ := hrel
    by_cases hlt : i < N
    · have hlt' : (i : Int) < (N : Int) := by omega
      have hil : i < L.length := by rw [HN.out]; exact hlt
      have hiR : i < RL.length := by omega
      obtain ⟨b1, o1, rfl, hbb, c0, c1⟩ := (HR.out.keep hbl).fc i hil
      have HRI : Hid (RL[i] = L[i].rs.map PC.l) := Lib.hid (by simp only [← HRL.out, List.getElem_map, Fc.rings])
      have HFO := Lib.hid (HOK.out _ (List.getElem_mem hil))
      have HSR := Lib.hid (cntR_snoc RL i hiR)
      have HSP := Lib.hid (cntP_snoc RL i hiR)
      have b1 := HTR.out (i + 1)
      have b2 := HTP.out (i + 1)
      rw [HSR.out, ← HX.out] at b1
      rw [HSP.out, ← HY.out] at b2
      have HLT := Lib.hid (lenS_take RL[i])
      generalize L[i] = f at *
      generalize RL[i] = FR at *
      obtain ⟨rs, ra, rc, ls, aa, ac⟩ := f
      dsimp only [Fc.rval, Fc.aval] at c0 c1 HRI
      obtain ⟨RN, hRN⟩ : ∃ R, rs.length = R := ⟨_, rfl⟩
      have HRN := Lib.hid hRN
      have hFR : FR.length = RN := by rw [HRI.out, List.length_map, HRN.out]
      rw [hRN] at c0
      rw [hFR] at b1
      clear hRN
      have hbA := Below.new wr (.cells #[.slice ra RN rc, .slice aa ls.length ac] 49)
      have hA0 := hbl.trans (hbA.mono hbl.size)
      have kA := heap_alloc_new wr (.cells #[.slice ra RN rc, .slice aa ls.length ac] 49)
      go_wp2
      clear c0 c1 hbA
      go_loopw [5, 24] (fun y i wr2 => ∃ (j : Nat) (Z : Nat), i = .int .i64 j ∧ j ≤ RN ∧ y = .int .i64 Z ∧ Hid (Z = Y + lenS (FR.take j)) ∧ Below w.heap.size w wr2) (fun _ i _ => RN - (intOf i).toNat)
      case atStart => exact ⟨0, Y, rfl, Nat.zero_le _, rfl, Lib.hid rfl, hA0⟩
      case round =>
        obtain ⟨j, Z, rfl, hj, rfl, HZ, hb2⟩ := hrel
        by_cases hjt : j < RN
        · have hjt' : (j : Int) < (RN : Int) := by omega
          have hjl : j < rs.length := by rw [HRN.out]; exact hjt
          have hjF : j < FR.length := by omega
          obtain ⟨b3, o3, rfl, hbb3, d0⟩ := (HFO.out.1.1.keep hb2).rc j hjl
          have HSJ := Lib.hid (lenS_snoc FR j hjF)
          have b4 := HLT.out (j + 1)
          have HFJ : Hid (FR[j].length = rs[j].l.length) := Lib.hid (by simp only [HRI.out, List.getElem_map])
          rw [HSJ.out, HFJ.out] at b4
          have HZ2 : Hid (Z + rs[j].l.length = Y + lenS (FR.take (j + 1))) := Lib.hid (by rw [HSJ.out, HFJ.out, HZ.out]; omega)
          have hzb : Z + rs[j].l.length ≤ 1000000 := by rw [HZ.out]; omega
          generalize rs[j] = R at *
          obtain ⟨LL, Rp, Rc⟩ := R
          dsimp only [PC.val] at d0 HZ2 hzb
          go_wp2
          exact ⟨⟨j + 1, Z + LL.length, by go_num, by omega, by go_num, HZ2, hb2⟩, by simp [intOf]; omega⟩
        · have hjt' : ¬ (j : Int) < (RN : Int) := by omega
          have hft : FR.take j = FR := List.take_of_length_le (by omega)
          have HZ2 : Hid (Z = cntP (RL.take (i + 1))) := Lib.hid (by rw [HSP.out, HZ.out, HY.out, hft])
          have HX2 : Hid (X + RN = cntR (RL.take (i + 1))) := Lib.hid (by rw [HSR.out, HX.out, hFR])
          go_wp2
          exact ⟨⟨i + 1, X + RN, Z, by go_num, by omega, by go_num, rfl, HX2, HZ2, hb2⟩, by simp [intOf]; omega⟩
    · have hlt' : ¬ (i : Int) < (N : Int) := by omega
      have hall : RL.take i = RL := List.take_of_length_le (by omega)
      rw [hall] at HX HY
      go_wp2
      refine bodyPost_ret (v := .tuple #[.int .i64 X, .int .i64 Y]) ?_ rfl ⟨by rw [HX.out, HY.out], hbl⟩
      simp [results, Try.results8, go_sem]
end Go.Proofs.Ytebplobagmjfeaa
/- face.Check, whatever table.Check answers. -/
set_option linter.unusedVariables false
set_option linter.unusedSimpArgs false
set_option maxRecDepth 100000
namespace Go
open Go.RowKit
def rIn (rs : List (List Pt)) : Bool := rs.all fun r => r.all inW
def tcs (tc : List At → Int) : List (List At) → Int
  | [] => 0
  | a :: l => if tc a = 0 then tcs tc l else tc a
/-- What is wrong with faces. -/
def chkF (tc : List At → Int) (n : Nat) (rs : List (List (List Pt))) (ls : List (List At)) : Int :=
  if 32 < n ∨ 64 < cntR rs ∨ 512 < cntP rs then 6 else if rs.all rIn = false then 5 else tcs tc ls
end Go
namespace Go.Proofs.Ytebplobagmjfeaa
open Go.RowKit

set_option maxHeartbeats 6400000 in
theorem fcheck_any (tc : List At → Int) (a : Option Addr) (c : Nat) (L : List Fc) (hlen : L.length ≤ 1000000) (h1 : cntR (L.map Fc.rings) ≤ 1000000) (h2 : cntP (L.map Fc.rings) ≤ 1000000) (hl : ∀ f ∈ L, ∀ r ∈ f.rs, r.l.length ≤ 1000000) (w : World) (hr : Rd w a (fcs L)) (hok : ∀ f ∈ L, f.Ok w)
    (htc : ∀ f ∈ L, ∀ W, Rd W f.aa (ats f.ls) → Calls Try.prog 31 #[f.aval] W fun e w' => e = .returned (.int .i64 (tc f.ls)) ∧ Below W.heap.size W w') :
    Calls Try.prog 12 #[.slice a L.length c] w fun e w' => e = .returned (.int .i64 (chkF tc L.length (L.map Fc.rings) (L.map Fc.ls))) ∧ Below w.heap.size w w' := by
  have HR := Lib.hid hr
  have HOK := Lib.hid hok
  have HTC := Lib.hid htc
  have HLL := Lib.hid hl
  have HCN := Lib.hid (fcount_any a c L hlen h1 h2 w hr hok)
  have HCH : Hid (chkF tc L.length (L.map Fc.rings) (L.map Fc.ls) = if 32 < L.length ∨ 64 < cntR (L.map Fc.rings) ∨ 512 < cntP (L.map Fc.rings) then 6 else if (L.map Fc.rings).all rIn = false then 5 else tcs tc (L.map Fc.ls)) := Lib.hid rfl
  generalize chkF tc L.length (L.map Fc.rings) (L.map Fc.ls) = CH at *
  obtain ⟨RL, hRL⟩ : ∃ R, L.map Fc.rings = R := ⟨_, rfl⟩
  have HRL := Lib.hid hRL
  rw [hRL] at HCN HCH h1 h2
  have hRn : RL.length = L.length := by rw [← hRL, List.length_map]
  obtain ⟨CR, hCR⟩ : ∃ z, cntR RL = z := ⟨_, rfl⟩
  obtain ⟨CP, hCP⟩ : ∃ z, cntP RL = z := ⟨_, rfl⟩
  rw [hCR, hCP] at HCN HCH
  rw [hCR] at h1
  rw [hCP] at h2
  have HTS : Hid (tcs tc (L.map Fc.ls) = tcs tc ((L.drop 0).map Fc.ls)) := Lib.hid rfl
  generalize tcs tc (L.map Fc.ls) = TS at *
  obtain ⟨N, hN⟩ : ∃ N, L.length = N := ⟨_, rfl⟩
  have HN := Lib.hid hN
  rw [hN] at hlen hRn HCN HCH ⊢
  clear hr hok hRL hN hl htc hCR hCP
  go_enter Try.func12, Try.ntmps12
  go_wp2_with fail
  refine HCN.out.mono ?_
  rintro e w1 ⟨rfl, hb1⟩
  clear HCN
  by_cases q1 : 32 < N
  · have q1' : (32 : Int) < (N : Int) := by omega
    have HV : Hid (CH = 6) := Lib.hid (by rw [HCH.out, if_pos (.inl q1)])
    go_wp2
    go_ret
    exact ⟨ret_int HV.out.symm, hb1⟩
  by_cases q2 : 64 < CR
  · have q1' : ¬ (32 : Int) < (N : Int) := by omega
    have q2' : (64 : Int) < (CR : Int) := by omega
    have HV : Hid (CH = 6) := Lib.hid (by rw [HCH.out, if_pos (.inr (.inl q2))])
    go_wp2
    go_ret
    exact ⟨ret_int HV.out.symm, hb1⟩
  by_cases q3 : 512 < CP
  · have q1' : ¬ (32 : Int) < (N : Int) := by omega
    have q2' : ¬ (64 : Int) < (CR : Int) := by omega
    have q3' : (512 : Int) < (CP : Int) := by omega
    have HV : Hid (CH = 6) := Lib.hid (by rw [HCH.out, if_pos (.inr (.inr q3))])
    go_wp2
    go_ret
    exact ⟨ret_int HV.out.symm, hb1⟩
  have q1' : ¬ (32 : Int) < (N : Int) := by omega
  have q2' : ¬ (64 : Int) < (CR : Int) := by omega
  have q3' : ¬ (512 : Int) < (CP : Int) := by omega
  replace HCH : Hid (CH = if RL.all rIn = false then 5 else TS) := Lib.hid (by rw [HCH.out, if_neg (by omega)])
  go_wp2
  go_loopw [30] (fun i wr => ∃ k : Nat, i = .int .i64 k ∧ k ≤ N ∧ Hid ((RL.take k).all rIn = true) ∧ Below w.heap.size w wr) (fun i _ => N - (intOf i).toNat)
  case atStart => exact ⟨0, rfl, Nat.zero_le _, Lib.hid rfl, hb1⟩
  case round =>
    obtain ⟨i, rfl, hi, HX, hbl⟩ := hrel
    by_cases hlt : i < N
    · as_aux_lemma =>
        have hlt' : (i : Int) < (N : Int) := by omega
        have hil : i < L.length := by rw [HN.out]; exact hlt
        have hiR : i < RL.length := by omega
        obtain ⟨b1, o1, rfl, hbb, c0, c1⟩ := (HR.out.keep hbl).fc i hil
        have HRI : Hid (RL[i] = L[i].rs.map PC.l) := Lib.hid (by simp only [← HRL.out, List.getElem_map, Fc.rings])
        have HFO := Lib.hid (HOK.out _ (List.getElem_mem hil))
        have HF2 := Lib.hid (HLL.out _ (List.getElem_mem hil))
        have HSR : Hid (RL.take (i + 1) = RL.take i ++ [RL[i]]) := Lib.hid (List.take_succ_eq_append_getElem hiR)
        have HMR := Lib.hid (List.getElem_mem hiR)
        generalize L[i] = f at *
        generalize RL[i] = FR at *
        obtain ⟨rs, ra, rc, ls, aa, ac⟩ := f
        dsimp only [Fc.rval, Fc.aval] at c0 c1 HRI HF2
        obtain ⟨RN, hRN⟩ : ∃ R, rs.length = R := ⟨_, rfl⟩
        have HRN := Lib.hid hRN
        have hFR : FR.length = RN := by rw [HRI.out, List.length_map, HRN.out]
        rw [hRN] at c0
        have hrb := HFO.out.1.2
        dsimp only at hrb
        rw [hRN] at hrb
        unfold maxLen at hrb
        clear hRN
        have hbA := Below.new wr (.cells #[.slice ra RN rc, .slice aa ls.length ac] 49)
        have hA0 := hbl.trans (hbA.mono hbl.size)
        go_wp2
        clear c0 c1 hbA
        go_loopw [37] (fun i wr2 => ∃ j : Nat, i = .int .i64 j ∧ j ≤ RN ∧ Hid (rIn (FR.take j) = true) ∧ Below w.heap.size w wr2) (fun i _ => RN - (intOf i).toNat)
        case atStart => exact ⟨0, rfl, Nat.zero_le _, Lib.hid rfl, hA0⟩
        case round =>
          obtain ⟨j, rfl, hj, HZ, hb2⟩ := hrel
          by_cases hjt : j < RN
          · as_aux_lemma =>
              have hjt' : (j : Int) < (RN : Int) := by omega
              have hjl : j < rs.length := by rw [HRN.out]; exact hjt
              have hjF : j < FR.length := by omega
              obtain ⟨b3, o3, rfl, hbb3, d0⟩ := (HFO.out.1.1.keep hb2).rc j hjl
              have HRO := Lib.hid ((HFO.out.2.1 _ (List.getElem_mem hjl)).keep hb2)
              have hl2 := HF2.out _ (List.getElem_mem hjl)
              have HFJ : Hid (FR[j] = rs[j].l) := Lib.hid (by simp only [HRI.out, List.getElem_map])
              have HTJ : Hid (FR.take (j + 1) = FR.take j ++ [rs[j].l]) := Lib.hid (by rw [← HFJ.out]; exact List.take_succ_eq_append_getElem hjF)
              have HMJ : Hid (rs[j].l ∈ FR) := Lib.hid (by rw [← HFJ.out]; exact List.getElem_mem hjF)
              clear HFJ
              generalize rs[j] = R at *
              obtain ⟨LL, Rp, Rc⟩ := R
              dsimp only [PC.val] at d0 hl2 HTJ HMJ
              have HCW := Lib.hid (fun W h => containsW_any Rp Rc LL hl2 W h)
              obtain ⟨AB, hAB⟩ : ∃ B, LL.all inW = B := ⟨_, rfl⟩
              have HAB := Lib.hid hAB
              rw [hAB] at HCW
              clear hAB
              go_wp2_with fail
              refine (HCW.out _ HRO.out.1).mono ?_
              rintro e w3 ⟨rfl, hb3⟩
              have hb4 := hb2.trans (hb3.mono hb2.size)
              cases AB with
              | true =>
                have HZ2 : Hid (rIn (FR.take (j + 1)) = true) := Lib.hid (by
                  have := HZ.out
                  unfold rIn at *
                  rw [HTJ.out, List.all_append, this]; simp only [List.all_cons, List.all_nil, HAB.out, Bool.and_self])
                go_wp2
                exact ⟨⟨j + 1, by go_num, by omega, HZ2, hb4⟩, by simp [intOf]; omega⟩
              | false =>
                have HV : Hid (CH = 5) := Lib.hid (by
                  have e1 : rIn FR = false := by unfold rIn; rw [List.all_eq_false]; exact ⟨_, HMJ.out, by rw [HAB.out]; simp⟩
                  have e2 : RL.all rIn = false := by rw [List.all_eq_false]; exact ⟨_, HMR.out, by rw [e1]; simp⟩
                  rw [HCH.out, if_pos e2])
                go_wp2
                go_ret
                exact ⟨ret_int HV.out.symm, hb4⟩
          · have hjt' : ¬ (j : Int) < (RN : Int) := by omega
            have hft : FR.take j = FR := List.take_of_length_le (by omega)
            have HX2 : Hid ((RL.take (i + 1)).all rIn = true) := Lib.hid (by
              have e1 := HZ.out
              rw [hft] at e1
              rw [HSR.out, List.all_append, HX.out]; simp only [List.all_cons, List.all_nil, e1, Bool.and_self])
            clear hft
            go_wp2
            exact ⟨⟨i + 1, by go_num, by omega, HX2, hb2⟩, by simp [intOf]; omega⟩
    · as_aux_lemma =>
        have hlt' : ¬ (i : Int) < (N : Int) := by omega
        have hall : RL.take i = RL := List.take_of_length_le (by omega)
        have HCT : Hid (CH = TS) := Lib.hid (by
          have e1 := HX.out
          rw [hall] at e1
          rw [HCH.out, e1]; rfl)
        clear hall HX HCH
        go_wp2
        go_loopw [47] (fun i wr => ∃ k : Nat, i = .int .i64 k ∧ k ≤ N ∧ Hid (TS = tcs tc ((L.drop k).map Fc.ls)) ∧ Below w.heap.size w wr) (fun i _ => N - (intOf i).toNat)
        case atStart => exact ⟨0, rfl, Nat.zero_le _, HTS, hbl⟩
        case round =>
          obtain ⟨k, rfl, hk, HX, hbl2⟩ := hrel
          by_cases hkt : k < N
          · as_aux_lemma =>
              have hkt' : (k : Int) < (N : Int) := by omega
              have hkl : k < L.length := by rw [HN.out]; exact hkt
              obtain ⟨b1, o1, rfl, hbb, c0, c1⟩ := (HR.out.keep hbl2).fc k hkl
              have HFO := Lib.hid (HOK.out _ (List.getElem_mem hkl))
              have HTK := Lib.hid (fun W h => HTC.out (L[k]'hkl) (List.getElem_mem hkl) W h)
              have HX2 : Hid (TS = if tc L[k].ls = 0 then tcs tc ((L.drop (k + 1)).map Fc.ls) else tc L[k].ls) := Lib.hid (by
                rw [HX.out, List.drop_eq_getElem_cons hkl]; rfl)
              generalize L[k] = f at *
              obtain ⟨rs, ra, rc, ls, aa, ac⟩ := f
              dsimp only [Fc.rval, Fc.aval] at c0 c1 HTK HX2
              obtain ⟨TK, hTK⟩ : ∃ z, tc ls = z := ⟨_, rfl⟩
              rw [hTK] at HTK HX2
              clear hTK HX
              have hbA := Below.new wr (.cells #[.slice ra rs.length rc, .slice aa ls.length ac] 49)
              have hA0 := hbl2.trans (hbA.mono hbl2.size)
              go_wp2_with fail
              refine (HTK.out _ (HFO.out.2.2.1.keep hA0)).mono ?_
              rintro e w3 ⟨rfl, hb3⟩
              have hb4 := hA0.trans (hb3.mono hA0.size)
              by_cases z : TK = 0
              · have HX3 : Hid (TS = tcs tc ((L.drop (k + 1)).map Fc.ls)) := Lib.hid (by rw [HX2.out, if_pos z])
                go_wp2
                exact ⟨⟨k + 1, by go_num, by omega, HX3, hb4⟩, by simp [intOf]; omega⟩
              · have HV : Hid (CH = TK) := Lib.hid (by rw [HCT.out, HX2.out, if_neg z])
                go_wp2
                go_ret
                exact ⟨ret_int HV.out.symm, hb4⟩
          · have hkt' : ¬ (k : Int) < (N : Int) := by omega
            have hd : L.drop k = [] := List.drop_of_length_le (by rw [HN.out]; omega)
            have HV : Hid (CH = 0) := Lib.hid (by rw [HCT.out, HX.out, hd]; rfl)
            clear hd
            go_wp2
            go_ret
            exact ⟨ret_int HV.out.symm, hbl2⟩
end Go.Proofs.Ytebplobagmjfeaa

/-
  graticuleref12.area, Winding.
-/
import Derived.Test.YtdginfjlelpkmaaRef03b
import Derived.Test.YtdginfjlelpkmaaFwind
import Derived.Test.YtdginfjlelpkmaaFc
import Derived.Test.YtdginfjlelpkmaaRall
set_option linter.unusedVariables false
set_option linter.unusedSimpArgs false
set_option maxRecDepth 100000
namespace Go
open Go.RowKit
theorem areaF_sho (l : List Pt) : areaF l = if l.length < 3 ∨ l.all okPt = false then 0 else sho l := by unfold areaF; rw [fan_sho]
theorem windS_eq (p : Pt) (l : List Pt) (h : windOk l p = true) : abvS p (edges l) = windF l p := by
  unfold windF
  rw [if_pos h]
  unfold windOk at h
  simp only [Bool.and_eq_true] at h
  exact (windS_abvS p l h.2.2).symm
end Go
namespace Go.Proofs.Ytdginfjlelpkmaa
open Go.RowKit

set_option maxHeartbeats 1600000 in
theorem rarea12_any (a : Option Addr) (c : Nat) (L : List Pt) (hlen : L.length ≤ 1000) (w : World) (hr : Rd w a (pts L)) :
    Calls Try.prog 35 #[.slice a L.length c] w fun e w' => e = .returned (.int .i64 (areaF L)) ∧ Below w.heap.size w w' := by
  have HAR := Lib.hid (areaF_sho L)
  have HAL := Lib.hid (rall_any a c L (by omega) w hr)
  have HA3 := Lib.hid (fun h W hw => rarea3_any a c L hlen h W hw)
  have HR := Lib.hid hr
  obtain ⟨AR, hAR⟩ : ∃ z, areaF L = z := ⟨_, rfl⟩
  rw [hAR] at HAR ⊢
  obtain ⟨AL, hAL⟩ : ∃ z, L.all okPt = z := ⟨_, rfl⟩
  rw [hAL] at HAR HAL HA3
  obtain ⟨N, hN⟩ : ∃ z, L.length = z := ⟨_, rfl⟩
  rw [hN] at HAR HAL HA3 ⊢
  generalize sho L = SH at *
  clear hAR hAL hN hr hlen
  go_enter Try.func35, Try.ntmps35
  by_cases h1 : N < 3
  · have h1' : (N : Int) < 3 := by omega
    go_wp2
    go_ret
    exact ⟨ret_int (by rw [HAR.out, if_pos (.inl h1)]), Below.refl _ _⟩
  · have h1' : ¬ (N : Int) < 3 := by omega
    go_wp2_with fail
    refine HAL.out.mono ?_
    rintro e w1 ⟨rfl, hb1⟩
    cases AL with
    | false =>
      go_wp2
      go_ret
      exact ⟨ret_int (by rw [HAR.out]; simp), hb1⟩
    | true =>
      go_wp2_with fail
      refine (HA3.out (by trivial) w1 (HR.out.keep hb1)).mono ?_
      rintro e w2 ⟨rfl, hb2⟩
      have hb3 := hb1.trans (hb2.mono hb1.size)
      go_wp2
      go_ret
      exact ⟨ret_int (by rw [HAR.out]; simp [h1]), hb3⟩

set_option maxHeartbeats 6400000 in
theorem rwind12_any (f : Fc) (hn : f.rs.length ≤ 1000) (hl : ∀ r ∈ f.rs, r.l.length ≤ 1000) (p : Pt) (w : World) (hok : f.Ok w) :
    Calls Try.prog 20 #[f.val, p.val] w fun e w' => e = .returned (.tuple #[.int .i64 (fwF p f.rings), .bool (fwOk p f.rings)]) ∧ Below w.heap.size w w' := by
  have HLL := Lib.hid hl
  have HOK := Lib.hid hok
  have HFO : Hid (fwOk p f.rings = (f.rs.map PC.l).all (windOk · p)) := Lib.hid rfl
  have HFF : Hid (fwF p f.rings = if fwOk p f.rings then fwS p (f.rs.map PC.l) else 0) := Lib.hid rfl
  generalize fwF p f.rings = FF at *
  generalize fwOk p f.rings = FO at *
  obtain ⟨rs, ra, rc, ls, aa, ac⟩ := f
  dsimp only [Fc.val, Fc.rval, Fc.aval] at *
  obtain ⟨N, hN⟩ : ∃ N, rs.length = N := ⟨_, rfl⟩
  have HN := Lib.hid hN
  have HTA : Hid ((rs.take N).map PC.l = rs.map PC.l) := Lib.hid (by rw [← hN, List.take_length])
  have HSB := Lib.hid (fun k (hk : k ≤ N) => fwS_bd p ((rs.take k).map PC.l) (fun r hr => by
    obtain ⟨x, hx, rfl⟩ := List.mem_map.1 hr
    exact HLL.out x (List.mem_of_mem_take hx)))
  rw [hN] at hn ⊢
  clear hN hl hok
  obtain ⟨B, hB⟩ : ∃ B, w.heap.size = B := ⟨_, rfl⟩
  have HBE := Lib.hid hB
  have k1 := (Blk.lit w B [.slice ra N rc, .slice aa ls.length ac] 54 hB).alloc (.cells p.cells.toArray 40)
  have k2 := Blk.lit (w.alloc (.cells #[.slice ra N rc, .slice aa ls.length ac] 54)) (B + 1) p.cells 40 (by simp [hB])
  have hb0 := (Below.new w (.cells #[.slice ra N rc, .slice aa ls.length ac] 54)).alloc (by simp) (.cells p.cells.toArray 40)
  have HRM := Lib.hid (fun W => rmay_any p W)
  have HRO3 := Lib.hid (fun (hp : okPt p = true) a c L h1 h2 W h => ron3_any a c L h1 h2 p hp W h)
  have HRW3 := Lib.hid (fun (hp : okPt p = true) a c L h1 h2 W h => rwind3_any a c L h1 h2 p hp W h)
  have HWO0 : ∀ L : List Pt, windOk L p = (okPt p && (L.all okPt && (edges L).all (offB p))) := fun L => rfl
  have HWO := Lib.hid HWO0
  clear HWO0
  have HWE := Lib.hid (fun L : List Pt => windS_eq p L)
  have HFB := Lib.hid (fun L : List Pt => windF_bd L p)
  have HSN := Lib.hid (fun l r => fwS_snoc p l r)
  obtain ⟨PO, hPO⟩ : ∃ b, okPt p = b := ⟨_, rfl⟩
  rw [hPO] at HRM HRO3 HRW3 HWO
  clear hPO
  obtain ⟨px, py⟩ := p
  dsimp only [Pt.val, Pt.cells] at *
  go_enter Try.func20, Try.ntmps20
  go_wp2
  generalize hwS : (w.alloc (.cells #[.slice ra N rc, .slice aa ls.length ac] 54)).alloc (.cells #[.int .i64 px, .int .i64 py] 40) = wS at *
  rw [hB] at hb0
  have hsS := k2.lt
  clear hwS hB
  go_loopw [6, 7] (fun o i wr => ∃ k : Nat, k ≤ N ∧ i = .int .i64 k ∧ o = .int .i64 (fwS ⟨px, py⟩ ((rs.take k).map PC.l)) ∧ Hid (((rs.take k).map PC.l).all (windOk · ⟨px, py⟩) = true) ∧ Below wS.heap.size wS wr) (fun _ i _ => N - (intOf i).toNat)
  case atStart => exact ⟨0, by omega, rfl, rfl, Lib.hid (by simp), Below.refl _ _⟩
  case round =>
    obtain ⟨k, hk, rfl, rfl, HAL, hbl⟩ := hrel
    have hbw := hb0.trans (hbl.mono (by omega))
    have k1' := k1.keep hbl
    have k2' := k2.keep hbl
    have x0 := k1'.cell 0 rfl
    have y0 := k2'.cell 0 rfl
    have y1 := k2'.cell 1 rfl
    by_cases h1 : k < N
    · have h1' : (k : Int) < (N : Int) := by omega
      have hkl : k < rs.length := by rw [HN.out]; exact h1
      have hbw' : Below w.heap.size w wr := hbw.mono (by rw [HBE.out]; exact Nat.le_refl _)
      obtain ⟨b2, o2, rfl, hb2, d0⟩ := (HOK.out.1.1.keep hbw').rc k hkl
      have HRO := Lib.hid ((HOK.out.2.1 _ (List.getElem_mem hkl)).keep hbw')
      have hL := HLL.out rs[k] (List.getElem_mem hkl)
      have HTK : Hid ((rs.take (k + 1)).map PC.l = (rs.take k).map PC.l ++ [rs[k].l]) := Lib.hid (by
        rw [List.take_succ_eq_append_getElem hkl, List.map_append, List.map_singleton])
      have HMEM : Hid (rs[k].l ∈ rs.map PC.l) := Lib.hid (List.mem_map.2 ⟨_, List.getElem_mem hkl, rfl⟩)
      have hSB := HSB.out k hk
      generalize rs[k] = R at *
      obtain ⟨LL, Rp, Rc⟩ := R
      dsimp only [PC.val] at d0 hL
      have HWOL := Lib.hid (HWO.out LL)
      have HWEL := Lib.hid (HWE.out LL)
      have hFB := HFB.out LL
      have HON := Lib.hid (fun hp h2 W h => HRO3.out hp Rp Rc LL hL h2 W h)
      have HWI := Lib.hid (fun hp h2 W h => HRW3.out hp Rp Rc LL hL h2 W h)
      have HALL := Lib.hid (fun W h => rall_any Rp Rc LL (by omega) W h)
      have HST : Hid (fwS ⟨px, py⟩ ((rs.take (k + 1)).map PC.l) = fwS ⟨px, py⟩ ((rs.take k).map PC.l) + windF LL ⟨px, py⟩) := Lib.hid (by rw [HTK.out, HSN.out])
      rw [List.length_map, List.length_take, HN.out] at hSB
      generalize fwS ⟨px, py⟩ ((rs.take k).map PC.l) = F at *
      have hF64 : -1000000 ≤ F ∧ F ≤ 1000000 := by omega
      have hW64 : -1000 ≤ windF LL ⟨px, py⟩ ∧ windF LL ⟨px, py⟩ ≤ 1000 := by omega
      have HNO : Hid (windOk LL ⟨px, py⟩ = false → FO = false ∧ FF = 0) := Lib.hid (fun h => by
        have h1 : FO = false := by
          rw [HFO.out, List.all_eq_false]
          exact ⟨_, HMEM.out, by rw [h]; simp⟩
        refine ⟨h1, ?_⟩
        rw [HFF.out, h1]; rfl)
      have HYES : Hid (windOk LL ⟨px, py⟩ = true → ((rs.take (k + 1)).map PC.l).all (windOk · ⟨px, py⟩) = true) := Lib.hid (fun h => by
        rw [HTK.out, List.all_append, HAL.out, List.all_cons, List.all_nil, h]; rfl)
      generalize LL.all okPt = AL at *
      generalize (edges LL).all (offB ⟨px, py⟩) = EO at *
      generalize windOk LL ⟨px, py⟩ = WO at *
      generalize windF LL ⟨px, py⟩ = WF at *
      generalize abvS ⟨px, py⟩ (edges LL) = AS at *
      have rF : IntKind.i64.wrap (F + WF) = F + WF := IntWalk.i64_in _ (by omega)
      obtain ⟨LN, hLN⟩ : ∃ z, LL.length = z := ⟨_, rfl⟩
      rw [hLN] at d0 HON HWI HALL
      clear hLN hSB hFB HRO3 HRW3 HWO HWE HFB HSB HSN
      have hRd : Rd wr Rp (pts LL) := HRO.out.1
      have hsw : B + 1 < wr.heap.size := k2'.lt
      have hBw : B < wr.heap.size := by omega
      have HRDD := Lib.hid hRd
      clear hRd
      go_wp2_with fail
      refine wp_region_lit_txtZ none [0, 2, 3, 4, 5, 6, 7, 8, 10, 11, 12, 13, 14, 15, 16, 17, 18, 20] (fun W => Below wr.heap.size wr W) (by kernel_rfl) (by kernel_rfl) (by kernel_rfl) (by kernel_rfl) (Below.refl _ _).drew ?_
      refine txt_light (.agg #[.int .i64 px, .int .i64 py]) rfl rfl ?_ ?_
      · intro w' hS
        have c5 := (hS.cell (p := ⟨B + 1, 0, none⟩) hsw).trans y0
        have c6 := (hS.cell (p := ⟨B + 1, 1, none⟩) hsw).trans y1
        clear hS
        go_simp
      try simp only [Act.put, List.getElem_toArray, List.getElem_cons_succ, List.getElem_cons_zero, List.setIfInBounds_toArray, List.set_cons_zero, List.set_cons_succ]
      have hbd : Below wr.heap.size wr wr.drew := (Below.refl _ _).drew
      generalize wr.drew = W0 at *
      refine txt_heavy rfl rfl (fun K hK => ?_)
      go_step
      refine (HRM.out W0).mono ?_
      rintro e W1 ⟨rfl, hbx⟩
      have hbd1 := hbd.trans (hbx.mono hbd.size)
      dsimp only
      refine hK.out _ _ hbd1 ?_
      clear hK K hbx hbd
      try simp only [Act.put, List.getElem_toArray, List.getElem_cons_succ, List.getElem_cons_zero, List.setIfInBounds_toArray, List.set_cons_zero, List.set_cons_succ]
      (refine txt_light ?_ rfl rfl ?_ ?_; rotate_left; · (intro w' hS; (try dsimp only at hS); go_simp; with_reducible rfl)); try simp only [Act.put, List.getElem_toArray, List.getElem_cons_succ, List.getElem_cons_zero, List.setIfInBounds_toArray, List.set_cons_zero, List.set_cons_succ]
      (refine txt_light ?_ rfl rfl ?_ ?_; rotate_left; · (intro w' hS; (try dsimp only at hS); go_simp; with_reducible rfl)); try simp only [Act.put, List.getElem_toArray, List.getElem_cons_succ, List.getElem_cons_zero, List.setIfInBounds_toArray, List.set_cons_zero, List.set_cons_succ]
      cases PO with
      | false =>
        refine txt_skip rfl ?_
        try simp only [Act.put, List.getElem_toArray, List.getElem_cons_succ, List.getElem_cons_zero, List.setIfInBounds_toArray, List.set_cons_zero, List.set_cons_succ]
        refine txt_skip rfl ?_
        try simp only [Act.put, List.getElem_toArray, List.getElem_cons_succ, List.getElem_cons_zero, List.setIfInBounds_toArray, List.set_cons_zero, List.set_cons_succ]
        refine txt_skip rfl ?_
        try simp only [Act.put, List.getElem_toArray, List.getElem_cons_succ, List.getElem_cons_zero, List.setIfInBounds_toArray, List.set_cons_zero, List.set_cons_succ]
        refine txt_skip rfl ?_
        try simp only [Act.put, List.getElem_toArray, List.getElem_cons_succ, List.getElem_cons_zero, List.setIfInBounds_toArray, List.set_cons_zero, List.set_cons_succ]
        refine txt_skip rfl ?_
        try simp only [Act.put, List.getElem_toArray, List.getElem_cons_succ, List.getElem_cons_zero, List.setIfInBounds_toArray, List.set_cons_zero, List.set_cons_succ]
        refine txt_skip rfl ?_
        try simp only [Act.put, List.getElem_toArray, List.getElem_cons_succ, List.getElem_cons_zero, List.setIfInBounds_toArray, List.set_cons_zero, List.set_cons_succ]
        refine txt_skip rfl ?_
        try simp only [Act.put, List.getElem_toArray, List.getElem_cons_succ, List.getElem_cons_zero, List.setIfInBounds_toArray, List.set_cons_zero, List.set_cons_succ]
        (refine txt_light ?_ rfl rfl ?_ ?_; rotate_left; · (intro w' hS; (try dsimp only at hS); go_simp; with_reducible rfl)); try simp only [Act.put, List.getElem_toArray, List.getElem_cons_succ, List.getElem_cons_zero, List.setIfInBounds_toArray, List.set_cons_zero, List.set_cons_succ]
        (refine txt_light ?_ rfl rfl ?_ ?_; rotate_left; · (intro w' hS; (try dsimp only at hS); go_simp; with_reducible rfl)); try simp only [Act.put, List.getElem_toArray, List.getElem_cons_succ, List.getElem_cons_zero, List.setIfInBounds_toArray, List.set_cons_zero, List.set_cons_succ]
        refine txt_skip rfl ?_
        try simp only [Act.put, List.getElem_toArray, List.getElem_cons_succ, List.getElem_cons_zero, List.setIfInBounds_toArray, List.set_cons_zero, List.set_cons_succ]
        refine txt_skip rfl ?_
        try simp only [Act.put, List.getElem_toArray, List.getElem_cons_succ, List.getElem_cons_zero, List.setIfInBounds_toArray, List.set_cons_zero, List.set_cons_succ]
        refine txt_skip rfl ?_
        try simp only [Act.put, List.getElem_toArray, List.getElem_cons_succ, List.getElem_cons_zero, List.setIfInBounds_toArray, List.set_cons_zero, List.set_cons_succ]
        refine txt_skip rfl ?_
        try simp only [Act.put, List.getElem_toArray, List.getElem_cons_succ, List.getElem_cons_zero, List.setIfInBounds_toArray, List.set_cons_zero, List.set_cons_succ]
        refine txt_skip rfl ?_
        try simp only [Act.put, List.getElem_toArray, List.getElem_cons_succ, List.getElem_cons_zero, List.setIfInBounds_toArray, List.set_cons_zero, List.set_cons_succ]
        refine txt_skip rfl ?_
        try simp only [Act.put, List.getElem_toArray, List.getElem_cons_succ, List.getElem_cons_zero, List.setIfInBounds_toArray, List.set_cons_zero, List.set_cons_succ]
        refine txt_skip rfl ?_
        try simp only [Act.put, List.getElem_toArray, List.getElem_cons_succ, List.getElem_cons_zero, List.setIfInBounds_toArray, List.set_cons_zero, List.set_cons_succ]
        (refine txt_light ?_ rfl rfl ?_ ?_; rotate_left; · (intro w' hS; (try dsimp only at hS); go_simp; with_reducible rfl)); try simp only [Act.put, List.getElem_toArray, List.getElem_cons_succ, List.getElem_cons_zero, List.setIfInBounds_toArray, List.set_cons_zero, List.set_cons_succ]
        refine txt_nil ?_
        have h9 := HNO.out (by rw [HWOL.out]; simp)
        have hbz := hbw'.trans (hbd1.mono hbw'.size)
        go_wp2
        refine bodyPost_ret (v := .tuple #[.int .i64 0, .bool false]) (by simp [results, Try.results20, go_sem]) rfl ⟨by first | rfl | rw [h9.1, h9.2], hbz⟩
      | true =>
        (refine txt_light ?_ rfl rfl ?_ ?_; rotate_left; · (intro w' hS; (try dsimp only at hS); go_simp; with_reducible rfl)); try simp only [Act.put, List.getElem_toArray, List.getElem_cons_succ, List.getElem_cons_zero, List.setIfInBounds_toArray, List.set_cons_zero, List.set_cons_succ]
        refine txt_light (.slice (some ⟨b2, o2, none⟩) N rc) rfl rfl ?_ ?_
        · intro w' hS
          have c7 := (hS.cell (p := ⟨B, 0, none⟩) hBw).trans x0
          clear hS
          go_simp
        try simp only [Act.put, List.getElem_toArray, List.getElem_cons_succ, List.getElem_cons_zero, List.setIfInBounds_toArray, List.set_cons_zero, List.set_cons_succ]
        (refine txt_light ?_ rfl rfl ?_ ?_; rotate_left; · (intro w' hS; (try dsimp only at hS); go_simp; with_reducible rfl)); try simp only [Act.put, List.getElem_toArray, List.getElem_cons_succ, List.getElem_cons_zero, List.setIfInBounds_toArray, List.set_cons_zero, List.set_cons_succ]
        (refine txt_light ?_ rfl rfl ?_ ?_; rotate_left; · (intro w' hS; (try dsimp only at hS); go_simp; with_reducible rfl)); try simp only [Act.put, List.getElem_toArray, List.getElem_cons_succ, List.getElem_cons_zero, List.setIfInBounds_toArray, List.set_cons_zero, List.set_cons_succ]
        refine txt_light (.slice Rp LN Rc) rfl rfl ?_ ?_
        · intro w' hS
          have c7 := (hS.cell (p := ⟨b2, o2 + k, none⟩) hb2).trans d0
          clear hS
          go_simp
        try simp only [Act.put, List.getElem_toArray, List.getElem_cons_succ, List.getElem_cons_zero, List.setIfInBounds_toArray, List.set_cons_zero, List.set_cons_succ]
        refine txt_heavy rfl rfl (fun K hK => ?_)
        go_step
        refine (HALL.out W1 (HRDD.out.keep hbd1)).mono ?_
        rintro e W2 ⟨rfl, hbx⟩
        have hbd2 := hbd1.trans (hbx.mono hbd1.size)
        dsimp only
        refine hK.out _ _ hbd2 ?_
        clear hK K hbx hbd1
        try simp only [Act.put, List.getElem_toArray, List.getElem_cons_succ, List.getElem_cons_zero, List.setIfInBounds_toArray, List.set_cons_zero, List.set_cons_succ]
        (refine txt_light ?_ rfl rfl ?_ ?_; rotate_left; · (intro w' hS; (try dsimp only at hS); go_simp; with_reducible rfl)); try simp only [Act.put, List.getElem_toArray, List.getElem_cons_succ, List.getElem_cons_zero, List.setIfInBounds_toArray, List.set_cons_zero, List.set_cons_succ]
        (refine txt_light ?_ rfl rfl ?_ ?_; rotate_left; · (intro w' hS; (try dsimp only at hS); go_simp; with_reducible rfl)); try simp only [Act.put, List.getElem_toArray, List.getElem_cons_succ, List.getElem_cons_zero, List.setIfInBounds_toArray, List.set_cons_zero, List.set_cons_succ]
        (refine txt_light ?_ rfl rfl ?_ ?_; rotate_left; · (intro w' hS; (try dsimp only at hS); go_simp; with_reducible rfl)); try simp only [Act.put, List.getElem_toArray, List.getElem_cons_succ, List.getElem_cons_zero, List.setIfInBounds_toArray, List.set_cons_zero, List.set_cons_succ]
        cases AL with
        | false =>
          refine txt_skip rfl ?_
          try simp only [Act.put, List.getElem_toArray, List.getElem_cons_succ, List.getElem_cons_zero, List.setIfInBounds_toArray, List.set_cons_zero, List.set_cons_succ]
          refine txt_skip rfl ?_
          try simp only [Act.put, List.getElem_toArray, List.getElem_cons_succ, List.getElem_cons_zero, List.setIfInBounds_toArray, List.set_cons_zero, List.set_cons_succ]
          refine txt_skip rfl ?_
          try simp only [Act.put, List.getElem_toArray, List.getElem_cons_succ, List.getElem_cons_zero, List.setIfInBounds_toArray, List.set_cons_zero, List.set_cons_succ]
          refine txt_skip rfl ?_
          try simp only [Act.put, List.getElem_toArray, List.getElem_cons_succ, List.getElem_cons_zero, List.setIfInBounds_toArray, List.set_cons_zero, List.set_cons_succ]
          refine txt_skip rfl ?_
          try simp only [Act.put, List.getElem_toArray, List.getElem_cons_succ, List.getElem_cons_zero, List.setIfInBounds_toArray, List.set_cons_zero, List.set_cons_succ]
          refine txt_skip rfl ?_
          try simp only [Act.put, List.getElem_toArray, List.getElem_cons_succ, List.getElem_cons_zero, List.setIfInBounds_toArray, List.set_cons_zero, List.set_cons_succ]
          refine txt_skip rfl ?_
          try simp only [Act.put, List.getElem_toArray, List.getElem_cons_succ, List.getElem_cons_zero, List.setIfInBounds_toArray, List.set_cons_zero, List.set_cons_succ]
          (refine txt_light ?_ rfl rfl ?_ ?_; rotate_left; · (intro w' hS; (try dsimp only at hS); go_simp; with_reducible rfl)); try simp only [Act.put, List.getElem_toArray, List.getElem_cons_succ, List.getElem_cons_zero, List.setIfInBounds_toArray, List.set_cons_zero, List.set_cons_succ]
          refine txt_nil ?_
          have h9 := HNO.out (by rw [HWOL.out]; simp)
          have hbz := hbw'.trans (hbd2.mono hbw'.size)
          go_wp2
          refine bodyPost_ret (v := .tuple #[.int .i64 0, .bool false]) (by simp [results, Try.results20, go_sem]) rfl ⟨by first | rfl | rw [h9.1, h9.2], hbz⟩
        | true =>
          (refine txt_light ?_ rfl rfl ?_ ?_; rotate_left; · (intro w' hS; (try dsimp only at hS); go_simp; with_reducible rfl)); try simp only [Act.put, List.getElem_toArray, List.getElem_cons_succ, List.getElem_cons_zero, List.setIfInBounds_toArray, List.set_cons_zero, List.set_cons_succ]
          refine txt_light (.slice (some ⟨b2, o2, none⟩) N rc) rfl rfl ?_ ?_
          · intro w' hS
            have c7 := (hS.cell (p := ⟨B, 0, none⟩) hBw).trans x0
            clear hS
            go_simp
          try simp only [Act.put, List.getElem_toArray, List.getElem_cons_succ, List.getElem_cons_zero, List.setIfInBounds_toArray, List.set_cons_zero, List.set_cons_succ]
          (refine txt_light ?_ rfl rfl ?_ ?_; rotate_left; · (intro w' hS; (try dsimp only at hS); go_simp; with_reducible rfl)); try simp only [Act.put, List.getElem_toArray, List.getElem_cons_succ, List.getElem_cons_zero, List.setIfInBounds_toArray, List.set_cons_zero, List.set_cons_succ]
          (refine txt_light ?_ rfl rfl ?_ ?_; rotate_left; · (intro w' hS; (try dsimp only at hS); go_simp; with_reducible rfl)); try simp only [Act.put, List.getElem_toArray, List.getElem_cons_succ, List.getElem_cons_zero, List.setIfInBounds_toArray, List.set_cons_zero, List.set_cons_succ]
          refine txt_light (.slice Rp LN Rc) rfl rfl ?_ ?_
          · intro w' hS
            have c7 := (hS.cell (p := ⟨b2, o2 + k, none⟩) hb2).trans d0
            clear hS
            go_simp
          try simp only [Act.put, List.getElem_toArray, List.getElem_cons_succ, List.getElem_cons_zero, List.setIfInBounds_toArray, List.set_cons_zero, List.set_cons_succ]
          refine txt_light (.agg #[.int .i64 px, .int .i64 py]) rfl rfl ?_ ?_
          · intro w' hS
            have c5 := (hS.cell (p := ⟨B + 1, 0, none⟩) hsw).trans y0
            have c6 := (hS.cell (p := ⟨B + 1, 1, none⟩) hsw).trans y1
            clear hS
            go_simp
          try simp only [Act.put, List.getElem_toArray, List.getElem_cons_succ, List.getElem_cons_zero, List.setIfInBounds_toArray, List.set_cons_zero, List.set_cons_succ]
          refine txt_heavy rfl rfl (fun K hK => ?_)
          go_step
          refine (HON.out (by trivial) (by trivial) W2 (HRDD.out.keep hbd2)).mono ?_
          rintro e W3 ⟨rfl, hbx⟩
          have hbd3 := hbd2.trans (hbx.mono hbd2.size)
          dsimp only
          refine hK.out _ _ hbd3 ?_
          clear hK K hbx hbd2
          try simp only [Act.put, List.getElem_toArray, List.getElem_cons_succ, List.getElem_cons_zero, List.setIfInBounds_toArray, List.set_cons_zero, List.set_cons_succ]
          (refine txt_light ?_ rfl rfl ?_ ?_; rotate_left; · (intro w' hS; (try dsimp only at hS); go_simp; with_reducible rfl)); try simp only [Act.put, List.getElem_toArray, List.getElem_cons_succ, List.getElem_cons_zero, List.setIfInBounds_toArray, List.set_cons_zero, List.set_cons_succ]
          refine txt_nil ?_
          cases EO with
          | false =>
            have h9 := HNO.out (by rw [HWOL.out]; simp)
            have hbz := hbw'.trans (hbd3.mono hbw'.size)
            go_wp2
            refine bodyPost_ret (v := .tuple #[.int .i64 0, .bool false]) (by simp [results, Try.results20, go_sem]) rfl ⟨by first | rfl | rw [h9.1, h9.2], hbz⟩
          | true =>
            have hWT : WO = true := by rw [HWOL.out]; simp
            obtain rfl := HWEL.out hWT
            have h9 := Lib.hid (HYES.out hWT)
            clear hWT HWEL HNO HYES
            have hblz := hbl.trans (hbd3.mono hbl.size)
            go_wp2_with fail
            refine wp_region_lit_txtZ none [0, 1, 2, 3, 4, 5, 6, 8, 9] (fun W => Below wr.heap.size wr W) (by kernel_rfl) (by kernel_rfl) (by kernel_rfl) (by kernel_rfl) hbd3.drew ?_
            (refine txt_light ?_ rfl rfl ?_ ?_; rotate_left; · (intro w' hS; (try dsimp only at hS); go_simp; with_reducible rfl)); try simp only [Act.put, List.getElem_toArray, List.getElem_cons_succ, List.getElem_cons_zero, List.setIfInBounds_toArray, List.set_cons_zero, List.set_cons_succ]
            (refine txt_light ?_ rfl rfl ?_ ?_; rotate_left; · (intro w' hS; (try dsimp only at hS); go_simp; with_reducible rfl)); try simp only [Act.put, List.getElem_toArray, List.getElem_cons_succ, List.getElem_cons_zero, List.setIfInBounds_toArray, List.set_cons_zero, List.set_cons_succ]
            refine txt_light (.slice (some ⟨b2, o2, none⟩) N rc) rfl rfl ?_ ?_
            · intro w' hS
              have c7 := (hS.cell (p := ⟨B, 0, none⟩) hBw).trans x0
              clear hS
              go_simp
            try simp only [Act.put, List.getElem_toArray, List.getElem_cons_succ, List.getElem_cons_zero, List.setIfInBounds_toArray, List.set_cons_zero, List.set_cons_succ]
            (refine txt_light ?_ rfl rfl ?_ ?_; rotate_left; · (intro w' hS; (try dsimp only at hS); go_simp; with_reducible rfl)); try simp only [Act.put, List.getElem_toArray, List.getElem_cons_succ, List.getElem_cons_zero, List.setIfInBounds_toArray, List.set_cons_zero, List.set_cons_succ]
            (refine txt_light ?_ rfl rfl ?_ ?_; rotate_left; · (intro w' hS; (try dsimp only at hS); go_simp; with_reducible rfl)); try simp only [Act.put, List.getElem_toArray, List.getElem_cons_succ, List.getElem_cons_zero, List.setIfInBounds_toArray, List.set_cons_zero, List.set_cons_succ]
            refine txt_light (.slice Rp LN Rc) rfl rfl ?_ ?_
            · intro w' hS
              have c7 := (hS.cell (p := ⟨b2, o2 + k, none⟩) hb2).trans d0
              clear hS
              go_simp
            try simp only [Act.put, List.getElem_toArray, List.getElem_cons_succ, List.getElem_cons_zero, List.setIfInBounds_toArray, List.set_cons_zero, List.set_cons_succ]
            refine txt_light (.agg #[.int .i64 px, .int .i64 py]) rfl rfl ?_ ?_
            · intro w' hS
              have c5 := (hS.cell (p := ⟨B + 1, 0, none⟩) hsw).trans y0
              have c6 := (hS.cell (p := ⟨B + 1, 1, none⟩) hsw).trans y1
              clear hS
              go_simp
            try simp only [Act.put, List.getElem_toArray, List.getElem_cons_succ, List.getElem_cons_zero, List.setIfInBounds_toArray, List.set_cons_zero, List.set_cons_succ]
            have hbd : Below wr.heap.size wr W3.drew := hbd3.drew
            generalize W3.drew = W4 at *
            refine txt_heavy rfl rfl (fun K hK => ?_)
            go_step
            refine (HWI.out (by trivial) (by trivial) W4 (HRDD.out.keep hbd)).mono ?_
            rintro e W5 ⟨rfl, hbx⟩
            have hbd5 := hbd.trans (hbx.mono hbd.size)
            dsimp only
            refine hK.out _ _ hbd5 ?_
            clear hK K hbx hbd
            try simp only [Act.put, List.getElem_toArray, List.getElem_cons_succ, List.getElem_cons_zero, List.setIfInBounds_toArray, List.set_cons_zero, List.set_cons_succ]
            (refine txt_light ?_ rfl rfl ?_ ?_; rotate_left; · (intro w' hS; (try dsimp only at hS); go_simp; with_reducible rfl)); try simp only [Act.put, List.getElem_toArray, List.getElem_cons_succ, List.getElem_cons_zero, List.setIfInBounds_toArray, List.set_cons_zero, List.set_cons_succ]
            (refine txt_light ?_ rfl rfl ?_ ?_; rotate_left; · (intro w' hS; (try dsimp only at hS); go_simp; with_reducible rfl)); try simp only [Act.put, List.getElem_toArray, List.getElem_cons_succ, List.getElem_cons_zero, List.setIfInBounds_toArray, List.set_cons_zero, List.set_cons_succ]
            refine txt_nil ?_
            have hbl5 := hbl.trans (hbd5.mono hbl.size)
            go_wp2
            exact ⟨⟨k + 1, by omega, by go_num, by rw [HST.out], h9, hbl5⟩, by simp [intOf]; omega⟩
    · obtain rfl : k = N := by omega
      have h8 := HAL.out
      rw [HTA.out] at h8 ⊢
      have hFO : FO = true := by rw [HFO.out]; exact h8
      have h9 : Hid (FF = fwS ⟨px, py⟩ (rs.map PC.l)) := Lib.hid (by rw [HFF.out, hFO]; rfl)
      have h10 := Lib.hid hFO
      clear h8 hFO
      go_wp2
      refine bodyPost_ret (v := .tuple #[.int .i64 (fwS ⟨px, py⟩ (rs.map PC.l)), .bool true]) (by simp [results, Try.results20, go_sem]) rfl ⟨by rw [h9.out, h10.out], by rw [HBE.out]; exact hbw⟩
end Go.Proofs.Ytdginfjlelpkmaa

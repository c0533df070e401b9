/-
  graticuleref12.Nest.
-/
import Derived.Test.YtdginfjlelpkmaaRnest
import Derived.Test.YtdginfjlelpkmaaFnest
set_option linter.unusedVariables false
set_option linter.unusedSimpArgs false
set_option maxRecDepth 100000
namespace Go
open Go.RowKit
theorem areaF_ok {l : List Pt} (h : areaF l ≠ 0) : 3 ≤ l.length ∧ l.all okPt = true := by
  unfold areaF at h
  split at h
  · exact absurd rfl h
  · rename_i h1
    constructor
    · apply Decidable.byContradiction; intro h2; exact h1 (.inl (by omega))
    · cases h2 : l.all okPt with
      | true => rfl
      | false => exact absurd (.inr h2) h1
/-- What Beside tells, by what lies above. -/
theorem besOk_eq (L : List Pt) (a b : Pt) (hL : L.all okPt = true) (ha : okPt a = true) (hb : okPt b = true) (hab : ¬ (a.x = b.x ∧ a.y = b.y)) : besOk L a b = (edges L).all (offM (besM a b) (besV a b)) := by
  unfold besOk
  rw [decide_eq_false hab, ha, hb, hL]
  simp
theorem besOk_same (L : List Pt) (a b : Pt) (hab : a.x = b.x ∧ a.y = b.y) : besOk L a b = false := by
  unfold besOk
  rw [decide_eq_true hab]
  rfl
theorem besF_eq (L : List Pt) (a b : Pt) (h : besOk L a b = true) : albT (besM a b) (besV a b) (edges L) = besF L a b := by
  unfold besF
  rw [if_pos h]
  unfold besOk at h
  simp only [Bool.and_eq_true, Bool.not_eq_true', decide_eq_false_iff_not] at h
  refine (besS_albT _ _ ?_ L h.2.2.2).symm
  unfold besV
  dsimp only
  intro ⟨h1, h2⟩
  exact h.1 ⟨by omega, by omega⟩
/-- The place that Nest takes, one ring after the other. -/
def lstA (rs : List (List Pt)) (x : Int) : Int := if x < 0 then 0 else areaF rs[x.toNat]!
end Go
namespace Go.Proofs.Ytdginfjlelpkmaa
open Go.RowKit

theorem rbes3_eq (a : Option Addr) (c : Nat) (L : List Pt) (hlen : L.length ≤ 1000) (hok : L.all okPt = true) (u v : Pt) (hu : okPt u = true) (hv : okPt v = true) (hne : ¬ (u.x = v.x ∧ u.y = v.y)) (w : World) (hr : Rd w a (pts L)) :
    Calls Try.prog 36 #[.slice a L.length c, u.val, v.val] w fun e w' => e = .returned (.tuple #[.int .i64 (besF L u v), .bool (besOk L u v)]) ∧ Below w.heap.size w w' := by
  refine (rbes3_any a c L hlen hok u v hu hv w hr).mono ?_
  rintro e w' ⟨rfl, hb⟩
  refine ⟨?_, hb⟩
  have h1 := besOk_eq L u v hok hu hv hne
  rw [← h1]
  cases h2 : besOk L u v with
  | true => rw [if_pos rfl, besF_eq L u v h2]
  | false => unfold besF; rw [h2]; rfl

set_option maxHeartbeats 12800000 in
theorem rnest12_any (f : Fc) (hn : f.rs.length ≤ 1000) (hl : ∀ r ∈ f.rs, r.l.length ≤ 1000) (w : World) (hok : f.Ok w) :
    Calls Try.prog 18 #[f.val] w fun e w' => ∃ v, e = .returned (.tuple #[v, .bool (nestF f.rings).2]) ∧ w'.ownsRow w.heap.size 3 1 v (nestF f.rings).1.length ((nestF f.rings).1.map (Value.int .i64)) ∧ Below w.heap.size w w' := by
  have HLL := Lib.hid hl
  have HOK := Lib.hid hok
  have HRG : Hid (f.rings = f.rs.map PC.l) := Lib.hid rfl
  have HT : Hid (nestF f.rings = nestGo f.rings [] (f.rs.map PC.l)) := Lib.hid rfl
  generalize nestF f.rings = TT at *
  generalize f.rings = RS at *
  obtain ⟨rs, ra, rc, ls, aa, ac⟩ := f
  have hrc := hok.1.2
  dsimp only [Fc.val, Fc.rval, Fc.aval] at HT HLL hn hrc ⊢
  obtain ⟨N, hN⟩ : ∃ N, rs.length = N := ⟨_, rfl⟩
  have HN := Lib.hid hN
  rw [hN] at hn hrc ⊢
  clear hN hl hok
  obtain ⟨B, hB⟩ : ∃ B, w.heap.size = B := ⟨_, rfl⟩
  have HBE := Lib.hid hB
  have hHS := Below.new w (.cells #[.slice ra N rc, .slice aa ls.length ac] 54)
  have kF : Blk (w.alloc (.cells #[.slice ra N rc, .slice aa ls.length ac] 54)) B [.slice ra N rc, .slice aa ls.length ac] := Blk.lit w B [.slice ra N rc, .slice aa ls.length ac] 54 hB
  have hsz : (w.alloc (.cells #[.slice ra N rc, .slice aa ls.length ac] 54)).heap.size = w.heap.size + 1 := by simp
  go_enter Try.func18, Try.ntmps18
  go_wp2
  generalize w.alloc (.cells #[.slice ra N rc, .slice aa ls.length ac] 54) = wS at *
  rw [hB] at hsz
  clear hB
  go_loopw [4, 5] (fun o i wr => ∃ (k : Nat) (acc : List Int), k ≤ N ∧ i = .int .i64 k ∧ acc.length = k ∧ wr.ownsRow wS.heap.size 3 1 o k (acc.map (Value.int .i64)) ∧ Hid (TT = nestGo RS acc ((rs.drop k).map PC.l)) ∧ Below wS.heap.size wS wr) (fun _ i _ => N - (intOf i).toNat)
  case atStart => exact ⟨0, [], by omega, rfl, rfl, World.ownsRow_nil _ _ _ _, HT, Below.refl _ _⟩
  case round =>
    obtain ⟨i, acc, hi, rfl, hal, ho, HZ, hbl⟩ := hrel
    have hbw := hHS.trans (hbl.mono (by rw [hsz, HBE.out]; omega))
    have k1 := kF.keep hbl
    have x0 := k1.cell 0 rfl
    by_cases h1 : i < N
    · have h1' : (i : Int) < (N : Int) := by omega
      have hkl : i < rs.length := by rw [HN.out]; exact h1
      obtain ⟨b2, o2, rfl, hb2, d0⟩ := HOK.out.1.1.rc i hkl
      rw [HBE.out] at hb2
      have d0 := (hbw.cell (p := ⟨b2, o2 + i, none⟩) (by rw [HBE.out]; exact hb2)).trans d0
      have HRO := Lib.hid (HOK.out.2.1 _ (List.getElem_mem hkl))
      have hL := HLL.out rs[i] (List.getElem_mem hkl)
      have HD : Hid (rs.drop i = rs[i] :: rs.drop (i + 1)) := Lib.hid (List.drop_eq_getElem_cons hkl)
      generalize rs[i] = R at *
      obtain ⟨LL, Rp, Rc⟩ := R
      dsimp only [PC.val] at d0 hL
      have HZ2 : Hid (TT = if areaF LL = 0 then ([], false) else if areaF LL < 0 then (if arF RS LL < 0 then ([], false) else nestGo RS (acc ++ [arF RS LL]) ((rs.drop (i + 1)).map PC.l)) else nestGo RS (acc ++ [-1]) ((rs.drop (i + 1)).map PC.l)) := Lib.hid (by
        rw [HZ.out, HD.out]; rfl)
      have HAC := Lib.hid (fun W h => rarea12_any Rp Rc LL hL W h)
      have HAOK := Lib.hid (fun h => areaF_ok (l := LL) h)
      have HAF : Hid (arF RS LL = arGo LL 0 (-1) 0 RS) := Lib.hid rfl
      obtain ⟨AR, hAR⟩ : ∃ z, areaF LL = z := ⟨_, rfl⟩
      obtain ⟨AF, hAF⟩ : ∃ z, arF RS LL = z := ⟨_, rfl⟩
      rw [hAR] at HZ2 HAC HAOK
      rw [hAF] at HZ2 HAF
      clear hAR hAF HZ
      go_wp2_with fail
      refine (HAC.out _ (HRO.out.1.keep hbw)).mono ?_
      rintro e w2 ⟨rfl, hx2⟩
      have hb2' := hbl.trans (hx2.mono hbl.size)
      have ho2 := ho.below hx2
      have hbw2 := hHS.trans (hb2'.mono (by rw [hsz, HBE.out]; omega))
      have k2 := k1.keep hx2
      have d1 := (hbw2.cell (p := ⟨b2, o2 + i, none⟩) (by rw [HBE.out]; exact hb2)).trans ((hbw.cell (p := ⟨b2, o2 + i, none⟩) (by rw [HBE.out]; exact hb2)).symm.trans d0)
      clear ho hx2 k1 x0 d0
      have x0 := k2.cell 0 rfl
      by_cases q1 : AR = 0
      · have HV : Hid (TT = ([], false)) := Lib.hid (by rw [HZ2.out, if_pos q1])
        go_wp2
        refine bodyPost_ret (v := .tuple #[.slice none 0 0, .bool false]) (by simp [results, Try.results18, go_sem]) rfl ⟨.slice none 0 0, by rw [HV.out], by rw [HV.out]; exact World.ownsRow_nil _ _ _ _, hbw2⟩
      · by_cases q2 : AR < 0
        · have q2' : ¬ 0 < AR := by omega
          have q1' : (AR == 0) = false := by simpa using q1
          obtain ⟨g1, g2⟩ := HAOK.out q1
          have HG2 := Lib.hid g2
          have o0 := ok_get LL g2 0 (by omega)
          have o1 := ok_get LL g2 1 (by omega)
          have e0 : LL[0]! = LL[0] := getElem!_pos LL 0 (by omega)
          have e1 : LL[1]! = LL[1] := getElem!_pos LL 1 (by omega)
          obtain ⟨hb, hho, rfl, hhb, p0, p1⟩ := (HRO.out.1.keep hbw2).pt 0 (by dsimp only; omega)
          obtain ⟨hb', hho', e, hhb', p2, p3⟩ := (HRO.out.1.keep hbw2).pt 1 (by dsimp only; omega)
          cases e
          rw [Nat.zero_mul, Nat.add_zero] at p0 p1
          rw [Nat.one_mul] at p2 p3
          rw [← e0] at p0 p1
          rw [← e1] at p2 p3
          clear e0 e1 g2
          have HRNG := Lib.hid (fun (k : Nat) (hk : k < rs.length) => (HOK.out.1.1).rc k hk)
          have n1 : hb ≠ w2.heap.size := by omega
          have n2 : hb ≠ w2.heap.size + 1 := by omega
          have hs2 : B ≤ w2.heap.size := by have := hbw2.size; rw [HBE.out] at this; exact this
          have hB2 : B < w2.heap.size := k2.lt
          have hb22 : b2 < w2.heap.size := by omega
          have n3 : b2 ≠ w2.heap.size := by omega
          have n4 : b2 ≠ w2.heap.size + 1 := by omega
          have n5 : B ≠ w2.heap.size := by have := k2.lt; omega
          have n6 : B ≠ w2.heap.size + 1 := by have := k2.lt; omega
          have h2a : (0 : Int) < (LL.length : Int) := by omega
          have n2a : 0 < LL.length := by omega
          have n2b : 1 < LL.length := by omega
          have h2b : (1 : Int) < (LL.length : Int) := by omega
          have HSTEP : ∀ (k : Nat) (x y : Int) (r : List Pt) (l : List (List Pt)), arGo LL k x y (r :: l) = if areaF r ≤ 0 then arGo LL (k + 1) x y l else if besOk r LL[0]! LL[1]! = false then -1 else if 0 < besF r LL[0]! LL[1]! ∧ (x < 0 ∨ areaF r < y) then arGo LL (k + 1) k (areaF r) l else arGo LL (k + 1) x y l := by
            intro k x y r l
            rw [arGo]
            by_cases h : areaF r ≤ 0
            · rw [if_pos (.inl h), if_pos h]
            · rw [if_neg (by intro h'; rcases h' with h' | h' <;> omega), if_neg h]
          replace HSTEP := Lib.hid HSTEP
          generalize LL[0]! = P0 at *
          generalize LL[1]! = P1 at *
          have HBES := Lib.hid (fun (a : Option Addr) (c : Nat) (L : List Pt) (h1 : L.length ≤ 1000) (h2 : L.all okPt = true) (hne : ¬ (P0.x = P1.x ∧ P0.y = P1.y)) (W : World) (h : Rd W a (pts L)) => rbes3_eq a c L h1 h2 P0 P1 o0 o1 hne W h)
          have HSAME := Lib.hid (fun (L : List Pt) (h : P0.x = P1.x ∧ P0.y = P1.y) => besOk_same L P0 P1 h)
          obtain ⟨x1, y1⟩ := P0
          obtain ⟨x2, y2⟩ := P1
          dsimp only [Pt.val] at p0 p1 p2 p3 HBES HSAME
          clear o0 o1
          go_wp2
          rename_i K1 hK1 hqq K0 hK0
          replace hK1 := Lib.hid hK1
          replace hK0 := Lib.hid hK0
          have main : ∀ (pA qA : Nat) (W : World), Below wS.heap.size wS W → W.ownsRow wS.heap.size 3 1 u4 i (acc.map (Value.int .i64)) → Blk W pA [.int .i64 x1, .int .i64 y1] → Blk W qA [.int .i64 x2, .int .i64 y2] → K0 { tmps := List.toArray ((.agg #[.slice (some ⟨b2, o2, none⟩) N rc, .slice aa ls.length ac]) :: (.pointer (some ⟨B, 0, none⟩)) :: u2 :: u3 :: u4 :: (.int .i64 (i : Int)) :: (.int .i64 AR) :: (.pointer (some ⟨pA, 0, none⟩)) :: (.pointer (some ⟨qA, 0, none⟩)) :: u9 :: u10 :: u11 :: u12 :: (.int .i64 (i : Int)) :: (.pointer (some ⟨B, 0, none⟩)) :: (.slice (some ⟨b2, o2, none⟩) N rc) :: (.int .i64 (N : Int)) :: (.bool true) :: u18 :: u19 :: (.pointer (some ⟨B, 0, none⟩)) :: (.slice (some ⟨b2, o2, none⟩) N rc) :: (.int .i64 (i : Int)) :: (.pointer (some ⟨b2, o2 + i, none⟩)) :: (.slice (some ⟨hb, hho, none⟩) LL.length Rc) :: (.int .i64 AR) :: (.int .i64 AR) :: (.bool false) :: (.int .i64 AR) :: (.bool (decide (0 < AR))) :: u30 :: u31 :: u32 :: (.pointer (some ⟨B, 0, none⟩)) :: (.slice (some ⟨b2, o2, none⟩) N rc) :: (.int .i64 (i : Int)) :: (.pointer (some ⟨b2, o2 + i, none⟩)) :: (.slice (some ⟨hb, hho, none⟩) LL.length Rc) :: (.pointer (some ⟨hb, hho, none⟩)) :: (.agg #[.int .i64 x1, .int .i64 y1]) :: (.pointer (some ⟨B, 0, none⟩)) :: (.slice (some ⟨b2, o2, none⟩) N rc) :: (.int .i64 (i : Int)) :: (.pointer (some ⟨b2, o2 + i, none⟩)) :: (.slice (some ⟨hb, hho, none⟩) LL.length Rc) :: (.pointer (some ⟨hb, hho + 2, none⟩)) :: (.agg #[.int .i64 x2, .int .i64 y2]) :: u47 :: u48 :: u49 :: u50 :: u51 :: u52 :: u53 :: u54 :: u55 :: u56 :: u57 :: u58 :: u59 :: u60 :: u61 :: u62 :: u63 :: u64 :: u65 :: u66 :: u67 :: u68 :: u69 :: u70 :: u71 :: u72 :: u73 :: u74 :: u75 :: u76 :: u77 :: u78 :: u79 :: u80 :: u81 :: u82 :: u83 :: u84 :: u85 :: u86 :: u87 :: u88 :: u89 :: u90 :: u91 :: u92 :: u93 :: u94 :: u95 :: u96 :: u97 :: u98 :: u99 :: u100 :: u101 :: u102 :: u103 :: u104 :: undef :: []), defers := [] } W := by
            intro pA qA W hbW hoW kP kQ
            refine hK0.out _ _ ?_
            clear hK0 K0 p0 p1 p2 p3 d1 x0 n1 n2 n3 n4 n5 n6 k2 ho2 hb2' hbw2 hs2 hbl hbw
            have hbw := hHS.trans (hbW.mono (by rw [hsz, HBE.out]; omega))
            have kW := kF.keep hbW
            go_wp2
            go_loopw [9, 10] (fun o j W' => ∃ (k : Nat) (x : Int), k ≤ N ∧ j = .int .i64 k ∧ o = .int .i64 x ∧ (x = -1 ∨ ∃ m : Nat, x = m ∧ m < k) ∧ Hid (AF = arGo LL k x (lstA RS x) (RS.drop k)) ∧ Below W.heap.size W W') (fun _ j _ => N - (intOf j).toNat)
            case atStart => exact ⟨0, -1, by omega, rfl, rfl, .inl rfl, HAF, Below.refl _ _⟩
            case round =>
              obtain ⟨k, x, hk, rfl, rfl, hx, HZ, hbl⟩ := hrel
              have k1 := kW.keep hbl
              have x0 := k1.cell 0 rfl
              have hbX := hbw.trans (hbl.mono hbw.size)
              by_cases h2 : k < N
              · have h2' : (k : Int) < (N : Int) := by omega
                have hkr : k < rs.length := by rw [HN.out]; exact h2
                obtain ⟨bb, oo, e, hb3, f0⟩ := HRNG.out k hkr
                cases e
                rw [HBE.out] at hb3
                have f1 := (hbX.cell (p := ⟨b2, o2 + k, none⟩) (by rw [HBE.out]; exact hb2)).trans f0
                have HRO2 := Lib.hid (HOK.out.2.1 _ (List.getElem_mem hkr))
                have hL2 := HLL.out rs[k] (List.getElem_mem hkr)
                have HD2 : Hid (RS.drop k = rs[k].l :: RS.drop (k + 1)) := Lib.hid (by
                  rw [HRG.out, List.drop_eq_getElem_cons (by rw [List.length_map]; exact hkr)]; simp)
                have HAT : Hid (areaF RS[k]! = areaF rs[k].l) := Lib.hid (by
                  rw [getElem!_pos RS k (by rw [HRG.out, List.length_map]; exact hkr)]
                  congr 1
                  simp [HRG.out])
                generalize rs[k] = R2 at *
                obtain ⟨L2, P2, C2⟩ := R2
                dsimp only [PC.val] at f1 hL2
                have HZ2' : Hid (AF = if areaF L2 ≤ 0 then arGo LL (k + 1) x (lstA RS x) (RS.drop (k + 1)) else if besOk L2 ⟨x1, y1⟩ ⟨x2, y2⟩ = false then -1 else if 0 < besF L2 ⟨x1, y1⟩ ⟨x2, y2⟩ ∧ (x < 0 ∨ areaF L2 < lstA RS x) then arGo LL (k + 1) k (areaF L2) (RS.drop (k + 1)) else arGo LL (k + 1) x (lstA RS x) (RS.drop (k + 1))) := Lib.hid (by
                  rw [HZ.out, HD2.out]; exact HSTEP.out k x _ _ _)
                have HLK : Hid (lstA RS (k : Int) = areaF L2) := Lib.hid (by
                  unfold lstA
                  rw [if_neg (by omega)]
                  exact HAT.out)
                have HAC2 := Lib.hid (fun W h => rarea12_any P2 C2 L2 hL2 W h)
                have HAOK2 := Lib.hid (fun h => areaF_ok (l := L2) h)
                have HB2 := Lib.hid (fun h2 hne W h => HBES.out P2 C2 L2 hL2 h2 hne W h)
                have HS2 := Lib.hid (fun h => HSAME.out L2 h)
                obtain ⟨A2, hA2⟩ : ∃ z, areaF L2 = z := ⟨_, rfl⟩
                obtain ⟨BO, hBO⟩ : ∃ z, besOk L2 ⟨x1, y1⟩ ⟨x2, y2⟩ = z := ⟨_, rfl⟩
                obtain ⟨BF, hBF⟩ : ∃ z, besF L2 ⟨x1, y1⟩ ⟨x2, y2⟩ = z := ⟨_, rfl⟩
                rw [hA2, hBO, hBF] at HZ2'
                rw [hA2] at HLK HAC2 HAOK2
                rw [hBO, hBF] at HB2
                rw [hBO] at HS2
                clear hA2 hBO hBF HZ HD2 HAT f0
                go_wp2_with fail
                refine (HAC2.out _ (HRO2.out.1.keep hbX)).mono ?_
                rintro e V1 ⟨rfl, hx1⟩
                have hblV := hbl.trans (hx1.mono hbl.size)
                have hbXV := hbX.trans (hx1.mono hbX.size)
                have kPV := kP.keep hblV
                have kQV := kQ.keep hblV
                have kFV := kW.keep hblV
                have x0 := kFV.cell 0 rfl
                have e0 := kPV.cell 0 rfl
                have e1 := kPV.cell 1 rfl
                have e2 := kQV.cell 0 rfl
                have e3 := kQV.cell 1 rfl
                have f2 := (hx1.cell (p := ⟨b2, o2 + k, none⟩) (by have := hbX.size; rw [HBE.out] at this; dsimp only; omega)).trans f1
                have hb2V : b2 < V1.heap.size := by have := hbXV.size; rw [HBE.out] at this; omega
                have hBV : B < V1.heap.size := kFV.lt
                have hpV : pA < V1.heap.size := kPV.lt
                have hqV : qA < V1.heap.size := kQV.lt
                clear f1 k1 hx1
                by_cases q3 : A2 ≤ 0
                · have HZ3 : Hid (AF = arGo LL (k + 1) x (lstA RS x) (RS.drop (k + 1))) := Lib.hid (by rw [HZ2'.out, if_pos q3])
                  have hx' : x = -1 ∨ ∃ m : Nat, x = m ∧ m < k + 1 := by rcases hx with h | ⟨m, h, h'⟩; exact .inl h; exact .inr ⟨m, h, by omega⟩
                  go_wp2
                  exact ⟨⟨k + 1, x, by omega, by go_num, rfl, hx', HZ3, hblV⟩, by simp [intOf]; omega⟩
                · obtain ⟨-, g4⟩ := HAOK2.out (by omega)
                  have HG4 := Lib.hid g4
                  clear g4
                  by_cases hxx : x1 = x2 ∧ y1 = y2
                  · have hBO := HS2.out hxx
                    have HAM : Hid (AF = -1) := Lib.hid (by rw [HZ2'.out, if_neg q3, if_pos hBO])
                    have HV : Hid (TT = ([], false)) := Lib.hid (by rw [HZ2.out, if_neg q1, if_pos (by omega), if_pos (by rw [HAM.out]; omega)])
                    obtain ⟨hxa, hya⟩ := hxx
                    have hxa1 : (x1 == x2) = true := by simpa using hxa
                    have hya1 : (y1 == y2) = true := by simpa using hya
                    clear hBO
                    go_wp2
                    refine bodyPost_ret (v := .tuple #[.slice none 0 0, .bool false]) (by simp [results, Try.results18, go_sem]) rfl ⟨.slice none 0 0, by rw [HV.out], by rw [HV.out]; exact World.ownsRow_nil _ _ _ _, hbXV⟩
                  · have HNE := Lib.hid hxx
                    have hcase : (x1 == x2) = false ∨ ((x1 == x2) = true ∧ (y1 == y2) = false) := by
                      by_cases h : x1 = x2
                      · right; exact ⟨by simpa using h, by simpa using fun h' => hxx ⟨h, h'⟩⟩
                      · left; simpa using h
                    clear hxx
                    rename_i KA hKA KB hKB KC hKC
                    replace hKA := Lib.hid hKA
                    have mainA : KA { tmps := List.toArray ((.agg #[.slice (some ⟨b2, o2, none⟩) N rc, .slice aa ls.length ac]) :: (.pointer (some ⟨B, 0, none⟩)) :: u2 :: u3 :: u4 :: (.int .i64 (i : Int)) :: (.int .i64 AR) :: (.pointer (some ⟨pA, 0, none⟩)) :: (.pointer (some ⟨qA, 0, none⟩)) :: (.int .i64 x) :: (.int .i64 (k : Int)) :: u11 :: u12 :: (.int .i64 (i : Int)) :: (.pointer (some ⟨B, 0, none⟩)) :: (.slice (some ⟨b2, o2, none⟩) N rc) :: (.int .i64 (N : Int)) :: (.bool true) :: u18 :: u19 :: (.pointer (some ⟨B, 0, none⟩)) :: (.slice (some ⟨b2, o2, none⟩) N rc) :: (.int .i64 (i : Int)) :: (.pointer (some ⟨b2, o2 + i, none⟩)) :: (.slice (some ⟨hb, hho, none⟩) LL.length Rc) :: (.int .i64 AR) :: (.int .i64 AR) :: (.bool false) :: (.int .i64 AR) :: (.bool (decide (0 < AR))) :: u30 :: u31 :: u32 :: (.pointer (some ⟨B, 0, none⟩)) :: (.slice (some ⟨b2, o2, none⟩) N rc) :: (.int .i64 (i : Int)) :: (.pointer (some ⟨b2, o2 + i, none⟩)) :: (.slice (some ⟨hb, hho, none⟩) LL.length Rc) :: (.pointer (some ⟨hb, hho, none⟩)) :: (.agg #[.int .i64 x1, .int .i64 y1]) :: (.pointer (some ⟨B, 0, none⟩)) :: (.slice (some ⟨b2, o2, none⟩) N rc) :: (.int .i64 (i : Int)) :: (.pointer (some ⟨b2, o2 + i, none⟩)) :: (.slice (some ⟨hb, hho, none⟩) LL.length Rc) :: (.pointer (some ⟨hb, hho + 2, none⟩)) :: (.agg #[.int .i64 x2, .int .i64 y2]) :: (.int .i64 (k : Int)) :: (.pointer (some ⟨B, 0, none⟩)) :: (.slice (some ⟨b2, o2, none⟩) N rc) :: (.int .i64 (N : Int)) :: (.bool true) :: u52 :: u53 :: (.pointer (some ⟨B, 0, none⟩)) :: (.slice (some ⟨b2, o2, none⟩) N rc) :: (.int .i64 (k : Int)) :: (.pointer (some ⟨b2, o2 + k, none⟩)) :: (.slice P2 L2.length C2) :: (.int .i64 A2) :: (.bool (decide (A2 ≤ 0))) :: u61 :: u62 :: u63 :: u64 :: u65 :: u66 :: u67 :: u68 :: u69 :: u70 :: u71 :: u72 :: u73 :: u74 :: u75 :: u76 :: u77 :: u78 :: u79 :: u80 :: u81 :: u82 :: u83 :: u84 :: u85 :: u86 :: u87 :: u88 :: u89 :: u90 :: u91 :: u92 :: u93 :: u94 :: u95 :: u96 :: u97 :: u98 :: u99 :: u100 :: u101 :: u102 :: u103 :: u104 :: undef :: []), defers := [] } V1 := by
                      refine hKA.out _ _ ?_
                      clear hKA hKB hKC KC KB
                      go_step
                      rename_i KR hKR
                      replace hKR := Lib.hid hKR
                      have main3 : KR { tmps := List.toArray ((.agg #[.slice (some ⟨b2, o2, none⟩) N rc, .slice aa ls.length ac]) :: (.pointer (some ⟨B, 0, none⟩)) :: u2 :: u3 :: u4 :: (.int .i64 (i : Int)) :: (.int .i64 AR) :: (.pointer (some ⟨pA, 0, none⟩)) :: (.pointer (some ⟨qA, 0, none⟩)) :: (.int .i64 x) :: (.int .i64 (k : Int)) :: u11 :: u12 :: (.int .i64 (i : Int)) :: (.pointer (some ⟨B, 0, none⟩)) :: (.slice (some ⟨b2, o2, none⟩) N rc) :: (.int .i64 (N : Int)) :: (.bool true) :: u18 :: u19 :: (.pointer (some ⟨B, 0, none⟩)) :: (.slice (some ⟨b2, o2, none⟩) N rc) :: (.int .i64 (i : Int)) :: (.pointer (some ⟨b2, o2 + i, none⟩)) :: (.slice (some ⟨hb, hho, none⟩) LL.length Rc) :: (.int .i64 AR) :: (.int .i64 AR) :: (.bool false) :: (.int .i64 AR) :: (.bool (decide (0 < AR))) :: u30 :: u31 :: u32 :: (.pointer (some ⟨B, 0, none⟩)) :: (.slice (some ⟨b2, o2, none⟩) N rc) :: (.int .i64 (i : Int)) :: (.pointer (some ⟨b2, o2 + i, none⟩)) :: (.slice (some ⟨hb, hho, none⟩) LL.length Rc) :: (.pointer (some ⟨hb, hho, none⟩)) :: (.agg #[.int .i64 x1, .int .i64 y1]) :: (.pointer (some ⟨B, 0, none⟩)) :: (.slice (some ⟨b2, o2, none⟩) N rc) :: (.int .i64 (i : Int)) :: (.pointer (some ⟨b2, o2 + i, none⟩)) :: (.slice (some ⟨hb, hho, none⟩) LL.length Rc) :: (.pointer (some ⟨hb, hho + 2, none⟩)) :: (.agg #[.int .i64 x2, .int .i64 y2]) :: (.int .i64 (k : Int)) :: (.pointer (some ⟨B, 0, none⟩)) :: (.slice (some ⟨b2, o2, none⟩) N rc) :: (.int .i64 (N : Int)) :: (.bool true) :: u52 :: u53 :: (.pointer (some ⟨B, 0, none⟩)) :: (.slice (some ⟨b2, o2, none⟩) N rc) :: (.int .i64 (k : Int)) :: (.pointer (some ⟨b2, o2 + k, none⟩)) :: (.slice P2 L2.length C2) :: (.int .i64 A2) :: (.bool (decide (A2 ≤ 0))) :: (.agg #[.int .i64 x1, .int .i64 y1]) :: (.agg #[.int .i64 x2, .int .i64 y2]) :: (.bool false) :: u64 :: u65 :: u66 :: u67 :: u68 :: u69 :: u70 :: u71 :: u72 :: u73 :: u74 :: u75 :: u76 :: u77 :: u78 :: u79 :: u80 :: u81 :: u82 :: u83 :: u84 :: u85 :: u86 :: u87 :: u88 :: u89 :: u90 :: u91 :: u92 :: u93 :: u94 :: u95 :: u96 :: u97 :: u98 :: u99 :: u100 :: u101 :: u102 :: u103 :: u104 :: undef :: []), defers := [] } V1 := by
                        refine hKR.out _ _ ?_
                        clear hKR
                        go_wp2
                        refine wp_region_lit_txtZ none [0, 1, 2, 3, 4, 5, 6, 8, 9, 10, 11, 12] (fun W' => Below V1.heap.size V1 W') (by kernel_rfl) (by kernel_rfl) (by kernel_rfl) (by kernel_rfl) (Below.refl _ _).drew ?_
                        (refine txt_light ?_ rfl rfl ?_ ?_; rotate_left; · (intro w' hS; (try dsimp only at hS); go_simp; with_reducible rfl)); try simp only [Act.put, List.getElem_toArray, List.getElem_cons_succ, List.getElem_cons_zero, List.setIfInBounds_toArray, List.set_cons_zero, List.set_cons_succ]
                        refine txt_light (.slice (some ⟨b2, o2, none⟩) N rc) rfl rfl ?_ ?_
                        · intro w' hS
                          have c7 := (hS.cell (p := ⟨B, 0, none⟩) hBV).trans x0
                          clear hS
                          go_simp
                        try simp only [Act.put, List.getElem_toArray, List.getElem_cons_succ, List.getElem_cons_zero, List.setIfInBounds_toArray, List.set_cons_zero, List.set_cons_succ]
                        (refine txt_light ?_ rfl rfl ?_ ?_; rotate_left; · (intro w' hS; (try dsimp only at hS); go_simp; with_reducible rfl)); try simp only [Act.put, List.getElem_toArray, List.getElem_cons_succ, List.getElem_cons_zero, List.setIfInBounds_toArray, List.set_cons_zero, List.set_cons_succ]
                        (refine txt_light ?_ rfl rfl ?_ ?_; rotate_left; · (intro w' hS; (try dsimp only at hS); go_simp; with_reducible rfl)); try simp only [Act.put, List.getElem_toArray, List.getElem_cons_succ, List.getElem_cons_zero, List.setIfInBounds_toArray, List.set_cons_zero, List.set_cons_succ]
                        refine txt_light (.slice P2 L2.length C2) rfl rfl ?_ ?_
                        · intro w' hS
                          have c7 := (hS.cell (p := ⟨b2, o2 + k, none⟩) hb2V).trans f2
                          clear hS
                          go_simp
                        try simp only [Act.put, List.getElem_toArray, List.getElem_cons_succ, List.getElem_cons_zero, List.setIfInBounds_toArray, List.set_cons_zero, List.set_cons_succ]
                        refine txt_light (.agg #[.int .i64 x1, .int .i64 y1]) rfl rfl ?_ ?_
                        · intro w' hS
                          have c5 := (hS.cell (p := ⟨pA, 0, none⟩) hpV).trans e0
                          have c6 := (hS.cell (p := ⟨pA, 1, none⟩) hpV).trans e1
                          clear hS
                          go_simp
                        try simp only [Act.put, List.getElem_toArray, List.getElem_cons_succ, List.getElem_cons_zero, List.setIfInBounds_toArray, List.set_cons_zero, List.set_cons_succ]
                        refine txt_light (.agg #[.int .i64 x2, .int .i64 y2]) rfl rfl ?_ ?_
                        · intro w' hS
                          have c5 := (hS.cell (p := ⟨qA, 0, none⟩) hqV).trans e2
                          have c6 := (hS.cell (p := ⟨qA, 1, none⟩) hqV).trans e3
                          clear hS
                          go_simp
                        try simp only [Act.put, List.getElem_toArray, List.getElem_cons_succ, List.getElem_cons_zero, List.setIfInBounds_toArray, List.set_cons_zero, List.set_cons_succ]
                        have hbd : Below V1.heap.size V1 V1.drew := (Below.refl _ _).drew
                        generalize V1.drew = W0 at *
                        refine txt_heavy rfl rfl (fun K hK => ?_)
                        go_step
                        refine (HB2.out HG4.out HNE.out W0 (HRO2.out.1.keep (hbXV.trans (hbd.mono hbXV.size)))).mono ?_
                        rintro e V2 ⟨rfl, hbx⟩
                        have hbd2 := hbd.trans (hbx.mono hbd.size)
                        dsimp only
                        refine hK.out _ _ hbd2 ?_
                        clear hK K hbx hbd
                        try simp only [Act.put, List.getElem_toArray, List.getElem_cons_succ, List.getElem_cons_zero, List.setIfInBounds_toArray, List.set_cons_zero, List.set_cons_succ]
                        (refine txt_light ?_ rfl rfl ?_ ?_; rotate_left; · (intro w' hS; (try dsimp only at hS); go_simp; with_reducible rfl)); try simp only [Act.put, List.getElem_toArray, List.getElem_cons_succ, List.getElem_cons_zero, List.setIfInBounds_toArray, List.set_cons_zero, List.set_cons_succ]
                        (refine txt_light ?_ rfl rfl ?_ ?_; rotate_left; · (intro w' hS; (try dsimp only at hS); go_simp; with_reducible rfl)); try simp only [Act.put, List.getElem_toArray, List.getElem_cons_succ, List.getElem_cons_zero, List.setIfInBounds_toArray, List.set_cons_zero, List.set_cons_succ]
                        (refine txt_light ?_ rfl rfl ?_ ?_; rotate_left; · (intro w' hS; (try dsimp only at hS); go_simp; with_reducible rfl)); try simp only [Act.put, List.getElem_toArray, List.getElem_cons_succ, List.getElem_cons_zero, List.setIfInBounds_toArray, List.set_cons_zero, List.set_cons_succ]
                        (refine txt_light ?_ rfl rfl ?_ ?_; rotate_left; · (intro w' hS; (try dsimp only at hS); go_simp; with_reducible rfl)); try simp only [Act.put, List.getElem_toArray, List.getElem_cons_succ, List.getElem_cons_zero, List.setIfInBounds_toArray, List.set_cons_zero, List.set_cons_succ]
                        (refine txt_light ?_ rfl rfl ?_ ?_; rotate_left; · (intro w' hS; (try dsimp only at hS); go_simp; with_reducible rfl)); try simp only [Act.put, List.getElem_toArray, List.getElem_cons_succ, List.getElem_cons_zero, List.setIfInBounds_toArray, List.set_cons_zero, List.set_cons_succ]
                        refine txt_nil ?_
                        cases BO with
                        | false =>
                          have HAM : Hid (AF = -1) := Lib.hid (by rw [HZ2'.out, if_neg (by omega), if_pos rfl])
                          have HV : Hid (TT = ([], false)) := Lib.hid (by rw [HZ2.out, if_neg q1, if_pos q2, if_pos (by rw [HAM.out]; omega)])
                          have hbz := hbXV.trans (hbd2.mono hbXV.size)
                          go_wp2
                          refine bodyPost_ret (v := .tuple #[.slice none 0 0, .bool false]) (by simp [results, Try.results18, go_sem]) rfl ⟨.slice none 0 0, by rw [HV.out], by rw [HV.out]; exact World.ownsRow_nil _ _ _ _, hbz⟩
                        | true =>
                          have HZ4 : Hid (AF = if 0 < BF ∧ (x < 0 ∨ A2 < lstA RS x) then arGo LL (k + 1) k A2 (RS.drop (k + 1)) else arGo LL (k + 1) x (lstA RS x) (RS.drop (k + 1))) := Lib.hid (by rw [HZ2'.out, if_neg (by omega), if_neg (by simp)])
                          clear HZ2'
                          have x0 := (hbd2.cell (p := ⟨B, 0, none⟩) hBV).trans x0
                          have f2 := (hbd2.cell (p := ⟨b2, o2 + k, none⟩) hb2V).trans f2
                          have hbl2 := hblV.trans (hbd2.mono hblV.size)
                          have hbX2 := hbXV.trans (hbd2.mono hbXV.size)
                          have hBV2 : B < V2.heap.size := Nat.lt_of_lt_of_le hBV hbd2.size
                          have hb2V2 : b2 < V2.heap.size := Nat.lt_of_lt_of_le hb2V hbd2.size
                          clear e0 e1 e2 e3 hbd2
                          by_cases g5 : 0 < BF
                          · rcases hx with hx | ⟨m, hx, hmk⟩
                            · have hxn : x < 0 := by omega
                              have HZ5 : Hid (AF = arGo LL (k + 1) k (lstA RS (k : Int)) (RS.drop (k + 1))) := Lib.hid (by rw [HZ4.out, if_pos ⟨g5, .inl hxn⟩, HLK.out])
                              go_wp2
                              refine wp_region_lit_txtZ none [0, 1, 2, 3, 4, 5, 6, 7, 8, 9, 10, 12, 13, 14, 15, 16, 18, 19, 20] (fun W' => Below V2.heap.size V2 W') (by kernel_rfl) (by kernel_rfl) (by kernel_rfl) (by kernel_rfl) (Below.refl _ _).drew ?_
                              (refine txt_light ?_ rfl rfl ?_ ?_; rotate_left; · (intro w' hS; (try dsimp only at hS); go_simp; with_reducible rfl)); try simp only [Act.put, List.getElem_toArray, List.getElem_cons_succ, List.getElem_cons_zero, List.setIfInBounds_toArray, List.set_cons_zero, List.set_cons_succ]
                              (refine txt_light ?_ rfl rfl ?_ ?_; rotate_left; · (intro w' hS; (try dsimp only at hS); go_simp; with_reducible rfl)); try simp only [Act.put, List.getElem_toArray, List.getElem_cons_succ, List.getElem_cons_zero, List.setIfInBounds_toArray, List.set_cons_zero, List.set_cons_succ]
                              (refine txt_light ?_ rfl rfl ?_ ?_; rotate_left; · (intro w' hS; (try dsimp only at hS); go_simp; with_reducible rfl)); try simp only [Act.put, List.getElem_toArray, List.getElem_cons_succ, List.getElem_cons_zero, List.setIfInBounds_toArray, List.set_cons_zero, List.set_cons_succ]
                              (refine txt_light ?_ rfl rfl ?_ ?_; rotate_left; · (intro w' hS; (try dsimp only at hS); go_simp; with_reducible rfl)); try simp only [Act.put, List.getElem_toArray, List.getElem_cons_succ, List.getElem_cons_zero, List.setIfInBounds_toArray, List.set_cons_zero, List.set_cons_succ]
                              (refine txt_light ?_ rfl rfl ?_ ?_; rotate_left; · (intro w' hS; (try dsimp only at hS); go_simp; with_reducible rfl)); try simp only [Act.put, List.getElem_toArray, List.getElem_cons_succ, List.getElem_cons_zero, List.setIfInBounds_toArray, List.set_cons_zero, List.set_cons_succ]
                              (refine txt_light ?_ rfl rfl ?_ ?_; rotate_left; · (intro w' hS; (try dsimp only at hS); go_simp; with_reducible rfl)); try simp only [Act.put, List.getElem_toArray, List.getElem_cons_succ, List.getElem_cons_zero, List.setIfInBounds_toArray, List.set_cons_zero, List.set_cons_succ]
                              refine txt_skip rfl ?_
                              try simp only [Act.put, List.getElem_toArray, List.getElem_cons_succ, List.getElem_cons_zero, List.setIfInBounds_toArray, List.set_cons_zero, List.set_cons_succ]
                              refine txt_skip rfl ?_
                              try simp only [Act.put, List.getElem_toArray, List.getElem_cons_succ, List.getElem_cons_zero, List.setIfInBounds_toArray, List.set_cons_zero, List.set_cons_succ]
                              refine txt_skip rfl ?_
                              try simp only [Act.put, List.getElem_toArray, List.getElem_cons_succ, List.getElem_cons_zero, List.setIfInBounds_toArray, List.set_cons_zero, List.set_cons_succ]
                              refine txt_skip rfl ?_
                              try simp only [Act.put, List.getElem_toArray, List.getElem_cons_succ, List.getElem_cons_zero, List.setIfInBounds_toArray, List.set_cons_zero, List.set_cons_succ]
                              refine txt_skip rfl ?_
                              try simp only [Act.put, List.getElem_toArray, List.getElem_cons_succ, List.getElem_cons_zero, List.setIfInBounds_toArray, List.set_cons_zero, List.set_cons_succ]
                              refine txt_skip rfl ?_
                              try simp only [Act.put, List.getElem_toArray, List.getElem_cons_succ, List.getElem_cons_zero, List.setIfInBounds_toArray, List.set_cons_zero, List.set_cons_succ]
                              refine txt_skip rfl ?_
                              try simp only [Act.put, List.getElem_toArray, List.getElem_cons_succ, List.getElem_cons_zero, List.setIfInBounds_toArray, List.set_cons_zero, List.set_cons_succ]
                              refine txt_skip rfl ?_
                              try simp only [Act.put, List.getElem_toArray, List.getElem_cons_succ, List.getElem_cons_zero, List.setIfInBounds_toArray, List.set_cons_zero, List.set_cons_succ]
                              refine txt_skip rfl ?_
                              try simp only [Act.put, List.getElem_toArray, List.getElem_cons_succ, List.getElem_cons_zero, List.setIfInBounds_toArray, List.set_cons_zero, List.set_cons_succ]
                              refine txt_skip rfl ?_
                              try simp only [Act.put, List.getElem_toArray, List.getElem_cons_succ, List.getElem_cons_zero, List.setIfInBounds_toArray, List.set_cons_zero, List.set_cons_succ]
                              refine txt_skip rfl ?_
                              try simp only [Act.put, List.getElem_toArray, List.getElem_cons_succ, List.getElem_cons_zero, List.setIfInBounds_toArray, List.set_cons_zero, List.set_cons_succ]
                              refine txt_skip rfl ?_
                              try simp only [Act.put, List.getElem_toArray, List.getElem_cons_succ, List.getElem_cons_zero, List.setIfInBounds_toArray, List.set_cons_zero, List.set_cons_succ]
                              refine txt_skip rfl ?_
                              try simp only [Act.put, List.getElem_toArray, List.getElem_cons_succ, List.getElem_cons_zero, List.setIfInBounds_toArray, List.set_cons_zero, List.set_cons_succ]
                              (refine txt_light ?_ rfl rfl ?_ ?_; rotate_left; · (intro w' hS; (try dsimp only at hS); go_simp; with_reducible rfl)); try simp only [Act.put, List.getElem_toArray, List.getElem_cons_succ, List.getElem_cons_zero, List.setIfInBounds_toArray, List.set_cons_zero, List.set_cons_succ]
                              (refine txt_light ?_ rfl rfl ?_ ?_; rotate_left; · (intro w' hS; (try dsimp only at hS); go_simp; with_reducible rfl)); try simp only [Act.put, List.getElem_toArray, List.getElem_cons_succ, List.getElem_cons_zero, List.setIfInBounds_toArray, List.set_cons_zero, List.set_cons_succ]
                              refine txt_nil ?_
                              go_wp2
                              exact ⟨⟨k + 1, k, by omega, by go_num, rfl, .inr ⟨k, rfl, by omega⟩, HZ5, hbl2.drew⟩, by simp [intOf]; omega⟩
                            · have hxn : ¬ x < 0 := by omega
                              have hmr : m < rs.length := by rw [HN.out]; omega
                              have hmN : m < N := by omega
                              obtain ⟨bb, oo, e, hb4, f4⟩ := HRNG.out m hmr
                              cases e
                              have f4 := (hbX2.cell (p := ⟨b2, o2 + m, none⟩) hb4).trans f4
                              have HRO4 := Lib.hid (HOK.out.2.1 _ (List.getElem_mem hmr))
                              have hL4 := HLL.out rs[m] (List.getElem_mem hmr)
                              have HLM : Hid (lstA RS (m : Int) = areaF rs[m].l) := Lib.hid (by
                                unfold lstA
                                rw [if_neg (by omega)]
                                show areaF RS[m]! = _
                                rw [getElem!_pos RS m (by rw [HRG.out, List.length_map]; exact hmr)]
                                congr 1
                                simp [HRG.out])
                              generalize rs[m] = R4 at *
                              obtain ⟨L4, P4, C4⟩ := R4
                              dsimp only [PC.val] at f4 hL4
                              have HAC4 := Lib.hid (fun W h => rarea12_any P4 C4 L4 hL4 W h)
                              obtain ⟨A4, hA4⟩ : ∃ z, areaF L4 = z := ⟨_, rfl⟩
                              rw [hA4] at HLM HAC4
                              clear hA4
                              subst hx
                              rw [HLM.out] at HZ4
                              go_wp2
                              refine wp_region_lit_txtZ none [0, 1, 2, 3, 4, 5, 6, 7, 8, 9, 10, 12, 13, 14, 15, 16, 18, 19, 20] (fun W' => Below V2.heap.size V2 W') (by kernel_rfl) (by kernel_rfl) (by kernel_rfl) (by kernel_rfl) (Below.refl _ _).drew ?_
                              (refine txt_light ?_ rfl rfl ?_ ?_; rotate_left; · (intro w' hS; (try dsimp only at hS); go_simp; with_reducible rfl)); try simp only [Act.put, List.getElem_toArray, List.getElem_cons_succ, List.getElem_cons_zero, List.setIfInBounds_toArray, List.set_cons_zero, List.set_cons_succ]
                              (refine txt_light ?_ rfl rfl ?_ ?_; rotate_left; · (intro w' hS; (try dsimp only at hS); go_simp; with_reducible rfl)); try simp only [Act.put, List.getElem_toArray, List.getElem_cons_succ, List.getElem_cons_zero, List.setIfInBounds_toArray, List.set_cons_zero, List.set_cons_succ]
                              (refine txt_light ?_ rfl rfl ?_ ?_; rotate_left; · (intro w' hS; (try dsimp only at hS); go_simp; with_reducible rfl)); try simp only [Act.put, List.getElem_toArray, List.getElem_cons_succ, List.getElem_cons_zero, List.setIfInBounds_toArray, List.set_cons_zero, List.set_cons_succ]
                              (refine txt_light ?_ rfl rfl ?_ ?_; rotate_left; · (intro w' hS; (try dsimp only at hS); go_simp; with_reducible rfl)); try simp only [Act.put, List.getElem_toArray, List.getElem_cons_succ, List.getElem_cons_zero, List.setIfInBounds_toArray, List.set_cons_zero, List.set_cons_succ]
                              (refine txt_light ?_ rfl rfl ?_ ?_; rotate_left; · (intro w' hS; (try dsimp only at hS); go_simp; with_reducible rfl)); try simp only [Act.put, List.getElem_toArray, List.getElem_cons_succ, List.getElem_cons_zero, List.setIfInBounds_toArray, List.set_cons_zero, List.set_cons_succ]
                              (refine txt_light ?_ rfl rfl ?_ ?_; rotate_left; · (intro w' hS; (try dsimp only at hS); go_simp; with_reducible rfl)); try simp only [Act.put, List.getElem_toArray, List.getElem_cons_succ, List.getElem_cons_zero, List.setIfInBounds_toArray, List.set_cons_zero, List.set_cons_succ]
                              (refine txt_light ?_ rfl rfl ?_ ?_; rotate_left; · (intro w' hS; (try dsimp only at hS); go_simp; with_reducible rfl)); try simp only [Act.put, List.getElem_toArray, List.getElem_cons_succ, List.getElem_cons_zero, List.setIfInBounds_toArray, List.set_cons_zero, List.set_cons_succ]
                              refine txt_light (.slice (some ⟨b2, o2, none⟩) N rc) rfl rfl ?_ ?_
                              · intro w' hS
                                have c7 := (hS.cell (p := ⟨B, 0, none⟩) hBV2).trans x0
                                clear hS
                                go_simp
                              try simp only [Act.put, List.getElem_toArray, List.getElem_cons_succ, List.getElem_cons_zero, List.setIfInBounds_toArray, List.set_cons_zero, List.set_cons_succ]
                              (refine txt_light ?_ rfl rfl ?_ ?_; rotate_left; · (intro w' hS; (try dsimp only at hS); go_simp; with_reducible rfl)); try simp only [Act.put, List.getElem_toArray, List.getElem_cons_succ, List.getElem_cons_zero, List.setIfInBounds_toArray, List.set_cons_zero, List.set_cons_succ]
                              (refine txt_light ?_ rfl rfl ?_ ?_; rotate_left; · (intro w' hS; (try dsimp only at hS); go_simp; with_reducible rfl)); try simp only [Act.put, List.getElem_toArray, List.getElem_cons_succ, List.getElem_cons_zero, List.setIfInBounds_toArray, List.set_cons_zero, List.set_cons_succ]
                              refine txt_light (.slice P2 L2.length C2) rfl rfl ?_ ?_
                              · intro w' hS
                                have c7 := (hS.cell (p := ⟨b2, o2 + k, none⟩) hb2V2).trans f2
                                clear hS
                                go_simp
                              try simp only [Act.put, List.getElem_toArray, List.getElem_cons_succ, List.getElem_cons_zero, List.setIfInBounds_toArray, List.set_cons_zero, List.set_cons_succ]
                              have hbd : Below V2.heap.size V2 V2.drew := (Below.refl _ _).drew
                              generalize V2.drew = W0 at *
                              refine txt_heavy rfl rfl (fun K hK => ?_)
                              go_step
                              refine (HAC2.out W0 (HRO2.out.1.keep (hbX2.trans (hbd.mono hbX2.size)))).mono ?_
                              rintro e V3 ⟨rfl, hbx⟩
                              have hbd3 := hbd.trans (hbx.mono hbd.size)
                              dsimp only
                              refine hK.out _ _ hbd3 ?_
                              clear hK K hbx hbd
                              try simp only [Act.put, List.getElem_toArray, List.getElem_cons_succ, List.getElem_cons_zero, List.setIfInBounds_toArray, List.set_cons_zero, List.set_cons_succ]
                              (refine txt_light ?_ rfl rfl ?_ ?_; rotate_left; · (intro w' hS; (try dsimp only at hS); go_simp; with_reducible rfl)); try simp only [Act.put, List.getElem_toArray, List.getElem_cons_succ, List.getElem_cons_zero, List.setIfInBounds_toArray, List.set_cons_zero, List.set_cons_succ]
                              refine txt_light (.slice (some ⟨b2, o2, none⟩) N rc) rfl rfl ?_ ?_
                              · intro w' hS
                                have c7 := (hS.cell (p := ⟨B, 0, none⟩) hBV2).trans x0
                                clear hS
                                go_simp
                              try simp only [Act.put, List.getElem_toArray, List.getElem_cons_succ, List.getElem_cons_zero, List.setIfInBounds_toArray, List.set_cons_zero, List.set_cons_succ]
                              (refine txt_light ?_ rfl rfl ?_ ?_; rotate_left; · (intro w' hS; (try dsimp only at hS); go_simp; with_reducible rfl)); try simp only [Act.put, List.getElem_toArray, List.getElem_cons_succ, List.getElem_cons_zero, List.setIfInBounds_toArray, List.set_cons_zero, List.set_cons_succ]
                              (refine txt_light ?_ rfl rfl ?_ ?_; rotate_left; · (intro w' hS; (try dsimp only at hS); go_simp; with_reducible rfl)); try simp only [Act.put, List.getElem_toArray, List.getElem_cons_succ, List.getElem_cons_zero, List.setIfInBounds_toArray, List.set_cons_zero, List.set_cons_succ]
                              refine txt_light (.slice P4 L4.length C4) rfl rfl ?_ ?_
                              · intro w' hS
                                have c7 := (hS.cell (p := ⟨b2, o2 + m, none⟩) hb2V2).trans f4
                                clear hS
                                go_simp
                              try simp only [Act.put, List.getElem_toArray, List.getElem_cons_succ, List.getElem_cons_zero, List.setIfInBounds_toArray, List.set_cons_zero, List.set_cons_succ]
                              refine txt_heavy rfl rfl (fun K hK => ?_)
                              go_step
                              refine (HAC4.out V3 (HRO4.out.1.keep (hbX2.trans (hbd3.mono hbX2.size)))).mono ?_
                              rintro e V4 ⟨rfl, hbx⟩
                              have hbd4 := hbd3.trans (hbx.mono hbd3.size)
                              dsimp only
                              refine hK.out _ _ hbd4 ?_
                              clear hK K hbx hbd3
                              try simp only [Act.put, List.getElem_toArray, List.getElem_cons_succ, List.getElem_cons_zero, List.setIfInBounds_toArray, List.set_cons_zero, List.set_cons_succ]
                              (refine txt_light ?_ rfl rfl ?_ ?_; rotate_left; · (intro w' hS; (try dsimp only at hS); go_simp; with_reducible rfl)); try simp only [Act.put, List.getElem_toArray, List.getElem_cons_succ, List.getElem_cons_zero, List.setIfInBounds_toArray, List.set_cons_zero, List.set_cons_succ]
                              (refine txt_light ?_ rfl rfl ?_ ?_; rotate_left; · (intro w' hS; (try dsimp only at hS); go_simp; with_reducible rfl)); try simp only [Act.put, List.getElem_toArray, List.getElem_cons_succ, List.getElem_cons_zero, List.setIfInBounds_toArray, List.set_cons_zero, List.set_cons_succ]
                              (refine txt_light ?_ rfl rfl ?_ ?_; rotate_left; · (intro w' hS; (try dsimp only at hS); go_simp; with_reducible rfl)); try simp only [Act.put, List.getElem_toArray, List.getElem_cons_succ, List.getElem_cons_zero, List.setIfInBounds_toArray, List.set_cons_zero, List.set_cons_succ]
                              refine txt_nil ?_
                              have hbl3 := hbl2.trans (hbd4.mono hbl2.size)
                              clear hbd4 x0 f2 f4
                              by_cases g6 : A2 < A4
                              · have HZ5 : Hid (AF = arGo LL (k + 1) k (lstA RS (k : Int)) (RS.drop (k + 1))) := Lib.hid (by rw [HZ4.out, if_pos ⟨g5, .inr g6⟩, HLK.out])
                                go_wp2
                                exact ⟨⟨k + 1, k, by omega, by go_num, rfl, .inr ⟨k, rfl, by omega⟩, HZ5, hbl3⟩, by simp [intOf]; omega⟩
                              · have HZ5 : Hid (AF = arGo LL (k + 1) m (lstA RS (m : Int)) (RS.drop (k + 1))) := Lib.hid (by rw [HZ4.out, if_neg (by intro h; rcases h.2 with h | h <;> omega), HLM.out])
                                go_wp2
                                exact ⟨⟨k + 1, m, by omega, by go_num, rfl, .inr ⟨m, rfl, by omega⟩, HZ5, hbl3⟩, by simp [intOf]; omega⟩
                          · have hx' : x = -1 ∨ ∃ m : Nat, x = m ∧ m < k + 1 := by
                              rcases hx with h | ⟨m, h, h'⟩
                              · exact .inl h
                              · exact .inr ⟨m, h, by omega⟩
                            have HZ5 : Hid (AF = arGo LL (k + 1) x (lstA RS x) (RS.drop (k + 1))) := Lib.hid (by rw [HZ4.out, if_neg (fun h => g5 h.1)])
                            have g5' : decide (0 < BF) = false := decide_eq_false g5
                            go_wp2
                            refine wp_region_lit_txtZ none [0, 1, 2, 3, 4, 5, 6, 7, 8, 9, 10, 12, 13, 14, 15, 16, 18, 19, 20] (fun W' => Below V2.heap.size V2 W') (by kernel_rfl) (by kernel_rfl) (by kernel_rfl) (by kernel_rfl) (Below.refl _ _).drew ?_
                            (refine txt_light ?_ rfl rfl ?_ ?_; rotate_left; · (intro w' hS; (try dsimp only at hS); go_simp; with_reducible rfl)); try simp only [Act.put, List.getElem_toArray, List.getElem_cons_succ, List.getElem_cons_zero, List.setIfInBounds_toArray, List.set_cons_zero, List.set_cons_succ]
                            (refine txt_light ?_ rfl rfl ?_ ?_; rotate_left; · (intro w' hS; (try dsimp only at hS); go_simp; with_reducible rfl)); try simp only [Act.put, List.getElem_toArray, List.getElem_cons_succ, List.getElem_cons_zero, List.setIfInBounds_toArray, List.set_cons_zero, List.set_cons_succ]
                            (refine txt_light ?_ rfl rfl ?_ ?_; rotate_left; · (intro w' hS; (try dsimp only at hS); go_simp; with_reducible rfl)); try simp only [Act.put, List.getElem_toArray, List.getElem_cons_succ, List.getElem_cons_zero, List.setIfInBounds_toArray, List.set_cons_zero, List.set_cons_succ]
                            refine txt_skip rfl ?_
                            try simp only [Act.put, List.getElem_toArray, List.getElem_cons_succ, List.getElem_cons_zero, List.setIfInBounds_toArray, List.set_cons_zero, List.set_cons_succ]
                            refine txt_skip rfl ?_
                            try simp only [Act.put, List.getElem_toArray, List.getElem_cons_succ, List.getElem_cons_zero, List.setIfInBounds_toArray, List.set_cons_zero, List.set_cons_succ]
                            refine txt_skip rfl ?_
                            try simp only [Act.put, List.getElem_toArray, List.getElem_cons_succ, List.getElem_cons_zero, List.setIfInBounds_toArray, List.set_cons_zero, List.set_cons_succ]
                            refine txt_skip rfl ?_
                            try simp only [Act.put, List.getElem_toArray, List.getElem_cons_succ, List.getElem_cons_zero, List.setIfInBounds_toArray, List.set_cons_zero, List.set_cons_succ]
                            refine txt_skip rfl ?_
                            try simp only [Act.put, List.getElem_toArray, List.getElem_cons_succ, List.getElem_cons_zero, List.setIfInBounds_toArray, List.set_cons_zero, List.set_cons_succ]
                            refine txt_skip rfl ?_
                            try simp only [Act.put, List.getElem_toArray, List.getElem_cons_succ, List.getElem_cons_zero, List.setIfInBounds_toArray, List.set_cons_zero, List.set_cons_succ]
                            refine txt_skip rfl ?_
                            try simp only [Act.put, List.getElem_toArray, List.getElem_cons_succ, List.getElem_cons_zero, List.setIfInBounds_toArray, List.set_cons_zero, List.set_cons_succ]
                            refine txt_skip rfl ?_
                            try simp only [Act.put, List.getElem_toArray, List.getElem_cons_succ, List.getElem_cons_zero, List.setIfInBounds_toArray, List.set_cons_zero, List.set_cons_succ]
                            refine txt_skip rfl ?_
                            try simp only [Act.put, List.getElem_toArray, List.getElem_cons_succ, List.getElem_cons_zero, List.setIfInBounds_toArray, List.set_cons_zero, List.set_cons_succ]
                            refine txt_skip rfl ?_
                            try simp only [Act.put, List.getElem_toArray, List.getElem_cons_succ, List.getElem_cons_zero, List.setIfInBounds_toArray, List.set_cons_zero, List.set_cons_succ]
                            refine txt_skip rfl ?_
                            try simp only [Act.put, List.getElem_toArray, List.getElem_cons_succ, List.getElem_cons_zero, List.setIfInBounds_toArray, List.set_cons_zero, List.set_cons_succ]
                            refine txt_skip rfl ?_
                            try simp only [Act.put, List.getElem_toArray, List.getElem_cons_succ, List.getElem_cons_zero, List.setIfInBounds_toArray, List.set_cons_zero, List.set_cons_succ]
                            refine txt_skip rfl ?_
                            try simp only [Act.put, List.getElem_toArray, List.getElem_cons_succ, List.getElem_cons_zero, List.setIfInBounds_toArray, List.set_cons_zero, List.set_cons_succ]
                            refine txt_skip rfl ?_
                            try simp only [Act.put, List.getElem_toArray, List.getElem_cons_succ, List.getElem_cons_zero, List.setIfInBounds_toArray, List.set_cons_zero, List.set_cons_succ]
                            refine txt_skip rfl ?_
                            try simp only [Act.put, List.getElem_toArray, List.getElem_cons_succ, List.getElem_cons_zero, List.setIfInBounds_toArray, List.set_cons_zero, List.set_cons_succ]
                            refine txt_skip rfl ?_
                            try simp only [Act.put, List.getElem_toArray, List.getElem_cons_succ, List.getElem_cons_zero, List.setIfInBounds_toArray, List.set_cons_zero, List.set_cons_succ]
                            refine txt_skip rfl ?_
                            try simp only [Act.put, List.getElem_toArray, List.getElem_cons_succ, List.getElem_cons_zero, List.setIfInBounds_toArray, List.set_cons_zero, List.set_cons_succ]
                            (refine txt_light ?_ rfl rfl ?_ ?_; rotate_left; · (intro w' hS; (try dsimp only at hS); go_simp; with_reducible rfl)); try simp only [Act.put, List.getElem_toArray, List.getElem_cons_succ, List.getElem_cons_zero, List.setIfInBounds_toArray, List.set_cons_zero, List.set_cons_succ]
                            refine txt_nil ?_
                            go_wp2
                            exact ⟨⟨k + 1, x, by omega, by go_num, rfl, hx', HZ5, hbl2.drew⟩, by simp [intOf]; omega⟩
                      rcases hcase with hc | ⟨hc, hc'⟩
                      · go_wp2
                        exact main3
                      · go_wp2
                        exact main3
                    clear hKA
                    go_wp2
                    exact mainA
              · have hkN : k = N := by omega
                have HAE : Hid (AF = x) := Lib.hid (by
                  rw [HZ.out, List.drop_of_length_le (by rw [HRG.out, List.length_map, HN.out]; omega)]; rfl)
                have h2' : ¬ (k : Int) < (N : Int) := by omega
                by_cases hx0 : x < 0
                · have HV : Hid (TT = ([], false)) := Lib.hid (by rw [HZ2.out, if_neg q1, if_pos q2, if_pos (by rw [HAE.out]; exact hx0)])
                  go_wp2
                  refine bodyPost_ret (v := .tuple #[.slice none 0 0, .bool false]) (by simp [results, Try.results18, go_sem]) rfl ⟨.slice none 0 0, by rw [HV.out], by rw [HV.out]; exact World.ownsRow_nil _ _ _ _, hbX⟩
                · have HZ3 : Hid (TT = nestGo RS (acc ++ [x]) ((rs.drop (i + 1)).map PC.l)) := Lib.hid (by rw [HZ2.out, if_neg q1, if_pos q2, HAE.out, if_neg hx0])
                  have hoX := hoW.below hbl
                  have hbZ := hbW.trans (hbl.mono hbW.size)
                  go_wp2_with (at_builtin; go_must (refine wpList_appLit' wS hbZ rfl (.tmp 101) (.tmp 103) 56 rfl 3 (.int .i64 0) 1 8 Try.underlying56 Try.infoNI rfl (by decide) (by decide) u4 i (acc.map (Value.int .i64)) rfl hoX 1 1 [.int .i64 x] _ rfl rfl (by simp [Value.oneCell']) (by omega) ?_); intro v9 W9 ho9 hg9 hb9; clear hoX hg9)
                  refine hK1.out _ _ ?_
                  go_wp2
                  exact ⟨⟨i + 1, acc ++ [x], by omega, by go_num, by simp [hal], by simpa using ho9, HZ3, hb9⟩, by simp [intOf]; omega⟩
          go_region
          · have hx1 := (Below.new w2 (.cells #[.int .i64 x1, .int .i64 y1] 40)).alloc (by simp) (.cells #[.int .i64 x2, .int .i64 y2] 40)
            exact main _ _ _ (hb2'.trans (hx1.mono hb2'.size)).drew (ho2.below hx1).drew ((Blk.lit w2 w2.heap.size [.int .i64 x1, .int .i64 y1] 40 rfl).alloc (.cells #[.int .i64 x2, .int .i64 y2] 40)).drew (Blk.lit (w2.alloc (.cells #[.int .i64 x1, .int .i64 y1] 40)) (w2.heap.size + 1) [.int .i64 x2, .int .i64 y2] 40 (by simp)).drew
          · have hx1 := (Below.new w2 (.cells #[.int .i64 x2, .int .i64 y2] 40)).alloc (by simp) (.cells #[.int .i64 x1, .int .i64 y1] 40)
            exact main _ _ _ (hb2'.trans (hx1.mono hb2'.size)).drew (ho2.below hx1).drew (Blk.lit (w2.alloc (.cells #[.int .i64 x2, .int .i64 y2] 40)) (w2.heap.size + 1) [.int .i64 x1, .int .i64 y1] 40 (by simp)).drew ((Blk.lit w2 w2.heap.size [.int .i64 x2, .int .i64 y2] 40 rfl).alloc (.cells #[.int .i64 x1, .int .i64 y1] 40)).drew
        · have q2' : 0 < AR := by omega
          have q1' : (AR == 0) = false := by simpa using q1
          have HZ3 : Hid (TT = nestGo RS (acc ++ [-1]) ((rs.drop (i + 1)).map PC.l)) := Lib.hid (by rw [HZ2.out, if_neg q1, if_neg q2])
          go_wp2_with (at_builtin; go_must (refine wpList_appLit' wS hb2' rfl (.tmp 30) (.tmp 31) 56 rfl 3 (.int .i64 0) 1 8 Try.underlying56 Try.infoNI rfl (by decide) (by decide) u4 i (acc.map (Value.int .i64)) rfl ho2 1 1 [.int .i64 (-1)] _ rfl rfl (by simp [Value.oneCell']) (by omega) ?_); intro v9 W9 ho9 hg9 hb9; clear ho2 hg9)
          exact ⟨⟨i + 1, acc ++ [-1], by omega, by go_num, by simp [hal], by simpa using ho9, HZ3, hb9⟩, by simp [intOf]; omega⟩
    · have h1' : ¬ (i : Int) < (N : Int) := by omega
      have hd : rs.drop i = [] := List.drop_of_length_le (by rw [HN.out]; omega)
      rw [hd] at HZ
      have HV : Hid (TT = (acc, true)) := Lib.hid (by rw [HZ.out]; rfl)
      have HO : Hid (wr.ownsRow w.heap.size 3 1 u4 acc.length (acc.map (Value.int .i64))) := Lib.hid (by rw [hal]; exact ho.mono (by rw [hsz, HBE.out]; omega))
      go_wp2
      refine bodyPost_ret (v := .tuple #[u4, .bool true]) (by simp [results, Try.results18, go_sem]) rfl ⟨u4, by rw [HV.out], by rw [HV.out]; exact HO.out, hbw⟩
end Go.Proofs.Ytdginfjlelpkmaa

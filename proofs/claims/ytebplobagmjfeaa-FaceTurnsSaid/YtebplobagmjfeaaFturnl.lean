/-
  FaceTurns: the walk.
-/
import Derived.Test.YtebplobagmjfeaaKno12
import Derived.Test.YtebplobagmjfeaaFtp
import Derived.Test.YtebplobagmjfeaaZturn
import Derived.Test.YtebplobagmjfeaaScol
import Derived.Test.YtebplobagmjfeaaFwind
import Derived.Test.YtebplobagmjfeaaArea
import Derived.Test.YtebplobagmjfeaaOpenFc
set_option linter.unusedVariables false
set_option linter.unusedSimpArgs false
set_option maxRecDepth 100000
namespace Go.Proofs.Ytebplobagmjfeaa
open Go.RowKit

set_option maxHeartbeats 12800000 in
theorem fturns_walk (a0 : Option Addr) (c0 : Nat) (X : List Fc) (hx1 : X.length ≤ c0) (hx2 : c0 ≤ maxLen) (b0 : Option Addr) (d0 : Nat) (Y : List Fc) (hy1 : Y.length ≤ d0) (hy2 : d0 ≤ maxLen) (p : Pt) (w : World) (hxr : Rd w a0 (fcs X)) (hxo : ∀ f ∈ X, f.In w) (hyr : Rd w b0 (fcs Y)) (hyo : ∀ f ∈ Y, f.In w) :
    Calls Try.prog 5 #[.slice a0 X.length c0, .slice b0 Y.length d0, p.val] w fun e w' => e = .returned (.bool true) ∧ Below w.heap.size w w' := by
  have HF1 := Lib.hid (fun W (h : Below w.heap.size w W) => few_any a0 c0 X hx1 hx2 60 (by omega) W (hxr.keep h) (fun f hf => ⟨(hxo f hf).1.keep h, (hxo f hf).2⟩))
  have HF2 := Lib.hid (fun W (h : Below w.heap.size w W) => few_any b0 d0 Y hy1 hy2 60 (by omega) W (hyr.keep h) (fun f hf => ⟨(hyo f hf).1.keep h, (hyo f hf).2⟩))
  obtain ⟨N1, hN1⟩ : ∃ N, X.length = N := ⟨_, rfl⟩
  obtain ⟨N2, hN2⟩ : ∃ N, Y.length = N := ⟨_, rfl⟩
  rw [hN1] at HF1
  rw [hN2] at HF2
  rw [hN1, hN2]
  clear hxr hxo hyr hyo hN1 hN2 hx1 hx2 hy1 hy2
  obtain ⟨B, hB⟩ : ∃ B, w.heap.size = B := ⟨_, rfl⟩
  have HBE := Lib.hid hB
  rw [hB] at HF1 HF2
  obtain ⟨px, py⟩ := p
  rw [show (Pt.val ⟨px, py⟩ : Value) = .agg #[.int .i64 px, .int .i64 py] from rfl]
  go_enter Try.func5, Try.ntmps5
  have hbP : Below B w (w.alloc (.cells #[.int .i64 px, .int .i64 py] 37)) := (Below.refl B w).alloc (by omega) _
  have hkP : Rd (w.alloc (.cells #[.int .i64 px, .int .i64 py] 37)) (some ⟨B, 0, none⟩) (Pt.cells ⟨px, py⟩) := Rd.lit w B [.int .i64 px, .int .i64 py] 37 hB
  have hsP : (w.alloc (.cells #[.int .i64 px, .int .i64 py] 37)).heap.size = B + 1 := by
    show (w.heap.push _).size = B + 1
    rw [Array.size_push, hB]
  go_wp2_with fail
  generalize w.alloc (.cells #[.int .i64 px, .int .i64 py] 37) = wP at *
  clear hB
  refine (HF1.out wP hbP).mono ?_
  rintro e w1 ⟨fs, v1, rfl, ho1, ht1, hp1, hb1⟩
  obtain ⟨hn1, hg1⟩ := few_rings hp1
  obtain ⟨a1, c1, rfl, u1, u2, u3, hr1, -⟩ := ho1.form
  have hbw1 : Below B w w1 := hbP.trans (hb1.mono (by omega))
  have hs1 := hb1.size
  have HT1 := Lib.hid ht1
  have hkP1 := hkP.keep hb1
  clear ho1 hp1 ht1 HF1 hb1 hkP
  obtain ⟨n1, hN1⟩ : ∃ N, fs.length = N := ⟨_, rfl⟩
  have HN1 := Lib.hid hN1
  rw [hN1] at u1 hn1 ⊢
  clear hN1
  go_wp2_with fail
  refine (HF2.out w1 hbw1).mono ?_
  rintro e w2 ⟨gs, v2, rfl, ho2, ht2, hp2, hb2⟩
  obtain ⟨hn2, hg2⟩ := few_rings hp2
  obtain ⟨a2, c2, rfl, t1, t2, t3, hr2, -⟩ := ho2.form
  have hbw2 : Below B w w2 := hbw1.trans (hb2.mono (by omega))
  have hs2 := hb2.size
  have HT2 := Lib.hid ht2
  have HT1 := Lib.hid (fun f hf => (HT1.out f hf).keep hb2)
  have hkP2 := hkP1.keep hb2
  have hr1 := hr1.keep hb2
  clear ho2 hp2 ht2 HF2 hb2 hkP1 hbw1 hbP
  obtain ⟨n2, hN2⟩ : ∃ N, gs.length = N := ⟨_, rfl⟩
  have HN2 := Lib.hid hN2
  rw [hN2] at t1 hn2 ⊢
  clear hN2
  have HG1 := Lib.hid hg1
  have HG2 := Lib.hid hg2
  have HM1 := Lib.hid (few_map hg1)
  have HM2 := Lib.hid (few_map hg2)
  have HA1 : (allSd (fs.map Fc.rings)).length ≤ 9600 := allSd_few _ (by rw [List.length_map, HN1.out]; omega) HM1.out
  have HA2 : (allSd (gs.map Fc.rings)).length ≤ 9600 := allSd_few _ (by rw [List.length_map, HN2.out]; omega) HM2.out
  have HS1 := Lib.hid (fun W (h : Below w2.heap.size w2 W) => fsides_any a1 c1 fs (by rw [HN1.out]; omega) (fun f hf => by have := (HG1.out f hf).1; omega) (fun f hf r hr => by have := (HG1.out f hf).2 r hr; omega) (by omega) W (hr1.keep h) (fun f hf => (HT1.out f hf).1.keep h))
  have HS2 := Lib.hid (fun W (h : Below w2.heap.size w2 W) => fsides_any a2 c2 gs (by rw [HN2.out]; omega) (fun f hf => by have := (HG2.out f hf).1; omega) (fun f hf r hr => by have := (HG2.out f hf).2 r hr; omega) (by omega) W (hr2.keep h) (fun f hf => (HT2.out f hf).1.keep h))
  have HSC : ∀ W a c, Below w2.heap.size w2 W → Rd W a (fcs (fs ++ gs)) → Calls Try.prog 10 #[.slice a (fs ++ gs).length c] W fun e w' => ∃ v, e = .returned v ∧ w'.ownsRow W.heap.size 39 6 v (allSd ((fs ++ gs).map Fc.rings)).length (sds (allSd ((fs ++ gs).map Fc.rings))) ∧ Below W.heap.size W w' := by
    intro W a c h hR
    have key : ∀ f ∈ fs ++ gs, f.Ok W ∧ f.rs.length ≤ 8 ∧ ∀ r ∈ f.rs, r.l.length ≤ 60 := by
      intro f hf
      rcases List.mem_append.1 hf with hf | hf
      · exact ⟨(HT1.out f hf).1.keep h, HG1.out f hf⟩
      · exact ⟨(HT2.out f hf).1.keep h, HG2.out f hf⟩
    exact fsides_any a c (fs ++ gs) (by rw [List.length_append, HN1.out, HN2.out]; omega) (fun f hf => by have := (key f hf).2.1; omega) (fun f hf r hr => by have := (key f hf).2.2 r hr; omega)
      (by
        rw [List.map_append]
        have := allSd_few (fs.map Fc.rings ++ gs.map Fc.rings) (by rw [List.length_append, List.length_map, List.length_map, HN1.out, HN2.out]; omega) (fun f hf => by
          rcases List.mem_append.1 hf with hf | hf
          · exact HM1.out f hf
          · exact HM2.out f hf)
        omega) W hR (fun f hf => (key f hf).1)
  rw [List.map_append, allSd_append, List.length_append, List.length_append, List.length_map, List.length_map, HN1.out, HN2.out] at HSC
  have HSC := Lib.hid HSC
  rw [HN1.out] at HS1
  rw [HN2.out] at HS2
  have HLT : ∀ s ∈ allSd (gs.map Fc.rings), s.f < n2 := by
    have := allSd_lt (gs.map Fc.rings)
    rw [List.length_map, HN2.out] at this; exact this
  have HLT := Lib.hid HLT
  generalize allSd (fs.map Fc.rings) = S1 at *
  generalize allSd (gs.map Fc.rings) = S2 at *
  clear hg1 hg2 HM1 HM2
  go_wp2_with fail
  refine (HS1.out w2 (Below.refl _ _)).mono ?_
  rintro e w3 ⟨v3, rfl, ho3, hb3⟩
  obtain ⟨x3, c3, rfl, k1, k2, k3, hq3, -⟩ := ho3.form
  clear ho3 HS1
  obtain ⟨m1, hm1⟩ : ∃ N, S1.length = N := ⟨_, rfl⟩
  have HM1 := Lib.hid hm1
  rw [hm1] at k1 HA1 ⊢
  go_wp2_with fail
  refine (HS2.out w3 hb3).mono ?_
  rintro e w4 ⟨v4, rfl, ho4, hb4⟩
  obtain ⟨x4, c4, rfl, l1, l2, l3, hq4, -⟩ := ho4.form
  have hq3 := hq3.keep hb4
  have hb4 : Below w2.heap.size w2 w4 := hb3.trans (hb4.mono hb3.size)
  clear ho4 HS2 hb3
  obtain ⟨m2, hm2⟩ : ∃ N, S2.length = N := ⟨_, rfl⟩
  have HM2 := Lib.hid hm2
  rw [hm2] at l1 HA2 ⊢
  rw [hm1, hm2] at HSC
  clear hm1 hm2
  have hr14 := hr1.keep hb4
  have hr24 := hr2.keep hb4
  unfold maxLen at u2 t2
  go_wp2_with (at_builtin; first
    | (refine wpList_app' w4 (Below.new w4 (.cells #[] 49)) rfl (.tmp 27) (.tmp 28) 22 rfl 49 (.agg #[.slice none 0 0, .slice none 0 0]) 2 48 Try.underlying22 Try.infoFace rfl (by decide) (.slice (some ⟨w4.heap.size, 0, none⟩) 0 0) 0 [] rfl (ownsRow_empty w4 _ _) a1 n1 c1 (fcs fs) rfl u3 (hr14.alloc _) (by rw [fcs_len, HN1.out]) (fcs_one fs) (by omega) (by decide) ?_; intro v5 w5 hown5 _ hbl5; have hr25 := hr24.keep hbl5)
    | (refine wpList_app' w4 hbl5 rfl (.tmp 29) (.tmp 30) 22 rfl 49 (.agg #[.slice none 0 0, .slice none 0 0]) 2 48 Try.underlying22 Try.infoFace rfl (by decide) v5 (0 + n1) ([] ++ fcs fs) rfl hown5 a2 n2 c2 (fcs gs) rfl t3 hr25 (by rw [fcs_len, HN2.out]) (fcs_one gs) (by omega) (by decide) ?_; intro v6 w6 hown6 _ hbl6))
  rw [Nat.zero_add, List.nil_append, show fcs fs ++ fcs gs = fcs (fs ++ gs) by simp [fcs]] at hown6
  obtain ⟨x6, c6, rfl, -, -, -, hq6, -⟩ := hown6.form
  have hb6 := hb4.trans (hbl6.mono hb4.size)
  have hq3 := hq3.keep hbl6
  have hq4 := hq4.keep hbl6
  clear hown5 hown6 hbl5 hr25 hr14 hr24
  refine (HSC.out w6 x6 c6 hb6 hq6).mono ?_
  rintro e w7 ⟨v7, rfl, ho7, hb7⟩
  obtain ⟨x7, c7, rfl, -, -, -, hq7, -⟩ := ho7.form
  have hq3 := hq3.keep hb7
  have hq4 := hq4.keep hb7
  have hbX : Below w2.heap.size w2 w7 := hb6.trans (hb7.mono hb6.size)
  clear ho7 hb7 hq6 hbl6 HSC hb4 hb6
  have hne : (((m1 + m2 : Nat) : Int) != (m1 : Int) + (m2 : Int)) = false := by simp
  go_wp2
  go_loopw [10] (fun o wr => ∃ (k : Nat) (q : Nat), k ≤ m1 + m2 ∧ o = .int .i64 k ∧ wr = w7.drewN q) (fun o _ => m1 + m2 - (intOf o).toNat)
  case atStart => exact ⟨0, 0, by omega, rfl, rfl⟩
  case round =>
    obtain ⟨k, q, hk, rfl, rfl⟩ := hrel
    by_cases hlt : k < m1 + m2
    · have hlt' : (k : Int) < ((m1 + m2 : Nat) : Int) := by omega
      by_cases hk1 : k < m1
      · have hk1' : (k : Int) < (m1 : Int) := by omega
        have hk1s : k < S1.length := by rw [HM1.out]; exact hk1
        have e1 : (S1 ++ S2.map (Sd.up n1))[k]'(by rw [List.length_append]; omega) = S1[k] := List.getElem_append_left _
        obtain ⟨g7, o7, rfl, -, p0, p1, p2, p3, p4, p5⟩ := hq7.sd k (by rw [List.length_append]; omega)
        rw [e1] at p0 p1 p2 p3 p4 p5
        obtain ⟨g3, o3, rfl, -, q0, q1, q2, q3, q4, q5⟩ := hq3.sd k hk1s
        clear e1
        generalize S1[k] = s at *
        obtain ⟨sf, sr, ⟨sax, say⟩, ⟨sbx, sby⟩⟩ := s
        dsimp only at p0 p1 p2 p3 p4 p5 q0 q1 q2 q3 q4 q5
        go_wp2
        go_quiet (fail)
        have hk2' : ¬ (m1 : Int) ≤ (k : Int) := by omega
        have hk3 : decide (m1 ≤ k) = false := decide_eq_false (by omega)
        go_wp2
        go_quiet (fail)
        go_wp2
        exact ⟨⟨k + 1, _, by omega, by go_num, rfl⟩, by simp [intOf]; omega⟩
      · have hk1' : ¬ (k : Int) < (m1 : Int) := by omega
        have hk1e : decide (k < m1) = false := decide_eq_false (by omega)
        have hk1f : decide (m1 ≤ k) = true := decide_eq_true (by omega)
        obtain ⟨j, hj⟩ : ∃ j, k = m1 + j := ⟨k - m1, by omega⟩
        have HJ := Lib.hid hj
        have hj2 : j < S2.length := by rw [HM2.out]; omega
        have e1 : (S1 ++ S2.map (Sd.up n1))[k]'(by rw [List.length_append, List.length_map, HM1.out]; omega) = Sd.up n1 S2[j] := by
          rw [List.getElem_append_right (by rw [HM1.out]; omega), List.getElem_map]
          congr 2
          rw [HM1.out]; omega
        obtain ⟨g7, o7, rfl, -, p0, p1, p2, p3, p4, p5⟩ := hq7.sd k (by rw [List.length_append, List.length_map, HM1.out]; omega)
        rw [e1] at p0 p1 p2 p3 p4 p5
        obtain ⟨g4, o4, rfl, -, q0, q1, q2, q3, q4, q5⟩ := hq4.sd j hj2
        clear e1
        have hsf := HLT.out _ (List.getElem_mem hj2)
        generalize S2[j] = s at *
        obtain ⟨sf, sr, ⟨sax, say⟩, ⟨sbx, sby⟩⟩ := s
        simp only [Sd.up] at p0 p1 p2 p3 p4 p5
        dsimp only at q0 q1 q2 q3 q4 q5 hsf
        obtain ⟨sg, hsg⟩ : ∃ g, sf + n1 = g := ⟨_, rfl⟩
        have hkj : (k : Int) - (m1 : Int) = (j : Int) := by omega
        have hjm : (j : Int) < (m2 : Int) := by omega
        have hsg2 : (sf : Int) + (n1 : Int) = (sg : Int) := by omega
        rw [hsg] at p0
        have hsg3 : sg < 1000 := by omega
        clear hsg hj hj2 hsf
        go_wp2
        go_quiet (fail)
        go_wp2
        go_quiet (fail)
        go_wp2
        exact ⟨⟨k + 1, _, by omega, by go_num, rfl⟩, by simp [intOf]; omega⟩
    · have hbY : Below w2.heap.size w2 (w7.drewN q) := below_drewN hbX q
      have hlt' : ¬ (k : Int) < ((m1 + m2 : Nat) : Int) := by omega
      clear hq3 hq4 hq7 hbX HLT
      generalize w7.drewN q = w8 at *
      have hr18 := hr1.keep hbY
      have HT8 := Lib.hid (fun f hf => (HT1.out f hf).keep hbY)
      have hkP8 := hkP2.keep hbY
      have hbw8 : Below B w w8 := hbw2.trans (hbY.mono (by omega))
      have hsP8 : B < w8.heap.size := by have := hbY.size; omega
      obtain ⟨y0, hy0⟩ : ∃ o, some o = some (⟨B, 0, none⟩ : Addr) := ⟨_, rfl⟩
      clear hy0 y0
      have z0 : w8.cell? ⟨B, 0, none⟩ = some (.int .i64 px) := by
        obtain ⟨b, o, e, h, -⟩ := hkP8.at (i := 0) (v := .int .i64 px) rfl
        cases e; exact h
      have z1 : w8.cell? ⟨B, 0 + 1, none⟩ = some (.int .i64 py) := by
        obtain ⟨b, o, e, h, -⟩ := hkP8.at (i := 1) (v := .int .i64 py) rfl
        cases e; exact h
      clear hr1 hr2 hkP2 hkP8 hbY HT1 HT2 t1 t2 t3 l1 l2 l3 k1 k2 k3 hk hs1 hs2 hn2 HN2 HG2 HA1 HA2 HM1 HM2 hbw2 hsP
      go_wp2
      go_loopw [11] (fun o wr => ∃ (i : Nat), i ≤ n1 ∧ o = .int .i64 i ∧ Below w8.heap.size w8 wr) (fun o _ => n1 - (intOf o).toNat)
      case atStart => exact ⟨0, by omega, rfl, Below.refl _ _⟩
      case round =>
        obtain ⟨i, hi, rfl, hbl⟩ := hrel
        obtain ⟨wO, hwO⟩ : ∃ W, W = wr := ⟨wr, rfl⟩
        subst hwO
        by_cases hlt : i < n1
        · have hlt' : (i : Int) < (n1 : Int) := by omega
          have hil : i < fs.length := by rw [HN1.out]; exact hlt
          obtain ⟨ba, oa, rfl, hba, f0, f1⟩ := hr18.fc i hil
          have HFT := Lib.hid (HT8.out _ (List.getElem_mem hil))
          have HGF := HG1.out _ (List.getElem_mem hil)
          generalize fs[i] = f at *
          obtain ⟨rs, ra, rc, ls, aa, ac⟩ := f
          dsimp only [Fc.rval, Fc.aval] at f0 f1 HGF
          obtain ⟨hg1, hg2⟩ := HGF
          obtain ⟨RN, hRN⟩ : ∃ R, rs.length = R := ⟨_, rfl⟩
          have HRN := Lib.hid hRN
          rw [hRN] at f0 hg1
          clear hRN
          have hsr := hbl.size
          have hba' : ba < wO.heap.size := by omega
          have hbB := Below.new wO (.cells #[.slice none 0 0, .slice none 0 0] 49)
          have kF : (wO.alloc (.cells #[.slice none 0 0, .slice none 0 0] 49)).heap[wO.heap.size]? = some (.cells #[.slice none 0 0, .slice none 0 0] 49 (0, 0)) := heap_alloc_new wO _
          have e0 := (hbl.cell (p := ⟨ba, oa + i * 2, none⟩) hba).trans f0
          have e1 := (hbl.cell (p := ⟨ba, oa + i * 2 + 1, none⟩) hba).trans f1
          go_wp2
          go_loopw [13] (fun k W => ∃ (j : Nat) (q : List PC) (v : Value), j ≤ RN ∧ k = .int .i64 j ∧ q.length = j ∧ Hid (q.map PC.l = (rs.take j).map (fun r => turnedP r.l)) ∧ Hid (W.heap[wO.heap.size]? = some (.cells #[v, .slice none 0 0] 49 (0, 0))) ∧ W.ownsRow wO.heap.size 65 1 v j (rcs q) ∧ Hid (∀ r ∈ q, PcT W r) ∧ Below wO.heap.size wO W) (fun k _ => RN - (intOf k).toNat)
          case atStart => exact ⟨0, [], .slice none 0 0, by omega, rfl, rfl, Lib.hid rfl, Lib.hid kF, World.ownsRow_nil _ _ _ _, Lib.hid (by simp), hbB⟩
          case round =>
            obtain ⟨j, q, v, hj, rfl, hql, HQ, HKF, hor, HPT, hbr⟩ := hrel
            have d0 := (hbr.cell (p := ⟨ba, oa + i * 2, none⟩) hba').trans e0
            by_cases hlr : j < RN
            · have r1' : (j : Int) < (RN : Int) := by omega
              have hjl : j < rs.length := by rw [HRN.out]; exact hlr
              have hbw := hbl.trans (hbr.mono hsr)
              have hrr : Rd wr ra (rcs rs) := HFT.out.1.1.1.keep hbw
              obtain ⟨b2, o2, rfl, hb2, g0⟩ := (HFT.out.1.1.1).rc j hjl
              have HRO := Lib.hid (HFT.out.1.2.1 _ (List.getElem_mem hjl))
              have hRL := hg2 _ (List.getElem_mem hjl)
              have HRS : Hid ((rs.take (j + 1)).map (fun r => turnedP r.l) = (rs.take j).map (fun r => turnedP r.l) ++ [turnedP rs[j].l]) := Lib.hid (by
                rw [List.take_succ_eq_append_getElem hjl, List.map_append, List.map_singleton])
              generalize rs[j] = R at *
              obtain ⟨L, Rp, Rc⟩ := R
              have HTU := Lib.hid (fun W (h : Below w8.heap.size w8 W) => turned_any Rp Rc L (by dsimp only at hRL; omega) W (HRO.out.1.keep h) HRO.out.2.2.2)
              obtain ⟨LN, hLN⟩ : ∃ R, L.length = R := ⟨_, rfl⟩
              have HLN := Lib.hid hLN
              have q1 := HRO.out.2.1
              have q2 := HRO.out.2.2.1
              dsimp only [PC.val] at g0 q1 q2 hRL
              rw [hLN] at g0 q1 HTU hRL
              clear hLN
              unfold maxLen at q2
              go_wp2_with fail
              refine wp_region_lit_txtZ (some 14) [0, 1, 2, 3, 4, 5, 6, 7, 8, 9, 13] (fun W => W.heap[wO.heap.size]? = some (.cells #[v, .slice none 0 0] 49 (0, 0)) ∧ Below wO.heap.size wO W) (by kernel_rfl) (by kernel_rfl) (by kernel_rfl) (by kernel_rfl) ⟨HKF.out, hbr.drew⟩ ?_
              (refine txt_light ?_ rfl rfl ?_ ?_; rotate_left; · (intro w' hS; (try dsimp only at hS); go_simp; with_reducible rfl)); try simp only [Act.put, List.getElem_toArray, List.getElem_cons_succ, List.getElem_cons_zero, List.setIfInBounds_toArray, List.set_cons_zero, List.set_cons_succ]
              refine txt_light (v) rfl rfl ?_ ?_
              · intro w' hS
                obtain ⟨hS1, hS2⟩ := hS
                have c7 : w'.cell? ⟨wO.heap.size, 0, none⟩ = some v := by simp [World.cell?, hS1]
                clear hS1 hS2
                go_simp
              try simp only [Act.put, List.getElem_toArray, List.getElem_cons_succ, List.getElem_cons_zero, List.setIfInBounds_toArray, List.set_cons_zero, List.set_cons_succ]
              (refine txt_light ?_ rfl rfl ?_ ?_; rotate_left; · (intro w' hS; (try dsimp only at hS); go_simp; with_reducible rfl)); try simp only [Act.put, List.getElem_toArray, List.getElem_cons_succ, List.getElem_cons_zero, List.setIfInBounds_toArray, List.set_cons_zero, List.set_cons_succ]
              (refine txt_light ?_ rfl rfl ?_ ?_; rotate_left; · (intro w' hS; (try dsimp only at hS); go_simp; with_reducible rfl)); try simp only [Act.put, List.getElem_toArray, List.getElem_cons_succ, List.getElem_cons_zero, List.setIfInBounds_toArray, List.set_cons_zero, List.set_cons_succ]
              (refine txt_light ?_ rfl rfl ?_ ?_; rotate_left; · (intro w' hS; (try dsimp only at hS); go_simp; with_reducible rfl)); try simp only [Act.put, List.getElem_toArray, List.getElem_cons_succ, List.getElem_cons_zero, List.setIfInBounds_toArray, List.set_cons_zero, List.set_cons_succ]
              (refine txt_light ?_ rfl rfl ?_ ?_; rotate_left; · (intro w' hS; (try dsimp only at hS); go_simp; with_reducible rfl)); try simp only [Act.put, List.getElem_toArray, List.getElem_cons_succ, List.getElem_cons_zero, List.setIfInBounds_toArray, List.set_cons_zero, List.set_cons_succ]
              refine txt_light (.slice (some ⟨b2, o2, none⟩) RN rc) rfl rfl ?_ ?_
              · intro w' hS
                obtain ⟨hS1, hS2⟩ := hS
                have c7 := (hS2.cell (p := ⟨ba, oa + i * 2, none⟩) hba').trans e0
                clear hS1 hS2
                go_simp
              try simp only [Act.put, List.getElem_toArray, List.getElem_cons_succ, List.getElem_cons_zero, List.setIfInBounds_toArray, List.set_cons_zero, List.set_cons_succ]
              (refine txt_light ?_ rfl rfl ?_ ?_; rotate_left; · (intro w' hS; (try dsimp only at hS); go_simp; with_reducible rfl)); try simp only [Act.put, List.getElem_toArray, List.getElem_cons_succ, List.getElem_cons_zero, List.setIfInBounds_toArray, List.set_cons_zero, List.set_cons_succ]
              (refine txt_light ?_ rfl rfl ?_ ?_; rotate_left; · (intro w' hS; (try dsimp only at hS); go_simp; with_reducible rfl)); try simp only [Act.put, List.getElem_toArray, List.getElem_cons_succ, List.getElem_cons_zero, List.setIfInBounds_toArray, List.set_cons_zero, List.set_cons_succ]
              refine txt_light (.slice Rp LN Rc) rfl rfl ?_ ?_
              · intro w' hS
                obtain ⟨hS1, hS2⟩ := hS
                have c7 := ((hbl.trans (hS2.mono hsr)).cell (p := ⟨b2, o2 + j, none⟩) hb2).trans g0
                clear hS1 hS2
                go_simp
              try simp only [Act.put, List.getElem_toArray, List.getElem_cons_succ, List.getElem_cons_zero, List.setIfInBounds_toArray, List.set_cons_zero, List.set_cons_succ]
              have HK0 : Hid (wr.drew.heap[wO.heap.size]? = some (.cells #[v, .slice none 0 0] 49 (0, 0))) := HKF
              have hbd : Below wO.heap.size wO wr.drew := hbr.drew
              have hor0 : wr.drew.ownsRow wO.heap.size 65 1 v j (rcs q) := hor
              have HP0 : Hid (∀ r ∈ q, PcT wr.drew r) := HPT
              have hbwd : Below w8.heap.size w8 wr.drew := hbw.drew
              clear hor HKF HPT hbr d0 hbw
              generalize wr.drew = W0 at *
              refine txt_heavy rfl rfl (fun K hK => ?_)
              go_step
              refine (HTU.out W0 hbwd).mono ?_
              rintro e W2 ⟨v2, rfl, ho2, hb2t⟩
              have hlW : wO.heap.size < W0.heap.size := (Array.getElem?_eq_some_iff.1 HK0.out).1
              have HK2 : Hid (W2.heap[wO.heap.size]? = some (.cells #[v, .slice none 0 0] 49 (0, 0))) := Lib.hid ((hb2t.block _ hlW).trans HK0.out)
              have hbd2 := hbd.trans (hb2t.mono hbd.size)
              have hor2 := hor0.below hb2t
              have HP2 : Hid (∀ r ∈ q, PcT W2 r) := Lib.hid (fun r hr => (HP0.out r hr).keep hb2t)
              obtain ⟨p2, k2, rfl, f1', f2', f3', f4', -⟩ := ho2.form
              have hlt2 : (turnedP L).length = LN := by rw [turnedP_len, HLN.out]
              have HPN : Hid (PcT W2 ⟨turnedP L, p2, k2⟩) := Lib.hid ⟨⟨f4', by dsimp only; omega, f2', f3'⟩, TypB.of_owns ho2⟩
              dsimp only
              refine hK.out _ _ ⟨HK2.out, hbd2⟩ ?_
              clear hK K ho2 hb2t hor0 HK0 HP0 hlW f1' f2' f3' f4' hbwd hbd
              try simp only [Act.put, List.getElem_toArray, List.getElem_cons_succ, List.getElem_cons_zero, List.setIfInBounds_toArray, List.set_cons_zero, List.set_cons_succ]
              refine txt_heavy rfl rfl (fun K hK => ?_)
              go_step
              have hlX : wO.heap.size < W2.heap.size := (Array.getElem?_eq_some_iff.1 HK2.out).1
              have hb3 := hbd2.alloc (by omega) (.cells #[.slice p2 LN k2] 65)
              have hx3 := Below.new W2 (.cells #[.slice p2 LN k2] 65)
              have k3 : (W2.alloc (.cells #[.slice p2 LN k2] 65)).heap[wO.heap.size]? = some (.cells #[v, .slice none 0 0] 49 (0, 0)) := (Below.heap_alloc _ _ _ hlX).trans HK2.out
              have rd := Rd.lit W2 W2.heap.size [.slice p2 LN k2] 65 rfl
              have hor3 := hor2.below hx3
              have HP3 : Hid (∀ r ∈ q, PcT (W2.alloc (.cells #[.slice p2 LN k2] 65)) r) := Lib.hid (fun r hr => (HP2.out r hr).keep hx3)
              have HPN3 := Lib.hid (HPN.out.keep hx3)
              have HK3 := Lib.hid k3
              refine hK.out _ _ ⟨k3, hb3⟩ ?_
              clear hK K k3 hx3 hor2 HP2 HPN HK2 hbd2 hlX
              generalize W2.alloc (.cells #[.slice p2 LN k2] 65) = W3 at *
              try simp only [Act.put, List.getElem_toArray, List.getElem_cons_succ, List.getElem_cons_zero, List.setIfInBounds_toArray, List.set_cons_zero, List.set_cons_succ]
              refine txt_app wO hb3 rfl rfl (.tmp 134) (.tmp 144) 46 rfl 65 (.slice none 0 0) 1 24 Try.underlying46 Try.infoRow rfl (by decide) v j (rcs q) rfl hor3 (some ⟨W2.heap.size, 0, none⟩) 1 1 [.slice p2 LN k2] rfl (fun h => by cases h) rd rfl (by simp [Value.oneCell']) (by omega) (by decide) ?_
              intro v3 W4 ho4 hg4 hb4
              have HK4 : Hid (W4.heap[wO.heap.size]? = some (.cells #[v, .slice none 0 0] 49 (0, 0))) := Lib.hid (((KeepS.of_row (S := fun T => T = 49) hor3 (by decide) hg4).2 _ _ _ _ HK3.out rfl).trans HK3.out)
              have HKS := Lib.hid (KeepS.of_row (S := fun T => T = 37) hor3 (by decide) hg4)
              have HP4 : Hid (∀ r ∈ q ++ [⟨turnedP L, p2, k2⟩], PcT W4 r) := Lib.hid (fun r hr => by
                rcases List.mem_append.1 hr with hr | hr
                · exact (HP3.out r hr).keepS (S := fun T => T = 37) rfl HKS.out
                · rw [List.mem_singleton.1 hr]; exact HPN3.out.keepS (S := fun T => T = 37) rfl HKS.out)
              have hqc : rcs q ++ [.slice p2 LN k2] = rcs (q ++ [⟨turnedP L, p2, k2⟩]) := by rw [rcs_snoc]; simp [PC.val, hlt2]
              rw [hqc] at ho4
              obtain ⟨p3, k3, rfl, -⟩ := ho4.form
              refine ⟨⟨HK4.out, hb4⟩, ?_⟩
              clear hor3 HP3 HPN3 HK3 HKS hg4 rd hb3 hqc
              try simp only [Act.put, List.getElem_toArray, List.getElem_cons_succ, List.getElem_cons_zero, List.setIfInBounds_toArray, List.set_cons_zero, List.set_cons_succ]
              (refine txt_light ?_ rfl rfl ?_ ?_; rotate_left; · (intro w' hS; (try dsimp only at hS); go_simp; with_reducible rfl)); try simp only [Act.put, List.getElem_toArray, List.getElem_cons_succ, List.getElem_cons_zero, List.setIfInBounds_toArray, List.set_cons_zero, List.set_cons_succ]
              refine txt_last rfl rfl rfl (fun K hK => ?_)
              have c7 : W4.cell? ⟨wO.heap.size, 0, none⟩ = some v := by simp [World.cell?, HK4.out]
              have c8 : W4.frozen? ⟨wO.heap.size, 0, none⟩ = false := by simp [World.frozen?, HK4.out]
              go_step
              refine hK.out _ _ ?_
              refine txt_nil ?_
              have HK5 : Hid ((W4.setCell ⟨wO.heap.size, 0, none⟩ (.slice p3 (j + 1) k3)).heap[wO.heap.size]? = some (.cells #[.slice p3 (j + 1) k3, .slice none 0 0] 49 (0, 0))) := Lib.hid (blkT_set (vs := [v, .slice none 0 0]) HK4.out 0 _)
              have ho5 := ownsRow_box ho4 HK4.out (by decide) 0 (.slice p3 (j + 1) k3)
              have HP5 : Hid (∀ r ∈ q ++ [⟨turnedP L, p2, k2⟩], PcT (W4.setCell ⟨wO.heap.size, 0, none⟩ (.slice p3 (j + 1) k3)) r) := Lib.hid (fun r hr => (HP4.out r hr).keepS (S := fun T => T = 37) rfl (KeepS.store HK4.out (by decide) _))
              have hb5 := hb4.setCell (p := ⟨wO.heap.size, 0, none⟩) (Nat.le_refl _) (.slice p3 (j + 1) k3)
              have HSQ : Hid ((q ++ [(⟨turnedP L, p2, k2⟩ : PC)]).map PC.l = (rs.take (j + 1)).map (fun r => turnedP r.l)) := Lib.hid (by
                rw [HRS.out, List.map_append, HQ.out]; rfl)
              have hql5 : (q ++ [(⟨turnedP L, p2, k2⟩ : PC)]).length = j + 1 := by simp [hql]
              clear hK K c7 c8 ho4 HP4 hb4 HK4 HRS HQ HRO hlt2 HLN
              generalize q ++ [(⟨turnedP L, p2, k2⟩ : PC)] = q5 at *
              generalize W4.setCell ⟨wO.heap.size, 0, none⟩ (.slice p3 (j + 1) k3) = W5 at *
              go_wp2
              exact ⟨⟨j + 1, q5, .slice p3 (j + 1) k3, by omega, by go_num, hql5, HSQ, HK5, ho5, HP5, hb5⟩, by simp [intOf]; omega⟩
            · have hjn : j = RN := by omega
              subst hjn
              have hlr' : ¬ (j : Int) < (j : Int) := by omega
              have HQ2 : Hid (q.map PC.l = (rs.map PC.l).map turnedP) := Lib.hid (by
                rw [HQ.out, List.take_of_length_le (by rw [HRN.out]; omega), List.map_map]; rfl)
              obtain ⟨p3, k3, rfl, g1, g2, g3, g4, -⟩ := hor.form
              have HTO : Hid (Fc.Ok wr ⟨q, p3, k3, [], none, 0⟩) := Lib.hid ⟨⟨g4, by rw [hql]; exact g1, g2, g3⟩, fun r hr => (HPT.out r hr).1, Rd.nil _ _, Nat.le_refl _, (by decide : 0 ≤ maxLen), fun _ => rfl⟩
              have hbw := hbl.trans (hbr.mono hsr)
              have HFO : Hid (Fc.Ok wr ⟨rs, ra, rc, ls, aa, ac⟩) := Lib.hid (HFT.out.1.keep hbw)
              have hLq : ∀ r ∈ q, r.l.length ≤ 1000 := by
                intro r hr
                have h1 : r.l ∈ q.map PC.l := List.mem_map_of_mem hr
                rw [HQ2.out, List.map_map] at h1
                obtain ⟨x, hx, h2⟩ := List.mem_map.1 h1
                have := hg2 x hx
                rw [← h2]
                simp only [Function.comp_apply, turnedP_len]
                omega
              have HW1 := Lib.hid (fun W (h : Below wr.heap.size wr W) => fwind_any ⟨rs, ra, rc, ls, aa, ac⟩ (by rw [HRN.out]; omega) (fun r hr => by have := hg2 r hr; omega) ⟨px, py⟩ W (HFO.out.keep h))
              have HW2 := Lib.hid (fun W (h : Below wr.heap.size wr W) => fwind_any ⟨q, p3, k3, [], none, 0⟩ (by rw [hql]; omega) hLq ⟨px, py⟩ W (HTO.out.keep h))
              have hfb := fwF_bd ⟨px, py⟩ (rs.map PC.l) (by rw [List.length_map, HRN.out]; omega) (by
                intro r hr
                obtain ⟨x, hx, rfl⟩ := List.mem_map.1 hr
                have := hg2 x hx; omega)
              simp only [Fc.rings, HQ2.out, fwF_turned, fwOk_turned, Fc.val, Fc.rval, Fc.aval, Pt.val, HRN.out, hql, List.length_nil] at HW1 HW2
              have HW1 := Lib.hid HW1.out
              have HW2 := Lib.hid HW2.out
              generalize fwF ⟨px, py⟩ (rs.map PC.l) = FW at *
              generalize fwOk ⟨px, py⟩ (rs.map PC.l) = FK at *
              have d1 := (hbr.cell (p := ⟨ba, oa + i * 2 + 1, none⟩) hba').trans e1
              have y0 := (hbw.cell (p := ⟨B, 0, none⟩) hsP8).trans z0
              have y1 := (hbw.cell (p := ⟨B, 0 + 1, none⟩) hsP8).trans z1
              go_wp2_with fail
              refine wp_region_lit_txtZ none [0, 1, 2, 3, 4, 6, 7, 8, 9, 10] (fun W => Below wr.heap.size wr W) (by kernel_rfl) (by kernel_rfl) (by kernel_rfl) (by kernel_rfl) (Below.refl _ _).drew ?_
              (refine txt_light ?_ rfl rfl ?_ ?_; rotate_left; · (intro w' hS; (try dsimp only at hS); go_simp; with_reducible rfl)); try simp only [Act.put, List.getElem_toArray, List.getElem_cons_succ, List.getElem_cons_zero, List.setIfInBounds_toArray, List.set_cons_zero, List.set_cons_succ]
              (refine txt_light ?_ rfl rfl ?_ ?_; rotate_left; · (intro w' hS; (try dsimp only at hS); go_simp; with_reducible rfl)); try simp only [Act.put, List.getElem_toArray, List.getElem_cons_succ, List.getElem_cons_zero, List.setIfInBounds_toArray, List.set_cons_zero, List.set_cons_succ]
              (refine txt_light ?_ rfl rfl ?_ ?_; rotate_left; · (intro w' hS; (try dsimp only at hS); go_simp; with_reducible rfl)); try simp only [Act.put, List.getElem_toArray, List.getElem_cons_succ, List.getElem_cons_zero, List.setIfInBounds_toArray, List.set_cons_zero, List.set_cons_succ]
              refine txt_light (.agg #[.slice ra j rc, .slice aa ls.length ac]) rfl rfl ?_ ?_
              · intro w' hS
                have c5 := (hS.cell (p := ⟨ba, oa + i * 2, none⟩) (by have := hbr.size; exact Nat.lt_of_lt_of_le hba' this)).trans d0
                have c6 := (hS.cell (p := ⟨ba, oa + i * 2 + 1, none⟩) (by have := hbr.size; exact Nat.lt_of_lt_of_le hba' this)).trans d1
                clear hS
                go_simp
              try simp only [Act.put, List.getElem_toArray, List.getElem_cons_succ, List.getElem_cons_zero, List.setIfInBounds_toArray, List.set_cons_zero, List.set_cons_succ]
              refine txt_light (.agg #[.int .i64 px, .int .i64 py]) rfl rfl ?_ ?_
              · intro w' hS
                have c5 := (hS.cell (p := ⟨B, 0, none⟩) (by have := hbw.size; exact Nat.lt_of_lt_of_le hsP8 this)).trans y0
                have c6 := (hS.cell (p := ⟨B, 0 + 1, none⟩) (by have := hbw.size; exact Nat.lt_of_lt_of_le hsP8 this)).trans y1
                clear hS
                go_simp
              try simp only [Act.put, List.getElem_toArray, List.getElem_cons_succ, List.getElem_cons_zero, List.setIfInBounds_toArray, List.set_cons_zero, List.set_cons_succ]
              have hbd : Below wr.heap.size wr wr.drew := (Below.refl _ _).drew
              generalize wr.drew = W0 at *
              refine txt_heavy rfl rfl (fun K hK => ?_)
              go_step
              refine (HW1.out W0 hbd).mono ?_
              rintro e W2 ⟨rfl, hb2t⟩
              have hbd2 := hbd.trans (hb2t.mono hbd.size)
              dsimp only
              refine hK.out _ _ hbd2 ?_
              clear hK K hb2t hbd
              try simp only [Act.put, List.getElem_toArray, List.getElem_cons_succ, List.getElem_cons_zero, List.setIfInBounds_toArray, List.set_cons_zero, List.set_cons_succ]
              (refine txt_light ?_ rfl rfl ?_ ?_; rotate_left; · (intro w' hS; (try dsimp only at hS); go_simp; with_reducible rfl)); try simp only [Act.put, List.getElem_toArray, List.getElem_cons_succ, List.getElem_cons_zero, List.setIfInBounds_toArray, List.set_cons_zero, List.set_cons_succ]
              (refine txt_light ?_ rfl rfl ?_ ?_; rotate_left; · (intro w' hS; (try dsimp only at hS); go_simp; with_reducible rfl)); try simp only [Act.put, List.getElem_toArray, List.getElem_cons_succ, List.getElem_cons_zero, List.setIfInBounds_toArray, List.set_cons_zero, List.set_cons_succ]
              (refine txt_light ?_ rfl rfl ?_ ?_; rotate_left; · (intro w' hS; (try dsimp only at hS); go_simp; with_reducible rfl)); try simp only [Act.put, List.getElem_toArray, List.getElem_cons_succ, List.getElem_cons_zero, List.setIfInBounds_toArray, List.set_cons_zero, List.set_cons_succ]
              (refine txt_light ?_ rfl rfl ?_ ?_; rotate_left; · (intro w' hS; (try dsimp only at hS); go_simp; with_reducible rfl)); try simp only [Act.put, List.getElem_toArray, List.getElem_cons_succ, List.getElem_cons_zero, List.setIfInBounds_toArray, List.set_cons_zero, List.set_cons_succ]
              (refine txt_light ?_ rfl rfl ?_ ?_; rotate_left; · (intro w' hS; (try dsimp only at hS); go_simp; with_reducible rfl)); try simp only [Act.put, List.getElem_toArray, List.getElem_cons_succ, List.getElem_cons_zero, List.setIfInBounds_toArray, List.set_cons_zero, List.set_cons_succ]
              refine txt_nil ?_
              have t0 : wr.cell? ⟨wO.heap.size, 0, none⟩ = some (.slice p3 j k3) := by simp [World.cell?, HKF.out]
              have t1 : wr.cell? ⟨wO.heap.size, 0 + 1, none⟩ = some (.slice none 0 0) := by simp [World.cell?, HKF.out]
              have hlO : wO.heap.size < wr.heap.size := (Array.getElem?_eq_some_iff.1 HKF.out).1
              have s0 := (hbd2.cell (p := ⟨wO.heap.size, 0, none⟩) hlO).trans t0
              have s1 := (hbd2.cell (p := ⟨wO.heap.size, 0 + 1, none⟩) hlO).trans t1
              have x0 := (hbd2.cell (p := ⟨B, 0, none⟩) (by have := hbw.size; exact Nat.lt_of_lt_of_le hsP8 this)).trans y0
              have x1 := (hbd2.cell (p := ⟨B, 0 + 1, none⟩) (by have := hbw.size; exact Nat.lt_of_lt_of_le hsP8 this)).trans y1
              go_wp2_with fail
              refine (HW2.out W2 hbd2).mono ?_
              rintro e W3 ⟨rfl, hb3t⟩
              have hbd3 := hbd2.trans (hb3t.mono hbd2.size)
              clear hb3t s0 s1 x0 x1 hbd2
              have hng : - -FW = FW := by omega
              have hw1 : (FW != FW) = false := by simp
              have hw2 : (FK != FK) = false := by simp
              dsimp only
              go_wp2
              have hba2 : ba < wr.heap.size := Nat.lt_of_lt_of_le hba' hbr.size
              clear hw1 hw2 hng HW1 HW2
              obtain ⟨wM, hwM⟩ : ∃ W, W = wr := ⟨wr, rfl⟩
              subst hwM
              go_loopw [18] (fun o W => ∃ (m : Nat), m ≤ j ∧ o = .int .i64 m ∧ Below wM.heap.size wM W) (fun o _ => j - (intOf o).toNat)
              case atStart => exact ⟨0, by omega, rfl, hbd3⟩
              case round =>
                obtain ⟨m, hm, rfl, hbm⟩ := hrel
                have r0 := (hbm.cell (p := ⟨ba, oa + i * 2, none⟩) (by exact hba2)).trans d0
                by_cases hlm : m < j
                · have hlm' : (m : Int) < (j : Int) := by omega
                  have hmr : m < rs.length := by rw [HRN.out]; omega
                  have hmq : m < q.length := by rw [hql]; omega
                  obtain ⟨b2, o2, rfl, hb2, g0⟩ := (HFO.out.1.1).rc m hmr
                  obtain ⟨b3, o3, rfl, hb3, h0⟩ := (HTO.out.1.1).rc m hmq
                  have hqm : q[m].l = turnedP rs[m].l := by
                    have h1 : (q.map PC.l)[m]? = ((rs.map PC.l).map turnedP)[m]? := by rw [HQ2.out]
                    simpa [hmr, hmq] using h1
                  have hLr := hg2 _ (List.getElem_mem hmr)
                  have HA1 := Lib.hid (fun W (h : Below wM.heap.size wM W) => rarea_any rs[m].p rs[m].c rs[m].l (by omega) W ((HFO.out.2.1 _ (List.getElem_mem hmr)).1.keep h))
                  have HA2 := Lib.hid (fun W (h : Below wM.heap.size wM W) => rarea_any q[m].p q[m].c q[m].l (by rw [hqm, turnedP_len]; omega) W ((HTO.out.2.1 _ (List.getElem_mem hmq)).1.keep h))
                  have hab := areaF_bd rs[m].l (by omega)
                  rw [hqm, areaF_turned, turnedP_len] at HA2
                  rw [PC.val] at g0 h0
                  rw [hqm, turnedP_len] at h0
                  generalize areaF rs[m].l = AR at *
                  generalize (rs[m].l).length = LN at *
                  generalize rs[m].p = Rp at *
                  generalize rs[m].c = Rc at *
                  generalize q[m].p = Qp at *
                  generalize q[m].c = Qc at *
                  clear hqm
                  have hng : - -AR = AR := by omega
                  have hw1 : (-AR != -AR) = false := by simp
                  go_wp2_with fail
                  refine wp_region_lit_txtZ none [0, 1, 2, 3, 4, 6, 7, 8, 9, 10, 11, 12, 13, 15, 16] (fun W => Below wM.heap.size wM W) (by kernel_rfl) (by kernel_rfl) (by kernel_rfl) (by kernel_rfl) hbm.drew ?_
                  (refine txt_light ?_ rfl rfl ?_ ?_; rotate_left; · (intro w' hS; (try dsimp only at hS); go_simp; with_reducible rfl)); try simp only [Act.put, List.getElem_toArray, List.getElem_cons_succ, List.getElem_cons_zero, List.setIfInBounds_toArray, List.set_cons_zero, List.set_cons_succ]
                  refine txt_light (.slice (some ⟨b3, o3, none⟩) j k3) rfl rfl ?_ ?_
                  · intro w' hS
                    have c5 := (hS.cell (p := ⟨wO.heap.size, 0, none⟩) (by exact hlO)).trans t0
                    clear hS
                    go_simp
                  try simp only [Act.put, List.getElem_toArray, List.getElem_cons_succ, List.getElem_cons_zero, List.setIfInBounds_toArray, List.set_cons_zero, List.set_cons_succ]
                  (refine txt_light ?_ rfl rfl ?_ ?_; rotate_left; · (intro w' hS; (try dsimp only at hS); go_simp; with_reducible rfl)); try simp only [Act.put, List.getElem_toArray, List.getElem_cons_succ, List.getElem_cons_zero, List.setIfInBounds_toArray, List.set_cons_zero, List.set_cons_succ]
                  (refine txt_light ?_ rfl rfl ?_ ?_; rotate_left; · (intro w' hS; (try dsimp only at hS); go_simp; with_reducible rfl)); try simp only [Act.put, List.getElem_toArray, List.getElem_cons_succ, List.getElem_cons_zero, List.setIfInBounds_toArray, List.set_cons_zero, List.set_cons_succ]
                  refine txt_light (.slice Qp LN Qc) rfl rfl ?_ ?_
                  · intro w' hS
                    have c5 := (hS.cell (p := ⟨b3, o3 + m, none⟩) (by exact hb3)).trans h0
                    clear hS
                    go_simp
                  try simp only [Act.put, List.getElem_toArray, List.getElem_cons_succ, List.getElem_cons_zero, List.setIfInBounds_toArray, List.set_cons_zero, List.set_cons_succ]
                  have hbd : Below wM.heap.size wM wr.drew := hbm.drew
                  generalize wr.drew = W0 at *
                  refine txt_heavy rfl rfl (fun K hK => ?_)
                  go_step
                  refine (HA2.out W0 hbd).mono ?_
                  rintro e W2 ⟨rfl, hb2t⟩
                  have hbd2 := hbd.trans (hb2t.mono hbd.size)
                  dsimp only
                  refine hK.out _ _ hbd2 ?_
                  clear hK K hb2t hbd
                  try simp only [Act.put, List.getElem_toArray, List.getElem_cons_succ, List.getElem_cons_zero, List.setIfInBounds_toArray, List.set_cons_zero, List.set_cons_succ]
                  (refine txt_light ?_ rfl rfl ?_ ?_; rotate_left; · (intro w' hS; (try dsimp only at hS); go_simp; with_reducible rfl)); try simp only [Act.put, List.getElem_toArray, List.getElem_cons_succ, List.getElem_cons_zero, List.setIfInBounds_toArray, List.set_cons_zero, List.set_cons_succ]
                  (refine txt_light ?_ rfl rfl ?_ ?_; rotate_left; · (intro w' hS; (try dsimp only at hS); go_simp; with_reducible rfl)); try simp only [Act.put, List.getElem_toArray, List.getElem_cons_succ, List.getElem_cons_zero, List.setIfInBounds_toArray, List.set_cons_zero, List.set_cons_succ]
                  (refine txt_light ?_ rfl rfl ?_ ?_; rotate_left; · (intro w' hS; (try dsimp only at hS); go_simp; with_reducible rfl)); try simp only [Act.put, List.getElem_toArray, List.getElem_cons_succ, List.getElem_cons_zero, List.setIfInBounds_toArray, List.set_cons_zero, List.set_cons_succ]
                  (refine txt_light ?_ rfl rfl ?_ ?_; rotate_left; · (intro w' hS; (try dsimp only at hS); go_simp; with_reducible rfl)); try simp only [Act.put, List.getElem_toArray, List.getElem_cons_succ, List.getElem_cons_zero, List.setIfInBounds_toArray, List.set_cons_zero, List.set_cons_succ]
                  refine txt_light (.slice (some ⟨b2, o2, none⟩) j rc) rfl rfl ?_ ?_
                  · intro w' hS
                    have c5 := (hS.cell (p := ⟨ba, oa + i * 2, none⟩) (by exact hba2)).trans d0
                    clear hS
                    go_simp
                  try simp only [Act.put, List.getElem_toArray, List.getElem_cons_succ, List.getElem_cons_zero, List.setIfInBounds_toArray, List.set_cons_zero, List.set_cons_succ]
                  (refine txt_light ?_ rfl rfl ?_ ?_; rotate_left; · (intro w' hS; (try dsimp only at hS); go_simp; with_reducible rfl)); try simp only [Act.put, List.getElem_toArray, List.getElem_cons_succ, List.getElem_cons_zero, List.setIfInBounds_toArray, List.set_cons_zero, List.set_cons_succ]
                  (refine txt_light ?_ rfl rfl ?_ ?_; rotate_left; · (intro w' hS; (try dsimp only at hS); go_simp; with_reducible rfl)); try simp only [Act.put, List.getElem_toArray, List.getElem_cons_succ, List.getElem_cons_zero, List.setIfInBounds_toArray, List.set_cons_zero, List.set_cons_succ]
                  refine txt_light (.slice Rp LN Rc) rfl rfl ?_ ?_
                  · intro w' hS
                    have c5 := (hS.cell (p := ⟨b2, o2 + m, none⟩) (by exact hb2)).trans g0
                    clear hS
                    go_simp
                  try simp only [Act.put, List.getElem_toArray, List.getElem_cons_succ, List.getElem_cons_zero, List.setIfInBounds_toArray, List.set_cons_zero, List.set_cons_succ]
                  refine txt_heavy rfl rfl (fun K hK => ?_)
                  go_step
                  refine (HA1.out W2 hbd2).mono ?_
                  rintro e W3 ⟨rfl, hb3t⟩
                  have hbd4 := hbd2.trans (hb3t.mono hbd2.size)
                  dsimp only
                  refine hK.out _ _ hbd4 ?_
                  clear hK K hb3t
                  try simp only [Act.put, List.getElem_toArray, List.getElem_cons_succ, List.getElem_cons_zero, List.setIfInBounds_toArray, List.set_cons_zero, List.set_cons_succ]
                  refine txt_light (.int .i64 (-AR)) rfl rfl ?_ ?_
                  · intro w' hS
                    clear hS
                    go_simp
                    rw [IntKind.wrap_i64]; omega
                  try simp only [Act.put, List.getElem_toArray, List.getElem_cons_succ, List.getElem_cons_zero, List.setIfInBounds_toArray, List.set_cons_zero, List.set_cons_succ]
                  refine txt_light (.bool false) rfl rfl ?_ ?_
                  · intro w' hS
                    clear hS
                    go_simp
                  try simp only [Act.put, List.getElem_toArray, List.getElem_cons_succ, List.getElem_cons_zero, List.setIfInBounds_toArray, List.set_cons_zero, List.set_cons_succ]
                  refine txt_nil ?_
                  go_wp2
                  exact ⟨⟨m + 1, by omega, by go_num, hbd4⟩, by simp [intOf]; omega⟩
                · have hmj : m = j := by omega
                  subst hmj
                  have hbq := hbw.trans (hbm.mono hbw.size)
                  go_wp2
                  exact ⟨⟨i + 1, by omega, by go_num, hbq⟩, by simp [intOf]; omega⟩
        · have hlt' : ¬ (i : Int) < (n1 : Int) := by omega
          have hbq := hbw8.trans (hbl.mono (by omega))
          have hbs := hbq.size
          go_wp2_with fail
          refine (known12 _).mono ?_
          rintro e w9 ⟨rfl, hb9⟩
          have hbz := hbq.trans (hb9.mono (by rw [HBE.out] at hbs; exact hbs))
          clear hbq hb9
          dsimp only
          go_wp2
          go_ret
          exact ⟨rfl, by rw [HBE.out]; exact hbz⟩
theorem fturns_law {w : World} (a : Option Addr) (c : Nat) (X : List Fc) (hl : X.length ≤ c) (hm : c ≤ maxLen) (hn : a = none → c = 0) (hr : Rd w a (fcs X)) (hx : ∀ y ∈ X, FcIn w y) (a1 : Option Addr) (c1 : Nat) (Y : List Fc) (hl1 : Y.length ≤ c1) (hm1 : c1 ≤ maxLen) (hn1 : a1 = none → c1 = 0) (hr1 : Rd w a1 (fcs Y)) (hy : ∀ y ∈ Y, FcIn w y) (p : Pt) (hp : PtIn p) :
    Calls Try.prog 5 #[.slice a X.length c, .slice a1 Y.length c1, p.val] w fun e w' => e = .returned (.bool true) ∧ Below w.heap.size w w' :=
  fturns_walk a c X hl hm a1 c1 Y hl1 hm1 p w hr (fun f hf => (hx f hf).in) hr1 (fun f hf => (hy f hf).in)
end Go.Proofs.Ytebplobagmjfeaa

/-
  graticulelaw24.Same of any tiles.
-/
import Derived.Test.YtjggoajfilnfjaaGreatPk29
import Derived.Test.YtjggoajfilnfjaaGreatPk24
import Derived.Test.YtjggoajfilnfjaaGreatPk12
import Derived.Test.YtjggoajfilnfjaaGreatPk20
set_option linter.unusedVariables false
set_option linter.unusedSimpArgs false
set_option maxRecDepth 100000
namespace Go.Proofs.YtjggoajfilnfjaaGreat
open Go.RowKit
set_option maxHeartbeats 12800000 in
theorem lsame24_any (a b : Option Addr) (ca cb : Nat) (L M : List Ly) (hl : L.length ≤ 1000000) (hm : M.length ≤ 1000000) (hz : ∀ x ∈ L, Ly.Sz x) (hz2 : ∀ x ∈ M, Ly.Sz x) (w : World) (hr : Rd w a (lys L)) (hs : Rd w b (lys M)) (hL : ∀ x ∈ L, x.Ok w) (hM : ∀ x ∈ M, x.Ok w) :
  Calls Tryz.prog 15 #[.agg #[.slice a L.length ca], .agg #[.slice b M.length cb]] w fun e w' => e = .returned (.bool (decide (L.map Ly.core = M.map Ly.core))) ∧ Below w.heap.size w w' := by
 have HR := Lib.hid hr; have HS := Lib.hid hs; have HL := Lib.hid hL; have HM := Lib.hid hM; have HZ := Lib.hid hz; have HZ2 := Lib.hid hz2; have HBF : Hid (L.map Ly.core ≠ M.map Ly.core → decide (L.map Ly.core = M.map Ly.core) = false) := Lib.hid (fun h => decide_eq_false h); have HBT : Hid (L.map Ly.core = M.map Ly.core → decide (L.map Ly.core = M.map Ly.core) = true) := Lib.hid (fun h => decide_eq_true h); have HLN : Hid (L.length ≠ M.length → decide (L.map Ly.core = M.map Ly.core) = false) := Lib.hid (fun h => decide_eq_false (fun e => h (by have := congrArg List.length e; simpa using this))); generalize decide (L.map Ly.core = M.map Ly.core) = Bo at *; obtain ⟨N, hN⟩ : ∃ N, L.length = N := ⟨_, rfl⟩; obtain ⟨N2, hN2⟩ : ∃ N, M.length = N := ⟨_, rfl⟩; have HN := Lib.hid hN; have HN2 := Lib.hid hN2; rw [hN] at hl HLN ⊢; rw [hN2] at hm HLN ⊢; have hzl : (Tryz.prog.info? 46).map (fun i => i.zero) = some (some (.agg #[.string ⟨#[]⟩, .slice none 0 0])) := by kernel_rfl
 have hzm : (Tryz.prog.info? 58).map (fun i => i.zero) = some (some (.agg #[.string ⟨#[]⟩, .slice none 0 0])) := by kernel_rfl
 have hzf : (Tryz.prog.info? 53).map (fun i => i.zero) = some (some (.agg #[.int .i64 0, .int .i64 0, .slice none 0 0, .slice none 0 0])) := by kernel_rfl
 have hzg : (Tryz.prog.info? 63).map (fun i => i.zero) = some (some (.agg #[.int .i64 0, .int .i64 0, .slice none 0 0, .slice none 0 0])) := by kernel_rfl
 clear hr hs hN hN2 hL hM hz hz2
 go_enter Tryz.func15, Tryz.ntmps15
 have kA := (Blk.lit w w.heap.size [.slice a N ca] 24 rfl).alloc (.cells #[.slice b N2 cb] 29); have kB := Blk.lit (w.alloc (.cells #[.slice a N ca] 24)) (w.heap.size + 1) [.slice b N2 cb] 29 (by simp); have hb1 : Below w.heap.size w ((w.alloc (.cells #[.slice a N ca] 24)).alloc (.cells #[.slice b N2 cb] 29)) := (Below.new w _).alloc (by simp) _; have a0 := kA.cell 0 rfl; have b0 := kB.cell 0 rfl
 by_cases hlen : N = N2
 ·subst hlen; go_wp2; generalize ((w.alloc (.cells #[.slice a N ca] 24)).alloc (.cells #[.slice b N cb] 29)) = w1 at *; obtain ⟨B, hB0⟩ : ∃ B, w.heap.size = B := ⟨_, rfl⟩; rw [hB0] at kA kB ⊢; clear hB0; have KA := Lib.hid kA; have KB := Lib.hid kB; have HB1 := Lib.hid hb1; clear kA kB a0 b0 hb1
  go_loopw [5] (fun i wr => ∃ k : Nat, k ≤ N ∧ i = .int .i64 k ∧ Hid ((L.take k).map Ly.core = (M.take k).map Ly.core) ∧ Hid (Below w1.heap.size w1 wr)) (fun i _ => N - (intOf i).toNat)
  case atStart => exact ⟨0, by omega, rfl, Lib.hid rfl, Lib.hid (Below.refl _ _)⟩
  case round =>
   obtain ⟨k, hk, rfl, HE, HBR⟩ := hrel; obtain ⟨Wn, hWn⟩ : ∃ W, W = wr := ⟨_, rfl⟩; subst hWn; have a0 := (KA.out.keep HBR.out).cell 0 rfl; have b0 := (KB.out.keep HBR.out).cell 0 rfl; have hWB := HB1.out.trans (HBR.out.mono HB1.out.size)
   by_cases h1 : k < N
   ·have h1' : (k : Int) < (N : Int) := by omega
    have hkl : k < L.length := by rw [HN.out]; exact h1
    have hkm : k < M.length := by rw [HN2.out]; exact h1
    obtain ⟨b1, o1, rfl, hbb, c0, c1⟩ := (HR.out.keep hWB).ly k hkl; obtain ⟨b2, o2, rfl, hbb2, d0, d1⟩ := (HS.out.keep hWB).ly k hkm; have HST : Hid (Ly.core L[k] = Ly.core M[k] → (L.take (k + 1)).map Ly.core = (M.take (k + 1)).map Ly.core) := Lib.hid fun h => by rw [List.take_succ_eq_append_getElem hkl, List.take_succ_eq_append_getElem hkm, List.map_append, List.map_append, HE.out, List.map_singleton, List.map_singleton, h]
    have HNO : Hid (Ly.core L[k] ≠ Ly.core M[k] → Bo = false) := Lib.hid fun hx => HBF.out (fun h => hx (by
     have := congrArg (fun z => z[k]?) h; simp [hkl, hkm] at this; exact this))
    have hx := (HL.out _ (List.getElem_mem hkl)).keep hWB; have hy := (HM.out _ (List.getElem_mem hkm)).keep hWB; have hzx := HZ.out _ (List.getElem_mem hkl); have hzy := HZ2.out _ (List.getElem_mem hkm); generalize L[k] = x at *; generalize M[k] = y at *; obtain ⟨NM, fs, fa, fc⟩ := x; obtain ⟨NM2, gs, ga, gc⟩ := y; obtain ⟨⟨ha, -⟩, ho⟩ := hx; obtain ⟨⟨ha2, -⟩, ho2⟩ := hy; obtain ⟨z1, z2, z3⟩ := hzx; obtain ⟨y1, y2, y3⟩ := hzy; dsimp only [Ly.val, Ly.fval] at *; simp only [Ly.core, Prod.mk.injEq, ne_eq] at HST HNO; have HFA := Lib.hid ha; have HGA := Lib.hid ha2; have HFO := Lib.hid ho; have HGO := Lib.hid ho2; have HFZ := Lib.hid z3; have HGZ := Lib.hid y3; obtain ⟨n1, hn1⟩ : ∃ n, fs.length = n := ⟨_, rfl⟩; obtain ⟨n2, hn2⟩ : ∃ n, gs.length = n := ⟨_, rfl⟩; have HLF : Hid (fs.map Ft.core = gs.map Ft.core → n1 = n2) := Lib.hid (fun h => by have := congrArg List.length h; simp only [List.length_map] at this; omega); rw [hn1] at c1 z2; rw [hn2] at d1 y2; have HN3 := Lib.hid hn1; have HN4 := Lib.hid hn2; clear ha ha2 ho ho2 z1 z3 y1 y3 hn1 hn2 hWB; go_wp2; rename_i K hK; replace hK := Lib.hid hK; have HA0 := Lib.hid a0; have HB0 := Lib.hid b0; have HC0 := Lib.hid c0; have HC1 := Lib.hid c1; have HD0 := Lib.hid d0; have HD1 := Lib.hid d1; have hdr := (Below.refl Wn.heap.size Wn).drew; have hBw : B + 1 < Wn.heap.size := Nat.lt_of_lt_of_le KB.out.lt HBR.out.size; clear a0 b0 c0 c1 d0 d1; have main : ∀ (u4 u8 u9 u10 u18 u19 u20 u21 u22 u23 u24 u25 u26 u27 u28 u29 u30 u31 u32 u33 u34 u35 u36 u37 u38 u39 u40 u41 u42 u43 u44 u45 u46 u47 u48 u49 u50 u51 u52 u53 u54 u55 u56 u57 u58 u59 u60 u61 u62 u63 u64 u65 u66 u67 u68 u69 u70 u71 u72 u73 u74 u75 u76 u77 u78 u79 u80 u81 u82 u83 u84 u85 u86 u87 u88 u89 u90 u91 u92 u93 : Value) (P Q : Nat) (W : World), Blk W P [.string NM, .slice fa n1 fc] → Blk W Q [.string NM2, .slice ga n2 gc] → Below Wn.drew.heap.size Wn.drew W → K { tmps := List.toArray ((.agg #[.slice (some ⟨b1, o1, none⟩) N ca]) :: (.agg #[.slice (some ⟨b2, o2, none⟩) N cb]) :: (.pointer (some ⟨B, 0, none⟩)) :: (.pointer (some ⟨B + 1, 0, none⟩)) :: u4 :: (.int .i64 k) :: (.pointer (some ⟨P, 0, none⟩)) :: (.pointer (some ⟨Q, 0, none⟩)) :: u8 :: u9 :: u10 :: (.pointer (some ⟨B, 0, none⟩)) :: (.slice (some ⟨b1, o1, none⟩) N ca) :: (.int .i64 N) :: (.pointer (some ⟨B + 1, 0, none⟩)) :: (.slice (some ⟨b2, o2, none⟩) N cb) :: (.int .i64 N) :: (.bool false) :: u18 :: u19 :: u20 :: u21 :: u22 :: u23 :: u24 :: u25 :: u26 :: u27 :: u28 :: u29 :: u30 :: u31 :: u32 :: u33 :: u34 :: u35 :: u36 :: u37 :: u38 :: u39 :: u40 :: u41 :: u42 :: u43 :: u44 :: u45 :: u46 :: u47 :: u48 :: u49 :: u50 :: u51 :: u52 :: u53 :: u54 :: u55 :: u56 :: u57 :: u58 :: u59 :: u60 :: u61 :: u62 :: u63 :: u64 :: u65 :: u66 :: u67 :: u68 :: u69 :: u70 :: u71 :: u72 :: u73 :: u74 :: u75 :: u76 :: u77 :: u78 :: u79 :: u80 :: u81 :: u82 :: u83 :: u84 :: u85 :: u86 :: u87 :: u88 :: u89 :: u90 :: u91 :: u92 :: u93 :: []), defers := [] } W := by
     intro u4 u8 u9 u10 u18 u19 u20 u21 u22 u23 u24 u25 u26 u27 u28 u29 u30 u31 u32 u33 u34 u35 u36 u37 u38 u39 u40 u41 u42 u43 u44 u45 u46 u47 u48 u49 u50 u51 u52 u53 u54 u55 u56 u57 u58 u59 u60 u61 u62 u63 u64 u65 u66 u67 u68 u69 u70 u71 u72 u73 u74 u75 u76 u77 u78 u79 u80 u81 u82 u83 u84 u85 u86 u87 u88 u89 u90 u91 u92 u93 P Q W kP kQ HB; refine hK.out _ _ ?_; have hdw := hdr.trans (HB.mono hdr.size); have a0 := (hdw.cell (p := ⟨B, 0, none⟩) (by show B < Wn.heap.size; omega)).trans HA0.out; have HBW := Lib.hid (HB1.out.trans ((HBR.out.trans (hdw.mono HBR.out.size)).mono HB1.out.size)); have HBW1 := Lib.hid (HBR.out.trans (hdw.mono HBR.out.size)); have HDW := Lib.hid hdw; have p0 := kP.cell 0 rfl; have p1 := kP.cell 1 rfl; have q0 := kQ.cell 0 rfl; have q1 := kQ.cell 1 rfl; clear HB hdw hdr HA0 HB0 HC0 HC1 HD0 HD1 hK
     by_cases hnm : NM = NM2
     ·subst hnm
      by_cases hnn : n1 = n2
      ·subst hnn; go_wp2; have KP := Lib.hid kP; have KQ := Lib.hid kQ; clear p0 p1 q0 q1 kP kQ a0
       go_loopw [8] (fun i wr => ∃ j : Nat, j ≤ n1 ∧ i = .int .i64 j ∧ Hid ((fs.take j).map Ft.core = (gs.take j).map Ft.core) ∧ Hid (Below W.heap.size W wr)) (fun i _ => n1 - (intOf i).toNat)
       case atStart => exact ⟨0, by omega, rfl, Lib.hid rfl, Lib.hid (Below.refl _ _)⟩
       case round =>
        obtain ⟨j, hj, rfl, HE2, HBR2⟩ := hrel; obtain ⟨Wm, hWm⟩ : ∃ W, W = wr := ⟨_, rfl⟩; subst hWm; have p1 := (KP.out.keep HBR2.out).cell 1 rfl; have q1 := (KQ.out.keep HBR2.out).cell 1 rfl
        by_cases h2 : j < n1
        ·have h2' : (j : Int) < (n1 : Int) := by omega
         have hjl : j < fs.length := by rw [HN3.out]; exact h2
         have hjm : j < gs.length := by rw [HN4.out]; exact h2
         have hWnm : Below Wn.heap.size Wn Wm := HDW.out.trans (HBR2.out.mono HDW.out.size); obtain ⟨b3, o3, rfl, hbb3, e0, e1, e2, e3⟩ := (HFA.out.keep hWnm).ft j hjl; obtain ⟨b4, o4, rfl, hbb4, f0, f1, f2, f3⟩ := (HGA.out.keep hWnm).ft j hjm; have HST2 : Hid (Ft.core fs[j] = Ft.core gs[j] → (fs.take (j + 1)).map Ft.core = (gs.take (j + 1)).map Ft.core) := Lib.hid fun h => by rw [List.take_succ_eq_append_getElem hjl, List.take_succ_eq_append_getElem hjm, List.map_append, List.map_append, HE2.out, List.map_singleton, List.map_singleton, h]
         have HNO2 : Hid (Ft.core fs[j] ≠ Ft.core gs[j] → Bo = false) := Lib.hid fun hx => HNO.out (fun h => hx (by
          have := congrArg (fun z => z[j]?) h.2; simp [hjl, hjm] at this; exact this))
         have hx := (HFO.out _ (List.getElem_mem hjl)).keep hWnm; have hy := (HGO.out _ (List.getElem_mem hjm)).keep hWnm; have hzx := HFZ.out _ (List.getElem_mem hjl); have hzy := HGZ.out _ (List.getElem_mem hjm); generalize fs[j] = x at *; generalize gs[j] = y at *; obtain ⟨id, kd, ls, aa, ac, rs, ra, rc⟩ := x; obtain ⟨id2, kd2, ls2, ba, bc, qs, qa, qc⟩ := y; obtain ⟨z1, z2, z3, z4⟩ := hzx; obtain ⟨y1, y2, y3, y4⟩ := hzy; obtain ⟨⟨ha, -⟩, ⟨hr, -⟩, ho⟩ := hx; obtain ⟨⟨ha2, -⟩, ⟨hr2, -⟩, ho2⟩ := hy; dsimp only [Ft.aval, Ft.rval] at *; simp only [Ft.core, Ft.rings, Prod.mk.injEq, ne_eq] at HST2 HNO2; have HA := Lib.hid (fun W (h : Below Wm.heap.size Wm W) => asame_any aa ba ac bc ls ls2 (by omega) (by omega) W (ha.keep h) (ha2.keep h)); have HP := Lib.hid (fun W (h : Below Wm.heap.size Wm W) => l22same_any ra qa rc qc rs qs (by omega) (by omega) (fun r hr => by have := z4 r hr; omega) (fun r hr => by have := y4 r hr; omega) W (hr.keep h) (hr2.keep h) (fun r hr => (ho r hr).keep h) (fun r hr => (ho2 r hr).keep h)); obtain ⟨D3, hD3⟩ : ∃ D, decide (ls = ls2) = D := ⟨_, rfl⟩; obtain ⟨D4, hD4⟩ : ∃ D, decide (rs.map PC.l = qs.map PC.l) = D := ⟨_, rfl⟩; rw [hD3] at HA; rw [hD4] at HP; have HT : Hid (id = id2 → kd = kd2 → D3 = true → D4 = true → (fs.take (j + 1)).map Ft.core = (gs.take (j + 1)).map Ft.core) := Lib.hid (fun h1 h2 h3 h4 => HST2.out ⟨h1, h2, of_decide_eq_true (hD3.trans h3), of_decide_eq_true (hD4.trans h4)⟩); have HF : Hid ((id ≠ id2 ∨ kd ≠ kd2 ∨ D3 = false ∨ D4 = false) → Bo = false) := Lib.hid (fun h => HNO2.out (fun k => by
          rcases h with h | h | h | h
          ·exact h k.1
          ·exact h k.2.1
          ·rw [← hD3] at h; exact of_decide_eq_false h k.2.2.1
          ·rw [← hD4] at h; exact of_decide_eq_false h k.2.2.2))
         clear hD3 hD4 HST2 HNO2 ha ha2 hr hr2 ho ho2 z2 z4 y2 y4; generalize ls.length = m1 at *; generalize rs.length = m2 at *; generalize ls2.length = m3 at *; generalize qs.length = m4 at *; go_wp2; rename_i K hK; replace hK := Lib.hid hK; have HP1 := Lib.hid p1; have HQ1 := Lib.hid q1; have HXE : Hid (Wm.cell? ⟨b3, o3 + j * 4, none⟩ = some (.int .i64 id) ∧ Wm.cell? ⟨b3, o3 + j * 4 + 1, none⟩ = some (.int .i64 kd) ∧ Wm.cell? ⟨b3, o3 + j * 4 + 2, none⟩ = some (.slice aa m1 ac) ∧ Wm.cell? ⟨b3, o3 + j * 4 + 3, none⟩ = some (.slice ra m2 rc)) := Lib.hid ⟨e0, e1, e2, e3⟩; have HXF : Hid (Wm.cell? ⟨b4, o4 + j * 4, none⟩ = some (.int .i64 id2) ∧ Wm.cell? ⟨b4, o4 + j * 4 + 1, none⟩ = some (.int .i64 kd2) ∧ Wm.cell? ⟨b4, o4 + j * 4 + 2, none⟩ = some (.slice ba m3 bc) ∧ Wm.cell? ⟨b4, o4 + j * 4 + 3, none⟩ = some (.slice qa m4 qc)) := Lib.hid ⟨f0, f1, f2, f3⟩; have hdr := (Below.refl Wm.heap.size Wm).drew; have hPl := Nat.lt_of_lt_of_le KP.out.lt HBR2.out.size; have hQl := Nat.lt_of_lt_of_le KQ.out.lt HBR2.out.size; clear p1 q1 e0 e1 e2 e3 f0 f1 f2 f3; have main2 : ∀ (u49 u50 u51 u52 u53 u54 u55 u56 u57 u58 u59 u60 u61 u62 u63 u64 u65 u66 u67 u68 u69 u70 u71 u72 u73 u74 u75 u76 u77 u78 u79 u80 u81 u82 u83 u84 u85 u86 u87 u88 u89 u90 u91 u92 u93 : Value) (P2 Q2 : Nat) (X : World), Blk X P2 [.int .i64 id, .int .i64 kd, .slice aa m1 ac, .slice ra m2 rc] → Blk X Q2 [.int .i64 id2, .int .i64 kd2, .slice ba m3 bc, .slice qa m4 qc] → Below Wm.drew.heap.size Wm.drew X → K { tmps := List.toArray ((.agg #[.slice (some ⟨b1, o1, none⟩) N ca]) :: (.agg #[.slice (some ⟨b2, o2, none⟩) N cb]) :: (.pointer (some ⟨B, 0, none⟩)) :: (.pointer (some ⟨B + 1, 0, none⟩)) :: u4 :: (.int .i64 k) :: (.pointer (some ⟨P, 0, none⟩)) :: (.pointer (some ⟨Q, 0, none⟩)) :: (.int .i64 j) :: (.pointer (some ⟨P2, 0, none⟩)) :: (.pointer (some ⟨Q2, 0, none⟩)) :: (.pointer (some ⟨B, 0, none⟩)) :: (.slice (some ⟨b1, o1, none⟩) N ca) :: (.int .i64 N) :: (.pointer (some ⟨B + 1, 0, none⟩)) :: (.slice (some ⟨b2, o2, none⟩) N cb) :: (.int .i64 N) :: (.bool false) :: u18 :: u19 :: u20 :: u21 :: u22 :: u23 :: u24 :: u25 :: u26 :: u27 :: u28 :: u29 :: u30 :: u31 :: u32 :: u33 :: u34 :: (.pointer (some ⟨P, 0, none⟩)) :: (.string NM) :: (.pointer (some ⟨Q, 0, none⟩)) :: (.string NM) :: (.bool false) :: (.bool false) :: (.pointer (some ⟨P, 1, none⟩)) :: (.slice (some ⟨b3, o3, none⟩) n1 fc) :: (.int .i64 n1) :: (.pointer (some ⟨Q, 1, none⟩)) :: (.slice (some ⟨b4, o4, none⟩) n1 gc) :: (.int .i64 n1) :: (.bool false) :: (.bool false) :: u49 :: u50 :: u51 :: u52 :: u53 :: u54 :: u55 :: u56 :: u57 :: u58 :: u59 :: u60 :: u61 :: u62 :: u63 :: u64 :: u65 :: u66 :: u67 :: u68 :: u69 :: u70 :: u71 :: u72 :: u73 :: u74 :: u75 :: u76 :: u77 :: u78 :: u79 :: u80 :: u81 :: u82 :: u83 :: u84 :: u85 :: u86 :: u87 :: u88 :: u89 :: u90 :: u91 :: u92 :: u93 :: []), defers := [] } X := by
          intro u49 u50 u51 u52 u53 u54 u55 u56 u57 u58 u59 u60 u61 u62 u63 u64 u65 u66 u67 u68 u69 u70 u71 u72 u73 u74 u75 u76 u77 u78 u79 u80 u81 u82 u83 u84 u85 u86 u87 u88 u89 u90 u91 u92 u93 P2 Q2 X kP2 kQ2 HB; refine hK.out _ _ ?_; have hdx := hdr.trans (HB.mono hdr.size); have HBWm := Lib.hid (HBW.out.trans (HBR2.out.mono HBW.out.size)); have r0 := kP2.cell 0 rfl; have r1 := kP2.cell 1 rfl; have r2 := kP2.cell 2 rfl; have s0 := kQ2.cell 0 rfl; have s1 := kQ2.cell 1 rfl; have s2 := kQ2.cell 2 rfl; clear HB hdr HP1 HQ1 HXE HXF hK
          by_cases g1 : id = id2
          ·subst g1
           by_cases g2 : kd = kd2
           ·subst g2
            cases D3 with
            | true =>
             cases D4 with
             | true =>
              have HT2 := Lib.hid (HT.out rfl rfl rfl rfl); clear HT HF
              go_wp2_with fail
              refine (HA.out _ hdx).mono ?_; rintro e w1 ⟨rfl, hx⟩; have hd1 := hdx.trans (hx.mono hdx.size); have r3 := (kP2.keep hx).cell 3 rfl; have s3 := (kQ2.keep hx).cell 3 rfl; clear r0 r1 r2 s0 s1 s2 hx
              go_wp2_with fail
              refine (HP.out _ hd1).mono ?_; rintro e w2 ⟨rfl, hx⟩; have hd2 := hd1.trans (hx.mono hd1.size); clear r3 s3 hx; have hfin := HBR2.out.trans (hd2.mono HBR2.out.size); go_wp2; go_roundw
              case rel => exact ⟨j + 1, by omega, by go_num, HT2, Lib.hid hfin⟩
              case measure => simp [intOf]; omega
             | false =>
              have hB := HF.out (.inr (.inr (.inr rfl))); clear HT HF; subst hB
              go_wp2_with fail
              refine (HA.out _ hdx).mono ?_; rintro e w1 ⟨rfl, hx⟩; have hd1 := hdx.trans (hx.mono hdx.size); have r3 := (kP2.keep hx).cell 3 rfl; have s3 := (kQ2.keep hx).cell 3 rfl; clear r0 r1 r2 s0 s1 s2 hx
              go_wp2_with fail
              refine (HP.out _ hd1).mono ?_; rintro e w2 ⟨rfl, hx⟩; have hd2 := hd1.trans (hx.mono hd1.size); clear r3 s3 hx; go_wp2; go_ret; exact ⟨rfl, HBWm.out.trans (hd2.mono HBWm.out.size)⟩
            | false =>
             have hB := HF.out (.inr (.inr (.inl rfl))); clear HT HF; subst hB
             go_wp2_with fail
             refine (HA.out _ hdx).mono ?_; rintro e w1 ⟨rfl, hx⟩; have hd1 := hdx.trans (hx.mono hdx.size); have r3 := (kP2.keep hx).cell 3 rfl; have s3 := (kQ2.keep hx).cell 3 rfl; clear r0 r1 r2 s0 s1 s2 hx; go_wp2; go_ret; exact ⟨rfl, HBWm.out.trans (hd1.mono HBWm.out.size)⟩
           ·have hB := HF.out (.inr (.inl g2)); clear HT HF; subst hB; go_wp2; go_ret; exact ⟨rfl, HBWm.out.trans (hdx.mono HBWm.out.size)⟩
          ·have hB := HF.out (.inl g1); clear HT HF; subst hB; go_wp2; go_ret; exact ⟨rfl, HBWm.out.trans (hdx.mono HBWm.out.size)⟩
         have HB := Below.refl Wm.drew.heap.size Wm.drew; refine wp_region_sched 14 [0, 1, 2, 3, 4, 5, 6, 7, 8, 9] (fun W => Below Wm.drew.heap.size Wm.drew W) rfl (by kernel_rfl) (by kernel_rfl) ?_; have HDR := Lib.hid hdr; generalize Wm.drew = W0 at *
         (refine sched_light 0 _ ?_ (by kernel_rfl) (by kernel_rfl) rfl rfl ?_ HB ?_; rotate_left; · (intro w' hS; (try dsimp only at hS); go_simp; with_reducible rfl)); try simp only [Act.put, List.getElem_toArray, List.getElem_cons_succ, List.getElem_cons_zero, List.setIfInBounds_toArray, List.set_cons_zero, List.set_cons_succ]
         refine sched_light 1 _ (.slice (some ⟨b3, o3, none⟩) n1 fc) (by kernel_rfl) (by kernel_rfl) rfl rfl ?_ HB ?_
         ·intro w' hS; have e0 := ((HDR.out.trans (hS.mono HDR.out.size)).cell (p := ⟨P, 1, none⟩) hPl).trans HP1.out; clear hS; go_simp
         try simp only [Act.put, List.getElem_toArray, List.getElem_cons_succ, List.getElem_cons_zero, List.setIfInBounds_toArray, List.set_cons_zero, List.set_cons_succ]
         (refine sched_light 2 _ ?_ (by kernel_rfl) (by kernel_rfl) rfl rfl ?_ HB ?_; rotate_left; · (intro w' hS; (try dsimp only at hS); go_simp; with_reducible rfl)); try simp only [Act.put, List.getElem_toArray, List.getElem_cons_succ, List.getElem_cons_zero, List.setIfInBounds_toArray, List.set_cons_zero, List.set_cons_succ]
         (refine sched_light 3 _ ?_ (by kernel_rfl) (by kernel_rfl) rfl rfl ?_ HB ?_; rotate_left; · (intro w' hS; (try dsimp only at hS); go_simp; with_reducible rfl)); try simp only [Act.put, List.getElem_toArray, List.getElem_cons_succ, List.getElem_cons_zero, List.setIfInBounds_toArray, List.set_cons_zero, List.set_cons_succ]
         refine sched_light 4 _ (.agg #[.int .i64 id, .int .i64 kd, .slice aa m1 ac, .slice ra m2 rc]) (by kernel_rfl) (by kernel_rfl) rfl rfl ?_ HB ?_
         ·intro w' hS; have e0 := ((HDR.out.trans (hS.mono HDR.out.size)).cell (p := ⟨b3, o3 + j * 4, none⟩) hbb3).trans HXE.out.1; have e1 := ((HDR.out.trans (hS.mono HDR.out.size)).cell (p := ⟨b3, o3 + j * 4 + 1, none⟩) hbb3).trans HXE.out.2.1; have e2 := ((HDR.out.trans (hS.mono HDR.out.size)).cell (p := ⟨b3, o3 + j * 4 + 2, none⟩) hbb3).trans HXE.out.2.2.1; have e3 := ((HDR.out.trans (hS.mono HDR.out.size)).cell (p := ⟨b3, o3 + j * 4 + 3, none⟩) hbb3).trans HXE.out.2.2.2; clear hS; go_simp
         try simp only [Act.put, List.getElem_toArray, List.getElem_cons_succ, List.getElem_cons_zero, List.setIfInBounds_toArray, List.set_cons_zero, List.set_cons_succ]
         (refine sched_light 5 _ ?_ (by kernel_rfl) (by kernel_rfl) rfl rfl ?_ HB ?_; rotate_left; · (intro w' hS; (try dsimp only at hS); go_simp; with_reducible rfl)); try simp only [Act.put, List.getElem_toArray, List.getElem_cons_succ, List.getElem_cons_zero, List.setIfInBounds_toArray, List.set_cons_zero, List.set_cons_succ]
         refine sched_light 6 _ (.slice (some ⟨b4, o4, none⟩) n1 gc) (by kernel_rfl) (by kernel_rfl) rfl rfl ?_ HB ?_
         ·intro w' hS; have e0 := ((HDR.out.trans (hS.mono HDR.out.size)).cell (p := ⟨Q, 1, none⟩) hQl).trans HQ1.out; clear hS; go_simp
         try simp only [Act.put, List.getElem_toArray, List.getElem_cons_succ, List.getElem_cons_zero, List.setIfInBounds_toArray, List.set_cons_zero, List.set_cons_succ]
         (refine sched_light 7 _ ?_ (by kernel_rfl) (by kernel_rfl) rfl rfl ?_ HB ?_; rotate_left; · (intro w' hS; (try dsimp only at hS); go_simp; with_reducible rfl)); try simp only [Act.put, List.getElem_toArray, List.getElem_cons_succ, List.getElem_cons_zero, List.setIfInBounds_toArray, List.set_cons_zero, List.set_cons_succ]
         (refine sched_light 8 _ ?_ (by kernel_rfl) (by kernel_rfl) rfl rfl ?_ HB ?_; rotate_left; · (intro w' hS; (try dsimp only at hS); go_simp; with_reducible rfl)); try simp only [Act.put, List.getElem_toArray, List.getElem_cons_succ, List.getElem_cons_zero, List.setIfInBounds_toArray, List.set_cons_zero, List.set_cons_succ]
         refine sched_light 9 _ (.agg #[.int .i64 id2, .int .i64 kd2, .slice ba m3 bc, .slice qa m4 qc]) (by kernel_rfl) (by kernel_rfl) rfl rfl ?_ HB ?_
         ·intro w' hS; have e0 := ((HDR.out.trans (hS.mono HDR.out.size)).cell (p := ⟨b4, o4 + j * 4, none⟩) hbb4).trans HXF.out.1; have e1 := ((HDR.out.trans (hS.mono HDR.out.size)).cell (p := ⟨b4, o4 + j * 4 + 1, none⟩) hbb4).trans HXF.out.2.1; have e2 := ((HDR.out.trans (hS.mono HDR.out.size)).cell (p := ⟨b4, o4 + j * 4 + 2, none⟩) hbb4).trans HXF.out.2.2.1; have e3 := ((HDR.out.trans (hS.mono HDR.out.size)).cell (p := ⟨b4, o4 + j * 4 + 3, none⟩) hbb4).trans HXF.out.2.2.2; clear hS; go_simp
         try simp only [Act.put, List.getElem_toArray, List.getElem_cons_succ, List.getElem_cons_zero, List.setIfInBounds_toArray, List.set_cons_zero, List.set_cons_succ]
         refine sched_fork [10, 11] (by kernel_rfl) (by kernel_rfl) (by simp) (fun i hi => ?_)
         rcases (by simpa using hi : i = 10 ∨ i = 11) with rfl | rfl
         ·refine sched_heavy 10 _ rfl rfl (fun K hK => ?_); go_step; obtain ⟨P, hPP⟩ : ∃ p, W0.heap.size = p := ⟨_, rfl⟩; have hx := Below.new W0 (.cells #[.int .i64 0, .int .i64 0, .slice none 0 0, .slice none 0 0] 53); have kP := Blk.lit W0 P [.int .i64 0, .int .i64 0, .slice none 0 0, .slice none 0 0] 53 hPP; have hLP : W0.heap.size ≤ P := by have := HB.size; omega
          have HB := HB.trans (hx.mono HB.size); rw [hPP]; clear hx hPP; refine hK.out _ _ HB ?_; clear hK K; generalize W0.alloc (.cells #[.int .i64 0, .int .i64 0, .slice none 0 0, .slice none 0 0] 53) = V1 at *
          try simp only [Act.put, List.getElem_toArray, List.getElem_cons_succ, List.getElem_cons_zero, List.setIfInBounds_toArray, List.set_cons_zero, List.set_cons_succ]
          refine sched_fork [11] (by kernel_rfl) (by kernel_rfl) (by simp) (fun i hi => ?_); obtain rfl : i = 11 := by simpa using hi
          refine sched_heavy 11 _ rfl rfl (fun K hK => ?_); go_step; obtain ⟨Q, hPP⟩ : ∃ p, V1.heap.size = p := ⟨_, rfl⟩; have hx := Below.new V1 (.cells #[.int .i64 0, .int .i64 0, .slice none 0 0, .slice none 0 0] 63); have hPQ : P ≠ Q := by have := kP.lt; omega
          have kP := kP.keep hx; have kQ := Blk.lit V1 Q [.int .i64 0, .int .i64 0, .slice none 0 0, .slice none 0 0] 63 hPP; have hLQ : W0.heap.size ≤ Q := by have := HB.size; omega
          have HB := HB.trans (hx.mono HB.size); rw [hPP]; clear hx hPP; refine hK.out _ _ HB ?_; clear hK K; generalize V1.alloc (.cells #[.int .i64 0, .int .i64 0, .slice none 0 0, .slice none 0 0] 63) = V2 at *
          try simp only [Act.put, List.getElem_toArray, List.getElem_cons_succ, List.getElem_cons_zero, List.setIfInBounds_toArray, List.set_cons_zero, List.set_cons_succ]
          refine sched_fork [12] (by kernel_rfl) (by kernel_rfl) (by simp) (fun i hi => ?_); obtain rfl : i = 12 := by simpa using hi
          refine sched_heavy 12 _ rfl rfl (fun K hK => ?_); refine wp_store_blk 53 _ _ rfl P _ [.int .i64 id, .int .i64 kd, .slice aa m1 ac, .slice ra m2 rc] rfl rfl kP (by kernel_rfl) rfl rfl ?_; have kQ := kQ.setRow_ne (c := P) (by omega) (List.toArray [.int .i64 id, .int .i64 kd, .slice aa m1 ac, .slice ra m2 rc]); have kP := kP.setRow [.int .i64 id, .int .i64 kd, .slice aa m1 ac, .slice ra m2 rc]; have HB := HB.setRow hLP (List.toArray [.int .i64 id, .int .i64 kd, .slice aa m1 ac, .slice ra m2 rc]); refine hK.out _ _ HB ?_; clear hK K
          try simp only [Act.put, List.getElem_toArray, List.getElem_cons_succ, List.getElem_cons_zero, List.setIfInBounds_toArray, List.set_cons_zero, List.set_cons_succ]
          refine sched_fork [13] (by kernel_rfl) (by kernel_rfl) (by simp) (fun i hi => ?_); obtain rfl : i = 13 := by simpa using hi
          refine sched_heavy 13 _ rfl rfl (fun K hK => ?_); refine wp_store_blk 63 _ _ rfl Q _ [.int .i64 id2, .int .i64 kd2, .slice ba m3 bc, .slice qa m4 qc] rfl rfl kQ (by kernel_rfl) rfl rfl ?_; have kP := kP.setRow_ne (c := Q) (by omega) (List.toArray [.int .i64 id2, .int .i64 kd2, .slice ba m3 bc, .slice qa m4 qc]); have kQ := kQ.setRow [.int .i64 id2, .int .i64 kd2, .slice ba m3 bc, .slice qa m4 qc]; have HB := HB.setRow hLQ (List.toArray [.int .i64 id2, .int .i64 kd2, .slice ba m3 bc, .slice qa m4 qc]); refine hK.out _ _ HB ?_; clear hK K
          try simp only [Act.put, List.getElem_toArray, List.getElem_cons_succ, List.getElem_cons_zero, List.setIfInBounds_toArray, List.set_cons_zero, List.set_cons_succ]
          refine sched_end (by kernel_rfl) ?_
          try simp only [Act.put, List.getElem_toArray, List.getElem_cons_succ, List.getElem_cons_zero, List.setIfInBounds_toArray, List.set_cons_zero, List.set_cons_succ]
          exact main2 _ _ _ _ _ _ _ _ _ _ _ _ _ _ _ _ _ _ _ _ _ _ _ _ _ _ _ _ _ _ _ _ _ _ _ _ _ _ _ _ _ _ _ _ _ _ _ _ kP kQ HB
         ·refine sched_heavy 11 _ rfl rfl (fun K hK => ?_); go_step; obtain ⟨Q, hPP⟩ : ∃ p, W0.heap.size = p := ⟨_, rfl⟩; have hx := Below.new W0 (.cells #[.int .i64 0, .int .i64 0, .slice none 0 0, .slice none 0 0] 63); have kQ := Blk.lit W0 Q [.int .i64 0, .int .i64 0, .slice none 0 0, .slice none 0 0] 63 hPP; have hLQ : W0.heap.size ≤ Q := by have := HB.size; omega
          have HB := HB.trans (hx.mono HB.size); rw [hPP]; clear hx hPP; refine hK.out _ _ HB ?_; clear hK K; generalize W0.alloc (.cells #[.int .i64 0, .int .i64 0, .slice none 0 0, .slice none 0 0] 63) = V1 at *
          try simp only [Act.put, List.getElem_toArray, List.getElem_cons_succ, List.getElem_cons_zero, List.setIfInBounds_toArray, List.set_cons_zero, List.set_cons_succ]
          refine sched_fork [10] (by kernel_rfl) (by kernel_rfl) (by simp) (fun i hi => ?_); obtain rfl : i = 10 := by simpa using hi
          refine sched_heavy 10 _ rfl rfl (fun K hK => ?_); go_step; obtain ⟨P, hPP⟩ : ∃ p, V1.heap.size = p := ⟨_, rfl⟩; have hx := Below.new V1 (.cells #[.int .i64 0, .int .i64 0, .slice none 0 0, .slice none 0 0] 53); have hPQ : Q ≠ P := by have := kQ.lt; omega
          have kQ := kQ.keep hx; have kP := Blk.lit V1 P [.int .i64 0, .int .i64 0, .slice none 0 0, .slice none 0 0] 53 hPP; have hLP : W0.heap.size ≤ P := by have := HB.size; omega
          have HB := HB.trans (hx.mono HB.size); rw [hPP]; clear hx hPP; refine hK.out _ _ HB ?_; clear hK K; generalize V1.alloc (.cells #[.int .i64 0, .int .i64 0, .slice none 0 0, .slice none 0 0] 53) = V2 at *
          try simp only [Act.put, List.getElem_toArray, List.getElem_cons_succ, List.getElem_cons_zero, List.setIfInBounds_toArray, List.set_cons_zero, List.set_cons_succ]
          refine sched_fork [12] (by kernel_rfl) (by kernel_rfl) (by simp) (fun i hi => ?_); obtain rfl : i = 12 := by simpa using hi
          refine sched_heavy 12 _ rfl rfl (fun K hK => ?_); refine wp_store_blk 53 _ _ rfl P _ [.int .i64 id, .int .i64 kd, .slice aa m1 ac, .slice ra m2 rc] rfl rfl kP (by kernel_rfl) rfl rfl ?_; have kQ := kQ.setRow_ne (c := P) (by omega) (List.toArray [.int .i64 id, .int .i64 kd, .slice aa m1 ac, .slice ra m2 rc]); have kP := kP.setRow [.int .i64 id, .int .i64 kd, .slice aa m1 ac, .slice ra m2 rc]; have HB := HB.setRow hLP (List.toArray [.int .i64 id, .int .i64 kd, .slice aa m1 ac, .slice ra m2 rc]); refine hK.out _ _ HB ?_; clear hK K
          try simp only [Act.put, List.getElem_toArray, List.getElem_cons_succ, List.getElem_cons_zero, List.setIfInBounds_toArray, List.set_cons_zero, List.set_cons_succ]
          refine sched_fork [13] (by kernel_rfl) (by kernel_rfl) (by simp) (fun i hi => ?_); obtain rfl : i = 13 := by simpa using hi
          refine sched_heavy 13 _ rfl rfl (fun K hK => ?_); refine wp_store_blk 63 _ _ rfl Q _ [.int .i64 id2, .int .i64 kd2, .slice ba m3 bc, .slice qa m4 qc] rfl rfl kQ (by kernel_rfl) rfl rfl ?_; have kP := kP.setRow_ne (c := Q) (by omega) (List.toArray [.int .i64 id2, .int .i64 kd2, .slice ba m3 bc, .slice qa m4 qc]); have kQ := kQ.setRow [.int .i64 id2, .int .i64 kd2, .slice ba m3 bc, .slice qa m4 qc]; have HB := HB.setRow hLQ (List.toArray [.int .i64 id2, .int .i64 kd2, .slice ba m3 bc, .slice qa m4 qc]); refine hK.out _ _ HB ?_; clear hK K
          try simp only [Act.put, List.getElem_toArray, List.getElem_cons_succ, List.getElem_cons_zero, List.setIfInBounds_toArray, List.set_cons_zero, List.set_cons_succ]
          refine sched_end (by kernel_rfl) ?_
          try simp only [Act.put, List.getElem_toArray, List.getElem_cons_succ, List.getElem_cons_zero, List.setIfInBounds_toArray, List.set_cons_zero, List.set_cons_succ]
          exact main2 _ _ _ _ _ _ _ _ _ _ _ _ _ _ _ _ _ _ _ _ _ _ _ _ _ _ _ _ _ _ _ _ _ _ _ _ _ _ _ _ _ _ _ _ _ _ _ _ kP kQ HB
        ·have h2' : ¬ (j : Int) < (n1 : Int) := by omega
         have HEQ : Hid ((L.take (k + 1)).map Ly.core = (M.take (k + 1)).map Ly.core) := Lib.hid (HST.out ⟨by trivial, by
          have := HE2.out
          rwa [List.take_of_length_le (by rw [HN3.out]; omega), List.take_of_length_le (by rw [HN4.out]; omega)] at this⟩)
         have hfin := HBW1.out.trans (HBR2.out.mono HBW1.out.size); go_wp2; go_roundw
         case rel => exact ⟨k + 1, by omega, by go_num, HEQ, Lib.hid hfin⟩
         case measure => simp [intOf]; omega
      ·have hB := HNO.out (fun h => hnn (HLF.out h.2)); subst hB; have hne : ((n1 : Int) != (n2 : Int)) = true := by simp; omega
       have hne2 : ¬ ((n1 : Int) = (n2 : Int)) := by omega
       go_wp2; go_ret; exact ⟨rfl, HBW.out⟩
     ·have hs : ¬ NM.toList = NM2.toList := fun h => hnm ((ba_injq _ _).2 h); have hB := HNO.out (fun h => hnm h.1); subst hB; go_wp2; go_ret; exact ⟨rfl, HBW.out⟩
    have HB := Below.refl Wn.drew.heap.size Wn.drew; refine wp_region_sched 14 [0, 1, 2, 3, 4, 5, 6, 7, 8, 9] (fun W => Below Wn.drew.heap.size Wn.drew W) rfl (by kernel_rfl) (by kernel_rfl) ?_; have HDR := Lib.hid hdr; generalize Wn.drew = W0 at *
    (refine sched_light 0 _ ?_ (by kernel_rfl) (by kernel_rfl) rfl rfl ?_ HB ?_; rotate_left; · (intro w' hS; (try dsimp only at hS); go_simp; with_reducible rfl)); try simp only [Act.put, List.getElem_toArray, List.getElem_cons_succ, List.getElem_cons_zero, List.setIfInBounds_toArray, List.set_cons_zero, List.set_cons_succ]
    refine sched_light 1 _ (.slice (some ⟨b1, o1, none⟩) N ca) (by kernel_rfl) (by kernel_rfl) rfl rfl ?_ HB ?_
    ·intro w' hS; have e0 := ((HDR.out.trans (hS.mono HDR.out.size)).cell (p := ⟨B, 0, none⟩) (by show B < Wn.heap.size; omega)).trans HA0.out; clear hS; go_simp
    try simp only [Act.put, List.getElem_toArray, List.getElem_cons_succ, List.getElem_cons_zero, List.setIfInBounds_toArray, List.set_cons_zero, List.set_cons_succ]
    (refine sched_light 2 _ ?_ (by kernel_rfl) (by kernel_rfl) rfl rfl ?_ HB ?_; rotate_left; · (intro w' hS; (try dsimp only at hS); go_simp; with_reducible rfl)); try simp only [Act.put, List.getElem_toArray, List.getElem_cons_succ, List.getElem_cons_zero, List.setIfInBounds_toArray, List.set_cons_zero, List.set_cons_succ]
    (refine sched_light 3 _ ?_ (by kernel_rfl) (by kernel_rfl) rfl rfl ?_ HB ?_; rotate_left; · (intro w' hS; (try dsimp only at hS); go_simp; with_reducible rfl)); try simp only [Act.put, List.getElem_toArray, List.getElem_cons_succ, List.getElem_cons_zero, List.setIfInBounds_toArray, List.set_cons_zero, List.set_cons_succ]
    refine sched_light 4 _ (.agg #[.string NM, .slice fa n1 fc]) (by kernel_rfl) (by kernel_rfl) rfl rfl ?_ HB ?_
    ·intro w' hS; have e0 := ((HDR.out.trans (hS.mono HDR.out.size)).cell (p := ⟨b1, o1 + k * 2, none⟩) hbb).trans HC0.out; have e1 := ((HDR.out.trans (hS.mono HDR.out.size)).cell (p := ⟨b1, o1 + k * 2 + 1, none⟩) hbb).trans HC1.out; clear hS; go_simp
    try simp only [Act.put, List.getElem_toArray, List.getElem_cons_succ, List.getElem_cons_zero, List.setIfInBounds_toArray, List.set_cons_zero, List.set_cons_succ]
    (refine sched_light 5 _ ?_ (by kernel_rfl) (by kernel_rfl) rfl rfl ?_ HB ?_; rotate_left; · (intro w' hS; (try dsimp only at hS); go_simp; with_reducible rfl)); try simp only [Act.put, List.getElem_toArray, List.getElem_cons_succ, List.getElem_cons_zero, List.setIfInBounds_toArray, List.set_cons_zero, List.set_cons_succ]
    refine sched_light 6 _ (.slice (some ⟨b2, o2, none⟩) N cb) (by kernel_rfl) (by kernel_rfl) rfl rfl ?_ HB ?_
    ·intro w' hS; have e0 := ((HDR.out.trans (hS.mono HDR.out.size)).cell (p := ⟨B + 1, 0, none⟩) (by show B + 1 < Wn.heap.size; omega)).trans HB0.out; clear hS; go_simp
    try simp only [Act.put, List.getElem_toArray, List.getElem_cons_succ, List.getElem_cons_zero, List.setIfInBounds_toArray, List.set_cons_zero, List.set_cons_succ]
    (refine sched_light 7 _ ?_ (by kernel_rfl) (by kernel_rfl) rfl rfl ?_ HB ?_; rotate_left; · (intro w' hS; (try dsimp only at hS); go_simp; with_reducible rfl)); try simp only [Act.put, List.getElem_toArray, List.getElem_cons_succ, List.getElem_cons_zero, List.setIfInBounds_toArray, List.set_cons_zero, List.set_cons_succ]
    (refine sched_light 8 _ ?_ (by kernel_rfl) (by kernel_rfl) rfl rfl ?_ HB ?_; rotate_left; · (intro w' hS; (try dsimp only at hS); go_simp; with_reducible rfl)); try simp only [Act.put, List.getElem_toArray, List.getElem_cons_succ, List.getElem_cons_zero, List.setIfInBounds_toArray, List.set_cons_zero, List.set_cons_succ]
    refine sched_light 9 _ (.agg #[.string NM2, .slice ga n2 gc]) (by kernel_rfl) (by kernel_rfl) rfl rfl ?_ HB ?_
    ·intro w' hS; have e0 := ((HDR.out.trans (hS.mono HDR.out.size)).cell (p := ⟨b2, o2 + k * 2, none⟩) hbb2).trans HD0.out; have e1 := ((HDR.out.trans (hS.mono HDR.out.size)).cell (p := ⟨b2, o2 + k * 2 + 1, none⟩) hbb2).trans HD1.out; clear hS; go_simp
    try simp only [Act.put, List.getElem_toArray, List.getElem_cons_succ, List.getElem_cons_zero, List.setIfInBounds_toArray, List.set_cons_zero, List.set_cons_succ]
    refine sched_fork [10, 11] (by kernel_rfl) (by kernel_rfl) (by simp) (fun i hi => ?_)
    rcases (by simpa using hi : i = 10 ∨ i = 11) with rfl | rfl
    ·refine sched_heavy 10 _ rfl rfl (fun K hK => ?_); go_step; obtain ⟨P, hPP⟩ : ∃ p, W0.heap.size = p := ⟨_, rfl⟩; have hx := Below.new W0 (.cells #[.string ⟨#[]⟩, .slice none 0 0] 46); have kP := Blk.lit W0 P [.string ⟨#[]⟩, .slice none 0 0] 46 hPP; have hLP : W0.heap.size ≤ P := by have := HB.size; omega
     have HB := HB.trans (hx.mono HB.size); rw [hPP]; clear hx hPP; refine hK.out _ _ HB ?_; clear hK K; generalize W0.alloc (.cells #[.string ⟨#[]⟩, .slice none 0 0] 46) = V1 at *
     try simp only [Act.put, List.getElem_toArray, List.getElem_cons_succ, List.getElem_cons_zero, List.setIfInBounds_toArray, List.set_cons_zero, List.set_cons_succ]
     refine sched_fork [11] (by kernel_rfl) (by kernel_rfl) (by simp) (fun i hi => ?_); obtain rfl : i = 11 := by simpa using hi
     refine sched_heavy 11 _ rfl rfl (fun K hK => ?_); go_step; obtain ⟨Q, hPP⟩ : ∃ p, V1.heap.size = p := ⟨_, rfl⟩; have hx := Below.new V1 (.cells #[.string ⟨#[]⟩, .slice none 0 0] 58); have hPQ : P ≠ Q := by have := kP.lt; omega
     have kP := kP.keep hx; have kQ := Blk.lit V1 Q [.string ⟨#[]⟩, .slice none 0 0] 58 hPP; have hLQ : W0.heap.size ≤ Q := by have := HB.size; omega
     have HB := HB.trans (hx.mono HB.size); rw [hPP]; clear hx hPP; refine hK.out _ _ HB ?_; clear hK K; generalize V1.alloc (.cells #[.string ⟨#[]⟩, .slice none 0 0] 58) = V2 at *
     try simp only [Act.put, List.getElem_toArray, List.getElem_cons_succ, List.getElem_cons_zero, List.setIfInBounds_toArray, List.set_cons_zero, List.set_cons_succ]
     refine sched_fork [12] (by kernel_rfl) (by kernel_rfl) (by simp) (fun i hi => ?_); obtain rfl : i = 12 := by simpa using hi
     refine sched_heavy 12 _ rfl rfl (fun K hK => ?_); refine wp_store_blk 46 _ _ rfl P _ [.string NM, .slice fa n1 fc] rfl rfl kP (by kernel_rfl) rfl rfl ?_; have kQ := kQ.setRow_ne (c := P) (by omega) (List.toArray [.string NM, .slice fa n1 fc]); have kP := kP.setRow [.string NM, .slice fa n1 fc]; have HB := HB.setRow hLP (List.toArray [.string NM, .slice fa n1 fc]); refine hK.out _ _ HB ?_; clear hK K
     try simp only [Act.put, List.getElem_toArray, List.getElem_cons_succ, List.getElem_cons_zero, List.setIfInBounds_toArray, List.set_cons_zero, List.set_cons_succ]
     refine sched_fork [13] (by kernel_rfl) (by kernel_rfl) (by simp) (fun i hi => ?_); obtain rfl : i = 13 := by simpa using hi
     refine sched_heavy 13 _ rfl rfl (fun K hK => ?_); refine wp_store_blk 58 _ _ rfl Q _ [.string NM2, .slice ga n2 gc] rfl rfl kQ (by kernel_rfl) rfl rfl ?_; have kP := kP.setRow_ne (c := Q) (by omega) (List.toArray [.string NM2, .slice ga n2 gc]); have kQ := kQ.setRow [.string NM2, .slice ga n2 gc]; have HB := HB.setRow hLQ (List.toArray [.string NM2, .slice ga n2 gc]); refine hK.out _ _ HB ?_; clear hK K
     try simp only [Act.put, List.getElem_toArray, List.getElem_cons_succ, List.getElem_cons_zero, List.setIfInBounds_toArray, List.set_cons_zero, List.set_cons_succ]
     refine sched_end (by kernel_rfl) ?_
     try simp only [Act.put, List.getElem_toArray, List.getElem_cons_succ, List.getElem_cons_zero, List.setIfInBounds_toArray, List.set_cons_zero, List.set_cons_succ]
     exact main _ _ _ _ _ _ _ _ _ _ _ _ _ _ _ _ _ _ _ _ _ _ _ _ _ _ _ _ _ _ _ _ _ _ _ _ _ _ _ _ _ _ _ _ _ _ _ _ _ _ _ _ _ _ _ _ _ _ _ _ _ _ _ _ _ _ _ _ _ _ _ _ _ _ _ _ _ _ _ _ _ _ _ kP kQ HB
    ·refine sched_heavy 11 _ rfl rfl (fun K hK => ?_); go_step; obtain ⟨Q, hPP⟩ : ∃ p, W0.heap.size = p := ⟨_, rfl⟩; have hx := Below.new W0 (.cells #[.string ⟨#[]⟩, .slice none 0 0] 58); have kQ := Blk.lit W0 Q [.string ⟨#[]⟩, .slice none 0 0] 58 hPP; have hLQ : W0.heap.size ≤ Q := by have := HB.size; omega
     have HB := HB.trans (hx.mono HB.size); rw [hPP]; clear hx hPP; refine hK.out _ _ HB ?_; clear hK K; generalize W0.alloc (.cells #[.string ⟨#[]⟩, .slice none 0 0] 58) = V1 at *
     try simp only [Act.put, List.getElem_toArray, List.getElem_cons_succ, List.getElem_cons_zero, List.setIfInBounds_toArray, List.set_cons_zero, List.set_cons_succ]
     refine sched_fork [10] (by kernel_rfl) (by kernel_rfl) (by simp) (fun i hi => ?_); obtain rfl : i = 10 := by simpa using hi
     refine sched_heavy 10 _ rfl rfl (fun K hK => ?_); go_step; obtain ⟨P, hPP⟩ : ∃ p, V1.heap.size = p := ⟨_, rfl⟩; have hx := Below.new V1 (.cells #[.string ⟨#[]⟩, .slice none 0 0] 46); have hPQ : Q ≠ P := by have := kQ.lt; omega
     have kQ := kQ.keep hx; have kP := Blk.lit V1 P [.string ⟨#[]⟩, .slice none 0 0] 46 hPP; have hLP : W0.heap.size ≤ P := by have := HB.size; omega
     have HB := HB.trans (hx.mono HB.size); rw [hPP]; clear hx hPP; refine hK.out _ _ HB ?_; clear hK K; generalize V1.alloc (.cells #[.string ⟨#[]⟩, .slice none 0 0] 46) = V2 at *
     try simp only [Act.put, List.getElem_toArray, List.getElem_cons_succ, List.getElem_cons_zero, List.setIfInBounds_toArray, List.set_cons_zero, List.set_cons_succ]
     refine sched_fork [12] (by kernel_rfl) (by kernel_rfl) (by simp) (fun i hi => ?_); obtain rfl : i = 12 := by simpa using hi
     refine sched_heavy 12 _ rfl rfl (fun K hK => ?_); refine wp_store_blk 46 _ _ rfl P _ [.string NM, .slice fa n1 fc] rfl rfl kP (by kernel_rfl) rfl rfl ?_; have kQ := kQ.setRow_ne (c := P) (by omega) (List.toArray [.string NM, .slice fa n1 fc]); have kP := kP.setRow [.string NM, .slice fa n1 fc]; have HB := HB.setRow hLP (List.toArray [.string NM, .slice fa n1 fc]); refine hK.out _ _ HB ?_; clear hK K
     try simp only [Act.put, List.getElem_toArray, List.getElem_cons_succ, List.getElem_cons_zero, List.setIfInBounds_toArray, List.set_cons_zero, List.set_cons_succ]
     refine sched_fork [13] (by kernel_rfl) (by kernel_rfl) (by simp) (fun i hi => ?_); obtain rfl : i = 13 := by simpa using hi
     refine sched_heavy 13 _ rfl rfl (fun K hK => ?_); refine wp_store_blk 58 _ _ rfl Q _ [.string NM2, .slice ga n2 gc] rfl rfl kQ (by kernel_rfl) rfl rfl ?_; have kP := kP.setRow_ne (c := Q) (by omega) (List.toArray [.string NM2, .slice ga n2 gc]); have kQ := kQ.setRow [.string NM2, .slice ga n2 gc]; have HB := HB.setRow hLQ (List.toArray [.string NM2, .slice ga n2 gc]); refine hK.out _ _ HB ?_; clear hK K
     try simp only [Act.put, List.getElem_toArray, List.getElem_cons_succ, List.getElem_cons_zero, List.setIfInBounds_toArray, List.set_cons_zero, List.set_cons_succ]
     refine sched_end (by kernel_rfl) ?_
     try simp only [Act.put, List.getElem_toArray, List.getElem_cons_succ, List.getElem_cons_zero, List.setIfInBounds_toArray, List.set_cons_zero, List.set_cons_succ]
     exact main _ _ _ _ _ _ _ _ _ _ _ _ _ _ _ _ _ _ _ _ _ _ _ _ _ _ _ _ _ _ _ _ _ _ _ _ _ _ _ _ _ _ _ _ _ _ _ _ _ _ _ _ _ _ _ _ _ _ _ _ _ _ _ _ _ _ _ _ _ _ _ _ _ _ _ _ _ _ _ _ _ _ _ kP kQ HB
   ·have h1' : ¬ (k : Int) < (N : Int) := by omega
    have hB : Bo = true := HBT.out (by
     have := HE.out
     rwa [List.take_of_length_le (by rw [HN.out]; omega), List.take_of_length_le (by rw [HN2.out]; omega)] at this)
    subst hB; go_wp2; go_ret; exact ⟨rfl, hWB⟩
 ·have hne : ((N : Int) != (N2 : Int)) = true := by simp; omega
  have hne2 : ¬ ((N : Int) = (N2 : Int)) := by omega
  have hB : Bo = false := HLN.out hlen; subst hB; go_wp2; go_ret; exact ⟨rfl, hb1⟩
end Go.Proofs.YtjggoajfilnfjaaGreat

/-
  mvt.Same of any tiles. The store of a whole struct into a block, as one step (many cells).
-/
import Derived.Test.YtjggoajfilnfjaaGreatPk31
import Derived.Test.YtjggoajfilnfjaaGreatPk26
import Derived.Test.YtjggoajfilnfjaaGreatPk1
import Derived.Laws.Tables
/- mvt.Same of any tiles. -/
set_option linter.unusedVariables false
set_option linter.unusedSimpArgs false
set_option maxRecDepth 100000
namespace Go
instance : DecidableEq FtC := fun a b => instDecidableEqProd a b
instance : DecidableEq LyC := fun a b => instDecidableEqProd a b
end Go
namespace Go.Proofs.YtjggoajfilnfjaaGreat
open Go.RowKit
set_option maxHeartbeats 6400000 in
theorem sf_any (f g : Ft) (hz : f.Sz) (hz2 : g.Sz) (w : World) (hf : f.Ok w) (hg : g.Ok w) :
    Calls Tryz.prog 38 #[f.val, g.val] w fun e w' => e = .returned (.bool (decide (f.core = g.core))) ∧ Below w.heap.size w w' := by
  obtain ⟨id, kd, ls, aa, ac, rs, ra, rc⟩ := f; obtain ⟨id2, kd2, ls2, ba, bc, qs, qa, qc⟩ := g; simp only [Ft.core, Ft.rings, Prod.mk.injEq]; obtain ⟨z1, z2, z3, z4⟩ := hz; obtain ⟨y1, y2, y3, y4⟩ := hz2; obtain ⟨⟨ha, -⟩, ⟨hr, -⟩, ho⟩ := hf; obtain ⟨⟨ha2, -⟩, ⟨hr2, -⟩, ho2⟩ := hg; dsimp only at *; have HA := Lib.hid (fun W (h : Below w.heap.size w W) => tsame_any aa ba ac bc ls ls2 (by omega) (by omega) W (ha.keep h) (ha2.keep h)); have HP := Lib.hid (fun W (h : Below w.heap.size w W) => eqR_any ra qa rc qc rs qs (by omega) (by omega) (fun r hr => by have := z4 r hr; omega) (fun r hr => by have := y4 r hr; omega) W (hr.keep h) (hr2.keep h) (fun r hr => (ho r hr).keep h) (fun r hr => (ho2 r hr).keep h)); have HBT : Hid (id = id2 ∧ kd = kd2 ∧ ls = ls2 ∧ rs.map PC.l = qs.map PC.l → decide (id = id2 ∧ kd = kd2 ∧ ls = ls2 ∧ rs.map PC.l = qs.map PC.l) = true) := Lib.hid (fun h => decide_eq_true h); have HBF : Hid (¬ (id = id2 ∧ kd = kd2 ∧ ls = ls2 ∧ rs.map PC.l = qs.map PC.l) → decide (id = id2 ∧ kd = kd2 ∧ ls = ls2 ∧ rs.map PC.l = qs.map PC.l) = false) := Lib.hid (fun h => decide_eq_false h); generalize decide (id = id2 ∧ kd = kd2 ∧ ls = ls2 ∧ rs.map PC.l = qs.map PC.l) = B at *; dsimp only [Ft.val, Ft.aval, Ft.rval]; have h3 : ls = ls2 ∨ ls ≠ ls2 := Classical.em _; have h4 : rs.map PC.l = qs.map PC.l ∨ rs.map PC.l ≠ qs.map PC.l := Classical.em _; have H3 : Hid (ls = ls2 ↔ ls = ls2) := Lib.hid Iff.rfl; obtain ⟨D3, hD3⟩ : ∃ D, decide (ls = ls2) = D := ⟨_, rfl⟩; obtain ⟨D4, hD4⟩ : ∃ D, decide (rs.map PC.l = qs.map PC.l) = D := ⟨_, rfl⟩
  rw [hD3] at HA; rw [hD4] at HP; have HT : Hid (id = id2 → kd = kd2 → D3 = true → D4 = true → B = true) := Lib.hid (fun h1 h2 h3 h4 => HBT.out ⟨h1, h2, of_decide_eq_true (hD3.trans h3), of_decide_eq_true (hD4.trans h4)⟩); have HF : Hid ((id ≠ id2 ∨ kd ≠ kd2 ∨ D3 = false ∨ D4 = false) → B = false) := Lib.hid (fun h => HBF.out (fun k => by
    rcases h with h | h | h | h
    · exact h k.1
    · exact h k.2.1
    · rw [← hD3] at h; exact of_decide_eq_false h k.2.2.1
    · rw [← hD4] at h; exact of_decide_eq_false h k.2.2.2))
  clear hD3 hD4 HBT HBF h3 h4 H3; generalize ls.length = n1 at *; generalize rs.length = n2 at *; generalize ls2.length = n3 at *; generalize qs.length = n4 at *; have kA := (Blk.new w [.int .i64 id, .int .i64 kd, .slice aa n1 ac, .slice ra n2 rc] 53).alloc (.cells #[.int .i64 id2, .int .i64 kd2, .slice ba n3 bc, .slice qa n4 qc] 53); have kB := Blk.lit (w.alloc (.cells #[.int .i64 id, .int .i64 kd, .slice aa n1 ac, .slice ra n2 rc] 53)) (w.heap.size + 1) [.int .i64 id2, .int .i64 kd2, .slice ba n3 bc, .slice qa n4 qc] 53 (by simp); have hb0 := (Below.new w (.cells #[.int .i64 id, .int .i64 kd, .slice aa n1 ac, .slice ra n2 rc] 53)).alloc (by simp) (.cells #[.int .i64 id2, .int .i64 kd2, .slice ba n3 bc, .slice qa n4 qc] 53); clear ha ha2 hr hr2 ho ho2 z2 z4 y2 y4; have a0 := kA.cell 0 rfl; have a1 := kA.cell 1 rfl; have a2 := kA.cell 2 rfl; have b0 := kB.cell 0 rfl; have b1 := kB.cell 1 rfl; have b2 := kB.cell 2 rfl
  go_enter Tryz.func38, Tryz.ntmps38
  by_cases h1 : id = id2
  · subst h1
    by_cases h2 : kd = kd2
    · subst h2
      cases D3 with
      | true =>
        cases D4 with
        | true =>
          have hB := HT.out rfl rfl rfl rfl; clear HT HF; subst hB
          go_wp2_with fail
          refine (HA.out _ hb0).mono ?_; rintro e w1 ⟨rfl, hx⟩; have hb1 := hb0.trans (hx.mono hb0.size); have kA := kA.keep hx; have kB := kB.keep hx; clear a0 a1 a2 b0 b1 b2 hx; have a3 := kA.cell 3 rfl; have b3 := kB.cell 3 rfl
          go_wp2_with fail
          refine (HP.out _ hb1).mono ?_; rintro e w2 ⟨rfl, hx⟩; have hb2 := hb1.trans (hx.mono hb1.size); clear a3 b3; go_wp2; go_ret; exact ⟨rfl, hb2⟩
        | false =>
          have hB := HF.out (.inr (.inr (.inr rfl))); clear HT HF; subst hB
          go_wp2_with fail
          refine (HA.out _ hb0).mono ?_; rintro e w1 ⟨rfl, hx⟩; have hb1 := hb0.trans (hx.mono hb0.size); have kA := kA.keep hx; have kB := kB.keep hx; clear a0 a1 a2 b0 b1 b2 hx; have a3 := kA.cell 3 rfl; have b3 := kB.cell 3 rfl
          go_wp2_with fail
          refine (HP.out _ hb1).mono ?_; rintro e w2 ⟨rfl, hx⟩; have hb2 := hb1.trans (hx.mono hb1.size); clear a3 b3; go_wp2; go_ret; exact ⟨rfl, hb2⟩
      | false =>
        have hB := HF.out (.inr (.inr (.inl rfl))); clear HT HF; subst hB
        go_wp2_with fail
        refine (HA.out _ hb0).mono ?_; rintro e w1 ⟨rfl, hx⟩; have hb1 := hb0.trans (hx.mono hb0.size); have kA := kA.keep hx; have kB := kB.keep hx; clear a0 a1 a2 b0 b1 b2 hx; have a3 := kA.cell 3 rfl; have b3 := kB.cell 3 rfl; go_wp2; go_ret; exact ⟨rfl, hb1⟩
    · have hB := HF.out (.inr (.inl h2)); clear HT HF; subst hB; go_wp2; go_ret; exact ⟨rfl, hb0⟩
  · have hB := HF.out (.inl h1); clear HT HF; subst hB; go_wp2; go_ret; exact ⟨rfl, hb0⟩
set_option maxHeartbeats 6400000 in
theorem eqF_any (a b : Option Addr) (ca cb : Nat) (L M : List Ft) (hl : L.length ≤ 1000000) (hm : M.length ≤ 1000000) (hz : ∀ x ∈ L, Ft.Sz x) (hz2 : ∀ x ∈ M, Ft.Sz x) (w : World) (hr : Rd w a (fts L)) (hs : Rd w b (fts M)) (hL : ∀ x ∈ L, x.Ok w) (hM : ∀ x ∈ M, x.Ok w) :
    Calls Tryz.prog 37 #[.slice a L.length ca, .slice b M.length cb, .func (.func 38) #[] #[]] w fun e w' => e = .returned (.bool (decide (L.map Ft.core = M.map Ft.core))) ∧ Below w.heap.size w w' := by
  have HR := Lib.hid hr; have HS := Lib.hid hs; have HL := Lib.hid hL; have HM := Lib.hid hM; have HZ := Lib.hid hz; have HZ2 := Lib.hid hz2; have HBF : Hid (L.map Ft.core ≠ M.map Ft.core → decide (L.map Ft.core = M.map Ft.core) = false) := Lib.hid (fun h => decide_eq_false h); have HBT : Hid (L.map Ft.core = M.map Ft.core → decide (L.map Ft.core = M.map Ft.core) = true) := Lib.hid (fun h => decide_eq_true h); have HLN : Hid (L.length ≠ M.length → decide (L.map Ft.core = M.map Ft.core) = false) := Lib.hid (fun h => decide_eq_false (fun e => h (by have := congrArg List.length e; simpa using this))); generalize decide (L.map Ft.core = M.map Ft.core) = B at *; obtain ⟨N, hN⟩ : ∃ N, L.length = N := ⟨_, rfl⟩; obtain ⟨N2, hN2⟩ : ∃ N, M.length = N := ⟨_, rfl⟩; have HN := Lib.hid hN; have HN2 := Lib.hid hN2; rw [hN] at hl HLN ⊢; rw [hN2] at hm HLN ⊢; clear hr hs hN hN2 hL hM hz hz2
  by_cases hlen : N = N2
  · subst hlen
    go_enter Tryz.func37, Tryz.ntmps37
    go_wp2
    go_loopw [17] (fun i wr => ∃ k : Nat, k ≤ N ∧ i = .int .i64 k ∧ Hid ((L.take k).map Ft.core = (M.take k).map Ft.core) ∧ Below w.heap.size w wr) (fun i _ => N - (intOf i).toNat)
    case atStart => exact ⟨0, by omega, rfl, Lib.hid rfl, Below.refl _ _⟩
    case round =>
      obtain ⟨k, hk, rfl, HE, hbl⟩ := hrel
      by_cases h1 : k < N
      · have h1' : (k : Int) < (N : Int) := by omega
        have hkl : k < L.length := by rw [HN.out]; exact h1
        have hkm : k < M.length := by rw [HN2.out]; exact h1
        obtain ⟨b1, o1, rfl, hbb, c0, c1, c2, c3⟩ := (HR.out.keep hbl).ft k hkl; obtain ⟨b2, o2, rfl, hbb2, d0, d1, d2, d3⟩ := (HS.out.keep hbl).ft k hkm; have HST : Hid (Ft.core L[k] = Ft.core M[k] → (L.take (k + 1)).map Ft.core = (M.take (k + 1)).map Ft.core) := Lib.hid fun h => by rw [List.take_succ_eq_append_getElem hkl, List.take_succ_eq_append_getElem hkm, List.map_append, List.map_append, HE.out, List.map_singleton, List.map_singleton, h]
        have HNO : Hid (Ft.core L[k] ≠ Ft.core M[k] → B = false) := Lib.hid fun hx => HBF.out (fun h => hx (by
          have := congrArg (fun z => z[k]?) h; simp [hkl, hkm] at this; exact this))
        have hx := (HL.out _ (List.getElem_mem hkl)).keep hbl; have hy := (HM.out _ (List.getElem_mem hkm)).keep hbl; have hzx := HZ.out _ (List.getElem_mem hkl); have hzy := HZ2.out _ (List.getElem_mem hkm); generalize L[k] = x at *; generalize M[k] = y at *; have HC := Lib.hid (fun W (h : Below wr.heap.size wr W) => sf_any x y hzx hzy W (hx.keep h) (hy.keep h)); clear hx hy hzx hzy; have hcs : Ft.core x = Ft.core y ∨ Ft.core x ≠ Ft.core y := Classical.em _
        rcases hcs with hc | hc
        · rw [decide_eq_true hc] at HC; have HS2 := Lib.hid (HST.out hc); clear HST HNO hc; obtain ⟨id, kd, ls, aa, ac, rs, ra, rc⟩ := x; obtain ⟨id2, kd2, ls2, ba, bc, qs, qa, qc⟩ := y; dsimp only [Ft.val, Ft.aval, Ft.rval] at HC c0 c1 c2 c3 d0 d1 d2 d3; generalize ls.length = n1 at *; generalize rs.length = n2 at *; generalize ls2.length = n3 at *; generalize qs.length = n4 at *; have kA := (Blk.new wr [.int .i64 id, .int .i64 kd, .slice aa n1 ac, .slice ra n2 rc] 53).alloc (.cells #[.int .i64 id2, .int .i64 kd2, .slice ba n3 bc, .slice qa n4 qc] 53); have kB := Blk.lit (wr.alloc (.cells #[.int .i64 id, .int .i64 kd, .slice aa n1 ac, .slice ra n2 rc] 53)) (wr.heap.size + 1) [.int .i64 id2, .int .i64 kd2, .slice ba n3 bc, .slice qa n4 qc] 53 (by simp); have hxx := (Below.new wr (.cells #[.int .i64 id, .int .i64 kd, .slice aa n1 ac, .slice ra n2 rc] 53)).alloc (by simp) (.cells #[.int .i64 id2, .int .i64 kd2, .slice ba n3 bc, .slice qa n4 qc] 53); have e0 := kA.cell 0 rfl; have f0 := kB.cell 0 rfl; have e1 := kA.cell 1 rfl; have f1 := kB.cell 1 rfl; have e2 := kA.cell 2 rfl; have f2 := kB.cell 2 rfl; have e3 := kA.cell 3 rfl; have f3 := kB.cell 3 rfl
          go_wp2_with fail
          refine (HC.out _ hxx).mono ?_; rintro e w1 ⟨rfl, hb1⟩; have hb3 := hbl.trans ((hxx.trans (hb1.mono hxx.size)).mono hbl.size); go_wp2; exact ⟨⟨k + 1, by omega, by go_num, HS2, hb3⟩, by simp [intOf]; omega⟩
        · rw [decide_eq_false hc] at HC; have hB : B = false := HNO.out hc; subst hB; clear HST HNO hc; obtain ⟨id, kd, ls, aa, ac, rs, ra, rc⟩ := x; obtain ⟨id2, kd2, ls2, ba, bc, qs, qa, qc⟩ := y; dsimp only [Ft.val, Ft.aval, Ft.rval] at HC c0 c1 c2 c3 d0 d1 d2 d3; generalize ls.length = n1 at *; generalize rs.length = n2 at *; generalize ls2.length = n3 at *; generalize qs.length = n4 at *; have kA := (Blk.new wr [.int .i64 id, .int .i64 kd, .slice aa n1 ac, .slice ra n2 rc] 53).alloc (.cells #[.int .i64 id2, .int .i64 kd2, .slice ba n3 bc, .slice qa n4 qc] 53); have kB := Blk.lit (wr.alloc (.cells #[.int .i64 id, .int .i64 kd, .slice aa n1 ac, .slice ra n2 rc] 53)) (wr.heap.size + 1) [.int .i64 id2, .int .i64 kd2, .slice ba n3 bc, .slice qa n4 qc] 53 (by simp); have hxx := (Below.new wr (.cells #[.int .i64 id, .int .i64 kd, .slice aa n1 ac, .slice ra n2 rc] 53)).alloc (by simp) (.cells #[.int .i64 id2, .int .i64 kd2, .slice ba n3 bc, .slice qa n4 qc] 53); have e0 := kA.cell 0 rfl; have f0 := kB.cell 0 rfl; have e1 := kA.cell 1 rfl; have f1 := kB.cell 1 rfl; have e2 := kA.cell 2 rfl; have f2 := kB.cell 2 rfl; have e3 := kA.cell 3 rfl; have f3 := kB.cell 3 rfl
          go_wp2_with fail
          refine (HC.out _ hxx).mono ?_; rintro e w1 ⟨rfl, hb1⟩; have hb3 := hbl.trans ((hxx.trans (hb1.mono hxx.size)).mono hbl.size); go_wp2; go_ret; exact ⟨rfl, hb3⟩
      · have h1' : ¬ (k : Int) < (N : Int) := by omega
        have hB : B = true := HBT.out (by
          have := HE.out
          rwa [List.take_of_length_le (by rw [HN.out]; omega), List.take_of_length_le (by rw [HN2.out]; omega)] at this)
        subst hB; go_wp2; go_ret; exact ⟨rfl, hbl⟩
  · have hne : ((N : Int) != (N2 : Int)) = true := by simp; omega
    have hne2 : ¬ ((N : Int) = (N2 : Int)) := by omega
    have hB : B = false := HLN.out hlen
    go_enter Tryz.func37, Tryz.ntmps37
    subst hB; go_wp2; go_ret; exact ⟨rfl, Below.refl _ _⟩
set_option maxHeartbeats 6400000 in
theorem sl_any (f g : Ly) (hz : f.Sz) (hz2 : g.Sz) (w : World) (hf : f.Ok w) (hg : g.Ok w) :
    Calls Tryz.prog 36 #[f.val, g.val] w fun e w' => e = .returned (.bool (decide (f.core = g.core))) ∧ Below w.heap.size w w' := by
  obtain ⟨NM, fs, fa, fc⟩ := f; obtain ⟨NM2, gs, ga, gc⟩ := g; simp only [Ly.core, Prod.mk.injEq]; obtain ⟨z1, z2, z3⟩ := hz; obtain ⟨y1, y2, y3⟩ := hz2; obtain ⟨⟨ha, -⟩, ho⟩ := hf; obtain ⟨⟨ha2, -⟩, ho2⟩ := hg; dsimp only at *; have HP := Lib.hid (fun W (h : Below w.heap.size w W) => eqF_any fa ga fc gc fs gs (by omega) (by omega) z3 y3 W (ha.keep h) (ha2.keep h) (fun r hr => (ho r hr).keep h) (fun r hr => (ho2 r hr).keep h)); obtain ⟨D, hD⟩ : ∃ D, decide (fs.map Ft.core = gs.map Ft.core) = D := ⟨_, rfl⟩; have HT : Hid (NM = NM2 → D = true → decide (NM = NM2 ∧ fs.map Ft.core = gs.map Ft.core) = true) := Lib.hid (fun h k => decide_eq_true ⟨h, of_decide_eq_true (hD.trans k)⟩); have HF : Hid (NM ≠ NM2 ∨ D = false → decide (NM = NM2 ∧ fs.map Ft.core = gs.map Ft.core) = false) := Lib.hid (fun h => decide_eq_false (fun k => by
    rcases h with h | h
    · exact h k.1
    · rw [← hD] at h; exact of_decide_eq_false h k.2))
  rw [hD] at HP; generalize decide (NM = NM2 ∧ fs.map Ft.core = gs.map Ft.core) = B at *; dsimp only [Ly.val, Ly.fval]; generalize fs.length = n1 at *; generalize gs.length = n2 at *; have kA := (Blk.new w [.string NM, .slice fa n1 fc] 46).alloc (.cells #[.string NM2, .slice ga n2 gc] 46); have kB := Blk.lit (w.alloc (.cells #[.string NM, .slice fa n1 fc] 46)) (w.heap.size + 1) [.string NM2, .slice ga n2 gc] 46 (by simp); have hb0 := (Below.new w (.cells #[.string NM, .slice fa n1 fc] 46)).alloc (by simp) (.cells #[.string NM2, .slice ga n2 gc] 46); clear ha ha2 ho ho2 z3 y3 hD; have a0 := kA.cell 0 rfl; have a1 := kA.cell 1 rfl; have b0 := kB.cell 0 rfl; have b1 := kB.cell 1 rfl
  go_enter Tryz.func36, Tryz.ntmps36
  by_cases h1 : NM = NM2
  · subst h1
    cases D with
    | true =>
      have hB := HT.out rfl rfl; clear HT HF; subst hB
      go_wp2_with fail
      refine (HP.out _ hb0).mono ?_; rintro e w2 ⟨rfl, hx⟩; have hb2 := hb0.trans (hx.mono hb0.size); clear a0 a1 b0 b1; go_wp2; go_ret; exact ⟨rfl, hb2⟩
    | false =>
      have hB := HF.out (.inr rfl); clear HT HF; subst hB
      go_wp2_with fail
      refine (HP.out _ hb0).mono ?_; rintro e w2 ⟨rfl, hx⟩; have hb2 := hb0.trans (hx.mono hb0.size); clear a0 a1 b0 b1; go_wp2; go_ret; exact ⟨rfl, hb2⟩
  · have hB := HF.out (.inl h1); clear HT HF; subst hB; have hs : ¬ NM.toList = NM2.toList := fun h => h1 ((ba_injq _ _).2 h); go_wp2; go_ret; exact ⟨rfl, hb0⟩
set_option maxHeartbeats 6400000 in
theorem eqL_any (a b : Option Addr) (ca cb : Nat) (L M : List Ly) (hl : L.length ≤ 1000000) (hm : M.length ≤ 1000000) (hz : ∀ x ∈ L, Ly.Sz x) (hz2 : ∀ x ∈ M, Ly.Sz x) (w : World) (hr : Rd w a (lys L)) (hs : Rd w b (lys M)) (hL : ∀ x ∈ L, x.Ok w) (hM : ∀ x ∈ M, x.Ok w) :
    Calls Tryz.prog 35 #[.slice a L.length ca, .slice b M.length cb, .func (.func 36) #[] #[]] w fun e w' => e = .returned (.bool (decide (L.map Ly.core = M.map Ly.core))) ∧ Below w.heap.size w w' := by
  have HR := Lib.hid hr; have HS := Lib.hid hs; have HL := Lib.hid hL; have HM := Lib.hid hM; have HZ := Lib.hid hz; have HZ2 := Lib.hid hz2; have HBF : Hid (L.map Ly.core ≠ M.map Ly.core → decide (L.map Ly.core = M.map Ly.core) = false) := Lib.hid (fun h => decide_eq_false h); have HBT : Hid (L.map Ly.core = M.map Ly.core → decide (L.map Ly.core = M.map Ly.core) = true) := Lib.hid (fun h => decide_eq_true h); have HLN : Hid (L.length ≠ M.length → decide (L.map Ly.core = M.map Ly.core) = false) := Lib.hid (fun h => decide_eq_false (fun e => h (by have := congrArg List.length e; simpa using this))); generalize decide (L.map Ly.core = M.map Ly.core) = B at *; obtain ⟨N, hN⟩ : ∃ N, L.length = N := ⟨_, rfl⟩; obtain ⟨N2, hN2⟩ : ∃ N, M.length = N := ⟨_, rfl⟩; have HN := Lib.hid hN; have HN2 := Lib.hid hN2; rw [hN] at hl HLN ⊢; rw [hN2] at hm HLN ⊢; clear hr hs hN hN2 hL hM hz hz2
  by_cases hlen : N = N2
  · subst hlen
    go_enter Tryz.func35, Tryz.ntmps35
    go_wp2
    go_loopw [17] (fun i wr => ∃ k : Nat, k ≤ N ∧ i = .int .i64 k ∧ Hid ((L.take k).map Ly.core = (M.take k).map Ly.core) ∧ Below w.heap.size w wr) (fun i _ => N - (intOf i).toNat)
    case atStart => exact ⟨0, by omega, rfl, Lib.hid rfl, Below.refl _ _⟩
    case round =>
      obtain ⟨k, hk, rfl, HE, hbl⟩ := hrel
      by_cases h1 : k < N
      · have h1' : (k : Int) < (N : Int) := by omega
        have hkl : k < L.length := by rw [HN.out]; exact h1
        have hkm : k < M.length := by rw [HN2.out]; exact h1
        obtain ⟨b1, o1, rfl, hbb, c0, c1⟩ := (HR.out.keep hbl).ly k hkl; obtain ⟨b2, o2, rfl, hbb2, d0, d1⟩ := (HS.out.keep hbl).ly k hkm; have HST : Hid (Ly.core L[k] = Ly.core M[k] → (L.take (k + 1)).map Ly.core = (M.take (k + 1)).map Ly.core) := Lib.hid fun h => by rw [List.take_succ_eq_append_getElem hkl, List.take_succ_eq_append_getElem hkm, List.map_append, List.map_append, HE.out, List.map_singleton, List.map_singleton, h]
        have HNO : Hid (Ly.core L[k] ≠ Ly.core M[k] → B = false) := Lib.hid fun hx => HBF.out (fun h => hx (by
          have := congrArg (fun z => z[k]?) h; simp [hkl, hkm] at this; exact this))
        have hx := (HL.out _ (List.getElem_mem hkl)).keep hbl; have hy := (HM.out _ (List.getElem_mem hkm)).keep hbl; have hzx := HZ.out _ (List.getElem_mem hkl); have hzy := HZ2.out _ (List.getElem_mem hkm); generalize L[k] = x at *; generalize M[k] = y at *; have HC := Lib.hid (fun W (h : Below wr.heap.size wr W) => sl_any x y hzx hzy W (hx.keep h) (hy.keep h)); clear hx hy hzx hzy; have hcs : Ly.core x = Ly.core y ∨ Ly.core x ≠ Ly.core y := Classical.em _
        rcases hcs with hc | hc
        · rw [decide_eq_true hc] at HC; have HS2 := Lib.hid (HST.out hc); clear HST HNO hc; obtain ⟨NM, fs, fa, fc⟩ := x; obtain ⟨NM2, gs, ga, gc⟩ := y; dsimp only [Ly.val, Ly.fval] at HC c0 c1 d0 d1; generalize fs.length = n1 at *; generalize gs.length = n2 at *; have kA := (Blk.new wr [.string NM, .slice fa n1 fc] 46).alloc (.cells #[.string NM2, .slice ga n2 gc] 46); have kB := Blk.lit (wr.alloc (.cells #[.string NM, .slice fa n1 fc] 46)) (wr.heap.size + 1) [.string NM2, .slice ga n2 gc] 46 (by simp); have hxx := (Below.new wr (.cells #[.string NM, .slice fa n1 fc] 46)).alloc (by simp) (.cells #[.string NM2, .slice ga n2 gc] 46); have e0 := kA.cell 0 rfl; have f0 := kB.cell 0 rfl; have e1 := kA.cell 1 rfl; have f1 := kB.cell 1 rfl
          go_wp2_with fail
          refine (HC.out _ hxx).mono ?_; rintro e w1 ⟨rfl, hb1⟩; have hb3 := hbl.trans ((hxx.trans (hb1.mono hxx.size)).mono hbl.size); go_wp2; exact ⟨⟨k + 1, by omega, by go_num, HS2, hb3⟩, by simp [intOf]; omega⟩
        · rw [decide_eq_false hc] at HC; have hB : B = false := HNO.out hc; subst hB; clear HST HNO hc; obtain ⟨NM, fs, fa, fc⟩ := x; obtain ⟨NM2, gs, ga, gc⟩ := y; dsimp only [Ly.val, Ly.fval] at HC c0 c1 d0 d1; generalize fs.length = n1 at *; generalize gs.length = n2 at *; have kA := (Blk.new wr [.string NM, .slice fa n1 fc] 46).alloc (.cells #[.string NM2, .slice ga n2 gc] 46); have kB := Blk.lit (wr.alloc (.cells #[.string NM, .slice fa n1 fc] 46)) (wr.heap.size + 1) [.string NM2, .slice ga n2 gc] 46 (by simp); have hxx := (Below.new wr (.cells #[.string NM, .slice fa n1 fc] 46)).alloc (by simp) (.cells #[.string NM2, .slice ga n2 gc] 46); have e0 := kA.cell 0 rfl; have f0 := kB.cell 0 rfl; have e1 := kA.cell 1 rfl; have f1 := kB.cell 1 rfl
          go_wp2_with fail
          refine (HC.out _ hxx).mono ?_; rintro e w1 ⟨rfl, hb1⟩; have hb3 := hbl.trans ((hxx.trans (hb1.mono hxx.size)).mono hbl.size); go_wp2; go_ret; exact ⟨rfl, hb3⟩
      · have h1' : ¬ (k : Int) < (N : Int) := by omega
        have hB : B = true := HBT.out (by
          have := HE.out
          rwa [List.take_of_length_le (by rw [HN.out]; omega), List.take_of_length_le (by rw [HN2.out]; omega)] at this)
        subst hB; go_wp2; go_ret; exact ⟨rfl, hbl⟩
  · have hne : ((N : Int) != (N2 : Int)) = true := by simp; omega
    have hne2 : ¬ ((N : Int) = (N2 : Int)) := by omega
    have hB : B = false := HLN.out hlen
    go_enter Tryz.func35, Tryz.ntmps35
    subst hB; go_wp2; go_ret; exact ⟨rfl, Below.refl _ _⟩
set_option maxHeartbeats 3200000 in
theorem msame_any (a b : Option Addr) (ca cb : Nat) (L M : List Ly) (hl : L.length ≤ 1000000) (hm : M.length ≤ 1000000) (hz : ∀ x ∈ L, Ly.Sz x) (hz2 : ∀ x ∈ M, Ly.Sz x) (w : World) (hr : Rd w a (lys L)) (hs : Rd w b (lys M)) (hL : ∀ x ∈ L, x.Ok w) (hM : ∀ x ∈ M, x.Ok w) :
    Calls Tryz.prog 14 #[.agg #[.slice a L.length ca], .agg #[.slice b M.length cb]] w fun e w' => e = .returned (.bool (decide (L.map Ly.core = M.map Ly.core))) ∧ Below w.heap.size w w' := by
  have HP := Lib.hid (fun W (h : Below w.heap.size w W) => eqL_any a b ca cb L M hl hm hz hz2 W (hr.keep h) (hs.keep h) (fun r hr => (hL r hr).keep h) (fun r hr => (hM r hr).keep h)); generalize decide (L.map Ly.core = M.map Ly.core) = D at *; generalize L.length = n2 at *; generalize M.length = n3 at *; have kA := (Blk.new w [.slice a n2 ca] 24).alloc (.cells #[.slice b n3 cb] 24); have kB := Blk.lit (w.alloc (.cells #[.slice a n2 ca] 24)) (w.heap.size + 1) [.slice b n3 cb] 24 (by simp); have hb0 := (Below.new w (.cells #[.slice a n2 ca] 24)).alloc (by simp) (.cells #[.slice b n3 cb] 24); clear hr hs hL hM hz hz2; have a0 := kA.cell 0 rfl; have b0 := kB.cell 0 rfl
  go_enter Tryz.func14, Tryz.ntmps14
  go_wp2_with fail
  refine (HP.out _ hb0).mono ?_; rintro e w2 ⟨rfl, hx⟩; have hb2 := hb0.trans (hx.mono hb0.size); clear a0 b0; go_wp2; go_ret; exact ⟨rfl, hb2⟩
end Go.Proofs.YtjggoajfilnfjaaGreat
/- The store of a whole struct into a block, as one step (many cells). -/
set_option linter.unusedVariables false
namespace Go
open Go.RowKit
theorem Blk.setRow {w : World} {b : Nat} {vs : List Value} (h : Blk w b vs) (us : List Value) : Blk (w.setRow b us.toArray) b us := by
  obtain ⟨T, h⟩ := h; exact ⟨T, setRow_heap w b _ _ T _ h⟩
theorem Blk.setRow_ne {w : World} {b c : Nat} {vs : List Value} (h : Blk w b vs) (hp : b ≠ c) (us : Array Value) : Blk (w.setRow c us) b vs :=
  h.of_block (setRow_other w c b us hp)
theorem RowKit.Below.setRow {B : Nat} {a w : World} (h : Below B a w) {b : Nat} (hp : B ≤ b) (us : Array Value) : Below B a (w.setRow b us) :=
  h.trans ⟨rfl, rfl, rfl, by simp, fun k hk => setRow_other w b k us (by omega)⟩
theorem wp_store_blk {P : Program} {o : Oper} {a : Act} {w : World} {K : Act → World → Prop} {Q : Exit → Act → World → Prop} (ty : TypeId) (x y : Operand) (ho : o.op = .store ty x y)
    (b : Nat) (vs us : List Value) (hx : a.eval x = .pointer (some ⟨b, 0, none⟩)) (hy : a.eval y = .agg us.toArray) (hb : Blk w b vs) (hi : (P.info? ty).map (·.size) = some us.toArray.size)
    (hl : vs.length = us.length) (h1 : us.all (·.oneCell') = true) (h : K (a.put o.dst undef) (w.setRow b us.toArray)) : o.wp P a w K Q := by
  obtain ⟨T, hb⟩ := hb; exact wp_store_row ty x y ho b us.toArray hx hy T vs.toArray hb hi (by simpa using hl) (by simpa using h1) h
end Go

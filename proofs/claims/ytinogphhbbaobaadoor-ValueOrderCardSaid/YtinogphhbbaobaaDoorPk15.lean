/-
  Opening a law's arguments: a slice of values. ValueOrder: the walk.
-/
import Derived.Test.YtinogphhbbaobaaDoorPk9
import Derived.Test.YtinogphhbbaobaaDoorPk3
import Derived.Test.YtinogphhbbaobaaDoorPk10
import Derived.Test.YtinogphhbbaobaaDoorPk14
/- Opening a law's arguments: a slice of values. -/
set_option linter.unusedVariables false
set_option linter.unusedSimpArgs false
set_option maxRecDepth 100000
namespace Go.Proofs.YtinogphhbbaobaaDoor
open Go.RowKit Go.ChangeShapes Go.WideShapes Go.ChangeAt
def VgIn (v : Vg) : Prop := v.t.size ≤ maxLen ∧ (Lit.int .i64 v.k).wf = true ∧ (Lit.int .i64 v.n).wf = true
theorem one_val {H : Type} {enc : TypeId × Value → H} {W : World} {base : Nat} {spare : Nat → Bool} {held : Bool} (n : Nat) (cs : List Value) (z : DataW H × List MemPlace) (hcl : cs.length = 3)
    (ht : DataW.trod enc Tryd.prog W base spare held n 23 cs = some z) : ∃ y : Vg, cs = y.cells ∧ VgIn y := by
  have c3 : Tryd.prog.cellsOf 3 = 1 := by kernel_rfl
  have c1 : Tryd.prog.cellsOf 9 = 1 := by kernel_rfl
  obtain ⟨ys, k, hk, hxy, _, hxl, hf⟩ := DataW.trod_struct Tryd.underlying23 ht
  match ys, hxl, cs, hcl with
  | [y0, y1, y2], _, [v0, v1, v2], _ =>
    have g0 := hf 0 _ rfl; have g1 := hf 1 _ rfl; have g2 := hf 2 _ rfl; simp [c1, c3] at g0 g1 g2; obtain ⟨n0, e0, -, w0⟩ := DataW.trod_int Tryd.underlying3 g0; obtain ⟨s1, e1, -, w1⟩ := DataW.trod_string Tryd.underlying9 g1; obtain ⟨n2, e2, -, w2⟩ := DataW.trod_int Tryd.underlying3 g2; simp at e0 e1 e2; subst e0 e1 e2; exact ⟨⟨n0, s1, n2, 0⟩, rfl, w1, w0, w2⟩
theorem open_vals {H : Type} {enc : TypeId × Value → H} {W : World} {base : Nat} {spare : Nat → Bool} {fuel : Nat} {a : Option Addr} {len cap : Nat} {x : DataW H × List MemPlace} {held : Bool} (hsp : ∀ b, spare b = true)
    (h : DataW.trod enc Tryd.prog W base spare held fuel 37 [.slice a len cap] = some x) :
    ∃ xs : List Vg, len = xs.length ∧ len ≤ cap ∧ cap ≤ maxLen ∧ (a = none → cap = 0) ∧ Rd W a (vgs xs) ∧ ∀ y ∈ xs, VgIn y :=
  open_flat 3 (by decide) Vg.cells VgIn (fun _ => rfl) Tryd.underlying37 (by kernel_rfl) (fun n cs' z hl hz => one_val n cs' z hl hz) h
end Go.Proofs.YtinogphhbbaobaaDoor
/- ValueOrder: the walk. -/
set_option linter.unusedVariables false
set_option linter.unusedSimpArgs false
set_option maxRecDepth 100000
namespace Go
open Go.RowKit
theorem World.ownsRow.unlike {w : World} {b1 b2 : Nat} {e1 e2 : TypeId} {k1 k2 : Nat} {v1 v2 : Value} {n1 n2 : Nat} {f1 f2 : List Value} (h : w.ownsRow b1 e1 k1 v1 n1 f1) (g : w.ownsRow b2 e2 k2 v2 n2 f2) (hne : e1 ≠ e2) : v1.ownBlock = none ∨ v1.ownBlock ≠ v2.ownBlock := by
  obtain ⟨_, ⟨rfl, _⟩ | ⟨g1, c1, u1, rfl, p1, q1, _⟩⟩ := h
  · exact .inl rfl
  · right
    obtain ⟨_, ⟨rfl, _⟩ | ⟨g2, c2, u2, rfl, p2, q2, _⟩⟩ := g
    · intro e; cases e
    · intro e; simp only [Value.ownBlock, Option.some.injEq] at e; subst e; rw [q1] at q2
      cases q2
      exact hne rfl
end Go
namespace Go.Proofs.YtinogphhbbaobaaDoor
open Go.RowKit Go.Srt

set_option maxHeartbeats 6400000 in
theorem vord_law {w : World} (a : Option Addr) (cap : Nat) (X : List Vg) (hl : X.length ≤ cap) (hm : cap ≤ maxLen) (hn : a = none → cap = 0) (hr : Rd w a (vgs X)) (hw : ∀ y ∈ X, VgIn y) :
    Calls Tryd.prog 4 #[.slice a X.length cap] w fun e w' => e = .returned (.bool true) ∧ Below w.heap.size w w' := by
  have HCUT := Lib.hid (fun k n t ht W => vcut_any k n t ht W); have HVL := Lib.hid (fun a b W => vless_any a b W); have HRL := Lib.hid (fun a b W => rless_any a b W); have HKN := Lib.hid (fun W => vknown_any W); have HW := Lib.hid hw; have HR := Lib.hid hr; obtain ⟨n, hN⟩ : ∃ n, X.length = n := ⟨_, rfl⟩; have HN := Lib.hid hN; rw [hN] at hl ⊢; have hnm : n ≤ 9223372036854775807 := by unfold maxLen at hm; omega
  clear hN hw hr
  go_enter Tryd.func4, Tryd.ntmps4
  go_wp2
  go_loopw [3, 4, 5] (fun sv wv ii wr => ∃ (k : Nat) (Y : List Vg), k ≤ n ∧ k ≤ 30 ∧ ii = .int .i64 (k : Int) ∧ Hid (Y.length = k ∧ ∀ i, i < k → Y[i]!.g = i) ∧ wr.ownsRow w.heap.size 23 3 sv k (vgs Y) ∧ wr.ownsRow w.heap.size 39 3 wv k (vgs Y) ∧ Below w.heap.size w wr) (fun _ _ ii _ => n - (intOf ii).toNat)
  case atStart => exact ⟨0, [], Nat.zero_le _, Nat.zero_le _, rfl, Lib.hid ⟨rfl, fun i hi => by omega⟩, World.ownsRow_nil _ _ _ _, World.ownsRow_nil _ _ _ _, Below.refl _ _⟩
  case round =>
    obtain ⟨k, Y, hk, hk30, rfl, HY, hs, hv, hbw⟩ := hrel
    by_cases hlt : k < n ∧ k < 30
    · obtain ⟨hkn, hk3⟩ := hlt; have hkn2 : (k : Int) < (n : Int) := by omega
      have hk32 : (k : Int) < 30 := by omega
      have hkX : k < X.length := by rw [HN.out]; exact hkn
      have hin := HW.out _ (List.getElem_mem hkX); obtain ⟨xb, xo, rfl, hxb, x0, x1, x2⟩ := HR.out.vg k hkX; obtain ⟨x, hx⟩ : ∃ x, X[k] = x := ⟨_, rfl⟩; rw [hx] at x0 x1 x2 hin; clear hx; have hsz := hin.1; have HC := Lib.hid (fun W => HCUT.out x.k x.n x.t hsz W); clear hin hsz; obtain ⟨ct, hct⟩ : ∃ c, x.t.extract 0 (min x.t.size 100) = c := ⟨_, rfl⟩; rw [hct] at HC; clear hct; have hs0 := hbw.size; have y0 := (hbw.cell (p := ⟨xb, xo + k * 3, none⟩) hxb).trans x0; have y1 := (hbw.cell (p := ⟨xb, xo + k * 3 + 1, none⟩) hxb).trans x1; have y2 := (hbw.cell (p := ⟨xb, xo + k * 3 + 2, none⟩) hxb).trans x2
      go_wp2_with fail
      refine (HC.out _).mono ?_; rintro e w1 ⟨rfl, hb1⟩; have hs1 := hs.below hb1; have hv1 := hv.below hb1; have hbw1 := hbw.trans (hb1.mono hs0); have hz1 := hbw1.size; clear y0 y1 y2 hs hv; dsimp only [vVal]
      go_wp2_with (at_builtin; go_must (refine wpList_appLit' w hbw1 rfl (.tmp 20) (.tmp 26) 37 rfl 23 (.agg #[.int .i64 0, .string ⟨#[]⟩, .int .i64 0]) 3 32 Tryd.underlying37 Tryd.infoZV rfl (by decide) (by decide) u3 k (vgs Y) rfl hs1 1 1 [.int .i64 x.k, .string ct, .int .i64 x.n] 23 rfl rfl (by simp [Value.oneCell']) (by omega) ?_); intro v2 w2 hs2 hg2 hbw2; have y0 := (hbw2.cell (p := ⟨xb, xo + k * 3, none⟩) hxb).trans x0; have y1 := (hbw2.cell (p := ⟨xb, xo + k * 3 + 1, none⟩) hxb).trans x1; have y2 := (hbw2.cell (p := ⟨xb, xo + k * 3 + 2, none⟩) hxb).trans x2)
      have hv2 := World.ownsRow.kept hv1 hg2 (hv1.unlike hs1 (by decide)); have hz2 := hbw2.size; clear hs1 hv1 hg2 hb1; refine (HC.out _).mono ?_; rintro e w3 ⟨rfl, hb3⟩; have hs3 := hs2.below (hb3.mono (Nat.le_refl _)); have hv3 := hv2.below hb3; have hbw3 := hbw2.trans (hb3.mono hz2); have hz3 := hbw3.size; clear y0 y1 y2 hs2 hv2; dsimp only [vVal]
      go_wp2_with (at_builtin; go_must (refine wpList_appLit' w hbw3 rfl (.tmp 28) (.tmp 34) 38 rfl 39 (.agg #[.int .i64 0, .string ⟨#[]⟩, .int .i64 0]) 3 32 Tryd.underlying38 Tryd.infoRV rfl (by decide) (by decide) u4 k (vgs Y) rfl hv3 1 1 [.int .i64 x.k, .string ct, .int .i64 x.n] 39 rfl rfl (by simp [Value.oneCell']) (by omega) ?_); intro v4 w4 hv4 hg4 hbw4)
      have hs4 := World.ownsRow.kept hs3 hg4 (hs3.unlike hv3 (by decide)); clear hs3 hv3 hg4 hb3; have hY2 : vgs Y ++ [.int .i64 x.k, .string ct, .int .i64 x.n] = vgs (Y ++ [⟨x.k, ct, x.n, k⟩]) := by simp [vgs, Vg.cells]
      rw [hY2] at hs4 hv4; clear hY2; have HY2 : Hid ((Y ++ [⟨x.k, ct, x.n, k⟩] : List Vg).length = k + 1 ∧ ∀ i, i < k + 1 → (Y ++ [⟨x.k, ct, x.n, k⟩] : List Vg)[i]!.g = i) := Lib.hid (by
        obtain ⟨h1, h2⟩ := HY.out; refine ⟨by simp [h1], fun i hi => ?_⟩; rw [getElem!_pos _ i (by simp; omega)]
        by_cases h : i < k
        · have := h2 i h; rw [getElem!_pos Y i (by omega)] at this; rw [List.getElem_append_left (by omega)]; exact this
        · obtain rfl : i = k := by omega
          rw [List.getElem_append_right (by omega)]; simp [h1])
      go_wp2; go_roundw
      case rel => exact ⟨k + 1, _, by omega, by omega, by go_num, HY2, hs4, hv4, hbw4⟩
      case measure => simp [intOf]; omega
    · have HRS : Hid (∀ i j, i < j → j < Y.length → Y[i]!.g < Y[j]!.g) := Lib.hid (fun i j hij hj => by
        obtain ⟨h1, h2⟩ := HY.out; rw [h2 i (by omega), h2 j (by omega)]; exact hij)
      have HYL : Hid (Y.length = k) := Lib.hid HY.out.1; clear HY HCUT HW HR; obtain ⟨sa, sc, rfl, hsk, hscm, hsn, hrs, -⟩ := hs.form; obtain ⟨va, vc, rfl, hvk, hvcm, hvn, hrv, -⟩ := hv.form; clear hs hv; have HRs := Lib.hid hrs; have HRv := Lib.hid hrv; have hz := hbw.size; clear hrs hrv; generalize wr = wO at *
      rcases (by omega : ¬ (k < n) ∨ (k < n ∧ ¬ k < 30)) with hc | ⟨hc, hc'⟩
      · have hc2 : ¬ (k : Int) < (n : Int) := by omega
        go_wp2
        go_loopw [6] (fun ii wr => ∃ j : Nat, 1 ≤ j ∧ ii = .int .i64 (j : Int) ∧ Below wO.heap.size wO wr) (fun ii _ => k - (intOf ii).toNat)
        case atStart => exact ⟨1, Nat.le_refl _, rfl, Below.refl _ _⟩
        case round =>
          obtain ⟨j, hj1, rfl, hbj⟩ := hrel
          by_cases hjk : j < k
          · obtain ⟨q, rfl⟩ : ∃ q, j = q + 1 := ⟨j - 1, by omega⟩; have hjk2 : (q : Int) + 1 < (k : Int) := by omega
            have hqk : (q : Int) < (k : Int) := by omega
            have hq0 : (0 : Int) ≤ (q : Int) + 1 := by omega
            have wq : IntKind.i64.wrap ((q : Int) + 1 - 1) = (q : Int) := by
              rw [show (q : Int) + 1 - 1 = (q : Int) by omega]; exact IntWalk.i64_in _ (by omega)
            have hjb := hbj.size; obtain ⟨sb, so, rfl, hsb, s0, s1, s2⟩ := (HRs.out.keep hbj).vg q (by rw [HYL.out]; omega); obtain ⟨sb', so', es, -, s3, s4, s5⟩ := (HRs.out.keep hbj).vg (q + 1) (by rw [HYL.out]; omega)
            cases es
            obtain ⟨vb, vo, rfl, hvb, v0, v1, v2⟩ := (HRv.out.keep hbj).vg q (by rw [HYL.out]; omega); obtain ⟨vb', vo', ev, -, v3, v4, v5⟩ := (HRv.out.keep hbj).vg (q + 1) (by rw [HYL.out]; omega)
            cases ev
            obtain ⟨x, hx⟩ : ∃ x, Y[q]'(by rw [HYL.out]; omega) = x := ⟨_, rfl⟩; obtain ⟨y, hy⟩ : ∃ y, Y[q + 1]'(by rw [HYL.out]; omega) = y := ⟨_, rfl⟩; rw [hx] at s0 s1 s2 v0 v1 v2; rw [hy] at s3 s4 s5 v3 v4 v5; clear hx hy; have H1 := Lib.hid (HVL.out x.v y.v); have H2 := Lib.hid (HRL.out x.v y.v); generalize lessV x.v y.v = LV at *
            go_wp2_with fail
            refine wp_region_sched 21 [0, 1, 2, 3, 4, 5, 6, 7, 8, 10, 11, 12, 13, 14, 15, 16, 17, 18, 20] (fun V => Below wr.heap.size wr V) rfl (by kernel_rfl) (by kernel_rfl) ?_; have hb_0 : Below wr.heap.size wr wr.drew := (Below.refl _ _).drew; generalize wr.drew = W0 at *
            (refine sched_light 0 _ ?_ (by kernel_rfl) (by kernel_rfl) rfl rfl ?_ hb_0 ?_; rotate_left; · (intro w' hS; (try dsimp only at hS); go_simp; with_reducible rfl)); try simp only [Act.put, List.getElem_toArray, List.getElem_cons_succ, List.getElem_cons_zero, List.setIfInBounds_toArray, List.set_cons_zero, List.set_cons_succ]
            (refine sched_light 1 _ ?_ (by kernel_rfl) (by kernel_rfl) rfl rfl ?_ hb_0 ?_; rotate_left; · (intro w' hS; (try dsimp only at hS); go_simp; with_reducible rfl)); try simp only [Act.put, List.getElem_toArray, List.getElem_cons_succ, List.getElem_cons_zero, List.setIfInBounds_toArray, List.set_cons_zero, List.set_cons_succ]
            refine sched_light 2 _ (.int .i64 (q : Int)) (by kernel_rfl) (by kernel_rfl) rfl rfl ?_ hb_0 ?_
            · intro w' hS; go_simp
              try exact IntWalk.i64_in _ (by omega)
            try simp only [Act.put, List.getElem_toArray, List.getElem_cons_succ, List.getElem_cons_zero, List.setIfInBounds_toArray, List.set_cons_zero, List.set_cons_succ]
            (refine sched_light 3 _ ?_ (by kernel_rfl) (by kernel_rfl) rfl rfl ?_ hb_0 ?_; rotate_left; · (intro w' hS; (try dsimp only at hS); go_simp; with_reducible rfl)); try simp only [Act.put, List.getElem_toArray, List.getElem_cons_succ, List.getElem_cons_zero, List.setIfInBounds_toArray, List.set_cons_zero, List.set_cons_succ]
            refine sched_light 4 _ (.agg #[.int .i64 x.k, .string x.t, .int .i64 x.n]) (by kernel_rfl) (by kernel_rfl) rfl rfl ?_ hb_0 ?_
            · intro w' hS; have c0 := (hS.cell (p := ⟨sb, so + q * 3, none⟩) hsb).trans s0; have c1 := (hS.cell (p := ⟨sb, so + q * 3 + 1, none⟩) hsb).trans s1; have c2 := (hS.cell (p := ⟨sb, so + q * 3 + 2, none⟩) hsb).trans s2; go_simp
            try simp only [Act.put, List.getElem_toArray, List.getElem_cons_succ, List.getElem_cons_zero, List.setIfInBounds_toArray, List.set_cons_zero, List.set_cons_succ]
            (refine sched_light 5 _ ?_ (by kernel_rfl) (by kernel_rfl) rfl rfl ?_ hb_0 ?_; rotate_left; · (intro w' hS; (try dsimp only at hS); go_simp; with_reducible rfl)); try simp only [Act.put, List.getElem_toArray, List.getElem_cons_succ, List.getElem_cons_zero, List.setIfInBounds_toArray, List.set_cons_zero, List.set_cons_succ]
            (refine sched_light 6 _ ?_ (by kernel_rfl) (by kernel_rfl) rfl rfl ?_ hb_0 ?_; rotate_left; · (intro w' hS; (try dsimp only at hS); go_simp; with_reducible rfl)); try simp only [Act.put, List.getElem_toArray, List.getElem_cons_succ, List.getElem_cons_zero, List.setIfInBounds_toArray, List.set_cons_zero, List.set_cons_succ]
            (refine sched_light 7 _ ?_ (by kernel_rfl) (by kernel_rfl) rfl rfl ?_ hb_0 ?_; rotate_left; · (intro w' hS; (try dsimp only at hS); go_simp; with_reducible rfl)); try simp only [Act.put, List.getElem_toArray, List.getElem_cons_succ, List.getElem_cons_zero, List.setIfInBounds_toArray, List.set_cons_zero, List.set_cons_succ]
            refine sched_light 8 _ (.agg #[.int .i64 y.k, .string y.t, .int .i64 y.n]) (by kernel_rfl) (by kernel_rfl) rfl rfl ?_ hb_0 ?_
            · intro w' hS; have c0 := (hS.cell (p := ⟨sb, so + (q + 1) * 3, none⟩) hsb).trans s3; have c1 := (hS.cell (p := ⟨sb, so + (q + 1) * 3 + 1, none⟩) hsb).trans s4; have c2 := (hS.cell (p := ⟨sb, so + (q + 1) * 3 + 2, none⟩) hsb).trans s5; go_simp
            try simp only [Act.put, List.getElem_toArray, List.getElem_cons_succ, List.getElem_cons_zero, List.setIfInBounds_toArray, List.set_cons_zero, List.set_cons_succ]
            (refine sched_light 10 _ ?_ (by kernel_rfl) (by kernel_rfl) rfl rfl ?_ hb_0 ?_; rotate_left; · (intro w' hS; (try dsimp only at hS); go_simp; with_reducible rfl)); try simp only [Act.put, List.getElem_toArray, List.getElem_cons_succ, List.getElem_cons_zero, List.setIfInBounds_toArray, List.set_cons_zero, List.set_cons_succ]
            (refine sched_light 11 _ ?_ (by kernel_rfl) (by kernel_rfl) rfl rfl ?_ hb_0 ?_; rotate_left; · (intro w' hS; (try dsimp only at hS); go_simp; with_reducible rfl)); try simp only [Act.put, List.getElem_toArray, List.getElem_cons_succ, List.getElem_cons_zero, List.setIfInBounds_toArray, List.set_cons_zero, List.set_cons_succ]
            refine sched_light 12 _ (.int .i64 (q : Int)) (by kernel_rfl) (by kernel_rfl) rfl rfl ?_ hb_0 ?_
            · intro w' hS; go_simp
              try exact IntWalk.i64_in _ (by omega)
            try simp only [Act.put, List.getElem_toArray, List.getElem_cons_succ, List.getElem_cons_zero, List.setIfInBounds_toArray, List.set_cons_zero, List.set_cons_succ]
            (refine sched_light 13 _ ?_ (by kernel_rfl) (by kernel_rfl) rfl rfl ?_ hb_0 ?_; rotate_left; · (intro w' hS; (try dsimp only at hS); go_simp; with_reducible rfl)); try simp only [Act.put, List.getElem_toArray, List.getElem_cons_succ, List.getElem_cons_zero, List.setIfInBounds_toArray, List.set_cons_zero, List.set_cons_succ]
            refine sched_light 14 _ (.agg #[.int .i64 x.k, .string x.t, .int .i64 x.n]) (by kernel_rfl) (by kernel_rfl) rfl rfl ?_ hb_0 ?_
            · intro w' hS; have c0 := (hS.cell (p := ⟨vb, vo + q * 3, none⟩) hvb).trans v0; have c1 := (hS.cell (p := ⟨vb, vo + q * 3 + 1, none⟩) hvb).trans v1; have c2 := (hS.cell (p := ⟨vb, vo + q * 3 + 2, none⟩) hvb).trans v2; go_simp
            try simp only [Act.put, List.getElem_toArray, List.getElem_cons_succ, List.getElem_cons_zero, List.setIfInBounds_toArray, List.set_cons_zero, List.set_cons_succ]
            (refine sched_light 15 _ ?_ (by kernel_rfl) (by kernel_rfl) rfl rfl ?_ hb_0 ?_; rotate_left; · (intro w' hS; (try dsimp only at hS); go_simp; with_reducible rfl)); try simp only [Act.put, List.getElem_toArray, List.getElem_cons_succ, List.getElem_cons_zero, List.setIfInBounds_toArray, List.set_cons_zero, List.set_cons_succ]
            (refine sched_light 16 _ ?_ (by kernel_rfl) (by kernel_rfl) rfl rfl ?_ hb_0 ?_; rotate_left; · (intro w' hS; (try dsimp only at hS); go_simp; with_reducible rfl)); try simp only [Act.put, List.getElem_toArray, List.getElem_cons_succ, List.getElem_cons_zero, List.setIfInBounds_toArray, List.set_cons_zero, List.set_cons_succ]
            (refine sched_light 17 _ ?_ (by kernel_rfl) (by kernel_rfl) rfl rfl ?_ hb_0 ?_; rotate_left; · (intro w' hS; (try dsimp only at hS); go_simp; with_reducible rfl)); try simp only [Act.put, List.getElem_toArray, List.getElem_cons_succ, List.getElem_cons_zero, List.setIfInBounds_toArray, List.set_cons_zero, List.set_cons_succ]
            refine sched_light 18 _ (.agg #[.int .i64 y.k, .string y.t, .int .i64 y.n]) (by kernel_rfl) (by kernel_rfl) rfl rfl ?_ hb_0 ?_
            · intro w' hS; have c0 := (hS.cell (p := ⟨vb, vo + (q + 1) * 3, none⟩) hvb).trans v3; have c1 := (hS.cell (p := ⟨vb, vo + (q + 1) * 3 + 1, none⟩) hvb).trans v4; have c2 := (hS.cell (p := ⟨vb, vo + (q + 1) * 3 + 2, none⟩) hvb).trans v5; go_simp
            try simp only [Act.put, List.getElem_toArray, List.getElem_cons_succ, List.getElem_cons_zero, List.setIfInBounds_toArray, List.set_cons_zero, List.set_cons_succ]
            clear s0 s1 s2 s3 s4 s5 v0 v1 v2 v3 v4 v5; refine sched_fork [9] (by kernel_rfl) (by kernel_rfl) (by decide) ?_; intro i hi; simp only [List.mem_cons, List.not_mem_nil, or_false] at hi; subst hi; refine sched_heavy 9 _ rfl rfl (fun K hK => ?_); go_step; refine (H1.out _).mono ?_; rintro e W1 ⟨rfl, hb1⟩; have hb_1 : Below wr.heap.size wr W1 := hb_0.trans (hb1.mono hb_0.size); refine hK.out _ _ hb_1 ?_; clear hK K hb1
            try simp only [Act.put, List.getElem_toArray, List.getElem_cons_succ, List.getElem_cons_zero, List.setIfInBounds_toArray, List.set_cons_zero, List.set_cons_succ]
            refine sched_fork [19] (by kernel_rfl) (by kernel_rfl) (by decide) ?_; intro i hi; simp only [List.mem_cons, List.not_mem_nil, or_false] at hi; subst hi; refine sched_heavy 19 _ rfl rfl (fun K hK => ?_); go_step; refine (H2.out _).mono ?_; rintro e W2 ⟨rfl, hb2⟩; have hb_2 : Below wr.heap.size wr W2 := hb_1.trans (hb2.mono hb_1.size); refine hK.out _ _ hb_2 ?_; clear hK K hb2
            try simp only [Act.put, List.getElem_toArray, List.getElem_cons_succ, List.getElem_cons_zero, List.setIfInBounds_toArray, List.set_cons_zero, List.set_cons_succ]
            refine sched_light 20 _ (.bool false) (by kernel_rfl) (by kernel_rfl) rfl rfl ?_ hb_2 ?_
            · intro w' hS; go_simp
              try simp
            try simp only [Act.put, List.getElem_toArray, List.getElem_cons_succ, List.getElem_cons_zero, List.setIfInBounds_toArray, List.set_cons_zero, List.set_cons_succ]
            have hbn := hbj.trans (hb_2.mono hbj.size); refine sched_end (by kernel_rfl) ?_; go_wp2; go_roundw
            case rel => exact ⟨q + 1 + 1, by omega, by go_num, hbn⟩
            case measure => simp [intOf]; omega
          · have hjk2 : ¬ (j : Int) < (k : Int) := by omega
            have HSV := Lib.hid (fun W hr => vsort_any sa sc Y (by rw [HYL.out]; omega) HRS.out W hr hsn); have HSR := Lib.hid (fun W hr => rsort_any va vc Y (by rw [HYL.out]; omega) HRS.out W hr); rw [HYL.out] at HSV HSR; have hrs := HRs.out.keep hbj; have hrv := HRv.out.keep hbj; have hbw2 := hbw.trans (hbj.mono hz); have hz2 := hbw2.size; clear HRs HRv hbj hbw
            go_wp2_with fail
            refine (HSV.out _ hrs).mono ?_; rintro e w5 ⟨⟨v5, rfl, l1, hp1, hs1, ho5⟩, hb5⟩; have hrv := hrv.keep hb5; have hbw5 := hbw2.trans (hb5.mono hz2); have hz5 := hbw5.size; clear hrs HSV
            go_wp2_with fail
            refine (HSR.out _ hrv).mono ?_; rintro e w6 ⟨⟨v6, rfl, l2, hp2, hs2, ho6⟩, hb6⟩; have heq := ordered_eq HRS.out hp1 hp2 (sr_pairwise.1 hs1) hs2; subst heq; have HLL : Hid (l1.length = k) := Lib.hid (by rw [hp1.length_eq, HYL.out]); have hbw6 := hbw5.trans (hb6.mono hz5); have hz6 := hbw6.size; obtain ⟨ma, mc, rfl, -, -, -, hm5, -⟩ := ho5.form; obtain ⟨na, nc, rfl, -, -, -, hm6, -⟩ := ho6.form; have HM := Lib.hid (hm5.keep hb6); have HO := Lib.hid hm6; clear hp1 hp2 hs1 hs2 hrv HSR ho5 ho6 hm5 hm6 HRS HYL hb5 hb6; go_wp2
            go_loopw [9] (fun ii wr => ∃ t m : Nat, t ≤ k ∧ ii = .int .i64 (t : Int) ∧ wr = w6.drewN m) (fun ii _ => k - (intOf ii).toNat)
            case atStart => exact ⟨0, 0, Nat.zero_le _, rfl, rfl⟩
            case round =>
              obtain ⟨t, m, ht, rfl, rfl⟩ := hrel
              by_cases htk : t < k
              · have htk2 : (t : Int) < (k : Int) := by omega
                obtain ⟨sb, so, rfl, hsb, s0, s1, s2⟩ := HM.out.vg t (by rw [HLL.out]; exact htk); obtain ⟨vb, vo, rfl, hvb, v0, v1, v2⟩ := HO.out.vg t (by rw [HLL.out]; exact htk); obtain ⟨x, hx⟩ : ∃ x, l1[t]'(by rw [HLL.out]; exact htk) = x := ⟨_, rfl⟩; rw [hx] at s0 s1 s2 v0 v1 v2; clear hx; go_wp2
                go_quiet (fail)
                go_wp2; go_roundw
                case rel => exact ⟨t + 1, m + nq, by omega, by go_num, by simp⟩
                case measure => simp [intOf]; omega
              · have htk2 : ¬ (t : Int) < (k : Int) := by omega
                have hbz := below_drewN hbw6 m; have hzz := hbz.size
                go_wp2_with fail
                refine (HKN.out _).mono ?_; rintro e w9 ⟨rfl, hb9⟩; go_wp2; go_ret; exact ⟨rfl, hbz.trans (hb9.mono hzz)⟩
      · have hc2 : (k : Int) < (n : Int) := by omega
        have hc3 : ¬ (k : Int) < 30 := by omega
        go_wp2
        go_loopw [6] (fun ii wr => ∃ j : Nat, 1 ≤ j ∧ ii = .int .i64 (j : Int) ∧ Below wO.heap.size wO wr) (fun ii _ => k - (intOf ii).toNat)
        case atStart => exact ⟨1, Nat.le_refl _, rfl, Below.refl _ _⟩
        case round =>
          obtain ⟨j, hj1, rfl, hbj⟩ := hrel
          by_cases hjk : j < k
          · obtain ⟨q, rfl⟩ : ∃ q, j = q + 1 := ⟨j - 1, by omega⟩; have hjk2 : (q : Int) + 1 < (k : Int) := by omega
            have hqk : (q : Int) < (k : Int) := by omega
            have hq0 : (0 : Int) ≤ (q : Int) + 1 := by omega
            have wq : IntKind.i64.wrap ((q : Int) + 1 - 1) = (q : Int) := by
              rw [show (q : Int) + 1 - 1 = (q : Int) by omega]; exact IntWalk.i64_in _ (by omega)
            have hjb := hbj.size; obtain ⟨sb, so, rfl, hsb, s0, s1, s2⟩ := (HRs.out.keep hbj).vg q (by rw [HYL.out]; omega); obtain ⟨sb', so', es, -, s3, s4, s5⟩ := (HRs.out.keep hbj).vg (q + 1) (by rw [HYL.out]; omega)
            cases es
            obtain ⟨vb, vo, rfl, hvb, v0, v1, v2⟩ := (HRv.out.keep hbj).vg q (by rw [HYL.out]; omega); obtain ⟨vb', vo', ev, -, v3, v4, v5⟩ := (HRv.out.keep hbj).vg (q + 1) (by rw [HYL.out]; omega)
            cases ev
            obtain ⟨x, hx⟩ : ∃ x, Y[q]'(by rw [HYL.out]; omega) = x := ⟨_, rfl⟩; obtain ⟨y, hy⟩ : ∃ y, Y[q + 1]'(by rw [HYL.out]; omega) = y := ⟨_, rfl⟩; rw [hx] at s0 s1 s2 v0 v1 v2; rw [hy] at s3 s4 s5 v3 v4 v5; clear hx hy; have H1 := Lib.hid (HVL.out x.v y.v); have H2 := Lib.hid (HRL.out x.v y.v); generalize lessV x.v y.v = LV at *
            go_wp2_with fail
            refine wp_region_sched 21 [0, 1, 2, 3, 4, 5, 6, 7, 8, 10, 11, 12, 13, 14, 15, 16, 17, 18, 20] (fun V => Below wr.heap.size wr V) rfl (by kernel_rfl) (by kernel_rfl) ?_; have hb_0 : Below wr.heap.size wr wr.drew := (Below.refl _ _).drew; generalize wr.drew = W0 at *
            (refine sched_light 0 _ ?_ (by kernel_rfl) (by kernel_rfl) rfl rfl ?_ hb_0 ?_; rotate_left; · (intro w' hS; (try dsimp only at hS); go_simp; with_reducible rfl)); try simp only [Act.put, List.getElem_toArray, List.getElem_cons_succ, List.getElem_cons_zero, List.setIfInBounds_toArray, List.set_cons_zero, List.set_cons_succ]
            (refine sched_light 1 _ ?_ (by kernel_rfl) (by kernel_rfl) rfl rfl ?_ hb_0 ?_; rotate_left; · (intro w' hS; (try dsimp only at hS); go_simp; with_reducible rfl)); try simp only [Act.put, List.getElem_toArray, List.getElem_cons_succ, List.getElem_cons_zero, List.setIfInBounds_toArray, List.set_cons_zero, List.set_cons_succ]
            refine sched_light 2 _ (.int .i64 (q : Int)) (by kernel_rfl) (by kernel_rfl) rfl rfl ?_ hb_0 ?_
            · intro w' hS; go_simp
              try exact IntWalk.i64_in _ (by omega)
            try simp only [Act.put, List.getElem_toArray, List.getElem_cons_succ, List.getElem_cons_zero, List.setIfInBounds_toArray, List.set_cons_zero, List.set_cons_succ]
            (refine sched_light 3 _ ?_ (by kernel_rfl) (by kernel_rfl) rfl rfl ?_ hb_0 ?_; rotate_left; · (intro w' hS; (try dsimp only at hS); go_simp; with_reducible rfl)); try simp only [Act.put, List.getElem_toArray, List.getElem_cons_succ, List.getElem_cons_zero, List.setIfInBounds_toArray, List.set_cons_zero, List.set_cons_succ]
            refine sched_light 4 _ (.agg #[.int .i64 x.k, .string x.t, .int .i64 x.n]) (by kernel_rfl) (by kernel_rfl) rfl rfl ?_ hb_0 ?_
            · intro w' hS; have c0 := (hS.cell (p := ⟨sb, so + q * 3, none⟩) hsb).trans s0; have c1 := (hS.cell (p := ⟨sb, so + q * 3 + 1, none⟩) hsb).trans s1; have c2 := (hS.cell (p := ⟨sb, so + q * 3 + 2, none⟩) hsb).trans s2; go_simp
            try simp only [Act.put, List.getElem_toArray, List.getElem_cons_succ, List.getElem_cons_zero, List.setIfInBounds_toArray, List.set_cons_zero, List.set_cons_succ]
            (refine sched_light 5 _ ?_ (by kernel_rfl) (by kernel_rfl) rfl rfl ?_ hb_0 ?_; rotate_left; · (intro w' hS; (try dsimp only at hS); go_simp; with_reducible rfl)); try simp only [Act.put, List.getElem_toArray, List.getElem_cons_succ, List.getElem_cons_zero, List.setIfInBounds_toArray, List.set_cons_zero, List.set_cons_succ]
            (refine sched_light 6 _ ?_ (by kernel_rfl) (by kernel_rfl) rfl rfl ?_ hb_0 ?_; rotate_left; · (intro w' hS; (try dsimp only at hS); go_simp; with_reducible rfl)); try simp only [Act.put, List.getElem_toArray, List.getElem_cons_succ, List.getElem_cons_zero, List.setIfInBounds_toArray, List.set_cons_zero, List.set_cons_succ]
            (refine sched_light 7 _ ?_ (by kernel_rfl) (by kernel_rfl) rfl rfl ?_ hb_0 ?_; rotate_left; · (intro w' hS; (try dsimp only at hS); go_simp; with_reducible rfl)); try simp only [Act.put, List.getElem_toArray, List.getElem_cons_succ, List.getElem_cons_zero, List.setIfInBounds_toArray, List.set_cons_zero, List.set_cons_succ]
            refine sched_light 8 _ (.agg #[.int .i64 y.k, .string y.t, .int .i64 y.n]) (by kernel_rfl) (by kernel_rfl) rfl rfl ?_ hb_0 ?_
            · intro w' hS; have c0 := (hS.cell (p := ⟨sb, so + (q + 1) * 3, none⟩) hsb).trans s3; have c1 := (hS.cell (p := ⟨sb, so + (q + 1) * 3 + 1, none⟩) hsb).trans s4; have c2 := (hS.cell (p := ⟨sb, so + (q + 1) * 3 + 2, none⟩) hsb).trans s5; go_simp
            try simp only [Act.put, List.getElem_toArray, List.getElem_cons_succ, List.getElem_cons_zero, List.setIfInBounds_toArray, List.set_cons_zero, List.set_cons_succ]
            (refine sched_light 10 _ ?_ (by kernel_rfl) (by kernel_rfl) rfl rfl ?_ hb_0 ?_; rotate_left; · (intro w' hS; (try dsimp only at hS); go_simp; with_reducible rfl)); try simp only [Act.put, List.getElem_toArray, List.getElem_cons_succ, List.getElem_cons_zero, List.setIfInBounds_toArray, List.set_cons_zero, List.set_cons_succ]
            (refine sched_light 11 _ ?_ (by kernel_rfl) (by kernel_rfl) rfl rfl ?_ hb_0 ?_; rotate_left; · (intro w' hS; (try dsimp only at hS); go_simp; with_reducible rfl)); try simp only [Act.put, List.getElem_toArray, List.getElem_cons_succ, List.getElem_cons_zero, List.setIfInBounds_toArray, List.set_cons_zero, List.set_cons_succ]
            refine sched_light 12 _ (.int .i64 (q : Int)) (by kernel_rfl) (by kernel_rfl) rfl rfl ?_ hb_0 ?_
            · intro w' hS; go_simp
              try exact IntWalk.i64_in _ (by omega)
            try simp only [Act.put, List.getElem_toArray, List.getElem_cons_succ, List.getElem_cons_zero, List.setIfInBounds_toArray, List.set_cons_zero, List.set_cons_succ]
            (refine sched_light 13 _ ?_ (by kernel_rfl) (by kernel_rfl) rfl rfl ?_ hb_0 ?_; rotate_left; · (intro w' hS; (try dsimp only at hS); go_simp; with_reducible rfl)); try simp only [Act.put, List.getElem_toArray, List.getElem_cons_succ, List.getElem_cons_zero, List.setIfInBounds_toArray, List.set_cons_zero, List.set_cons_succ]
            refine sched_light 14 _ (.agg #[.int .i64 x.k, .string x.t, .int .i64 x.n]) (by kernel_rfl) (by kernel_rfl) rfl rfl ?_ hb_0 ?_
            · intro w' hS; have c0 := (hS.cell (p := ⟨vb, vo + q * 3, none⟩) hvb).trans v0; have c1 := (hS.cell (p := ⟨vb, vo + q * 3 + 1, none⟩) hvb).trans v1; have c2 := (hS.cell (p := ⟨vb, vo + q * 3 + 2, none⟩) hvb).trans v2; go_simp
            try simp only [Act.put, List.getElem_toArray, List.getElem_cons_succ, List.getElem_cons_zero, List.setIfInBounds_toArray, List.set_cons_zero, List.set_cons_succ]
            (refine sched_light 15 _ ?_ (by kernel_rfl) (by kernel_rfl) rfl rfl ?_ hb_0 ?_; rotate_left; · (intro w' hS; (try dsimp only at hS); go_simp; with_reducible rfl)); try simp only [Act.put, List.getElem_toArray, List.getElem_cons_succ, List.getElem_cons_zero, List.setIfInBounds_toArray, List.set_cons_zero, List.set_cons_succ]
            (refine sched_light 16 _ ?_ (by kernel_rfl) (by kernel_rfl) rfl rfl ?_ hb_0 ?_; rotate_left; · (intro w' hS; (try dsimp only at hS); go_simp; with_reducible rfl)); try simp only [Act.put, List.getElem_toArray, List.getElem_cons_succ, List.getElem_cons_zero, List.setIfInBounds_toArray, List.set_cons_zero, List.set_cons_succ]
            (refine sched_light 17 _ ?_ (by kernel_rfl) (by kernel_rfl) rfl rfl ?_ hb_0 ?_; rotate_left; · (intro w' hS; (try dsimp only at hS); go_simp; with_reducible rfl)); try simp only [Act.put, List.getElem_toArray, List.getElem_cons_succ, List.getElem_cons_zero, List.setIfInBounds_toArray, List.set_cons_zero, List.set_cons_succ]
            refine sched_light 18 _ (.agg #[.int .i64 y.k, .string y.t, .int .i64 y.n]) (by kernel_rfl) (by kernel_rfl) rfl rfl ?_ hb_0 ?_
            · intro w' hS; have c0 := (hS.cell (p := ⟨vb, vo + (q + 1) * 3, none⟩) hvb).trans v3; have c1 := (hS.cell (p := ⟨vb, vo + (q + 1) * 3 + 1, none⟩) hvb).trans v4; have c2 := (hS.cell (p := ⟨vb, vo + (q + 1) * 3 + 2, none⟩) hvb).trans v5; go_simp
            try simp only [Act.put, List.getElem_toArray, List.getElem_cons_succ, List.getElem_cons_zero, List.setIfInBounds_toArray, List.set_cons_zero, List.set_cons_succ]
            clear s0 s1 s2 s3 s4 s5 v0 v1 v2 v3 v4 v5; refine sched_fork [9] (by kernel_rfl) (by kernel_rfl) (by decide) ?_; intro i hi; simp only [List.mem_cons, List.not_mem_nil, or_false] at hi; subst hi; refine sched_heavy 9 _ rfl rfl (fun K hK => ?_); go_step; refine (H1.out _).mono ?_; rintro e W1 ⟨rfl, hb1⟩; have hb_1 : Below wr.heap.size wr W1 := hb_0.trans (hb1.mono hb_0.size); refine hK.out _ _ hb_1 ?_; clear hK K hb1
            try simp only [Act.put, List.getElem_toArray, List.getElem_cons_succ, List.getElem_cons_zero, List.setIfInBounds_toArray, List.set_cons_zero, List.set_cons_succ]
            refine sched_fork [19] (by kernel_rfl) (by kernel_rfl) (by decide) ?_; intro i hi; simp only [List.mem_cons, List.not_mem_nil, or_false] at hi; subst hi; refine sched_heavy 19 _ rfl rfl (fun K hK => ?_); go_step; refine (H2.out _).mono ?_; rintro e W2 ⟨rfl, hb2⟩; have hb_2 : Below wr.heap.size wr W2 := hb_1.trans (hb2.mono hb_1.size); refine hK.out _ _ hb_2 ?_; clear hK K hb2
            try simp only [Act.put, List.getElem_toArray, List.getElem_cons_succ, List.getElem_cons_zero, List.setIfInBounds_toArray, List.set_cons_zero, List.set_cons_succ]
            refine sched_light 20 _ (.bool false) (by kernel_rfl) (by kernel_rfl) rfl rfl ?_ hb_2 ?_
            · intro w' hS; go_simp
              try simp
            try simp only [Act.put, List.getElem_toArray, List.getElem_cons_succ, List.getElem_cons_zero, List.setIfInBounds_toArray, List.set_cons_zero, List.set_cons_succ]
            have hbn := hbj.trans (hb_2.mono hbj.size); refine sched_end (by kernel_rfl) ?_; go_wp2; go_roundw
            case rel => exact ⟨q + 1 + 1, by omega, by go_num, hbn⟩
            case measure => simp [intOf]; omega
          · have hjk2 : ¬ (j : Int) < (k : Int) := by omega
            have HSV := Lib.hid (fun W hr => vsort_any sa sc Y (by rw [HYL.out]; omega) HRS.out W hr hsn); have HSR := Lib.hid (fun W hr => rsort_any va vc Y (by rw [HYL.out]; omega) HRS.out W hr); rw [HYL.out] at HSV HSR; have hrs := HRs.out.keep hbj; have hrv := HRv.out.keep hbj; have hbw2 := hbw.trans (hbj.mono hz); have hz2 := hbw2.size; clear HRs HRv hbj hbw
            go_wp2_with fail
            refine (HSV.out _ hrs).mono ?_; rintro e w5 ⟨⟨v5, rfl, l1, hp1, hs1, ho5⟩, hb5⟩; have hrv := hrv.keep hb5; have hbw5 := hbw2.trans (hb5.mono hz2); have hz5 := hbw5.size; clear hrs HSV
            go_wp2_with fail
            refine (HSR.out _ hrv).mono ?_; rintro e w6 ⟨⟨v6, rfl, l2, hp2, hs2, ho6⟩, hb6⟩; have heq := ordered_eq HRS.out hp1 hp2 (sr_pairwise.1 hs1) hs2; subst heq; have HLL : Hid (l1.length = k) := Lib.hid (by rw [hp1.length_eq, HYL.out]); have hbw6 := hbw5.trans (hb6.mono hz5); have hz6 := hbw6.size; obtain ⟨ma, mc, rfl, -, -, -, hm5, -⟩ := ho5.form; obtain ⟨na, nc, rfl, -, -, -, hm6, -⟩ := ho6.form; have HM := Lib.hid (hm5.keep hb6); have HO := Lib.hid hm6; clear hp1 hp2 hs1 hs2 hrv HSR ho5 ho6 hm5 hm6 HRS HYL hb5 hb6; go_wp2
            go_loopw [9] (fun ii wr => ∃ t m : Nat, t ≤ k ∧ ii = .int .i64 (t : Int) ∧ wr = w6.drewN m) (fun ii _ => k - (intOf ii).toNat)
            case atStart => exact ⟨0, 0, Nat.zero_le _, rfl, rfl⟩
            case round =>
              obtain ⟨t, m, ht, rfl, rfl⟩ := hrel
              by_cases htk : t < k
              · have htk2 : (t : Int) < (k : Int) := by omega
                obtain ⟨sb, so, rfl, hsb, s0, s1, s2⟩ := HM.out.vg t (by rw [HLL.out]; exact htk); obtain ⟨vb, vo, rfl, hvb, v0, v1, v2⟩ := HO.out.vg t (by rw [HLL.out]; exact htk); obtain ⟨x, hx⟩ : ∃ x, l1[t]'(by rw [HLL.out]; exact htk) = x := ⟨_, rfl⟩; rw [hx] at s0 s1 s2 v0 v1 v2; clear hx; go_wp2
                go_quiet (fail)
                go_wp2; go_roundw
                case rel => exact ⟨t + 1, m + nq, by omega, by go_num, by simp⟩
                case measure => simp [intOf]; omega
              · have htk2 : ¬ (t : Int) < (k : Int) := by omega
                have hbz := below_drewN hbw6 m; have hzz := hbz.size
                go_wp2_with fail
                refine (HKN.out _).mono ?_; rintro e w9 ⟨rfl, hb9⟩; go_wp2; go_ret; exact ⟨rfl, hbz.trans (hb9.mono hzz)⟩
end Go.Proofs.YtinogphhbbaobaaDoor

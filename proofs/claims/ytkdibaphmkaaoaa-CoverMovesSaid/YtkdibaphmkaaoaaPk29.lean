/-
  ring.Moved, ring.Scaled. graticulelaw12.Few, once more: what it makes lies in blocks of its own.
-/
import Derived.Test.YtkdibaphmkaaoaaPk28
import Derived.Test.YtkdibaphmkaaoaaPk25
import Derived.Test.YtkdibaphmkaaoaaPk26
/- ring.Moved, ring.Scaled. -/
set_option linter.unusedVariables false
set_option linter.unusedSimpArgs false
set_option maxRecDepth 100000
namespace Go
open Go.RowKit
theorem pts_putE (R : List Pt) (i : Nat) (hi : i < R.length) (p : Pt) :
    ((pts R).set (i * 2) (.int .i64 p.x)).set (i * 2 + 1) (.int .i64 p.y) = pts (R.set i p) := by
  have hR : R = R.take i ++ R[i] :: R.drop (i + 1) := by rw [← List.drop_eq_getElem_cons hi, List.take_append_drop]
  have hS : R.set i p = (R.take i ++ [p]) ++ R.drop (i + 1) := by
    rw [List.set_eq_take_append_cons_drop, if_pos hi]; simp
  rw [hS]
  have := row_set (R.take i) (R.drop (i + 1)) R[i] p [] i (by simp; omega)
  rw [← hR, List.append_nil, List.append_nil] at this
  exact this
/-- The first k of a ring's points, changed. -/
def mapTo (φ : Pt → Pt) (L : List Pt) (k : Nat) : List Pt := (L.take k).map φ ++ L.drop k
theorem mapTo_len (φ : Pt → Pt) (L : List Pt) (k : Nat) : (mapTo φ L k).length = L.length := by
  unfold mapTo; simp; omega
theorem mapTo_step (φ : Pt → Pt) (L : List Pt) (k : Nat) (hk : k < L.length) : (mapTo φ L k).set k (φ L[k]) = mapTo φ L (k + 1) := by
  unfold mapTo
  rw [List.take_succ_eq_append_getElem hk, List.drop_eq_getElem_cons hk, List.map_append, List.map_singleton, List.set_append_right _ _ (by simp; omega)]
  simp [Nat.min_eq_left (Nat.le_of_lt hk)]
  rw [List.drop_eq_getElem_cons hk]; rfl
theorem mapTo_all (φ : Pt → Pt) (L : List Pt) : mapTo φ L L.length = L.map φ := by
  unfold mapTo; simp
end Go
namespace Go.Proofs.Ytkdibaphmkaaoaa
open Go.RowKit
set_option maxHeartbeats 1600000 in
theorem moved1_any (x y vx vy : Int) (Bc : Nat) (hx : IntKind.i64.wrap (x + vx) = x + vx) (hy : IntKind.i64.wrap (y + vy) = y + vy) (w : World) (hb : Blk w Bc [.int .i64 vx, .int .i64 vy]) :
    Calls Try.prog 48 #[.agg #[.int .i64 x, .int .i64 y], .pointer (some ⟨Bc, 0, none⟩)] w fun e w' => e = .returned (.agg #[.int .i64 (x + vx), .int .i64 (y + vy)]) ∧ Below w.heap.size w w' := by
  have k0 := (Blk.new w [.int .i64 x, .int .i64 y] 46).alloc (.cells #[.int .i64 0, .int .i64 0] 46)
  have k1 := Blk.lit (w.alloc (.cells #[.int .i64 x, .int .i64 y] 46)) (w.heap.size + 1) [.int .i64 0, .int .i64 0] 46 (by simp)
  have kb := (hb.alloc (.cells #[.int .i64 x, .int .i64 y] 46)).alloc (.cells #[.int .i64 0, .int .i64 0] 46)
  have hlt := hb.lt
  have hbl := ((Below.refl w.heap.size w).alloc (Nat.le_refl _) (.cells #[.int .i64 x, .int .i64 y] 46)).alloc (by simp) (.cells #[.int .i64 0, .int .i64 0] 46)
  have q0 := k0.cell 0 rfl
  have q1 := k0.cell 1 rfl
  have q2 := kb.cell 0 rfl
  have q3 := kb.cell 1 rfl
  have q4 := k1.cell 0 rfl
  have q5 := k1.cell 1 rfl
  have q6 := k1.free 0
  have q7 := k1.free 1
  have hbz := ((Below.refl w.heap.size w).alloc (Nat.le_refl _) (.cells #[.int .i64 x, .int .i64 y] 46)).alloc (by simp) (.cells #[.int .i64 (x + vx), .int .i64 (y + vy)] 46)
  have kz := Blk.lit (w.alloc (.cells #[.int .i64 x, .int .i64 y] 46)) (w.heap.size + 1) [.int .i64 (x + vx), .int .i64 (y + vy)] 46 (by simp)
  have z0 := kz.cell 0 (v := .int .i64 (x + vx)) rfl
  have z1 := kz.cell 1 (v := .int .i64 (y + vy)) rfl
  go_enter Try.func48, Try.ntmps48
  go_wp2
  refine bodyPost_ret (v := .agg #[.int .i64 (x + vx), .int .i64 (y + vy)]) ?_ rfl ⟨rfl, hbz⟩
  simp [results, Try.results48, go_sem, z0, z1]
set_option maxHeartbeats 1600000 in
theorem scaled1_any (x y k : Int) (Bc : Nat) (hx : IntKind.i64.wrap (k * x) = k * x) (hy : IntKind.i64.wrap (k * y) = k * y) (w : World) (hb : Blk w Bc [.int .i64 k]) :
    Calls Try.prog 49 #[.agg #[.int .i64 x, .int .i64 y], .pointer (some ⟨Bc, 0, none⟩)] w fun e w' => e = .returned (.agg #[.int .i64 (k * x), .int .i64 (k * y)]) ∧ Below w.heap.size w w' := by
  obtain ⟨X, hX⟩ : ∃ X, k * x = X := ⟨_, rfl⟩
  obtain ⟨Y, hY⟩ : ∃ Y, k * y = Y := ⟨_, rfl⟩
  replace hx := hx.trans hX
  replace hy := hy.trans hY
  rw [hX, hY]
  clear hX hY
  have k0 := (Blk.new w [.int .i64 x, .int .i64 y] 46).alloc (.cells #[.int .i64 0, .int .i64 0] 46)
  have k1 := Blk.lit (w.alloc (.cells #[.int .i64 x, .int .i64 y] 46)) (w.heap.size + 1) [.int .i64 0, .int .i64 0] 46 (by simp)
  have kb := (hb.alloc (.cells #[.int .i64 x, .int .i64 y] 46)).alloc (.cells #[.int .i64 0, .int .i64 0] 46)
  have hlt := hb.lt
  have hbl := ((Below.refl w.heap.size w).alloc (Nat.le_refl _) (.cells #[.int .i64 x, .int .i64 y] 46)).alloc (by simp) (.cells #[.int .i64 0, .int .i64 0] 46)
  have q0 := k0.cell 0 rfl
  have q1 := k0.cell 1 rfl
  have q2 := kb.cell 0 rfl
  have q4 := k1.cell 0 rfl
  have q5 := k1.cell 1 rfl
  have q6 := k1.free 0
  have q7 := k1.free 1
  have hbz := ((Below.refl w.heap.size w).alloc (Nat.le_refl _) (.cells #[.int .i64 x, .int .i64 y] 46)).alloc (by simp) (.cells #[.int .i64 X, .int .i64 Y] 46)
  have kz := Blk.lit (w.alloc (.cells #[.int .i64 x, .int .i64 y] 46)) (w.heap.size + 1) [.int .i64 X, .int .i64 Y] 46 (by simp)
  have z0 := kz.cell 0 (v := .int .i64 X) rfl
  have z1 := kz.cell 1 (v := .int .i64 Y) rfl
  go_enter Try.func49, Try.ntmps49
  go_wp2
  refine bodyPost_ret (v := .agg #[.int .i64 X, .int .i64 Y]) ?_ rfl ⟨rfl, hbz⟩
  simp [results, Try.results49, go_sem, z0, z1]
set_option maxHeartbeats 3200000 in
theorem each_moved (φ : Pt → Pt) (cap : Value) (a : Option Addr) (c : Nat) (L : List Pt) (hlen : L.length ≤ 1000000) (hc : a = none → c = 0) (w : World) (hr : Rd w a (pts L))
    (HT : ∀ p ∈ L, ∀ W, Below w.heap.size w W → Calls Try.prog 48 #[p.val, cap] W fun e w' => e = .returned (φ p).val ∧ Below W.heap.size W w') :
    Calls Try.prog 47 #[.slice a L.length c, .func (.func 48) #[] #[cap]] w fun e w' => (∃ v, e = .returned v ∧ w'.ownsRow w.heap.size 46 2 v L.length (pts (L.map φ))) ∧ Below w.heap.size w w' := by
  have HR := Lib.hid hr
  have HTT := Lib.hid HT
  have HCL := Lib.hid (cloneP_any a c L hlen w hr hc)
  obtain ⟨N, hN⟩ : ∃ N, L.length = N := ⟨_, rfl⟩
  have HN := Lib.hid hN
  rw [hN] at HCL hlen ⊢
  clear hr HT hN hc
  go_enter Try.func47, Try.ntmps47
  go_wp2_with fail
  refine HCL.out.mono ?_
  rintro e w1 ⟨v, rfl, hO, hb1⟩
  obtain ⟨pv, pc, rfl, -, -, -, -, -⟩ := hO.form
  have HO1 : Hid (w1.ownsRow w.heap.size 46 2 (.slice pv N pc) N (pts (mapTo φ L 0))) := Lib.hid (by unfold mapTo; simpa using hO)
  clear hO HCL
  go_wp2
  go_loopw [12] (fun i wr => ∃ (k : Nat), k ≤ N ∧ i = .int .i64 k ∧ Hid (wr.ownsRow w.heap.size 46 2 (.slice pv N pc) N (pts (mapTo φ L k))) ∧ Below w.heap.size w wr) (fun i _ => N - (intOf i).toNat)
  case atStart => exact ⟨0, by omega, rfl, HO1, hb1⟩
  case round =>
    obtain ⟨k, hk, rfl, HO, hbl⟩ := hrel
    by_cases h1 : k < N
    · have h1' : (k : Int) < (N : Int) := by omega
      have hkl : k < L.length := by rw [HN.out]; exact h1
      obtain ⟨b, o, rfl, hb, c0, c1⟩ := (HR.out.keep hbl).pt k hkl
      have HCP := Lib.hid (HTT.out _ (List.getElem_mem hkl))
      have HST := Lib.hid (mapTo_step φ L k hkl)
      have hml : k < (mapTo φ L k).length := by rw [mapTo_len]; exact hkl
      generalize L[k] = p at *
      obtain ⟨px, py⟩ := p
      obtain ⟨⟨qx, qy⟩, hq⟩ : ∃ q, φ ⟨px, py⟩ = q := ⟨_, rfl⟩
      rw [hq] at HCP HST
      have HCP2 : Hid (∀ W, Below w.heap.size w W → Calls Try.prog 48 #[.agg #[.int .i64 px, .int .i64 py], cap] W fun e w' => e = .returned (.agg #[.int .i64 qx, .int .i64 qy]) ∧ Below W.heap.size W w') := HCP
      have hbA := Below.new wr (.cells #[.int .i64 px, .int .i64 py] 46)
      have hbB := hbl.trans (hbA.mono hbl.size)
      have hOA := HO.out.below hbA
      have kA := Blk.new wr [.int .i64 px, .int .i64 py] 46
      have q0 := kA.cell 0 rfl
      have q1 := kA.cell 1 rfl
      dsimp only at c0 c1
      clear hq HCP hkl kA hbA
      go_wp2_with fail
      generalize wr.alloc (.cells #[.int .i64 px, .int .i64 py] 46) = wa at *
      refine (HCP2.out wa hbB).mono ?_
      rintro e w2 ⟨rfl, hb2⟩
      have hO2 := hOA.below hb2
      have hb3 := hbB.trans (hb2.mono hbB.size)
      have hg : ∃ g, pv = some ⟨g, 0, none⟩ := by
        rcases hO2.2 with ⟨h1, h2⟩ | ⟨g, cap, cur, h1, -⟩
        · cases h1; omega
        · cases h1; exact ⟨g, rfl⟩
      obtain ⟨g, rfl⟩ := hg
      have hlen2 : (mapTo φ L k).length = N := by rw [mapTo_len, HN.out]
      have hgx : (pts (mapTo φ L k))[k * 2]? = some (.int .i64 (mapTo φ L k)[k].x) := by
        have := flatMap_get Pt.cells 2 (fun _ => rfl) (mapTo φ L k) k 0 hml (by omega)
        exact this
      have hgy : (pts (mapTo φ L k))[k * 2 + 1]? = some (.int .i64 (mapTo φ L k)[k].y) := by
        have := flatMap_get Pt.cells 2 (fun _ => rfl) (mapTo φ L k) k 1 hml (by omega)
        exact this
      obtain ⟨d0, d1, d2⟩ := ownsRow_cellS hO2 hgx
      obtain ⟨e0, e1, -⟩ := ownsRow_cellS hO2 hgy
      have hgB := hO2.lt g rfl
      have hO3 := ownsRow_setS (i := k * 2 + 1) (ownsRow_setS (i := k * 2) hO2 (.int .i64 qx)) (.int .i64 qy)
      rw [pts_putE _ _ hml ⟨qx, qy⟩, HST.out] at hO3
      have HO3 := Lib.hid hO3
      have hb4 := (hb3.setCell (p := ⟨g, k * 2, none⟩) hgB.1 (.int .i64 qx)).setCell (p := ⟨g, k * 2 + 1, none⟩) hgB.1 (.int .i64 qy)
      generalize (mapTo φ L k)[k].x = ox at *
      generalize (mapTo φ L k)[k].y = oy at *
      clear hO3 hO2 hOA hb3 hb2 hlen2 hgx hgy hml HST HO q0 q1 c0 c1
      go_wp2
      exact ⟨⟨k + 1, by omega, by go_num, HO3, hb4⟩, by simp [intOf]; omega⟩
    · have h1' : ¬ (k : Int) < (N : Int) := by omega
      obtain rfl : N = k := by omega
      have HOZ : Hid (wr.ownsRow w.heap.size 46 2 (.slice pv N pc) N (pts (L.map φ))) := Lib.hid (by
        have := HO.out
        have h2 := mapTo_all φ L
        rw [HN.out] at h2
        rw [h2] at this; exact this)
      clear HO
      go_wp2
      refine bodyPost_ret (v := .slice pv N pc) (by simp [results, Try.results47, go_sem]) rfl ⟨⟨_, rfl, HOZ.out⟩, hbl⟩
set_option maxHeartbeats 3200000 in
theorem each_scaled (φ : Pt → Pt) (cap : Value) (a : Option Addr) (c : Nat) (L : List Pt) (hlen : L.length ≤ 1000000) (hc : a = none → c = 0) (w : World) (hr : Rd w a (pts L))
    (HT : ∀ p ∈ L, ∀ W, Below w.heap.size w W → Calls Try.prog 49 #[p.val, cap] W fun e w' => e = .returned (φ p).val ∧ Below W.heap.size W w') :
    Calls Try.prog 47 #[.slice a L.length c, .func (.func 49) #[] #[cap]] w fun e w' => (∃ v, e = .returned v ∧ w'.ownsRow w.heap.size 46 2 v L.length (pts (L.map φ))) ∧ Below w.heap.size w w' := by
  have HR := Lib.hid hr
  have HTT := Lib.hid HT
  have HCL := Lib.hid (cloneP_any a c L hlen w hr hc)
  obtain ⟨N, hN⟩ : ∃ N, L.length = N := ⟨_, rfl⟩
  have HN := Lib.hid hN
  rw [hN] at HCL hlen ⊢
  clear hr HT hN hc
  go_enter Try.func47, Try.ntmps47
  go_wp2_with fail
  refine HCL.out.mono ?_
  rintro e w1 ⟨v, rfl, hO, hb1⟩
  obtain ⟨pv, pc, rfl, -, -, -, -, -⟩ := hO.form
  have HO1 : Hid (w1.ownsRow w.heap.size 46 2 (.slice pv N pc) N (pts (mapTo φ L 0))) := Lib.hid (by unfold mapTo; simpa using hO)
  clear hO HCL
  go_wp2
  go_loopw [12] (fun i wr => ∃ (k : Nat), k ≤ N ∧ i = .int .i64 k ∧ Hid (wr.ownsRow w.heap.size 46 2 (.slice pv N pc) N (pts (mapTo φ L k))) ∧ Below w.heap.size w wr) (fun i _ => N - (intOf i).toNat)
  case atStart => exact ⟨0, by omega, rfl, HO1, hb1⟩
  case round =>
    obtain ⟨k, hk, rfl, HO, hbl⟩ := hrel
    by_cases h1 : k < N
    · have h1' : (k : Int) < (N : Int) := by omega
      have hkl : k < L.length := by rw [HN.out]; exact h1
      obtain ⟨b, o, rfl, hb, c0, c1⟩ := (HR.out.keep hbl).pt k hkl
      have HCP := Lib.hid (HTT.out _ (List.getElem_mem hkl))
      have HST := Lib.hid (mapTo_step φ L k hkl)
      have hml : k < (mapTo φ L k).length := by rw [mapTo_len]; exact hkl
      generalize L[k] = p at *
      obtain ⟨px, py⟩ := p
      obtain ⟨⟨qx, qy⟩, hq⟩ : ∃ q, φ ⟨px, py⟩ = q := ⟨_, rfl⟩
      rw [hq] at HCP HST
      have HCP2 : Hid (∀ W, Below w.heap.size w W → Calls Try.prog 49 #[.agg #[.int .i64 px, .int .i64 py], cap] W fun e w' => e = .returned (.agg #[.int .i64 qx, .int .i64 qy]) ∧ Below W.heap.size W w') := HCP
      have hbA := Below.new wr (.cells #[.int .i64 px, .int .i64 py] 46)
      have hbB := hbl.trans (hbA.mono hbl.size)
      have hOA := HO.out.below hbA
      have kA := Blk.new wr [.int .i64 px, .int .i64 py] 46
      have q0 := kA.cell 0 rfl
      have q1 := kA.cell 1 rfl
      dsimp only at c0 c1
      clear hq HCP hkl kA hbA
      go_wp2_with fail
      generalize wr.alloc (.cells #[.int .i64 px, .int .i64 py] 46) = wa at *
      refine (HCP2.out wa hbB).mono ?_
      rintro e w2 ⟨rfl, hb2⟩
      have hO2 := hOA.below hb2
      have hb3 := hbB.trans (hb2.mono hbB.size)
      have hg : ∃ g, pv = some ⟨g, 0, none⟩ := by
        rcases hO2.2 with ⟨h1, h2⟩ | ⟨g, cap, cur, h1, -⟩
        · cases h1; omega
        · cases h1; exact ⟨g, rfl⟩
      obtain ⟨g, rfl⟩ := hg
      have hlen2 : (mapTo φ L k).length = N := by rw [mapTo_len, HN.out]
      have hgx : (pts (mapTo φ L k))[k * 2]? = some (.int .i64 (mapTo φ L k)[k].x) := by
        have := flatMap_get Pt.cells 2 (fun _ => rfl) (mapTo φ L k) k 0 hml (by omega)
        exact this
      have hgy : (pts (mapTo φ L k))[k * 2 + 1]? = some (.int .i64 (mapTo φ L k)[k].y) := by
        have := flatMap_get Pt.cells 2 (fun _ => rfl) (mapTo φ L k) k 1 hml (by omega)
        exact this
      obtain ⟨d0, d1, d2⟩ := ownsRow_cellS hO2 hgx
      obtain ⟨e0, e1, -⟩ := ownsRow_cellS hO2 hgy
      have hgB := hO2.lt g rfl
      have hO3 := ownsRow_setS (i := k * 2 + 1) (ownsRow_setS (i := k * 2) hO2 (.int .i64 qx)) (.int .i64 qy)
      rw [pts_putE _ _ hml ⟨qx, qy⟩, HST.out] at hO3
      have HO3 := Lib.hid hO3
      have hb4 := (hb3.setCell (p := ⟨g, k * 2, none⟩) hgB.1 (.int .i64 qx)).setCell (p := ⟨g, k * 2 + 1, none⟩) hgB.1 (.int .i64 qy)
      generalize (mapTo φ L k)[k].x = ox at *
      generalize (mapTo φ L k)[k].y = oy at *
      clear hO3 hO2 hOA hb3 hb2 hlen2 hgx hgy hml HST HO q0 q1 c0 c1
      go_wp2
      exact ⟨⟨k + 1, by omega, by go_num, HO3, hb4⟩, by simp [intOf]; omega⟩
    · have h1' : ¬ (k : Int) < (N : Int) := by omega
      obtain rfl : N = k := by omega
      have HOZ : Hid (wr.ownsRow w.heap.size 46 2 (.slice pv N pc) N (pts (L.map φ))) := Lib.hid (by
        have := HO.out
        have h2 := mapTo_all φ L
        rw [HN.out] at h2
        rw [h2] at this; exact this)
      clear HO
      go_wp2
      refine bodyPost_ret (v := .slice pv N pc) (by simp [results, Try.results47, go_sem]) rfl ⟨⟨_, rfl, HOZ.out⟩, hbl⟩
set_option maxHeartbeats 1600000 in
theorem movedR_any (v : Pt) (a : Option Addr) (c : Nat) (L : List Pt) (hlen : L.length ≤ 1000000) (hc : a = none → c = 0) (hw : ∀ p ∈ L, IntKind.i64.wrap (p.x + v.x) = p.x + v.x ∧ IntKind.i64.wrap (p.y + v.y) = p.y + v.y) (w : World) (hr : Rd w a (pts L)) :
    Calls Try.prog 21 #[.slice a L.length c, v.val] w fun e w' => (∃ u, e = .returned u ∧ w'.ownsRow w.heap.size 46 2 u L.length (pts (L.map (Pt.mv v)))) ∧ Below w.heap.size w w' := by
  obtain ⟨vx, vy⟩ := v
  dsimp only [Pt.val] at *
  have hb0 := Below.new w (.cells #[.int .i64 vx, .int .i64 vy] 46)
  have k0 := Blk.new w [.int .i64 vx, .int .i64 vy] 46
  have HE := Lib.hid (each_moved (Pt.mv ⟨vx, vy⟩) (.pointer (some ⟨w.heap.size, 0, none⟩)) a c L hlen hc (w.alloc (.cells #[.int .i64 vx, .int .i64 vy] 46)) (hr.keep hb0) (fun p hp W hW => by
    obtain ⟨px, py⟩ := p
    exact moved1_any px py vx vy w.heap.size (hw _ hp).1 (hw _ hp).2 W (k0.keep hW)))
  generalize L.length = N at *
  clear hr hw k0
  go_enter Try.func21, Try.ntmps21
  go_wp2_with fail
  refine HE.out.mono ?_
  rintro e w2 ⟨⟨u, rfl, hO⟩, hb2⟩
  have HO := Lib.hid (hO.mono hb0.size)
  have hb3 := hb0.trans (hb2.mono hb0.size)
  clear hO HE
  go_wp2
  refine bodyPost_ret (v := u) (by simp [results, Try.results21, go_sem]) rfl ⟨⟨u, rfl, HO.out⟩, hb3⟩
set_option maxHeartbeats 1600000 in
theorem scaledR_any (a : Option Addr) (c : Nat) (L : List Pt) (hlen : L.length ≤ 1000000) (hc : a = none → c = 0) (hw : ∀ p ∈ L, IntKind.i64.wrap (2 * p.x) = 2 * p.x ∧ IntKind.i64.wrap (2 * p.y) = 2 * p.y) (w : World) (hr : Rd w a (pts L)) :
    Calls Try.prog 22 #[.slice a L.length c, .int .i64 2] w fun e w' => (∃ u, e = .returned u ∧ w'.ownsRow w.heap.size 46 2 u L.length (pts (L.map Pt.two))) ∧ Below w.heap.size w w' := by
  have hb0 := Below.new w (.cells #[.int .i64 2] 3)
  have k0 := Blk.new w [.int .i64 2] 3
  have HE := Lib.hid (each_scaled Pt.two (.pointer (some ⟨w.heap.size, 0, none⟩)) a c L hlen hc (w.alloc (.cells #[.int .i64 2] 3)) (hr.keep hb0) (fun p hp W hW => by
    obtain ⟨px, py⟩ := p
    exact scaled1_any px py 2 w.heap.size (hw _ hp).1 (hw _ hp).2 W (k0.keep hW)))
  generalize L.length = N at *
  clear hr hw k0
  go_enter Try.func22, Try.ntmps22
  go_wp2_with fail
  refine HE.out.mono ?_
  rintro e w2 ⟨⟨u, rfl, hO⟩, hb2⟩
  have HO := Lib.hid (hO.mono hb0.size)
  have hb3 := hb0.trans (hb2.mono hb0.size)
  clear hO HE
  go_wp2
  refine bodyPost_ret (v := u) (by simp [results, Try.results22, go_sem]) rfl ⟨⟨u, rfl, HO.out⟩, hb3⟩
end Go.Proofs.Ytkdibaphmkaaoaa
/- graticulelaw12.Few, once more: what it makes lies in blocks of its own. -/
set_option linter.unusedVariables false
set_option linter.unusedSimpArgs false
set_option maxRecDepth 100000
namespace Go
open Go.RowKit
/-- A row's block is none of the first b. -/
def BkAt (b : Nat) (a : Option Addr) : Prop := ∀ g, a.map (·.block) = some g → b ≤ g
def FcAt (b : Nat) (f : Fc) : Prop := BkAt b f.ra ∧ (∀ r ∈ f.rs, BkAt b r.p) ∧ BkAt b f.aa
/-- What lies from block b on is as it was. -/
def KeepN (b : Nat) (A B : World) : Prop := A.heap.size ≤ B.heap.size ∧ ∀ k, b ≤ k → B.heap[k]? = A.heap[k]?
theorem owns_bk {W : World} {base : Nat} {e : TypeId} {size n c m : Nat} {a : Option Addr} {xs : List Value} (h : W.ownsRow base e size (.slice a n c) m xs) : BkAt base a := by
  obtain ⟨a', c', e, -, -, -, -, hh⟩ := h.form
  cases e
  exact fun g hg => (hh g hg).1
theorem KeepN.setCell (A : World) (b o : Nat) (v : Value) : KeepN (b + 1) A (A.setCell ⟨b, o, none⟩ v) := by
  refine ⟨?_, fun k hk => Below.heap_setCell _ ⟨b, o, none⟩ _ _ (show k ≠ b by omega)⟩
  exact ((Below.refl 0 A).setCell (p := ⟨b, o, none⟩) (Nat.zero_le _) v).size
theorem KeepN.trans {b : Nat} {A B C : World} (h : KeepN b A B) (k : KeepN b B C) : KeepN b A C :=
  ⟨Nat.le_trans h.1 k.1, fun i hi => (k.2 i hi).trans (h.2 i hi)⟩
theorem Rd.keepN {b : Nat} {A B : World} {a : Option Addr} {vs : List Value} (h : Rd A a vs) (ht : BkAt b a) (k : KeepN b A B) : Rd B a vs := by
  rcases h with h | ⟨g, off, rfl, hc⟩
  · exact .inl h
  · refine .inr ⟨g, off, rfl, fun i v hv => ?_⟩
    have := hc i v hv
    simp only [World.cell?, k.2 g (ht g rfl)]
    exact this
theorem TypB.keepN {b : Nat} {A B : World} {a : Option Addr} {T : TypeId} (ht : TypB A a T) (h : BkAt b a) (k : KeepN b A B) : TypB B a T := by
  intro g hg
  obtain ⟨cs, fr, e⟩ := ht g hg
  exact ⟨cs, fr, (k.2 g (h g hg)).trans e⟩
end Go
namespace Go.Proofs.Ytkdibaphmkaaoaa
open Go.RowKit
theorem FcT.keepN {b : Nat} {A B : World} {f : Fc} (h : FcT A f) (ht : FcAt b f) (k : KeepN b A B) : FcT B f := by
  obtain ⟨⟨h1, h2, h3⟩, t1, t2, t3⟩ := h
  obtain ⟨b1, b2, b3⟩ := ht
  exact ⟨⟨⟨h1.1.keepN b1 k, h1.2⟩, fun r hr => ⟨(h2 r hr).1.keepN (b2 r hr) k, (h2 r hr).2⟩, ⟨h3.1.keepN b3 k, h3.2⟩⟩, t1.keepN b1 k, fun r hr => ⟨⟨(t2 r hr).1.1.keepN (b2 r hr) k, (t2 r hr).1.2⟩, (t2 r hr).2.keepN (b2 r hr) k⟩, t3.keepN b3 k⟩
set_option maxHeartbeats 12800000 in
theorem fewb_any (a : Option Addr) (c : Nat) (l : List Fc) (hlc : l.length ≤ c) (hcm : c ≤ maxLen) (most : Nat) (hmo : most ≤ 1000000) (w : World) (hr : Rd w a (fcs l)) (hok : ∀ f ∈ l, f.In w) :
    Calls Try.prog 9 #[.slice a l.length c, .int .i64 (most : Int)] w fun e w' => ∃ (fs : List Fc) (v : Value), e = .returned v ∧ w'.ownsRow w.heap.size 39 2 v fs.length (fcs fs) ∧ ((∀ f ∈ fs, FcT w' f) ∧ ∀ f ∈ fs, FcAt w.heap.size f) ∧ fs.map Fc.plain = fewF most (l.map Fc.plain) ∧ Below w.heap.size w w' := by
  have HCUT := Lib.hid (fun (f : Fc) (hf : f ∈ l) (W : World) (h : Rd W f.aa (ats f.ls)) => cut11_any f.aa f.ac f.ls (hok f hf).1.2.2.2.1 (hok f hf).1.2.2.2.2.1 (hok f hf).2 W h)
  have HOK := Lib.hid hok
  have HR := Lib.hid hr
  unfold maxLen at hcm
  obtain ⟨N, hN⟩ : ∃ N, l.length = N := ⟨_, rfl⟩
  have HN := Lib.hid hN
  rw [hN] at hlc ⊢
  have HFE : Hid (fewF most (l.map Fc.plain) = (fewFs most ((l.take 10).map Fc.plain)).1) := Lib.hid (by unfold fewF; rw [List.map_take])
  generalize fewF most (l.map Fc.plain) = RES at *
  clear hr hN hok
  go_enter Try.func9, Try.ntmps9
  go_wp2
  go_loopw [5, 6, 7] (fun o p i wr => ∃ (k : Nat) (fs : List Fc) (pn : Nat), k ≤ N ∧ k ≤ 10 ∧ i = .int .i64 k ∧ p = .int .i64 pn ∧ fs.length = k ∧ Hid (fewFs most ((l.take k).map Fc.plain) = (fs.map Fc.plain, pn)) ∧ pn ≤ most ∧ wr.ownsRow w.heap.size 39 2 o k (fcs fs) ∧ Hid (∀ f ∈ fs, FcT wr f) ∧ Hid (∀ f ∈ fs, FcAt w.heap.size f) ∧ Below w.heap.size w wr) (fun _ _ i _ => 10 - (intOf i).toNat)
  case atStart => exact ⟨0, [], 0, by omega, by omega, rfl, rfl, rfl, Lib.hid rfl, by omega, World.ownsRow_nil _ _ _ _, Lib.hid (by simp), Lib.hid (by simp), Below.refl _ _⟩
  case round =>
    obtain ⟨i, fs, pn, hi, hi10, rfl, rfl, hfl, HST, hpm, ho, HFT, HFT2, hbl⟩ := hrel
    by_cases hlt : i < N ∧ i < 10
    · obtain ⟨h1, h2⟩ := hlt
      have h1' : (i : Int) < (N : Int) := by omega
      have h2' : (i : Int) < 10 := by omega
      have hil : i < l.length := by rw [HN.out]; exact h1
      obtain ⟨b1, o1, rfl, hbb, c0, c1⟩ := (HR.out.keep hbl).fc i hil
      have HIN := Lib.hid (HOK.out l[i] (List.getElem_mem hil))
      have HCT := Lib.hid (fun (W : World) (h : Rd W (l[i]'hil).aa (ats (l[i]'hil).ls)) => HCUT.out (l[i]'hil) (List.getElem_mem hil) W h)
      have HSN : Hid (fewFs most ((l.take (i + 1)).map Fc.plain) = fewStepF most (fewFs most ((l.take i).map Fc.plain)) l[i].plain) := Lib.hid (by
        rw [List.take_succ_eq_append_getElem hil, List.map_append, List.map_singleton, fewFs_snoc])
      generalize l[i] = f at *
      obtain ⟨rs, ra, rc, ls, aa, ac⟩ := f
      dsimp only [Fc.rval, Fc.aval] at c0 c1 HCT
      go_wp2_with fail
      refine (HCT.out _ (HIN.out.1.2.2.1.keep hbl)).mono ?_
      rintro e wB ⟨va, rfl, hoa, hxB⟩
      try dsimp only at hoa
      have hcu : ∀ x ∈ (ls.take 10).map cutA, AtOk x := fun x hx => by
        obtain ⟨y, -, rfl⟩ := List.mem_map.1 hx
        exact cutA_ok y
      obtain ⟨AL, hAL⟩ : ∃ A, (ls.take 10).map cutA = A := ⟨_, rfl⟩
      have HAL := Lib.hid hAL
      rw [hAL] at hoa
      obtain ⟨AN, hAN⟩ : ∃ A, AL.length = A := ⟨_, rfl⟩
      have HAN := Lib.hid hAN
      rw [hAN] at hoa
      clear hAL hAN hcu HCT
      obtain ⟨aa2, ac2, rfl, hac1, hac2, hac3, har, -⟩ := hoa.form
      have hat := TypB.of_owns hoa
      have hszA := hbl.size
      have HBA : Hid (BkAt w.heap.size aa2) := Lib.hid (fun g hg => by have := owns_bk hoa g hg; omega)
      clear hszA
      have hsr := hbl.size
      have hsB := hxB.size
      have hoB := ho.below hxB
      have HFB : Hid (∀ f ∈ fs, FcT wB f) := Lib.hid (fun f hf => (HFT.out f hf).keep hxB)
      have hblB := hbl.trans (hxB.mono hsr)
      have kF : (wB.alloc (.cells #[.slice none 0 0, .slice aa2 AN ac2] 39)).heap[wB.heap.size]? = some (.cells #[.slice none 0 0, .slice aa2 AN ac2] 39 (0, 0)) := heap_alloc_new wB _
      have hbC := Below.new wB (.cells #[.slice none 0 0, .slice aa2 AN ac2] 39)
      have cB0 := (hxB.cell (p := ⟨b1, o1 + i * 2, none⟩) hbb).trans c0
      have hbB : b1 < wB.heap.size := by omega
      have hsB' : w.heap.size ≤ wB.heap.size := hblB.size
      clear ho HFT
      obtain ⟨RN, hRN⟩ : ∃ R, rs.length = R := ⟨_, rfl⟩
      have HRN := Lib.hid hRN
      have hrc := HIN.out.1.1.2
      dsimp only at hrc
      rw [hRN] at cB0 hrc
      clear hRN
      unfold maxLen at hrc
      go_wp2
      go_loopw [6, 9] (fun p k W => ∃ (j : Nat) (q : List PC) (pm : Nat) (v : Value), j ≤ RN ∧ j ≤ 8 ∧ k = .int .i64 j ∧ p = .int .i64 pm ∧ q.length = j ∧ Hid (fewRs most pn ((rs.take j).map PC.l) = (q.map PC.l, pm)) ∧ pm ≤ most ∧ Hid (W.heap[wB.heap.size]? = some (.cells #[v, .slice aa2 AN ac2] 39 (0, 0))) ∧ W.ownsRow wB.heap.size 40 1 v j (rcs q) ∧ Hid (∀ r ∈ q, PcT W r) ∧ Hid (∀ r ∈ q, BkAt w.heap.size r.p) ∧ Below wB.heap.size wB W) (fun _ k _ => 8 - (intOf k).toNat)
      case atStart => exact ⟨0, [], pn, .slice none 0 0, by omega, by omega, rfl, rfl, rfl, Lib.hid rfl, hpm, Lib.hid kF, World.ownsRow_nil _ _ _ _, Lib.hid (by simp), Lib.hid (by simp), hbC⟩
      case round =>
        obtain ⟨j, q, pm, v, hj, hj8, rfl, rfl, hql, HSR, hpm2, HKF, hor, HPT, HPA, hbr⟩ := hrel
        have e0 := (hbr.cell (p := ⟨b1, o1 + i * 2, none⟩) hbB).trans cB0
        by_cases hlr : j < RN ∧ j < 8
        · obtain ⟨r1, r2⟩ := hlr
          have r1' : (j : Int) < (RN : Int) := by omega
          have r2' : (j : Int) < 8 := by omega
          have hjl : j < rs.length := by rw [HRN.out]; exact r1
          have hbw := hblB.trans (hbr.mono hsB')
          obtain ⟨b2, o2, rfl, hb2, d0⟩ := (HIN.out.1.1.1.keep hbw).rc j hjl
          have HRO := Lib.hid ((HIN.out.1.2.1 _ (List.getElem_mem hjl)).keep hbw)
          have HRS : Hid (fewRs most pn ((rs.take (j + 1)).map PC.l) = fewStep most (fewRs most pn ((rs.take j).map PC.l)) rs[j].l) := Lib.hid (by
            rw [List.take_succ_eq_append_getElem hjl, List.map_append, List.map_singleton, fewRs_snoc])
          generalize rs[j] = R at *
          obtain ⟨L, Rp, Rc⟩ := R
          obtain ⟨LN, hLN⟩ : ∃ R, L.length = R := ⟨_, rfl⟩
          have HLN := Lib.hid hLN
          have q1 := HRO.out.2.1
          have q2 := HRO.out.2.2.1
          dsimp only [PC.val] at d0 q1 q2
          rw [hLN] at d0 q1
          clear hLN
          unfold maxLen at q2
          obtain ⟨MN, hMN⟩ : ∃ z : Nat, min (most - pm) LN = z := ⟨_, rfl⟩
          have hz0 : (if ((most : Int) - (pm : Int)) < (LN : Int) then ((most : Int) - (pm : Int)) else (LN : Int)) = (MN : Int) := by split <;> omega
          have hzm : min (LN : Int) ((most : Int) - (pm : Int)) = (MN : Int) := by omega
          have HMN := Lib.hid hMN
          have q3 : (MN : Int) ≤ LN := by omega
          have q4 : MN ≤ most - pm := by omega
          clear hMN
          go_wp2
          refine wp_region_lit_txtZ (some 8) [0, 1, 3, 7] (fun W => W.heap[wB.heap.size]? = some (.cells #[v, .slice aa2 AN ac2] 39 (0, 0)) ∧ Below wB.heap.size wB W) (by kernel_rfl) (by kernel_rfl) (by kernel_rfl) (by kernel_rfl) ⟨HKF.out, hbr.drew⟩ ?_
          (refine txt_light ?_ rfl rfl ?_ ?_; rotate_left; · (intro w' hS; (try dsimp only at hS); go_simp; with_reducible rfl)); try simp only [Act.put, List.getElem_toArray, List.getElem_cons_succ, List.getElem_cons_zero, List.setIfInBounds_toArray, List.set_cons_zero, List.set_cons_succ]
          refine txt_light (v) rfl rfl ?_ ?_
          · intro w' hS
            obtain ⟨hS1, hS2⟩ := hS
            have c7 : w'.cell? ⟨wB.heap.size, 0, none⟩ = some v := by simp [World.cell?, hS1]
            clear hS1
            go_simp
          try simp only [Act.put, List.getElem_toArray, List.getElem_cons_succ, List.getElem_cons_zero, List.setIfInBounds_toArray, List.set_cons_zero, List.set_cons_succ]
          have HK0 : Hid (wr.drew.heap[wB.heap.size]? = some (.cells #[v, .slice aa2 AN ac2] 39 (0, 0))) := HKF
          have hbd : Below wB.heap.size wB wr.drew := hbr.drew
          have hor0 : wr.drew.ownsRow wB.heap.size 40 1 v j (rcs q) := hor
          have HP0 : Hid (∀ r ∈ q, PcT wr.drew r) := HPT
          have hrL : Rd wr.drew Rp (pts (L.take MN)) := by
            have := HRO.out.1.take (MN * 2)
            rw [pts_take] at this
            exact this
          have hRN0 : Rp = none → Rc = 0 := HRO.out.2.2.2
          clear hor HKF HPT hbr e0 d0
          generalize wr.drew = W0 at *
          refine txt_heavy rfl rfl (fun K hK => ?_)
          go_step
          have hlW : wB.heap.size < W0.heap.size := (Array.getElem?_eq_some_iff.1 HK0.out).1
          have hb1 := hbd.alloc (by omega) (.cells #[] 46)
          have k1 : (W0.alloc (.cells #[] 46)).heap[wB.heap.size]? = some (.cells #[v, .slice aa2 AN ac2] 39 (0, 0)) := (Below.heap_alloc _ _ _ hlW).trans HK0.out
          have hr1 := hrL.keep (Below.new W0 (.cells #[] 46))
          have ho1 : (W0.alloc (.cells #[] 46)).ownsRow W0.heap.size 46 2 (.slice (some ⟨W0.heap.size, 0, none⟩) 0 0) 0 [] := World.ownsRow_lit W0 #[] 0 (Nat.le_refl _) (by decide) rfl
          have hlt : (L.take MN).length = MN := by rw [List.length_take, HLN.out]; omega
          refine hK.out _ _ ⟨k1, hb1⟩ ?_
          clear hK K
          try simp only [Act.put, List.getElem_toArray, List.getElem_cons_succ, List.getElem_cons_zero, List.setIfInBounds_toArray, List.set_cons_zero, List.set_cons_succ]
          (refine txt_light ?_ rfl rfl ?_ ?_; rotate_left; · (intro w' hS; (try dsimp only at hS); go_simp; with_reducible rfl)); try simp only [Act.put, List.getElem_toArray, List.getElem_cons_succ, List.getElem_cons_zero, List.setIfInBounds_toArray, List.set_cons_zero, List.set_cons_succ]
          refine txt_app W0 (Below.new W0 (.cells #[] 46)) rfl rfl (.tmp 60) (.tmp 61) 40 rfl 46 (.agg #[.int .i64 0, .int .i64 0]) 2 16 Try.underlying40 Try.infoPnt rfl (by decide) (.slice (some ⟨W0.heap.size, 0, none⟩) 0 0) 0 [] rfl ho1 Rp MN Rc (pts (L.take MN)) rfl hRN0 hr1 (by rw [pts_len, hlt]) (pts_one _) (by omega) (by decide) ?_
          intro v2 W2 ho2 hg2 hb2
          rw [Nat.zero_add, List.nil_append] at ho2
          have HK2 : Hid (W2.heap[wB.heap.size]? = some (.cells #[v, .slice aa2 AN ac2] 39 (0, 0))) := Lib.hid ((hb2.block _ hlW).trans HK0.out)
          have hbd2 := hbd.trans (hb2.mono hbd.size)
          refine ⟨⟨HK2.out, hbd2⟩, ?_⟩
          have hor2 := hor0.below hb2
          have HP2 : Hid (∀ r ∈ q, PcT W2 r) := Lib.hid (fun r hr => (HP0.out r hr).keep hb2)
          obtain ⟨p2, k2, rfl, f1, f2, f3, f4, -⟩ := ho2.form
          have hszB := hbd.size
          have HPA2 : Hid (∀ r ∈ q ++ [(⟨L.take MN, p2, k2⟩ : PC)], BkAt w.heap.size r.p) := Lib.hid (fun r hr => by
            rcases List.mem_append.1 hr with hr | hr
            · exact HPA.out r hr
            · rw [List.mem_singleton.1 hr]
              exact fun g hg => by have := owns_bk ho2 g hg; omega)
          clear hszB HPA
          have HPN : Hid (PcT W2 ⟨L.take MN, p2, k2⟩) := Lib.hid ⟨⟨f4, by dsimp only; omega, f2, f3⟩, TypB.of_owns ho2⟩
          clear k1 hb1 hr1 ho1 hg2 hrL hor0 HK0 HP0
          try simp only [Act.put, List.getElem_toArray, List.getElem_cons_succ, List.getElem_cons_zero, List.setIfInBounds_toArray, List.set_cons_zero, List.set_cons_succ]
          refine txt_heavy rfl rfl (fun K hK => ?_)
          go_step
          have hlX : wB.heap.size < W2.heap.size := (Array.getElem?_eq_some_iff.1 HK2.out).1
          have hb3 := hbd2.alloc (by omega) (.cells #[.slice p2 MN k2] 40)
          have hx3 := Below.new W2 (.cells #[.slice p2 MN k2] 40)
          have k3 : (W2.alloc (.cells #[.slice p2 MN k2] 40)).heap[wB.heap.size]? = some (.cells #[v, .slice aa2 AN ac2] 39 (0, 0)) := (Below.heap_alloc _ _ _ hlX).trans HK2.out
          have rd := Rd.lit W2 W2.heap.size [.slice p2 MN k2] 40 rfl
          have hor3 := hor2.below hx3
          have HP3 : Hid (∀ r ∈ q, PcT (W2.alloc (.cells #[.slice p2 MN k2] 40)) r) := Lib.hid (fun r hr => (HP2.out r hr).keep hx3)
          have HPN3 := Lib.hid (HPN.out.keep hx3)
          have HK3 := Lib.hid k3
          refine hK.out _ _ ⟨k3, hb3⟩ ?_
          clear hK K k3 hx3 ho2 hor2 HP2 HPN HK2 hbd2 hb2 hlX
          generalize W2.alloc (.cells #[.slice p2 MN k2] 40) = W3 at *
          try simp only [Act.put, List.getElem_toArray, List.getElem_cons_succ, List.getElem_cons_zero, List.setIfInBounds_toArray, List.set_cons_zero, List.set_cons_succ]
          refine txt_app wB hb3 rfl rfl (.tmp 59) (.tmp 63) 36 rfl 40 (.slice none 0 0) 1 24 Try.underlying36 Try.infoRow rfl (by decide) v j (rcs q) rfl hor3 (some ⟨W2.heap.size, 0, none⟩) 1 1 [.slice p2 MN k2] rfl (fun h => by cases h) rd rfl (by simp [Value.oneCell']) (by omega) (by decide) ?_
          intro v3 W4 ho4 hg4 hb4
          have HK4 : Hid (W4.heap[wB.heap.size]? = some (.cells #[v, .slice aa2 AN ac2] 39 (0, 0))) := Lib.hid (((KeepS.of_row (S := fun T => T = 39) hor3 (by decide) hg4).2 _ _ _ _ HK3.out rfl).trans HK3.out)
          have HKS := Lib.hid (KeepS.of_row (S := fun T => T = 46) hor3 (by decide) hg4)
          have HP4 : Hid (∀ r ∈ q ++ [⟨L.take MN, p2, k2⟩], PcT W4 r) := Lib.hid (fun r hr => by
            rcases List.mem_append.1 hr with hr | hr
            · exact (HP3.out r hr).keepS (S := fun T => T = 46) rfl HKS.out
            · rw [List.mem_singleton.1 hr]; exact HPN3.out.keepS (S := fun T => T = 46) rfl HKS.out)
          have hqc : rcs q ++ [.slice p2 MN k2] = rcs (q ++ [⟨L.take MN, p2, k2⟩]) := by rw [rcs_snoc]; simp [PC.val, hlt]
          rw [hqc] at ho4
          obtain ⟨p3, k3, rfl, -⟩ := ho4.form
          refine ⟨⟨HK4.out, hb4⟩, ?_⟩
          clear hor3 HP3 HPN3 HK3 HKS hg4 rd hb3 hqc
          try simp only [Act.put, List.getElem_toArray, List.getElem_cons_succ, List.getElem_cons_zero, List.setIfInBounds_toArray, List.set_cons_zero, List.set_cons_succ]
          (refine txt_light ?_ rfl rfl ?_ ?_; rotate_left; · (intro w' hS; (try dsimp only at hS); go_simp; with_reducible rfl)); try simp only [Act.put, List.getElem_toArray, List.getElem_cons_succ, List.getElem_cons_zero, List.setIfInBounds_toArray, List.set_cons_zero, List.set_cons_succ]
          refine txt_last rfl rfl rfl (fun K hK => ?_)
          have c7 : W4.cell? ⟨wB.heap.size, 0, none⟩ = some v := by simp [World.cell?, HK4.out]
          have c8 : W4.frozen? ⟨wB.heap.size, 0, none⟩ = false := by simp [World.frozen?, HK4.out]
          go_step
          refine hK.out _ _ ?_
          refine txt_nil ?_
          have HK5 : Hid ((W4.setCell ⟨wB.heap.size, 0, none⟩ (.slice p3 (j + 1) k3)).heap[wB.heap.size]? = some (.cells #[.slice p3 (j + 1) k3, .slice aa2 AN ac2] 39 (0, 0))) := Lib.hid (blkT_set (vs := [v, .slice aa2 AN ac2]) HK4.out 0 _)
          have ho5 := ownsRow_box ho4 HK4.out (by decide) 0 (.slice p3 (j + 1) k3)
          have HP5 : Hid (∀ r ∈ q ++ [⟨L.take MN, p2, k2⟩], PcT (W4.setCell ⟨wB.heap.size, 0, none⟩ (.slice p3 (j + 1) k3)) r) := Lib.hid (fun r hr => (HP4.out r hr).keepS (S := fun T => T = 46) rfl (KeepS.store HK4.out (by decide) _))
          have hb5 := hb4.setCell (p := ⟨wB.heap.size, 0, none⟩) (Nat.le_refl _) (.slice p3 (j + 1) k3)
          have HSQ : Hid (fewRs most pn ((rs.take (j + 1)).map PC.l) = ((q ++ [(⟨L.take MN, p2, k2⟩ : PC)]).map PC.l, pm + MN)) := Lib.hid (by
            have ht : L.take (most - pm) = L.take MN := by
              rw [← HMN.out, ← HLN.out]
              by_cases h : most - pm ≤ L.length
              · rw [Nat.min_eq_left h]
              · rw [Nat.min_eq_right (by omega), List.take_length, List.take_of_length_le (by omega)]
            rw [HRS.out, HSR.out]
            simp [fewStep, ht, hlt])
          have hql5 : (q ++ [(⟨L.take MN, p2, k2⟩ : PC)]).length = j + 1 := by simp [hql]
          clear hK K c7 c8 ho4 HP4 hb4 HK4 HRS HSR HRO hlt HMN HLN hRN0 f1 f2 f3 f4 hz0 hbd
          generalize q ++ [(⟨L.take MN, p2, k2⟩ : PC)] = q5 at *
          generalize W4.setCell ⟨wB.heap.size, 0, none⟩ (.slice p3 (j + 1) k3) = W5 at *
          go_wp2
          exact ⟨⟨j + 1, q5, pm + MN, .slice p3 (j + 1) k3, by omega, by omega, by go_num, by go_num, hql5, HSQ, by omega, HK5, ho5, HP5, HPA2, hb5⟩, by simp [intOf]; omega⟩
          trace_state
          done
        · obtain ⟨p3, k3, rfl, g1, g2, g3, g4, -⟩ := hor.form
          have e6 : wr.cell? ⟨wB.heap.size, 0, none⟩ = some (.slice p3 j k3) := by simp [World.cell?, HKF.out]
          have e7 : wr.cell? ⟨wB.heap.size, 0 + 1, none⟩ = some (.slice aa2 AN ac2) := by simp [World.cell?, HKF.out]
          have HTK : Hid (rs.take j = rs.take 8) := Lib.hid (by
            by_cases h8 : j = 8
            · rw [h8]
            · rw [List.take_of_length_le (by rw [HRN.out]; omega), List.take_of_length_le (by rw [HRN.out]; omega)])
          have hbw := hblB.trans (hbr.mono hsB')
          have hoX := hoB.below hbr
          have HFC : Hid (fcs fs ++ [.slice p3 j k3, .slice aa2 AN ac2] = fcs (fs ++ [⟨q, p3, k3, AL, aa2, ac2⟩])) := Lib.hid (by
            rw [fcs_snoc]
            simp [Fc.cells, Fc.rval, Fc.aval, hql, HAN.out])
          have HSX : Hid (fewFs most ((l.take (i + 1)).map Fc.plain) = ((fs ++ [(⟨q, p3, k3, AL, aa2, ac2⟩ : Fc)]).map Fc.plain, pm)) := Lib.hid (by
            have e : fewRs most pn ((rs.map PC.l).take 8) = (q.map PC.l, pm) := by rw [← List.map_take, ← HTK.out]; exact HSR.out
            rw [HSN.out, HST.out]
            simp only [fewStepF, Fc.plain, Fc.rings, e, HAL.out, List.map_append, List.map_cons, List.map_nil])
          have HFA2 : Hid (∀ f ∈ fs ++ [(⟨q, p3, k3, AL, aa2, ac2⟩ : Fc)], FcAt w.heap.size f) := Lib.hid (fun f hf => by
            rcases List.mem_append.1 hf with hf | hf
            · exact HFT2.out f hf
            · rw [List.mem_singleton.1 hf]
              exact ⟨fun g hg => by have := owns_bk hor g hg; omega, HPA.out, HBA.out⟩)
          clear HPA HFT2
          have HFA : Hid (∀ f ∈ fs ++ [(⟨q, p3, k3, AL, aa2, ac2⟩ : Fc)], FcT wr f) := Lib.hid (fun f hf => by
            rcases List.mem_append.1 hf with hf | hf
            · exact (HFB.out f hf).keep hbr
            · rw [List.mem_singleton.1 hf]
              exact ⟨⟨⟨g4, by rw [hql]; exact g1, g2, g3⟩, fun r hr => (HPT.out r hr).1, ⟨har.keep hbr, by rw [HAN.out]; exact hac1, hac2, hac3⟩⟩, TypB.of_owns hor, HPT.out, hat.keepS (S := fun _ => True) trivial (KeepS.of_below hbr)⟩)
          clear hor HSR HKF HPT HTK g1 g2 g3 g4 hoB HFB
          by_cases r1 : j < RN
          · have r1' : (j : Int) < (RN : Int) := by omega
            have r2' : ¬ (j : Int) < 8 := by omega
            go_wp2_with (at_builtin; go_must (refine wpList_appLit' w hbw rfl (.tmp 70) (.tmp 72) 22 rfl 39 (.agg #[.slice none 0 0, .slice none 0 0]) 2 48 Try.underlying22 Try.infoFace rfl (by decide) (by decide) u5 i (fcs fs) rfl hoX 1 1 [.slice p3 j k3, .slice aa2 AN ac2] _ rfl rfl (by simp [Value.oneCell']) (by omega) ?_); intro v9 W9 ho9 hg9 hb9; have HKP := Lib.hid (KeepS.of_row hoX faceS_face hg9); clear hg9 hoX)
            rw [HFC.out] at ho9
            exact ⟨⟨i + 1, fs ++ [⟨q, p3, k3, AL, aa2, ac2⟩], pm, by omega, by omega, by go_num, rfl, by simp [hfl], HSX, hpm2, ho9, Lib.hid (fun f hf => (HFA.out f hf).keepS HKP.out), HFA2, hb9⟩, by simp [intOf]; omega⟩
          · have r1' : ¬ (j : Int) < (RN : Int) := by omega
            go_wp2_with (at_builtin; go_must (refine wpList_appLit' w hbw rfl (.tmp 70) (.tmp 72) 22 rfl 39 (.agg #[.slice none 0 0, .slice none 0 0]) 2 48 Try.underlying22 Try.infoFace rfl (by decide) (by decide) u5 i (fcs fs) rfl hoX 1 1 [.slice p3 j k3, .slice aa2 AN ac2] _ rfl rfl (by simp [Value.oneCell']) (by omega) ?_); intro v9 W9 ho9 hg9 hb9; have HKP := Lib.hid (KeepS.of_row hoX faceS_face hg9); clear hg9 hoX)
            rw [HFC.out] at ho9
            exact ⟨⟨i + 1, fs ++ [⟨q, p3, k3, AL, aa2, ac2⟩], pm, by omega, by omega, by go_num, rfl, by simp [hfl], HSX, hpm2, ho9, Lib.hid (fun f hf => (HFA.out f hf).keepS HKP.out), HFA2, hb9⟩, by simp [intOf]; omega⟩
    · have HTK : Hid (l.take i = l.take 10) := Lib.hid (by
        by_cases h10 : i = 10
        · rw [h10]
        · rw [List.take_of_length_le (by rw [HN.out]; omega), List.take_of_length_le (by rw [HN.out]; omega)])
      have HRE : Hid (fs.map Fc.plain = RES) := Lib.hid (by rw [HFE.out, ← HTK.out, HST.out])
      rw [← hfl] at ho
      by_cases h1 : i < N
      · have h1' : (i : Int) < (N : Int) := by omega
        have h2' : ¬ (i : Int) < 10 := by omega
        go_wp2
        go_ret
        exact ⟨fs, _, rfl, ho, ⟨HFT.out, HFT2.out⟩, HRE.out, hbl⟩
      · have h1' : ¬ (i : Int) < (N : Int) := by omega
        go_wp2
        go_ret
        exact ⟨fs, _, rfl, ho, ⟨HFT.out, HFT2.out⟩, HRE.out, hbl⟩
end Go.Proofs.Ytkdibaphmkaaoaa

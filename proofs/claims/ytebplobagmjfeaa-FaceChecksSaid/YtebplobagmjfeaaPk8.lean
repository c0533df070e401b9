/-
  ring.Beside.
-/
import Derived.Test.YtebplobagmjfeaaPk5
import Derived.Test.YtebplobagmjfeaaPk6
import Derived.Test.YtebplobagmjfeaaPk7
/- ring.Beside. -/
set_option linter.unusedVariables false
set_option linter.unusedSimpArgs false
set_option maxRecDepth 100000
namespace Go
open Go.RowKit
/-- What an edge adds. -/
def besE (m v : Pt) (e : Pt × Pt) : Int :=
  if besOver m v e.1.y = false ∧ besOver m v e.2.y = true ∧ 0 < besSide m v e.1 e.2 then 1 else if besOver m v e.1.y = true ∧ besOver m v e.2.y = false ∧ besSide m v e.1 e.2 < 0 then -1 else 0
def besS (m v : Pt) : List (Pt × Pt) → Int
  | [] => 0
  | e :: l => besE m v e + besS m v l
theorem besS_append (m v : Pt) (l r : List (Pt × Pt)) : besS m v (l ++ r) = besS m v l + besS m v r := by
  induction l with
  | nil => simp [besS]
  | cons e l ih => simp only [List.cons_append, besS, ih]; omega
theorem besS_snoc (m v : Pt) (l : List (Pt × Pt)) (e : Pt × Pt) : besS m v (l ++ [e]) = besS m v l + besE m v e := by
  rw [besS_append]; simp [besS]
theorem besE_bd (m v : Pt) (e : Pt × Pt) : -1 ≤ besE m v e ∧ besE m v e ≤ 1 := by
  unfold besE; repeat' split
  all_goals omega
theorem besS_bd (m v : Pt) (l : List (Pt × Pt)) : -(l.length : Int) ≤ besS m v l ∧ besS m v l ≤ l.length := by
  induction l with
  | nil => simp [besS]
  | cons e l ih =>
    have := besE_bd m v e
    simp only [besS, List.length_cons]
    omega
def besM (a b : Pt) : Pt := ⟨a.x + b.x, a.y + b.y⟩
def besV (a b : Pt) : Pt := ⟨b.x - a.x, b.y - a.y⟩
def offM (m v : Pt) (e : Pt × Pt) : Bool := !besHas m v e.1 e.2
def besOk (l : List Pt) (a b : Pt) : Bool := !decide (a.x = b.x ∧ a.y = b.y) && ((okPt a && okPt b) && (l.all okPt && (edges l).all (offM (besM a b) (besV a b))))
def besF (l : List Pt) (a b : Pt) : Int := if besOk l a b then besS (besM a b) (besV a b) (edges l) else 0
theorem edges_okB (l : List Pt) (h : l.all okPt = true) : ∀ e ∈ edges l, okPt e.1 = true ∧ okPt e.2 = true := by
  intro e he
  unfold edges at he
  obtain ⟨i, hi, rfl⟩ := List.mem_map.1 he
  rw [List.mem_range] at hi
  rw [List.all_eq_true] at h
  have hm := Nat.mod_lt (i + 1) (show 0 < l.length by omega)
  dsimp only
  rw [getElem!_pos l i hi, getElem!_pos l _ hm]
  exact ⟨h _ (List.getElem_mem hi), h _ (List.getElem_mem hm)⟩
def OffAllM (m v : Pt) (pre : List (Pt × Pt)) : Prop := pre.all (offM m v) = true
end Go
namespace Go.Proofs.Ytebplobagmjfeaa
open Go.RowKit
attribute [local go_sem] Oper.semAt_some

set_option maxHeartbeats 6400000 in
theorem bes_any (a : Option Addr) (c : Nat) (L : List Pt) (hlen : L.length ≤ 1000) (u v : Pt) (w : World) (hr : Rd w a (pts L)) :
    Calls Try.prog 58 #[.slice a L.length c, u.val, v.val] w fun e w' => e = .returned (.tuple #[.int .i64 (besF L u v), .bool (besOk L u v)]) ∧ Below w.heap.size w w' := by
  refine (callsIn_wide (n := 5)).1 ?_
  refine callsIn_of_wp_marks Try.func58 rfl trivial ?_ rfl
  simp only [Try.ntmps58, List.size_toArray, List.length_cons, List.length_nil, Nat.reduceAdd, Nat.reduceSub, Array.replicate_succ, Array.replicate_zero, List.push_toArray, List.append_toArray, List.nil_append, List.cons_append]
  refine wpIn_wide.2 ?_
  have HRP := Lib.hid (fun W h => xright_any (some ⟨w.heap.size + 1 + 1 + 1 + 1, 0, none⟩) 2 [u, v] (by simp [maxLen]) W h)
  have HRA := Lib.hid (fun W h => xright_any a c L (by unfold maxLen; omega) W h)
  have HWO : Hid (besOk L u v = (!decide (u.x = v.x ∧ u.y = v.y) && ((okPt u && okPt v) && (L.all okPt && (edges L).all (offM (besM u v) (besV u v)))))) := Lib.hid rfl
  have HWF : Hid (besF L u v = if besOk L u v then besS (besM u v) (besV u v) (edges L) else 0) := Lib.hid rfl
  have HEO := Lib.hid (fun h => edges_okB L h)
  have hsx : ([u, v].all okPt) = (okPt u && okPt v) := by simp
  rw [hsx] at HRP
  obtain ⟨WO, hWO⟩ : ∃ B, besOk L u v = B := ⟨_, rfl⟩
  rw [hWO] at HWO HWF ⊢
  obtain ⟨WF, hWF⟩ : ∃ z, besF L u v = z := ⟨_, rfl⟩
  rw [hWF] at HWF ⊢
  clear hsx hWO hWF
  obtain ⟨ux, uy⟩ := u
  obtain ⟨vx, vy⟩ := v
  dsimp only [Pt.val] at *
  by_cases heq : ux = vx ∧ uy = vy
  · have hW : WO = false := by rw [HWO.out, decide_eq_true heq]; simp
    have HW3 := Lib.hid hW
    have HV : Hid (WF = 0) := Lib.hid (by rw [HWF.out, hW]; rfl)
    obtain ⟨rfl, rfl⟩ := heq
    clear hW HWO HWF
    have k4 := (Boxed.new ((w.alloc (.cells #[.int .i64 ux, .int .i64 uy] 37)).alloc (.cells #[.int .i64 ux, .int .i64 uy] 37)) 3 (.int .i64 0)).alloc (.cells #[.bool false] 4)
    have k5 := Boxed.new (((w.alloc (.cells #[.int .i64 ux, .int .i64 uy] 37)).alloc (.cells #[.int .i64 ux, .int .i64 uy] 37)).alloc (.cells #[.int .i64 0] 3)) 4 (.bool false)
    have hb0 : Below w.heap.size w ((((w.alloc (.cells #[.int .i64 ux, .int .i64 uy] 37)).alloc (.cells #[.int .i64 ux, .int .i64 uy] 37)).alloc (.cells #[.int .i64 0] 3)).alloc (.cells #[.bool false] 4)) := (((Below.new w _).alloc (by simp) _).alloc (by simp; omega) _).alloc (by simp; omega) _
    simp only [World.size_alloc] at k4 k5
    go_wp2
    generalize (((w.alloc (.cells #[.int .i64 ux, .int .i64 uy] 37)).alloc (.cells #[.int .i64 ux, .int .i64 uy] 37)).alloc (.cells #[.int .i64 0] 3)).alloc (.cells #[.bool false] 4) = wF at *
    have c4 := k4.cell
    have c5 := k5.cell
    refine ⟨.tuple #[.int .i64 0, .bool false], by simp [results, Try.results58, go_sem, c4, c5], ?_, hb0⟩
    rw [HV.out, HW3.out]
  · have hdd := decide_eq_false heq
    have hne : ux ≠ vx ∨ uy ≠ vy := by omega
    have ku : Blk ((((w.alloc (.cells #[.int .i64 ux, .int .i64 uy] 37)).alloc (.cells #[.int .i64 vx, .int .i64 vy] 37)).alloc (.cells #[.int .i64 0] 3)).alloc (.cells #[.bool false] 4)) w.heap.size [.int .i64 ux, .int .i64 uy] := (((Blk.new w [.int .i64 ux, .int .i64 uy] 37).alloc _).alloc _).alloc _
    have kv : Blk ((((w.alloc (.cells #[.int .i64 ux, .int .i64 uy] 37)).alloc (.cells #[.int .i64 vx, .int .i64 vy] 37)).alloc (.cells #[.int .i64 0] 3)).alloc (.cells #[.bool false] 4)) (w.heap.size + 1) [.int .i64 vx, .int .i64 vy] := ((Blk.lit (w.alloc (.cells #[.int .i64 ux, .int .i64 uy] 37)) (w.heap.size + 1) [.int .i64 vx, .int .i64 vy] 37 (by simp)).alloc _).alloc _
    have k4 := (Boxed.new ((w.alloc (.cells #[.int .i64 ux, .int .i64 uy] 37)).alloc (.cells #[.int .i64 vx, .int .i64 vy] 37)) 3 (.int .i64 0)).alloc (.cells #[.bool false] 4)
    have k5 := Boxed.new (((w.alloc (.cells #[.int .i64 ux, .int .i64 uy] 37)).alloc (.cells #[.int .i64 vx, .int .i64 vy] 37)).alloc (.cells #[.int .i64 0] 3)) 4 (.bool false)
    have hb0 : Below w.heap.size w ((((w.alloc (.cells #[.int .i64 ux, .int .i64 uy] 37)).alloc (.cells #[.int .i64 vx, .int .i64 vy] 37)).alloc (.cells #[.int .i64 0] 3)).alloc (.cells #[.bool false] 4)) := (((Below.new w _).alloc (by simp) _).alloc (by simp; omega) _).alloc (by simp; omega) _
    simp only [World.size_alloc] at k4 k5
    have hrp : Rd (((((w.alloc (.cells #[.int .i64 ux, .int .i64 uy] 37)).alloc (.cells #[.int .i64 vx, .int .i64 vy] 37)).alloc (.cells #[.int .i64 0] 3)).alloc (.cells #[.bool false] 4)).alloc (.cells #[.int .i64 ux, .int .i64 uy, .int .i64 vx, .int .i64 vy] 37)) (some ⟨w.heap.size + 1 + 1 + 1 + 1, 0, none⟩) (pts [⟨ux, uy⟩, ⟨vx, vy⟩]) := Rd.lit _ _ [.int .i64 ux, .int .i64 uy, .int .i64 vx, .int .i64 vy] 37 (by simp)
    clear heq
    rcases hne with hq | hq
    all_goals
      go_wp2_with fail
      clear hq
      refine (HRP.out _ hrp).mono ?_
      rintro e w1 ⟨rfl, hb1⟩
      have hbA := (Below.new ((((w.alloc (.cells #[.int .i64 ux, .int .i64 uy] 37)).alloc (.cells #[.int .i64 vx, .int .i64 vy] 37)).alloc (.cells #[.int .i64 0] 3)).alloc (.cells #[.bool false] 4)) (.cells #[.int .i64 ux, .int .i64 uy, .int .i64 vx, .int .i64 vy] 37)).trans (hb1.mono (by simp))
      generalize (((w.alloc (.cells #[.int .i64 ux, .int .i64 uy] 37)).alloc (.cells #[.int .i64 vx, .int .i64 vy] 37)).alloc (.cells #[.int .i64 0] 3)).alloc (.cells #[.bool false] 4) = wA at *
      replace ku := ku.keep hbA
      replace kv := kv.keep hbA
      replace k4 : Boxed w1 _ _ _ := (hbA.block _ k4.lt).trans k4
      replace k5 : Boxed w1 _ _ _ := (hbA.block _ k5.lt).trans k5
      have hb2 := hb0.trans (hbA.mono hb0.size)
      clear hb1 hbA hb0 HRP hrp
      cases hok : (okPt ⟨ux, uy⟩ && okPt ⟨vx, vy⟩) with
      | false =>
        have c4 := k4.cell
        have c5 := k5.cell
        have f4 := k4.frozen
        have f5 := k5.frozen
        have k4F := (k4.set (.int .i64 0)).other (B' := w.heap.size + 1 + 1 + 1) (by omega) (.bool false)
        have k5F := (k5.other (B' := w.heap.size + 1 + 1) (by omega) (.int .i64 0)).set (.bool false)
        have hbF := (hb2.set_at (b := w.heap.size + 1 + 1) (o := 0) (by omega) (.int .i64 0)).set_at (b := w.heap.size + 1 + 1 + 1) (o := 0) (by omega) (.bool false)
        clear k4 k5 ku kv
        go_wp2
        clear c4 c5 f4 f5
        generalize (w1.setCell ⟨w.heap.size + 1 + 1, 0, none⟩ (.int .i64 0)).setCell ⟨w.heap.size + 1 + 1 + 1, 0, none⟩ (.bool false) = wF at *
        have c4 := k4F.cell
        have c5 := k5F.cell
        refine ⟨.tuple #[.int .i64 0, .bool false], by simp [results, Try.results58, go_sem, c4, c5], ?_, hbF⟩
        have hW : WO = false := by rw [HWO.out, hok]; simp
        rw [HWF.out, hW]; rfl
      | true =>
        have hra := hr.keep hb2
        have c4 := k4.cell
        have c5 := k5.cell
        have f4 := k4.frozen
        have f5 := k5.frozen
        go_wp2_with fail
        refine (HRA.out _ hra).mono ?_
        rintro e w2 ⟨rfl, hx2⟩
        replace k4 : Boxed w2 _ _ _ := (hx2.block _ k4.lt).trans k4
        replace k5 : Boxed w2 _ _ _ := (hx2.block _ k5.lt).trans k5
        replace ku := ku.keep hx2
        replace kv := kv.keep hx2
        replace hra := hra.keep hx2
        have hb3 := hb2.trans (hx2.mono hb2.size)
        clear hb2 hx2 HRA c4 c5 f4 f5
        cases hal : L.all okPt with
        | false =>
          have c4 := k4.cell
          have c5 := k5.cell
          have f4 := k4.frozen
          have f5 := k5.frozen
          have k4F := (k4.set (.int .i64 0)).other (B' := w.heap.size + 1 + 1 + 1) (by omega) (.bool false)
          have k5F := (k5.other (B' := w.heap.size + 1 + 1) (by omega) (.int .i64 0)).set (.bool false)
          have hbF := (hb3.set_at (b := w.heap.size + 1 + 1) (o := 0) (by omega) (.int .i64 0)).set_at (b := w.heap.size + 1 + 1 + 1) (o := 0) (by omega) (.bool false)
          clear k4 k5 ku kv
          go_wp2
          clear c4 c5 f4 f5
          generalize (w2.setCell ⟨w.heap.size + 1 + 1, 0, none⟩ (.int .i64 0)).setCell ⟨w.heap.size + 1 + 1 + 1, 0, none⟩ (.bool false) = wF at *
          have c4 := k4F.cell
          have c5 := k5F.cell
          refine ⟨.tuple #[.int .i64 0, .bool false], by simp [results, Try.results58, go_sem, c4, c5], ?_, hbF⟩
          have hW : WO = false := by rw [HWO.out, hok, hal]; simp
          rw [HWF.out, hW]; rfl
        | true =>
          have HEK := Lib.hid (HEO.out hal)
          have HWO2 : Hid (WO = (edges L).all (offM (besM ⟨ux, uy⟩ ⟨vx, vy⟩) (besV ⟨ux, uy⟩ ⟨vx, vy⟩))) := Lib.hid (by rw [HWO.out, hok, hal]; simp [hdd])
          rw [Bool.and_eq_true, okPt_iff, okPt_iff] at hok
          obtain ⟨ok1, ok2⟩ := hok
          dsimp only at ok1 ok2
          have hmw : mwOk (besM ⟨ux, uy⟩ ⟨vx, vy⟩) (besV ⟨ux, uy⟩ ⟨vx, vy⟩) := by
            unfold mwOk besM besV
            dsimp only
            omega
          have HMH := Lib.hid (fun p q hp hq w => bhas_any (besM ⟨ux, uy⟩ ⟨vx, vy⟩) (besV ⟨ux, uy⟩ ⟨vx, vy⟩) p q hmw hp hq w)
          have HMO := Lib.hid (fun y hy w => bover_any (besM ⟨ux, uy⟩ ⟨vx, vy⟩) (besV ⟨ux, uy⟩ ⟨vx, vy⟩) y hy w)
          have HMS := Lib.hid (fun p q hp hq w => bside_any (besM ⟨ux, uy⟩ ⟨vx, vy⟩) (besV ⟨ux, uy⟩ ⟨vx, vy⟩) p q hmw hp hq w)
          clear HEO HWO hmw
          have u0 := ku.cell 0 rfl
          have u1 := ku.cell 1 rfl
          have v0 := kv.cell 0 rfl
          have v1 := kv.cell 1 rfl
          go_wp2_with fail
          refine (callsIn_wide.1 (edges_inL 5 a L.length c _)).mono ?_
          rintro e w4 ⟨rfl, rfl⟩
          go_wp2_with fail
          clear u0 u1 v0 v1
          have hs2 := hb3.size
          have hsz4 : w.heap.size + 1 + 1 + 1 < w2.heap.size := k5.lt
          have km := ((Blk.new w2 [.int .i64 (ux + vx), .int .i64 (uy + vy), .int .i64 (vx - ux), .int .i64 (vy - uy)] 125).alloc (.cells #[.int .i64 0] 3)).alloc (.cells #[.slice a L.length c] 65)
          have k6 := (Boxed.new (w2.alloc (.cells #[.int .i64 (ux + vx), .int .i64 (uy + vy), .int .i64 (vx - ux), .int .i64 (vy - uy)] 125)) 3 (.int .i64 0)).alloc (.cells #[.slice a L.length c] 65)
          have kN := Boxed.new ((w2.alloc (.cells #[.int .i64 (ux + vx), .int .i64 (uy + vy), .int .i64 (vx - ux), .int .i64 (vy - uy)] 125)).alloc (.cells #[.int .i64 0] 3)) 65 (.slice a L.length c)
          replace k4 := ((k4.alloc (.cells #[.int .i64 (ux + vx), .int .i64 (uy + vy), .int .i64 (vx - ux), .int .i64 (vy - uy)] 125)).alloc (.cells #[.int .i64 0] 3)).alloc (.cells #[.slice a L.length c] 65)
          replace k5 := ((k5.alloc (.cells #[.int .i64 (ux + vx), .int .i64 (uy + vy), .int .i64 (vx - ux), .int .i64 (vy - uy)] 125)).alloc (.cells #[.int .i64 0] 3)).alloc (.cells #[.slice a L.length c] 65)
          replace hra := ((hra.alloc (.cells #[.int .i64 (ux + vx), .int .i64 (uy + vy), .int .i64 (vx - ux), .int .i64 (vy - uy)] 125)).alloc (.cells #[.int .i64 0] 3)).alloc (.cells #[.slice a L.length c] 65)
          have hB0 := ((hb3.alloc hs2 (.cells #[.int .i64 (ux + vx), .int .i64 (uy + vy), .int .i64 (vx - ux), .int .i64 (vy - uy)] 125)).alloc (by simp; omega) (.cells #[.int .i64 0] 3)).alloc (by simp; omega) (.cells #[.slice a L.length c] 65)
          have hszW : (((w2.alloc (.cells #[.int .i64 (ux + vx), .int .i64 (uy + vy), .int .i64 (vx - ux), .int .i64 (vy - uy)] 125)).alloc (.cells #[.int .i64 0] 3)).alloc (.cells #[.slice a L.length c] 65)).heap.size = w2.heap.size + 3 := by simp
          simp only [World.size_alloc] at kN k6
          obtain ⟨W0, hW0⟩ : ∃ W, ((w2.alloc (.cells #[.int .i64 (ux + vx), .int .i64 (uy + vy), .int .i64 (vx - ux), .int .i64 (vy - uy)] 125)).alloc (.cells #[.int .i64 0] 3)).alloc (.cells #[.slice a L.length c] 65) = W := ⟨_, rfl⟩
          rw [hW0] at k4 k5 k6 km kN hra hB0 hszW ⊢
          clear hW0 ku kv
          refine (wpIn_wide (n := 5)).1 ?_
          refine wpIn_rangeFunc_leave rfl (by decide) (gf := 67) (lb := #[.pointer (some ⟨w2.heap.size + 1 + 1, 0, none⟩)]) rfl trivial (enters_of Try.func67 (by kernel_rfl) rfl)
            (edges_leave (5 - 1) (w2.heap.size + 1 + 1) a c L (by omega) W0 hra (0, 0) kN) KpR.trans (fun W l o o' hl h1 h2 => KpR.putObj (w := W0) (by omega) W l o o' hl h1 h2) (Below.refl _ _) (fun _ => rfl)
            (fun (pre : List (Pt × Pt)) W => (((Boxed W (w2.heap.size + 1) 3 (.int .i64 (besS (besM ⟨ux, uy⟩ ⟨vx, vy⟩) (besV ⟨ux, uy⟩ ⟨vx, vy⟩) pre)) ∧ pre = (edges L).take pre.length) ∧ OffAllM (besM ⟨ux, uy⟩ ⟨vx, vy⟩) (besV ⟨ux, uy⟩ ⟨vx, vy⟩) pre) ∧ W0.grownBy W (some (w2.heap.size + 1))))
            (fun (cc : Code) (pre : List (Pt × Pt)) W => (((cc = Code.ret ∧ WO = false) ∧ (Boxed W (w.heap.size + 1 + 1) 3 (.int .i64 0) ∧ Boxed W (w.heap.size + 1 + 1 + 1) 4 (.bool false))) ∧ Below w.heap.size w W))
            (OwnFrom.and (OwnFrom.and (OwnFrom.and (Own.from (boxed_own _ _ (fun (pre : List (Pt × Pt)) => Value.int .i64 (besS (besM ⟨ux, uy⟩ ⟨vx, vy⟩) (besV ⟨ux, uy⟩ ⟨vx, vy⟩) pre))) _) (ownFrom_pure _ _)) (ownFrom_pure _ _)) (ownFrom_grown _))
            (fun cc => OwnFrom.and (OwnFrom.and (ownFrom_pure _ (fun _ => cc = Code.ret ∧ WO = false)) (OwnFrom.and (Own.from (boxed_own _ _ (fun _ => Value.int .i64 0)) _) (Own.from (boxed_own _ _ (fun _ => Value.bool false)) _))) (ownFrom_below (Nat.le_refl _) (by omega)))
            (ownFrom_pure _ _)
            ⟨⟨⟨k6, rfl⟩, rfl⟩, World.grownBy.refl _ _⟩
            (fun (pre : List (Pt × Pt)) (x : Pt × Pt) a' W => (((Boxed W (w2.heap.size + 1) 3 (.int .i64 (besS (besM ⟨ux, uy⟩ ⟨vx, vy⟩) (besV ⟨ux, uy⟩ ⟨vx, vy⟩) pre)) ∧ pre = (edges L).take pre.length) ∧ OffAllM (besM ⟨ux, uy⟩ ⟨vx, vy⟩) (besV ⟨ux, uy⟩ ⟨vx, vy⟩) pre) ∧ W0.grownBy W (some (w2.heap.size + 1))) ∧ (pre.length < L.length ∧ x = (L[pre.length]!, L[(pre.length + 1) % L.length]!)) ∧
              ∃ Ba Bb, W0.heap.size ≤ Ba ∧ W0.heap.size ≤ Bb ∧ Blk W Ba x.1.cells ∧ Blk W Bb x.2.cells ∧ a' = { tmps := List.toArray ((Value.slice a L.length c) :: (Value.agg #[Value.int .i64 ux, Value.int .i64 uy]) :: (Value.agg #[Value.int .i64 vx, Value.int .i64 vy]) :: undef :: (Value.pointer (some ⟨w.heap.size, 0, none⟩)) :: (Value.pointer (some ⟨w.heap.size + 1, 0, none⟩)) :: (Value.pointer (some ⟨w.heap.size + 1 + 1, 0, none⟩)) :: (Value.pointer (some ⟨w.heap.size + 1 + 1 + 1, 0, none⟩)) :: (Value.pointer (some ⟨w2.heap.size, 0, none⟩)) :: (Value.pointer (some ⟨w2.heap.size + 1, 0, none⟩)) :: (Value.pointer (some ⟨Ba, 0, none⟩)) :: (Value.pointer (some ⟨Bb, 0, none⟩)) :: (Value.agg #[Value.int .i64 ux, Value.int .i64 uy]) :: (Value.agg #[Value.int .i64 vx, Value.int .i64 vy]) :: (Value.bool false) :: (Value.bool false) :: (Value.agg #[Value.int .i64 ux, Value.int .i64 uy]) :: (Value.agg #[Value.int .i64 vx, Value.int .i64 vy]) :: (Value.slice (some ⟨w.heap.size + 1 + 1 + 1 + 1, 0, none⟩) 2 2) :: (Value.bool true) :: (Value.bool false) :: (Value.bool false) :: (Value.bool false) :: (Value.slice a L.length c) :: (Value.bool true) :: (Value.bool false) :: (Value.bool false) :: (Value.pointer (some ⟨w.heap.size, 0, none⟩)) :: (Value.int .i64 (ux)) :: (Value.pointer (some ⟨w.heap.size + 1, 0, none⟩)) :: (Value.int .i64 (vx)) :: (Value.int .i64 (ux + vx)) :: (Value.pointer (some ⟨w.heap.size, 1, none⟩)) :: (Value.int .i64 (uy)) :: (Value.pointer (some ⟨w.heap.size + 1, 1, none⟩)) :: (Value.int .i64 (vy)) :: (Value.int .i64 (uy + vy)) :: (Value.agg #[Value.int .i64 (ux + vx), Value.int .i64 (uy + vy)]) :: (Value.pointer (some ⟨w.heap.size + 1, 0, none⟩)) :: (Value.int .i64 (vx)) :: (Value.pointer (some ⟨w.heap.size, 0, none⟩)) :: (Value.int .i64 (ux)) :: (Value.int .i64 (vx - ux)) :: (Value.pointer (some ⟨w.heap.size + 1, 1, none⟩)) :: (Value.int .i64 (vy)) :: (Value.pointer (some ⟨w.heap.size, 1, none⟩)) :: (Value.int .i64 (uy)) :: (Value.int .i64 (vy - uy)) :: (Value.agg #[Value.int .i64 (vx - ux), Value.int .i64 (vy - uy)]) :: (Value.agg #[Value.int .i64 (ux + vx), Value.int .i64 (uy + vy), Value.int .i64 (vx - ux), Value.int .i64 (vy - uy)]) :: (Value.slice a L.length c) :: (Value.func (.func 67) #[] #[Value.pointer (some ⟨w2.heap.size + 1 + 1, 0, none⟩)]) :: x.1.val :: x.2.val :: undef :: undef :: undef :: undef :: undef :: undef :: undef :: undef :: undef :: undef :: undef :: undef :: undef :: undef :: undef :: undef :: undef :: undef :: undef :: undef :: undef :: undef :: undef :: undef :: undef :: undef :: undef :: undef :: undef :: undef :: undef :: undef :: undef :: undef :: undef :: undef :: undef :: undef :: undef :: undef :: undef :: undef :: undef :: undef :: undef :: undef :: undef :: []), defers := [] })
            ?hM ?assign ?body ?done ?stop
          case hM =>
            rintro pre x a' _ X Y row ⟨⟨⟨⟨hE, hpre⟩, hpo⟩, hgx⟩, hx, Ba, Bb, ha, hb, bA, bB, rfl⟩ hg hrow
            have hr' : ∀ r, row = some r → ∃ o : Obj, X.heap[r]? = some o ∧ o.isCells = false := fun r e => (hrow r e).2
            have hne : ∀ (B : Nat) vs, Blk X B vs → some B ≠ row := by
              intro B vs ⟨U, hU⟩ e
              obtain ⟨o, ho, hc⟩ := hr' B e.symm
              rw [hU] at ho
              cases ho
              cases hc
            exact ⟨⟨⟨⟨boxed_own _ _ (fun (_ : Unit) => _) () X Y row hE hg hr', hpre⟩, hpo⟩, grown_step hgx hg (fun k e => .inl (hrow k e).1)⟩, hx, Ba, Bb, ha, hb, bA.grown hg (hne _ _ bA), bB.grown hg (hne _ _ bB), rfl⟩
          case assign =>
            rintro l' pre ⟨⟨x1, y1⟩, ⟨x2, y2⟩⟩ W hI hx
            dsimp only [Pt.val]
            have HI := Lib.hid hI
            have hgx := hI.2.size
            clear hI
            gi_wp2
            have hb2 : Below W.heap.size W ((W.alloc (.cells #[.int .i64 x1, .int .i64 y1] 37)).alloc (.cells #[.int .i64 x2, .int .i64 y2] 37)) := (Below.new W _).alloc (by simp) _
            have hg2 := grownBy_of_below hb2 none
            refine ⟨(KeepsOthers.alloc _ _).trans (KeepsOthers.alloc _ _), ⟨fun h => h.keep hb2, hb2.block _ (by omega)⟩, ⟨⟨⟨?_, HI.out.1.1.2⟩, HI.out.1.2⟩, ?_⟩, hx, W.heap.size, W.heap.size + 1, hgx, by omega,
              (Blk.new W [.int .i64 x1, .int .i64 y1] 37).alloc _, Blk.lit (W.alloc (.cells #[.int .i64 x1, .int .i64 y1] 37)) (W.heap.size + 1) [.int .i64 x2, .int .i64 y2] 37 (by simp), rfl⟩
            · exact (HI.out.1.1.1.alloc _).alloc _
            · exact grown_step HI.out.2 hg2 (fun k e => by cases e)
          case body =>
            rintro l' pre ⟨⟨x1, y1⟩, ⟨x2, y2⟩⟩ a' W ⟨⟨⟨⟨b6, hpre⟩, hpo⟩, hgx⟩, ⟨hpl, hxe⟩, Ba, Bb, ha, hb', bA, bB, rfl⟩
            have hszX : W0.heap.size ≤ W.heap.size := hgx.size
            have HBN := Lib.hid (hgx.block (w2.heap.size + 1 + 1) (by omega) (fun e => by have := Option.some.inj e; omega))
            have bm := km.grown hgx (fun e => by have := Option.some.inj e; omega)
            have b4 := k4.kept hgx (fun e => by have := Option.some.inj e; omega)
            have b5 := k5.kept hgx (fun e => by have := Option.some.inj e; omega)
            have hek : (edges L)[pre.length]? = some (⟨x1, y1⟩, ⟨x2, y2⟩) := by
              unfold edges
              rw [List.getElem?_map, List.getElem?_range hpl, hxe]
              rfl
            obtain ⟨op1, op2⟩ := HEK.out _ (List.mem_of_getElem? hek)
            have HNP : Hid ((edges L).take (pre.length + 1) = pre ++ [((⟨x1, y1⟩ : Pt), (⟨x2, y2⟩ : Pt))]) := Lib.hid (by
              rw [List.take_add_one, hek, ← hpre]; rfl)
            have HPO : Hid ((pre ++ [((⟨x1, y1⟩ : Pt), (⟨x2, y2⟩ : Pt))]).all (offM (besM ⟨ux, uy⟩ ⟨vx, vy⟩) (besV ⟨ux, uy⟩ ⟨vx, vy⟩)) = offM (besM ⟨ux, uy⟩ ⟨vx, vy⟩) (besV ⟨ux, uy⟩ ⟨vx, vy⟩) ((⟨x1, y1⟩ : Pt), (⟨x2, y2⟩ : Pt))) := Lib.hid (by
              rw [List.all_append, show pre.all (offM (besM ⟨ux, uy⟩ ⟨vx, vy⟩) (besV ⟨ux, uy⟩ ⟨vx, vy⟩)) = true from hpo]; simp)
            have HMEM := Lib.hid (List.mem_of_getElem? hek)
            have HSN := Lib.hid (besS_snoc (besM ⟨ux, uy⟩ ⟨vx, vy⟩) (besV ⟨ux, uy⟩ ⟨vx, vy⟩) pre ((⟨x1, y1⟩ : Pt), (⟨x2, y2⟩ : Pt)))
            have hbd := besS_bd (besM ⟨ux, uy⟩ ⟨vx, vy⟩) (besV ⟨ux, uy⟩ ⟨vx, vy⟩) pre
            have HE : Hid (besE (besM ⟨ux, uy⟩ ⟨vx, vy⟩) (besV ⟨ux, uy⟩ ⟨vx, vy⟩) ((⟨x1, y1⟩ : Pt), (⟨x2, y2⟩ : Pt)) = if besOver (besM ⟨ux, uy⟩ ⟨vx, vy⟩) (besV ⟨ux, uy⟩ ⟨vx, vy⟩) y1 = false ∧ besOver (besM ⟨ux, uy⟩ ⟨vx, vy⟩) (besV ⟨ux, uy⟩ ⟨vx, vy⟩) y2 = true ∧ 0 < besSide (besM ⟨ux, uy⟩ ⟨vx, vy⟩) (besV ⟨ux, uy⟩ ⟨vx, vy⟩) ⟨x1, y1⟩ ⟨x2, y2⟩ then 1 else if besOver (besM ⟨ux, uy⟩ ⟨vx, vy⟩) (besV ⟨ux, uy⟩ ⟨vx, vy⟩) y1 = true ∧ besOver (besM ⟨ux, uy⟩ ⟨vx, vy⟩) (besV ⟨ux, uy⟩ ⟨vx, vy⟩) y2 = false ∧ besSide (besM ⟨ux, uy⟩ ⟨vx, vy⟩) (besV ⟨ux, uy⟩ ⟨vx, vy⟩) ⟨x1, y1⟩ ⟨x2, y2⟩ < 0 then -1 else 0) := Lib.hid rfl
            have HOF : Hid (offM (besM ⟨ux, uy⟩ ⟨vx, vy⟩) (besV ⟨ux, uy⟩ ⟨vx, vy⟩) ((⟨x1, y1⟩ : Pt), (⟨x2, y2⟩ : Pt)) = !besHas (besM ⟨ux, uy⟩ ⟨vx, vy⟩) (besV ⟨ux, uy⟩ ⟨vx, vy⟩) ⟨x1, y1⟩ ⟨x2, y2⟩) := Lib.hid rfl
            have HHAS := Lib.hid (fun W => HMH.out ⟨x1, y1⟩ ⟨x2, y2⟩ op1 op2 W)
            have HSD := Lib.hid (fun W => HMS.out ⟨x1, y1⟩ ⟨x2, y2⟩ op1 op2 W)
            rw [okPt_iff] at op1 op2
            have HO1 := Lib.hid (fun W => HMO.out y1 op1.2 W)
            have HO2 := Lib.hid (fun W => HMO.out y2 op2.2 W)
            generalize besSide (besM ⟨ux, uy⟩ ⟨vx, vy⟩) (besV ⟨ux, uy⟩ ⟨vx, vy⟩) ⟨x1, y1⟩ ⟨x2, y2⟩ = SG at *
            generalize besHas (besM ⟨ux, uy⟩ ⟨vx, vy⟩) (besV ⟨ux, uy⟩ ⟨vx, vy⟩) ⟨x1, y1⟩ ⟨x2, y2⟩ = HA at *
            generalize besOver (besM ⟨ux, uy⟩ ⟨vx, vy⟩) (besV ⟨ux, uy⟩ ⟨vx, vy⟩) y1 = O1 at *
            generalize besOver (besM ⟨ux, uy⟩ ⟨vx, vy⟩) (besV ⟨ux, uy⟩ ⟨vx, vy⟩) y2 = O2 at *
            obtain ⟨SM, hSM⟩ : ∃ z, besS (besM ⟨ux, uy⟩ ⟨vx, vy⟩) (besV ⟨ux, uy⟩ ⟨vx, vy⟩) pre = z := ⟨_, rfl⟩
            rw [hSM] at HSN hbd b6
            have hp1000 : (pre.length : Int) ≤ 1000 := by omega
            dsimp only [Pt.cells, Pt.val, mwVal, besM, besV] at bA bB HHAS HSD HO1 HO2 ⊢
            clear hek hpre hpo hxe hSM HMH HMO HMS HEK
            have a0 := bA.cell 0 rfl
            have a1 := bA.cell 1 rfl
            have b0 := bB.cell 0 rfl
            have b1 := bB.cell 1 rfl
            have p0 := bm.cell 0 rfl
            have p1 := bm.cell 1 rfl
            have p2 := bm.cell 2 rfl
            have p3 := bm.cell 3 rfl
            gi_wp2_with fail
            refine ⟨trivial, (CallsIn.inRound l' (callsIn_wide.2 (HHAS.out _))).mono ?_⟩
            rintro e V1 ⟨rfl, hy1⟩
            replace b6 : Boxed V1 _ _ _ := (hy1.block _ b6.lt).trans b6
            replace b4 : Boxed V1 _ _ _ := (hy1.block _ b4.lt).trans b4
            replace b5 : Boxed V1 _ _ _ := (hy1.block _ b5.lt).trans b5
            replace bA := bA.keep hy1
            replace bB := bB.keep hy1
            replace bm := bm.keep hy1
            clear a0 a1 b0 b1 p0 p1 p2 p3
            have a0 := bA.cell 0 rfl
            have a1 := bA.cell 1 rfl
            have b0 := bB.cell 0 rfl
            have b1 := bB.cell 1 rfl
            have p0 := bm.cell 0 rfl
            have p1 := bm.cell 1 rfl
            have p2 := bm.cell 2 rfl
            have p3 := bm.cell 3 rfl
            have hx := hy1
            clear hy1
            cases HA with
            | true =>
              have c4 := b4.cell
              have c5 := b5.cell
              have f4 := b4.frozen
              have f5 := b5.frozen
              have hg2 := grown_step hgx (grownBy_of_below hx none) (fun k e => by cases e)
              have hko := KeepsOthers.of_below hx
              have hbW := hB0.grown hg2 (by omega) (fun k e => by have := Option.some.inj e; omega)
              have k4F := (b4.set (.int .i64 0)).other (B' := w.heap.size + 1 + 1 + 1) (by omega) (.bool false)
              have k5F := (b5.other (B' := w.heap.size + 1 + 1) (by omega) (.int .i64 0)).set (.bool false)
              have hbF := (hbW.set_at (b := w.heap.size + 1 + 1) (o := 0) (by omega) (.int .i64 0)).set_at (b := w.heap.size + 1 + 1 + 1) (o := 0) (by omega) (.bool false)
              gi_wp2
              refine ⟨hko.trans ((KeepsOthers.setCell _ _ _).trans (KeepsOthers.setCell _ _ _)), ⟨⟨rfl, ?_⟩, k4F, k5F⟩, hbF⟩
              rw [HWO2.out, List.all_eq_false]
              exact ⟨_, HMEM.out, by rw [HOF.out]; simp⟩
            | false =>
              have HPO2 : Hid ((pre ++ [((⟨x1, y1⟩ : Pt), (⟨x2, y2⟩ : Pt))]).all (offM (besM ⟨ux, uy⟩ ⟨vx, vy⟩) (besV ⟨ux, uy⟩ ⟨vx, vy⟩)) = true) := Lib.hid (by rw [HPO.out, HOF.out]; rfl)
              have HKEEP : Hid (∀ V, Boxed V (w2.heap.size + 1) 3 (.int .i64 (SM + besE (besM ⟨ux, uy⟩ ⟨vx, vy⟩) (besV ⟨ux, uy⟩ ⟨vx, vy⟩) ((⟨x1, y1⟩ : Pt), (⟨x2, y2⟩ : Pt)))) → W0.grownBy V (some (w2.heap.size + 1)) → KeepsOthers W V → postLeave (KpR a L (w2.heap.size + 1 + 1)) (fun (pre : List (Pt × Pt)) W => (((Boxed W (w2.heap.size + 1) 3 (.int .i64 (besS (besM ⟨ux, uy⟩ ⟨vx, vy⟩) (besV ⟨ux, uy⟩ ⟨vx, vy⟩) pre)) ∧ pre = (edges L).take pre.length) ∧ OffAllM (besM ⟨ux, uy⟩ ⟨vx, vy⟩) (besV ⟨ux, uy⟩ ⟨vx, vy⟩) pre) ∧ W0.grownBy W (some (w2.heap.size + 1)))) (fun (cc : Code) (pre : List (Pt × Pt)) W => (((cc = Code.ret ∧ WO = false) ∧ (Boxed W (w.heap.size + 1 + 1) 3 (.int .i64 0) ∧ Boxed W (w.heap.size + 1 + 1 + 1) 4 (.bool false))) ∧ Below w.heap.size w W)) (pre ++ [((⟨x1, y1⟩ : Pt), (⟨x2, y2⟩ : Pt))]) W .normal { tmps := #[], defers := [] } V) := Lib.hid (by
                intro V hV hgV hkV
                have hbV := hB0.grown hgV (by omega) (fun k e => by have := Option.some.inj e; omega)
                refine ⟨hkV, ⟨fun _ => hr.keep hbV, (hgV.block _ (by omega) (fun e => by have := Option.some.inj e; omega)).trans ?_⟩, ⟨⟨⟨by rw [HSN.out]; exact hV, ?_⟩, HPO2.out⟩, hgV⟩⟩
                · exact HBN.out.symm
                · rw [List.length_append]; exact HNP.out.symm)
              have hw1 : IntKind.i64.wrap (SM + 1) = SM + 1 := IntWalk.i64_in _ (by omega)
              have hw2 : IntKind.i64.wrap (SM - 1) = SM - 1 := IntWalk.i64_in _ (by omega)
              gi_wp2_with fail
              refine ⟨trivial, (CallsIn.inRound l' (callsIn_wide.2 (HO1.out _))).mono ?_⟩
              rintro e V2 ⟨rfl, hy2⟩
              replace b6 : Boxed V2 _ _ _ := (hy2.block _ b6.lt).trans b6
              replace b4 : Boxed V2 _ _ _ := (hy2.block _ b4.lt).trans b4
              replace b5 : Boxed V2 _ _ _ := (hy2.block _ b5.lt).trans b5
              replace bA := bA.keep hy2
              replace bB := bB.keep hy2
              replace bm := bm.keep hy2
              clear a0 a1 b0 b1 p0 p1 p2 p3
              have a0 := bA.cell 0 rfl
              have a1 := bA.cell 1 rfl
              have b0 := bB.cell 0 rfl
              have b1 := bB.cell 1 rfl
              have p0 := bm.cell 0 rfl
              have p1 := bm.cell 1 rfl
              have p2 := bm.cell 2 rfl
              have p3 := bm.cell 3 rfl
              replace hx := hx.trans (hy2.mono hx.size)
              clear hy2
              cases O1 with
              | false =>
                gi_wp2_with fail
                refine ⟨trivial, (CallsIn.inRound l' (callsIn_wide.2 (HO2.out _))).mono ?_⟩
                rintro e V3 ⟨rfl, hy3⟩
                replace b6 : Boxed V3 _ _ _ := (hy3.block _ b6.lt).trans b6
                replace b4 : Boxed V3 _ _ _ := (hy3.block _ b4.lt).trans b4
                replace b5 : Boxed V3 _ _ _ := (hy3.block _ b5.lt).trans b5
                replace bA := bA.keep hy3
                replace bB := bB.keep hy3
                replace bm := bm.keep hy3
                clear a0 a1 b0 b1 p0 p1 p2 p3
                have a0 := bA.cell 0 rfl
                have a1 := bA.cell 1 rfl
                have b0 := bB.cell 0 rfl
                have b1 := bB.cell 1 rfl
                have p0 := bm.cell 0 rfl
                have p1 := bm.cell 1 rfl
                have p2 := bm.cell 2 rfl
                have p3 := bm.cell 3 rfl
                replace hx := hx.trans (hy3.mono hx.size)
                clear hy3
                cases O2 with
                | true =>
                  gi_wp2_with fail
                  refine ⟨trivial, (CallsIn.inRound l' (callsIn_wide.2 (HSD.out _))).mono ?_⟩
                  rintro e V4 ⟨rfl, hy4⟩
                  replace b6 : Boxed V4 _ _ _ := (hy4.block _ b6.lt).trans b6
                  replace b4 : Boxed V4 _ _ _ := (hy4.block _ b4.lt).trans b4
                  replace b5 : Boxed V4 _ _ _ := (hy4.block _ b5.lt).trans b5
                  replace bA := bA.keep hy4
                  replace bB := bB.keep hy4
                  replace bm := bm.keep hy4
                  clear a0 a1 b0 b1 p0 p1 p2 p3
                  have a0 := bA.cell 0 rfl
                  have a1 := bA.cell 1 rfl
                  have b0 := bB.cell 0 rfl
                  have b1 := bB.cell 1 rfl
                  have p0 := bm.cell 0 rfl
                  have p1 := bm.cell 1 rfl
                  have p2 := bm.cell 2 rfl
                  have p3 := bm.cell 3 rfl
                  replace hx := hx.trans (hy4.mono hx.size)
                  clear hy4
                  by_cases q3 : 0 < SG
                  · have he : besE (besM ⟨ux, uy⟩ ⟨vx, vy⟩) (besV ⟨ux, uy⟩ ⟨vx, vy⟩) ((⟨x1, y1⟩ : Pt), (⟨x2, y2⟩ : Pt)) = 1 := by
                      rw [HE.out]
                      simp [q3]
                    have hg2 := grown_step hgx (grownBy_of_below hx none) (fun k e => by cases e)
                    have hko := KeepsOthers.of_below hx
                    have c6 := b6.cell
                    have f6 := b6.frozen
                    have HF := Lib.hid (HKEEP.out (V4.setCell ⟨w2.heap.size + 1, 0, none⟩ (.int .i64 (SM + 1))) (by rw [he]; exact b6.set _) (grown_step hg2 (grownBy_setCell' V4 (w2.heap.size + 1) _) (fun k e => .inr (Option.some.inj e).symm)) (hko.trans (KeepsOthers.setCell _ _ _)))
                    clear he hg2 hko bA bB bm b4 b5 hgx hx HKEEP HE
                    gi_wp2
                    exact HF.out
                  · gi_wp2_with fail
                    refine ⟨trivial, (CallsIn.inRound l' (callsIn_wide.2 (HO1.out _))).mono ?_⟩
                    rintro e V5 ⟨rfl, hy5⟩
                    replace b6 : Boxed V5 _ _ _ := (hy5.block _ b6.lt).trans b6
                    replace b4 : Boxed V5 _ _ _ := (hy5.block _ b4.lt).trans b4
                    replace b5 : Boxed V5 _ _ _ := (hy5.block _ b5.lt).trans b5
                    replace bA := bA.keep hy5
                    replace bB := bB.keep hy5
                    replace bm := bm.keep hy5
                    clear a0 a1 b0 b1 p0 p1 p2 p3
                    have a0 := bA.cell 0 rfl
                    have a1 := bA.cell 1 rfl
                    have b0 := bB.cell 0 rfl
                    have b1 := bB.cell 1 rfl
                    have p0 := bm.cell 0 rfl
                    have p1 := bm.cell 1 rfl
                    have p2 := bm.cell 2 rfl
                    have p3 := bm.cell 3 rfl
                    replace hx := hx.trans (hy5.mono hx.size)
                    clear hy5
                    have he : besE (besM ⟨ux, uy⟩ ⟨vx, vy⟩) (besV ⟨ux, uy⟩ ⟨vx, vy⟩) ((⟨x1, y1⟩ : Pt), (⟨x2, y2⟩ : Pt)) = 0 := by
                      rw [HE.out]
                      simp [q3]
                    have hg2 := grown_step hgx (grownBy_of_below hx none) (fun k e => by cases e)
                    have hko := KeepsOthers.of_below hx
                    have HF := Lib.hid (HKEEP.out _ (by rw [he, Int.add_zero]; exact b6) hg2 hko)
                    clear he hg2 hko bA bB bm b4 b5 hgx hx HKEEP HE
                    gi_wp2_with fail
                    refine ⟨trivial, ?_⟩
                    gi_wp2_with fail
                    refine ⟨trivial, ?_⟩
                    gi_wp2
                    exact HF.out
                | false =>
                  gi_wp2_with fail
                  refine ⟨trivial, ?_⟩
                  gi_wp2_with fail
                  refine ⟨trivial, (CallsIn.inRound l' (callsIn_wide.2 (HO1.out _))).mono ?_⟩
                  rintro e V6 ⟨rfl, hy6⟩
                  replace b6 : Boxed V6 _ _ _ := (hy6.block _ b6.lt).trans b6
                  replace b4 : Boxed V6 _ _ _ := (hy6.block _ b4.lt).trans b4
                  replace b5 : Boxed V6 _ _ _ := (hy6.block _ b5.lt).trans b5
                  replace bA := bA.keep hy6
                  replace bB := bB.keep hy6
                  replace bm := bm.keep hy6
                  clear a0 a1 b0 b1 p0 p1 p2 p3
                  have a0 := bA.cell 0 rfl
                  have a1 := bA.cell 1 rfl
                  have b0 := bB.cell 0 rfl
                  have b1 := bB.cell 1 rfl
                  have p0 := bm.cell 0 rfl
                  have p1 := bm.cell 1 rfl
                  have p2 := bm.cell 2 rfl
                  have p3 := bm.cell 3 rfl
                  replace hx := hx.trans (hy6.mono hx.size)
                  clear hy6
                  have he : besE (besM ⟨ux, uy⟩ ⟨vx, vy⟩) (besV ⟨ux, uy⟩ ⟨vx, vy⟩) ((⟨x1, y1⟩ : Pt), (⟨x2, y2⟩ : Pt)) = 0 := by
                    rw [HE.out]
                    simp 
                  have hg2 := grown_step hgx (grownBy_of_below hx none) (fun k e => by cases e)
                  have hko := KeepsOthers.of_below hx
                  have HF := Lib.hid (HKEEP.out _ (by rw [he, Int.add_zero]; exact b6) hg2 hko)
                  clear he hg2 hko bA bB bm b4 b5 hgx hx HKEEP HE
                  gi_wp2_with fail
                  refine ⟨trivial, ?_⟩
                  gi_wp2_with fail
                  refine ⟨trivial, ?_⟩
                  gi_wp2
                  exact HF.out
              | true =>
                gi_wp2_with fail
                refine ⟨trivial, ?_⟩
                gi_wp2_with fail
                refine ⟨trivial, ?_⟩
                gi_wp2_with fail
                refine ⟨trivial, (CallsIn.inRound l' (callsIn_wide.2 (HO1.out _))).mono ?_⟩
                rintro e V7 ⟨rfl, hy7⟩
                replace b6 : Boxed V7 _ _ _ := (hy7.block _ b6.lt).trans b6
                replace b4 : Boxed V7 _ _ _ := (hy7.block _ b4.lt).trans b4
                replace b5 : Boxed V7 _ _ _ := (hy7.block _ b5.lt).trans b5
                replace bA := bA.keep hy7
                replace bB := bB.keep hy7
                replace bm := bm.keep hy7
                clear a0 a1 b0 b1 p0 p1 p2 p3
                have a0 := bA.cell 0 rfl
                have a1 := bA.cell 1 rfl
                have b0 := bB.cell 0 rfl
                have b1 := bB.cell 1 rfl
                have p0 := bm.cell 0 rfl
                have p1 := bm.cell 1 rfl
                have p2 := bm.cell 2 rfl
                have p3 := bm.cell 3 rfl
                replace hx := hx.trans (hy7.mono hx.size)
                clear hy7
                gi_wp2_with fail
                refine ⟨trivial, (CallsIn.inRound l' (callsIn_wide.2 (HO2.out _))).mono ?_⟩
                rintro e V8 ⟨rfl, hy8⟩
                replace b6 : Boxed V8 _ _ _ := (hy8.block _ b6.lt).trans b6
                replace b4 : Boxed V8 _ _ _ := (hy8.block _ b4.lt).trans b4
                replace b5 : Boxed V8 _ _ _ := (hy8.block _ b5.lt).trans b5
                replace bA := bA.keep hy8
                replace bB := bB.keep hy8
                replace bm := bm.keep hy8
                clear a0 a1 b0 b1 p0 p1 p2 p3
                have a0 := bA.cell 0 rfl
                have a1 := bA.cell 1 rfl
                have b0 := bB.cell 0 rfl
                have b1 := bB.cell 1 rfl
                have p0 := bm.cell 0 rfl
                have p1 := bm.cell 1 rfl
                have p2 := bm.cell 2 rfl
                have p3 := bm.cell 3 rfl
                replace hx := hx.trans (hy8.mono hx.size)
                clear hy8
                cases O2 with
                | true =>
                  have he : besE (besM ⟨ux, uy⟩ ⟨vx, vy⟩) (besV ⟨ux, uy⟩ ⟨vx, vy⟩) ((⟨x1, y1⟩ : Pt), (⟨x2, y2⟩ : Pt)) = 0 := by
                    rw [HE.out]
                    simp 
                  have hg2 := grown_step hgx (grownBy_of_below hx none) (fun k e => by cases e)
                  have hko := KeepsOthers.of_below hx
                  have HF := Lib.hid (HKEEP.out _ (by rw [he, Int.add_zero]; exact b6) hg2 hko)
                  clear he hg2 hko bA bB bm b4 b5 hgx hx HKEEP HE
                  gi_wp2_with fail
                  refine ⟨trivial, ?_⟩
                  gi_wp2
                  exact HF.out
                | false =>
                  gi_wp2_with fail
                  refine ⟨trivial, (CallsIn.inRound l' (callsIn_wide.2 (HSD.out _))).mono ?_⟩
                  rintro e V9 ⟨rfl, hy9⟩
                  replace b6 : Boxed V9 _ _ _ := (hy9.block _ b6.lt).trans b6
                  replace b4 : Boxed V9 _ _ _ := (hy9.block _ b4.lt).trans b4
                  replace b5 : Boxed V9 _ _ _ := (hy9.block _ b5.lt).trans b5
                  replace bA := bA.keep hy9
                  replace bB := bB.keep hy9
                  replace bm := bm.keep hy9
                  clear a0 a1 b0 b1 p0 p1 p2 p3
                  have a0 := bA.cell 0 rfl
                  have a1 := bA.cell 1 rfl
                  have b0 := bB.cell 0 rfl
                  have b1 := bB.cell 1 rfl
                  have p0 := bm.cell 0 rfl
                  have p1 := bm.cell 1 rfl
                  have p2 := bm.cell 2 rfl
                  have p3 := bm.cell 3 rfl
                  replace hx := hx.trans (hy9.mono hx.size)
                  clear hy9
                  by_cases q3 : SG < 0
                  · have he : besE (besM ⟨ux, uy⟩ ⟨vx, vy⟩) (besV ⟨ux, uy⟩ ⟨vx, vy⟩) ((⟨x1, y1⟩ : Pt), (⟨x2, y2⟩ : Pt)) = -1 := by
                      rw [HE.out]
                      simp [q3]
                    have hg2 := grown_step hgx (grownBy_of_below hx none) (fun k e => by cases e)
                    have hko := KeepsOthers.of_below hx
                    have c6 := b6.cell
                    have f6 := b6.frozen
                    have HF := Lib.hid (HKEEP.out (V9.setCell ⟨w2.heap.size + 1, 0, none⟩ (.int .i64 (SM - 1))) (by rw [he]; exact b6.set _) (grown_step hg2 (grownBy_setCell' V9 (w2.heap.size + 1) _) (fun k e => .inr (Option.some.inj e).symm)) (hko.trans (KeepsOthers.setCell _ _ _)))
                    clear he hg2 hko bA bB bm b4 b5 hgx hx HKEEP HE
                    gi_wp2
                    exact HF.out
                  · have he : besE (besM ⟨ux, uy⟩ ⟨vx, vy⟩) (besV ⟨ux, uy⟩ ⟨vx, vy⟩) ((⟨x1, y1⟩ : Pt), (⟨x2, y2⟩ : Pt)) = 0 := by
                      rw [HE.out]
                      simp [q3]
                    have hg2 := grown_step hgx (grownBy_of_below hx none) (fun k e => by cases e)
                    have hko := KeepsOthers.of_below hx
                    have HF := Lib.hid (HKEEP.out _ (by rw [he, Int.add_zero]; exact b6) hg2 hko)
                    clear he hg2 hko bA bB bm b4 b5 hgx hx HKEEP HE
                    gi_wp2
                    exact HF.out
          case done =>
            rintro D xs W hD rfl ⟨⟨⟨b6, -⟩, hpo⟩, hgx⟩ hK
            have b4 := k4.kept hgx (fun e => by have := Option.some.inj e; omega)
            have b5 := k5.kept hgx (fun e => by have := Option.some.inj e; omega)
            have hbW := hB0.grown hgx (by omega) (fun k e => by have := Option.some.inj e; omega)
            have hWO : WO = true := by rw [HWO2.out]; exact hpo
            have HV : Hid (WF = besS (besM ⟨ux, uy⟩ ⟨vx, vy⟩) (besV ⟨ux, uy⟩ ⟨vx, vy⟩) (edges L)) := Lib.hid (by rw [HWF.out, hWO]; rfl)
            have HWO3 := Lib.hid hWO
            obtain ⟨SM, hSM⟩ : ∃ z, besS (besM ⟨ux, uy⟩ ⟨vx, vy⟩) (besV ⟨ux, uy⟩ ⟨vx, vy⟩) (edges L) = z := ⟨_, rfl⟩
            rw [hSM] at b6 HV
            have k4F := (b4.set (.int .i64 SM)).other (B' := w.heap.size + 1 + 1 + 1) (by omega) (.bool true)
            have k5F := (b5.other (B' := w.heap.size + 1 + 1) (by omega) (.int .i64 SM)).set (.bool true)
            have hbF := (hbW.set_at (b := w.heap.size + 1 + 1) (o := 0) (by omega) (.int .i64 SM)).set_at (b := w.heap.size + 1 + 1 + 1) (o := 0) (by omega) (.bool true)
            have hKF : ((W.setCell ⟨w.heap.size + 1 + 1, 0, none⟩ (.int .i64 SM)).setCell ⟨w.heap.size + 1 + 1 + 1, 0, none⟩ (.bool true)).heap[D]? = some (.deferred (some [])) := ((Below.heap_setCell _ _ _ _ (by simp; omega)).trans (Below.heap_setCell _ _ _ _ (by simp; omega))).trans hK
            have c4 := b4.cell
            have c5 := b5.cell
            have c6 := b6.cell
            have f4 := b4.frozen
            have f5 := b5.frozen
            clear hpo hWO hSM b4 b5 b6 k4 k5 hK HWO2 HWF hgx hbW
            go_wp2
            generalize (W.setCell ⟨w.heap.size + 1 + 1, 0, none⟩ (.int .i64 SM)).setCell ⟨w.heap.size + 1 + 1 + 1, 0, none⟩ (.bool true) = wF at *
            refine ⟨by simp, .inl ⟨_, _, rfl, run_takeDeferred hKF, ?_⟩⟩
            have g4 := (k4F.kept (grownBy_putObj' wF D (.deferred none)) (fun e => by have := Option.some.inj e; omega)).cell
            have g5 := (k5F.kept (grownBy_putObj' wF D (.deferred none)) (fun e => by have := Option.some.inj e; omega)).cell
            refine ⟨.tuple #[.int .i64 SM, .bool true], by simp [results, Try.results58, go_sem, g4, g5], ?_, hbF.trans (belowK_b (w := w) (Nat.le_refl _) wF D _ _ (by omega) hKF rfl rfl)⟩
            rw [HV.out, HWO3.out]
          case stop =>
            rintro D cc pre W hD ⟨⟨⟨rfl, hWO⟩, b4, b5⟩, hbW⟩ hK
            have HWO3 := Lib.hid hWO
            have HV : Hid (WF = 0) := Lib.hid (by rw [HWF.out, hWO]; rfl)
            clear hWO HWO2 HWF
            gi_wp2
            refine ⟨by simp, .inl ⟨_, _, rfl, run_takeDeferred hK, ?_⟩⟩
            have g4 := (b4.kept (grownBy_putObj' W D (.deferred none)) (fun e => by have := Option.some.inj e; omega)).cell
            have g5 := (b5.kept (grownBy_putObj' W D (.deferred none)) (fun e => by have := Option.some.inj e; omega)).cell
            refine ⟨.tuple #[.int .i64 0, .bool false], by simp [results, Try.results58, go_sem, g4, g5], ?_, hbW.trans (belowK_b (w := w) (Nat.le_refl _) W D _ _ (by omega) hK rfl rfl)⟩
            rw [HV.out, HWO3.out]
end Go.Proofs.Ytebplobagmjfeaa

/-
  exact.Turn, between, On.
-/
import Derived.Test.YtdginfjlelpkmaaExact
import Derived.Test.YtdginfjlelpkmaaSgeo
set_option linter.unusedVariables false
set_option linter.unusedSimpArgs false
set_option maxRecDepth 100000
namespace Go
/-- Lies a point within the box of two others? -/
def boxB (a b p : Pt) : Bool := decide (min a.x b.x ≤ p.x ∧ p.x ≤ max a.x b.x) && decide (min a.y b.y ≤ p.y ∧ p.y ≤ max a.y b.y)
/-- Lies a point on a segment? (Points that may be.) -/
def onX (a b p : Pt) : Bool := decide (crs a b p = 0) && boxB a b p
end Go
namespace Go.Proofs.Ytdginfjlelpkmaa
open Go.RowKit
/-- Three points laid one behind the other. -/
theorem three_lit (w : World) (T : TypeId) (a b c : Pt) :
    Blk (((w.alloc (.cells #[.int .i64 a.x, .int .i64 a.y] T)).alloc (.cells #[.int .i64 b.x, .int .i64 b.y] T)).alloc (.cells #[.int .i64 c.x, .int .i64 c.y] T)) w.heap.size a.cells ∧
    Blk (((w.alloc (.cells #[.int .i64 a.x, .int .i64 a.y] T)).alloc (.cells #[.int .i64 b.x, .int .i64 b.y] T)).alloc (.cells #[.int .i64 c.x, .int .i64 c.y] T)) (w.heap.size + 1) b.cells ∧
    Blk (((w.alloc (.cells #[.int .i64 a.x, .int .i64 a.y] T)).alloc (.cells #[.int .i64 b.x, .int .i64 b.y] T)).alloc (.cells #[.int .i64 c.x, .int .i64 c.y] T)) (w.heap.size + 1 + 1) c.cells ∧
    Below w.heap.size w (((w.alloc (.cells #[.int .i64 a.x, .int .i64 a.y] T)).alloc (.cells #[.int .i64 b.x, .int .i64 b.y] T)).alloc (.cells #[.int .i64 c.x, .int .i64 c.y] T)) :=
  ⟨((Blk.lit w w.heap.size a.cells T rfl).alloc _).alloc _, (Blk.lit _ (w.heap.size + 1) b.cells T (by simp)).alloc _, Blk.lit _ (w.heap.size + 1 + 1) c.cells T (by simp),
   ((Below.new w _).alloc (by simp) _).alloc (by simp; omega) _⟩

set_option maxHeartbeats 800000 in
theorem xturn_any (a b c : Pt) (ha : okPt a = true) (hb : okPt b = true) (hc : okPt c = true) (w : World) :
    Calls Try.prog 58 #[a.val, b.val, c.val] w fun e w' => e = .returned (.int .i64 (sg (crs a b c))) ∧ Below w.heap.size w w' := by
  have HX := Lib.hid (fun w => xcross_any a b c ha hb hc w)
  obtain ⟨kA, kB, kC, hbl⟩ := three_lit w 37 a b c
  have HSG : Hid (sg (crs a b c) = if 0 < crs a b c then 1 else if crs a b c < 0 then -1 else 0) := Lib.hid rfl
  generalize sg (crs a b c) = SG at *
  generalize crs a b c = N at *
  obtain ⟨ax, ay⟩ := a
  obtain ⟨bx, bY⟩ := b
  obtain ⟨cx, cy⟩ := c
  dsimp only [Pt.val, Pt.cells] at *
  have a0 := kA.cell 0 rfl
  have a1 := kA.cell 1 rfl
  have b0 := kB.cell 0 rfl
  have b1 := kB.cell 1 rfl
  have c0 := kC.cell 0 rfl
  have c1 := kC.cell 1 rfl
  clear ha hb hc
  go_enter Try.func58, Try.ntmps58
  go_wp2_with fail
  refine (HX.out _).mono ?_
  rintro e w1 ⟨rfl, hb1⟩
  have hbf := hbl.trans (hb1.mono hbl.size)
  clear a0 a1 b0 b1 c0 c1 kA kB kC HX hbl hb1
  by_cases h1 : 0 < N
  · go_wp2
    go_ret
    exact ⟨ret_int (by rw [HSG.out]; (repeat' split) <;> omega), hbf⟩
  · by_cases h2 : N < 0
    · go_wp2
      go_ret
      exact ⟨ret_int (by rw [HSG.out]; (repeat' split) <;> omega), hbf⟩
    · go_wp2
      go_ret
      exact ⟨ret_int (by rw [HSG.out]; (repeat' split) <;> omega), hbf⟩

set_option maxHeartbeats 1600000 in
theorem xbetween_any (a b c : Pt) (w : World) :
    Calls Try.prog 73 #[a.val, b.val, c.val] w fun e w' => e = .returned (.bool (boxB a b c)) ∧ Below w.heap.size w w' := by
  have HW := Lib.hid (fun n lo hi w => xwithin_any n lo hi w)
  obtain ⟨kA, kB, kC, hbl⟩ := three_lit w 37 a b c
  have HB : Hid (boxB a b c = (decide (min a.x b.x ≤ c.x ∧ c.x ≤ max a.x b.x) && decide (min a.y b.y ≤ c.y ∧ c.y ≤ max a.y b.y))) := Lib.hid rfl
  generalize boxB a b c = BB at *
  obtain ⟨ax, ay⟩ := a
  obtain ⟨bx, bY⟩ := b
  obtain ⟨cx, cy⟩ := c
  dsimp only [Pt.val, Pt.cells] at *
  have a0 := kA.cell 0 rfl
  have a1 := kA.cell 1 rfl
  have b0 := kB.cell 0 rfl
  have b1 := kB.cell 1 rfl
  have c0 := kC.cell 0 rfl
  have c1 := kC.cell 1 rfl
  obtain ⟨lx, hlx⟩ : ∃ z : Int, (if bx < ax then bx else ax) = z := ⟨_, rfl⟩
  obtain ⟨ly, hly⟩ : ∃ z : Int, (if bY < ay then bY else ay) = z := ⟨_, rfl⟩
  obtain ⟨mx, hmx⟩ : ∃ z : Int, (if ax < bx then bx else ax) = z := ⟨_, rfl⟩
  obtain ⟨my, hmy⟩ : ∃ z : Int, (if ay < bY then bY else ay) = z := ⟨_, rfl⟩
  have e1 : min ax bx = lx := by rw [← hlx]; split <;> omega
  have e2 : min ay bY = ly := by rw [← hly]; split <;> omega
  have e3 : max ax bx = mx := by rw [← hmx]; split <;> omega
  have e4 : max ay bY = my := by rw [← hmy]; split <;> omega
  rw [e1, e2, e3, e4] at HB
  clear e1 e2 e3 e4
  go_enter Try.func73, Try.ntmps73
  go_wp2_with fail
  refine (HW.out _ _ _ _).mono ?_
  rintro e w1 ⟨rfl, rfl⟩
  cases hB1 : decide (lx ≤ cx ∧ cx ≤ mx) with
  | false =>
    rw [hB1] at HB
    go_wp2
    go_ret
    exact ⟨ret_bool (by rw [HB.out]; rfl), hbl⟩
  | true =>
    rw [hB1] at HB
    go_wp2_with fail
    refine (HW.out _ _ _ _).mono ?_
    rintro e w1 ⟨rfl, rfl⟩
    cases hB2 : decide (ly ≤ cy ∧ cy ≤ my) with
    | false =>
      rw [hB2] at HB
      go_wp2
      go_ret
      exact ⟨ret_bool (by rw [HB.out]; rfl), hbl⟩
    | true =>
      rw [hB2] at HB
      go_wp2
      go_ret
      exact ⟨ret_bool (by rw [HB.out]; rfl), hbl⟩

set_option maxHeartbeats 1600000 in
theorem xon_any (a b c : Pt) (ha : okPt a = true) (hb : okPt b = true) (hc : okPt c = true) (w : World) :
    Calls Try.prog 59 #[a.val, b.val, c.val] w fun e w' => e = .returned (.bool (onX a b c)) ∧ Below w.heap.size w w' := by
  have HT := Lib.hid (fun w => xturn_any a b c ha hb hc w)
  have HBT := Lib.hid (fun w => xbetween_any a b c w)
  have hall : ([a, b, c].all okPt) = true := by simp [ha, hb, hc]
  obtain ⟨kA, kB, kC, hbl⟩ := three_lit w 37 a b c
  have HON : Hid (onX a b c = (decide (sg (crs a b c) = 0) && boxB a b c)) := Lib.hid (by unfold onX; simp only [sg_zero])
  have hri := fun W h => xright_any (some ⟨w.heap.size + 1 + 1 + 1, 0, none⟩) 3 [a, b, c] (by simp [maxLen]) W h
  rw [hall] at hri
  have HRI := Lib.hid hri
  clear hri hall
  generalize onX a b c = ON at *
  generalize sg (crs a b c) = SG at *
  generalize boxB a b c = BB at *
  obtain ⟨ax, ay⟩ := a
  obtain ⟨bx, bY⟩ := b
  obtain ⟨cx, cy⟩ := c
  dsimp only [Pt.val, Pt.cells] at *
  have a0 := kA.cell 0 rfl
  have a1 := kA.cell 1 rfl
  have b0 := kB.cell 0 rfl
  have b1 := kB.cell 1 rfl
  have c0 := kC.cell 0 rfl
  have c1 := kC.cell 1 rfl
  clear ha hb hc
  go_enter Try.func59, Try.ntmps59
  go_wp2_with fail
  refine (HRI.out _ (Rd.lit _ _ [.int .i64 ax, .int .i64 ay, .int .i64 bx, .int .i64 bY, .int .i64 cx, .int .i64 cy] _ (by simp))).mono ?_
  rintro e w1 ⟨rfl, hx1⟩
  have hlw : (((w.alloc (.cells #[.int .i64 ax, .int .i64 ay] 37)).alloc (.cells #[.int .i64 bx, .int .i64 bY] 37)).alloc (.cells #[.int .i64 cx, .int .i64 cy] 37)).heap.size = w.heap.size + 1 + 1 + 1 := by simp
  have hx2 := (Below.new (((w.alloc (.cells #[.int .i64 ax, .int .i64 ay] 37)).alloc (.cells #[.int .i64 bx, .int .i64 bY] 37)).alloc (.cells #[.int .i64 cx, .int .i64 cy] 37)) (.cells #[.int .i64 ax, .int .i64 ay, .int .i64 bx, .int .i64 bY, .int .i64 cx, .int .i64 cy] 37)).trans (hx1.mono (by simp))
  have kA := kA.keep hx2
  have kB := kB.keep hx2
  have kC := kC.keep hx2
  have hbl := hbl.trans (hx2.mono hbl.size)
  clear a0 a1 b0 b1 c0 c1 hx1 hx2 hlw HRI
  have a0 := kA.cell 0 rfl
  have a1 := kA.cell 1 rfl
  have b0 := kB.cell 0 rfl
  have b1 := kB.cell 1 rfl
  have c0 := kC.cell 0 rfl
  have c1 := kC.cell 1 rfl
  go_wp2_with fail
  refine (HT.out _).mono ?_
  rintro e w2 ⟨rfl, hx1⟩
  have kA := kA.keep hx1
  have kB := kB.keep hx1
  have kC := kC.keep hx1
  have hbl := hbl.trans (hx1.mono hbl.size)
  clear a0 a1 b0 b1 c0 c1 hx1 HT
  by_cases hz : SG = 0
  · subst hz
    have a0 := kA.cell 0 rfl
    have a1 := kA.cell 1 rfl
    have b0 := kB.cell 0 rfl
    have b1 := kB.cell 1 rfl
    have c0 := kC.cell 0 rfl
    have c1 := kC.cell 1 rfl
    go_wp2_with fail
    refine (HBT.out _).mono ?_
    rintro e w3 ⟨rfl, hx1⟩
    have hbl := hbl.trans (hx1.mono hbl.size)
    clear a0 a1 b0 b1 c0 c1 hx1 HBT kA kB kC
    go_wp2
    go_ret
    exact ⟨ret_bool (by rw [HON.out]; simp), hbl⟩
  · go_wp2
    go_ret
    exact ⟨ret_bool (by rw [HON.out]; simp; omega), hbl⟩
end Go.Proofs.Ytdginfjlelpkmaa

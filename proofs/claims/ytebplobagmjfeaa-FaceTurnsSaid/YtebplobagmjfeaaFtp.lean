/-
  How great what few_any leaves is (plain).
-/
import Derived.Test.YtebplobagmjfeaaCyc
import Derived.Test.YtebplobagmjfeaaFwind
import Derived.Test.YtebplobagmjfeaaArea
import Derived.Test.YtebplobagmjfeaaFfew
import Derived.Test.YtebplobagmjfeaaSdl
import Derived.Test.YtebplobagmjfeaaScol
/- A face whose rings are turned goes round a point the other way (plain). -/
set_option linter.unusedVariables false
set_option linter.unusedSimpArgs false
namespace Go
theorem fwOk_turned (p : Pt) (l : List (List Pt)) : fwOk p (l.map turnedP) = fwOk p l := by
  unfold fwOk
  induction l with
  | nil => rfl
  | cons r l ih => simp only [List.map_cons, List.all_cons, windOk_turned, ih]
theorem fwS_turned (p : Pt) (l : List (List Pt)) : fwS p (l.map turnedP) = -fwS p l := by
  induction l with
  | nil => rfl
  | cons r l ih => simp only [List.map_cons, fwS, windF_turned, ih]; omega
theorem fwF_turned (p : Pt) (l : List (List Pt)) : fwF p (l.map turnedP) = -fwF p l := by
  unfold fwF
  rw [fwOk_turned, fwS_turned]
  split <;> simp
end Go
/- The area of the turned ring (plain). -/
set_option linter.unusedVariables false
set_option linter.unusedSimpArgs false
namespace Go
theorem crs_flip (a b c : Pt) : crs a c b = -crs a b c := by
  unfold crs
  rw [Int.mul_comm (c.x - a.x), Int.mul_comm (c.y - a.y)]
  omega
theorem fan_sum (l : List Pt) (r : List (Pt × Pt)) : fan l r = (r.map fun e => crs l[0]! e.1 e.2).sum := by
  induction r with
  | nil => rfl
  | cons e r ih => simp only [fan, List.map_cons, List.sum_cons, ih]
theorem turnedP_zero (l : List Pt) : (turnedP l)[0]! = l[0]! := by
  cases l <;> rfl
theorem areaF_turned (l : List Pt) : areaF (turnedP l) = -areaF l := by
  unfold areaF
  rw [turnedP_len, turnedP_all, fan_sum, fan_sum, turnedP_zero, edges_turned (fun a b => crs l[0]! a b) (fun a b => crs_flip _ a b) l]
  split <;> simp
end Go
set_option linter.unusedVariables false
set_option linter.unusedSimpArgs false
namespace Go
theorem fewRs_all (most : Nat) (l : List (List Pt)) (p : Nat) : (fewRs most p l).1.length = l.length ∧ ∀ r ∈ (fewRs most p l).1, r.length ≤ most := by
  have key : ∀ (l : List (List Pt)) (s : List (List Pt) × Nat), (∀ r ∈ s.1, r.length ≤ most) → (l.foldl (fewStep most) s).1.length = s.1.length + l.length ∧ ∀ r ∈ (l.foldl (fewStep most) s).1, r.length ≤ most := by
    intro l
    induction l with
    | nil => intro s h; exact ⟨rfl, h⟩
    | cons r l ih =>
      intro s h
      have := ih (fewStep most s r) (by
        intro q hq
        simp only [fewStep, List.mem_append, List.mem_singleton] at hq
        rcases hq with hq | rfl
        · exact h q hq
        · rw [List.length_take]; omega)
      refine ⟨?_, this.2⟩
      rw [List.foldl_cons, this.1]
      simp only [fewStep, List.length_append, List.length_nil, List.length_cons]
      omega
  have := key l ([], p) (by simp)
  refine ⟨?_, this.2⟩
  have h1 := this.1
  simpa [fewRs] using h1
theorem fewF_all (most : Nat) (l : List Fp) : (fewF most l).length ≤ 10 ∧ ∀ f ∈ fewF most l, f.rings.length ≤ 8 ∧ ∀ r ∈ f.rings, r.length ≤ most := by
  have key : ∀ (l : List Fp) (s : List Fp × Nat), (∀ f ∈ s.1, f.rings.length ≤ 8 ∧ ∀ r ∈ f.rings, r.length ≤ most) → (l.foldl (fewStepF most) s).1.length = s.1.length + l.length ∧ ∀ f ∈ (l.foldl (fewStepF most) s).1, f.rings.length ≤ 8 ∧ ∀ r ∈ f.rings, r.length ≤ most := by
    intro l
    induction l with
    | nil => intro s h; exact ⟨rfl, h⟩
    | cons r l ih =>
      intro s h
      have := ih (fewStepF most s r) (by
        intro q hq
        simp only [fewStepF, List.mem_append, List.mem_singleton] at hq
        rcases hq with hq | rfl
        · exact h q hq
        · have k := fewRs_all most (r.rings.take 8) s.2
          refine ⟨?_, k.2⟩
          show (fewRs most s.2 (r.rings.take 8)).1.length ≤ 8
          rw [k.1, List.length_take]; omega)
      refine ⟨?_, this.2⟩
      rw [List.foldl_cons, this.1]
      simp only [fewStepF, List.length_append, List.length_nil, List.length_cons]
      omega
  have := key (l.take 10) ([], 0) (by simp)
  refine ⟨?_, this.2⟩
  have h1 := this.1
  unfold fewF fewFs
  rw [h1, List.length_take]
  simp only [List.length_nil]
  omega
theorem faceSd_len (i : Nat) (f : List (List Pt)) (m B : Nat) (hm : m ≤ f.length) (h : ∀ r ∈ f, r.length ≤ B) : (faceSd i f m).length ≤ m * B := by
  induction m with
  | zero => simp [faceSd]
  | succ m ih =>
    rw [faceSd_succ, List.length_append]
    have e : (ringSd i m f[m]!).length ≤ B := by
      have := h f[m]! (by rw [getElem!_pos f m (by omega)]; exact List.getElem_mem _)
      simp only [ringSd, List.length_map]
      refine Nat.le_trans ?_ this
      simp [edges]
    have := ih (by omega)
    rw [Nat.succ_mul]
    omega
theorem someSd_len (l : List (List (List Pt))) (k : Nat) (hk : k ≤ l.length) (h : ∀ f ∈ l, f.length ≤ 8 ∧ ∀ r ∈ f, r.length ≤ 60) : (someSd l k).length ≤ k * 480 := by
  induction k with
  | zero => simp [someSd]
  | succ k ih =>
    rw [someSd_succ, List.length_append]
    have hf := h l[k]! (by rw [getElem!_pos l k (by omega)]; exact List.getElem_mem _)
    have e := faceSd_len k l[k]! (l[k]!).length 60 (Nat.le_refl _) hf.2
    have := ih (by omega)
    omega
theorem allSd_few (l : List (List (List Pt))) (hl : l.length ≤ 20) (h : ∀ f ∈ l, f.length ≤ 8 ∧ ∀ r ∈ f, r.length ≤ 60) : (allSd l).length ≤ 9600 := by
  have := someSd_len l l.length (Nat.le_refl _) h
  unfold allSd
  omega
/-- What is told of faces that are left. -/
theorem few_rings {fs : List Fc} {l : List Fp} (h : fs.map Fc.plain = fewF 60 l) : fs.length ≤ 10 ∧ ∀ f ∈ fs, f.rs.length ≤ 8 ∧ ∀ r ∈ f.rs, r.l.length ≤ 60 := by
  obtain ⟨h1, h2⟩ := fewF_all 60 l
  rw [← h] at h1 h2
  refine ⟨by simpa using h1, fun f hf => ?_⟩
  have := h2 f.plain (List.mem_map_of_mem hf)
  refine ⟨by simpa [Fc.plain, Fc.rings] using this.1, fun r hr => this.2 r.l ?_⟩
  exact List.mem_map_of_mem hr
theorem few_map {fs : List Fc} (h : ∀ f ∈ fs, f.rs.length ≤ 8 ∧ ∀ r ∈ f.rs, r.l.length ≤ 60) : ∀ f ∈ fs.map Fc.rings, f.length ≤ 8 ∧ ∀ r ∈ f, r.length ≤ 60 := by
  intro f hf
  obtain ⟨g, hg, rfl⟩ := List.mem_map.1 hf
  refine ⟨by simpa [Fc.rings] using (h g hg).1, fun r hr => ?_⟩
  obtain ⟨x, hx, rfl⟩ := List.mem_map.1 hr
  exact (h g hg).2 x hx
end Go
namespace Go
open Go.RowKit
/-- The cells of one side of many. -/
theorem Rd.sd {w : World} {a : Option Addr} {l : List Sd} (h : Rd w a (sds l)) (i : Nat) (hi : i < l.length) :
    ∃ b off, a = some ⟨b, off, none⟩ ∧ b < w.heap.size ∧ w.cell? ⟨b, off + i * 6, none⟩ = some (.int .i64 l[i].f) ∧ w.cell? ⟨b, off + i * 6 + 1, none⟩ = some (.int .i64 l[i].r) ∧ w.cell? ⟨b, off + i * 6 + 2, none⟩ = some (.int .i64 l[i].a.x) ∧ w.cell? ⟨b, off + i * 6 + 3, none⟩ = some (.int .i64 l[i].a.y) ∧ w.cell? ⟨b, off + i * 6 + 4, none⟩ = some (.int .i64 l[i].b.x) ∧ w.cell? ⟨b, off + i * 6 + 5, none⟩ = some (.int .i64 l[i].b.y) := by
  have g : ∀ j, j < 6 → (sds l)[i * 6 + j]? = (l[i]).cells[j]? := fun j hj => flatMap_get Sd.cells 6 (fun _ => rfl) l i j hi hj
  obtain ⟨b, off, rfl, h0, hb⟩ := h.at (i := i * 6 + 0) (v := .int .i64 l[i].f) (by rw [g 0 (by omega)]; rfl)
  obtain ⟨b', off', e, h1, -⟩ := h.at (i := i * 6 + 1) (v := .int .i64 l[i].r) (by rw [g 1 (by omega)]; rfl)
  cases e
  obtain ⟨b', off', e, h2, -⟩ := h.at (i := i * 6 + 2) (v := .int .i64 l[i].a.x) (by rw [g 2 (by omega)]; rfl)
  cases e
  obtain ⟨b', off', e, h3, -⟩ := h.at (i := i * 6 + 3) (v := .int .i64 l[i].a.y) (by rw [g 3 (by omega)]; rfl)
  cases e
  obtain ⟨b', off', e, h4, -⟩ := h.at (i := i * 6 + 4) (v := .int .i64 l[i].b.x) (by rw [g 4 (by omega)]; rfl)
  cases e
  obtain ⟨b', off', e, h5, -⟩ := h.at (i := i * 6 + 5) (v := .int .i64 l[i].b.y) (by rw [g 5 (by omega)]; rfl)
  cases e
  exact ⟨b, off, rfl, hb, h0, by rw [Nat.add_assoc]; exact h1, by rw [Nat.add_assoc]; exact h2, by rw [Nat.add_assoc]; exact h3, by rw [Nat.add_assoc]; exact h4, by rw [Nat.add_assoc]; exact h5⟩
end Go
namespace Go
theorem allSd_lt (l : List (List (List Pt))) : ∀ s ∈ allSd l, s.f < l.length := by
  intro s hs
  unfold allSd someSd at hs
  obtain ⟨i, hi, hs⟩ := List.mem_flatMap.1 hs
  unfold faceSd at hs
  obtain ⟨k, -, hs⟩ := List.mem_flatMap.1 hs
  unfold ringSd at hs
  obtain ⟨e, -, rfl⟩ := List.mem_map.1 hs
  exact List.mem_range.1 hi
end Go
namespace Go
theorem fwF_bd (p : Pt) (l : List (List Pt)) (hn : l.length ≤ 1000) (h : ∀ r ∈ l, r.length ≤ 1000) : -1000000 ≤ fwF p l ∧ fwF p l ≤ 1000000 := by
  have := fwS_bd p l h
  unfold fwF
  split <;> omega
theorem areaF_bd (l : List Pt) (hl : l.length ≤ 1000) : -2251799813685248000 ≤ areaF l ∧ areaF l ≤ 2251799813685248000 := by
  unfold areaF
  split
  · omega
  · rename_i h
    rw [not_or] at h
    have hk : l.all okPt = true := by simpa using h.2
    have := fan_bd l hk (by omega) (edges l) (edges_okX l hk)
    have := edges_len l
    omega
end Go

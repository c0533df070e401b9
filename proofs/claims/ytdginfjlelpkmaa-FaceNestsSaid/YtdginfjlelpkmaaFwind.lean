/-
  face.Winding.
-/
import Derived.Test.YtdginfjlelpkmaaFc
import Derived.Test.YtdginfjlelpkmaaRwind
set_option linter.unusedVariables false
set_option linter.unusedSimpArgs false
set_option maxRecDepth 100000
namespace Go
open Go.RowKit
/-- How often rings go round a point; in a point of theirs, or out of the plane: no answer. -/
def fwS (p : Pt) : List (List Pt) → Int
  | [] => 0
  | r :: l => windF r p + fwS p l
def fwOk (p : Pt) (l : List (List Pt)) : Bool := l.all (windOk · p)
def fwF (p : Pt) (l : List (List Pt)) : Int := if fwOk p l then fwS p l else 0
theorem fwS_append (p : Pt) (l r : List (List Pt)) : fwS p (l ++ r) = fwS p l + fwS p r := by
  induction l with
  | nil => simp [fwS]
  | cons e l ih => simp only [List.cons_append, fwS, ih]; omega
theorem fwS_snoc (p : Pt) (l : List (List Pt)) (r : List Pt) : fwS p (l ++ [r]) = fwS p l + windF r p := by
  rw [fwS_append]; simp [fwS]
theorem edges_len (l : List Pt) : (edges l).length ≤ l.length := by
  simp [edges]
theorem windF_bd (l : List Pt) (p : Pt) : -(l.length : Int) ≤ windF l p ∧ windF l p ≤ l.length := by
  unfold windF
  have h1 := windS_bd p (edges l)
  have h2 := edges_len l
  split <;> omega
theorem fwS_bd (p : Pt) (l : List (List Pt)) (h : ∀ r ∈ l, r.length ≤ 1000) : -((l.length : Int) * 1000) ≤ fwS p l ∧ fwS p l ≤ (l.length : Int) * 1000 := by
  induction l with
  | nil => simp [fwS]
  | cons r l ih =>
    have h1 := ih (fun r hr => h r (by simp [hr]))
    have h2 := windF_bd r p
    have h3 := h r (by simp)
    simp only [fwS, List.length_cons]
    omega
end Go
namespace Go.Proofs.Ytdginfjlelpkmaa
open Go.RowKit

set_option maxHeartbeats 3200000 in
theorem fwind_any (f : Fc) (hn : f.rs.length ≤ 1000) (hl : ∀ r ∈ f.rs, r.l.length ≤ 1000) (p : Pt) (w : World) (hok : f.Ok w) :
    Calls Try.prog 19 #[f.val, p.val] w fun e w' => e = .returned (.tuple #[.int .i64 (fwF p f.rings), .bool (fwOk p f.rings)]) ∧ Below w.heap.size w w' := by
  have HW := Lib.hid (fun (r : PC) (hr : r ∈ f.rs) (W : World) (h : r.Ok W) => wind_any r.p r.c r.l (hl r hr) p W h.1)
  have HOK := Lib.hid hok
  have HLL := Lib.hid hl
  have HR : Hid (f.rings = f.rs.map PC.l) := Lib.hid rfl
  generalize f.rings = RS at *
  obtain ⟨rs, ra, rc, ls, aa, ac⟩ := f
  obtain ⟨px, py⟩ := p
  have hrc := hok.1.2
  dsimp only [Fc.val, Fc.rval, Fc.aval, Pt.val] at HW HLL HR hn hrc ⊢
  obtain ⟨N, hN⟩ : ∃ N, rs.length = N := ⟨_, rfl⟩
  have HN := Lib.hid hN
  rw [hN] at hn hrc ⊢
  clear hN hl hok
  go_enter Try.func19, Try.ntmps19
  go_wp2
  have hS0 : Below w.heap.size w ((w.alloc (.cells #[.slice ra N rc, .slice aa ls.length ac] 49)).alloc (.cells #[.int .i64 px, .int .i64 py] 37)) := ((Below.refl _ _).alloc (Nat.le_refl _) _).alloc (by simp) _
  have hSz : ((w.alloc (.cells #[.slice ra N rc, .slice aa ls.length ac] 49)).alloc (.cells #[.int .i64 px, .int .i64 py] 37)).heap.size = w.heap.size + 2 := by simp
  have kP : ((w.alloc (.cells #[.slice ra N rc, .slice aa ls.length ac] 49)).alloc (.cells #[.int .i64 px, .int .i64 py] 37)).heap[w.heap.size + 1]? = some (.cells #[.int .i64 px, .int .i64 py] 37 (0, 0)) := by
    have := heap_alloc_new (w.alloc (.cells #[.slice ra N rc, .slice aa ls.length ac] 49)) (.cells #[.int .i64 px, .int .i64 py] 37)
    simpa using this
  have HKP := Lib.hid kP
  clear kP
  generalize (w.alloc (.cells #[.slice ra N rc, .slice aa ls.length ac] 49)).alloc (.cells #[.int .i64 px, .int .i64 py] 37) = wS at *
  go_loopw [6, 14] (fun n i wr => ∃ (k : Nat) (z : Int), k ≤ N ∧ i = .int .i64 k ∧ n = .int .i64 z ∧ Hid (fwS ⟨px, py⟩ ((rs.take k).map PC.l) = z) ∧ -((k : Int) * 1000) ≤ z ∧ z ≤ (k : Int) * 1000 ∧ Hid (fwOk ⟨px, py⟩ ((rs.take k).map PC.l) = true) ∧ Below wS.heap.size wS wr) (fun _ i _ => N - (intOf i).toNat)
  case atStart => exact ⟨0, 0, by omega, rfl, rfl, Lib.hid rfl, by omega, by omega, Lib.hid rfl, Below.refl _ _⟩
  case round =>
    obtain ⟨k, z, hk, rfl, rfl, HZ, hz1, hz2, HO, hbl⟩ := hrel
    have hbw := hS0.trans (hbl.mono (by omega))
    by_cases h1 : k < N
    · have h1' : (k : Int) < (N : Int) := by omega
      have hkl : k < rs.length := by rw [HN.out]; exact h1
      obtain ⟨b2, o2, rfl, hb2, d0⟩ := (HOK.out.1.1.keep hbw).rc k hkl
      have HRO := Lib.hid ((HOK.out.2.1 _ (List.getElem_mem hkl)).keep hbw)
      have HWC := Lib.hid (HW.out rs[k] (List.getElem_mem hkl))
      have HL := HLL.out rs[k] (List.getElem_mem hkl)
      have HTA : Hid ((rs.take (k + 1)).map PC.l = (rs.take k).map PC.l ++ [rs[k].l]) := Lib.hid (by
        rw [List.take_succ_eq_append_getElem hkl, List.map_append, List.map_singleton])
      have HIN : Hid (rs[k].l ∈ rs.map PC.l) := Lib.hid (List.mem_map_of_mem (List.getElem_mem hkl))
      generalize rs[k] = R at *
      obtain ⟨L, Rp, Rc⟩ := R
      have HBD := windF_bd L ⟨px, py⟩
      dsimp only [PC.val] at d0 HL HWC
      have e0 : wr.cell? ⟨w.heap.size + 1, 0, none⟩ = some (.int .i64 px) := by
        rw [hbl.cell (p := ⟨w.heap.size + 1, 0, none⟩) (by simp; omega)]; simp [World.cell?, HKP.out]
      have e1 : wr.cell? ⟨w.heap.size + 1, 0 + 1, none⟩ = some (.int .i64 py) := by
        rw [hbl.cell (p := ⟨w.heap.size + 1, 0 + 1, none⟩) (by simp; omega)]; simp [World.cell?, HKP.out]
      go_wp2_with fail
      refine (HWC.out _ HRO.out).mono ?_
      rintro e w2 ⟨rfl, hb2⟩
      have hbl2 := hbl.trans (hb2.mono hbl.size)
      cases hok : windOk L ⟨px, py⟩ with
      | false =>
        have HFA : Hid (fwOk ⟨px, py⟩ RS = false) := Lib.hid (by
          rw [HR.out]; unfold fwOk
          rw [List.all_eq_false]
          exact ⟨L, HIN.out, by rw [hok]; simp⟩)
        go_wp2
        refine bodyPost_ret (v := .tuple #[.int .i64 0, .bool false]) ?_ rfl ⟨?_, ?_⟩
        · simp [results, Try.results19, go_sem]
        · simp [fwF, HFA.out]
        · exact hS0.trans (hbl2.mono (by omega))
      | true =>
        obtain ⟨y, hy⟩ : ∃ y, windF L ⟨px, py⟩ = y := ⟨_, rfl⟩
        rw [hy] at HBD ⊢
        have HY := Lib.hid hy
        clear hy
        have HO2 : Hid (fwOk ⟨px, py⟩ ((rs.take (k + 1)).map PC.l) = true) := Lib.hid (by
          have := HO.out
          rw [HTA.out]; unfold fwOk at *; rw [List.all_append, this]; simp [hok])
        clear hok
        go_wp2
        exact ⟨⟨k + 1, z + y, by omega, by go_num, by go_num, Lib.hid (by rw [HTA.out, fwS_snoc, HZ.out, HY.out]), by omega, by omega, HO2, hbl2⟩, by simp [intOf]; omega⟩
    · have h1' : ¬ (k : Int) < (N : Int) := by omega
      have HTA : Hid ((rs.take k).map PC.l = RS) := Lib.hid (by rw [HR.out, List.take_of_length_le (by rw [HN.out]; omega)])
      go_wp2
      refine bodyPost_ret (v := .tuple #[.int .i64 z, .bool true]) ?_ rfl ⟨?_, ?_⟩
      · simp [results, Try.results19, go_sem]
      · have e1 := HO.out; have e2 := HZ.out
        rw [HTA.out] at e1 e2
        simp [fwF, e1, e2]
      · exact hbw
end Go.Proofs.Ytdginfjlelpkmaa

/-
  face.Count.
-/
import Derived.Test.YtdginfjlelpkmaaFc
set_option linter.unusedVariables false
set_option linter.unusedSimpArgs false
set_option maxRecDepth 100000
namespace Go
open Go.RowKit
def lenS : List (List Pt) → Nat
  | [] => 0
  | r :: l => r.length + lenS l
def cntR : List (List (List Pt)) → Nat
  | [] => 0
  | f :: l => f.length + cntR l
def cntP : List (List (List Pt)) → Nat
  | [] => 0
  | f :: l => lenS f + cntP l
theorem lenS_append (a b : List (List Pt)) : lenS (a ++ b) = lenS a + lenS b := by
  induction a with
  | nil => simp [lenS]
  | cons r a ih => simp only [List.cons_append, lenS, ih]; omega
theorem cntR_append (a b : List (List (List Pt))) : cntR (a ++ b) = cntR a + cntR b := by
  induction a with
  | nil => simp [cntR]
  | cons r a ih => simp only [List.cons_append, cntR, ih]; omega
theorem cntP_append (a b : List (List (List Pt))) : cntP (a ++ b) = cntP a + cntP b := by
  induction a with
  | nil => simp [cntP]
  | cons r a ih => simp only [List.cons_append, cntP, ih]; omega
theorem lenS_take (l : List (List Pt)) (k : Nat) : lenS (l.take k) ≤ lenS l := by
  have := lenS_append (l.take k) (l.drop k)
  rw [List.take_append_drop] at this
  omega
theorem cntR_take (l : List (List (List Pt))) (k : Nat) : cntR (l.take k) ≤ cntR l := by
  have := cntR_append (l.take k) (l.drop k)
  rw [List.take_append_drop] at this
  omega
theorem cntP_take (l : List (List (List Pt))) (k : Nat) : cntP (l.take k) ≤ cntP l := by
  have := cntP_append (l.take k) (l.drop k)
  rw [List.take_append_drop] at this
  omega
theorem lenS_snoc (l : List (List Pt)) (k : Nat) (h : k < l.length) : lenS (l.take (k + 1)) = lenS (l.take k) + l[k].length := by
  rw [List.take_succ_eq_append_getElem h, lenS_append]; simp [lenS]
theorem cntR_snoc (l : List (List (List Pt))) (k : Nat) (h : k < l.length) : cntR (l.take (k + 1)) = cntR (l.take k) + l[k].length := by
  rw [List.take_succ_eq_append_getElem h, cntR_append]; simp [cntR]
theorem cntP_snoc (l : List (List (List Pt))) (k : Nat) (h : k < l.length) : cntP (l.take (k + 1)) = cntP (l.take k) + lenS l[k] := by
  rw [List.take_succ_eq_append_getElem h, cntP_append]; simp [cntP]
end Go
namespace Go.Proofs.Ytdginfjlelpkmaa
open Go.RowKit

set_option maxHeartbeats 3200000 in
theorem fcount_any (a : Option Addr) (c : Nat) (L : List Fc) (hlen : L.length ≤ 1000000) (h1 : cntR (L.map Fc.rings) ≤ 1000000) (h2 : cntP (L.map Fc.rings) ≤ 1000000) (w : World) (hr : Rd w a (fcs L)) (hok : ∀ f ∈ L, f.Ok w) :
    Calls Try.prog 7 #[.slice a L.length c] w fun e w' => e = .returned (.tuple #[.int .i64 (cntR (L.map Fc.rings)), .int .i64 (cntP (L.map Fc.rings))]) ∧ Below w.heap.size w w' := by
  have HR := Lib.hid hr
  have HOK := Lib.hid hok
  obtain ⟨RL, hRL⟩ : ∃ R, L.map Fc.rings = R := ⟨_, rfl⟩
  have HRL := Lib.hid hRL
  rw [hRL] at h1 h2 ⊢
  have hRn : RL.length = L.length := by rw [← hRL, List.length_map]
  have HTR := Lib.hid (cntR_take RL)
  have HTP := Lib.hid (cntP_take RL)
  obtain ⟨N, hN⟩ : ∃ N, L.length = N := ⟨_, rfl⟩
  have HN := Lib.hid hN
  rw [hN] at hlen hRn ⊢
  clear hr hok hRL hN
  go_enter Try.func7, Try.ntmps7
  go_wp2
  go_loopw [4, 5, 12] (fun x y i wr => ∃ (k : Nat) (X Y : Nat), i = .int .i64 k ∧ k ≤ N ∧ x = .int .i64 X ∧ y = .int .i64 Y ∧ Hid (X = cntR (RL.take k)) ∧ Hid (Y = cntP (RL.take k)) ∧ Below w.heap.size w wr) (fun _ _ i _ => N - (intOf i).toNat)
  case atStart => exact ⟨0, 0, 0, rfl, Nat.zero_le _, rfl, rfl, Lib.hid rfl, Lib.hid rfl, Below.refl _ _⟩
  case round =>
    obtain ⟨i, X, Y, rfl, hi, rfl, rfl, HX, HY, hbl⟩ := hrel
    by_cases hlt : i < N
    · have hlt' : (i : Int) < (N : Int) := by omega
      have hil : i < L.length := by rw [HN.out]; exact hlt
      have hiR : i < RL.length := by omega
      obtain ⟨b1, o1, rfl, hbb, c0, c1⟩ := (HR.out.keep hbl).fc i hil
      have HRI : Hid (RL[i] = L[i].rs.map PC.l) := Lib.hid (by simp only [← HRL.out, List.getElem_map, Fc.rings])
      have HFO := Lib.hid (HOK.out _ (List.getElem_mem hil))
      have HSR := Lib.hid (cntR_snoc RL i hiR)
      have HSP := Lib.hid (cntP_snoc RL i hiR)
      have b1 := HTR.out (i + 1)
      have b2 := HTP.out (i + 1)
      rw [HSR.out, ← HX.out] at b1
      rw [HSP.out, ← HY.out] at b2
      have HLT := Lib.hid (lenS_take RL[i])
      generalize L[i] = f at *
      generalize RL[i] = FR at *
      obtain ⟨rs, ra, rc, ls, aa, ac⟩ := f
      dsimp only [Fc.rval, Fc.aval] at c0 c1 HRI
      obtain ⟨RN, hRN⟩ : ∃ R, rs.length = R := ⟨_, rfl⟩
      have HRN := Lib.hid hRN
      have hFR : FR.length = RN := by rw [HRI.out, List.length_map, HRN.out]
      rw [hRN] at c0
      rw [hFR] at b1
      clear hRN
      have hbA := Below.new wr (.cells #[.slice ra RN rc, .slice aa ls.length ac] 49)
      have hA0 := hbl.trans (hbA.mono hbl.size)
      have kA := heap_alloc_new wr (.cells #[.slice ra RN rc, .slice aa ls.length ac] 49)
      go_wp2
      clear c0 c1 hbA
      go_loopw [5, 24] (fun y i wr2 => ∃ (j : Nat) (Z : Nat), i = .int .i64 j ∧ j ≤ RN ∧ y = .int .i64 Z ∧ Hid (Z = Y + lenS (FR.take j)) ∧ Below w.heap.size w wr2) (fun _ i _ => RN - (intOf i).toNat)
      case atStart => exact ⟨0, Y, rfl, Nat.zero_le _, rfl, Lib.hid rfl, hA0⟩
      case round =>
        obtain ⟨j, Z, rfl, hj, rfl, HZ, hb2⟩ := hrel
        by_cases hjt : j < RN
        · have hjt' : (j : Int) < (RN : Int) := by omega
          have hjl : j < rs.length := by rw [HRN.out]; exact hjt
          have hjF : j < FR.length := by omega
          obtain ⟨b3, o3, rfl, hbb3, d0⟩ := (HFO.out.1.1.keep hb2).rc j hjl
          have HSJ := Lib.hid (lenS_snoc FR j hjF)
          have b4 := HLT.out (j + 1)
          have HFJ : Hid (FR[j].length = rs[j].l.length) := Lib.hid (by simp only [HRI.out, List.getElem_map])
          rw [HSJ.out, HFJ.out] at b4
          have HZ2 : Hid (Z + rs[j].l.length = Y + lenS (FR.take (j + 1))) := Lib.hid (by rw [HSJ.out, HFJ.out, HZ.out]; omega)
          have hzb : Z + rs[j].l.length ≤ 1000000 := by rw [HZ.out]; omega
          generalize rs[j] = R at *
          obtain ⟨LL, Rp, Rc⟩ := R
          dsimp only [PC.val] at d0 HZ2 hzb
          go_wp2
          exact ⟨⟨j + 1, Z + LL.length, by go_num, by omega, by go_num, HZ2, hb2⟩, by simp [intOf]; omega⟩
        · have hjt' : ¬ (j : Int) < (RN : Int) := by omega
          have hft : FR.take j = FR := List.take_of_length_le (by omega)
          have HZ2 : Hid (Z = cntP (RL.take (i + 1))) := Lib.hid (by rw [HSP.out, HZ.out, HY.out, hft])
          have HX2 : Hid (X + RN = cntR (RL.take (i + 1))) := Lib.hid (by rw [HSR.out, HX.out, hFR])
          go_wp2
          exact ⟨⟨i + 1, X + RN, Z, by go_num, by omega, by go_num, rfl, HX2, HZ2, hb2⟩, by simp [intOf]; omega⟩
    · have hlt' : ¬ (i : Int) < (N : Int) := by omega
      have hall : RL.take i = RL := List.take_of_length_le (by omega)
      rw [hall] at HX HY
      go_wp2
      refine bodyPost_ret (v := .tuple #[.int .i64 X, .int .i64 Y]) ?_ rfl ⟨by rw [HX.out, HY.out], hbl⟩
      simp [results, Try.results7, go_sem]
end Go.Proofs.Ytdginfjlelpkmaa

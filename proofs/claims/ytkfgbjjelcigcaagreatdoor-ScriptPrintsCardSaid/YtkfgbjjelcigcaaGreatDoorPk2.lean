/-
  text.Count, text.Right: the runes of a text. value.Check. Values: kind, text, number. Opening a law's arguments: a slice whose elements have several cells (structs), or are slices themselves, as 'Rd'. Rows of the program's table of types. Points: how they lie, and what the program says of them. Opening a law's arguments: a point. Slices of points that come in: PC; an opener for []api.Point. What a round keeps: blocks of two element types. (The same lies in XPeach, XPall8, XPonly: those texts and this one do not go together.) Faces in memory: attributes, rings, faces; what keeps them.
-/
import Derived.Test.YtkfgbjjelcigcaaGreatDoorPk1
import Derived.Laws.RangeString
import Derived.Lib.OthersKept
import Derived.Deep.Slices
import Derived.Test.YtkfgbjjelcigcaaGreatDoorProg
import Derived.KernelRfl
import Derived.RangeFuncBox
/- text.Count, text.Right: the runes of a text. -/
set_option linter.unusedVariables false
set_option linter.unusedSimpArgs false
namespace Go
open Go.RowKit
def rl (s : ByteArray) : Nat → Nat → List (Nat × Nat)
  | 0, _ => []
  | f + 1, p => if p < s.size then ((Utf8.decode s p).1, p) :: rl s f (p + (Utf8.decode s p).2) else []
def runesF (s : ByteArray) : List (Nat × Nat) := rl s s.size 0
def rightF (s : ByteArray) : Bool := (runesF s).all (fun x => !badAt s x.2)
theorem rl_end (s : ByteArray) (f p : Nat) (h : ¬ p < s.size) : rl s f p = [] := by
  cases f with
  | zero => rfl
  | succ f => simp [rl, h]
theorem rl_step (s : ByteArray) (f p : Nat) (h : p < s.size) : rl s (f + 1) p = ((Utf8.decode s p).1, p) :: rl s f (p + (Utf8.decode s p).2) := by simp [rl, h]
theorem below_iter (w : World) (s : ByteArray) (p : Nat) : Below w.heap.size w (w.iter s p) := (Below.refl _ _).alloc (Nat.le_refl _) _
end Go
namespace Go.Proofs.YtkfgbjjelcigcaaGreatDoor
open Go.RowKit

set_option maxHeartbeats 800000 in
theorem count_any (s : ByteArray) (hs : s.size ≤ maxLen) (w : World) :
    Calls Tryz.prog 50 #[.string s] w fun e w' => e = .returned (.tuple #[.int .i64 (if rightF s then ((runesF s).length : Int) else 0), .bool (rightF s)]) ∧ Below w.heap.size w w' := by
  have hs2 : s.size ≤ 9223372036854775807 := by unfold maxLen at hs; omega
  obtain ⟨C, hC⟩ : ∃ C : Int, (if rightF s then ((runesF s).length : Int) else 0) = C := ⟨_, rfl⟩; rw [hC]; obtain ⟨T, hT⟩ : ∃ T : Bool, rightF s = T := ⟨_, rfl⟩; rw [hT] at hC ⊢; have HC := Lib.hid hC; have HT := Lib.hid hT; clear hC hT
  go_enter Tryz.func50, Tryz.ntmps50
  go_wp2
  go_loopw [4] (fun n wr => ∃ (p f : Nat) (pre : List (Nat × Nat)), n = .int .i64 (pre.length : Int) ∧ wr = w.iter s p ∧ Hid (runesF s = pre ++ rl s f p) ∧ Hid (pre.all (fun x => !badAt s x.2) = true) ∧ s.size ≤ p + f ∧ pre.length ≤ p ∧ p ≤ s.size) (fun n _ => s.size - (intOf n).toNat)
  case atStart => exact ⟨0, s.size, [], rfl, rfl, Lib.hid rfl, Lib.hid rfl, by omega, by simp, by omega⟩
  case round =>
    obtain ⟨p, f, pre, rfl, rfl, HR, HA, hpf, hpl, hps⟩ := hrel
    by_cases hp : p < s.size
    · obtain ⟨f, rfl⟩ : ∃ g, f = g + 1 := ⟨f - 1, by omega⟩; have hnx : ∀ ty, (Instr.next (.pointer (some ⟨w.heap.size, 0, none⟩)) true ty).run Tryz.prog (w.iter s p) = _ := fun ty => run_next_any w s p ty hp; have hwd := decode_wid hp; have hbad := bad_any s p hp hs; rw [rl_step s f p hp] at HR; have HRT : Hid (badAt s p = true → rightF s = false) := Lib.hid (fun h => by
        unfold rightF; rw [HR.out, List.all_append, List.all_cons]; simp [h])
      obtain ⟨B, hB⟩ : ∃ B, badAt s p = B := ⟨_, rfl⟩; have HBB := Lib.hid hB; rw [hB] at hbad HRT; clear hB; obtain ⟨W, hW⟩ : ∃ W, p + (Utf8.decode s p).2 = W := ⟨_, rfl⟩; rw [hW] at hnx HR; obtain ⟨R, hR⟩ : ∃ R, (Utf8.decode s p).1 = R := ⟨_, rfl⟩; rw [hR] at hnx hbad HR; have HBAD := Lib.hid hbad; have hbW : Below w.heap.size w (w.iter s W) := below_iter w s W; have hWb : p < W ∧ W ≤ s.size := by omega
      clear hbad hwd hR hW
      go_wp2_with fail
      refine (HBAD.out _).mono ?_; rintro e w1 ⟨rfl, rfl⟩
      cases B with
      | true =>
        have HF := Lib.hid (HRT.out rfl); clear HRT; go_wp2; refine bodyPost_ret (v := .tuple #[.int .i64 0, .bool false]) (by simp [results, Tryz.results50, go_sem]) rfl ⟨?_, hbW⟩; rw [← HC.out, ← HT.out, HF.out]; rfl
      | false =>
        have hlen : Value.int .i64 ((pre.length : Int) + 1) = Value.int .i64 (((pre ++ [(R, p)]).length : Nat) : Int) := by simp
        have hw0 : IntKind.i64.wrap ((pre.length : Int) + 1) = (pre.length : Int) + 1 := IntWalk.i64_in _ (by omega); go_wp2; go_roundw
        case rel => exact ⟨W, f, pre ++ [(R, p)], rfl, rfl, Lib.hid (by rw [HR.out, List.append_assoc]; rfl), Lib.hid (by rw [List.all_append, HA.out]; simp [HBB.out]), by omega, by simp; omega, by omega⟩
        case measure => simp [intOf]; omega
    · have hnx : ∀ ty, (Instr.next (.pointer (some ⟨w.heap.size, 0, none⟩)) true ty).run Tryz.prog (w.iter s p) = _ := fun ty => Lib.run_next_end_at (w.iter s p) w.heap.size s p ty (World.iter_heap w s p) hp; have hbW : Below w.heap.size w (w.iter s p) := below_iter w s p; rw [rl_end s f p hp, List.append_nil] at HR; have hF : rightF s = true := by unfold rightF; rw [HR.out]; exact HA.out
      have HF := Lib.hid hF; clear hF HA; go_wp2; refine bodyPost_ret (v := .tuple #[.int .i64 (pre.length : Int), .bool true]) (by simp [results, Tryz.results50, go_sem]) rfl ⟨?_, hbW⟩; rw [← HC.out, ← HT.out, HF.out, HR.out]; simp

theorem right_any (s : ByteArray) (hs : s.size ≤ maxLen) (w : World) :
    Calls Tryz.prog 52 #[.string s] w fun e w' => e = .returned (.bool (rightF s)) ∧ Below w.heap.size w w' := by
  have hc := Lib.hid (count_any s hs); generalize (if rightF s then ((runesF s).length : Int) else 0) = C at *; generalize rightF s = T at *
  go_enter Tryz.func52, Tryz.ntmps52
  go_wp2_with fail
  refine (hc.out _).mono ?_; rintro e w1 ⟨rfl, hb⟩; go_wp2; go_ret; exact ⟨rfl, hb⟩
end Go.Proofs.YtkfgbjjelcigcaaGreatDoor
/- value.Check. -/
set_option linter.unusedVariables false
set_option linter.unusedSimpArgs false
set_option maxRecDepth 100000
namespace Go
open Go.RowKit
theorem empty_txt (s : ByteArray) : s.toList.isEmpty = decide (s.size = 0) := by
  rw [ByteArray.toList_eq]; obtain ⟨⟨l⟩⟩ := s
  cases l <;> simp [ByteArray.size]
def vcF (k : Int) (t : ByteArray) (n : Int) : Int :=
  if k = 1 then (if n ≠ 0 then 3 else if rightF t = false then 13 else if 64 < t.size then 2 else 0)
  else if k = 3 then (if t.size ≠ 0 then 3 else if n < -1152921504606846976 ∨ 1152921504606846976 < n then 5 else 0)
  else if k = 2 then (if t.size ≠ 0 then 3 else if n < 0 ∨ 1152921504606846976 < n then 5 else 0)
  else if k = 4 then (if t.size ≠ 0 then 3 else if n < 0 ∨ 1 < n then 5 else 0)
  else 14
end Go
namespace Go.Proofs.YtkfgbjjelcigcaaGreatDoor
open Go.RowKit

set_option maxHeartbeats 3200000 in
theorem vchk_any (k n : Int) (t : ByteArray) (ht : t.size ≤ maxLen) (w : World) :
    Calls Tryz.prog 29 #[.agg #[.int .i64 k, .string t, .int .i64 n]] w fun e w' => e = .returned (.int .i64 (vcF k t n)) ∧ Below w.heap.size w w' := by
  have hs2 : t.size ≤ 9223372036854775807 := by unfold maxLen at ht; omega
  have HV := Lib.hid (vcF.eq_1 k t n); have HRI := Lib.hid (fun W => right_any t ht W); have HTE : Hid (t.size = 0 → t = ⟨#[]⟩) := Lib.hid (fun h => by
    apply ByteArray.ext; exact Array.eq_empty_of_size_eq_zero h)
  have HTN : Hid (t.size ≠ 0 → t.toList.isEmpty = false) := Lib.hid (fun h => by rw [empty_txt]; simp [h]); generalize vcF k t n = V at *; generalize rightF t = T at *; have k1 := Blk.lit w w.heap.size [.int .i64 k, .string t, .int .i64 n] 44 rfl; have hb0 := Below.new w (.cells #[.int .i64 k, .string t, .int .i64 n] 44); obtain ⟨B, hB⟩ : ∃ B, w.heap.size = B := ⟨_, rfl⟩; have HBE := Lib.hid hB; rw [hB] at k1; have x0 := k1.cell 0 rfl; have x1 := k1.cell 1 rfl; have x2 := k1.cell 2 rfl
  go_enter Tryz.func29, Tryz.ntmps29
  by_cases h1 : k = 1
  · have hq := HV.out; rw [if_pos h1] at hq; subst h1; have hV := Lib.hid hq; clear HV hq
    by_cases hn : n = 0
    · have hV2 := hV.out; rw [if_neg (by omega)] at hV2; replace hV := Lib.hid hV2; subst hn; clear hV2
      go_wp2_with fail
      refine (HRI.out _).mono ?_; rintro e w1 ⟨rfl, hb1⟩; have k2 := k1.keep hb1; have hbw := hb0.trans (hb1.mono hb0.size); clear x0 x1 x2 hb1; have x0 := k2.cell 0 rfl; have x1 := k2.cell 1 rfl; have x2 := k2.cell 2 rfl
      cases T with
      | false =>
        go_wp2; go_ret; exact ⟨ret_int (by rw [hV.out]; simp), hbw⟩
      | true =>
        by_cases hl : 64 < t.size
        · have hl' : (64 : Int) < (t.size : Int) := by omega
          go_wp2; go_ret; exact ⟨ret_int (by rw [hV.out]; simp [hl]), hbw⟩
        · have hl' : ¬ (64 : Int) < (t.size : Int) := by omega
          go_wp2; go_ret; exact ⟨ret_int (by rw [hV.out]; simp [hl]), hbw⟩
    · have hV2 := hV.out; rw [if_pos hn] at hV2; have hV2 := Lib.hid hV2; have hn' : (n == 0) = false := by simpa using hn
      go_wp2; go_ret; exact ⟨ret_int hV2.out.symm, by first | exact hb0 | (rw [← HBE.out]; exact hb0)⟩
  · have h1' : (k == 1) = false := by simpa using h1
    have hq := HV.out; rw [if_neg h1] at hq; replace HV := Lib.hid hq; clear hq
    by_cases h3 : k = 3
    · have hq := HV.out; rw [if_pos h3] at hq; subst h3; have hV := Lib.hid hq; clear HV hq h1 h1'
      by_cases hz : t.size = 0
      · have hV2 := hV.out; rw [if_neg (by omega)] at hV2; replace hV := Lib.hid hV2; clear hV2; obtain rfl := HTE.out hz; clear hz HTE HTN HRI
        by_cases ha : n < -1152921504606846976
        · go_wp2; go_ret; exact ⟨ret_int (by rw [hV.out]; simp [ha]), by first | exact hb0 | (rw [← HBE.out]; exact hb0)⟩
        · by_cases hc : 1152921504606846976 < n
          · go_wp2; go_ret; exact ⟨ret_int (by rw [hV.out]; simp [hc]), by first | exact hb0 | (rw [← HBE.out]; exact hb0)⟩
          · go_wp2; go_ret; exact ⟨ret_int (by rw [hV.out, if_neg (by omega)]), by first | exact hb0 | (rw [← HBE.out]; exact hb0)⟩
      · have hV2 := hV.out; rw [if_pos hz] at hV2; have hV2 := Lib.hid hV2; have hte := HTN.out hz; go_wp2; go_ret; exact ⟨ret_int hV2.out.symm, by first | exact hb0 | (rw [← HBE.out]; exact hb0)⟩
    · have h3' : (k == 3) = false := by simpa using h3
      have hq := HV.out; rw [if_neg h3] at hq; replace HV := Lib.hid hq; clear hq
      by_cases h2 : k = 2
      · have hq := HV.out; rw [if_pos h2] at hq; subst h2; have hV := Lib.hid hq; clear HV hq h1 h1' h3 h3'
        by_cases hz : t.size = 0
        · have hV2 := hV.out; rw [if_neg (by omega)] at hV2; replace hV := Lib.hid hV2; clear hV2; obtain rfl := HTE.out hz; clear hz HTE HTN HRI
          by_cases ha : n < 0
          · go_wp2; go_ret; exact ⟨ret_int (by rw [hV.out]; simp [ha]), by first | exact hb0 | (rw [← HBE.out]; exact hb0)⟩
          · by_cases hc : 1152921504606846976 < n
            · go_wp2; go_ret; exact ⟨ret_int (by rw [hV.out]; simp [hc]), by first | exact hb0 | (rw [← HBE.out]; exact hb0)⟩
            · go_wp2; go_ret; exact ⟨ret_int (by rw [hV.out, if_neg (by omega)]), by first | exact hb0 | (rw [← HBE.out]; exact hb0)⟩
        · have hV2 := hV.out; rw [if_pos hz] at hV2; have hV2 := Lib.hid hV2; have hte := HTN.out hz; go_wp2; go_ret; exact ⟨ret_int hV2.out.symm, by first | exact hb0 | (rw [← HBE.out]; exact hb0)⟩
      · have h2' : (k == 2) = false := by simpa using h2
        have hq := HV.out; rw [if_neg h2] at hq; replace HV := Lib.hid hq; clear hq
        by_cases h4 : k = 4
        · have hq := HV.out; rw [if_pos h4] at hq; subst h4; have hV := Lib.hid hq; clear HV hq h1 h1' h3 h3' h2 h2'
          by_cases hz : t.size = 0
          · have hV2 := hV.out; rw [if_neg (by omega)] at hV2; replace hV := Lib.hid hV2; clear hV2; obtain rfl := HTE.out hz; clear hz HTE HTN HRI
            by_cases ha : n < 0
            · go_wp2; go_ret; exact ⟨ret_int (by rw [hV.out]; simp [ha]), by first | exact hb0 | (rw [← HBE.out]; exact hb0)⟩
            · by_cases hc : 1 < n
              · go_wp2; go_ret; exact ⟨ret_int (by rw [hV.out]; simp [hc]), by first | exact hb0 | (rw [← HBE.out]; exact hb0)⟩
              · go_wp2; go_ret; exact ⟨ret_int (by rw [hV.out, if_neg (by omega)]), by first | exact hb0 | (rw [← HBE.out]; exact hb0)⟩
          · have hV2 := hV.out; rw [if_pos hz] at hV2; have hV2 := Lib.hid hV2; have hte := HTN.out hz; go_wp2; go_ret; exact ⟨ret_int hV2.out.symm, by first | exact hb0 | (rw [← HBE.out]; exact hb0)⟩
        · have h4' : (k == 4) = false := by simpa using h4
          have hq := HV.out; rw [if_neg h4] at hq; replace HV := Lib.hid hq; clear hq; go_wp2; go_ret; exact ⟨ret_int HV.out.symm, by first | exact hb0 | (rw [← HBE.out]; exact hb0)⟩
end Go.Proofs.YtkfgbjjelcigcaaGreatDoor
/- Values: kind, text, number. -/
set_option linter.unusedVariables false
set_option linter.unusedSimpArgs false
set_option maxRecDepth 100000
namespace Go
open Go.RowKit
abbrev VV := Int × ByteArray × Int
def vZ : VV := (0, ⟨#[]⟩, 0)
def vVal (v : Int × ByteArray × Int) : Value := .agg #[.int .i64 v.1, .string v.2.1, .int .i64 v.2.2]
def vCells (v : Int × ByteArray × Int) : List Value := [.int .i64 v.1, .string v.2.1, .int .i64 v.2.2]
def vE (v : VV) : Int := vcF v.1 v.2.1 v.2.2
theorem vE_zero (v : VV) (h : vE v = 0) : (v.1 = 1 ∧ v.2.2 = 0 ∧ v.2.1.size ≤ 64) ∨ (v.1 = 2 ∧ v.2.1 = ⟨#[]⟩ ∧ 0 ≤ v.2.2 ∧ v.2.2 ≤ 1152921504606846976) ∨ (v.1 = 3 ∧ v.2.1 = ⟨#[]⟩ ∧ -1152921504606846976 ≤ v.2.2 ∧ v.2.2 ≤ 1152921504606846976) ∨ (v.1 = 4 ∧ v.2.1 = ⟨#[]⟩ ∧ 0 ≤ v.2.2 ∧ v.2.2 ≤ 1) := by
  obtain ⟨k, t, n⟩ := v; unfold vE vcF at h; dsimp only at h ⊢; have ht : t.size = 0 → t = ⟨#[]⟩ := fun h => by
    apply ByteArray.ext; exact Array.eq_empty_of_size_eq_zero h
  split at h
  · split at h
    · omega
    · split at h
      · omega
      · split at h <;> first | (exfalso; omega) | (left; omega)
  · split at h
    · split at h
      · omega
      · split at h
        · omega
        · right; right; left; exact ⟨by omega, ht (by omega), by omega, by omega⟩
    · split at h
      · split at h
        · omega
        · split at h
          · omega
          · right; left; exact ⟨by omega, ht (by omega), by omega, by omega⟩
      · split at h
        · split at h
          · omega
          · split at h
            · omega
            · right; right; right; exact ⟨by omega, ht (by omega), by omega, by omega⟩
        · omega
end Go
/- Opening a law's arguments: a slice whose elements have several cells (structs), or are slices themselves, as 'Rd'. -/
namespace Go
open Go.ChangeShapes Go.WideShapes Go.ChangeAt Go.RowKit Go.Deep

theorem flatMap_len {α β : Type} (f : α → List β) (m : Nat) (hf : ∀ x, (f x).length = m) (xs : List α) : (xs.flatMap f).length = xs.length * m := by
  induction xs with
  | nil => simp
  | cons x xs ih => rw [List.flatMap_cons, List.length_append, hf, ih, List.length_cons, Nat.succ_mul]; omega

theorem flatMap_get {α β : Type} (f : α → List β) (m : Nat) (hf : ∀ x, (f x).length = m) (xs : List α) (i j : Nat) (hi : i < xs.length) (hj : j < m) : (xs.flatMap f)[i * m + j]? = (f xs[i])[j]? := by
  induction xs generalizing i with
  | nil => simp at hi
  | cons x xs ih =>
    rw [List.flatMap_cons]
    cases i with
    | zero => rw [List.getElem?_append_left (by rw [hf]; omega), Nat.zero_mul, Nat.zero_add, List.getElem_cons_zero]
    | succ i =>
      rw [List.getElem?_append_right (by rw [hf, Nat.succ_mul]; omega), List.getElem_cons_succ, hf, ← ih i (by simpa using hi)]
      congr 1
      rw [Nat.succ_mul]; omega

theorem open_flat {α : Type} [Inhabited α] {H : Type} {enc : TypeId × Value → H} {P : Program} {W : World} {base : Nat} {spare : Nat → Bool} {t e : TypeId} {fuel : Nat} {a : Option Addr} {len cap : Nat} {x : DataW H × List MemPlace} {held : Bool}
    (m : Nat) (hm0 : 0 < m) (cells : α → List Value) (Good : α → Prop) (hcl : ∀ y, (cells y).length = m)
    (ht : P.underlying t = some (.slice e)) (hc : P.cellsOf e = m)
    (one : ∀ n cs' z, cs'.length = m → DataW.trod enc P W base spare held n e cs' = some z → ∃ y, cs' = cells y ∧ Good y)
    (h : DataW.trod enc P W base spare held fuel t [.slice a len cap] = some x) :
    ∃ xs : List α, len = xs.length ∧ len ≤ cap ∧ cap ≤ maxLen ∧ (a = none → cap = 0) ∧ Rd W a (xs.flatMap cells) ∧ ∀ y ∈ xs, Good y := by
  rcases open_slice ht h with ⟨hcs, _⟩ | ⟨ad, l, c, k, n, D, Pl, hcs, hb, hl, hmx, hk, _, hx⟩
  · simp at hcs; obtain ⟨rfl, rfl, rfl⟩ := hcs; exact ⟨[], rfl, Nat.le_refl _, by simp [maxLen], fun _ => rfl, .inl rfl, by simp⟩
  · simp at hcs; obtain ⟨rfl, rfl, rfl⟩ := hcs; have hlk : len ≤ k := by rw [hk]; split <;> omega
    have each : ∀ i, i < len → ∃ y : α, Good y ∧ ∀ j v, (cells y)[j]? = some v → W.cell? ((ad.add (i * m)).add j) = some v := by
      intro i hi; obtain ⟨cs', h1, h2⟩ := hx i (by omega); rw [hc] at h1; obtain ⟨_, hlen, hcell⟩ := World.cells?_some h1; obtain ⟨y, rfl, hg⟩ := one _ _ _ hlen h2; refine ⟨y, hg, fun j v hv => ?_⟩; rw [hcell j (by have := (List.getElem?_eq_some_iff.1 hv).1; rw [hcl] at this; exact this)]; exact hv
    obtain ⟨y, hy⟩ := choose_lt each; refine ⟨(List.range len).map y, by simp, hl, hmx, fun h => (by cases h), ?_, ?_⟩
    · by_cases h0 : len = 0
      · subst h0; exact .inl rfl
      · obtain ⟨v0, hv0⟩ : ∃ v, (cells (y 0))[0]? = some v := ⟨_, List.getElem?_eq_getElem (by rw [hcl]; exact hm0)⟩; have hs := cell_spot ((hy 0 (by omega)).2 0 v0 hv0); have hs' : ad.spot = none := by simpa [Addr.add] using hs
        obtain ⟨b, off, sp⟩ := ad; simp only at hs'; subst hs'; refine .inr ⟨b, off, rfl, fun p v hv => ?_⟩; have hp : p < len * m := by
          have := (List.getElem?_eq_some_iff.1 hv).1
          rwa [flatMap_len cells m hcl, List.length_map, List.length_range] at this
        have hi : p / m < len := Nat.div_lt_of_lt_mul (by rw [Nat.mul_comm]; exact hp); have hj : p % m < m := Nat.mod_lt _ hm0; have hpe : p / m * m + p % m = p := Nat.div_add_mod' p m; rw [← hpe, flatMap_get cells m hcl _ _ _ (by simpa using hi) hj] at hv; simp only [List.getElem_map, List.getElem_range] at hv; have := (hy _ hi).2 _ _ hv; rw [add_add, hpe] at this; unfold Addr.add at this
        split at this
        · subst_vars; simpa using this
        · simpa using this
    · intro z hz; obtain ⟨i, hi, rfl⟩ := List.mem_map.1 hz; exact (hy i (List.mem_range.1 hi)).1
end Go
/- Rows of the program's table of types. -/
namespace Go.Proofs.YtkfgbjjelcigcaaGreatDoor
theorem Tryz.infoU8 : (Tryz.prog.info? 5).map (fun i => (i.zero, i.size, i.bytes)) = some (some (.int .u8 0), 1, 1) := by kernel_rfl
theorem Tryz.infoU64 : (Tryz.prog.info? 120).map (fun i => (i.zero, i.size, i.bytes)) = some (some (.int .u64 0), 1, 8) := by kernel_rfl
theorem Tryz.infoInt : (Tryz.prog.info? 3).map (fun i => (i.zero, i.size, i.bytes)) = some (some (.int .i64 0), 1, 8) := by kernel_rfl
end Go.Proofs.YtkfgbjjelcigcaaGreatDoor
/- Points: how they lie, and what the program says of them. -/
set_option linter.unusedVariables false
set_option linter.unusedSimpArgs false
namespace Go
open Go.RowKit

structure Pt where
  x : Int
  y : Int

instance : Inhabited Pt := ⟨⟨0, 0⟩⟩
instance : DecidableEq Pt := fun a b => decidable_of_iff (a.x = b.x ∧ a.y = b.y) (by cases a; cases b; simp)

def Pt.cells (p : Pt) : List Value := [.int .i64 p.x, .int .i64 p.y]
def Pt.val (p : Pt) : Value := .agg #[.int .i64 p.x, .int .i64 p.y]
def pts (l : List Pt) : List Value := l.flatMap Pt.cells

theorem pts_len (l : List Pt) : (pts l).length = l.length * 2 := flatMap_len Pt.cells 2 (fun _ => rfl) l
theorem pts_get (l : List Pt) (i j : Nat) (hi : i < l.length) (hj : j < 2) : (pts l)[i * 2 + j]? = (l[i]).cells[j]? := flatMap_get Pt.cells 2 (fun _ => rfl) l i j hi hj
theorem pts_append (a b : List Pt) : pts (a ++ b) = pts a ++ pts b := by simp [pts]
theorem pts_snoc (a : List Pt) (p : Pt) : pts (a ++ [p]) = pts a ++ p.cells := by simp [pts]
theorem Pt.cells_one (p : Pt) : ∀ u ∈ p.cells, u.oneCell' = true := by intro u hu; simp [Pt.cells] at hu; rcases hu with rfl | rfl <;> rfl
theorem pts_one (l : List Pt) : ∀ u ∈ pts l, u.oneCell' = true := by
  intro u hu; obtain ⟨p, -, hu⟩ := List.mem_flatMap.1 hu; exact p.cells_one u hu
theorem pts_take (l : List Pt) (n : Nat) : (pts l).take (n * 2) = pts (l.take n) := by
  induction l generalizing n with
  | nil => simp [pts]
  | cons p l ih =>
    cases n with
    | zero => simp [pts]
    | succ n =>
      have := ih n; simp only [pts, List.flatMap_cons, List.take_succ_cons] at *; rw [← this, show (n + 1) * 2 = 2 + n * 2 by omega, List.take_add]; simp [Pt.cells]

theorem Rd.pt {w : World} {a : Option Addr} {l : List Pt} (h : Rd w a (pts l)) (i : Nat) (hi : i < l.length) :
    ∃ b off, a = some ⟨b, off, none⟩ ∧ b < w.heap.size ∧ w.cell? ⟨b, off + i * 2, none⟩ = some (.int .i64 l[i].x) ∧ w.cell? ⟨b, off + i * 2 + 1, none⟩ = some (.int .i64 l[i].y) := by
  obtain ⟨b, off, rfl, h0, hb⟩ := h.at (i := i * 2 + 0) (v := .int .i64 l[i].x) (by rw [pts_get l i 0 hi (by omega)]; rfl); obtain ⟨b', off', e, h1, -⟩ := h.at (i := i * 2 + 1) (v := .int .i64 l[i].y) (by rw [pts_get l i 1 hi (by omega)]; rfl)
  cases e
  exact ⟨b, off, rfl, hb, h0, by rw [Nat.add_assoc]; exact h1⟩

def okPt (p : Pt) : Bool := decide (-16777216 ≤ p.x ∧ p.x ≤ 16777216) && decide (-16777216 ≤ p.y ∧ p.y ≤ 16777216)
theorem okPt_iff (p : Pt) : okPt p = true ↔ (-16777216 ≤ p.x ∧ p.x ≤ 16777216) ∧ (-16777216 ≤ p.y ∧ p.y ≤ 16777216) := by simp [okPt]

def crs (a b c : Pt) : Int := (b.x - a.x) * (c.y - a.y) - (b.y - a.y) * (c.x - a.x)

theorem mul_bd (a b m n : Int) (ha : -m ≤ a ∧ a ≤ m) (hb : -n ≤ b ∧ b ≤ n) (hm : 0 ≤ m) (hn : 0 ≤ n) : -(m * n) ≤ a * b ∧ a * b ≤ m * n := by
  have h1 : (a * b).natAbs ≤ (m * n).natAbs := by
    rw [Int.natAbs_mul, Int.natAbs_mul]; exact Nat.mul_le_mul (by omega) (by omega)
  have h2 : 0 ≤ m * n := Int.mul_nonneg hm hn; omega

theorem crs_bd (a b c : Pt) (ha : okPt a = true) (hb : okPt b = true) (hc : okPt c = true) : -2251799813685248 ≤ crs a b c ∧ crs a b c ≤ 2251799813685248 := by
  rw [okPt_iff] at ha hb hc; unfold crs; have h1 := mul_bd (b.x - a.x) (c.y - a.y) 33554432 33554432 (by omega) (by omega) (by omega) (by omega); have h2 := mul_bd (b.y - a.y) (c.x - a.x) 33554432 33554432 (by omega) (by omega) (by omega) (by omega); omega
end Go
/- Opening a law's arguments: a point. -/
set_option maxRecDepth 100000
namespace Go.Proofs.YtkfgbjjelcigcaaGreatDoor
open Go.RowKit Go.ChangeShapes Go.WideShapes Go.ChangeAt
def PtIn (p : Pt) : Prop := (Lit.int .i64 p.x).wf = true ∧ (Lit.int .i64 p.y).wf = true
theorem open_pt {H : Type} {enc : TypeId × Value → H} {W : World} {base b0 : Nat} {spare : Nat → Bool} {held : Bool} {r : Reach} {v : Value} {d : DataW H} {ps : List MemPlace} (hv : Value.okWide Tryz.prog W r b0 69 v)
    (hd : DataW.Trod enc Tryz.prog W base spare held 69 v d ps) : ∃ p : Pt, v = p.val ∧ PtIn p := by
  obtain ⟨cs, rfl, hsz⟩ := okWide_struct Tryz.underlying69 hv; obtain ⟨n, hd⟩ := hd; have hc : (Value.agg cs).cells.toList = cs.toList := by simp [Value.cells]
  rw [hc] at hd; obtain ⟨xs, k, hk, hxy, _, hxl, hf⟩ := DataW.trod_struct Tryz.underlying69 hd; have c2 : Tryz.prog.cellsOf 69 = 2 := by kernel_rfl
  have c3 : Tryz.prog.cellsOf 3 = 1 := by kernel_rfl
  rw [c2] at hsz; obtain ⟨l⟩ := cs
  match xs, hxl, l, hsz with
  | [y0, y1], _, [v0, v1], _ =>
    have g0 := hf 0 _ rfl; have g1 := hf 1 _ rfl; simp [c3] at g0 g1; obtain ⟨n0, e0, -, w0⟩ := DataW.trod_int Tryz.underlying3 g0; obtain ⟨n1, e1, -, w1⟩ := DataW.trod_int Tryz.underlying3 g1; simp at e0 e1; subst e0 e1; exact ⟨⟨n0, n1⟩, rfl, w0, w1⟩
end Go.Proofs.YtkfgbjjelcigcaaGreatDoor
/- Slices of points that come in: PC; an opener for []api.Point. -/
set_option linter.unusedVariables false
set_option linter.unusedSimpArgs false
set_option maxRecDepth 100000
namespace Go
open Go.RowKit

structure PC where
  l : List Pt
  p : Option Addr
  c : Nat
instance : Inhabited PC := ⟨⟨[], none, 0⟩⟩
def PC.val (x : PC) : Value := .slice x.p x.l.length x.c
def PC.cells (x : PC) : List Value := [x.val]
def PC.Ok (W : World) (x : PC) : Prop := Rd W x.p (pts x.l) ∧ x.l.length ≤ x.c ∧ x.c ≤ maxLen ∧ (x.p = none → x.c = 0)
theorem PC.Ok.keep {w w' : World} {x : PC} (h : x.Ok w) (hb : Below w.heap.size w w') : x.Ok w' := ⟨h.1.keep hb, h.2⟩
def PC.cut (x : PC) : PC := ⟨x.l.take 40, x.p, x.c⟩
theorem PC.Ok.cut {w : World} {x : PC} (h : x.Ok w) : x.cut.Ok w :=
  ⟨by have := h.1.take (40 * 2); rw [pts_take] at this; exact this, by have := h.2.1; simp [PC.cut]; omega, h.2.2.1, h.2.2.2⟩
end Go
namespace Go.Proofs.YtkfgbjjelcigcaaGreatDoor
open Go.RowKit Go.ChangeShapes Go.WideShapes Go.ChangeAt
theorem one_ring {H : Type} {enc : TypeId × Value → H} {W : World} {base : Nat} {spare : Nat → Bool} {held : Bool} (hsp : ∀ b, spare b = true) (n : Nat) (cs' : List Value) (z : DataW H × List MemPlace) (hl : cs'.length = 1)
    (h : DataW.trod enc Tryz.prog W base spare held n 67 cs' = some z) : ∃ y : PC, cs' = y.cells ∧ y.Ok W := by
  have c3 : Tryz.prog.cellsOf 3 = 1 := by kernel_rfl
  match cs', hl with
  | [v], _ =>
    obtain ⟨a, l, c, rfl⟩ : ∃ a l c, v = .slice a l c := by
      rcases DataW.trod_slice Tryz.underlying67 h with ⟨hc, _⟩ | ⟨a, l, c, _, _, _, _, hc, _⟩
      · simp at hc; exact ⟨_, _, _, hc⟩
      · simp at hc; exact ⟨_, _, _, hc⟩
    obtain ⟨xs, rfl, h1, h2, h3, h4, -⟩ := open_flat 2 (by decide) Pt.cells (fun _ => True) (fun _ => rfl) Tryz.underlying67 (by kernel_rfl) (fun n cs z hcl ht => by
      obtain ⟨ys, k, hk, hxy, _, hxl, hf⟩ := DataW.trod_struct Tryz.underlying69 ht
      match ys, hxl, cs, hcl with
      | [y0, y1], _, [v0, v1], _ =>
        have g0 := hf 0 _ rfl; have g1 := hf 1 _ rfl; simp [c3] at g0 g1; obtain ⟨n0, e0, -, w0⟩ := DataW.trod_int Tryz.underlying3 g0; obtain ⟨n1, e1, -, w1⟩ := DataW.trod_int Tryz.underlying3 g1; simp at e0 e1; subst e0 e1; exact ⟨⟨n0, n1⟩, rfl, trivial⟩) h
    exact ⟨⟨xs, a, c⟩, rfl, h4, h1, h2, h3⟩

theorem one_pt {H : Type} {enc : TypeId × Value → H} {W : World} {base : Nat} {spare : Nat → Bool} {held : Bool} (n : Nat) (cs : List Value) (z : DataW H × List MemPlace) (hcl : cs.length = 2)
    (ht : DataW.trod enc Tryz.prog W base spare held n 69 cs = some z) : ∃ y : Pt, cs = y.cells ∧ PtIn y := by
  have c3 : Tryz.prog.cellsOf 3 = 1 := by kernel_rfl
  obtain ⟨ys, k, hk, hxy, _, hxl, hf⟩ := DataW.trod_struct Tryz.underlying69 ht
  match ys, hxl, cs, hcl with
  | [y0, y1], _, [v0, v1], _ =>
    have g0 := hf 0 _ rfl; have g1 := hf 1 _ rfl; simp [c3] at g0 g1; obtain ⟨n0, e0, -, w0⟩ := DataW.trod_int Tryz.underlying3 g0; obtain ⟨n1, e1, -, w1⟩ := DataW.trod_int Tryz.underlying3 g1; simp at e0 e1; subst e0 e1; exact ⟨⟨n0, n1⟩, rfl, w0, w1⟩
theorem open_pts {H : Type} {enc : TypeId × Value → H} {W : World} {base : Nat} {spare : Nat → Bool} {fuel : Nat} {a : Option Addr} {len cap : Nat} {x : DataW H × List MemPlace} {held : Bool} (hsp : ∀ b, spare b = true)
    (h : DataW.trod enc Tryz.prog W base spare held fuel 67 [.slice a len cap] = some x) :
    ∃ xs : List Pt, len = xs.length ∧ len ≤ cap ∧ cap ≤ maxLen ∧ (a = none → cap = 0) ∧ Rd W a (pts xs) ∧ ∀ y ∈ xs, PtIn y :=
  open_flat 2 (by decide) Pt.cells PtIn (fun _ => rfl) Tryz.underlying67 (by kernel_rfl) (fun n cs' z hl hz => one_pt n cs' z hl hz) h
end Go.Proofs.YtkfgbjjelcigcaaGreatDoor
/- What a round keeps: blocks of two element types. (The same lies in XPeach, XPall8, XPonly: those texts and this one do not go together.) -/
set_option linter.unusedVariables false
set_option linter.unusedSimpArgs false
namespace Go
open Go.RowKit

def KeepT (T U : TypeId) (A B : World) : Prop := A.heap.size ≤ B.heap.size ∧ ∀ (k : Nat) (cs : Array Value) (V : TypeId) (fr : Nat × Nat), A.heap[k]? = some (Obj.cells cs V fr) → (V = T ∨ V = U) → B.heap[k]? = A.heap[k]?

theorem KeepT.trans {T U : TypeId} {A B C : World} (h : KeepT T U A B) (k : KeepT T U B C) : KeepT T U A C :=
  ⟨Nat.le_trans h.1 k.1, fun i cs V fr hi hv => by
    have h1 := h.2 i cs V fr hi hv; rw [k.2 i cs V fr (h1.trans hi) hv, h1]⟩
theorem KeepT.of_below {T U : TypeId} {A B : World} (h : Below A.heap.size A B) : KeepT T U A B :=
  ⟨h.size, fun k _ _ _ hk _ => h.block k (Array.getElem?_eq_some_iff.1 hk).1⟩
theorem KeepT.putObj {T U : TypeId} (W : World) (l : Nat) (o o' : Obj) (h : W.heap[l]? = some o) (ho : o.isCells = false) : KeepT T U W (W.putObj l o') := by
  have hg := grownBy_putObj' W l o'; refine ⟨hg.size, fun k cs V fr hk _ => hg.block k (Array.getElem?_eq_some_iff.1 hk).1 fun e => ?_⟩
  cases e
  rw [h] at hk
  cases hk
  cases ho
theorem KeepT.refl {T U : TypeId} (A : World) : KeepT T U A A := ⟨Nat.le_refl _, fun _ _ _ _ _ _ => rfl⟩

theorem KeepT.of_grownBy {T U : TypeId} {A B : World} {row : Option Nat} (hg : A.grownBy B row) (hr : ∀ r, row = some r → ∀ cs V fr, A.heap[r]? = some (Obj.cells cs V fr) → V ≠ T ∧ V ≠ U) : KeepT T U A B := by
  refine ⟨hg.size, fun k cs V fr hk hv => hg.block k (Array.getElem?_eq_some_iff.1 hk).1 fun e => ?_⟩; have := hr k e.symm cs V fr hk
  rcases hv with rfl | rfl
  · exact this.1 rfl
  · exact this.2 rfl

theorem KeepT.of_row {T U : TypeId} {A B : World} {n₀ : Nat} {e : TypeId} {size : Nat} {v : Value} {k : Nat} {xs : List Value} (hrow : A.ownsRow n₀ e size v k xs) (hT : e ≠ T) (hU : e ≠ U) (hg : A.grownBy B v.ownBlock) : KeepT T U A B :=
  KeepT.of_grownBy hg fun r he cs V fr hk => by
    rcases hrow.2 with ⟨rfl, _⟩ | ⟨g, cap, cur, rfl, _, hgb, _⟩
    · cases he
    · obtain rfl : g = r := by simpa [Value.ownBlock] using he
      rw [hgb] at hk
      cases hk
      exact ⟨hT, hU⟩

theorem KeepT.store {T U : TypeId} {A : World} {B : Nat} {t : TypeId} {v : Value} (h : Boxed A B t v) (hT : t ≠ T) (hU : t ≠ U) (u : Value) : KeepT T U A (A.setCell ⟨B, 0, none⟩ u) :=
  KeepT.of_grownBy (grownBy_setCell' A B u) fun r he cs V fr hk => by
    cases he
    rw [show A.heap[B]? = _ from h] at hk
    cases hk
    exact ⟨hT, hU⟩

theorem KeepsOthers.of_below {A B : World} (h : Below A.heap.size A B) : KeepsOthers A B :=
  KeepsOthers.of_grownBy (row := none) ⟨h.os, h.tape, h.output, h.size, fun k hk _ => h.block k hk⟩ fun _ _ e => by cases e
theorem grownBy_of_below {A B : World} (h : Below A.heap.size A B) (r : Option Nat) : A.grownBy B r := ⟨h.os, h.tape, h.output, h.size, fun k hk _ => h.block k hk⟩
end Go
/- Faces in memory: attributes, rings, faces; what keeps them. -/
set_option linter.unusedVariables false
set_option linter.unusedSimpArgs false
set_option maxRecDepth 100000
namespace Go
open Go.RowKit
structure At where
  key : ByteArray
  kind : Int
  text : ByteArray
  n : Int
instance : Inhabited At := ⟨⟨ByteArray.empty, 0, ByteArray.empty, 0⟩⟩
def At.cells (a : At) : List Value := [.string a.key, .int .i64 a.kind, .string a.text, .int .i64 a.n]
def At.val (a : At) : Value := .agg #[.string a.key, .int .i64 a.kind, .string a.text, .int .i64 a.n]
def ats (l : List At) : List Value := l.flatMap At.cells
theorem At.cells_len (a : At) : a.cells.length = 4 := rfl
theorem ats_len (l : List At) : (ats l).length = l.length * 4 := by
  unfold ats
  induction l with
  | nil => rfl
  | cons a l ih => simp only [List.flatMap_cons, List.length_append, ih, List.length_cons, At.cells_len]; omega
theorem ats_snoc (l : List At) (a : At) : ats (l ++ [a]) = ats l ++ a.cells := by simp [ats]
structure Fc where
  rs : List PC
  ra : Option Addr
  rc : Nat
  ls : List At
  aa : Option Addr
  ac : Nat
instance : Inhabited Fc := ⟨⟨[], none, 0, [], none, 0⟩⟩
def Fc.rval (f : Fc) : Value := .slice f.ra f.rs.length f.rc
def Fc.aval (f : Fc) : Value := .slice f.aa f.ls.length f.ac
def Fc.cells (f : Fc) : List Value := [f.rval, f.aval]
def Fc.val (f : Fc) : Value := .agg #[f.rval, f.aval]
def rcs (l : List PC) : List Value := l.flatMap PC.cells
def fcs (l : List Fc) : List Value := l.flatMap Fc.cells
theorem rcs_len (l : List PC) : (rcs l).length = l.length * 1 := by
  unfold rcs
  induction l with
  | nil => rfl
  | cons a l ih => simp only [List.flatMap_cons, List.length_append, ih, List.length_cons, PC.cells, List.length_nil]; omega
theorem fcs_len (l : List Fc) : (fcs l).length = l.length * 2 := by
  unfold fcs
  induction l with
  | nil => rfl
  | cons a l ih => simp only [List.flatMap_cons, List.length_append, ih, List.length_cons, Fc.cells, List.length_nil]; omega
theorem rcs_snoc (l : List PC) (x : PC) : rcs (l ++ [x]) = rcs l ++ [x.val] := by simp [rcs, PC.cells]
theorem fcs_snoc (l : List Fc) (x : Fc) : fcs (l ++ [x]) = fcs l ++ x.cells := by simp [fcs]
def Fc.rings (f : Fc) : List (List Pt) := f.rs.map PC.l
def Fc.Ok (W : World) (f : Fc) : Prop :=
  (Rd W f.ra (rcs f.rs) ∧ f.rs.length ≤ f.rc ∧ f.rc ≤ maxLen ∧ (f.ra = none → f.rc = 0)) ∧ (∀ r ∈ f.rs, r.Ok W) ∧ (Rd W f.aa (ats f.ls) ∧ f.ls.length ≤ f.ac ∧ f.ac ≤ maxLen ∧ (f.aa = none → f.ac = 0))
theorem Fc.Ok.keep {w w' : World} {f : Fc} (h : f.Ok w) (hb : Below w.heap.size w w') : f.Ok w' :=
  ⟨⟨h.1.1.keep hb, h.1.2⟩, fun r hr => (h.2.1 r hr).keep hb, ⟨h.2.2.1.keep hb, h.2.2.2⟩⟩

theorem Rd.fc {w : World} {a : Option Addr} {l : List Fc} (h : Rd w a (fcs l)) (i : Nat) (hi : i < l.length) :
    ∃ b off, a = some ⟨b, off, none⟩ ∧ b < w.heap.size ∧ w.cell? ⟨b, off + i * 2, none⟩ = some l[i].rval ∧ w.cell? ⟨b, off + i * 2 + 1, none⟩ = some l[i].aval := by
  have g : ∀ j, j < 2 → (fcs l)[i * 2 + j]? = (l[i]).cells[j]? := fun j hj => flatMap_get Fc.cells 2 (fun _ => rfl) l i j hi hj; obtain ⟨b, off, rfl, h0, hb⟩ := h.at (i := i * 2 + 0) (v := l[i].rval) (by rw [g 0 (by omega)]; rfl); obtain ⟨b', off', e, h1, -⟩ := h.at (i := i * 2 + 1) (v := l[i].aval) (by rw [g 1 (by omega)]; rfl)
  cases e
  exact ⟨b, off, rfl, hb, h0, by rw [Nat.add_assoc]; exact h1⟩
theorem Rd.rc {w : World} {a : Option Addr} {l : List PC} (h : Rd w a (rcs l)) (i : Nat) (hi : i < l.length) :
    ∃ b off, a = some ⟨b, off, none⟩ ∧ b < w.heap.size ∧ w.cell? ⟨b, off + i, none⟩ = some l[i].val := by
  have g : (rcs l)[i * 1 + 0]? = (l[i]).cells[0]? := flatMap_get PC.cells 1 (fun _ => rfl) l i 0 hi (by omega); obtain ⟨b, off, rfl, h0, hb⟩ := h.at (i := i * 1 + 0) (v := l[i].val) (by rw [g]; rfl); exact ⟨b, off, rfl, hb, by rw [Nat.mul_one, Nat.add_zero] at h0; exact h0⟩
theorem Rd.atr {w : World} {a : Option Addr} {l : List At} (h : Rd w a (ats l)) (i : Nat) (hi : i < l.length) :
    ∃ b off, a = some ⟨b, off, none⟩ ∧ b < w.heap.size ∧ w.cell? ⟨b, off + i * 4, none⟩ = some (.string l[i].key) ∧ w.cell? ⟨b, off + i * 4 + 1, none⟩ = some (.int .i64 l[i].kind) ∧ w.cell? ⟨b, off + i * 4 + 2, none⟩ = some (.string l[i].text) ∧ w.cell? ⟨b, off + i * 4 + 3, none⟩ = some (.int .i64 l[i].n) := by
  have g : ∀ j, j < 4 → (ats l)[i * 4 + j]? = (l[i]).cells[j]? := fun j hj => flatMap_get At.cells 4 (fun _ => rfl) l i j hi hj; obtain ⟨b, off, rfl, h0, hb⟩ := h.at (i := i * 4 + 0) (v := .string l[i].key) (by rw [g 0 (by omega)]; rfl); obtain ⟨b', off', e, h1, -⟩ := h.at (i := i * 4 + 1) (v := .int .i64 l[i].kind) (by rw [g 1 (by omega)]; rfl)
  cases e
  obtain ⟨b', off', e, h2, -⟩ := h.at (i := i * 4 + 2) (v := .string l[i].text) (by rw [g 2 (by omega)]; rfl)
  cases e
  obtain ⟨b', off', e, h3, -⟩ := h.at (i := i * 4 + 3) (v := .int .i64 l[i].n) (by rw [g 3 (by omega)]; rfl)
  cases e
  refine ⟨b, off, rfl, hb, h0, ?_, ?_, ?_⟩
  · rw [Nat.add_assoc]; exact h1
  · rw [Nat.add_assoc]; exact h2
  · rw [Nat.add_assoc]; exact h3
theorem ats_one (l : List At) : ∀ u ∈ ats l, u.oneCell' = true := by
  intro u hu; obtain ⟨p, -, hu⟩ := List.mem_flatMap.1 hu; simp [At.cells] at hu
  rcases hu with rfl | rfl | rfl | rfl <;> rfl
theorem rcs_one (l : List PC) : ∀ u ∈ rcs l, u.oneCell' = true := by
  intro u hu; obtain ⟨p, -, hu⟩ := List.mem_flatMap.1 hu; simp [PC.cells, PC.val] at hu; rw [hu]; rfl
theorem fcs_one (l : List Fc) : ∀ u ∈ fcs l, u.oneCell' = true := by
  intro u hu; obtain ⟨p, -, hu⟩ := List.mem_flatMap.1 hu; simp [Fc.cells, Fc.rval, Fc.aval] at hu
  rcases hu with rfl | rfl <;> rfl
def TypB (W : World) (a : Option Addr) (T : TypeId) : Prop := ∀ b, a.map (·.block) = some b → ∃ cs fr, W.heap[b]? = some (.cells cs T fr)
theorem TypB.none (W : World) (T : TypeId) : TypB W none T := fun b h => by simp at h
theorem TypB.of_owns {W : World} {base : Nat} {e : TypeId} {size n c m : Nat} {a : Option Addr} {xs : List Value} (h : W.ownsRow base e size (.slice a n c) m xs) : TypB W a e := by
  intro b hb
  rcases h.2 with ⟨h1, -⟩ | ⟨g, cap, cur, h1, -, hg, -⟩
  · cases h1; simp at hb
  · cases h1
    simp at hb; subst hb; exact ⟨cur, _, hg⟩
def KeepS (S : TypeId → Prop) (A B : World) : Prop := A.heap.size ≤ B.heap.size ∧ ∀ (k : Nat) (cs : Array Value) (V : TypeId) (fr : Nat × Nat), A.heap[k]? = some (Obj.cells cs V fr) → S V → B.heap[k]? = A.heap[k]?
theorem KeepS.refl {S : TypeId → Prop} (A : World) : KeepS S A A := ⟨Nat.le_refl _, fun _ _ _ _ _ _ => rfl⟩
theorem KeepS.trans {S : TypeId → Prop} {A B C : World} (h : KeepS S A B) (k : KeepS S B C) : KeepS S A C :=
  ⟨Nat.le_trans h.1 k.1, fun i cs V fr hi hv => by
    have h1 := h.2 i cs V fr hi hv; rw [k.2 i cs V fr (h1.trans hi) hv, h1]⟩
theorem KeepS.of_below {S : TypeId → Prop} {A B : World} (h : Below A.heap.size A B) : KeepS S A B :=
  ⟨h.size, fun k _ _ _ hk _ => h.block k (Array.getElem?_eq_some_iff.1 hk).1⟩
theorem KeepS.of_grownBy {S : TypeId → Prop} {A B : World} {row : Option Nat} (hg : A.grownBy B row) (hr : ∀ r, row = some r → ∀ cs V fr, A.heap[r]? = some (Obj.cells cs V fr) → ¬ S V) : KeepS S A B :=
  ⟨hg.size, fun k cs V fr hk hv => hg.block k (Array.getElem?_eq_some_iff.1 hk).1 fun e => hr k e.symm cs V fr hk hv⟩
theorem KeepS.of_row {S : TypeId → Prop} {A B : World} {n₀ : Nat} {e : TypeId} {size : Nat} {v : Value} {k : Nat} {xs : List Value} (hrow : A.ownsRow n₀ e size v k xs) (hS : ¬ S e) (hg : A.grownBy B v.ownBlock) : KeepS S A B :=
  KeepS.of_grownBy hg fun r he cs V fr hk => by
    rcases hrow.2 with ⟨rfl, _⟩ | ⟨g, cap, cur, rfl, _, hgb, _⟩
    · cases he
    · obtain rfl : g = r := by simpa [Value.ownBlock] using he
      rw [hgb] at hk
      cases hk
      exact hS
theorem KeepS.store {S : TypeId → Prop} {A : World} {p : Addr} {t : TypeId} {cs : Array Value} {fr : Nat × Nat} (h : A.heap[p.block]? = some (.cells cs t fr)) (hS : ¬ S t) (u : Value) : KeepS S A (A.setCell p u) := by
  refine ⟨by simp [World.setCell], fun k cs' V fr' hk hv => ?_⟩; refine Below.heap_setCell A p u k (fun e => ?_); subst e; rw [h] at hk
  cases hk
  exact hS hv
theorem Rd.keepS {S : TypeId → Prop} {A B : World} {a : Option Addr} {vs : List Value} {T : TypeId} (h : Rd A a vs) (ht : TypB A a T) (hS : S T) (k : KeepS S A B) : Rd B a vs := by
  rcases h with h | ⟨b, off, rfl, hc⟩
  · exact .inl h
  · refine .inr ⟨b, off, rfl, fun i v hv => ?_⟩; obtain ⟨cs, fr, hb⟩ := ht b rfl; have := hc i v hv; simp only [World.cell?, k.2 b cs T fr hb hS]; exact this
theorem TypB.keepS {S : TypeId → Prop} {A B : World} {a : Option Addr} {T : TypeId} (ht : TypB A a T) (hS : S T) (k : KeepS S A B) : TypB B a T := by
  intro b hb; obtain ⟨cs, fr, h⟩ := ht b hb; exact ⟨cs, fr, (k.2 b cs T fr h hS).trans h⟩
end Go
namespace Go.Proofs.YtkfgbjjelcigcaaGreatDoor
open Go.RowKit
def PcT (W : World) (x : PC) : Prop := x.Ok W ∧ TypB W x.p 69
def FcT (W : World) (f : Fc) : Prop := f.Ok W ∧ TypB W f.ra 67 ∧ (∀ r ∈ f.rs, PcT W r) ∧ TypB W f.aa 71
def faceS (T : TypeId) : Prop := T = 69 ∨ T = 67 ∨ T = 71
theorem PcT.keepS {S : TypeId → Prop} {A B : World} {x : PC} (h : PcT A x) (hS : S 69) (k : KeepS S A B) : PcT B x :=
  ⟨⟨h.1.1.keepS h.2 hS k, h.1.2⟩, h.2.keepS hS k⟩
theorem FcT.keepS {A B : World} {f : Fc} (h : FcT A f) (k : KeepS faceS A B) : FcT B f := by
  obtain ⟨⟨h1, h2, h3⟩, t1, t2, t3⟩ := h; exact ⟨⟨⟨h1.1.keepS t1 (.inr (.inl rfl)) k, h1.2⟩, fun r hr => ((t2 r hr).keepS (.inl rfl) k).1, ⟨h3.1.keepS t3 (.inr (.inr rfl)) k, h3.2⟩⟩, t1.keepS (.inr (.inl rfl)) k, fun r hr => (t2 r hr).keepS (.inl rfl) k, t3.keepS (.inr (.inr rfl)) k⟩
theorem FcT.keep {A B : World} {f : Fc} (h : FcT A f) (hb : Below A.heap.size A B) : FcT B f := h.keepS (KeepS.of_below hb)
theorem PcT.keep {A B : World} {f : PC} (h : PcT A f) (hb : Below A.heap.size A B) : PcT B f := h.keepS (S := faceS) (.inl rfl) (KeepS.of_below hb)
theorem faceS_face : ¬ faceS 65 := by unfold faceS; decide
theorem Tryz.infoAt : (Tryz.prog.info? 71).map (fun i => (i.zero, i.size, i.bytes)) = some (some (.agg #[.string ⟨#[]⟩, .int .i64 0, .string ⟨#[]⟩, .int .i64 0]), 4, 48) := by kernel_rfl
theorem Tryz.infoFace : (Tryz.prog.info? 65).map (fun i => (i.zero, i.size, i.bytes)) = some (some (.agg #[.slice none 0 0, .slice none 0 0]), 2, 48) := by kernel_rfl
theorem Tryz.infoRow : (Tryz.prog.info? 67).map (fun i => (i.zero, i.size, i.bytes)) = some (some (.slice none 0 0), 1, 24) := by kernel_rfl
theorem Tryz.infoPnt : (Tryz.prog.info? 69).map (fun i => (i.zero, i.size, i.bytes)) = some (some (.agg #[.int .i64 0, .int .i64 0]), 2, 16) := by kernel_rfl
end Go.Proofs.YtkfgbjjelcigcaaGreatDoor

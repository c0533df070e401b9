/-
  text.Words.
-/
import Derived.Test.YtbjiamakchklpaaTword
import Derived.Test.YtbjiamakchklpaaAppAt
import Derived.Test.YtbjiamakchklpaaAppL
set_option linter.unusedVariables false
set_option linter.unusedSimpArgs false
set_option maxRecDepth 100000
namespace Go
open Go.RowKit
/-- The words from a place on, behind those that are there: the words, the place, the error. -/
def wordsF (s : ByteArray) : Nat → Nat → List (List UInt8 × Bool) → List (List UInt8 × Bool) × Nat × Nat
  | 0, p, _ => ([], p, 3)
  | f + 1, p, out =>
    if (wordF (s.extract p s.size)).2.2.2 ≠ 0 then ([], p, (wordF (s.extract p s.size)).2.2.2)
    else if p + (wordF (s.extract p s.size)).2.2.1 < s.size then wordsF s f (p + (wordF (s.extract p s.size)).2.2.1 + 1) (out ++ [((wordF (s.extract p s.size)).1, (wordF (s.extract p s.size)).2.1)])
    else (out ++ [((wordF (s.extract p s.size)).1, (wordF (s.extract p s.size)).2.1)], 0, 0)
/-- A line's words, the place of the first that is wrong, the error. -/
def wordsT (s : ByteArray) : List (List UInt8 × Bool) × Nat × Nat := if s.size = 0 then ([], 0, 0) else wordsF s (s.size + 1) 0 []
def wcell (x : List UInt8 × Bool) : List Value := [.string ⟨x.1.toArray⟩, .bool x.2]
/-- Words, as cells. -/
def wcells (l : List (List UInt8 × Bool)) : List Value := l.flatMap wcell
theorem wcells_snoc (l : List (List UInt8 × Bool)) (x : List UInt8 × Bool) : wcells (l ++ [x]) = wcells l ++ wcell x := by simp [wcells]
theorem wcells_len (l : List (List UInt8 × Bool)) : (wcells l).length = l.length * 2 := by
  induction l with
  | nil => rfl
  | cons x l ih => simp only [wcells, List.flatMap_cons, List.length_append, List.length_cons] at *; simp [wcell] at *; omega
theorem wordF_le (t : ByteArray) (h : (wordF t).2.2.2 = 0) : (wordF t).2.2.1 ≤ t.size := by
  have hu := unquoteF_le t
  have he := endF_spec t
  unfold wordF at h ⊢
  split
  · rename_i h1
    rw [if_pos h1] at h
    split
    · dsimp only; omega
    · rename_i h2
      rw [if_neg h2] at h
      have := hu (by simpa using h2)
      split
      · dsimp only; omega
      · dsimp only; omega
  · rename_i h1
    split
    · dsimp only; omega
    · split
      · dsimp only; omega
      · dsimp only; omega
end Go
namespace Go.Proofs.Ytbjiamakchklpaa
open Go.RowKit
theorem Try.infoTW : (Try.prog.info? 43).map (fun i => (i.zero, i.size, i.bytes)) = some (some (.agg #[.string ⟨#[]⟩, .bool false]), 2, 24) := by kernel_rfl

set_option maxHeartbeats 6400000 in
theorem words_any (s : ByteArray) (hs : s.size ≤ 100000) (w : World) :
    Calls Try.prog 14 #[.string s] w fun e w' => ∃ v, e = .returned (.tuple #[v, .int .i64 (wordsT s).2.1, .int .i64 (wordsT s).2.2]) ∧ w'.ownsRow w.heap.size 43 2 v (wordsT s).1.length (wcells (wordsT s).1) ∧ Below w.heap.size w w' := by
  have hF := Lib.hid (wordsT.eq_1 s)
  obtain ⟨R, hR⟩ : ∃ R, wordsT s = R := ⟨_, rfl⟩
  rw [hR] at hF ⊢
  clear hR
  obtain ⟨R1, R2, R3⟩ := R
  dsimp only
  go_enter Try.func14, Try.ntmps14
  go_wp2
  refine wp_goto_pre 0 (fun n a' w' => ∃ (p f : Nat) (out : List (List UInt8 × Bool)) (o u2 u3 u4 u7 u8 u9 u10 u11 u12 u13 u14 u15 u16 u17 u18 u19 u20 u21 u22 u23 u24 u25 u26 u27 u28 u29 u30 u31 u32 u33 u34 u35 u36 u37 : Value),
    (n = s.size - p ∧ p ≤ s.size ∧ s.size < p + f ∧ w'.ownsRow w.heap.size 43 2 o out.length (wcells out) ∧ Below w.heap.size w w' ∧ out.length ≤ p ∧ Hid ((R1, R2, R3) = wordsF s f p out)) ∧
    a' = { tmps := #[.string s, undef, u2, u3, u4, o, .int .i64 (p : Int), u7, u8, u9, u10, u11, u12, u13, u14, u15, u16, u17, u18, u19, u20, u21, u22, u23, u24, u25, u26, u27, u28, u29, u30, u31, u32, u33, u34, u35, u36, u37], defers := [] }) rfl ?_ ?_
  · rintro n a' w' ⟨p, f, out, o, u2, u3, u4, u7, u8, u9, u10, u11, u12, u13, u14, u15, u16, u17, u18, u19, u20, u21, u22, u23, u24, u25, u26, u27, u28, u29, u30, u31, u32, u33, u34, u35, u36, u37, ⟨rfl, hps, hpf, ho, hb, hol, HU⟩, rfl⟩ J hJ
    have HJ := Lib.hid hJ
    clear hJ hF
    obtain ⟨f, rfl⟩ : ∃ g, f = g + 1 := ⟨f - 1, by omega⟩
    have hpi : (p : Int) ≤ (s.size : Int) := by omega
    have hw := word_any (s.extract p s.size) (by rw [ext_size]; omega)
    have hle := wordF_le (s.extract p s.size)
    rw [ext_size] at hle
    have hu := HU.out
    unfold wordsF at hu
    generalize wordF (s.extract p s.size) = X at *
    obtain ⟨X1, X2, X3, X4⟩ := X
    dsimp only at hw hle hu
    have HW := Lib.hid hw
    have HLE := Lib.hid hle
    clear HU
    have HU := Lib.hid hu
    clear hw hle hu
    go_wp2_with fail
    refine (HW.out _).mono ?_
    rintro e w1 ⟨rfl, hb1⟩
    have ho1 := ho.below hb1
    have hbl1 := hb.trans (hb1.mono hb.size)
    have hs1 := hbl1.size
    have k1 := Blk.lit w1 w1.heap.size [.string ⟨X1.toArray⟩, .bool X2] 43 rfl
    have q0 := k1.cell 0 rfl
    have q1 := k1.cell 1 rfl
    have ho2 := ho1.alloc (.cells #[.string ⟨X1.toArray⟩, .bool X2] 43)
    have hbl2 := hbl1.alloc hs1 (.cells #[.string ⟨X1.toArray⟩, .bool X2] 43)
    clear HW ho hb ho1 hbl1
    by_cases x4 : X4 = 0
    · subst x4
      have hle := HLE.out rfl
      have hu := HU.out
      rw [if_neg (show ¬ ((0 : Nat) ≠ 0) by decide)] at hu
      clear HU
      have HU := Lib.hid hu
      clear hu HLE
      have hsn : Hid (wcells (out ++ [(X1, X2)]) = wcells out ++ [.string ⟨X1.toArray⟩, .bool X2]) := Lib.hid (wcells_snoc out (X1, X2))
      have hln : (out ++ [(X1, X2)]).length = out.length + 1 := by simp
      generalize out ++ [(X1, X2)] = out2 at *
      go_wp2_with (at_builtin; go_must (refine wpList_appLitAt w hbl2 rfl (.tmp 24) (.tmp 26) 35 rfl 43 (.agg #[.string ⟨#[]⟩, .bool false]) 2 24 Try.underlying35 Try.infoTW rfl (by decide) (by decide) o out.length (wcells out) rfl ho2 1 1 (w1.heap.size + 1) (by simp) [.string ⟨X1.toArray⟩, .bool X2] _ rfl rfl (by simp [Value.oneCell']) (by omega) ?_))
      intro v2 w2 ho3 hg2 hb2 hl2
      by_cases hlt : p + X3 < s.size
      · have hu := HU.out
        rw [if_pos hlt] at hu
        have HU2 := Lib.hid hu
        clear HU hu
        have hlt2 : (p : Int) + (X3 : Int) < (s.size : Int) := by omega
        go_wp2
        go_step3
        show (0 : Nat) = 0 ∧ J _ _
        have e1 : (p : Int) + (X3 : Int) + 1 = ((p + X3 + 1 : Nat) : Int) := by omega
        rw [e1]
        refine ⟨rfl, HJ.out (s.size - (p + X3 + 1)) _ _ (by omega) ⟨p + X3 + 1, f, out2, v2, _, _, _, _, _, _, _, _, _, _, _, _, _, _, _, _, _, _, _, _, _, _, _, _, _, _, _, _, _, _, _, _, _, _, ⟨rfl, by omega, by omega, ?_, hb2, by omega, HU2⟩, rfl⟩⟩
        rw [hln, hsn.out]; exact ho3
      · have hu := HU.out
        rw [if_neg hlt] at hu
        cases hu
        have hlt2 : ¬ (p : Int) + (X3 : Int) < (s.size : Int) := by omega
        clear HU
        go_wp2
        try rw [Exit.jump_ret]
        refine bodyPost_ret (v := .tuple #[v2, .int .i64 0, .int .i64 0]) (by simp [results, Try.results14, go_sem]) rfl ⟨_, rfl, ?_, hb2⟩
        rw [hln, hsn.out]; exact ho3
    · have x5 : ((X4 : Int) != 0) = true := bne_iff_ne.2 (by omega)
      have hu := HU.out
      rw [if_pos (show X4 ≠ 0 from x4)] at hu
      cases hu
      clear HU HLE
      go_wp2
      try rw [Exit.jump_ret]
      refine bodyPost_ret (v := .tuple #[.slice none 0 0, .int .i64 (R2 : Int), .int .i64 (R3 : Int)]) (by simp [results, Try.results14, go_sem]) rfl ⟨_, rfl, World.ownsRow_nil _ _ _ _, hbl2⟩
  · intro J HL
    by_cases h0 : s.size = 0
    · have hR := hF.out
      rw [if_pos h0] at hR
      cases hR
      have hte : s.toList.isEmpty = true := by rw [empty_dec]; simp [h0]
      clear hF HL
      go_wp2
      try rw [Exit.jump_ret]
      refine bodyPost_ret (v := .tuple #[.slice none 0 0, .int .i64 0, .int .i64 0]) (by simp [results, Try.results14, go_sem]) rfl ⟨_, rfl, World.ownsRow_nil _ _ _ _, Below.refl _ _⟩
    · have hR := hF.out
      rw [if_neg h0] at hR
      have hte : s.toList.isEmpty = false := by rw [empty_dec]; simp [h0]
      have HU := Lib.hid hR
      clear hF hR
      go_wp2
      go_step3
      go_step
      go_step
      exact HL.out (s.size - 0) _ _ ⟨0, s.size + 1, [], .slice none 0 0, _, _, _, _, _, _, _, _, _, _, _, _, _, _, _, _, _, _, _, _, _, _, _, _, _, _, _, _, _, _, _, _, _, _, ⟨rfl, by omega, by omega, World.ownsRow_nil _ _ _ _, Below.refl _ _, by simp, HU⟩, rfl⟩
end Go.Proofs.Ytbjiamakchklpaa

/-
  text.Words. Plain: quoted words with one blank between are the words of the line. Plain: a number's digits, and back. text.Digits, text.Number of what Digits told, value.number. value.Print. Plain: the lines of items, their words, where they end.
-/
import Derived.Test.YtkfgbjjelcigcaaGreatDoorPk7
import Derived.Test.YtkfgbjjelcigcaaGreatDoorPk8
import Derived.Test.YtkfgbjjelcigcaaGreatDoorPk5
import Derived.Lib.ItoaNum
import Derived.Lib.ItoaMem
import Derived.Lib.ItoaLen
import Derived.Lib.AtoiAll
import Derived.Lib.AtoiAllCases
import Derived.Test.YtkfgbjjelcigcaaGreatDoorShelf
import Derived.Test.YtkfgbjjelcigcaaGreatDoorPk2
import Derived.Lib.AppendIntMem
import Derived.Lib.SmallJoins
import Derived.Test.YtkfgbjjelcigcaaGreatDoorPk3
/- text.Words. -/
set_option linter.unusedVariables false
set_option linter.unusedSimpArgs false
set_option maxRecDepth 100000
namespace Go
open Go.RowKit
def wordsF (s : ByteArray) : Nat → Nat → List (List UInt8 × Bool) → List (List UInt8 × Bool) × Nat × Nat
  | 0, p, _ => ([], p, 3)
  | f + 1, p, out =>
    if (wordF (s.extract p s.size)).2.2.2 ≠ 0 then ([], p, (wordF (s.extract p s.size)).2.2.2)
    else if p + (wordF (s.extract p s.size)).2.2.1 < s.size then wordsF s f (p + (wordF (s.extract p s.size)).2.2.1 + 1) (out ++ [((wordF (s.extract p s.size)).1, (wordF (s.extract p s.size)).2.1)])
    else (out ++ [((wordF (s.extract p s.size)).1, (wordF (s.extract p s.size)).2.1)], 0, 0)
def wordsT (s : ByteArray) : List (List UInt8 × Bool) × Nat × Nat := if s.size = 0 then ([], 0, 0) else wordsF s (s.size + 1) 0 []
def wcell (x : List UInt8 × Bool) : List Value := [.string ⟨x.1.toArray⟩, .bool x.2]
def wcells (l : List (List UInt8 × Bool)) : List Value := l.flatMap wcell
theorem wcells_snoc (l : List (List UInt8 × Bool)) (x : List UInt8 × Bool) : wcells (l ++ [x]) = wcells l ++ wcell x := by simp [wcells]
theorem wcells_len (l : List (List UInt8 × Bool)) : (wcells l).length = l.length * 2 := by
  induction l with
  | nil => rfl
  | cons x l ih => simp only [wcells, List.flatMap_cons, List.length_append, List.length_cons] at *; simp [wcell] at *; omega
theorem wordF_le (t : ByteArray) (h : (wordF t).2.2.2 = 0) : (wordF t).2.2.1 ≤ t.size := by
  have hu := unquoteF_le t; have he := endF_spec t; unfold wordF at h ⊢
  split
  · rename_i h1; rw [if_pos h1] at h
    split
    · dsimp only; omega
    · rename_i h2; rw [if_neg h2] at h; have := hu (by simpa using h2)
      split
      · dsimp only; omega
      · dsimp only; omega
  · rename_i h1
    split
    · dsimp only; omega
    · split
      · dsimp only; omega
      · dsimp only; omega
end Go
namespace Go.Proofs.YtkfgbjjelcigcaaGreatDoor
open Go.RowKit
theorem Tryz.infoTW : (Tryz.prog.info? 126).map (fun i => (i.zero, i.size, i.bytes)) = some (some (.agg #[.string ⟨#[]⟩, .bool false]), 2, 24) := by kernel_rfl

set_option maxHeartbeats 6400000 in
theorem words_any (s : ByteArray) (hs : s.size ≤ 100000) (w : World) :
    Calls Tryz.prog 59 #[.string s] w fun e w' => ∃ v, e = .returned (.tuple #[v, .int .i64 (wordsT s).2.1, .int .i64 (wordsT s).2.2]) ∧ w'.ownsRow w.heap.size 126 2 v (wordsT s).1.length (wcells (wordsT s).1) ∧ Below w.heap.size w w' := by
  have hF := Lib.hid (wordsT.eq_1 s); obtain ⟨R, hR⟩ : ∃ R, wordsT s = R := ⟨_, rfl⟩; rw [hR] at hF ⊢; clear hR; obtain ⟨R1, R2, R3⟩ := R; dsimp only
  go_enter Tryz.func59, Tryz.ntmps59
  go_wp2; refine wp_goto_pre 0 (fun n a' w' => ∃ (p f : Nat) (out : List (List UInt8 × Bool)) (o u2 u3 u4 u7 u8 u9 u10 u11 u12 u13 u14 u15 u16 u17 u18 u19 u20 u21 u22 u23 u24 u25 u26 u27 u28 u29 u30 u31 u32 u33 u34 u35 u36 u37 : Value),
    (n = s.size - p ∧ p ≤ s.size ∧ s.size < p + f ∧ w'.ownsRow w.heap.size 126 2 o out.length (wcells out) ∧ Below w.heap.size w w' ∧ out.length ≤ p ∧ Hid ((R1, R2, R3) = wordsF s f p out)) ∧
    a' = { tmps := #[.string s, undef, u2, u3, u4, o, .int .i64 (p : Int), u7, u8, u9, u10, u11, u12, u13, u14, u15, u16, u17, u18, u19, u20, u21, u22, u23, u24, u25, u26, u27, u28, u29, u30, u31, u32, u33, u34, u35, u36, u37], defers := [] }) rfl ?_ ?_
  · rintro n a' w' ⟨p, f, out, o, u2, u3, u4, u7, u8, u9, u10, u11, u12, u13, u14, u15, u16, u17, u18, u19, u20, u21, u22, u23, u24, u25, u26, u27, u28, u29, u30, u31, u32, u33, u34, u35, u36, u37, ⟨rfl, hps, hpf, ho, hb, hol, HU⟩, rfl⟩ J hJ; have HJ := Lib.hid hJ; clear hJ hF; obtain ⟨f, rfl⟩ : ∃ g, f = g + 1 := ⟨f - 1, by omega⟩; have hpi : (p : Int) ≤ (s.size : Int) := by omega
    have hw := word_any (s.extract p s.size) (by rw [ext_size]; omega); have hle := wordF_le (s.extract p s.size); rw [ext_size] at hle; have hu := HU.out; unfold wordsF at hu; generalize wordF (s.extract p s.size) = X at *; obtain ⟨X1, X2, X3, X4⟩ := X; dsimp only at hw hle hu; have HW := Lib.hid hw; have HLE := Lib.hid hle; clear HU; have HU := Lib.hid hu; clear hw hle hu
    go_wp2_with fail
    refine (HW.out _).mono ?_; rintro e w1 ⟨rfl, hb1⟩; have ho1 := ho.below hb1; have hbl1 := hb.trans (hb1.mono hb.size); have hs1 := hbl1.size; have k1 := Blk.lit w1 w1.heap.size [.string ⟨X1.toArray⟩, .bool X2] 126 rfl; have q0 := k1.cell 0 rfl; have q1 := k1.cell 1 rfl; have ho2 := ho1.alloc (.cells #[.string ⟨X1.toArray⟩, .bool X2] 126); have hbl2 := hbl1.alloc hs1 (.cells #[.string ⟨X1.toArray⟩, .bool X2] 126); clear HW ho hb ho1 hbl1
    by_cases x4 : X4 = 0
    · subst x4; have hle := HLE.out rfl; have hu := HU.out; rw [if_neg (show ¬ ((0 : Nat) ≠ 0) by decide)] at hu; clear HU; have HU := Lib.hid hu; clear hu HLE; have hsn : Hid (wcells (out ++ [(X1, X2)]) = wcells out ++ [.string ⟨X1.toArray⟩, .bool X2]) := Lib.hid (wcells_snoc out (X1, X2)); have hln : (out ++ [(X1, X2)]).length = out.length + 1 := by simp
      generalize out ++ [(X1, X2)] = out2 at *
      go_wp2_with (at_builtin; go_must (refine wpList_appLitAt w hbl2 rfl (.tmp 24) (.tmp 26) 122 rfl 126 (.agg #[.string ⟨#[]⟩, .bool false]) 2 24 Tryz.underlying122 Tryz.infoTW rfl (by decide) (by decide) o out.length (wcells out) rfl ho2 1 1 (w1.heap.size + 1) (by simp) [.string ⟨X1.toArray⟩, .bool X2] _ rfl rfl (by simp [Value.oneCell']) (by omega) ?_))
      intro v2 w2 ho3 hg2 hb2 hl2
      by_cases hlt : p + X3 < s.size
      · have hu := HU.out; rw [if_pos hlt] at hu; have HU2 := Lib.hid hu; clear HU hu; have hlt2 : (p : Int) + (X3 : Int) < (s.size : Int) := by omega
        go_wp2
        go_step3
        show (0 : Nat) = 0 ∧ J _ _; have e1 : (p : Int) + (X3 : Int) + 1 = ((p + X3 + 1 : Nat) : Int) := by omega
        rw [e1]; refine ⟨rfl, HJ.out (s.size - (p + X3 + 1)) _ _ (by omega) ⟨p + X3 + 1, f, out2, v2, _, _, _, _, _, _, _, _, _, _, _, _, _, _, _, _, _, _, _, _, _, _, _, _, _, _, _, _, _, _, _, _, _, _, ⟨rfl, by omega, by omega, ?_, hb2, by omega, HU2⟩, rfl⟩⟩; rw [hln, hsn.out]; exact ho3
      · have hu := HU.out; rw [if_neg hlt] at hu
        cases hu
        have hlt2 : ¬ (p : Int) + (X3 : Int) < (s.size : Int) := by omega
        clear HU; go_wp2
        try rw [Exit.jump_ret]
        refine bodyPost_ret (v := .tuple #[v2, .int .i64 0, .int .i64 0]) (by simp [results, Tryz.results59, go_sem]) rfl ⟨_, rfl, ?_, hb2⟩; rw [hln, hsn.out]; exact ho3
    · have x5 : ((X4 : Int) != 0) = true := bne_iff_ne.2 (by omega); have hu := HU.out; rw [if_pos (show X4 ≠ 0 from x4)] at hu
      cases hu
      clear HU HLE; go_wp2
      try rw [Exit.jump_ret]
      refine bodyPost_ret (v := .tuple #[.slice none 0 0, .int .i64 (R2 : Int), .int .i64 (R3 : Int)]) (by simp [results, Tryz.results59, go_sem]) rfl ⟨_, rfl, World.ownsRow_nil _ _ _ _, hbl2⟩
  · intro J HL
    by_cases h0 : s.size = 0
    · have hR := hF.out; rw [if_pos h0] at hR
      cases hR
      have hte : s.toList.isEmpty = true := by rw [empty_dec]; simp [h0]
      clear hF HL; go_wp2
      try rw [Exit.jump_ret]
      refine bodyPost_ret (v := .tuple #[.slice none 0 0, .int .i64 0, .int .i64 0]) (by simp [results, Tryz.results59, go_sem]) rfl ⟨_, rfl, World.ownsRow_nil _ _ _ _, Below.refl _ _⟩
    · have hR := hF.out; rw [if_neg h0] at hR; have hte : s.toList.isEmpty = false := by rw [empty_dec]; simp [h0]
      have HU := Lib.hid hR; clear hF hR; go_wp2
      go_step3
      go_step; go_step; exact HL.out (s.size - 0) _ _ ⟨0, s.size + 1, [], .slice none 0 0, _, _, _, _, _, _, _, _, _, _, _, _, _, _, _, _, _, _, _, _, _, _, _, _, _, _, _, _, _, _, _, _, _, _, ⟨rfl, by omega, by omega, World.ownsRow_nil _ _ _ _, Below.refl _ _, by simp, HU⟩, rfl⟩
end Go.Proofs.YtkfgbjjelcigcaaGreatDoor
/- Plain: quoted words with one blank between are the words of the line. -/
set_option linter.unusedVariables false
set_option linter.unusedSimpArgs false
set_option maxRecDepth 100000
namespace Go
open Go.RowKit
def tailF (l : List ByteArray) : List UInt8 := l.flatMap (fun y => 32 :: quoteF y)
def joinF : List ByteArray → List UInt8
  | [] => []
  | x :: xs => quoteF x ++ tailF xs
theorem joinF_snoc (l : List ByteArray) (y : ByteArray) : joinF (l ++ [y]) = if l = [] then quoteF y else joinF l ++ 32 :: quoteF y := by
  cases l with
  | nil => simp [joinF, tailF]
  | cons x xs => simp [joinF, tailF]
theorem wordF_quote (T : ByteArray) (x : ByteArray) (hx : rightF x = true) (xs : List ByteArray) (h : T.data.toList = quoteF x ++ tailF xs) : wordF T = (x.data.toList, true, (quoteF x).length, 0) := by
  have hT : T = ⟨(quoteF x ++ tailF xs).toArray⟩ := by
    apply ByteArray.ext; rw [← h]
  have hu := unquote_quote x hx (tailF xs); rw [← hT] at hu; have hsz : T.size = (quoteF x).length + (tailF xs).length := by rw [hT, lsize, List.length_append]
  have hq := quote_runes x; have hq0 : 0 < (quoteF x).length := by rw [hq]; simp
  have h0 : byt T 0 = 34 := by rw [hT, lbyt, hq]; simp
  unfold wordF; rw [if_pos ⟨by omega, h0⟩, hu, if_neg (by simp)]; dsimp only; rw [if_neg]; rintro ⟨h1, h2⟩
  cases xs with
  | nil => simp [tailF] at hsz; omega
  | cons y ys =>
    refine h2 ?_; rw [hT, lbyt, List.getD_eq_getElem?_getD, List.getElem?_append_right (Nat.le_refl _)]; simp [tailF]
theorem wordsF_join (S : ByteArray) : ∀ (xs : List ByteArray) (x : ByteArray) (f p : Nat) (out : List (List UInt8 × Bool)), rightF x = true → (∀ y ∈ xs, rightF y = true) → S.size < p + f → S.data.toList.drop p = quoteF x ++ tailF xs →
    wordsF S f p out = (out ++ (x :: xs).map (fun y => (y.data.toList, true)), 0, 0) := by
  intro xs
  induction xs with
  | nil =>
    intro x f p out hx _ hf h; have hl := congrArg List.length h; rw [List.length_drop, Array.length_toList, List.length_append] at hl; have hss : S.data.size = S.size := rfl; have hq := quote_runes x; have hq0 : 0 < (quoteF x).length := by rw [hq]; simp
    obtain ⟨f, rfl⟩ : ∃ g, f = g + 1 := ⟨f - 1, by omega⟩; have hw := wordF_quote (S.extract p S.size) x hx [] (by rw [ext_drop]; exact h); unfold wordsF; rw [hw]; dsimp only; rw [if_neg (by simp), if_neg (by simp [tailF] at hl; omega)]
    rfl
  | cons y ys ih =>
    intro x f p out hx hys hf h; have hl := congrArg List.length h; rw [List.length_drop, Array.length_toList, List.length_append] at hl; have hss : S.data.size = S.size := rfl; have hq := quote_runes x; have hq0 : 0 < (quoteF x).length := by rw [hq]; simp
    obtain ⟨f, rfl⟩ : ∃ g, f = g + 1 := ⟨f - 1, by omega⟩; have hw := wordF_quote (S.extract p S.size) x hx (y :: ys) (by rw [ext_drop]; exact h); have hlt : p + (quoteF x).length < S.size := by simp [tailF] at hl; omega
    unfold wordsF; rw [hw]; dsimp only; rw [if_neg (by simp), if_pos hlt]; have hd : S.data.toList.drop (p + (quoteF x).length + 1) = quoteF y ++ tailF ys := by
      rw [Nat.add_assoc, ← List.drop_drop, h, ← List.drop_drop, List.drop_left]; simp [tailF]
    rw [ih y f _ _ (hys y (by simp)) (fun z hz => hys z (by simp [hz])) (by omega) hd]; simp
theorem wordsT_join (l : List ByteArray) (h : ∀ y ∈ l, rightF y = true) : wordsT ⟨(joinF l).toArray⟩ = (l.map (fun y => (y.data.toList, true)), 0, 0) := by
  unfold wordsT
  cases l with
  | nil => rfl
  | cons x xs =>
    have hq := quote_runes x; have hq0 : 0 < (quoteF x).length := by rw [hq]; simp
    rw [if_neg (by rw [lsize]; simp only [joinF, List.length_append]; omega)]; have := wordsF_join ⟨(joinF (x :: xs)).toArray⟩ xs x ((⟨(joinF (x :: xs)).toArray⟩ : ByteArray).size + 1) 0 [] (h x (by simp)) (fun y hy => h y (by simp [hy])) (by omega) (by rw [List.drop_zero]; rfl); rw [this, List.nil_append]
end Go
/- Plain: a number's digits, and back. -/
set_option linter.unusedVariables false
set_option linter.unusedSimpArgs false
namespace Go.Dec
open Go.Lib
theorem ofNat_digit {d : Nat} (h : d < 10) : (UInt8.ofNat (48 + d)).toNat = 48 + d := by
  rw [UInt8.toNat_ofNat']; omega
theorem dec_bytes : ∀ (u : Nat), ∀ c ∈ decDigits u, 48 ≤ c.toNat ∧ c.toNat ≤ 57 := by
  intro u
  induction u using Nat.strongRecOn with
  | ind u ih =>
    intro c hc; rw [decDigits] at hc
    split at hc
    · obtain rfl := List.mem_singleton.1 hc; rw [ofNat_digit (by omega)]; omega
    · rcases List.mem_append.1 hc with h | h
      · exact ih (u / 10) (by omega) c h
      · obtain rfl := List.mem_singleton.1 h; rw [ofNat_digit (by omega)]; omega
theorem dec_ne (u : Nat) : decDigits u ≠ [] := by
  rw [decDigits]; split <;> simp
theorem dec_head : ∀ (u : Nat) (c : UInt8) (r : List UInt8), decDigits u = c :: r → c.toNat = 48 → u = 0 ∧ r = [] := by
  intro u
  induction u using Nat.strongRecOn with
  | ind u ih =>
    intro c r h hc; rw [decDigits] at h
    split at h
    · cases h
      rw [ofNat_digit (by omega)] at hc; exact ⟨by omega, rfl⟩
    · exfalso
      cases hd : decDigits (u / 10) with
      | nil => exact dec_ne _ hd
      | cons x t =>
        rw [hd] at h; simp at h; have := (ih (u / 10) (by omega) x t hd (by rw [h.1]; exact hc)).1; omega
theorem parse_append : ∀ (l : List UInt8) (acc v : Nat) (m : List UInt8), parseUint10 acc l = .ok v → parseUint10 acc (l ++ m) = parseUint10 v m
  | [], acc, v, m, h => by
    simp only [parseUint10] at h
    injection h with h
    rw [List.nil_append, h]
  | c :: r, acc, v, m, h => by
    simp only [parseUint10] at h; rw [List.cons_append]; simp only [parseUint10]
    split at h
    · rename_i h1; rw [if_pos h1]
      split at h
      · cases h
      · rename_i h2; rw [if_neg h2]
        split at h
        · cases h
        · rename_i h3; rw [if_neg h3]; exact parse_append r _ v m h
    · cases h
theorem parse_dec : ∀ (u : Nat), u < 18446744073709551616 → parseUint10 0 (decDigits u) = .ok u := by
  intro u
  induction u using Nat.strongRecOn with
  | ind u ih =>
    intro hu; rw [decDigits]
    split
    · rename_i h; simp only [parseUint10]; rw [ofNat_digit h, if_pos (by omega), if_neg (by omega), if_neg (by omega)]
      congr 1; omega
    · rename_i h; rw [parse_append _ 0 (u / 10) _ (ih (u / 10) (by omega) (by omega))]; simp only [parseUint10]; rw [ofNat_digit (by omega), if_pos (by omega), if_neg (by omega), if_neg (by omega)]
      congr 1; omega
theorem mag_dec (u : Nat) (h : u < 18446744073709551616) : parseMag (decDigits u) = .ok u := by
  unfold parseMag; rw [if_neg (dec_ne u), parse_dec u h]
theorem atoi_itoa (n : Int) (h0 : -9223372036854775808 ≤ n) (h1 : n ≤ 9223372036854775807) : atoiAll (itoa n) = .ok n := by
  unfold itoa
  split
  · rename_i h; unfold atoiAll; have e : ((45 : UInt8).toNat = 43 ∨ (45 : UInt8).toNat = 45) := .inr rfl; simp only [if_pos e]; rw [mag_dec _ (by omega)]; have e2 : (45 : UInt8).toNat = 45 := rfl; simp only [e2, not_true_eq_false, false_and, if_false, true_and, if_true]; rw [if_neg (by omega)]
    congr 1; omega
  · rename_i h
    cases hd : decDigits n.toNat with
    | nil => exact absurd hd (dec_ne _)
    | cons c r =>
      have hb := dec_bytes n.toNat c (by rw [hd]; simp); unfold atoiAll; simp only; rw [if_neg (by omega), ← hd, mag_dec _ (by omega)]; have e2 : ¬ c.toNat = 45 := by omega
      simp only [e2, not_false_eq_true, true_and, false_and, if_false]; rw [if_neg (by omega)]
      congr 1; omega
end Go.Dec
/- text.Digits, text.Number of what Digits told, value.number. -/
set_option linter.unusedVariables false
set_option linter.unusedSimpArgs false
set_option maxRecDepth 100000
namespace Go
open Go.RowKit
theorem below_bytesWorld (w : World) (e : TypeId) (t : ByteArray) : Below w.heap.size w (Lib.bytesWorld w e t) :=
  ⟨rfl, rfl, rfl, by rw [Lib.bytesWorld_size]; omega, fun k hk => Lib.bytesWorld_at_old w e t k hk⟩
end Go
namespace Go.Proofs.YtkfgbjjelcigcaaGreatDoor
open Go.RowKit
def TabOk (w : World) : Prop := Lib.TabIs Tryz.prog w "internal/strconv.uint64pow10" .u64 Lib.pow10Tab
theorem digits_any (n : Int) (h0 : -9223372036854775808 ≤ n) (h1 : n ≤ 9223372036854775807) (w : World) (ht : TabOk w) :
    Calls Tryz.prog 34 #[.int .i64 n] w fun e w' => e = .returned (.string ⟨(Lib.itoa n).toArray⟩) ∧ Below w.heap.size w w' := by
  have H := Lib.hid (Tryz.strconv_Itoa n h0 h1 w ht)
  go_enter Tryz.func34, Tryz.ntmps34
  go_wp2_with fail
  refine H.out.mono ?_; rintro e w' ⟨rfl, k, os, rfl⟩; have hb := Lib.below_grow w.heap.size w (Nat.le_refl _) k os; go_wp2; go_ret; exact ⟨rfl, hb⟩

set_option maxHeartbeats 2000000 in
theorem number_itoa (n : Int) (h0 : -1152921504606846976 ≤ n) (h1 : n ≤ 1152921504606846976) (w : World) :
    Calls Tryz.prog 61 #[.string ⟨(Lib.itoa n).toArray⟩] w fun e w' => e = .returned (.tuple #[.int .i64 n, .int .i64 0]) ∧ Below w.heap.size w w' := by
  have hA := Dec.atoi_itoa n (by omega) (by omega); have hL := Lib.itoa_length_le n (by omega) (by omega); obtain ⟨S, hS⟩ : ∃ S, Lib.itoa n = S := ⟨_, rfl⟩; obtain ⟨DG, hDG⟩ : ∃ D, Lib.decDigits n.natAbs = D := ⟨_, rfl⟩; have hT : Lib.trimPrefix S [45] = DG := by
    rw [← hS, ← hDG]; unfold Lib.itoa
    split
    · simp [Lib.trimPrefix, Lib.hasPrefix]
    · rename_i hn; have e : n.natAbs = n.toNat := by omega
      rw [e]
      cases hd : Lib.decDigits n.toNat with
      | nil => exact absurd hd (Dec.dec_ne _)
      | cons c r =>
        have := Dec.dec_bytes n.toNat c (by rw [hd]; simp); have hc : ¬ (45 : UInt8) = c := by rintro rfl; simp at this
        have hc2 : ¬ c = (45 : UInt8) := fun e => hc e.symm; simp [Lib.trimPrefix, Lib.hasPrefix, hc, hc2]
  have hB : ∀ c ∈ DG, 48 ≤ c.toNat ∧ c.toNat ≤ 57 := by rw [← hDG]; exact Dec.dec_bytes _
  have hN : DG ≠ [] := by rw [← hDG]; exact Dec.dec_ne _
  have hE : DG.isEmpty = false := by cases DG with | nil => exact absurd rfl hN | cons => rfl
  have hS2 : (S == [45, 48]) = false := by
    rw [beq_eq_false_iff_ne, ← hS]; unfold Lib.itoa
    split
    · intro e; rw [List.cons.injEq] at e; have := (Dec.dec_head _ _ _ e.2 rfl).1; omega
    · intro e; have := Dec.dec_bytes n.toNat 45 (by rw [e]; simp); simp at this
  rw [hS] at hA hL ⊢; have HT := Lib.hid (Tryz.strings_TrimPrefix ⟨S.toArray⟩ ⟨#[45]⟩ w); simp only at HT; rw [hT] at HT; have HAT := Lib.hid (fun W => Tryz.strconv_Atoi_ok ⟨S.toArray⟩ (by show S.toArray.size ≤ _; rw [List.size_toArray]; omega) n hA W); have hD0 : 1 < DG.length → ∀ h : 0 < (⟨DG.toArray⟩ : ByteArray).size, (((⟨DG.toArray⟩ : ByteArray)[0]'h).toNat : Int) ≠ 48 := by
    intro hl h he
    cases hd : DG with
    | nil => rw [hd] at hl; simp at hl
    | cons c r =>
      subst hd; have e : (((⟨(c :: r).toArray⟩ : ByteArray)[0]'h).toNat : Int) = (c.toNat : Int) := rfl; rw [e] at he; have := (Dec.dec_head n.natAbs c r hDG (by omega)).2; subst this; simp at hl
  have hDB : ∀ i (h : i < (⟨DG.toArray⟩ : ByteArray).size), 48 ≤ (((⟨DG.toArray⟩ : ByteArray)[i]'h).toNat : Int) ∧ (((⟨DG.toArray⟩ : ByteArray)[i]'h).toNat : Int) ≤ 57 := by
    intro i h; have h2 : i < DG.length := by have : i < DG.toArray.size := h; simpa using this
    have e : ((⟨DG.toArray⟩ : ByteArray)[i]'h) = DG[i] := rfl; rw [e]; have := hB DG[i] (List.getElem_mem h2); omega
  have hsz : (⟨DG.toArray⟩ : ByteArray).size = DG.length := by show DG.toArray.size = _; simp
  have hle : DG.length ≤ 21 := by
    have : DG.length ≤ S.length := by
      rw [← hT]; unfold Lib.trimPrefix
      split
      · simp
      · exact Nat.le_refl _
    omega
  have HD0 := Lib.hid hD0; have HDB := Lib.hid hDB; clear hT hS hA hB hN hDG hD0 hDB
  go_enter Tryz.func61, Tryz.ntmps61
  go_wp2_with fail
  refine HT.out.mono ?_; rintro e w' ⟨rfl, rfl⟩; clear HT
  by_cases hl : 1 < DG.length
  · have hlz : (1 : Int) < (DG.length : Int) := by omega
    have hd0 := HD0.out hl (by omega); have hd1 : ((((⟨DG.toArray⟩ : ByteArray)[0]'(by omega)).toNat : Int) == 48) = false := by simpa using hd0
    go_wp2
    go_loopw [28] (fun i wr => ∃ k : Nat, k ≤ DG.length ∧ i = .int .i64 k ∧ wr = w') (fun i _ => DG.length - (intOf i).toNat)
    case atStart => exact ⟨0, Nat.zero_le _, rfl, rfl⟩
    case round =>
      obtain ⟨k, hk, rfl, rfl⟩ := hrel
      by_cases hlt : k < DG.length
      · obtain ⟨b1, b2⟩ := HDB.out k (by omega); go_wp2; go_roundw
        case rel => exact ⟨k + 1, by omega, by go_num, by first | rfl | trivial⟩
        case measure => simp [intOf]; omega
      · obtain rfl : k = DG.length := by omega
        go_wp2_with fail
        refine (HAT.out _).mono ?_; rintro e w1 ⟨rfl, hw1⟩; have hb1 : Below wr.heap.size wr w1 := by
          rcases hw1 with rfl | ⟨t, rfl⟩
          · exact Below.refl _ _
          · exact below_bytesWorld _ _ _
        clear hw1; have hn1 : ¬ 1152921504606846976 < n := by omega
        have hn2 : ¬ n < -1152921504606846976 := by omega
        go_wp2; refine bodyPost_ret (v := .tuple #[.int .i64 n, .int .i64 0]) (by simp [results, Tryz.results61, go_sem]) rfl ⟨rfl, hb1⟩
  · have hlz : ¬ (1 : Int) < (DG.length : Int) := by omega
    go_wp2
    go_loopw [28] (fun i wr => ∃ k : Nat, k ≤ DG.length ∧ i = .int .i64 k ∧ wr = w') (fun i _ => DG.length - (intOf i).toNat)
    case atStart => exact ⟨0, Nat.zero_le _, rfl, rfl⟩
    case round =>
      obtain ⟨k, hk, rfl, rfl⟩ := hrel
      by_cases hlt : k < DG.length
      · obtain ⟨b1, b2⟩ := HDB.out k (by omega); go_wp2; go_roundw
        case rel => exact ⟨k + 1, by omega, by go_num, by first | rfl | trivial⟩
        case measure => simp [intOf]; omega
      · obtain rfl : k = DG.length := by omega
        go_wp2_with fail
        refine (HAT.out _).mono ?_; rintro e w1 ⟨rfl, hw1⟩; have hb1 : Below wr.heap.size wr w1 := by
          rcases hw1 with rfl | ⟨t, rfl⟩
          · exact Below.refl _ _
          · exact below_bytesWorld _ _ _
        clear hw1; have hn1 : ¬ 1152921504606846976 < n := by omega
        have hn2 : ¬ n < -1152921504606846976 := by omega
        go_wp2; refine bodyPost_ret (v := .tuple #[.int .i64 n, .int .i64 0]) (by simp [results, Tryz.results61, go_sem]) rfl ⟨rfl, hb1⟩
end Go.Proofs.YtkfgbjjelcigcaaGreatDoor
/- value.Print. -/
set_option linter.unusedVariables false
set_option linter.unusedSimpArgs false
set_option maxRecDepth 100000
namespace Go
open Go.RowKit
def prnF (v : VV) : ByteArray :=
  if v.1 = 1 then ⟨(quoteF v.2.1).toArray⟩ else if v.1 = 2 then ⟨#[117]⟩ ++ ⟨(Lib.itoa v.2.2).toArray⟩
  else if v.1 = 3 then (if 0 ≤ v.2.2 then ⟨#[43]⟩ ++ ⟨(Lib.itoa v.2.2).toArray⟩ else ⟨(Lib.itoa v.2.2).toArray⟩)
  else if v.2.2 = 1 then ⟨#[121, 101, 115]⟩ else ⟨#[110, 111]⟩
theorem vE_right (v : VV) (h : vE v = 0) (hk : v.1 = 1) : rightF v.2.1 = true := by
  unfold vE vcF at h; rw [if_pos hk] at h
  split at h
  · omega
  · cases hr : rightF v.2.1 with
    | true => rfl
    | false => rw [hr] at h; simp at h
end Go
namespace Go.Proofs.YtkfgbjjelcigcaaGreatDoor
open Go.RowKit

set_option maxHeartbeats 2000000 in
theorem print_bad (v : VV) (ht : v.2.1.size ≤ maxLen) (hE : vE v ≠ 0) (w : World) :
    Calls Tryz.prog 35 #[vVal v] w fun e w' => e = .returned (.tuple #[.string ⟨#[]⟩, .int .i64 (vE v)]) ∧ Below w.heap.size w w' := by
  obtain ⟨k, t, n⟩ := v; have HCK := Lib.hid (fun W => vchk_any k n t ht W); obtain ⟨E, hE2⟩ : ∃ E, vE (k, t, n) = E := ⟨_, rfl⟩; have hE3 : vcF k t n = E := hE2; rw [hE3] at HCK; rw [hE2] at hE ⊢; have hE' : (E != 0) = true := by simpa using hE
  dsimp only [vVal]; have hb0 := Below.new w (.cells #[.int .i64 k, .string t, .int .i64 n] 44); clear hE2 hE3
  go_enter Tryz.func35, Tryz.ntmps35
  go_wp2_with fail
  refine (HCK.out _).mono ?_; rintro e w1 ⟨rfl, hb1⟩; have hbw := hb0.trans (hb1.mono hb0.size); clear hb0 hb1 HCK; go_wp2; refine bodyPost_ret (v := .tuple #[.string ⟨#[]⟩, .int .i64 E]) (by simp [results, Tryz.results35, go_sem]) rfl ⟨rfl, hbw⟩

set_option maxHeartbeats 4000000 in
theorem print_good (v : VV) (hE : vE v = 0) (w : World) (htab : TabOk w) :
    Calls Tryz.prog 35 #[vVal v] w fun e w' => e = .returned (.tuple #[.string (prnF v), .int .i64 0]) ∧ Below w.heap.size w w' := by
  have hz := vE_zero v hE; have hri := vE_right v hE; obtain ⟨k, t, n⟩ := v; dsimp only at hz hri; have hts : t.size ≤ 64 := by
    rcases hz with h | h | h | h
    · exact h.2.2
    · rw [h.2.1]; simp [ByteArray.size]
    · rw [h.2.1]; simp [ByteArray.size]
    · rw [h.2.1]; simp [ByteArray.size]
  have HCK := Lib.hid (fun W => vchk_any k n t (by unfold maxLen; omega) W); have hE3 : vcF k t n = 0 := hE; rw [hE3] at HCK; dsimp only [vVal]; have hb0 := Below.new w (.cells #[.int .i64 k, .string t, .int .i64 n] 44); have k0 := Blk.lit w w.heap.size [.int .i64 k, .string t, .int .i64 n] 44 rfl; have HT := Lib.hid (fun W (h : Below w.heap.size w W) => (Joins.tab_stays (B := w.heap.size) (by kernel_rfl : Tryz.prog.globalNamed "internal/strconv.uint64pow10" = some 0) htab h (Nat.le_refl _) : TabOk W))
  clear hE hE3 htab; have HQ := Lib.hid (fun W => quote_any t (by omega) W); have HP := Lib.hid (prnF.eq_1 (k, t, n)); dsimp only at HP; generalize prnF (k, t, n) = PV at *
  go_enter Tryz.func35, Tryz.ntmps35
  go_wp2_with fail
  refine (HCK.out _).mono ?_; rintro e w1 ⟨rfl, hb1⟩; have k1 := k0.keep hb1; have hbw := hb0.trans (hb1.mono hb0.size); have x0 := k1.cell 0 rfl; have x1 := k1.cell 1 rfl; have x2 := k1.cell 2 rfl; have hs1 := hbw.size; clear k0 hb1 hb0 HCK
  rcases hz with ⟨rfl, rfl, h3⟩ | ⟨rfl, rfl, h3, h4⟩ | ⟨rfl, rfl, h3, h4⟩ | ⟨rfl, rfl, h3, h4⟩
  · rw [hri rfl] at HQ; simp only [if_true] at HQ
    go_wp2_with fail
    refine (HQ.out _).mono ?_; rintro e w2 ⟨rfl, hb2⟩; have hbz := hbw.trans (hb2.mono hs1); go_wp2; refine bodyPost_ret (v := .tuple #[.string ⟨(quoteF t).toArray⟩, .int .i64 0]) (by simp [results, Tryz.results35, go_sem]) rfl ⟨by rw [HP.out]; simp, hbz⟩
  · go_wp2_with fail
    refine (digits_any n (by omega) (by omega) _ (HT.out _ hbw)).mono ?_; rintro e w2 ⟨rfl, hb2⟩; have hlen : ¬ 9223372036854775807 < 1 + (Lib.itoa n).length := by have := Lib.itoa_length_le n (by omega) (by omega); omega
    have hbz := hbw.trans (hb2.mono hs1); go_wp2; refine bodyPost_ret (v := .tuple #[.string (⟨#[117]⟩ ++ ⟨(Lib.itoa n).toArray⟩), .int .i64 0]) (by simp [results, Tryz.results35, go_sem]) rfl ⟨by rw [HP.out]; simp, hbz⟩
  · by_cases hn : 0 ≤ n
    · go_wp2_with fail
      refine (digits_any n (by omega) (by omega) _ (HT.out _ hbw)).mono ?_; rintro e w2 ⟨rfl, hb2⟩; have hlen : ¬ 9223372036854775807 < 1 + (Lib.itoa n).length := by have := Lib.itoa_length_le n (by omega) (by omega); omega
      have hbz := hbw.trans (hb2.mono hs1); go_wp2; refine bodyPost_ret (v := .tuple #[.string (⟨#[43]⟩ ++ ⟨(Lib.itoa n).toArray⟩), .int .i64 0]) (by simp [results, Tryz.results35, go_sem]) rfl ⟨by rw [HP.out]; simp [hn]; try (intro h; exfalso; omega), hbz⟩
    · go_wp2_with fail
      refine (digits_any n (by omega) (by omega) _ (HT.out _ hbw)).mono ?_; rintro e w2 ⟨rfl, hb2⟩; have hlen : ¬ 9223372036854775807 < 1 + (Lib.itoa n).length := by have := Lib.itoa_length_le n (by omega) (by omega); omega
      have hbz := hbw.trans (hb2.mono hs1); go_wp2; refine bodyPost_ret (v := .tuple #[.string ⟨(Lib.itoa n).toArray⟩, .int .i64 0]) (by simp [results, Tryz.results35, go_sem]) rfl ⟨by rw [HP.out]; simp [hn]; try (intro h; exfalso; omega), hbz⟩
  · have kS := Blk.lit w1 w1.heap.size [.string ⟨#[110, 111]⟩, .string ⟨#[121, 101, 115]⟩] 9 rfl; have hbz := hbw.alloc hs1 (.cells #[.string ⟨#[110, 111]⟩, .string ⟨#[121, 101, 115]⟩] 9); have y2 := (k1.alloc (.cells #[.string ⟨#[110, 111]⟩, .string ⟨#[121, 101, 115]⟩] 9)).cell 2 rfl
    rcases (by omega : n = 0 ∨ n = 1) with rfl | rfl
    · have s0 := kS.cell 0 rfl; go_wp2; refine bodyPost_ret (v := .tuple #[.string ⟨#[110, 111]⟩, .int .i64 0]) (by simp [results, Tryz.results35, go_sem]) rfl ⟨by rw [HP.out]; simp, hbz⟩
    · have s1 := kS.cell 1 rfl; go_wp2; refine bodyPost_ret (v := .tuple #[.string ⟨#[121, 101, 115]⟩, .int .i64 0]) (by simp [results, Tryz.results35, go_sem]) rfl ⟨by rw [HP.out]; simp, hbz⟩
end Go.Proofs.YtkfgbjjelcigcaaGreatDoor
/- Plain: the lines of items, their words, where they end. -/
set_option linter.unusedVariables false
set_option linter.unusedSimpArgs false
set_option maxRecDepth 100000
namespace Go
open Go.RowKit
def RT (T : List UInt8) : Prop := ∃ rs : List Nat, T = rs.flatMap encR ∧ ∀ r ∈ rs, vr r ∧ r ≠ 10
theorem RT.nil : RT [] := ⟨[], rfl, by simp⟩
theorem RT.app {A B : List UInt8} (h : RT A) (k : RT B) : RT (A ++ B) := by
  obtain ⟨rs, rfl, hr⟩ := h; obtain ⟨ss, rfl, hs⟩ := k; refine ⟨rs ++ ss, by simp, fun r hx => ?_⟩
  rcases List.mem_append.1 hx with h | h
  · exact hr r h
  · exact hs r h
theorem RT.flat {α : Type} (f : α → List UInt8) : ∀ (l : List α), (∀ x ∈ l, RT (f x)) → RT (l.flatMap f)
  | [], _ => RT.nil
  | x :: l, h => by
    rw [List.flatMap_cons]; exact (h x (by simp)).app (RT.flat f l (fun y hy => h y (by simp [hy])))
theorem RT.ascii : ∀ (T : List UInt8), (∀ c ∈ T, c.toNat < 128 ∧ c.toNat ≠ 10) → RT T
  | [], _ => RT.nil
  | c :: T, h => by
    obtain ⟨h1, h2⟩ := h c (by simp); have h3 : RT [c] := ⟨[c.toNat], by simp [enc_one h1], fun r hr => by
      simp at hr; subst hr; exact ⟨.inl (by omega), h2⟩⟩
    exact h3.app (RT.ascii T (fun y hy => h y (by simp [hy])))
theorem RT.right {T : List UInt8} (h : RT T) : rightF ⟨T.toArray⟩ = true := by
  obtain ⟨rs, rfl, hr⟩ := h; exact (join_right rs (fun r h => (hr r h).1)).1
theorem hexD_asc (k : Nat) (h : k < 16) : (hexD k).toNat < 128 ∧ (hexD k).toNat ≠ 10 := by
  have : k = 0 ∨ k = 1 ∨ k = 2 ∨ k = 3 ∨ k = 4 ∨ k = 5 ∨ k = 6 ∨ k = 7 ∨ k = 8 ∨ k = 9 ∨ k = 10 ∨ k = 11 ∨ k = 12 ∨ k = 13 ∨ k = 14 ∨ k = 15 := by omega
  rcases this with rfl | rfl | rfl | rfl | rfl | rfl | rfl | rfl | rfl | rfl | rfl | rfl | rfl | rfl | rfl | rfl <;> decide
theorem RT.form {r : Nat} (h : vr r) : RT (formF r) := by
  unfold formF
  split
  · rename_i h1; refine ⟨[r], by simp [encR], fun x hx => ?_⟩; simp at hx; subst hx; refine ⟨h, ?_⟩; rintro rfl
    revert h1; decide
  · refine RT.ascii _ ?_
    rcases form_cases r with h1 | ⟨rfl, h1⟩ | ⟨rfl, h1⟩ | ⟨rfl, h1⟩ | ⟨rfl, h1⟩ | ⟨h2, _, _, h1⟩
    · intro c hc; rw [h1] at hc; simp at hc
    · rw [h1]; decide
    · rw [h1]; decide
    · rw [h1]; decide
    · rw [h1]; decide
    · rw [h1]; have a := hexD_asc (r / 16) (by omega); have b := hexD_asc (r % 16) (by omega); intro c hc; simp at hc
      rcases hc with rfl | rfl | rfl | rfl
      · decide
      · decide
      · exact a
      · exact b
theorem RT.quote {t : ByteArray} (h : rightF t = true) : RT (quoteF t) := by
  rw [quote_runes]; have h1 : RT [34] := RT.ascii _ (by decide); exact (h1.app (RT.flat formF _ (fun r hr => RT.form ((right_split t h).2 r hr)))).app h1
theorem name_runes {s : ByteArray} (h : nameF s = true) : RT s.data.toList ∧ (∀ c ∈ s.data.toList, c.toNat ≠ 32 ∧ c.toNat ≠ 34) ∧ s.data.toList ≠ [] ∧ rightF s = true := by
  unfold nameF at h; simp only [Bool.and_eq_true, decide_eq_true_eq] at h; obtain ⟨⟨h1, h2⟩, h3⟩ := h; obtain ⟨e, hv⟩ := right_split s h1; have hn : ∀ r ∈ (runesF s).map (·.1), r ≠ 10 ∧ r ≠ 32 ∧ r ≠ 34 := by
    intro r hr; obtain ⟨x, hx, rfl⟩ := List.mem_map.1 hr; have := List.all_eq_true.1 h3 x hx; unfold nameAt letterF otherF at this; simp at this; omega
  refine ⟨⟨_, e, fun r hr => ⟨hv r hr, (hn r hr).1⟩⟩, ?_, ?_, h1⟩
  · intro c hc; rw [e] at hc; obtain ⟨r, hr, hc⟩ := List.mem_flatMap.1 hc
    by_cases hlt : r < 128
    · rw [enc_one hlt] at hc; simp at hc; subst hc; obtain ⟨_, h5, h6⟩ := hn r hr; rw [u8n r (by omega)]; exact ⟨h5, h6⟩
    · have := enc_high r (by omega) c hc; omega
  · intro h0; have : s.size = 0 := by
      have := congrArg List.length h0; rw [Array.length_toList] at this; exact this
    have : runesF s = [] := by unfold runesF; rw [this]; rfl
    rw [this] at h2; simp at h2
def WordOk (x : List UInt8 × (List UInt8 × Bool)) : Prop := 0 < x.1.length ∧ ∀ rest, (rest = [] ∨ ∃ r, rest = 32 :: r) → wordF ⟨(x.1 ++ rest).toArray⟩ = (x.2.1, x.2.2, x.1.length, 0)
theorem wordOk_quote {t : ByteArray} (h : rightF t = true) : WordOk (quoteF t, (t.data.toList, true)) := by
  have hq := quote_runes t; have hq0 : 0 < (quoteF t).length := by rw [hq]; simp
  refine ⟨hq0, fun rest hrest => ?_⟩; dsimp only; have hu := unquote_quote t h rest; generalize hT : (⟨(quoteF t ++ rest).toArray⟩ : ByteArray) = T at *; have hsz : T.size = (quoteF t).length + rest.length := by rw [← hT, lsize, List.length_append]
  have h0 : byt T 0 = 34 := by rw [← hT, lbyt, hq]; simp
  unfold wordF; rw [if_pos ⟨by omega, h0⟩, hu, if_neg (by simp)]; dsimp only; rw [if_neg]; rintro ⟨h1, h2⟩
  rcases hrest with rfl | ⟨r, rfl⟩
  · simp at hsz; omega
  · refine h2 ?_; rw [← hT, lbyt, List.getD_eq_getElem?_getD, List.getElem?_append_right (Nat.le_refl _)]; simp
theorem wordOk_plain {T : List UInt8} (h0 : T ≠ []) (h1 : ∀ c ∈ T, c.toNat ≠ 32 ∧ c.toNat ≠ 34) (h2 : rightF ⟨T.toArray⟩ = true) : WordOk (T, (T, false)) := by
  have hl : 0 < T.length := List.length_pos_iff.2 h0; refine ⟨hl, fun rest hrest => ?_⟩; dsimp only; have hb : ∀ k, k < T.length → byt ⟨(T ++ rest).toArray⟩ k ≠ 32 ∧ byt ⟨(T ++ rest).toArray⟩ k ≠ 34 := by
    intro k hk; rw [lbyt, List.getD_eq_getElem?_getD, List.getElem?_append_left hk, List.getElem?_eq_getElem hk]; exact h1 _ (List.getElem_mem hk)
  have he : T.length = endF ⟨(T ++ rest).toArray⟩ := by
    refine endF_unique _ _ (by rw [lsize]; simp) (fun k hk => (hb k hk).1) (fun h => ?_); rw [lsize] at h
    rcases hrest with rfl | ⟨r, rfl⟩
    · simp at h
    · rw [lbyt, List.getD_eq_getElem?_getD, List.getElem?_append_right (Nat.le_refl _)]; simp
  have hx : (⟨(T ++ rest).toArray⟩ : ByteArray).extract 0 T.length = ⟨T.toArray⟩ := by
    apply ByteArray.ext; apply Array.ext'; simp
  unfold wordF; rw [if_neg (by rintro ⟨_, h⟩; exact (hb 0 hl).2 h), ← he, if_neg, hx, if_neg (by rw [h2]; simp)]; rintro (h | h)
  · omega
  · unfold has34 at h; simp only [decide_eq_true_eq] at h; obtain ⟨k, hk, hk2⟩ := h; exact (hb k hk).2 hk2
def tl (l : List (List UInt8 × (List UInt8 × Bool))) : List UInt8 := l.flatMap (fun y => 32 :: y.1)
theorem wordsF_told (S : ByteArray) : ∀ (xs : List (List UInt8 × (List UInt8 × Bool))) (x : List UInt8 × (List UInt8 × Bool)) (f p : Nat) (out : List (List UInt8 × Bool)), WordOk x → (∀ y ∈ xs, WordOk y) → S.size < p + f → S.data.toList.drop p = x.1 ++ tl xs →
    wordsF S f p out = (out ++ (x :: xs).map (·.2), 0, 0) := by
  intro xs
  induction xs with
  | nil =>
    intro x f p out hx _ hf h; have hl := congrArg List.length h; rw [List.length_drop, Array.length_toList, List.length_append] at hl; have hss : S.data.size = S.size := rfl; obtain ⟨hq0, hw⟩ := hx; obtain ⟨f, rfl⟩ : ∃ g, f = g + 1 := ⟨f - 1, by omega⟩; have hw := hw [] (.inl rfl); have he : (⟨(x.1 ++ []).toArray⟩ : ByteArray) = S.extract p S.size := by
      apply ByteArray.ext; apply Array.ext'; rw [ext_drop, h]; simp [tl]
    rw [he] at hw; unfold wordsF; rw [hw]; dsimp only; rw [if_neg (by simp), if_neg (by simp [tl] at hl; omega)]
    rfl
  | cons y ys ih =>
    intro x f p out hx hys hf h; have hl := congrArg List.length h; rw [List.length_drop, Array.length_toList, List.length_append] at hl; have hss : S.data.size = S.size := rfl; obtain ⟨hq0, hw⟩ := hx; obtain ⟨f, rfl⟩ : ∃ g, f = g + 1 := ⟨f - 1, by omega⟩; have hw := hw (tl (y :: ys)) (.inr ⟨y.1 ++ tl ys, by simp [tl]⟩); have he : (⟨(x.1 ++ tl (y :: ys)).toArray⟩ : ByteArray) = S.extract p S.size := by
      apply ByteArray.ext; apply Array.ext'; rw [ext_drop, h]
    rw [he] at hw; have hlt : p + x.1.length < S.size := by simp [tl] at hl; omega
    unfold wordsF; rw [hw]; dsimp only; rw [if_neg (by simp), if_pos hlt]; have hd : S.data.toList.drop (p + x.1.length + 1) = y.1 ++ tl ys := by
      rw [Nat.add_assoc, ← List.drop_drop, h, ← List.drop_drop, List.drop_left]; simp [tl]
    rw [ih y f _ _ (hys y (by simp)) (fun z hz => hys z (by simp [hz])) (by omega) hd]; simp
theorem wordsT_told (x : List UInt8 × (List UInt8 × Bool)) (xs : List (List UInt8 × (List UInt8 × Bool))) (hx : WordOk x) (h : ∀ y ∈ xs, WordOk y) : wordsT ⟨(x.1 ++ tl xs).toArray⟩ = ((x :: xs).map (·.2), 0, 0) := by
  unfold wordsT; have h0 := hx.1; rw [if_neg (by rw [lsize, List.length_append]; omega)]; have := wordsF_told ⟨(x.1 ++ tl xs).toArray⟩ xs x ((⟨(x.1 ++ tl xs).toArray⟩ : ByteArray).size + 1) 0 [] hx h (by omega) (by rw [List.drop_zero]); rw [this, List.nil_append]
def pw (T : List UInt8) : List UInt8 × (List UInt8 × Bool) := (T, (T, false))
def vw (v : VV) : List UInt8 × (List UInt8 × Bool) := if v.1 = 1 then (quoteF v.2.1, (v.2.1.data.toList, true)) else pw (prnF v).data.toList
theorem vw_prn (v : VV) : (vw v).1 = (prnF v).data.toList := by
  unfold vw prnF
  split
  · simp
  · rfl
def rest6 (x : It) : List (List UInt8 × (List UInt8 × Bool)) := if x.kind = 6 then [pw x.key.data.toList, vw x.v] else x.n.map (fun n => pw (Lib.itoa n))
def lineF (x : It) : List UInt8 := (kwS x.kind).data.toList ++ tl (rest6 x)
theorem asc_word (T : List UInt8) (h0 : T ≠ []) (h : ∀ c ∈ T, c.toNat < 128 ∧ c.toNat ≠ 10 ∧ c.toNat ≠ 32 ∧ c.toNat ≠ 34) : WordOk (pw T) ∧ RT T := by
  have h1 := RT.ascii T (fun c hc => ⟨(h c hc).1, (h c hc).2.1⟩); exact ⟨wordOk_plain h0 (fun c hc => (h c hc).2.2) h1.right, h1⟩
theorem itoa_word (n : Int) : WordOk (pw (Lib.itoa n)) ∧ RT (Lib.itoa n) := by
  unfold Lib.itoa
  split
  · refine asc_word _ (by simp) (fun c hc => ?_); simp only [List.mem_cons] at hc
    rcases hc with rfl | hc
    · decide
    · have := Dec.dec_bytes _ c hc; omega
  · refine asc_word _ (Dec.dec_ne _) (fun c hc => ?_); have := Dec.dec_bytes _ c hc; omega
theorem kw_word (k : Int) (h : 1 ≤ k ∧ k ≤ 11) : WordOk (pw (kwS k).data.toList) ∧ RT (kwS k).data.toList := by
  have : k = 1 ∨ k = 2 ∨ k = 3 ∨ k = 4 ∨ k = 5 ∨ k = 6 ∨ k = 7 ∨ k = 8 ∨ k = 9 ∨ k = 10 ∨ k = 11 := by omega
  rcases this with rfl | rfl | rfl | rfl | rfl | rfl | rfl | rfl | rfl | rfl | rfl <;> exact asc_word _ (by decide) (by decide)
theorem vw_word (v : VV) (h : vE v = 0) : WordOk (vw v) ∧ RT (vw v).1 := by
  have hr := vE_right v h; have hz := vE_zero v h; unfold vw
  by_cases h1 : v.1 = 1
  · rw [if_pos h1]; exact ⟨wordOk_quote (hr h1), RT.quote (hr h1)⟩
  · rw [if_neg h1]; unfold prnF; rw [if_neg h1]; have hi := itoa_word v.2.2; have ha : ∀ c ∈ Lib.itoa v.2.2, c.toNat < 128 ∧ c.toNat ≠ 10 ∧ c.toNat ≠ 32 ∧ c.toNat ≠ 34 := by
      intro c hc; unfold Lib.itoa at hc
      split at hc
      · simp only [List.mem_cons] at hc
        rcases hc with rfl | hc
        · decide
        · have := Dec.dec_bytes _ c hc; omega
      · have := Dec.dec_bytes _ c hc; omega
    split
    · refine asc_word _ (by simp) (fun c hc => ?_); simp at hc
      rcases hc with rfl | hc
      · decide
      · exact ha c hc
    · split
      · split
        · refine asc_word _ (by simp) (fun c hc => ?_); simp at hc
          rcases hc with rfl | hc
          · decide
          · exact ha c hc
        · exact hi
      · split
        · exact asc_word _ (by decide) (by decide)
        · exact asc_word _ (by decide) (by decide)
theorem chkI_zero (x : It) (h : chkI x = 0) : (1 ≤ x.kind ∧ x.kind ≤ 11) ∧ fitsF x.kind x.n.length = true ∧ (∀ n ∈ x.n, -1152921504606846976 ≤ n ∧ n ≤ 1152921504606846976) ∧ ((x.kind ≠ 6 ∧ x.key = ⟨#[]⟩ ∧ x.v = vZ) ∨ (x.kind = 6 ∧ x.n = [] ∧ nameF x.key = true ∧ vE x.v = 0)) := by
  unfold chkI at h
  rcases kwS_cases x.kind with ⟨h1, -⟩ | ⟨h1, h2⟩
  · rw [if_pos h1] at h; cases h
  rw [if_neg h1] at h
  split at h
  · cases h
  rename_i h3
  split at h
  · cases h
  rename_i h4; have hf : fitsF x.kind x.n.length = true := by simpa using h3
  refine ⟨h2, hf, fun n hn => ?_, ?_⟩
  · have h5 : x.n.any farN = false := by simpa using h4
    have h6 := List.any_eq_false.1 h5 n hn; unfold farN at h6; simp at h6; omega
  · split at h
    · rename_i h5
      split at h
      · cases h
      · rename_i h6; refine .inl ⟨h5, ?_, ?_⟩
        · apply ByteArray.ext; exact Array.eq_empty_of_size_eq_zero (Classical.byContradiction fun h => h6 (.inl h))
        · exact Classical.byContradiction fun h => h6 (.inr h)
    · rename_i h5; have h5' : x.kind = 6 := by omega
      split at h
      · cases h
      · rename_i h6; refine .inr ⟨h5', ?_, by simpa using h6, h⟩; rw [h5'] at hf; unfold fitsF at hf; simp at hf; exact hf
theorem rest6_ok (x : It) (h : chkI x = 0) : (∀ y ∈ rest6 x, WordOk y) ∧ RT (tl (rest6 x)) := by
  obtain ⟨h1, h2, h3, h4⟩ := chkI_zero x h; have hc : ∀ T, RT T → RT (32 :: T) := fun T hT => (RT.ascii [32] (by decide)).app hT; unfold rest6
  rcases h4 with ⟨h5, h6, h7⟩ | ⟨h5, h6, h7, h8⟩
  · rw [if_neg h5]; refine ⟨fun y hy => ?_, RT.flat _ _ (fun y hy => ?_)⟩
    · obtain ⟨n, hn, rfl⟩ := List.mem_map.1 hy; exact (itoa_word n).1
    · obtain ⟨n, hn, rfl⟩ := List.mem_map.1 hy; exact hc _ (itoa_word n).2
  · rw [if_pos h5]; obtain ⟨k1, k2, k3, k4⟩ := name_runes h7; obtain ⟨v1, v2⟩ := vw_word x.v h8; refine ⟨fun y hy => ?_, RT.flat _ _ (fun y hy => ?_)⟩
    · simp at hy
      rcases hy with rfl | rfl
      · exact wordOk_plain k3 k2 (by show rightF ⟨x.key.data.toList.toArray⟩ = true; rw [Array.toArray_toList]; exact k4)
      · exact v1
    · simp at hy
      rcases hy with rfl | rfl
      · exact hc _ k1
      · exact hc _ v2
theorem line_words (x : It) (h : chkI x = 0) : wordsT ⟨(lineF x).toArray⟩ = (((kwS x.kind).data.toList, false) :: (rest6 x).map (·.2), 0, 0) := by
  have hk := kw_word x.kind (chkI_zero x h).1; exact wordsT_told (pw (kwS x.kind).data.toList) (rest6 x) hk.1 (rest6_ok x h).1
theorem line_runes (x : It) (h : chkI x = 0) : RT (lineF x) ∧ 0 < (lineF x).length := by
  have hk := kw_word x.kind (chkI_zero x h).1; refine ⟨hk.2.app (rest6_ok x h).2, ?_⟩; have := hk.1.1; unfold lineF; rw [List.length_append]; exact Nat.lt_of_lt_of_le this (Nat.le_add_right _ _)
end Go

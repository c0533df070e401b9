/-
  Plain: which form a text goes on with; the document's search of all forms, and the program's. Plain: right texts are runes one behind the other; what is quoted is unquoted as it was.
-/
import Derived.Test.YtkfgbjjelcigcaaGreatDoorPk4
import Derived.Test.YtkfgbjjelcigcaaGreatDoorPk3
import Derived.Lib.TrimUEq
/- Plain: which form a text goes on with; the document's search of all forms, and the program's. -/
set_option linter.unusedVariables false
set_option linter.unusedSimpArgs false
set_option maxRecDepth 100000
namespace Go
open Go.RowKit
def escL : List UInt8 → Nat × Nat × Nat
  | [] => (0, 0, 4)
  | a :: l =>
    if a = 92 ∨ a = 34 then (a.toNat, 1, 0) else if a = 110 then (10, 1, 0) else if a = 116 then (9, 1, 0) else if a ≠ 120 then (0, 0, 3)
    else match l with
      | [] => (0, 0, 4)
      | b :: l => if hexP b.toNat < 0 then (0, 0, 3) else match l with
        | [] => (0, 0, 4)
        | c :: _ => if hexP c.toNat < 0 then (0, 0, 3)
          else if ((hexP b.toNat * 16 + hexP c.toNat).toNat < 32 ∨ (hexP b.toNat * 16 + hexP c.toNat).toNat = 127) ∧ (hexP b.toNat * 16 + hexP c.toNat).toNat ≠ 9 ∧ (hexP b.toNat * 16 + hexP c.toNat).toNat ≠ 10 then ((hexP b.toNat * 16 + hexP c.toNat).toNat, 3, 0) else (0, 0, 3)
theorem form_hex (b c : UInt8) (hb : 0 ≤ hexP b.toNat) (hc : 0 ≤ hexP c.toNat) : formF (hexP b.toNat * 16 + hexP c.toNat).toNat = [92, 120, b, c] ↔ (((hexP b.toNat * 16 + hexP c.toNat).toNat < 32 ∨ (hexP b.toNat * 16 + hexP c.toNat).toNat = 127) ∧ (hexP b.toNat * 16 + hexP c.toNat).toNat ≠ 9 ∧ (hexP b.toNat * 16 + hexP c.toNat).toNat ≠ 10) := by
  have hd : ∀ b : Fin 256, 0 ≤ hexP b.val → b.val.toUInt8 = hexD (hexP b.val).toNat := by decide +kernel
  have h2 : ∀ x y : Fin 16, formF (16 * x.val + y.val) = [92, 120, hexD x.val, hexD y.val] ↔ ((16 * x.val + y.val < 32 ∨ 16 * x.val + y.val = 127) ∧ 16 * x.val + y.val ≠ 9 ∧ 16 * x.val + y.val ≠ 10) := by decide +kernel
  have e1 := hd ⟨b.toNat, b.toNat_lt⟩ hb; have e2 := hd ⟨c.toNat, c.toNat_lt⟩ hc; have b1 := hexP_bd b.toNat; have b2 := hexP_bd c.toNat; have f1 : b.toNat.toUInt8 = b := by simp
  have f2 : c.toNat.toUInt8 = c := by simp
  dsimp only at e1 e2; rw [f1] at e1; rw [f2] at e2; have h3 := h2 ⟨(hexP b.toNat).toNat, by omega⟩ ⟨(hexP c.toNat).toNat, by omega⟩; dsimp only at h3; rw [← e1, ← e2] at h3; have e3 : (hexP b.toNat * 16 + hexP c.toNat).toNat = 16 * (hexP b.toNat).toNat + (hexP c.toNat).toNat := by omega
  rw [e3]; exact h3
theorem u8_iff (a : UInt8) (n : Nat) (hn : n < 256) : a.toNat = n ↔ a = n.toUInt8 := by
  constructor
  · intro h; rw [← h]; simp
  · intro h; rw [h]; simp; omega
theorem escF_eq (t : ByteArray) : escF t = escL t.data.toList := by
  obtain ⟨⟨L⟩⟩ := t; have hsz : ∀ L : List UInt8, (⟨⟨L⟩⟩ : ByteArray).size = L.length := fun _ => rfl; unfold escF; rw [hsz]
  cases L with
  | nil => rfl
  | cons a l =>
    have h0 : byt ⟨⟨a :: l⟩⟩ 0 = a.toNat := rfl; rw [h0, if_neg (by simp)]; simp only [escL]; have u1 : a.toNat = 92 ↔ a = 92 := u8_iff a 92 (by decide); have u2 : a.toNat = 34 ↔ a = 34 := u8_iff a 34 (by decide); have u3 : a.toNat = 110 ↔ a = 110 := u8_iff a 110 (by decide); have u4 : a.toNat = 116 ↔ a = 116 := u8_iff a 116 (by decide); have u5 : a.toNat = 120 ↔ a = 120 := u8_iff a 120 (by decide); simp only [ne_eq, u1, u2, u3, u4, u5]
    by_cases h1 : a = 92 ∨ a = 34
    · simp only [if_pos h1]
    simp only [if_neg h1]
    by_cases h2 : a = 110
    · simp only [if_pos h2]
    simp only [if_neg h2]
    by_cases h3 : a = 116
    · simp only [if_pos h3]
    simp only [if_neg h3]
    by_cases h4 : ¬ a = 120
    · simp only [if_pos h4]
    simp only [if_neg h4]; have ha : a = 120 := by simpa using h4
    subst ha
    cases l with
    | nil => rfl
    | cons b l =>
      have h5 : byt ⟨⟨120 :: b :: l⟩⟩ 1 = b.toNat := rfl; rw [h5, if_neg (by simp)]; simp only
      by_cases h6 : hexP b.toNat < 0
      · simp only [if_pos h6]
      simp only [if_neg h6]
      cases l with
      | nil => rfl
      | cons c l =>
        have h7 : byt ⟨⟨120 :: b :: c :: l⟩⟩ 2 = c.toNat := rfl; rw [h7, if_neg (by simp)]; simp only
        by_cases h8 : hexP c.toNat < 0
        · simp only [if_pos h8]
        simp only [if_neg h8]; have h9 : ((⟨⟨120 :: b :: c :: l⟩⟩ : ByteArray).extract 0 3).data.toList = [120, b, c] := by
          have := bts_eq ⟨⟨120 :: b :: c :: l⟩⟩ 0 3 (by rw [hsz]; simp); unfold bts at this; rw [this]
          rfl
        rw [h9]; have h10 := form_hex b c (by omega) (by omega)
        by_cases h : formF (hexP b.toNat * 16 + hexP c.toNat).toNat = [92, 120, b, c]
        · rw [if_pos h, if_pos (h10.1 h)]
        · rw [if_neg h, if_neg (fun g => h (h10.2 g))]
def fm (T : List UInt8) (c : Nat) : Bool := decide (formR c ≠ []) && (formR c).isPrefixOf T
def fp (T : List UInt8) (c : Nat) : Bool := decide (formR c ≠ []) && (decide (T.length < (formR c).length) && T.isPrefixOf (formR c))
def outL (T acc : List UInt8) (k : Nat) : List UInt8 := acc ++ ((List.range k).filter (fm T)).map (fun c => c.toUInt8)
def sizeL (T : List UInt8) (k : Nat) : Nat := ((List.range k).filter (fm T)).foldl (fun _ c => (formR c).length) 0
def partL (T : List UInt8) (k : Nat) : Bool := (List.range k).any (fp T)
theorem outL_step (T acc : List UInt8) (k : Nat) : outL T acc (k + 1) = outL T acc k ++ (if fm T k then [k.toUInt8] else []) := by
  unfold outL; rw [List.range_succ, List.filter_append, List.map_append, List.append_assoc]
  congr 2
  cases h : fm T k <;> simp [h]
theorem sizeL_step (T : List UInt8) (k : Nat) : sizeL T (k + 1) = if fm T k then (formR k).length else sizeL T k := by
  unfold sizeL; rw [List.range_succ, List.filter_append, List.foldl_append]
  cases h : fm T k <;> simp [h]
theorem partL_step (T : List UInt8) (k : Nat) : partL T (k + 1) = (partL T k || fp T k) := by
  unfold partL; rw [List.range_succ, List.any_append]; simp
def extL : List UInt8 → Bool
  | [_, x] => x == 120
  | [_, x, b] => x == 120 && decide (0 ≤ hexP b.toNat)
  | _ => false
theorem form_cases (c : Nat) : formR c = [] ∨ (c = 92 ∧ formR c = [92, 92]) ∨ (c = 34 ∧ formR c = [92, 34]) ∨ (c = 10 ∧ formR c = [92, 110]) ∨ (c = 9 ∧ formR c = [92, 116]) ∨ ((c < 32 ∨ c = 127) ∧ c ≠ 9 ∧ c ≠ 10 ∧ formR c = [92, 120, hexD (c / 16), hexD (c % 16)]) := by
  unfold formR
  by_cases h1 : c = 92
  · simp [h1]
  by_cases h2 : c = 34
  · simp [h2]
  by_cases h3 : c = 10
  · simp [h3]
  by_cases h4 : c = 9
  · simp [h4]
  by_cases h5 : c < 32 ∨ c = 127
  · simp [h1, h2, h3, h4, h5]
  · simp [h1, h2, h3, h4, h5]
theorem range_filter_one (p : Nat → Bool) (n c : Nat) (hc : c < n) (h1 : p c = true) (h2 : ∀ d, d < n → p d = true → d = c) : (List.range n).filter p = [c] := by
  induction n with
  | zero => omega
  | succ n ih =>
    rw [List.range_succ, List.filter_append]
    by_cases h : c = n
    · subst h; have : (List.range c).filter p = [] := by
        rw [List.filter_eq_nil_iff]; intro d hd; rw [List.mem_range] at hd; intro hp; have := h2 d (by omega) hp; omega
      rw [this]; simp [h1]
    · have hn : p n = false := by
        cases hp : p n with
        | false => rfl
        | true => exact absurd (h2 n (by omega) hp).symm h
      rw [ih (by omega) (fun d hd hp => h2 d (by omega) hp)]; simp [hn]
theorem range_filter_none (p : Nat → Bool) (n : Nat) (h : ∀ d, d < n → p d = false) : (List.range n).filter p = [] := by
  rw [List.filter_eq_nil_iff]; intro d hd; rw [List.mem_range] at hd; simp [h d hd]
theorem fm_iff (L : List UInt8) (c : Nat) : fm (92 :: L) c = true ↔ (c = 92 ∧ [92] <+: L) ∨ (c = 34 ∧ [34] <+: L) ∨ (c = 10 ∧ [110] <+: L) ∨ (c = 9 ∧ [116] <+: L) ∨ ((c < 32 ∨ c = 127) ∧ c ≠ 9 ∧ c ≠ 10 ∧ [120, hexD (c / 16), hexD (c % 16)] <+: L) := by
  unfold fm; rw [Bool.and_eq_true, decide_eq_true_eq, List.isPrefixOf_iff_prefix]
  rcases form_cases c with h | ⟨rfl, h⟩ | ⟨rfl, h⟩ | ⟨rfl, h⟩ | ⟨rfl, h⟩ | ⟨h1, h2, h3, h⟩
  · have : ¬ (c = 92) ∧ ¬ (c = 34) ∧ ¬ (c = 10) ∧ ¬ (c = 9) ∧ ¬ (c < 32 ∨ c = 127) := by
      refine ⟨?_, ?_, ?_, ?_, ?_⟩ <;> intro hc
      · subst hc; exact absurd h (by decide)
      · subst hc; exact absurd h (by decide)
      · subst hc; exact absurd h (by decide)
      · subst hc; exact absurd h (by decide)
      · unfold formR at h
        repeat' split at h
        all_goals first | (cases h; done) | exact absurd hc (by assumption)
    simp [h, this]
  · rw [h]; simp [List.cons_prefix_cons]
  · rw [h]; simp [List.cons_prefix_cons]
  · rw [h]; simp [List.cons_prefix_cons]
  · rw [h]; simp [List.cons_prefix_cons]
  · rw [h, List.cons_prefix_cons]; have a1 : ¬ c = 92 := by omega
    have a2 : ¬ c = 34 := by omega
    simp [a1, a2, h1, h2, h3]
theorem fp_iff (L : List UInt8) (c : Nat) : fp (92 :: L) c = true ↔ (L = [] ∧ formR c ≠ []) ∨ ((c < 32 ∨ c = 127) ∧ c ≠ 9 ∧ c ≠ 10 ∧ (L = [120] ∨ L = [120, hexD (c / 16)])) := by
  unfold fp; rw [Bool.and_eq_true, Bool.and_eq_true, decide_eq_true_eq, decide_eq_true_eq, List.isPrefixOf_iff_prefix]; have hno : ∀ c, formR c = [] → ¬ (c < 32 ∨ c = 127) := by
    intro c h hc; unfold formR at h
    repeat' split at h
    all_goals first | (cases h; done) | exact absurd hc (by assumption)
  rcases form_cases c with h | ⟨rfl, h⟩ | ⟨rfl, h⟩ | ⟨rfl, h⟩ | ⟨rfl, h⟩ | ⟨h1, h2, h3, h⟩
  · have := hno c h; simp [h, this]
  all_goals rw [h]
  · match L with
    | [] => simp
    | x :: l => simp; intro h; omega
  · match L with
    | [] => simp
    | x :: l => simp; intro h; omega
  · match L with
    | [] => simp
    | x :: l => simp; intro h; omega
  · match L with
    | [] => simp
    | x :: l => simp; intro h; omega
  · simp only [h1, h2, h3, List.cons_prefix_cons, true_and, List.length_cons, List.length_nil, ne_eq, not_false_eq_true, reduceCtorEq, and_true, Nat.add_lt_add_iff_right]
    match L with
    | [] => simp
    | [x] => simp [List.cons_prefix_cons]
    | [x, y] => simp [List.cons_prefix_cons]
    | x :: y :: z :: l => simp; intro h; omega
theorem hexP_hexD (k : Nat) (h : k < 16) : hexP (hexD k).toNat = (k : Int) := by
  have : ∀ k : Fin 16, hexP (hexD k.val).toNat = (k.val : Int) := by decide +kernel
  exact this ⟨k, h⟩
theorem hexD_hexP (b : UInt8) (h : 0 ≤ hexP b.toNat) : hexD (hexP b.toNat).toNat = b := by
  have : ∀ b : Fin 256, 0 ≤ hexP b.val → b.val.toUInt8 = hexD (hexP b.val).toNat := by decide +kernel
  have h2 := this ⟨b.toNat, b.toNat_lt⟩ h; dsimp only at h2; rw [← h2]; simp
theorem part_false (L : List UInt8) (h : ∀ c, ¬ ((L = [] ∧ formR c ≠ []) ∨ ((c < 32 ∨ c = 127) ∧ c ≠ 9 ∧ c ≠ 10 ∧ (L = [120] ∨ L = [120, hexD (c / 16)])))) : partL (92 :: L) 128 = false := by
  unfold partL; rw [List.any_eq_false]; intro c _ hf; exact h c ((fp_iff L c).1 hf)
theorem part_true (L : List UInt8) (c : Nat) (hc : c < 128) (h : (L = [] ∧ formR c ≠ []) ∨ ((c < 32 ∨ c = 127) ∧ c ≠ 9 ∧ c ≠ 10 ∧ (L = [120] ∨ L = [120, hexD (c / 16)]))) : partL (92 :: L) 128 = true := by
  unfold partL; rw [List.any_eq_true]; exact ⟨c, List.mem_range.2 hc, (fp_iff L c).2 h⟩
theorem fm_one (L : List UInt8) (c : Nat) (hc : c < 128) (h1 : fm (92 :: L) c = true) (h2 : ∀ d, d < 128 → fm (92 :: L) d = true → d = c) (acc : List UInt8) : outL (92 :: L) acc 128 = acc ++ [c.toUInt8] ∧ sizeL (92 :: L) 128 = (formR c).length := by
  unfold outL sizeL; rw [range_filter_one _ _ _ hc h1 h2]; exact ⟨rfl, rfl⟩
theorem fm_none (L : List UInt8) (h : ∀ d, d < 128 → fm (92 :: L) d = false) : sizeL (92 :: L) 128 = 0 := by
  unfold sizeL; rw [range_filter_none _ _ h]
  rfl
theorem search_esc (L acc : List UInt8) :
    ((escL L).2.2 = 0 → outL (92 :: L) acc 128 = acc ++ [(escL L).1.toUInt8] ∧ sizeL (92 :: L) 128 = (escL L).2.1 + 1 ∧ partL (92 :: L) 128 = false ∧ extL (92 :: L) = false) ∧
    ((escL L).2.2 = 4 → (partL (92 :: L) 128 || extL (92 :: L)) = true) ∧
    ((escL L).2.2 = 3 → sizeL (92 :: L) 128 = 0 ∧ partL (92 :: L) 128 = false ∧ extL (92 :: L) = false) := by
  cases L with
  | nil =>
    have h := part_true [] 92 (by decide) (.inl ⟨rfl, by decide⟩); simp [escL, h]
  | cons a l =>
    simp only [escL]
    by_cases h1 : a = 92 ∨ a = 34
    · rw [if_pos h1]; have hp : partL (92 :: a :: l) 128 = false := part_false _ (by
        rintro c (⟨h, _⟩ | ⟨_, _, _, h | h⟩)
        · cases h
        · simp only [List.cons.injEq] at h; rcases h1 with g | g <;> rw [g] at h <;> exact absurd h.1 (by decide)
        · simp only [List.cons.injEq] at h; rcases h1 with g | g <;> rw [g] at h <;> exact absurd h.1 (by decide))
      have he : extL (92 :: a :: l) = false := by
        rcases h1 with rfl | rfl
        · match l with
          | [] => rfl
          | [b] => rfl
          | _ :: _ :: _ => rfl
        · match l with
          | [] => rfl
          | [b] => rfl
          | _ :: _ :: _ => rfl
      refine ⟨fun _ => ?_, fun h => (by cases h), fun h => (by cases h)⟩
      rcases h1 with rfl | rfl
      · have := fm_one (92 :: l) 92 (by decide) (by rw [fm_iff]; simp) (by intro d _ hd; rw [fm_iff] at hd; simpa [List.cons_prefix_cons] using hd) acc; exact ⟨this.1, this.2, hp, he⟩
      · have := fm_one (34 :: l) 34 (by decide) (by rw [fm_iff]; simp) (by intro d _ hd; rw [fm_iff] at hd; simpa [List.cons_prefix_cons] using hd) acc; exact ⟨this.1, this.2, hp, he⟩
    rw [if_neg h1]
    by_cases h2 : a = 110
    · rw [if_pos h2]; subst h2; have hp : partL (92 :: 110 :: l) 128 = false := part_false _ (by
        rintro c (⟨h, _⟩ | ⟨_, _, _, h | h⟩)
        · cases h
        · simp only [List.cons.injEq] at h; exact absurd h.1 (by decide)
        · simp only [List.cons.injEq] at h; exact absurd h.1 (by decide))
      have he : extL (92 :: 110 :: l) = false := by
        match l with
        | [] => rfl
        | [b] => rfl
        | _ :: _ :: _ => rfl
      refine ⟨fun _ => ?_, fun h => (by cases h), fun h => (by cases h)⟩; have := fm_one (110 :: l) 10 (by decide) (by rw [fm_iff]; simp) (by intro d _ hd; rw [fm_iff] at hd; simpa [List.cons_prefix_cons] using hd) acc; exact ⟨this.1, this.2, hp, he⟩
    rw [if_neg h2]
    by_cases h3 : a = 116
    · rw [if_pos h3]; subst h3; have hp : partL (92 :: 116 :: l) 128 = false := part_false _ (by
        rintro c (⟨h, _⟩ | ⟨_, _, _, h | h⟩)
        · cases h
        · simp only [List.cons.injEq] at h; exact absurd h.1 (by decide)
        · simp only [List.cons.injEq] at h; exact absurd h.1 (by decide))
      have he : extL (92 :: 116 :: l) = false := by
        match l with
        | [] => rfl
        | [b] => rfl
        | _ :: _ :: _ => rfl
      refine ⟨fun _ => ?_, fun h => (by cases h), fun h => (by cases h)⟩; have := fm_one (116 :: l) 9 (by decide) (by rw [fm_iff]; simp) (by intro d _ hd; rw [fm_iff] at hd; simpa [List.cons_prefix_cons] using hd) acc; exact ⟨this.1, this.2, hp, he⟩
    rw [if_neg h3]
    by_cases h4 : a ≠ 120
    · rw [if_pos h4]; refine ⟨fun h => (by cases h), fun h => (by cases h), fun _ => ⟨?_, ?_, ?_⟩⟩
      · refine fm_none _ ?_; intro d _; rw [Bool.eq_false_iff]; intro hd; rw [fm_iff] at hd; simp only [List.cons_prefix_cons] at hd
        rcases hd with ⟨_, h, _⟩ | ⟨_, h, _⟩ | ⟨_, h, _⟩ | ⟨_, h, _⟩ | ⟨_, _, _, h, _⟩
        · exact h1 (.inl h.symm)
        · exact h1 (.inr h.symm)
        · exact h2 h.symm
        · exact h3 h.symm
        · exact h4 h.symm
      · refine part_false _ ?_; rintro c (⟨h, _⟩ | ⟨_, _, _, h | h⟩)
        · cases h
        · simp only [List.cons.injEq] at h; exact h4 h.1
        · simp only [List.cons.injEq] at h; exact h4 h.1
      · match l with
        | [] => simp [extL, h4]
        | [b] => simp [extL, h4]
        | _ :: _ :: _ => rfl
    rw [if_neg h4]; have ha : a = 120 := by simpa using h4
    subst ha
    cases l with
    | nil =>
      have h := part_true [120] 0 (by decide) (.inr ⟨by decide, by decide, by decide, .inl rfl⟩); simp [h]
    | cons b l =>
      simp only; have nofm : ∀ d, fm (92 :: 120 :: b :: l) d = true → (d < 32 ∨ d = 127) ∧ d ≠ 9 ∧ d ≠ 10 ∧ [hexD (d / 16), hexD (d % 16)] <+: (b :: l) := by
        intro d hd; rw [fm_iff] at hd; simp only [List.cons_prefix_cons] at hd
        rcases hd with ⟨_, h, _⟩ | ⟨_, h, _⟩ | ⟨_, h, _⟩ | ⟨_, h, _⟩ | ⟨g1, g2, g3, _, h⟩
        · exact absurd h (by decide)
        · exact absurd h (by decide)
        · exact absurd h (by decide)
        · exact absurd h (by decide)
        · exact ⟨g1, g2, g3, by rw [List.cons_prefix_cons]; exact h⟩
      by_cases h5 : hexP b.toNat < 0
      · rw [if_pos h5]; have hb : ∀ k, k < 16 → ¬ hexD k = b := by
          intro k hk h; have := hexP_hexD k hk; rw [h] at this; omega
        refine ⟨fun h => (by cases h), fun h => (by cases h), fun _ => ⟨?_, ?_, ?_⟩⟩
        · refine fm_none _ ?_; intro d hd128; rw [Bool.eq_false_iff]; intro hd; obtain ⟨g1, g2, g3, g4⟩ := nofm d hd; rw [List.cons_prefix_cons] at g4; exact hb _ (by omega) g4.1
        · refine part_false _ ?_; rintro c (⟨h, _⟩ | ⟨g1, _, _, h | h⟩)
          · cases h
          · cases h
          · simp only [List.cons.injEq] at h; exact hb (c / 16) (by omega) h.2.1.symm
        · match l with
          | [] => simp [extL]; omega
          | _ :: _ => rfl
      rw [if_neg h5]
      cases l with
      | nil =>
        have h : extL [92, 120, b] = true := by simp [extL]; omega
        simp [h]
      | cons c l =>
        simp only; have hp : partL (92 :: 120 :: b :: c :: l) 128 = false := part_false _ (by
          rintro d (⟨h, _⟩ | ⟨_, _, _, h | h⟩)
          · cases h
          · cases h
          · simp at h)
        have he : extL (92 :: 120 :: b :: c :: l) = false := rfl; have nof2 : ∀ d, d < 128 → fm (92 :: 120 :: b :: c :: l) d = true → ((d < 32 ∨ d = 127) ∧ d ≠ 9 ∧ d ≠ 10) ∧ hexP b.toNat = ((d / 16 : Nat) : Int) ∧ hexP c.toNat = ((d % 16 : Nat) : Int) := by
          intro d hd8 hd; obtain ⟨g1, g2, g3, g4⟩ := nofm d hd; rw [List.cons_prefix_cons, List.cons_prefix_cons] at g4; refine ⟨⟨g1, g2, g3⟩, ?_, ?_⟩
          · rw [← g4.1]; exact hexP_hexD _ (by omega)
          · rw [← g4.2.1]; exact hexP_hexD _ (by omega)
        by_cases h6 : hexP c.toNat < 0
        · rw [if_pos h6]; refine ⟨fun h => (by cases h), fun h => (by cases h), fun _ => ⟨fm_none _ ?_, hp, he⟩⟩; intro d hd8; rw [Bool.eq_false_iff]; intro hd; have := nof2 d hd8 hd; omega
        rw [if_neg h6]; have b1 := hexP_bd b.toNat; have b2 := hexP_bd c.toNat
        by_cases h7 : ((hexP b.toNat * 16 + hexP c.toNat).toNat < 32 ∨ (hexP b.toNat * 16 + hexP c.toNat).toNat = 127) ∧ (hexP b.toNat * 16 + hexP c.toNat).toNat ≠ 9 ∧ (hexP b.toNat * 16 + hexP c.toNat).toNat ≠ 10
        · rw [if_pos h7]; refine ⟨fun _ => ?_, fun h => (by cases h), fun h => (by cases h)⟩; obtain ⟨r, hr⟩ : ∃ r, (hexP b.toNat * 16 + hexP c.toNat).toNat = r := ⟨_, rfl⟩; rw [hr] at h7 ⊢; have e1 : hexD (r / 16) = b := by
            rw [← hexD_hexP b (by omega)]; congr 1; omega
          have e2 : hexD (r % 16) = c := by
            rw [← hexD_hexP c (by omega)]; congr 1; omega
          have hf : formR r = [92, 120, b, c] := by
            rcases form_cases r with h | ⟨h, _⟩ | ⟨h, _⟩ | ⟨h, _⟩ | ⟨h, _⟩ | ⟨_, _, _, h⟩
            · unfold formR at h
              repeat' split at h
              all_goals first | (cases h; done) | exact absurd h7.1 (by assumption)
            · omega
            · omega
            · exact absurd h h7.2.2
            · exact absurd h h7.2.1
            · rw [h, e1, e2]
          have := fm_one (120 :: b :: c :: l) r (by omega) (by rw [fm_iff]; exact .inr (.inr (.inr (.inr ⟨h7.1, h7.2.1, h7.2.2, by rw [e1, e2]; simp [List.cons_prefix_cons]⟩)))) (by intro d hd8 hd; have := nof2 d hd8 hd; omega) acc; refine ⟨this.1, ?_, hp, he⟩; rw [this.2, hf]; rfl
        · rw [if_neg h7]; refine ⟨fun h => (by cases h), fun h => (by cases h), fun _ => ⟨fm_none _ ?_, hp, he⟩⟩; intro d hd8; rw [Bool.eq_false_iff]; intro hd; have := nof2 d hd8 hd; refine h7 ?_; have : (hexP b.toNat * 16 + hexP c.toNat).toNat = d := by omega
          omega
end Go
/- Plain: right texts are runes one behind the other; what is quoted is unquoted as it was. -/
set_option linter.unusedVariables false
set_option linter.unusedSimpArgs false
set_option maxRecDepth 100000
namespace Go
open Go.RowKit
def encR (r : Nat) : List UInt8 := Lib.encodeRune (r : Int)
def vr (r : Nat) : Prop := r < 55296 ∨ (57344 ≤ r ∧ r ≤ 1114111)
theorem lbyt (l : List UInt8) (i : Nat) : byt ⟨l.toArray⟩ i = (l.getD i 0).toNat := by
  have := Lib.getD_get!' ⟨l.toArray⟩ i; unfold byt; rw [← this]
theorem lsize (l : List UInt8) : (⟨l.toArray⟩ : ByteArray).size = l.length := by simp [ByteArray.size]
theorem u8n (n : Nat) (h : n < 256) : (n.toUInt8).toNat = n := by simp; omega
theorem decL_enc (r : Nat) (hr : vr r) (t : List UInt8) : Lib.decodeL (encR r ++ t) = (r, (encR r).length) := by
  unfold Lib.decodeL; rw [decode_eq]; have cc : ∀ i, cont (⟨(encR r ++ t).toArray⟩ : ByteArray) i = (decide (i < (encR r ++ t).length) && decide (128 ≤ ((encR r ++ t).getD i 0).toNat) && decide (((encR r ++ t).getD i 0).toNat < 192)) := by
    intro i; unfold cont; rw [lbyt, lsize]
  simp only [lbyt, cc, Nat.zero_add]; unfold encR Lib.encodeRune vr at *
  by_cases h1 : r ≤ 127
  · rw [Lib.encodeRuneZ_one (by omega) (by omega)]; simp only [List.map_cons, List.map_nil, List.cons_append, List.nil_append, List.getD_cons_zero, Int.toNat_natCast, List.length_cons, List.length_nil]; rw [u8n r (by omega), if_pos (by omega)]
  · by_cases h2 : r ≤ 2047
    · rw [Lib.encodeRuneZ_two (by omega) (by omega)]; have e1 : (192 + (r : Int) / 64).toNat = 192 + r / 64 := by omega
      have e2 : (128 + (r : Int) % 64).toNat = 128 + r % 64 := by omega
      simp only [List.map_cons, List.map_nil, List.cons_append, List.nil_append, List.getD_cons_zero, List.getD_cons_succ, e1, e2, List.length_cons, List.length_nil]; rw [u8n (192 + r / 64) (by omega), u8n (128 + r % 64) (by omega)]; rw [if_neg (by omega), if_pos (by refine ⟨by omega, by omega, ?_⟩; simp only [Bool.and_eq_true, decide_eq_true_eq]; omega), if_pos (by omega)]
      congr 1; omega
    · by_cases h3 : r ≤ 65535
      · rw [Lib.encodeRuneZ_three (by omega)]; have e1 : (224 + (r : Int) / 4096).toNat = 224 + r / 4096 := by omega
        have e2 : (128 + (r : Int) / 64 % 64).toNat = 128 + r / 64 % 64 := by omega
        have e3 : (128 + (r : Int) % 64).toNat = 128 + r % 64 := by omega
        simp only [List.map_cons, List.map_nil, List.cons_append, List.nil_append, List.getD_cons_zero, List.getD_cons_succ, e1, e2, e3, List.length_cons, List.length_nil]; rw [u8n (224 + r / 4096) (by omega), u8n (128 + r / 64 % 64) (by omega), u8n (128 + r % 64) (by omega)]; rw [if_neg (by omega), if_neg (by omega), if_pos (by refine ⟨by omega, by omega, ?_, ?_⟩ <;> (simp only [Bool.and_eq_true, decide_eq_true_eq]; omega)), if_pos (by omega)]
        congr 1; omega
      · rw [Lib.encodeRuneZ_four (by omega) (by omega)]; have e1 : (240 + (r : Int) / 262144).toNat = 240 + r / 262144 := by omega
        have e2 : (128 + (r : Int) / 4096 % 64).toNat = 128 + r / 4096 % 64 := by omega
        have e3 : (128 + (r : Int) / 64 % 64).toNat = 128 + r / 64 % 64 := by omega
        have e4 : (128 + (r : Int) % 64).toNat = 128 + r % 64 := by omega
        simp only [List.map_cons, List.map_nil, List.cons_append, List.nil_append, List.getD_cons_zero, List.getD_cons_succ, e1, e2, e3, e4, List.length_cons, List.length_nil]; rw [u8n (240 + r / 262144) (by omega), u8n (128 + r / 4096 % 64) (by omega), u8n (128 + r / 64 % 64) (by omega), u8n (128 + r % 64) (by omega)]; rw [if_neg (by omega), if_neg (by omega), if_neg (by omega), if_pos (by refine ⟨by omega, by omega, ?_, ?_, ?_⟩ <;> (simp only [Bool.and_eq_true, decide_eq_true_eq]; omega)), if_pos (by omega)]
        congr 1; omega
theorem encR_len (r : Nat) : 1 ≤ (encR r).length ∧ (encR r).length ≤ 4 := by
  have := Lib.encodeRuneZ_length (r : Int); unfold encR Lib.encodeRune
  rwa [List.length_map]
theorem enc_one {r : Nat} (h : r < 128) : encR r = [r.toUInt8] := enc_low r h
theorem enc_high (r : Nat) (h : 128 ≤ r) : ∀ b ∈ encR r, 128 ≤ b.toNat := by
  intro b hb; unfold encR Lib.encodeRune Lib.encodeRuneZ at hb; rw [if_neg (by omega)] at hb; have key : ∀ (l : List Int), (∀ x ∈ l, 128 ≤ x ∧ x < 256) → ∀ b ∈ l.map (fun x => x.toNat.toUInt8), 128 ≤ b.toNat := by
    intro l hl b hb; obtain ⟨x, hx, rfl⟩ := List.mem_map.1 hb; have := hl x hx; rw [u8n _ (by omega)]; omega
  refine key _ ?_ b hb
  split
  · intro x hx; simp at hx; omega
  · split
    · intro x hx; simp at hx; omega
    · split
      · intro x hx; simp at hx; omega
      · intro x hx; simp at hx; omega
theorem drop_dec (s : ByteArray) (p : Nat) (r : Nat) (hr : vr r) (t : List UInt8) (h : s.data.toList.drop p = encR r ++ t) : Utf8.decode s p = (r, (encR r).length) ∧ badAt s p = false ∧ p < s.size := by
  have hd := Lib.decodeL_drop s p; rw [h, decL_enc r hr t] at hd; have hl := encR_len r; refine ⟨hd.symm, ?_, ?_⟩
  · unfold badAt; rw [← hd]; have : ¬ ((r, (encR r).length) = ((65533, 1) : Nat × Nat)) := by
      intro e; simp only [Prod.mk.injEq] at e; obtain ⟨rfl, e2⟩ := e; exact absurd e2 (by decide +kernel)
    simp [this]
  · have h2 := congrArg List.length h; rw [List.length_drop, Array.length_toList, List.length_append] at h2; have : s.data.size = s.size := rfl; omega
theorem decode_vr {s : ByteArray} {p : Nat} (h : p < s.size) (hb : badAt s p = false) : vr (Utf8.decode s p).1 := by
  have hbd : ¬ Utf8.decode s p = (65533, 1) := by
    unfold badAt at hb
    simpa using hb
  have h0 := byt_lt s p; have c1 := cont_iff s (p + 1); have c2 := cont_iff s (p + 2); have c3 := cont_iff s (p + 3)
  revert hbd
  unfold vr; rw [decode_eq]
  repeat' split
  all_goals simp_all
  all_goals omega
theorem drop_bts (s : ByteArray) (p k : Nat) (h : p + k ≤ s.size) : s.data.toList.drop p = bts s p k ++ s.data.toList.drop (p + k) := by
  unfold bts; rw [ByteArray.data_extract, Array.toList_extract, List.extract_eq_drop_take']; rw [← List.take_drop, ← List.drop_drop, List.take_append_drop]
theorem rl_split (s : ByteArray) : ∀ (f p : Nat), s.size ≤ p + f → (rl s f p).all (fun x => !badAt s x.2) = true → s.data.toList.drop p = ((rl s f p).map (·.1)).flatMap encR ∧ ∀ r ∈ (rl s f p).map (·.1), vr r := by
  intro f
  induction f with
  | zero =>
    intro p hp _; refine ⟨?_, by simp [rl]⟩; rw [List.drop_eq_nil_of_le (by rw [Array.length_toList]; exact hp)]; rfl
  | succ f ih =>
    intro p hp ha
    by_cases hlt : p < s.size
    · rw [rl_step s f p hlt] at ha ⊢; simp only [List.all_cons, Bool.and_eq_true, Bool.not_eq_true'] at ha; have hw := decode_wid hlt; have he := enc_dec hlt ha.1; have hi := ih (p + (Utf8.decode s p).2) (by omega) (by simpa using ha.2); refine ⟨?_, ?_⟩
      · rw [drop_bts s p (Utf8.decode s p).2 hw.2.1, ← he.1, hi.1]; simp [encR]
      · intro r hr; simp only [List.map_cons, List.mem_cons] at hr
        rcases hr with rfl | hr
        · exact decode_vr hlt ha.1
        · exact hi.2 r hr
    · rw [rl_end s _ p hlt]; refine ⟨?_, by simp⟩; rw [List.drop_eq_nil_of_le (by rw [Array.length_toList]; exact Nat.le_of_not_lt hlt)]; rfl
theorem right_split (s : ByteArray) (h : rightF s = true) : s.data.toList = ((runesF s).map (·.1)).flatMap encR ∧ ∀ r ∈ (runesF s).map (·.1), vr r := by
  have := rl_split s s.size 0 (by omega) h
  rwa [List.drop_zero] at this
theorem rl_join (s : ByteArray) : ∀ (rs : List Nat) (f p : Nat), (∀ r ∈ rs, vr r) → s.size ≤ p + f → s.data.toList.drop p = rs.flatMap encR → (rl s f p).map (·.1) = rs ∧ (rl s f p).all (fun x => !badAt s x.2) = true := by
  intro rs
  induction rs with
  | nil =>
    intro f p _ _ h; have hl := congrArg List.length h; simp only [List.flatMap_nil, List.length_nil, List.length_drop, Array.length_toList] at hl; have : ¬ p < s.size := by have : s.data.size = s.size := rfl; omega
    rw [rl_end s f p this]; exact ⟨rfl, rfl⟩
  | cons r rs ih =>
    intro f p hv hf h; rw [List.flatMap_cons] at h; obtain ⟨h1, h2, h3⟩ := drop_dec s p r (hv r (by simp)) _ h; obtain ⟨f, rfl⟩ : ∃ g, f = g + 1 := ⟨f - 1, by omega⟩; have hw := decode_wid h3; rw [rl_step s f p h3]; have hd : s.data.toList.drop (p + (encR r).length) = rs.flatMap encR := by
      rw [← List.drop_drop, h, List.drop_left]
    rw [h1] at hw ⊢; have hi := ih f (p + (encR r).length) (fun x hx => hv x (by simp [hx])) (by omega) hd; dsimp only; rw [List.map_cons, hi.1, List.all_cons, hi.2, h2]; exact ⟨rfl, rfl⟩
theorem join_right (rs : List Nat) (hv : ∀ r ∈ rs, vr r) : rightF ⟨(rs.flatMap encR).toArray⟩ = true ∧ (runesF ⟨(rs.flatMap encR).toArray⟩).map (·.1) = rs := by
  have h := rl_join ⟨(rs.flatMap encR).toArray⟩ rs (⟨(rs.flatMap encR).toArray⟩ : ByteArray).size 0 hv (by omega) (by simp); exact ⟨h.2, h.1⟩
theorem forms_map (l : List (Nat × Nat)) : formsF l = (l.map (·.1)).flatMap formF := by
  unfold formsF; rw [List.flatMap_map]
theorem formR_high (r : Nat) (h : 128 ≤ r) : formR r = [] := by
  unfold formR; rw [if_neg (by omega), if_neg (by omega), if_neg (by omega), if_neg (by omega), if_neg (by omega)]
theorem formB_enc (r : Nat) : (encR r).flatMap formB = formF r := by
  by_cases h : r < 128
  · rw [enc_one h, List.flatMap_singleton]; unfold formB formF; rw [u8n r (by omega)]
    by_cases h0 : formR r = []
    · rw [if_pos h0, if_pos h0]; exact (enc_one h).symm
    · rw [if_neg h0, if_neg h0]
  · have h0 := formR_high r (by omega); unfold formF; rw [if_pos h0]; have hb := enc_high r (by omega); show (encR r).flatMap formB = encR r; generalize encR r = l at hb
    induction l with
    | nil => rfl
    | cons b l ih =>
      rw [List.flatMap_cons, ih (fun x hx => hb x (by simp [hx]))]; unfold formB; rw [if_pos (formR_high _ (hb b (by simp)))]
      rfl
theorem flat_flat (rs : List Nat) : (rs.flatMap encR).flatMap formB = rs.flatMap formF := by
  induction rs with
  | nil => rfl
  | cons r rs ih => rw [List.flatMap_cons, List.flatMap_append, ih, formB_enc, List.flatMap_cons]
theorem rquote_eq (s : ByteArray) (h : rightF s = true) : rquoteF s = quoteF s := by
  obtain ⟨h1, _⟩ := right_split s h; unfold rquoteF quoteF; rw [forms_map, h1, flat_flat]
  rfl
theorem quote_runes (s : ByteArray) : quoteF s = 34 :: ((runesF s).map (·.1)).flatMap formF ++ [34] := by
  unfold quoteF; rw [forms_map]; rfl
theorem ext_drop (s : ByteArray) (p : Nat) : (s.extract p s.size).data.toList = s.data.toList.drop p := by
  rw [ByteArray.data_extract, Array.toList_extract, List.extract_eq_drop_take']; rw [List.take_of_length_le (by rw [Array.length_toList]; exact Nat.le_refl _)]
theorem escL_form (r : Nat) (h : formR r ≠ []) (t : List UInt8) : ∃ l, formR r = 92 :: l ∧ escL (l ++ t) = (r, l.length, 0) ∧ r < 128 := by
  rcases form_cases r with h0 | ⟨rfl, h0⟩ | ⟨rfl, h0⟩ | ⟨rfl, h0⟩ | ⟨rfl, h0⟩ | ⟨h1, h2, h3, h0⟩
  · exact absurd h0 h
  · exact ⟨[92], h0, rfl, by decide⟩
  · exact ⟨[34], h0, rfl, by decide⟩
  · exact ⟨[110], h0, rfl, by decide⟩
  · exact ⟨[116], h0, rfl, by decide⟩
  · refine ⟨[120, hexD (r / 16), hexD (r % 16)], h0, ?_, by omega⟩; have e1 := hexP_hexD (r / 16) (by omega); have e2 := hexP_hexD (r % 16) (by omega); simp only [escL, List.cons_append, List.nil_append]; rw [if_neg (by decide), if_neg (by decide), if_neg (by decide), if_neg (by decide)]; rw [e1, e2, if_neg (by omega), if_neg (by omega)]; have e3 : (((r / 16 : Nat) : Int) * 16 + ((r % 16 : Nat) : Int)).toNat = r := by omega
    rw [e3, if_pos ⟨h1, h2, h3⟩]
    rfl
theorem escL_take (L : List UInt8) (h : (escL L).2.2 = 0) : formR (escL L).1 = 92 :: L.take (escL L).2.1 ∧ (escL L).2.1 ≤ L.length ∧ (escL L).1 < 128 := by
  revert h
  cases L with
  | nil => intro h; cases h
  | cons a l =>
    simp only [escL]
    by_cases h1 : a = 92 ∨ a = 34
    · rw [if_pos h1]; intro _
      rcases h1 with rfl | rfl
      · exact ⟨rfl, by simp, by decide⟩
      · exact ⟨rfl, by simp, by decide⟩
    rw [if_neg h1]
    by_cases h2 : a = 110
    · rw [if_pos h2]; subst h2; intro _; exact ⟨rfl, by simp, by decide⟩
    rw [if_neg h2]
    by_cases h3 : a = 116
    · rw [if_pos h3]; subst h3; intro _; exact ⟨rfl, by simp, by decide⟩
    rw [if_neg h3]
    by_cases h4 : a ≠ 120
    · rw [if_pos h4]; intro h; cases h
    rw [if_neg h4]; have ha : a = 120 := by simpa using h4
    subst ha
    cases l with
    | nil => intro h; cases h
    | cons b l =>
      simp only
      by_cases h5 : hexP b.toNat < 0
      · rw [if_pos h5]; intro h; cases h
      rw [if_neg h5]
      cases l with
      | nil => intro h; cases h
      | cons c l =>
        simp only
        by_cases h6 : hexP c.toNat < 0
        · rw [if_pos h6]; intro h; cases h
        rw [if_neg h6]
        by_cases h7 : ((hexP b.toNat * 16 + hexP c.toNat).toNat < 32 ∨ (hexP b.toNat * 16 + hexP c.toNat).toNat = 127) ∧ (hexP b.toNat * 16 + hexP c.toNat).toNat ≠ 9 ∧ (hexP b.toNat * 16 + hexP c.toNat).toNat ≠ 10
        · rw [if_pos h7]; intro _; have hf := (form_hex b c (by omega) (by omega)).2 h7; dsimp only; refine ⟨?_, by simp, by omega⟩; unfold formF at hf
          split at hf
          · have := (encR_len (hexP b.toNat * 16 + hexP c.toNat).toNat); have h8 : encR (hexP b.toNat * 16 + hexP c.toNat).toNat = [92, 120, b, c] := hf; rw [enc_one (by omega)] at h8; simp at h8
          · exact hf
        · rw [if_neg h7]; intro h; cases h
theorem unq_forms (S : ByteArray) (rest : List UInt8) : ∀ (rs : List Nat) (f p : Nat) (acc : List UInt8), (∀ r ∈ rs, vr r) → S.size < p + f → S.data.toList.drop p = rs.flatMap formF ++ 34 :: rest → unqF S f p acc = (acc ++ rs.flatMap encR, p + (rs.flatMap formF).length + 1, 0) := by
  intro rs
  induction rs with
  | nil =>
    intro f p acc _ hf h; have h34 : S.data.toList.drop p = encR 34 ++ rest := by rw [h]; rfl
    obtain ⟨h1, h2, h3⟩ := drop_dec S p 34 (by unfold vr; omega) rest h34; obtain ⟨f, rfl⟩ : ∃ g, f = g + 1 := ⟨f - 1, by omega⟩; rw [unqF_shut h3 h2 (by rw [h1])]; simp
  | cons r rs ih =>
    intro f p acc hv hf h; rw [List.flatMap_cons, List.append_assoc] at h; have hvr := hv r (by simp)
    by_cases h0 : formR r = []
    · have hfr : formF r = encR r := by unfold formF; rw [if_pos h0]; rfl
      rw [hfr] at h; obtain ⟨h1, h2, h3⟩ := drop_dec S p r hvr _ h; obtain ⟨f, rfl⟩ : ∃ g, f = g + 1 := ⟨f - 1, by omega⟩; have n1 : r ≠ 34 := by rintro rfl; exact absurd h0 (by decide)
      have n2 : r ≠ 92 := by rintro rfl; exact absurd h0 (by decide)
      have n3 : ¬ (r < 32 ∨ r = 127) := by
        intro hc
        rcases form_cases r with _ | ⟨rfl, _⟩ | ⟨rfl, _⟩ | ⟨rfl, hh⟩ | ⟨rfl, hh⟩ | ⟨_, _, _, hh⟩
        · unfold formR at h0
          repeat' split at h0
          all_goals first | (cases h0; done) | exact absurd hc (by assumption)
        · exact n2 rfl
        · exact n1 rfl
        · rw [hh] at h0; cases h0
        · rw [hh] at h0; cases h0
        · rw [hh] at h0; cases h0
      have he := enc_dec h3 h2; have hw := decode_wid h3; rw [unqF_on h3 h2 (by rw [h1]; exact n1) (by rw [h1]; exact n2) (by rw [h1]; exact n3), ← he.1]; rw [h1] at hw ⊢; dsimp only at hw ⊢; have hl := encR_len r; rw [ih f (p + (encR r).length) _ (fun x hx => hv x (by simp [hx])) (by omega) (by rw [← List.drop_drop, h, List.drop_left])]; rw [List.flatMap_cons, List.flatMap_cons, hfr, List.append_assoc, List.length_append]; show (acc ++ (encR r ++ _), _, _) = _
      congr 2
      omega
    · obtain ⟨l, hl, hesc, hr8⟩ := escL_form r h0 (rs.flatMap formF ++ 34 :: rest); have hfr : formF r = 92 :: l := by unfold formF; rw [if_neg h0, hl]
      rw [hfr] at h; have h92 : S.data.toList.drop p = encR 92 ++ (l ++ (rs.flatMap formF ++ 34 :: rest)) := by rw [h]; rfl
      obtain ⟨h1, h2, h3⟩ := drop_dec S p 92 (by unfold vr; omega) _ h92; obtain ⟨f, rfl⟩ : ∃ g, f = g + 1 := ⟨f - 1, by omega⟩; have hE : escF (S.extract (p + 1) S.size) = (r, l.length, 0) := by
        rw [escF_eq, ext_drop, ← hesc, ← List.drop_drop, h92]
        rfl
      rw [unqF_esc h3 h2 (by rw [h1]), hE, if_pos rfl]; dsimp only; rw [ih f (p + 1 + l.length) _ (fun x hx => hv x (by simp [hx])) (by omega) (by rw [← List.drop_drop, ← List.drop_drop, h]; exact List.drop_left)]; rw [List.flatMap_cons, List.flatMap_cons, hfr, List.append_assoc, enc_one hr8, List.length_append, List.length_cons]
      congr 2
      omega
theorem unquote_quote (s : ByteArray) (h : rightF s = true) (rest : List UInt8) : unquoteF ⟨(quoteF s ++ rest).toArray⟩ = (s.data.toList, (quoteF s).length, 0) := by
  obtain ⟨h1, h2⟩ := right_split s h; have hq := quote_runes s; generalize (runesF s).map (·.1) = rs at *; have hsz : (⟨(quoteF s ++ rest).toArray⟩ : ByteArray).size = (quoteF s).length + rest.length := by rw [lsize, List.length_append]
  have hql : (quoteF s).length = (rs.flatMap formF).length + 2 := by rw [hq]; simp
  unfold unquoteF; rw [if_neg (by omega), if_neg (by rw [lbyt, hq]; simp)]; have hd : (⟨(quoteF s ++ rest).toArray⟩ : ByteArray).data.toList.drop 1 = rs.flatMap formF ++ 34 :: rest := by
    show (quoteF s ++ rest).drop 1 = _; rw [hq]; simp
  rw [unq_forms _ rest rs _ 1 [] h2 (by omega) hd, h1, hql]; simp; omega
theorem unq_back (S : ByteArray) : ∀ (f p : Nat) (acc : List UInt8), (unqF S f p acc).2.2 = 0 → ∃ rs : List Nat, (∀ r ∈ rs, vr r) ∧ (unqF S f p acc).1 = acc ++ rs.flatMap encR ∧ (unqF S f p acc).2.1 = p + (rs.flatMap formF).length + 1 ∧ ∃ rest, S.data.toList.drop p = rs.flatMap formF ++ 34 :: rest := by
  intro f
  induction f with
  | zero => intro p acc h; cases h
  | succ f ih =>
    intro p acc h
    by_cases hp : p < S.size
    · have hw := decode_wid hp
      cases hb : badAt S p with
      | true => rw [unqF_bad hp hb] at h; cases h
      | false =>
        have he := enc_dec hp hb; have hv := decode_vr hp hb; have hds := drop_bts S p (Utf8.decode S p).2 hw.2.1; rw [← he.1] at hds; have hds : S.data.toList.drop p = encR (Utf8.decode S p).1 ++ S.data.toList.drop (p + (Utf8.decode S p).2) := hds
        by_cases c1 : (Utf8.decode S p).1 = 34
        · rw [unqF_shut hp hb c1] at h ⊢; refine ⟨[], by simp, by simp, by simp, S.data.toList.drop (p + (Utf8.decode S p).2), ?_⟩; rw [hds, c1]; rfl
        · by_cases c2 : (Utf8.decode S p).1 = 92
          · rw [unqF_esc hp hb c2] at h ⊢
            split at h
            · rename_i h4; rw [if_pos h4]; have hlen : (Utf8.decode S p).2 = 1 := by
                have h2 := drop_dec S p 92 (by unfold vr; omega) (S.data.toList.drop (p + (Utf8.decode S p).2)) (by rw [hds, c2]); rw [h2.1]; decide +kernel
              rw [hlen, c2] at hds; have hek := escF_eq (S.extract (p + 1) S.size); rw [ext_drop] at hek; rw [hek] at h h4 ⊢; obtain ⟨t1, t2, t3⟩ := escL_take _ h4; generalize escL (S.data.toList.drop (p + 1)) = X at *; obtain ⟨X1, X2, X3⟩ := X; dsimp only at *; obtain ⟨rs, hrs, hh1, hh2, rest, hh3⟩ := ih _ _ h; refine ⟨X1 :: rs, ?_, ?_, ?_, rest, ?_⟩
              · intro r hr
                rcases List.mem_cons.1 hr with rfl | hr
                · unfold vr; omega
                · exact hrs r hr
              · rw [hh1, List.flatMap_cons, enc_one t3, List.append_assoc]
              · have hfr : formF X1 = 92 :: (S.data.toList.drop (p + 1)).take X2 := by unfold formF; rw [if_neg (by rw [t1]; simp), t1]
                rw [hh2, List.flatMap_cons, hfr, List.length_append, List.length_cons, List.length_take]; omega
              · have hfr : formF X1 = 92 :: (S.data.toList.drop (p + 1)).take X2 := by unfold formF; rw [if_neg (by rw [t1]; simp), t1]
                have hdd : S.data.toList.drop (p + 1 + X2) = (S.data.toList.drop (p + 1)).drop X2 := by rw [List.drop_drop]
                rw [List.flatMap_cons, hfr, hds, List.append_assoc, ← hh3, hdd, List.cons_append, List.take_append_drop]
                rfl
            · rename_i h4; exact absurd h h4
          · by_cases c3 : (Utf8.decode S p).1 < 32 ∨ (Utf8.decode S p).1 = 127
            · rw [unqF_low hp hb c1 c2 c3] at h; cases h
            · rw [unqF_on hp hb c1 c2 c3] at h ⊢; obtain ⟨rs, hrs, hh1, hh2, rest, hh3⟩ := ih _ _ h; generalize (Utf8.decode S p).1 = R at *; have h0 : formR R = [] := by
                rcases form_cases R with h | ⟨h, _⟩ | ⟨h, _⟩ | ⟨h, _⟩ | ⟨h, _⟩ | ⟨h, _⟩
                · exact h
                · exact absurd h c2
                · exact absurd h c1
                · exact absurd (.inl (by omega)) c3
                · exact absurd (.inl (by omega)) c3
                · exact absurd h c3
              have hfr : formF R = encR R := by unfold formF; rw [if_pos h0]; rfl
              have hbl : (encR R).length = (Utf8.decode S p).2 := by
                have : encR R = bts S p (Utf8.decode S p).2 := he.1; rw [this, bts_len S p _ hw.2.1]
              refine ⟨R :: rs, ?_, ?_, ?_, rest, ?_⟩
              · intro r hr
                rcases List.mem_cons.1 hr with rfl | hr
                · exact hv
                · exact hrs r hr
              · rw [hh1, List.flatMap_cons, ← he.1, List.append_assoc]; rfl
              · rw [hh2, List.flatMap_cons, hfr, List.length_append]; omega
              · rw [List.flatMap_cons, hfr, List.append_assoc, ← hh3]; exact hds
    · rw [unqF_end S _ p acc hp] at h; cases h
theorem quote_unquote (s : ByteArray) (h : (unquoteF s).2.2 = 0) : rightF ⟨(unquoteF s).1.toArray⟩ = true ∧ quoteF ⟨(unquoteF s).1.toArray⟩ = s.data.toList.take (unquoteF s).2.1 := by
  unfold unquoteF at h ⊢
  split at h
  · cases h
  · rename_i h0; rw [if_neg h0]
    split at h
    · cases h
    · rename_i h1; rw [if_neg h1]; obtain ⟨rs, hrs, hh1, hh2, rest, hh3⟩ := unq_back s s.size 1 [] h; rw [hh1, hh2, List.nil_append]; have hj := join_right rs hrs; refine ⟨hj.1, ?_⟩; rw [quote_runes, hj.2]; have hs : s.data.toList = 34 :: s.data.toList.drop 1 := by
        have h2 := get_lt (s := s) (i := 0) (by omega); have h3 : s.get! 0 = 34 := by
          have : byt s 0 = 34 := by simpa using h1
          rw [byt_u8, this]; rfl
        rw [h3] at h2
        cases hl : s.data.toList with
        | nil => rw [hl] at h2; simp at h2
        | cons a l => rw [hl] at h2; simp at h2; rw [h2]; rfl
      rw [hs, hh3]; have : 1 + (rs.flatMap formF).length + 1 = ((34 :: rs.flatMap formF) ++ [34]).length := by simp; omega
      rw [this, show (34 :: (rs.flatMap formF ++ 34 :: rest)) = ((34 :: rs.flatMap formF) ++ [34]) ++ rest by simp, List.take_left]
end Go

/-
  Plain: which form a text goes on with; the document's search of all forms, and the program's.
-/
import Derived.Test.YtbjiamakchklpaaTunqp
set_option linter.unusedVariables false
set_option linter.unusedSimpArgs false
set_option maxRecDepth 100000
namespace Go
open Go.RowKit
/-- 'escF', over a list. -/
def escL : List UInt8 → Nat × Nat × Nat
  | [] => (0, 0, 4)
  | a :: l =>
    if a = 92 ∨ a = 34 then (a.toNat, 1, 0) else if a = 110 then (10, 1, 0) else if a = 116 then (9, 1, 0) else if a ≠ 120 then (0, 0, 3)
    else match l with
      | [] => (0, 0, 4)
      | b :: l => if hexP b.toNat < 0 then (0, 0, 3) else match l with
        | [] => (0, 0, 4)
        | c :: _ => if hexP c.toNat < 0 then (0, 0, 3)
          else if ((hexP b.toNat * 16 + hexP c.toNat).toNat < 32 ∨ (hexP b.toNat * 16 + hexP c.toNat).toNat = 127) ∧ (hexP b.toNat * 16 + hexP c.toNat).toNat ≠ 9 ∧ (hexP b.toNat * 16 + hexP c.toNat).toNat ≠ 10 then ((hexP b.toNat * 16 + hexP c.toNat).toNat, 3, 0) else (0, 0, 3)
theorem form_hex (b c : UInt8) (hb : 0 ≤ hexP b.toNat) (hc : 0 ≤ hexP c.toNat) : formF (hexP b.toNat * 16 + hexP c.toNat).toNat = [92, 120, b, c] ↔ (((hexP b.toNat * 16 + hexP c.toNat).toNat < 32 ∨ (hexP b.toNat * 16 + hexP c.toNat).toNat = 127) ∧ (hexP b.toNat * 16 + hexP c.toNat).toNat ≠ 9 ∧ (hexP b.toNat * 16 + hexP c.toNat).toNat ≠ 10) := by
  have hd : ∀ b : Fin 256, 0 ≤ hexP b.val → b.val.toUInt8 = hexD (hexP b.val).toNat := by decide +kernel
  have h2 : ∀ x y : Fin 16, formF (16 * x.val + y.val) = [92, 120, hexD x.val, hexD y.val] ↔ ((16 * x.val + y.val < 32 ∨ 16 * x.val + y.val = 127) ∧ 16 * x.val + y.val ≠ 9 ∧ 16 * x.val + y.val ≠ 10) := by decide +kernel
  have e1 := hd ⟨b.toNat, b.toNat_lt⟩ hb
  have e2 := hd ⟨c.toNat, c.toNat_lt⟩ hc
  have b1 := hexP_bd b.toNat
  have b2 := hexP_bd c.toNat
  have f1 : b.toNat.toUInt8 = b := by simp
  have f2 : c.toNat.toUInt8 = c := by simp
  dsimp only at e1 e2
  rw [f1] at e1
  rw [f2] at e2
  have h3 := h2 ⟨(hexP b.toNat).toNat, by omega⟩ ⟨(hexP c.toNat).toNat, by omega⟩
  dsimp only at h3
  rw [← e1, ← e2] at h3
  have e3 : (hexP b.toNat * 16 + hexP c.toNat).toNat = 16 * (hexP b.toNat).toNat + (hexP c.toNat).toNat := by omega
  rw [e3]
  exact h3
theorem u8_iff (a : UInt8) (n : Nat) (hn : n < 256) : a.toNat = n ↔ a = n.toUInt8 := by
  constructor
  · intro h; rw [← h]; simp
  · intro h; rw [h]; simp; omega
theorem escF_eq (t : ByteArray) : escF t = escL t.data.toList := by
  obtain ⟨⟨L⟩⟩ := t
  have hsz : ∀ L : List UInt8, (⟨⟨L⟩⟩ : ByteArray).size = L.length := fun _ => rfl
  unfold escF
  rw [hsz]
  cases L with
  | nil => rfl
  | cons a l =>
    have h0 : byt ⟨⟨a :: l⟩⟩ 0 = a.toNat := rfl
    rw [h0, if_neg (by simp)]
    simp only [escL]
    have u1 : a.toNat = 92 ↔ a = 92 := u8_iff a 92 (by decide)
    have u2 : a.toNat = 34 ↔ a = 34 := u8_iff a 34 (by decide)
    have u3 : a.toNat = 110 ↔ a = 110 := u8_iff a 110 (by decide)
    have u4 : a.toNat = 116 ↔ a = 116 := u8_iff a 116 (by decide)
    have u5 : a.toNat = 120 ↔ a = 120 := u8_iff a 120 (by decide)
    simp only [ne_eq, u1, u2, u3, u4, u5]
    by_cases h1 : a = 92 ∨ a = 34
    · simp only [if_pos h1]
    simp only [if_neg h1]
    by_cases h2 : a = 110
    · simp only [if_pos h2]
    simp only [if_neg h2]
    by_cases h3 : a = 116
    · simp only [if_pos h3]
    simp only [if_neg h3]
    by_cases h4 : ¬ a = 120
    · simp only [if_pos h4]
    simp only [if_neg h4]
    have ha : a = 120 := by simpa using h4
    subst ha
    cases l with
    | nil => rfl
    | cons b l =>
      have h5 : byt ⟨⟨120 :: b :: l⟩⟩ 1 = b.toNat := rfl
      rw [h5, if_neg (by simp)]
      simp only
      by_cases h6 : hexP b.toNat < 0
      · simp only [if_pos h6]
      simp only [if_neg h6]
      cases l with
      | nil => rfl
      | cons c l =>
        have h7 : byt ⟨⟨120 :: b :: c :: l⟩⟩ 2 = c.toNat := rfl
        rw [h7, if_neg (by simp)]
        simp only
        by_cases h8 : hexP c.toNat < 0
        · simp only [if_pos h8]
        simp only [if_neg h8]
        have h9 : ((⟨⟨120 :: b :: c :: l⟩⟩ : ByteArray).extract 0 3).data.toList = [120, b, c] := by
          have := bts_eq ⟨⟨120 :: b :: c :: l⟩⟩ 0 3 (by rw [hsz]; simp)
          unfold bts at this
          rw [this]
          rfl
        rw [h9]
        have h10 := form_hex b c (by omega) (by omega)
        by_cases h : formF (hexP b.toNat * 16 + hexP c.toNat).toNat = [92, 120, b, c]
        · rw [if_pos h, if_pos (h10.1 h)]
        · rw [if_neg h, if_neg (fun g => h (h10.2 g))]
/-- Does a text go on with a rune's form? -/
def fm (T : List UInt8) (c : Nat) : Bool := decide (formR c ≠ []) && (formR c).isPrefixOf T
/-- Is all that is left of a text the beginning of a form, and no more? -/
def fp (T : List UInt8) (c : Nat) : Bool := decide (formR c ≠ []) && (decide (T.length < (formR c).length) && T.isPrefixOf (formR c))
def outL (T acc : List UInt8) (k : Nat) : List UInt8 := acc ++ ((List.range k).filter (fm T)).map (fun c => c.toUInt8)
def sizeL (T : List UInt8) (k : Nat) : Nat := ((List.range k).filter (fm T)).foldl (fun _ c => (formR c).length) 0
def partL (T : List UInt8) (k : Nat) : Bool := (List.range k).any (fp T)
theorem outL_step (T acc : List UInt8) (k : Nat) : outL T acc (k + 1) = outL T acc k ++ (if fm T k then [k.toUInt8] else []) := by
  unfold outL
  rw [List.range_succ, List.filter_append, List.map_append, List.append_assoc]
  congr 2
  cases h : fm T k <;> simp [h]
theorem sizeL_step (T : List UInt8) (k : Nat) : sizeL T (k + 1) = if fm T k then (formR k).length else sizeL T k := by
  unfold sizeL
  rw [List.range_succ, List.filter_append, List.foldl_append]
  cases h : fm T k <;> simp [h]
theorem partL_step (T : List UInt8) (k : Nat) : partL T (k + 1) = (partL T k || fp T k) := by
  unfold partL
  rw [List.range_succ, List.any_append]
  simp
/-- \x with one digit of any kind, or none. -/
def extL : List UInt8 → Bool
  | [_, x] => x == 120
  | [_, x, b] => x == 120 && decide (0 ≤ hexP b.toNat)
  | _ => false
theorem form_cases (c : Nat) : formR c = [] ∨ (c = 92 ∧ formR c = [92, 92]) ∨ (c = 34 ∧ formR c = [92, 34]) ∨ (c = 10 ∧ formR c = [92, 110]) ∨ (c = 9 ∧ formR c = [92, 116]) ∨ ((c < 32 ∨ c = 127) ∧ c ≠ 9 ∧ c ≠ 10 ∧ formR c = [92, 120, hexD (c / 16), hexD (c % 16)]) := by
  unfold formR
  by_cases h1 : c = 92
  · simp [h1]
  by_cases h2 : c = 34
  · simp [h2]
  by_cases h3 : c = 10
  · simp [h3]
  by_cases h4 : c = 9
  · simp [h4]
  by_cases h5 : c < 32 ∨ c = 127
  · simp [h1, h2, h3, h4, h5]
  · simp [h1, h2, h3, h4, h5]
theorem range_filter_one (p : Nat → Bool) (n c : Nat) (hc : c < n) (h1 : p c = true) (h2 : ∀ d, d < n → p d = true → d = c) : (List.range n).filter p = [c] := by
  induction n with
  | zero => omega
  | succ n ih =>
    rw [List.range_succ, List.filter_append]
    by_cases h : c = n
    · subst h
      have : (List.range c).filter p = [] := by
        rw [List.filter_eq_nil_iff]
        intro d hd
        rw [List.mem_range] at hd
        intro hp
        have := h2 d (by omega) hp
        omega
      rw [this]; simp [h1]
    · have hn : p n = false := by
        cases hp : p n with
        | false => rfl
        | true => exact absurd (h2 n (by omega) hp).symm h
      rw [ih (by omega) (fun d hd hp => h2 d (by omega) hp)]
      simp [hn]
theorem range_filter_none (p : Nat → Bool) (n : Nat) (h : ∀ d, d < n → p d = false) : (List.range n).filter p = [] := by
  rw [List.filter_eq_nil_iff]
  intro d hd
  rw [List.mem_range] at hd
  simp [h d hd]
theorem fm_iff (L : List UInt8) (c : Nat) : fm (92 :: L) c = true ↔ (c = 92 ∧ [92] <+: L) ∨ (c = 34 ∧ [34] <+: L) ∨ (c = 10 ∧ [110] <+: L) ∨ (c = 9 ∧ [116] <+: L) ∨ ((c < 32 ∨ c = 127) ∧ c ≠ 9 ∧ c ≠ 10 ∧ [120, hexD (c / 16), hexD (c % 16)] <+: L) := by
  unfold fm
  rw [Bool.and_eq_true, decide_eq_true_eq, List.isPrefixOf_iff_prefix]
  rcases form_cases c with h | ⟨rfl, h⟩ | ⟨rfl, h⟩ | ⟨rfl, h⟩ | ⟨rfl, h⟩ | ⟨h1, h2, h3, h⟩
  · have : ¬ (c = 92) ∧ ¬ (c = 34) ∧ ¬ (c = 10) ∧ ¬ (c = 9) ∧ ¬ (c < 32 ∨ c = 127) := by
      refine ⟨?_, ?_, ?_, ?_, ?_⟩ <;> intro hc
      · subst hc; exact absurd h (by decide)
      · subst hc; exact absurd h (by decide)
      · subst hc; exact absurd h (by decide)
      · subst hc; exact absurd h (by decide)
      · unfold formR at h
        repeat' split at h
        all_goals first | (cases h; done) | exact absurd hc (by assumption)
    simp [h, this]
  · rw [h]; simp [List.cons_prefix_cons]
  · rw [h]; simp [List.cons_prefix_cons]
  · rw [h]; simp [List.cons_prefix_cons]
  · rw [h]; simp [List.cons_prefix_cons]
  · rw [h, List.cons_prefix_cons]
    have a1 : ¬ c = 92 := by omega
    have a2 : ¬ c = 34 := by omega
    simp [a1, a2, h1, h2, h3]
theorem fp_iff (L : List UInt8) (c : Nat) : fp (92 :: L) c = true ↔ (L = [] ∧ formR c ≠ []) ∨ ((c < 32 ∨ c = 127) ∧ c ≠ 9 ∧ c ≠ 10 ∧ (L = [120] ∨ L = [120, hexD (c / 16)])) := by
  unfold fp
  rw [Bool.and_eq_true, Bool.and_eq_true, decide_eq_true_eq, decide_eq_true_eq, List.isPrefixOf_iff_prefix]
  have hno : ∀ c, formR c = [] → ¬ (c < 32 ∨ c = 127) := by
    intro c h hc
    unfold formR at h
    repeat' split at h
    all_goals first | (cases h; done) | exact absurd hc (by assumption)
  rcases form_cases c with h | ⟨rfl, h⟩ | ⟨rfl, h⟩ | ⟨rfl, h⟩ | ⟨rfl, h⟩ | ⟨h1, h2, h3, h⟩
  · have := hno c h
    simp [h, this]
  all_goals rw [h]
  · match L with
    | [] => simp
    | x :: l => simp; intro h; omega
  · match L with
    | [] => simp
    | x :: l => simp; intro h; omega
  · match L with
    | [] => simp
    | x :: l => simp; intro h; omega
  · match L with
    | [] => simp
    | x :: l => simp; intro h; omega
  · simp only [h1, h2, h3, List.cons_prefix_cons, true_and, List.length_cons, List.length_nil, ne_eq, not_false_eq_true, reduceCtorEq, and_true, Nat.add_lt_add_iff_right]
    match L with
    | [] => simp
    | [x] => simp [List.cons_prefix_cons]
    | [x, y] => simp [List.cons_prefix_cons]
    | x :: y :: z :: l => simp; intro h; omega
theorem hexP_hexD (k : Nat) (h : k < 16) : hexP (hexD k).toNat = (k : Int) := by
  have : ∀ k : Fin 16, hexP (hexD k.val).toNat = (k.val : Int) := by decide +kernel
  exact this ⟨k, h⟩
theorem hexD_hexP (b : UInt8) (h : 0 ≤ hexP b.toNat) : hexD (hexP b.toNat).toNat = b := by
  have : ∀ b : Fin 256, 0 ≤ hexP b.val → b.val.toUInt8 = hexD (hexP b.val).toNat := by decide +kernel
  have h2 := this ⟨b.toNat, b.toNat_lt⟩ h
  dsimp only at h2
  rw [← h2]; simp
theorem part_false (L : List UInt8) (h : ∀ c, ¬ ((L = [] ∧ formR c ≠ []) ∨ ((c < 32 ∨ c = 127) ∧ c ≠ 9 ∧ c ≠ 10 ∧ (L = [120] ∨ L = [120, hexD (c / 16)])))) : partL (92 :: L) 128 = false := by
  unfold partL
  rw [List.any_eq_false]
  intro c _ hf
  exact h c ((fp_iff L c).1 hf)
theorem part_true (L : List UInt8) (c : Nat) (hc : c < 128) (h : (L = [] ∧ formR c ≠ []) ∨ ((c < 32 ∨ c = 127) ∧ c ≠ 9 ∧ c ≠ 10 ∧ (L = [120] ∨ L = [120, hexD (c / 16)]))) : partL (92 :: L) 128 = true := by
  unfold partL
  rw [List.any_eq_true]
  exact ⟨c, List.mem_range.2 hc, (fp_iff L c).2 h⟩
theorem fm_one (L : List UInt8) (c : Nat) (hc : c < 128) (h1 : fm (92 :: L) c = true) (h2 : ∀ d, d < 128 → fm (92 :: L) d = true → d = c) (acc : List UInt8) : outL (92 :: L) acc 128 = acc ++ [c.toUInt8] ∧ sizeL (92 :: L) 128 = (formR c).length := by
  unfold outL sizeL
  rw [range_filter_one _ _ _ hc h1 h2]
  exact ⟨rfl, rfl⟩
theorem fm_none (L : List UInt8) (h : ∀ d, d < 128 → fm (92 :: L) d = false) : sizeL (92 :: L) 128 = 0 := by
  unfold sizeL
  rw [range_filter_none _ _ h]
  rfl
/-- The document's search and the program's steps come to the same. -/
theorem search_esc (L acc : List UInt8) :
    ((escL L).2.2 = 0 → outL (92 :: L) acc 128 = acc ++ [(escL L).1.toUInt8] ∧ sizeL (92 :: L) 128 = (escL L).2.1 + 1 ∧ partL (92 :: L) 128 = false ∧ extL (92 :: L) = false) ∧
    ((escL L).2.2 = 4 → (partL (92 :: L) 128 || extL (92 :: L)) = true) ∧
    ((escL L).2.2 = 3 → sizeL (92 :: L) 128 = 0 ∧ partL (92 :: L) 128 = false ∧ extL (92 :: L) = false) := by
  cases L with
  | nil =>
    have h := part_true [] 92 (by decide) (.inl ⟨rfl, by decide⟩)
    simp [escL, h]
  | cons a l =>
    simp only [escL]
    by_cases h1 : a = 92 ∨ a = 34
    · rw [if_pos h1]
      have hp : partL (92 :: a :: l) 128 = false := part_false _ (by
        rintro c (⟨h, _⟩ | ⟨_, _, _, h | h⟩)
        · cases h
        · simp only [List.cons.injEq] at h; rcases h1 with g | g <;> rw [g] at h <;> exact absurd h.1 (by decide)
        · simp only [List.cons.injEq] at h; rcases h1 with g | g <;> rw [g] at h <;> exact absurd h.1 (by decide))
      have he : extL (92 :: a :: l) = false := by
        rcases h1 with rfl | rfl
        · match l with
          | [] => rfl
          | [b] => rfl
          | _ :: _ :: _ => rfl
        · match l with
          | [] => rfl
          | [b] => rfl
          | _ :: _ :: _ => rfl
      refine ⟨fun _ => ?_, fun h => (by cases h), fun h => (by cases h)⟩
      rcases h1 with rfl | rfl
      · have := fm_one (92 :: l) 92 (by decide) (by rw [fm_iff]; simp) (by intro d _ hd; rw [fm_iff] at hd; simpa [List.cons_prefix_cons] using hd) acc
        exact ⟨this.1, this.2, hp, he⟩
      · have := fm_one (34 :: l) 34 (by decide) (by rw [fm_iff]; simp) (by intro d _ hd; rw [fm_iff] at hd; simpa [List.cons_prefix_cons] using hd) acc
        exact ⟨this.1, this.2, hp, he⟩
    rw [if_neg h1]
    by_cases h2 : a = 110
    · rw [if_pos h2]
      subst h2
      have hp : partL (92 :: 110 :: l) 128 = false := part_false _ (by
        rintro c (⟨h, _⟩ | ⟨_, _, _, h | h⟩)
        · cases h
        · simp only [List.cons.injEq] at h; exact absurd h.1 (by decide)
        · simp only [List.cons.injEq] at h; exact absurd h.1 (by decide))
      have he : extL (92 :: 110 :: l) = false := by
        match l with
        | [] => rfl
        | [b] => rfl
        | _ :: _ :: _ => rfl
      refine ⟨fun _ => ?_, fun h => (by cases h), fun h => (by cases h)⟩
      have := fm_one (110 :: l) 10 (by decide) (by rw [fm_iff]; simp) (by intro d _ hd; rw [fm_iff] at hd; simpa [List.cons_prefix_cons] using hd) acc
      exact ⟨this.1, this.2, hp, he⟩
    rw [if_neg h2]
    by_cases h3 : a = 116
    · rw [if_pos h3]
      subst h3
      have hp : partL (92 :: 116 :: l) 128 = false := part_false _ (by
        rintro c (⟨h, _⟩ | ⟨_, _, _, h | h⟩)
        · cases h
        · simp only [List.cons.injEq] at h; exact absurd h.1 (by decide)
        · simp only [List.cons.injEq] at h; exact absurd h.1 (by decide))
      have he : extL (92 :: 116 :: l) = false := by
        match l with
        | [] => rfl
        | [b] => rfl
        | _ :: _ :: _ => rfl
      refine ⟨fun _ => ?_, fun h => (by cases h), fun h => (by cases h)⟩
      have := fm_one (116 :: l) 9 (by decide) (by rw [fm_iff]; simp) (by intro d _ hd; rw [fm_iff] at hd; simpa [List.cons_prefix_cons] using hd) acc
      exact ⟨this.1, this.2, hp, he⟩
    rw [if_neg h3]
    by_cases h4 : a ≠ 120
    · rw [if_pos h4]
      refine ⟨fun h => (by cases h), fun h => (by cases h), fun _ => ⟨?_, ?_, ?_⟩⟩
      · refine fm_none _ ?_
        intro d _
        rw [Bool.eq_false_iff]
        intro hd
        rw [fm_iff] at hd
        simp only [List.cons_prefix_cons] at hd
        rcases hd with ⟨_, h, _⟩ | ⟨_, h, _⟩ | ⟨_, h, _⟩ | ⟨_, h, _⟩ | ⟨_, _, _, h, _⟩
        · exact h1 (.inl h.symm)
        · exact h1 (.inr h.symm)
        · exact h2 h.symm
        · exact h3 h.symm
        · exact h4 h.symm
      · refine part_false _ ?_
        rintro c (⟨h, _⟩ | ⟨_, _, _, h | h⟩)
        · cases h
        · simp only [List.cons.injEq] at h; exact h4 h.1
        · simp only [List.cons.injEq] at h; exact h4 h.1
      · match l with
        | [] => simp [extL, h4]
        | [b] => simp [extL, h4]
        | _ :: _ :: _ => rfl
    rw [if_neg h4]
    have ha : a = 120 := by simpa using h4
    subst ha
    cases l with
    | nil =>
      have h := part_true [120] 0 (by decide) (.inr ⟨by decide, by decide, by decide, .inl rfl⟩)
      simp [h]
    | cons b l =>
      simp only
      have nofm : ∀ d, fm (92 :: 120 :: b :: l) d = true → (d < 32 ∨ d = 127) ∧ d ≠ 9 ∧ d ≠ 10 ∧ [hexD (d / 16), hexD (d % 16)] <+: (b :: l) := by
        intro d hd
        rw [fm_iff] at hd
        simp only [List.cons_prefix_cons] at hd
        rcases hd with ⟨_, h, _⟩ | ⟨_, h, _⟩ | ⟨_, h, _⟩ | ⟨_, h, _⟩ | ⟨g1, g2, g3, _, h⟩
        · exact absurd h (by decide)
        · exact absurd h (by decide)
        · exact absurd h (by decide)
        · exact absurd h (by decide)
        · exact ⟨g1, g2, g3, by rw [List.cons_prefix_cons]; exact h⟩
      by_cases h5 : hexP b.toNat < 0
      · rw [if_pos h5]
        have hb : ∀ k, k < 16 → ¬ hexD k = b := by
          intro k hk h
          have := hexP_hexD k hk
          rw [h] at this
          omega
        refine ⟨fun h => (by cases h), fun h => (by cases h), fun _ => ⟨?_, ?_, ?_⟩⟩
        · refine fm_none _ ?_
          intro d hd128
          rw [Bool.eq_false_iff]
          intro hd
          obtain ⟨g1, g2, g3, g4⟩ := nofm d hd
          rw [List.cons_prefix_cons] at g4
          exact hb _ (by omega) g4.1
        · refine part_false _ ?_
          rintro c (⟨h, _⟩ | ⟨g1, _, _, h | h⟩)
          · cases h
          · cases h
          · simp only [List.cons.injEq] at h; exact hb (c / 16) (by omega) h.2.1.symm
        · match l with
          | [] => simp [extL]; omega
          | _ :: _ => rfl
      rw [if_neg h5]
      cases l with
      | nil =>
        have h : extL [92, 120, b] = true := by simp [extL]; omega
        simp [h]
      | cons c l =>
        simp only
        have hp : partL (92 :: 120 :: b :: c :: l) 128 = false := part_false _ (by
          rintro d (⟨h, _⟩ | ⟨_, _, _, h | h⟩)
          · cases h
          · cases h
          · simp at h)
        have he : extL (92 :: 120 :: b :: c :: l) = false := rfl
        have nof2 : ∀ d, d < 128 → fm (92 :: 120 :: b :: c :: l) d = true → ((d < 32 ∨ d = 127) ∧ d ≠ 9 ∧ d ≠ 10) ∧ hexP b.toNat = ((d / 16 : Nat) : Int) ∧ hexP c.toNat = ((d % 16 : Nat) : Int) := by
          intro d hd8 hd
          obtain ⟨g1, g2, g3, g4⟩ := nofm d hd
          rw [List.cons_prefix_cons, List.cons_prefix_cons] at g4
          refine ⟨⟨g1, g2, g3⟩, ?_, ?_⟩
          · rw [← g4.1]; exact hexP_hexD _ (by omega)
          · rw [← g4.2.1]; exact hexP_hexD _ (by omega)
        by_cases h6 : hexP c.toNat < 0
        · rw [if_pos h6]
          refine ⟨fun h => (by cases h), fun h => (by cases h), fun _ => ⟨fm_none _ ?_, hp, he⟩⟩
          intro d hd8
          rw [Bool.eq_false_iff]
          intro hd
          have := nof2 d hd8 hd
          omega
        rw [if_neg h6]
        have b1 := hexP_bd b.toNat
        have b2 := hexP_bd c.toNat
        by_cases h7 : ((hexP b.toNat * 16 + hexP c.toNat).toNat < 32 ∨ (hexP b.toNat * 16 + hexP c.toNat).toNat = 127) ∧ (hexP b.toNat * 16 + hexP c.toNat).toNat ≠ 9 ∧ (hexP b.toNat * 16 + hexP c.toNat).toNat ≠ 10
        · rw [if_pos h7]
          refine ⟨fun _ => ?_, fun h => (by cases h), fun h => (by cases h)⟩
          obtain ⟨r, hr⟩ : ∃ r, (hexP b.toNat * 16 + hexP c.toNat).toNat = r := ⟨_, rfl⟩
          rw [hr] at h7 ⊢
          have e1 : hexD (r / 16) = b := by
            rw [← hexD_hexP b (by omega)]; congr 1; omega
          have e2 : hexD (r % 16) = c := by
            rw [← hexD_hexP c (by omega)]; congr 1; omega
          have hf : formR r = [92, 120, b, c] := by
            rcases form_cases r with h | ⟨h, _⟩ | ⟨h, _⟩ | ⟨h, _⟩ | ⟨h, _⟩ | ⟨_, _, _, h⟩
            · unfold formR at h
              repeat' split at h
              all_goals first | (cases h; done) | exact absurd h7.1 (by assumption)
            · omega
            · omega
            · exact absurd h h7.2.2
            · exact absurd h h7.2.1
            · rw [h, e1, e2]
          have := fm_one (120 :: b :: c :: l) r (by omega) (by rw [fm_iff]; exact .inr (.inr (.inr (.inr ⟨h7.1, h7.2.1, h7.2.2, by rw [e1, e2]; simp [List.cons_prefix_cons]⟩)))) (by intro d hd8 hd; have := nof2 d hd8 hd; omega) acc
          refine ⟨this.1, ?_, hp, he⟩
          rw [this.2, hf]; rfl
        · rw [if_neg h7]
          refine ⟨fun h => (by cases h), fun h => (by cases h), fun _ => ⟨fm_none _ ?_, hp, he⟩⟩
          intro d hd8
          rw [Bool.eq_false_iff]
          intro hd
          have := nof2 d hd8 hd
          refine h7 ?_
          have : (hexP b.toNat * 16 + hexP c.toNat).toNat = d := by omega
          omega
end Go

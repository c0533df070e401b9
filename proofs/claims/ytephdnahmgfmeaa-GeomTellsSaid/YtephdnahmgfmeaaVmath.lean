/-
  The bytes of numbers: plain functions on lists of integers, and what they obey.
-/
namespace Go.Vint

/-- The bytes of a number: seven bits a byte, the lowest first. -/
def vb (n : Int) : List Int := if n < 128 then [n] else (128 + n % 128) :: vb (n / 128)
termination_by n.toNat
decreasing_by omega

theorem vb_lo {n : Int} (h : n < 128) : vb n = [n] := by rw [vb, if_pos h]
theorem vb_hi {n : Int} (h : ¬ n < 128) : vb n = (128 + n % 128) :: vb (n / 128) := by rw [vb, if_neg h]

theorem vb_ne (n : Int) : vb n ≠ [] := by
  rw [vb]; split <;> simp

theorem vb_pos (n : Int) : 1 ≤ (vb n).length := by
  have := vb_ne n
  cases h : vb n with
  | nil => exact absurd h this
  | cons a l => simp

/-- How many bytes: at most k where the number is below 128 ^ k. -/
theorem vb_len (k : Nat) : ∀ n : Int, n < 128 ^ (k + 1) → (vb n).length ≤ k + 1 := by
  induction k with
  | zero => intro n h; rw [vb_lo (by simpa using h)]; simp
  | succ k ih =>
    intro n h
    by_cases h1 : n < 128
    · rw [vb_lo h1]; simp
    · rw [vb_hi h1, List.length_cons]
      have h2 : n / 128 < 128 ^ (k + 1) := by
        refine Int.ediv_lt_of_lt_mul (by omega) ?_
        rw [Int.pow_succ] at h; exact h
      have := ih _ h2
      omega

theorem vb_len10 (n : Int) (h : n ≤ 18446744073709551615) : (vb n).length ≤ 10 :=
  vb_len 9 n (by simp; omega)

theorem vb_bd (n : Int) (h0 : 0 ≤ n) : ∀ x ∈ vb n, 0 ≤ x ∧ x ≤ 255 := by
  have key : ∀ k : Nat, ∀ n : Int, 0 ≤ n → n.toNat ≤ k → ∀ x ∈ vb n, 0 ≤ x ∧ x ≤ 255 := by
    intro k
    induction k with
    | zero => intro n h0 hk x hx; rw [vb_lo (by omega)] at hx; simp at hx; omega
    | succ k ih =>
      intro n h0 hk x hx
      by_cases h1 : n < 128
      · rw [vb_lo h1] at hx; simp at hx; omega
      · rw [vb_hi h1] at hx
        simp only [List.mem_cons] at hx
        rcases hx with rfl | hx
        · omega
        · exact ih (n / 128) (by omega) (by omega) x hx
  exact key n.toNat n h0 (Nat.le_refl _)

/-- The bytes of numbers, one behind the other. -/
def vbs (l : List Int) : List Int := l.flatMap vb

theorem vbs_append (a b : List Int) : vbs (a ++ b) = vbs a ++ vbs b := by simp [vbs]
theorem vbs_snoc (a : List Int) (x : Int) : vbs (a ++ [x]) = vbs a ++ vb x := by simp [vbs]

theorem vbs_len (l : List Int) (h : ∀ x ∈ l, x ≤ 18446744073709551615) : (vbs l).length ≤ 10 * l.length := by
  induction l with
  | nil => simp [vbs]
  | cons x l ih =>
    have h1 := vb_len10 x (h x (by simp))
    have h2 := ih (fun y hy => h y (by simp [hy]))
    simp only [vbs, List.flatMap_cons, List.length_append, List.length_cons] at *
    omega
end Go.Vint
namespace Go.Vint
/-- How many bytes at the beginning go on. -/
def cont : List Int → Nat
  | [] => 0
  | x :: l => if 128 ≤ x then cont l + 1 else 0
/-- The number that seven bits a byte make. -/
def val : List Int → Int
  | [] => 0
  | x :: l => x % 128 + 128 * val l
/-- The number that bytes begin with, how many these are, the error. -/
def rd (b : List Int) : Int × Int × Int :=
  let k := cont b
  if 10 ≤ k then (0, 0, 5) else if k = b.length then (0, 0, 4) else if k = 9 ∧ 1 < b.getD 9 0 then (0, 0, 5) else if 0 < k ∧ b.getD k 0 = 0 then (0, 0, 3) else (val (b.take (k + 1)), (k : Int) + 1, 0)

theorem cont_le (b : List Int) : cont b ≤ b.length := by
  induction b with
  | nil => simp [cont]
  | cons x l ih => simp only [cont, List.length_cons]; split <;> omega

/-- The first byte that does not go on. -/
theorem cont_at (b : List Int) (k : Nat) (h : ∀ j, j < k → 128 ≤ b.getD j 0) (hk : k < b.length) (hx : b.getD k 0 < 128) : cont b = k := by
  induction b generalizing k with
  | nil => simp at hk
  | cons x l ih =>
    cases k with
    | zero => simp only [List.getD_cons_zero] at hx; simp only [cont]; rw [if_neg (by omega)]
    | succ k =>
      have h0 := h 0 (by omega)
      simp only [List.getD_cons_zero] at h0
      simp only [cont]
      rw [if_pos h0, ih k (fun j hj => by simpa using h (j + 1) (by omega)) (by simpa using hk) (by simpa using hx)]

theorem cont_all (b : List Int) (h : ∀ j, j < b.length → 128 ≤ b.getD j 0) : cont b = b.length := by
  induction b with
  | nil => simp [cont]
  | cons x l ih =>
    have h0 := h 0 (by simp)
    simp only [List.getD_cons_zero] at h0
    simp only [cont, List.length_cons]
    rw [if_pos h0, ih (fun j hj => by simpa using h (j + 1) (by simpa using hj))]

theorem cont_ge (b : List Int) (k : Nat) (hk : k ≤ b.length) (h : ∀ j, j < k → 128 ≤ b.getD j 0) : k ≤ cont b := by
  induction b generalizing k with
  | nil => simp at hk; omega
  | cons x l ih =>
    cases k with
    | zero => omega
    | succ k =>
      have h0 := h 0 (by omega)
      simp only [List.getD_cons_zero] at h0
      simp only [cont]
      rw [if_pos h0]
      have := ih k (by simpa using hk) (fun j hj => by simpa using h (j + 1) (by omega))
      omega

theorem cont_lt (b : List Int) (k : Nat) (h : k < cont b) : 128 ≤ b.getD k 0 := by
  induction b generalizing k with
  | nil => simp [cont] at h
  | cons x l ih =>
    simp only [cont] at h
    split at h
    · rename_i hx
      cases k with
      | zero => simpa using hx
      | succ k => simpa using ih k (by omega)
    · omega

theorem cont_end (b : List Int) (h : cont b < b.length) : b.getD (cont b) 0 < 128 := by
  induction b with
  | nil => simp [cont] at h
  | cons x l ih =>
    simp only [cont] at h ⊢
    split
    · rename_i hx
      rw [if_pos hx] at h
      simp only [List.length_cons] at h
      simpa using ih (by omega)
    · simp; omega

theorem val_snoc (l : List Int) (x : Int) : val (l ++ [x]) = val l + 128 ^ l.length * (x % 128) := by
  induction l with
  | nil => simp [val]
  | cons y l ih =>
    simp only [List.cons_append, val, ih, List.length_cons, Int.pow_succ]
    rw [Int.mul_add, ← Int.mul_assoc, Int.mul_comm 128 (128 ^ l.length)]
    omega

theorem val_bd (l : List Int) : 0 ≤ val l ∧ val l < 128 ^ l.length := by
  induction l with
  | nil => simp [val]
  | cons x l ih =>
    simp only [val, List.length_cons, Int.pow_succ]
    omega

theorem rd_range (b : List Int) (hk : 10 ≤ b.length) (h : ∀ j, j < 10 → 128 ≤ b.getD j 0) : rd b = (0, 0, 5) := by
  have := cont_ge b 10 hk h
  simp [rd, this]

theorem rd_end (b : List Int) (h : ∀ j, j < b.length → 128 ≤ b.getD j 0) (hk : b.length < 10) : rd b = (0, 0, 4) := by
  have := cont_all b h
  simp [rd, this]
  omega

theorem rd_at (b : List Int) (k : Nat) (hk9 : k < 10) (h : ∀ j, j < k → 128 ≤ b.getD j 0) (hk : k < b.length) (hx : b.getD k 0 < 128) :
    rd b = if k = 9 ∧ 1 < b.getD 9 0 then (0, 0, 5) else if 0 < k ∧ b.getD k 0 = 0 then (0, 0, 3) else (val (b.take (k + 1)), (k : Int) + 1, 0) := by
  have := cont_at b k h hk hx
  simp only [rd, this]
  rw [if_neg (by omega), if_neg (by omega)]
end Go.Vint
namespace Go.Vint
/-- A signed number, turned; and back. -/
def zig (n : Int) : Int := if n < 0 then -2 * n - 1 else 2 * n
def zag (u : Int) : Int := if u % 2 = 1 then -(u / 2) - 1 else u / 2
theorem zag_zig (n : Int) : zag (zig n) = n := by unfold zag zig; split <;> split <;> omega
theorem zig_zag (u : Int) (h : 0 ≤ u) : zig (zag u) = u := by unfold zag zig; split <;> split <;> omega
theorem zig_bd (n : Int) (h0 : -9223372036854775808 ≤ n) (h1 : n ≤ 9223372036854775807) : 0 ≤ zig n ∧ zig n ≤ 18446744073709551615 := by unfold zig; split <;> omega
theorem zag_bd (u : Int) (h0 : 0 ≤ u) (h1 : u ≤ 18446744073709551615) : -9223372036854775808 ≤ zag u ∧ zag u ≤ 9223372036854775807 := by unfold zag; split <;> omega
end Go.Vint
namespace Go.Vint
theorem vb_mono : ∀ (b a : Int), a ≤ b → (vb a).length ≤ (vb b).length := by
  have key : ∀ k : Nat, ∀ (b a : Int), b.toNat ≤ k → a ≤ b → (vb a).length ≤ (vb b).length := by
    intro k
    induction k with
    | zero => intro b a hb hab; rw [vb_lo (n := a) (by omega)]; exact vb_pos b
    | succ k ih =>
      intro b a hb hab
      by_cases ha : a < 128
      · rw [vb_lo ha]; exact vb_pos b
      · rw [vb_hi ha, vb_hi (n := b) (by omega)]
        have := ih (b / 128) (a / 128) (by omega) (by omega)
        simpa using this
  exact fun b a => key b.toNat b a (Nat.le_refl _)

/-- All but the last byte of a number go on. -/
theorem vb_cont : ∀ (n : Int), 0 ≤ n → ∀ j, j + 1 < (vb n).length → 128 ≤ (vb n).getD j 0 := by
  have key : ∀ k : Nat, ∀ n : Int, n.toNat ≤ k → 0 ≤ n → ∀ j, j + 1 < (vb n).length → 128 ≤ (vb n).getD j 0 := by
    intro k
    induction k with
    | zero => intro n hn h0 j hj; rw [vb_lo (n := n) (by omega)] at hj; simp at hj
    | succ k ih =>
      intro n hn h0 j hj
      by_cases h1 : n < 128
      · rw [vb_lo h1] at hj; simp at hj
      · rw [vb_hi h1] at hj ⊢
        cases j with
        | zero => simp; omega
        | succ j => simpa using ih (n / 128) (by omega) (by omega) j (by simpa using hj)
  exact fun n => key n.toNat n (Nat.le_refl _)

/-- A number cut short is refused: the end. -/
theorem rd_cut (n : Int) (h0 : 0 ≤ n) (h1 : n ≤ 18446744073709551615) (k : Nat) (hk : k < (vb n).length) : rd ((vb n).take k) = (0, 0, 4) := by
  have hl := vb_len10 n h1
  have hlen : ((vb n).take k).length = k := by simp; omega
  refine rd_end _ ?_ (by omega)
  intro j hj
  rw [hlen] at hj
  have := vb_cont n h0 j (by omega)
  rw [List.getD_eq_getElem?_getD, List.getElem?_take, if_pos hj]
  rwa [List.getD_eq_getElem?_getD] at this
end Go.Vint
namespace Go.Vint
theorem val_split (l : List Int) (i : Nat) : val l = val (l.take i) + 128 ^ (min i l.length) * val (l.drop i) := by
  induction l generalizing i with
  | nil => simp [val]
  | cons x l ih =>
    cases i with
    | zero => simp [val]
    | succ i =>
      have h : min (i + 1) (l.length + 1) = min i l.length + 1 := by omega
      simp only [List.take_succ_cons, List.drop_succ_cons, val, List.length_cons, h]
      rw [ih i, Int.pow_succ, Int.mul_comm (128 ^ (min i l.length)) 128, Int.mul_assoc, Int.mul_add, Int.add_assoc]

theorem val_drop_le (l : List Int) (i : Nat) : val (l.drop i) ≤ val l := by
  rw [val_split l i]
  have h1 := val_bd (l.take i)
  have h2 := val_bd (l.drop i)
  have h3 : (1 : Int) ≤ 128 ^ (min i l.length) := Int.one_le_two_pow_aux _
  have h4 : 1 * val (l.drop i) ≤ 128 ^ (min i l.length) * val (l.drop i) := Int.mul_le_mul_of_nonneg_right h3 h2.1
  omega
where
  Int.one_le_two_pow_aux (k : Nat) : (1 : Int) ≤ 128 ^ k := by
    induction k with
    | zero => simp
    | succ k ih => rw [Int.pow_succ]; omega

theorem val_drop (l : List Int) (i : Nat) (h : i < l.length) : val (l.drop i) = l[i] % 128 + 128 * val (l.drop (i + 1)) := by
  rw [List.drop_eq_getElem_cons h, val]

/-- A number that was read fits. -/
theorem val_fits (b : List Int) (k : Nat) (hk : k < b.length) (h9 : k ≤ 9) (hx : k = 9 → b[k] ≤ 1) (h0 : 0 ≤ b[k]) : val (b.take (k + 1)) ≤ 18446744073709551615 := by
  rw [List.take_succ_eq_append_getElem hk, val_snoc]
  have h1 := val_bd (b.take k)
  have hl : (b.take k).length = k := by simp; omega
  rw [hl] at h1 ⊢
  rcases (by omega : k = 0 ∨ k = 1 ∨ k = 2 ∨ k = 3 ∨ k = 4 ∨ k = 5 ∨ k = 6 ∨ k = 7 ∨ k = 8 ∨ k = 9) with rfl | rfl | rfl | rfl | rfl | rfl | rfl | rfl | rfl | rfl <;> simp at * <;> omega
end Go.Vint
namespace Go.Vint
theorem rd_ok (b : List Int) (h : (rd b).2.2 = 0) : ∃ k : Nat, k < b.length ∧ rd b = (val (b.take (k + 1)), (k : Int) + 1, 0) ∧ k = cont b ∧ k ≤ 9 ∧ (k = 9 → b.getD 9 0 ≤ 1) ∧ (0 < k → b.getD k 0 ≠ 0) := by
  have hc := cont_le b
  unfold rd at h ⊢
  simp only at h ⊢
  split at h
  · simp at h
  · split at h
    · simp at h
    · split at h
      · simp at h
      · split at h
        · simp at h
        · rename_i h1 h2 h3 h4
          refine ⟨cont b, by omega, ?_, rfl, by omega, fun h => ?_, fun h => ?_⟩
          · rw [if_neg h1, if_neg h2, if_neg h3, if_neg h4]
          · have : ¬ 1 < b.getD 9 0 := fun hh => h3 ⟨h, hh⟩
            omega
          · exact fun hh => h4 ⟨h, hh⟩

theorem rd_bd (b : List Int) (hb : ∀ x ∈ b, 0 ≤ x ∧ x ≤ 255) (h : (rd b).2.2 = 0) : 0 ≤ (rd b).1 ∧ (rd b).1 ≤ 18446744073709551615 := by
  obtain ⟨k, hk, he, _, h9, h91, _⟩ := rd_ok b h
  rw [he]
  refine ⟨(val_bd _).1, val_fits b k hk h9 (fun h => ?_) (hb _ (by simp)).1⟩
  subst h
  have := h91 rfl
  rw [List.getD_eq_getElem?_getD, List.getElem?_eq_getElem hk] at this
  simpa using this

/-- All numbers of bytes from a place on; fuel first. -/
def rowF : Nat → List Int → Nat → List Int → List Int × Int × Int
  | 0, _, _, _ => ([], 0, 0)
  | f + 1, b, p, acc => if p < b.length then (if (rd (b.drop p)).2.2 = 0 then rowF f b (p + (rd (b.drop p)).2.1.toNat) (acc ++ [(rd (b.drop p)).1]) else ([], p, (rd (b.drop p)).2.2)) else (acc, 0, 0)
def row (b : List Int) : List Int × Int × Int := rowF (b.length + 1) b 0 []

theorem rowF_end (f : Nat) (b : List Int) (p : Nat) (acc : List Int) (h : ¬ p < b.length) : rowF (f + 1) b p acc = (acc, 0, 0) := by rw [rowF, if_neg h]
theorem rowF_err (f : Nat) (b : List Int) (p : Nat) (acc : List Int) (h : p < b.length) (he : (rd (b.drop p)).2.2 ≠ 0) : rowF (f + 1) b p acc = ([], (p : Int), (rd (b.drop p)).2.2) := by rw [rowF, if_pos h, if_neg he]
theorem rowF_step (f : Nat) (b : List Int) (p : Nat) (acc : List Int) (h : p < b.length) (he : (rd (b.drop p)).2.2 = 0) : rowF (f + 1) b p acc = rowF f b (p + (rd (b.drop p)).2.1.toNat) (acc ++ [(rd (b.drop p)).1]) := by rw [rowF, if_pos h, if_pos he]
end Go.Vint
namespace Go.Vint
/-- The bytes of what was read are the bytes read. -/
theorem vb_val : ∀ (T : List Int) (x : Int), (∀ y ∈ T, 128 ≤ y ∧ y ≤ 255) → 0 ≤ x → x < 128 → (T ≠ [] → x ≠ 0) → vb (val (T ++ [x])) = T ++ [x] ∧ (T ≠ [] ∨ x ≠ 0 → 1 ≤ val (T ++ [x])) := by
  intro T
  induction T with
  | nil =>
    intro x _ h0 h1 _
    simp only [List.nil_append, val]
    have : x % 128 + 128 * 0 = x := by omega
    rw [this, vb_lo h1]
    exact ⟨rfl, fun h => by rcases h with h | h; exact absurd rfl h; omega⟩
  | cons y T ih =>
    intro x hT h0 h1 hx
    have hy := hT y (by simp)
    obtain ⟨i1, i2⟩ := ih x (fun z hz => hT z (by simp [hz])) h0 h1 (fun _ => hx (by simp))
    have h2 := i2 (.inr (hx (by simp)))
    simp only [List.cons_append, val]
    generalize val (T ++ [x]) = v at *
    rw [vb_hi (by omega)]
    have e1 : 128 + (y % 128 + 128 * v) % 128 = y := by omega
    have e2 : (y % 128 + 128 * v) / 128 = v := by omega
    rw [e1, e2, i1]
    exact ⟨rfl, fun _ => by omega⟩

theorem vb_rd (b : List Int) (hb : ∀ x ∈ b, 0 ≤ x ∧ x ≤ 255) (k : Nat) (hk : k < b.length) (hc : k = cont b) (h0 : 0 < k → b.getD k 0 ≠ 0) : vb (val (b.take (k + 1))) = b.take (k + 1) := by
  have hge : ∀ y ∈ b.take k, 128 ≤ y ∧ y ≤ 255 := by
    intro y hy
    obtain ⟨j, hj, rfl⟩ := List.mem_iff_getElem.1 hy
    have hjk : j < k := by simp at hj; omega
    have h1 := cont_lt b j (by omega)
    rw [List.getElem_take]
    rw [List.getD_eq_getElem?_getD, List.getElem?_eq_getElem (by omega)] at h1
    exact ⟨by simpa using h1, (hb _ (by simp)).2⟩
  have hlast : b[k] < 128 := by
    have := cont_end b (by omega)
    rw [← hc, List.getD_eq_getElem?_getD, List.getElem?_eq_getElem hk] at this
    simpa using this
  rw [List.take_succ_eq_append_getElem hk]
  refine (vb_val (b.take k) b[k] hge (hb _ (by simp)).1 hlast ?_).1
  intro hne
  have hk0 : 0 < k := by
    rcases Nat.eq_zero_or_pos k with h | h
    · subst h; simp at hne
    · exact h
  have := h0 hk0
  rwa [List.getD_eq_getElem?_getD, List.getElem?_eq_getElem hk] at this

/-- All numbers of bytes: told again they are the bytes; none has more than 64 bits. -/
theorem rowF_ok : ∀ (f : Nat) (b : List Int) (p : Nat) (acc : List Int), (∀ x ∈ b, 0 ≤ x ∧ x ≤ 255) → b.length < p + f → p ≤ b.length → vbs acc = b.take p → (∀ x ∈ acc, 0 ≤ x ∧ x ≤ 18446744073709551615) → acc.length ≤ p →
    (rowF f b p acc).2.2 = 0 → vbs (rowF f b p acc).1 = b ∧ (∀ x ∈ (rowF f b p acc).1, 0 ≤ x ∧ x ≤ 18446744073709551615) ∧ (rowF f b p acc).2.1 = 0 ∧ (rowF f b p acc).1.length ≤ b.length := by
  intro f
  induction f with
  | zero => intro b p acc _ h1 h2; omega
  | succ f ih =>
    intro b p acc hb h1 h2 h3 h4 h5 h6
    by_cases hlt : p < b.length
    · by_cases he : (rd (b.drop p)).2.2 = 0
      · rw [rowF_step _ _ _ _ hlt he] at h6 ⊢
        have hD : ∀ x ∈ b.drop p, 0 ≤ x ∧ x ≤ 255 := fun x hx => hb x (List.mem_of_mem_drop hx)
        have hbd := rd_bd _ hD he
        obtain ⟨m, hm, hr, hc, -, -, hz⟩ := rd_ok _ he
        have hv := vb_rd _ hD m hm hc hz
        rw [hr] at h6 ⊢ hbd
        simp only at h6 ⊢ hbd
        have hl : (b.drop p).length = b.length - p := by simp
        refine ih b _ _ hb (by omega) (by omega) ?_ ?_ (by simp; omega) h6
        · rw [vbs_append, h3]
          have : vbs [val ((b.drop p).take (m + 1))] = vb (val ((b.drop p).take (m + 1))) := by simp [vbs]
          have e : ((m : Int) + 1).toNat = m + 1 := by omega
          rw [this, hv, e]; exact List.take_add.symm
        · intro x hx
          simp only [List.mem_append, List.mem_singleton] at hx
          rcases hx with hx | rfl
          · exact h4 x hx
          · exact hbd
      · rw [rowF_err _ _ _ _ hlt he] at h6; exact absurd h6 he
    · rw [rowF_end _ _ _ _ hlt]
      obtain rfl : p = b.length := by omega
      exact ⟨by simpa using h3, h4, rfl, h5⟩

theorem row_ok (b : List Int) (hb : ∀ x ∈ b, 0 ≤ x ∧ x ≤ 255) (h : (row b).2.2 = 0) : vbs (row b).1 = b ∧ (∀ x ∈ (row b).1, 0 ≤ x ∧ x ≤ 18446744073709551615) ∧ (row b).2.1 = 0 ∧ (row b).1.length ≤ b.length :=
  rowF_ok _ _ _ _ hb (by omega) (Nat.zero_le _) (by simp [vbs]) (by simp) (Nat.zero_le _) h

theorem rowF_len : ∀ (f : Nat) (b : List Int) (p : Nat) (acc : List Int), b.length < p + f → p ≤ b.length → acc.length ≤ p → (rowF f b p acc).1.length ≤ b.length := by
  intro f
  induction f with
  | zero => intro b p acc h1 h2; omega
  | succ f ih =>
    intro b p acc h1 h2 h5
    by_cases hlt : p < b.length
    · by_cases he : (rd (b.drop p)).2.2 = 0
      · rw [rowF_step _ _ _ _ hlt he]
        obtain ⟨m, hm, hr, -⟩ := rd_ok _ he
        rw [hr]
        have hl : (b.drop p).length = b.length - p := by simp
        exact ih b _ _ (by simp only; omega) (by simp only; omega) (by simp; omega)
      · rw [rowF_err _ _ _ _ hlt he]; simp
    · rw [rowF_end _ _ _ _ hlt]; simp only; omega
theorem row_len (b : List Int) : (row b).1.length ≤ b.length := rowF_len _ _ _ _ (by omega) (Nat.zero_le _) (Nat.zero_le _)
end Go.Vint
namespace Go.Vint
/-- How the bytes of a number end. -/
theorem vb_form : ∀ (n : Int), 0 ≤ n → ∃ T x, vb n = T ++ [x] ∧ (∀ y ∈ T, 128 ≤ y) ∧ 0 ≤ x ∧ x < 128 ∧ (T ≠ [] → x ≠ 0) ∧ val (T ++ [x]) = n := by
  have key : ∀ k : Nat, ∀ n : Int, n.toNat ≤ k → 0 ≤ n → ∃ T x, vb n = T ++ [x] ∧ (∀ y ∈ T, 128 ≤ y) ∧ 0 ≤ x ∧ x < 128 ∧ (T ≠ [] → x ≠ 0) ∧ val (T ++ [x]) = n := by
    intro k
    induction k with
    | zero => intro n hk h0; exact ⟨[], n, by rw [vb_lo (by omega)]; rfl, by simp, h0, by omega, by simp, by simp [val]; omega⟩
    | succ k ih =>
      intro n hk h0
      by_cases h1 : n < 128
      · exact ⟨[], n, by rw [vb_lo h1]; rfl, by simp, h0, by omega, by simp, by simp [val]; omega⟩
      · obtain ⟨T, x, e, hT, hx0, hx1, hne, hv⟩ := ih (n / 128) (by omega) (by omega)
        refine ⟨(128 + n % 128) :: T, x, by rw [vb_hi h1, e]; rfl, ?_, hx0, hx1, ?_, ?_⟩
        · intro y hy
          simp only [List.mem_cons] at hy
          rcases hy with rfl | hy
          · omega
          · exact hT y hy
        · intro _
          by_cases hT0 : T = []
          · subst hT0
            simp [val] at hv
            omega
          · exact hne hT0
        · simp only [List.cons_append, val, hv]; omega
  exact fun n => key n.toNat n (Nat.le_refl _)

theorem rd_vb (n : Int) (h0 : 0 ≤ n) (h1 : n ≤ 18446744073709551615) (t : List Int) : rd (vb n ++ t) = (n, ((vb n).length : Int), 0) := by
  obtain ⟨T, x, e, hT, hx0, hx1, hne, hv⟩ := vb_form n h0
  have hl := vb_len10 n h1
  rw [e] at hl ⊢
  simp only [List.length_append, List.length_cons, List.length_nil] at hl
  have hk : (T ++ [x] ++ t).getD T.length 0 = x := by simp [List.getD_eq_getElem?_getD]
  have h9 : T.length = 9 → x ≤ 1 := by
    intro h
    rw [val_snoc, h] at hv
    have := val_bd T
    simp at hv
    omega
  rw [rd_at (T ++ [x] ++ t) T.length (by omega) ?_ (by simp) (by rw [hk]; exact hx1)]
  · rw [hk, if_neg ?_, if_neg ?_]
    · have : (T ++ [x] ++ t).take (T.length + 1) = T ++ [x] := by
        have h := List.take_left (l₁ := T ++ [x]) (l₂ := t)
        simpa using h
      rw [this, hv]
      simp
    · rintro ⟨hp, hx⟩
      exact hne (by intro h; subst h; simp at hp) hx
    · rintro ⟨hp, hx⟩
      rw [← hp, hk] at hx
      have := h9 hp
      omega
  · intro j hj
    have : (T ++ [x] ++ t).getD j 0 = T[j] := by simp [List.getD_eq_getElem?_getD, List.getElem?_append, hj]
    rw [this]
    exact hT _ (by simp)

theorem rowF_vbs : ∀ (L acc : List Int) (f : Nat), L.length < f → (∀ x ∈ L, 0 ≤ x ∧ x ≤ 18446744073709551615) → rowF f (vbs acc ++ vbs L) (vbs acc).length acc = (acc ++ L, 0, 0) := by
  intro L
  induction L with
  | nil =>
    intro acc f hf _
    obtain ⟨f, rfl⟩ : ∃ g, f = g + 1 := ⟨f - 1, by simp at hf; omega⟩
    rw [rowF_end _ _ _ _ (by simp [vbs])]
    simp
  | cons x L ih =>
    intro acc f hf hb
    simp only [List.length_cons] at hf
    obtain ⟨f, rfl⟩ : ∃ g, f = g + 1 := ⟨f - 1, by omega⟩
    have hx := hb x (by simp)
    have hp := vb_pos x
    have hc : vbs (x :: L) = vb x ++ vbs L := by simp [vbs]
    have hd : (vbs acc ++ vbs (x :: L)).drop (vbs acc).length = vb x ++ vbs L := by rw [List.drop_left, hc]
    have hr := rd_vb x hx.1 hx.2 (vbs L)
    have hlt : (vbs acc).length < (vbs acc ++ vbs (x :: L)).length := by rw [hc]; simp; omega
    rw [rowF_step _ _ _ _ hlt (by rw [hd, hr]), hd, hr]
    simp only [Int.toNat_natCast]
    have h1 : vbs acc ++ vbs (x :: L) = vbs (acc ++ [x]) ++ vbs L := by rw [vbs_snoc, hc, List.append_assoc]
    have h2 : (vbs acc).length + (vb x).length = (vbs (acc ++ [x])).length := by rw [vbs_snoc, List.length_append]
    rw [h1, h2, ih (acc ++ [x]) f (by omega) (fun y hy => hb y (by simp [hy]))]
    simp

theorem vbs_len_ge (L : List Int) : L.length ≤ (vbs L).length := by
  induction L with
  | nil => simp
  | cons x L ih =>
    have hp := vb_pos x
    have hc : vbs (x :: L) = vb x ++ vbs L := by simp [vbs]
    rw [hc, List.length_append, List.length_cons]
    omega

theorem row_vbs (L : List Int) (hb : ∀ x ∈ L, 0 ≤ x ∧ x ≤ 18446744073709551615) : row (vbs L) = (L, 0, 0) := by
  have := rowF_vbs L [] ((vbs L).length + 1) (by have := vbs_len_ge L; omega) hb
  simpa [row, vbs] using this

theorem vbs_bd (L : List Int) (hb : ∀ x ∈ L, 0 ≤ x ∧ x ≤ 18446744073709551615) : ∀ x ∈ vbs L, 0 ≤ x ∧ x ≤ 255 := by
  intro x hx
  simp only [vbs, List.mem_flatMap] at hx
  obtain ⟨y, hy, hx⟩ := hx
  exact vb_bd y (hb y hy).1 x hx
end Go.Vint

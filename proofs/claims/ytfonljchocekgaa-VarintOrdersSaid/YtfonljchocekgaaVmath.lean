/-
  The bytes of numbers: plain functions on lists of integers, and what they obey.
-/
namespace Go.Vint

/-- The bytes of a number: seven bits a byte, the lowest first. -/
def vb (n : Int) : List Int := if n < 128 then [n] else (128 + n % 128) :: vb (n / 128)
termination_by n.toNat
decreasing_by omega

theorem vb_lo {n : Int} (h : n < 128) : vb n = [n] := by rw [vb, if_pos h]
theorem vb_hi {n : Int} (h : ¬ n < 128) : vb n = (128 + n % 128) :: vb (n / 128) := by rw [vb, if_neg h]

theorem vb_ne (n : Int) : vb n ≠ [] := by
  rw [vb]; split <;> simp

theorem vb_pos (n : Int) : 1 ≤ (vb n).length := by
  have := vb_ne n
  cases h : vb n with
  | nil => exact absurd h this
  | cons a l => simp

/-- How many bytes: at most k where the number is below 128 ^ k. -/
theorem vb_len (k : Nat) : ∀ n : Int, n < 128 ^ (k + 1) → (vb n).length ≤ k + 1 := by
  induction k with
  | zero => intro n h; rw [vb_lo (by simpa using h)]; simp
  | succ k ih =>
    intro n h
    by_cases h1 : n < 128
    · rw [vb_lo h1]; simp
    · rw [vb_hi h1, List.length_cons]
      have h2 : n / 128 < 128 ^ (k + 1) := by
        refine Int.ediv_lt_of_lt_mul (by omega) ?_
        rw [Int.pow_succ] at h; exact h
      have := ih _ h2
      omega

theorem vb_len10 (n : Int) (h : n ≤ 18446744073709551615) : (vb n).length ≤ 10 :=
  vb_len 9 n (by simp; omega)

theorem vb_bd (n : Int) (h0 : 0 ≤ n) : ∀ x ∈ vb n, 0 ≤ x ∧ x ≤ 255 := by
  have key : ∀ k : Nat, ∀ n : Int, 0 ≤ n → n.toNat ≤ k → ∀ x ∈ vb n, 0 ≤ x ∧ x ≤ 255 := by
    intro k
    induction k with
    | zero => intro n h0 hk x hx; rw [vb_lo (by omega)] at hx; simp at hx; omega
    | succ k ih =>
      intro n h0 hk x hx
      by_cases h1 : n < 128
      · rw [vb_lo h1] at hx; simp at hx; omega
      · rw [vb_hi h1] at hx
        simp only [List.mem_cons] at hx
        rcases hx with rfl | hx
        · omega
        · exact ih (n / 128) (by omega) (by omega) x hx
  exact key n.toNat n h0 (Nat.le_refl _)

/-- The bytes of numbers, one behind the other. -/
def vbs (l : List Int) : List Int := l.flatMap vb

theorem vbs_append (a b : List Int) : vbs (a ++ b) = vbs a ++ vbs b := by simp [vbs]
theorem vbs_snoc (a : List Int) (x : Int) : vbs (a ++ [x]) = vbs a ++ vb x := by simp [vbs]

theorem vbs_len (l : List Int) (h : ∀ x ∈ l, x ≤ 18446744073709551615) : (vbs l).length ≤ 10 * l.length := by
  induction l with
  | nil => simp [vbs]
  | cons x l ih =>
    have h1 := vb_len10 x (h x (by simp))
    have h2 := ih (fun y hy => h y (by simp [hy]))
    simp only [vbs, List.flatMap_cons, List.length_append, List.length_cons] at *
    omega
end Go.Vint
namespace Go.Vint
/-- How many bytes at the beginning go on. -/
def cont : List Int → Nat
  | [] => 0
  | x :: l => if 128 ≤ x then cont l + 1 else 0
/-- The number that seven bits a byte make. -/
def val : List Int → Int
  | [] => 0
  | x :: l => x % 128 + 128 * val l
/-- The number that bytes begin with, how many these are, the error. -/
def rd (b : List Int) : Int × Int × Int :=
  let k := cont b
  if 10 ≤ k then (0, 0, 5) else if k = b.length then (0, 0, 4) else if k = 9 ∧ 1 < b.getD 9 0 then (0, 0, 5) else if 0 < k ∧ b.getD k 0 = 0 then (0, 0, 3) else (val (b.take (k + 1)), (k : Int) + 1, 0)

theorem cont_le (b : List Int) : cont b ≤ b.length := by
  induction b with
  | nil => simp [cont]
  | cons x l ih => simp only [cont, List.length_cons]; split <;> omega

/-- The first byte that does not go on. -/
theorem cont_at (b : List Int) (k : Nat) (h : ∀ j, j < k → 128 ≤ b.getD j 0) (hk : k < b.length) (hx : b.getD k 0 < 128) : cont b = k := by
  induction b generalizing k with
  | nil => simp at hk
  | cons x l ih =>
    cases k with
    | zero => simp only [List.getD_cons_zero] at hx; simp only [cont]; rw [if_neg (by omega)]
    | succ k =>
      have h0 := h 0 (by omega)
      simp only [List.getD_cons_zero] at h0
      simp only [cont]
      rw [if_pos h0, ih k (fun j hj => by simpa using h (j + 1) (by omega)) (by simpa using hk) (by simpa using hx)]

theorem cont_all (b : List Int) (h : ∀ j, j < b.length → 128 ≤ b.getD j 0) : cont b = b.length := by
  induction b with
  | nil => simp [cont]
  | cons x l ih =>
    have h0 := h 0 (by simp)
    simp only [List.getD_cons_zero] at h0
    simp only [cont, List.length_cons]
    rw [if_pos h0, ih (fun j hj => by simpa using h (j + 1) (by simpa using hj))]

theorem cont_ge (b : List Int) (k : Nat) (hk : k ≤ b.length) (h : ∀ j, j < k → 128 ≤ b.getD j 0) : k ≤ cont b := by
  induction b generalizing k with
  | nil => simp at hk; omega
  | cons x l ih =>
    cases k with
    | zero => omega
    | succ k =>
      have h0 := h 0 (by omega)
      simp only [List.getD_cons_zero] at h0
      simp only [cont]
      rw [if_pos h0]
      have := ih k (by simpa using hk) (fun j hj => by simpa using h (j + 1) (by omega))
      omega

theorem cont_lt (b : List Int) (k : Nat) (h : k < cont b) : 128 ≤ b.getD k 0 := by
  induction b generalizing k with
  | nil => simp [cont] at h
  | cons x l ih =>
    simp only [cont] at h
    split at h
    · rename_i hx
      cases k with
      | zero => simpa using hx
      | succ k => simpa using ih k (by omega)
    · omega

theorem cont_end (b : List Int) (h : cont b < b.length) : b.getD (cont b) 0 < 128 := by
  induction b with
  | nil => simp [cont] at h
  | cons x l ih =>
    simp only [cont] at h ⊢
    split
    · rename_i hx
      rw [if_pos hx] at h
      simp only [List.length_cons] at h
      simpa using ih (by omega)
    · simp; omega

theorem val_snoc (l : List Int) (x : Int) : val (l ++ [x]) = val l + 128 ^ l.length * (x % 128) := by
  induction l with
  | nil => simp [val]
  | cons y l ih =>
    simp only [List.cons_append, val, ih, List.length_cons, Int.pow_succ]
    rw [Int.mul_add, ← Int.mul_assoc, Int.mul_comm 128 (128 ^ l.length)]
    omega

theorem val_bd (l : List Int) : 0 ≤ val l ∧ val l < 128 ^ l.length := by
  induction l with
  | nil => simp [val]
  | cons x l ih =>
    simp only [val, List.length_cons, Int.pow_succ]
    omega

theorem rd_range (b : List Int) (hk : 10 ≤ b.length) (h : ∀ j, j < 10 → 128 ≤ b.getD j 0) : rd b = (0, 0, 5) := by
  have := cont_ge b 10 hk h
  simp [rd, this]

theorem rd_end (b : List Int) (h : ∀ j, j < b.length → 128 ≤ b.getD j 0) (hk : b.length < 10) : rd b = (0, 0, 4) := by
  have := cont_all b h
  simp [rd, this]
  omega

theorem rd_at (b : List Int) (k : Nat) (hk9 : k < 10) (h : ∀ j, j < k → 128 ≤ b.getD j 0) (hk : k < b.length) (hx : b.getD k 0 < 128) :
    rd b = if k = 9 ∧ 1 < b.getD 9 0 then (0, 0, 5) else if 0 < k ∧ b.getD k 0 = 0 then (0, 0, 3) else (val (b.take (k + 1)), (k : Int) + 1, 0) := by
  have := cont_at b k h hk hx
  simp only [rd, this]
  rw [if_neg (by omega), if_neg (by omega)]
end Go.Vint
namespace Go.Vint
/-- A signed number, turned; and back. -/
def zig (n : Int) : Int := if n < 0 then -2 * n - 1 else 2 * n
def zag (u : Int) : Int := if u % 2 = 1 then -(u / 2) - 1 else u / 2
theorem zag_zig (n : Int) : zag (zig n) = n := by unfold zag zig; split <;> split <;> omega
theorem zig_zag (u : Int) (h : 0 ≤ u) : zig (zag u) = u := by unfold zag zig; split <;> split <;> omega
theorem zig_bd (n : Int) (h0 : -9223372036854775808 ≤ n) (h1 : n ≤ 9223372036854775807) : 0 ≤ zig n ∧ zig n ≤ 18446744073709551615 := by unfold zig; split <;> omega
theorem zag_bd (u : Int) (h0 : 0 ≤ u) (h1 : u ≤ 18446744073709551615) : -9223372036854775808 ≤ zag u ∧ zag u ≤ 9223372036854775807 := by unfold zag; split <;> omega
end Go.Vint
namespace Go.Vint
theorem vb_mono : ∀ (b a : Int), a ≤ b → (vb a).length ≤ (vb b).length := by
  have key : ∀ k : Nat, ∀ (b a : Int), b.toNat ≤ k → a ≤ b → (vb a).length ≤ (vb b).length := by
    intro k
    induction k with
    | zero => intro b a hb hab; rw [vb_lo (n := a) (by omega)]; exact vb_pos b
    | succ k ih =>
      intro b a hb hab
      by_cases ha : a < 128
      · rw [vb_lo ha]; exact vb_pos b
      · rw [vb_hi ha, vb_hi (n := b) (by omega)]
        have := ih (b / 128) (a / 128) (by omega) (by omega)
        simpa using this
  exact fun b a => key b.toNat b a (Nat.le_refl _)

/-- All but the last byte of a number go on. -/
theorem vb_cont : ∀ (n : Int), 0 ≤ n → ∀ j, j + 1 < (vb n).length → 128 ≤ (vb n).getD j 0 := by
  have key : ∀ k : Nat, ∀ n : Int, n.toNat ≤ k → 0 ≤ n → ∀ j, j + 1 < (vb n).length → 128 ≤ (vb n).getD j 0 := by
    intro k
    induction k with
    | zero => intro n hn h0 j hj; rw [vb_lo (n := n) (by omega)] at hj; simp at hj
    | succ k ih =>
      intro n hn h0 j hj
      by_cases h1 : n < 128
      · rw [vb_lo h1] at hj; simp at hj
      · rw [vb_hi h1] at hj ⊢
        cases j with
        | zero => simp; omega
        | succ j => simpa using ih (n / 128) (by omega) (by omega) j (by simpa using hj)
  exact fun n => key n.toNat n (Nat.le_refl _)

/-- A number cut short is refused: the end. -/
theorem rd_cut (n : Int) (h0 : 0 ≤ n) (h1 : n ≤ 18446744073709551615) (k : Nat) (hk : k < (vb n).length) : rd ((vb n).take k) = (0, 0, 4) := by
  have hl := vb_len10 n h1
  have hlen : ((vb n).take k).length = k := by simp; omega
  refine rd_end _ ?_ (by omega)
  intro j hj
  rw [hlen] at hj
  have := vb_cont n h0 j (by omega)
  rw [List.getD_eq_getElem?_getD, List.getElem?_take, if_pos hj]
  rwa [List.getD_eq_getElem?_getD] at this
end Go.Vint

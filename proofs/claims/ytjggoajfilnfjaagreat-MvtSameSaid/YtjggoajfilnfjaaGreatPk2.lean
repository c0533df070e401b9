/-
  The bytes of numbers: plain functions on lists of integers, and what they obey. Bits of bytes and words, as arithmetic. varint.Read. Fields of messages: plain functions, and what they obey.
-/
import Derived.WalkKit
import Derived.Lib.EndianBits
import Derived.Lib.Zigzag
import Derived.Test.YtjggoajfilnfjaaGreatProg
import Derived.Test.YtjggoajfilnfjaaGreatPk1
/- The bytes of numbers: plain functions on lists of integers, and what they obey. -/
namespace Go.Vint

def vb (n : Int) : List Int := if n < 128 then [n] else (128 + n % 128) :: vb (n / 128)
termination_by n.toNat
decreasing_by omega

theorem vb_lo {n : Int} (h : n < 128) : vb n = [n] := by rw [vb, if_pos h]
theorem vb_hi {n : Int} (h : ¬ n < 128) : vb n = (128 + n % 128) :: vb (n / 128) := by rw [vb, if_neg h]

theorem vb_ne (n : Int) : vb n ≠ [] := by
  rw [vb]; split <;> simp

theorem vb_pos (n : Int) : 1 ≤ (vb n).length := by
  have := vb_ne n
  cases h : vb n with
  | nil => exact absurd h this
  | cons a l => simp

theorem vb_len (k : Nat) : ∀ n : Int, n < 128 ^ (k + 1) → (vb n).length ≤ k + 1 := by
  induction k with
  | zero => intro n h; rw [vb_lo (by simpa using h)]; simp
  | succ k ih =>
    intro n h
    by_cases h1 : n < 128
    · rw [vb_lo h1]; simp
    · rw [vb_hi h1, List.length_cons]; have h2 : n / 128 < 128 ^ (k + 1) := by
        refine Int.ediv_lt_of_lt_mul (by omega) ?_; rw [Int.pow_succ] at h; exact h
      have := ih _ h2; omega

theorem vb_len10 (n : Int) (h : n ≤ 18446744073709551615) : (vb n).length ≤ 10 :=
  vb_len 9 n (by simp; omega)

theorem vb_bd (n : Int) (h0 : 0 ≤ n) : ∀ x ∈ vb n, 0 ≤ x ∧ x ≤ 255 := by
  have key : ∀ k : Nat, ∀ n : Int, 0 ≤ n → n.toNat ≤ k → ∀ x ∈ vb n, 0 ≤ x ∧ x ≤ 255 := by
    intro k
    induction k with
    | zero => intro n h0 hk x hx; rw [vb_lo (by omega)] at hx; simp at hx; omega
    | succ k ih =>
      intro n h0 hk x hx
      by_cases h1 : n < 128
      · rw [vb_lo h1] at hx; simp at hx; omega
      · rw [vb_hi h1] at hx; simp only [List.mem_cons] at hx
        rcases hx with rfl | hx
        · omega
        · exact ih (n / 128) (by omega) (by omega) x hx
  exact key n.toNat n h0 (Nat.le_refl _)

def vbs (l : List Int) : List Int := l.flatMap vb

theorem vbs_append (a b : List Int) : vbs (a ++ b) = vbs a ++ vbs b := by simp [vbs]
theorem vbs_snoc (a : List Int) (x : Int) : vbs (a ++ [x]) = vbs a ++ vb x := by simp [vbs]

theorem vbs_len (l : List Int) (h : ∀ x ∈ l, x ≤ 18446744073709551615) : (vbs l).length ≤ 10 * l.length := by
  induction l with
  | nil => simp [vbs]
  | cons x l ih =>
    have h1 := vb_len10 x (h x (by simp)); have h2 := ih (fun y hy => h y (by simp [hy])); simp only [vbs, List.flatMap_cons, List.length_append, List.length_cons] at *; omega
end Go.Vint
namespace Go.Vint
def cont : List Int → Nat
  | [] => 0
  | x :: l => if 128 ≤ x then cont l + 1 else 0
def val : List Int → Int
  | [] => 0
  | x :: l => x % 128 + 128 * val l
def rd (b : List Int) : Int × Int × Int :=
  let k := cont b
  if 10 ≤ k then (0, 0, 5) else if k = b.length then (0, 0, 4) else if k = 9 ∧ 1 < b.getD 9 0 then (0, 0, 5) else if 0 < k ∧ b.getD k 0 = 0 then (0, 0, 3) else (val (b.take (k + 1)), (k : Int) + 1, 0)

theorem cont_le (b : List Int) : cont b ≤ b.length := by
  induction b with
  | nil => simp [cont]
  | cons x l ih => simp only [cont, List.length_cons]; split <;> omega

theorem cont_at (b : List Int) (k : Nat) (h : ∀ j, j < k → 128 ≤ b.getD j 0) (hk : k < b.length) (hx : b.getD k 0 < 128) : cont b = k := by
  induction b generalizing k with
  | nil => simp at hk
  | cons x l ih =>
    cases k with
    | zero => simp only [List.getD_cons_zero] at hx; simp only [cont]; rw [if_neg (by omega)]
    | succ k =>
      have h0 := h 0 (by omega); simp only [List.getD_cons_zero] at h0; simp only [cont]; rw [if_pos h0, ih k (fun j hj => by simpa using h (j + 1) (by omega)) (by simpa using hk) (by simpa using hx)]

theorem cont_all (b : List Int) (h : ∀ j, j < b.length → 128 ≤ b.getD j 0) : cont b = b.length := by
  induction b with
  | nil => simp [cont]
  | cons x l ih =>
    have h0 := h 0 (by simp); simp only [List.getD_cons_zero] at h0; simp only [cont, List.length_cons]; rw [if_pos h0, ih (fun j hj => by simpa using h (j + 1) (by simpa using hj))]

theorem cont_ge (b : List Int) (k : Nat) (hk : k ≤ b.length) (h : ∀ j, j < k → 128 ≤ b.getD j 0) : k ≤ cont b := by
  induction b generalizing k with
  | nil => simp at hk; omega
  | cons x l ih =>
    cases k with
    | zero => omega
    | succ k =>
      have h0 := h 0 (by omega); simp only [List.getD_cons_zero] at h0; simp only [cont]; rw [if_pos h0]; have := ih k (by simpa using hk) (fun j hj => by simpa using h (j + 1) (by omega)); omega

theorem cont_lt (b : List Int) (k : Nat) (h : k < cont b) : 128 ≤ b.getD k 0 := by
  induction b generalizing k with
  | nil => simp [cont] at h
  | cons x l ih =>
    simp only [cont] at h
    split at h
    · rename_i hx
      cases k with
      | zero => simpa using hx
      | succ k => simpa using ih k (by omega)
    · omega

theorem cont_end (b : List Int) (h : cont b < b.length) : b.getD (cont b) 0 < 128 := by
  induction b with
  | nil => simp [cont] at h
  | cons x l ih =>
    simp only [cont] at h ⊢
    split
    · rename_i hx; rw [if_pos hx] at h; simp only [List.length_cons] at h
      simpa using ih (by omega)
    · simp; omega

theorem val_snoc (l : List Int) (x : Int) : val (l ++ [x]) = val l + 128 ^ l.length * (x % 128) := by
  induction l with
  | nil => simp [val]
  | cons y l ih =>
    simp only [List.cons_append, val, ih, List.length_cons, Int.pow_succ]; rw [Int.mul_add, ← Int.mul_assoc, Int.mul_comm 128 (128 ^ l.length)]; omega

theorem val_bd (l : List Int) : 0 ≤ val l ∧ val l < 128 ^ l.length := by
  induction l with
  | nil => simp [val]
  | cons x l ih =>
    simp only [val, List.length_cons, Int.pow_succ]; omega

theorem rd_range (b : List Int) (hk : 10 ≤ b.length) (h : ∀ j, j < 10 → 128 ≤ b.getD j 0) : rd b = (0, 0, 5) := by
  have := cont_ge b 10 hk h; simp [rd, this]

theorem rd_end (b : List Int) (h : ∀ j, j < b.length → 128 ≤ b.getD j 0) (hk : b.length < 10) : rd b = (0, 0, 4) := by
  have := cont_all b h; simp [rd, this]; omega

theorem rd_at (b : List Int) (k : Nat) (hk9 : k < 10) (h : ∀ j, j < k → 128 ≤ b.getD j 0) (hk : k < b.length) (hx : b.getD k 0 < 128) :
    rd b = if k = 9 ∧ 1 < b.getD 9 0 then (0, 0, 5) else if 0 < k ∧ b.getD k 0 = 0 then (0, 0, 3) else (val (b.take (k + 1)), (k : Int) + 1, 0) := by
  have := cont_at b k h hk hx; simp only [rd, this]; rw [if_neg (by omega), if_neg (by omega)]
end Go.Vint
namespace Go.Vint
def zig (n : Int) : Int := if n < 0 then -2 * n - 1 else 2 * n
def zag (u : Int) : Int := if u % 2 = 1 then -(u / 2) - 1 else u / 2
theorem zag_zig (n : Int) : zag (zig n) = n := by unfold zag zig; split <;> split <;> omega
theorem zig_zag (u : Int) (h : 0 ≤ u) : zig (zag u) = u := by unfold zag zig; split <;> split <;> omega
theorem zig_bd (n : Int) (h0 : -9223372036854775808 ≤ n) (h1 : n ≤ 9223372036854775807) : 0 ≤ zig n ∧ zig n ≤ 18446744073709551615 := by unfold zig; split <;> omega
theorem zag_bd (u : Int) (h0 : 0 ≤ u) (h1 : u ≤ 18446744073709551615) : -9223372036854775808 ≤ zag u ∧ zag u ≤ 9223372036854775807 := by unfold zag; split <;> omega
end Go.Vint
namespace Go.Vint
theorem vb_mono : ∀ (b a : Int), a ≤ b → (vb a).length ≤ (vb b).length := by
  have key : ∀ k : Nat, ∀ (b a : Int), b.toNat ≤ k → a ≤ b → (vb a).length ≤ (vb b).length := by
    intro k
    induction k with
    | zero => intro b a hb hab; rw [vb_lo (n := a) (by omega)]; exact vb_pos b
    | succ k ih =>
      intro b a hb hab
      by_cases ha : a < 128
      · rw [vb_lo ha]; exact vb_pos b
      · rw [vb_hi ha, vb_hi (n := b) (by omega)]; have := ih (b / 128) (a / 128) (by omega) (by omega)
        simpa using this
  exact fun b a => key b.toNat b a (Nat.le_refl _)

theorem vb_cont : ∀ (n : Int), 0 ≤ n → ∀ j, j + 1 < (vb n).length → 128 ≤ (vb n).getD j 0 := by
  have key : ∀ k : Nat, ∀ n : Int, n.toNat ≤ k → 0 ≤ n → ∀ j, j + 1 < (vb n).length → 128 ≤ (vb n).getD j 0 := by
    intro k
    induction k with
    | zero => intro n hn h0 j hj; rw [vb_lo (n := n) (by omega)] at hj; simp at hj
    | succ k ih =>
      intro n hn h0 j hj
      by_cases h1 : n < 128
      · rw [vb_lo h1] at hj; simp at hj
      · rw [vb_hi h1] at hj ⊢
        cases j with
        | zero => simp; omega
        | succ j => simpa using ih (n / 128) (by omega) (by omega) j (by simpa using hj)
  exact fun n => key n.toNat n (Nat.le_refl _)

theorem rd_cut (n : Int) (h0 : 0 ≤ n) (h1 : n ≤ 18446744073709551615) (k : Nat) (hk : k < (vb n).length) : rd ((vb n).take k) = (0, 0, 4) := by
  have hl := vb_len10 n h1; have hlen : ((vb n).take k).length = k := by simp; omega
  refine rd_end _ ?_ (by omega); intro j hj; rw [hlen] at hj; have := vb_cont n h0 j (by omega); rw [List.getD_eq_getElem?_getD, List.getElem?_take, if_pos hj]
  rwa [List.getD_eq_getElem?_getD] at this
end Go.Vint
namespace Go.Vint
theorem val_split (l : List Int) (i : Nat) : val l = val (l.take i) + 128 ^ (min i l.length) * val (l.drop i) := by
  induction l generalizing i with
  | nil => simp [val]
  | cons x l ih =>
    cases i with
    | zero => simp [val]
    | succ i =>
      have h : min (i + 1) (l.length + 1) = min i l.length + 1 := by omega
      simp only [List.take_succ_cons, List.drop_succ_cons, val, List.length_cons, h]; rw [ih i, Int.pow_succ, Int.mul_comm (128 ^ (min i l.length)) 128, Int.mul_assoc, Int.mul_add, Int.add_assoc]

theorem val_drop_le (l : List Int) (i : Nat) : val (l.drop i) ≤ val l := by
  rw [val_split l i]; have h1 := val_bd (l.take i); have h2 := val_bd (l.drop i); have h3 : (1 : Int) ≤ 128 ^ (min i l.length) := Int.one_le_two_pow_aux _; have h4 : 1 * val (l.drop i) ≤ 128 ^ (min i l.length) * val (l.drop i) := Int.mul_le_mul_of_nonneg_right h3 h2.1; omega
where
  Int.one_le_two_pow_aux (k : Nat) : (1 : Int) ≤ 128 ^ k := by
    induction k with
    | zero => simp
    | succ k ih => rw [Int.pow_succ]; omega

theorem val_drop (l : List Int) (i : Nat) (h : i < l.length) : val (l.drop i) = l[i] % 128 + 128 * val (l.drop (i + 1)) := by
  rw [List.drop_eq_getElem_cons h, val]

theorem val_fits (b : List Int) (k : Nat) (hk : k < b.length) (h9 : k ≤ 9) (hx : k = 9 → b[k] ≤ 1) (h0 : 0 ≤ b[k]) : val (b.take (k + 1)) ≤ 18446744073709551615 := by
  rw [List.take_succ_eq_append_getElem hk, val_snoc]; have h1 := val_bd (b.take k); have hl : (b.take k).length = k := by simp; omega
  rw [hl] at h1 ⊢
  rcases (by omega : k = 0 ∨ k = 1 ∨ k = 2 ∨ k = 3 ∨ k = 4 ∨ k = 5 ∨ k = 6 ∨ k = 7 ∨ k = 8 ∨ k = 9) with rfl | rfl | rfl | rfl | rfl | rfl | rfl | rfl | rfl | rfl <;> simp at * <;> omega
end Go.Vint
namespace Go.Vint
theorem rd_ok (b : List Int) (h : (rd b).2.2 = 0) : ∃ k : Nat, k < b.length ∧ rd b = (val (b.take (k + 1)), (k : Int) + 1, 0) ∧ k = cont b ∧ k ≤ 9 ∧ (k = 9 → b.getD 9 0 ≤ 1) ∧ (0 < k → b.getD k 0 ≠ 0) := by
  have hc := cont_le b; unfold rd at h ⊢; simp only at h ⊢
  split at h
  · simp at h
  · split at h
    · simp at h
    · split at h
      · simp at h
      · split at h
        · simp at h
        · rename_i h1 h2 h3 h4; refine ⟨cont b, by omega, ?_, rfl, by omega, fun h => ?_, fun h => ?_⟩
          · rw [if_neg h1, if_neg h2, if_neg h3, if_neg h4]
          · have : ¬ 1 < b.getD 9 0 := fun hh => h3 ⟨h, hh⟩; omega
          · exact fun hh => h4 ⟨h, hh⟩

theorem rd_bd (b : List Int) (hb : ∀ x ∈ b, 0 ≤ x ∧ x ≤ 255) (h : (rd b).2.2 = 0) : 0 ≤ (rd b).1 ∧ (rd b).1 ≤ 18446744073709551615 := by
  obtain ⟨k, hk, he, _, h9, h91, _⟩ := rd_ok b h; rw [he]; refine ⟨(val_bd _).1, val_fits b k hk h9 (fun h => ?_) (hb _ (by simp)).1⟩; subst h; have := h91 rfl; rw [List.getD_eq_getElem?_getD, List.getElem?_eq_getElem hk] at this
  simpa using this

def rowF : Nat → List Int → Nat → List Int → List Int × Int × Int
  | 0, _, _, _ => ([], 0, 0)
  | f + 1, b, p, acc => if p < b.length then (if (rd (b.drop p)).2.2 = 0 then rowF f b (p + (rd (b.drop p)).2.1.toNat) (acc ++ [(rd (b.drop p)).1]) else ([], p, (rd (b.drop p)).2.2)) else (acc, 0, 0)
def row (b : List Int) : List Int × Int × Int := rowF (b.length + 1) b 0 []

theorem rowF_end (f : Nat) (b : List Int) (p : Nat) (acc : List Int) (h : ¬ p < b.length) : rowF (f + 1) b p acc = (acc, 0, 0) := by rw [rowF, if_neg h]
theorem rowF_err (f : Nat) (b : List Int) (p : Nat) (acc : List Int) (h : p < b.length) (he : (rd (b.drop p)).2.2 ≠ 0) : rowF (f + 1) b p acc = ([], (p : Int), (rd (b.drop p)).2.2) := by rw [rowF, if_pos h, if_neg he]
theorem rowF_step (f : Nat) (b : List Int) (p : Nat) (acc : List Int) (h : p < b.length) (he : (rd (b.drop p)).2.2 = 0) : rowF (f + 1) b p acc = rowF f b (p + (rd (b.drop p)).2.1.toNat) (acc ++ [(rd (b.drop p)).1]) := by rw [rowF, if_pos h, if_pos he]
end Go.Vint
namespace Go.Vint
theorem vb_val : ∀ (T : List Int) (x : Int), (∀ y ∈ T, 128 ≤ y ∧ y ≤ 255) → 0 ≤ x → x < 128 → (T ≠ [] → x ≠ 0) → vb (val (T ++ [x])) = T ++ [x] ∧ (T ≠ [] ∨ x ≠ 0 → 1 ≤ val (T ++ [x])) := by
  intro T
  induction T with
  | nil =>
    intro x _ h0 h1 _; simp only [List.nil_append, val]; have : x % 128 + 128 * 0 = x := by omega
    rw [this, vb_lo h1]; exact ⟨rfl, fun h => by rcases h with h | h; exact absurd rfl h; omega⟩
  | cons y T ih =>
    intro x hT h0 h1 hx; have hy := hT y (by simp); obtain ⟨i1, i2⟩ := ih x (fun z hz => hT z (by simp [hz])) h0 h1 (fun _ => hx (by simp)); have h2 := i2 (.inr (hx (by simp))); simp only [List.cons_append, val]; generalize val (T ++ [x]) = v at *; rw [vb_hi (by omega)]; have e1 : 128 + (y % 128 + 128 * v) % 128 = y := by omega
    have e2 : (y % 128 + 128 * v) / 128 = v := by omega
    rw [e1, e2, i1]; exact ⟨rfl, fun _ => by omega⟩

theorem vb_rd (b : List Int) (hb : ∀ x ∈ b, 0 ≤ x ∧ x ≤ 255) (k : Nat) (hk : k < b.length) (hc : k = cont b) (h0 : 0 < k → b.getD k 0 ≠ 0) : vb (val (b.take (k + 1))) = b.take (k + 1) := by
  have hge : ∀ y ∈ b.take k, 128 ≤ y ∧ y ≤ 255 := by
    intro y hy; obtain ⟨j, hj, rfl⟩ := List.mem_iff_getElem.1 hy; have hjk : j < k := by simp at hj; omega
    have h1 := cont_lt b j (by omega); rw [List.getElem_take]; rw [List.getD_eq_getElem?_getD, List.getElem?_eq_getElem (by omega)] at h1; exact ⟨by simpa using h1, (hb _ (by simp)).2⟩
  have hlast : b[k] < 128 := by
    have := cont_end b (by omega); rw [← hc, List.getD_eq_getElem?_getD, List.getElem?_eq_getElem hk] at this
    simpa using this
  rw [List.take_succ_eq_append_getElem hk]; refine (vb_val (b.take k) b[k] hge (hb _ (by simp)).1 hlast ?_).1; intro hne; have hk0 : 0 < k := by
    rcases Nat.eq_zero_or_pos k with h | h
    · subst h; simp at hne
    · exact h
  have := h0 hk0
  rwa [List.getD_eq_getElem?_getD, List.getElem?_eq_getElem hk] at this

theorem rowF_ok : ∀ (f : Nat) (b : List Int) (p : Nat) (acc : List Int), (∀ x ∈ b, 0 ≤ x ∧ x ≤ 255) → b.length < p + f → p ≤ b.length → vbs acc = b.take p → (∀ x ∈ acc, 0 ≤ x ∧ x ≤ 18446744073709551615) → acc.length ≤ p →
    (rowF f b p acc).2.2 = 0 → vbs (rowF f b p acc).1 = b ∧ (∀ x ∈ (rowF f b p acc).1, 0 ≤ x ∧ x ≤ 18446744073709551615) ∧ (rowF f b p acc).2.1 = 0 ∧ (rowF f b p acc).1.length ≤ b.length := by
  intro f
  induction f with
  | zero => intro b p acc _ h1 h2; omega
  | succ f ih =>
    intro b p acc hb h1 h2 h3 h4 h5 h6
    by_cases hlt : p < b.length
    · by_cases he : (rd (b.drop p)).2.2 = 0
      · rw [rowF_step _ _ _ _ hlt he] at h6 ⊢; have hD : ∀ x ∈ b.drop p, 0 ≤ x ∧ x ≤ 255 := fun x hx => hb x (List.mem_of_mem_drop hx); have hbd := rd_bd _ hD he; obtain ⟨m, hm, hr, hc, -, -, hz⟩ := rd_ok _ he; have hv := vb_rd _ hD m hm hc hz; rw [hr] at h6 ⊢ hbd; simp only at h6 ⊢ hbd; have hl : (b.drop p).length = b.length - p := by simp
        refine ih b _ _ hb (by omega) (by omega) ?_ ?_ (by simp; omega) h6
        · rw [vbs_append, h3]; have : vbs [val ((b.drop p).take (m + 1))] = vb (val ((b.drop p).take (m + 1))) := by simp [vbs]
          have e : ((m : Int) + 1).toNat = m + 1 := by omega
          rw [this, hv, e]; exact List.take_add.symm
        · intro x hx; simp only [List.mem_append, List.mem_singleton] at hx
          rcases hx with hx | rfl
          · exact h4 x hx
          · exact hbd
      · rw [rowF_err _ _ _ _ hlt he] at h6; exact absurd h6 he
    · rw [rowF_end _ _ _ _ hlt]; obtain rfl : p = b.length := by omega
      exact ⟨by simpa using h3, h4, rfl, h5⟩

theorem row_ok (b : List Int) (hb : ∀ x ∈ b, 0 ≤ x ∧ x ≤ 255) (h : (row b).2.2 = 0) : vbs (row b).1 = b ∧ (∀ x ∈ (row b).1, 0 ≤ x ∧ x ≤ 18446744073709551615) ∧ (row b).2.1 = 0 ∧ (row b).1.length ≤ b.length :=
  rowF_ok _ _ _ _ hb (by omega) (Nat.zero_le _) (by simp [vbs]) (by simp) (Nat.zero_le _) h

theorem rowF_len : ∀ (f : Nat) (b : List Int) (p : Nat) (acc : List Int), b.length < p + f → p ≤ b.length → acc.length ≤ p → (rowF f b p acc).1.length ≤ b.length := by
  intro f
  induction f with
  | zero => intro b p acc h1 h2; omega
  | succ f ih =>
    intro b p acc h1 h2 h5
    by_cases hlt : p < b.length
    · by_cases he : (rd (b.drop p)).2.2 = 0
      · rw [rowF_step _ _ _ _ hlt he]; obtain ⟨m, hm, hr, -⟩ := rd_ok _ he; rw [hr]; have hl : (b.drop p).length = b.length - p := by simp
        exact ih b _ _ (by simp only; omega) (by simp only; omega) (by simp; omega)
      · rw [rowF_err _ _ _ _ hlt he]; simp
    · rw [rowF_end _ _ _ _ hlt]; simp only; omega
theorem row_len (b : List Int) : (row b).1.length ≤ b.length := rowF_len _ _ _ _ (by omega) (Nat.zero_le _) (Nat.zero_le _)
end Go.Vint
namespace Go.Vint
theorem vb_form : ∀ (n : Int), 0 ≤ n → ∃ T x, vb n = T ++ [x] ∧ (∀ y ∈ T, 128 ≤ y) ∧ 0 ≤ x ∧ x < 128 ∧ (T ≠ [] → x ≠ 0) ∧ val (T ++ [x]) = n := by
  have key : ∀ k : Nat, ∀ n : Int, n.toNat ≤ k → 0 ≤ n → ∃ T x, vb n = T ++ [x] ∧ (∀ y ∈ T, 128 ≤ y) ∧ 0 ≤ x ∧ x < 128 ∧ (T ≠ [] → x ≠ 0) ∧ val (T ++ [x]) = n := by
    intro k
    induction k with
    | zero => intro n hk h0; exact ⟨[], n, by rw [vb_lo (by omega)]; rfl, by simp, h0, by omega, by simp, by simp [val]; omega⟩
    | succ k ih =>
      intro n hk h0
      by_cases h1 : n < 128
      · exact ⟨[], n, by rw [vb_lo h1]; rfl, by simp, h0, by omega, by simp, by simp [val]; omega⟩
      · obtain ⟨T, x, e, hT, hx0, hx1, hne, hv⟩ := ih (n / 128) (by omega) (by omega); refine ⟨(128 + n % 128) :: T, x, by rw [vb_hi h1, e]; rfl, ?_, hx0, hx1, ?_, ?_⟩
        · intro y hy; simp only [List.mem_cons] at hy
          rcases hy with rfl | hy
          · omega
          · exact hT y hy
        · intro _
          by_cases hT0 : T = []
          · subst hT0; simp [val] at hv; omega
          · exact hne hT0
        · simp only [List.cons_append, val, hv]; omega
  exact fun n => key n.toNat n (Nat.le_refl _)

theorem rd_vb (n : Int) (h0 : 0 ≤ n) (h1 : n ≤ 18446744073709551615) (t : List Int) : rd (vb n ++ t) = (n, ((vb n).length : Int), 0) := by
  obtain ⟨T, x, e, hT, hx0, hx1, hne, hv⟩ := vb_form n h0; have hl := vb_len10 n h1; rw [e] at hl ⊢; simp only [List.length_append, List.length_cons, List.length_nil] at hl; have hk : (T ++ [x] ++ t).getD T.length 0 = x := by simp [List.getD_eq_getElem?_getD]
  have h9 : T.length = 9 → x ≤ 1 := by
    intro h; rw [val_snoc, h] at hv; have := val_bd T; simp at hv; omega
  rw [rd_at (T ++ [x] ++ t) T.length (by omega) ?_ (by simp) (by rw [hk]; exact hx1)]
  · rw [hk, if_neg ?_, if_neg ?_]
    · have : (T ++ [x] ++ t).take (T.length + 1) = T ++ [x] := by
        have h := List.take_left (l₁ := T ++ [x]) (l₂ := t)
        simpa using h
      rw [this, hv]; simp
    · rintro ⟨hp, hx⟩; exact hne (by intro h; subst h; simp at hp) hx
    · rintro ⟨hp, hx⟩; rw [← hp, hk] at hx; have := h9 hp; omega
  · intro j hj; have : (T ++ [x] ++ t).getD j 0 = T[j] := by simp [List.getD_eq_getElem?_getD, List.getElem?_append, hj]
    rw [this]; exact hT _ (by simp)

theorem rowF_vbs : ∀ (L acc : List Int) (f : Nat), L.length < f → (∀ x ∈ L, 0 ≤ x ∧ x ≤ 18446744073709551615) → rowF f (vbs acc ++ vbs L) (vbs acc).length acc = (acc ++ L, 0, 0) := by
  intro L
  induction L with
  | nil =>
    intro acc f hf _; obtain ⟨f, rfl⟩ : ∃ g, f = g + 1 := ⟨f - 1, by simp at hf; omega⟩; rw [rowF_end _ _ _ _ (by simp [vbs])]; simp
  | cons x L ih =>
    intro acc f hf hb; simp only [List.length_cons] at hf; obtain ⟨f, rfl⟩ : ∃ g, f = g + 1 := ⟨f - 1, by omega⟩; have hx := hb x (by simp); have hp := vb_pos x; have hc : vbs (x :: L) = vb x ++ vbs L := by simp [vbs]
    have hd : (vbs acc ++ vbs (x :: L)).drop (vbs acc).length = vb x ++ vbs L := by rw [List.drop_left, hc]
    have hr := rd_vb x hx.1 hx.2 (vbs L); have hlt : (vbs acc).length < (vbs acc ++ vbs (x :: L)).length := by rw [hc]; simp; omega
    rw [rowF_step _ _ _ _ hlt (by rw [hd, hr]), hd, hr]; simp only [Int.toNat_natCast]; have h1 : vbs acc ++ vbs (x :: L) = vbs (acc ++ [x]) ++ vbs L := by rw [vbs_snoc, hc, List.append_assoc]
    have h2 : (vbs acc).length + (vb x).length = (vbs (acc ++ [x])).length := by rw [vbs_snoc, List.length_append]
    rw [h1, h2, ih (acc ++ [x]) f (by omega) (fun y hy => hb y (by simp [hy]))]; simp

theorem vbs_len_ge (L : List Int) : L.length ≤ (vbs L).length := by
  induction L with
  | nil => simp
  | cons x L ih =>
    have hp := vb_pos x; have hc : vbs (x :: L) = vb x ++ vbs L := by simp [vbs]
    rw [hc, List.length_append, List.length_cons]; omega

theorem row_vbs (L : List Int) (hb : ∀ x ∈ L, 0 ≤ x ∧ x ≤ 18446744073709551615) : row (vbs L) = (L, 0, 0) := by
  have := rowF_vbs L [] ((vbs L).length + 1) (by have := vbs_len_ge L; omega) hb
  simpa [row, vbs] using this

theorem vbs_bd (L : List Int) (hb : ∀ x ∈ L, 0 ≤ x ∧ x ≤ 18446744073709551615) : ∀ x ∈ vbs L, 0 ≤ x ∧ x ≤ 255 := by
  intro x hx; simp only [vbs, List.mem_flatMap] at hx; obtain ⟨y, hy, hx⟩ := hx; exact vb_bd y (hb y hy).1 x hx
end Go.Vint
/- Bits of bytes and words, as arithmetic. -/
namespace Go

theorem or128_fin : ∀ x : Fin 256, bits .or .u8 (x.val : Int) 128 = 128 + (x.val : Int) % 128 := by decide +kernel
theorem u8_or128' (x : Int) (h0 : 0 ≤ x) (h1 : x < 256) : bits .or .u8 x 128 = 128 + x % 128 := by
  have := or128_fin ⟨x.toNat, by omega⟩
  simpa [Int.toNat_of_nonneg h0] using this
theorem and127_fin : ∀ x : Fin 256, bits .and .u8 (x.val : Int) 127 = (x.val : Int) % 128 := by decide +kernel
theorem u8_and127 (x : Int) (h0 : 0 ≤ x) (h1 : x < 256) : bits .and .u8 x 127 = x % 128 := by
  have := and127_fin ⟨x.toNat, by omega⟩
  simpa [Int.toNat_of_nonneg h0] using this

theorem u64_or_low (i : Nat) (y x : Int) (hi : i ≤ 64) (hy0 : 0 ≤ y) (hy : y < 2 ^ i) (hx0 : 0 ≤ x) (hx : x % 2 ^ i = 0) (hx1 : x < 18446744073709551616) : bits .or .u64 y x = y + x := by
  have h2 : (2 : Int) ^ i ≤ 2 ^ 64 := by
    have : (2 : Nat) ^ i ≤ 2 ^ 64 := Nat.pow_le_pow_right (by decide) hi
    exact_mod_cast this
  exact bits_join_low .u64 64 (by decide) wraps_u64 i y x hy0 hy (by omega) hx0 hx (by simpa using hx1)

theorem acc_step (v x : Int) (i : Nat) (hi : i ≤ 9) (hv0 : 0 ≤ v) (hv : v < 128 ^ i) (hx0 : 0 ≤ x) (hx : x ≤ 255) (h9 : i = 9 → x ≤ 1) :
    bits BinOp.or IntKind.u64 v (IntKind.u64.wrap (IntKind.u64.wrap (bits BinOp.and IntKind.u8 x 127) * 2 ^ (7 * i))) = v + 128 ^ i * (x % 128) := by
  rw [u8_and127 x hx0 (by omega), IntWalk.u64_in (x % 128) (by omega)]
  rcases (by omega : i = 0 ∨ i = 1 ∨ i = 2 ∨ i = 3 ∨ i = 4 ∨ i = 5 ∨ i = 6 ∨ i = 7 ∨ i = 8 ∨ i = 9) with rfl | rfl | rfl | rfl | rfl | rfl | rfl | rfl | rfl | rfl <;>
    (simp at hv; simp at h9; (try simp only [Nat.reduceMul, Int.reducePow]); rw [IntWalk.u64_in _ (by omega)])
  · rw [u64_or_low 0 _ _ (by omega) hv0 (by omega) (by omega) (by omega) (by omega)]; omega
  · rw [u64_or_low 7 _ _ (by omega) hv0 (by omega) (by omega) (by omega) (by omega)]; omega
  · rw [u64_or_low 14 _ _ (by omega) hv0 (by omega) (by omega) (by omega) (by omega)]; omega
  · rw [u64_or_low 21 _ _ (by omega) hv0 (by omega) (by omega) (by omega) (by omega)]; omega
  · rw [u64_or_low 28 _ _ (by omega) hv0 (by omega) (by omega) (by omega) (by omega)]; omega
  · rw [u64_or_low 35 _ _ (by omega) hv0 (by omega) (by omega) (by omega) (by omega)]; omega
  · rw [u64_or_low 42 _ _ (by omega) hv0 (by omega) (by omega) (by omega) (by omega)]; omega
  · rw [u64_or_low 49 _ _ (by omega) hv0 (by omega) (by omega) (by omega) (by omega)]; omega
  · rw [u64_or_low 56 _ _ (by omega) hv0 (by omega) (by omega) (by omega) (by omega)]; omega
  · rw [u64_or_low 63 _ _ (by omega) hv0 (by omega) (by omega) (by omega) (by omega)]; omega
theorem bits_xor_comm (k : IntKind) (x y : Int) : bits .xor k x y = bits .xor k y x := by simp only [bits, BitVec.xor_comm]

theorem u64_xor0 (x : Int) (h0 : 0 ≤ x) (h1 : x < 18446744073709551616) : bits .xor .u64 x 0 = x := by
  have := bits_xor_u64_nat x.toNat 0 (by omega) (by decide)
  simpa [Int.toNat_of_nonneg h0] using this

theorem i64_xor0 (x : Int) (h0 : 0 ≤ x) (h1 : x < 9223372036854775808) : bits .xor .i64 x 0 = x := by
  show IntKind.i64.wrap ((BitVec.ofInt 64 x ^^^ BitVec.ofInt 64 0).toNat : Int) = _; have h2 : (BitVec.ofInt 64 x).toNat = x.toNat := by
    obtain ⟨m, rfl⟩ := Int.eq_ofNat_of_zero_le h0; rw [BitVec.ofInt_natCast, BitVec.toNat_ofNat]; exact Nat.mod_eq_of_lt (by omega)
  rw [BitVec.toNat_xor, h2]; simp; rw [IntWalk.i64_in _ (by omega)]; omega

theorem zig_nonneg (n : Int) (h0 : 0 ≤ n) (h1 : n ≤ 9223372036854775807) : bits BinOp.xor IntKind.u64 (IntKind.u64.wrap (IntKind.u64.wrap n * 2)) (IntKind.u64.wrap (n / 9223372036854775808)) = 2 * n := by
  have e : n / 9223372036854775808 = 0 := by omega
  rw [e, IntWalk.u64_in n (by omega), IntWalk.u64_in (n * 2) (by omega), IntWalk.u64_in 0 (by omega), u64_xor0 _ (by omega) (by omega)]; omega

theorem zig_neg (n : Int) (h0 : n < 0) (h1 : -9223372036854775808 ≤ n) : bits BinOp.xor IntKind.u64 (IntKind.u64.wrap (IntKind.u64.wrap n * 2)) (IntKind.u64.wrap (n / 9223372036854775808)) = -2 * n - 1 := by
  have e : n / 9223372036854775808 = -1 := by omega
  have e1 : IntKind.u64.wrap (-1) = IntKind.u64.max := by decide
  rw [e, e1, bits_xor_comm, Lib.zigzag_neg h1 h0]; unfold Lib.zigzag; rw [if_neg (by omega)]; omega

theorem u64_and1 (x : Int) (h0 : 0 ≤ x) (h1 : x < 18446744073709551616) : bits .and .u64 x 1 = x % 2 := Lib.u64_and1 x h0 h1

theorem zag_bits (u : Int) (h0 : 0 ≤ u) (h1 : u ≤ 18446744073709551615) : bits .xor .i64 (u / 2) (-(u % 2)) = if u % 2 = 1 then -(u / 2) - 1 else u / 2 := by
  split
  · rename_i h; rw [h, bits_xor_comm]; have := Lib.i64_not (u / 2).toNat (by omega); rw [Int.toNat_of_nonneg (by omega)] at this; exact this
  · have h : u % 2 = 0 := by omega
    rw [h]; exact i64_xor0 _ (by omega) (by omega)
theorem u64_and7 (x : Int) (h0 : 0 ≤ x) (h1 : x < 18446744073709551616) : bits .and .u64 x 7 = x % 8 := by
  have h := bits_mask .u64 64 (by decide) wraps_u64 3 (by decide) x h0 (by omega)
  simpa using h
theorem u64_or_hi (i : Nat) (x y : Int) (hi : i ≤ 64) (hx0 : 0 ≤ x) (hx : x % 2 ^ i = 0) (hx1 : x < 18446744073709551616) (hy0 : 0 ≤ y) (hy : y < 2 ^ i) : bits .or .u64 x y = x + y := by
  have h2 : (2 : Int) ^ i ≤ 2 ^ 64 := by
    have : (2 : Nat) ^ i ≤ 2 ^ 64 := Nat.pow_le_pow_right (by decide) hi
    exact_mod_cast this
  exact bits_join .u64 64 (by decide) wraps_u64 i x y hx0 hx (by simpa using hx1) hy0 hy (by omega)
end Go
/- varint.Read. -/
namespace Go.Proofs.YtjggoajfilnfjaaGreat
open Go.RowKit Go.Vint

def Rd3 (r : Int × Int × Int) : Ending := .returned (.tuple #[.int .u64 r.1, .int .i64 r.2.1, .int .i64 r.2.2])

theorem vread_any (a : Option Addr) (c : Nat) (L : List Int) (hb : ∀ x ∈ L, 0 ≤ x ∧ x ≤ 255) (hlen : L.length ≤ 140737488355328) (w : World) (hr : Rd w a (L.map (Value.int .u8))) :
    Calls Tryz.prog 106 #[.slice a L.length c] w fun e w' => e = Rd3 (rd L) ∧ w = w' := by
  go_enter Tryz.func106, Tryz.ntmps106
  go_wp2; refine wp_goto_pre 0 (fun n a' w' => ∃ (i : Nat) (v : Int) (u7 u8 u9 u10 u11 u12 u13 u14 u15 u16 u17 u18 u19 u20 u21 u22 u23 u24 u25 u26 u27 u28 u29 u30 u31 u32 u33 u34 u35 u36 u37 u38 u39 u40 u41 u42 u43 u44 u45 u46 u47 u48 u49 u50 u51 u52 u53 u54 u55 : Value),
    (w' = w ∧ n = 10 - i ∧ i ≤ 10 ∧ i ≤ L.length ∧ (∀ j, j < i → 128 ≤ L.getD j 0) ∧ (i ≤ 9 → v = val (L.take i))) ∧
    a' = { tmps := #[.slice a L.length c, undef, .int .u64 0, .int .i64 0, .int .i64 0, .int .u64 v, .int .i64 (i : Nat), u7, u8, u9, u10, u11, u12, u13, u14, u15, u16, u17, u18, u19, u20, u21, u22, u23, u24, u25, u26, u27, u28, u29, u30, u31, u32, u33, u34, u35, u36, u37, u38, u39, u40, u41, u42, u43, u44, u45, u46, u47, u48, u49, u50, u51, u52, u53, u54, u55], defers := [] }) rfl ?_ ?_
  · rintro n a' w' ⟨i, v, u7, u8, u9, u10, u11, u12, u13, u14, u15, u16, u17, u18, u19, u20, u21, u22, u23, u24, u25, u26, u27, u28, u29, u30, u31, u32, u33, u34, u35, u36, u37, u38, u39, u40, u41, u42, u43, u44, u45, u46, u47, u48, u49, u50, u51, u52, u53, u54, u55, ⟨rfl, hn, hi, hil, hge, hv⟩, rfl⟩ J hJ; have HN := Lib.hid hn; have HG := Lib.hid hge; have HV := Lib.hid hv; have HJ := Lib.hid hJ; clear hn hge hv hJ
    by_cases h10 : i = 10
    · subst h10; go_wp2
      go_ret3
      refine ⟨?_, rfl⟩; rw [rd_range L hil HG.out]; rfl
    · by_cases hend : i = L.length
      · subst hend; go_wp2
        go_ret3
        refine ⟨?_, rfl⟩; rw [rd_end L HG.out (by omega)]; rfl
      · have hlt : i < L.length := by omega
        obtain ⟨b, off, rfl, hcell, _⟩ := hr.at (i := i) (v := .int .u8 L[i]) (by simp [hlt]); have hx := hb L[i] (by simp); have HX : Hid (L.getD i 0 = L[i]) := by show _ = _; simp [hlt]
        by_cases hc : 128 ≤ L[i]
        · go_wp2
          go_step3
          show (0 : Nat) = 0 ∧ J _ _; refine ⟨rfl, HJ.out (10 - (i + 1)) _ _ (by rw [HN.out]; omega) ⟨i + 1, _, _, _, _, _, _, _, _, _, _, _, _, _, _, _, _, _, _, _, _, _, _, _, _, _, _, _, _, _, _, _, _, _, _, _, _, _, _, _, _, _, _, _, _, _, _, _, _, _, _, ⟨rfl, rfl, by omega, by omega, ?_, ?_⟩, rfl⟩⟩
          · intro j hj
            by_cases h : j = i
            · subst h; rw [HX.out]; exact hc
            · exact HG.out j (by omega)
          · intro h9; rw [HV.out (by omega), List.take_succ_eq_append_getElem hlt, val_snoc]; have hv := val_bd (L.take i); have hl : (L.take i).length = i := by simp; omega
            rw [hl] at hv ⊢; exact acc_step _ _ i (by omega) hv.1 hv.2 hx.1 hx.2 (by omega)
        · have HR := Lib.hid (rd_at L i (by omega) HG.out hlt (by rw [HX.out]; omega)); have HA : Hid ((i = 9 → L[i] ≤ 1) → bits BinOp.or IntKind.u64 v (IntKind.u64.wrap (IntKind.u64.wrap (bits BinOp.and IntKind.u8 L[i] 127) * 2 ^ (7 * i))) = val (L.take (i + 1))) := by
            intro h9; rw [HV.out (by omega), List.take_succ_eq_append_getElem hlt, val_snoc]; have hv := val_bd (L.take i); have hl : (L.take i).length = i := by simp; omega
            rw [hl] at hv ⊢; exact acc_step _ _ i (by omega) hv.1 hv.2 hx.1 hx.2 h9
          by_cases h9 : i = 9
          · subst h9
            by_cases h1 : 1 < L[9]
            · go_wp2
              go_ret3
              refine ⟨?_, rfl⟩; rw [HR.out, HX.out, if_pos ⟨by decide, h1⟩]; rfl
            · by_cases h0 : L[9] = 0
              · have hb0 : (L[9] == 0) = true := by simp [h0]
                have H0 := Lib.hid h0; clear h0; go_wp2
                go_ret3
                refine ⟨?_, rfl⟩; rw [HR.out, HX.out, if_neg (by omega), if_pos ⟨by omega, H0.out⟩]; rfl
              · have hb0 : (L[9] == 0) = false := by simp [h0]
                go_wp2
                go_ret3
                refine ⟨?_, rfl⟩; rw [HR.out, HX.out, if_neg (by omega), if_neg (by omega), ← HA.out (by omega)]; rfl
          · by_cases hi0 : i = 0
            · have hi1 : i ≤ 0 := by omega
              clear hi0; go_wp2
              go_ret3
              refine ⟨?_, rfl⟩; rw [HR.out, if_neg (by omega), if_neg (by omega), ← HA.out (by omega)]; rfl
            · by_cases h0 : L[i] = 0
              · have hb0 : (L[i] == 0) = true := by simp [h0]
                have H0 := Lib.hid h0; clear h0; go_wp2
                go_ret3
                refine ⟨?_, rfl⟩; rw [HR.out, HX.out, if_neg (by omega), if_pos ⟨by omega, H0.out⟩]; rfl
              · have hb0 : (L[i] == 0) = false := by simp [h0]
                go_wp2
                go_ret3
                refine ⟨?_, rfl⟩; rw [HR.out, HX.out, if_neg (by omega), if_neg (by omega), ← HA.out (by omega)]; rfl
  · intro J hJ; go_wp2
    go_step3
    go_step; go_step; exact hJ.out 10 _ _ ⟨0, 0, _, _, _, _, _, _, _, _, _, _, _, _, _, _, _, _, _, _, _, _, _, _, _, _, _, _, _, _, _, _, _, _, _, _, _, _, _, _, _, _, _, _, _, _, _, _, _, _, _, ⟨rfl, rfl, by omega, by omega, fun j h => by omega, fun _ => rfl⟩, rfl⟩
end Go.Proofs.YtjggoajfilnfjaaGreat
/- Fields of messages: plain functions, and what they obey. -/
namespace Go.Proto
open Go.Vint

def le : List Int → Int
  | [] => 0
  | x :: l => x + 256 * le l

structure Fld where
  num : Int
  kind : Int
  n : Int
  bs : List Int

def Fld.zero : Fld := ⟨0, 0, 0, []⟩

def body (b : List Int) (key : Int) (p : Nat) : Fld × Int × Int :=
  if key % 8 = 0 ∨ key % 8 = 2 then
    if (rd (b.drop p)).2.2 = 0 then
      if key % 8 = 0 then (⟨key / 8, 0, (rd (b.drop p)).1, []⟩, (p : Int) + (rd (b.drop p)).2.1, 0)
      else if (b.length : Int) - ((p : Int) + (rd (b.drop p)).2.1) < (rd (b.drop p)).1 then (Fld.zero, 0, 4)
      else (⟨key / 8, 2, 0, (b.drop (p + (rd (b.drop p)).2.1.toNat)).take (rd (b.drop p)).1.toNat⟩, (p : Int) + (rd (b.drop p)).2.1 + (rd (b.drop p)).1, 0)
    else (Fld.zero, 0, (rd (b.drop p)).2.2)
  else if key % 8 = 1 then (if (b.length : Int) - p < 8 then (Fld.zero, 0, 4) else (⟨key / 8, 1, le ((b.drop p).take 8), []⟩, (p : Int) + 8, 0))
  else if key % 8 = 5 then (if (b.length : Int) - p < 4 then (Fld.zero, 0, 4) else (⟨key / 8, 5, le ((b.drop p).take 4), []⟩, (p : Int) + 4, 0))
  else (Fld.zero, 0, 14)

def prd (b : List Int) : Fld × Int × Int :=
  if (rd b).2.2 = 0 then (if (rd b).1 / 8 < 1 ∨ 536870911 < (rd b).1 / 8 then (Fld.zero, 0, 5) else body b (rd b).1 (rd b).2.1.toNat)
  else (Fld.zero, 0, (rd b).2.2)

theorem le_bd (l : List Int) (h : ∀ x ∈ l, 0 ≤ x ∧ x ≤ 255) : 0 ≤ le l ∧ le l < 256 ^ l.length := by
  induction l with
  | nil => simp [le]
  | cons x l ih =>
    have hx := h x (by simp); have := ih (fun y hy => h y (by simp [hy])); simp only [le, List.length_cons, Int.pow_succ]; omega

theorem le_drop (l : List Int) (i : Nat) (h : i < l.length) : le (l.drop i) = l[i] + 256 * le (l.drop (i + 1)) := by
  rw [List.drop_eq_getElem_cons h, le]

theorem le_8 (l : List Int) (h : ∀ x ∈ l, 0 ≤ x ∧ x ≤ 255) (k : Nat) (hk : l.length ≤ k) (h8 : k ≤ 8) : 0 ≤ le l ∧ le l < 256 ^ k := by
  have h1 := le_bd l h; have h2 : (256 : Int) ^ l.length ≤ 256 ^ k := by
    obtain ⟨d, rfl⟩ : ∃ d, k = l.length + d := ⟨k - l.length, by omega⟩; rw [Int.pow_add]; have h3 : (1 : Int) ≤ 256 ^ d := Int.pow_pos (by decide); have h4 : (0 : Int) ≤ 256 ^ l.length := Int.le_of_lt (Int.pow_pos (by decide)); have := Int.mul_le_mul_of_nonneg_left h3 h4
    simpa using this
  omega
end Go.Proto

/-
  Fields of messages, told and all of them read: plain functions, and what they obey.
-/
import Derived.Test.YtoicahfpnnhgpaaPmath
namespace Go.Proto
open Go.Vint

/-- What is wrong with a field. -/
def chk (f : Fld) : Int :=
  if f.num < 1 ∨ 536870911 < f.num then 5
  else if f.kind ≠ 0 ∧ f.kind ≠ 1 ∧ f.kind ≠ 2 ∧ f.kind ≠ 5 then 14
  else if f.kind = 2 ∧ 0 < f.n ∨ f.kind ≠ 2 ∧ f.bs ≠ [] then 3
  else if f.kind = 5 ∧ 4294967295 < f.n then 5
  else 0

/-- A number's lowest bytes. -/
def low (n : Int) : Nat → List Int
  | 0 => []
  | k + 1 => n % 256 :: low (n / 256) k

/-- A field's bytes behind its key. -/
def tail (f : Fld) : List Int :=
  if f.kind = 0 then vb f.n else if f.kind = 1 then low f.n 8 else if f.kind = 5 then low f.n 4 else vb f.bs.length ++ f.bs

/-- A field's bytes. -/
def fby (f : Fld) : List Int := vb (8 * f.num + f.kind) ++ tail f

theorem low_len (n : Int) (k : Nat) : (low n k).length = k := by
  induction k generalizing n with
  | zero => rfl
  | succ k ih => simp [low, ih]

theorem low_le (l : List Int) (h : ∀ x ∈ l, 0 ≤ x ∧ x ≤ 255) : low (le l) l.length = l := by
  induction l with
  | nil => rfl
  | cons x l ih =>
    have hx := h x (by simp)
    have h1 : (x + 256 * le l) % 256 = x := by omega
    have h2 : (x + 256 * le l) / 256 = le l := by omega
    simp only [le, List.length_cons, low, h1, h2]
    rw [ih (fun y hy => h y (by simp [hy]))]

theorem rd_bytes (b : List Int) (hb : ∀ x ∈ b, 0 ≤ x ∧ x ≤ 255) (h : (rd b).2.2 = 0) :
    ∃ k : Nat, k < b.length ∧ (rd b).2.1 = (k : Int) + 1 ∧ vb (rd b).1 = b.take (k + 1) := by
  obtain ⟨k, hk, he, hc, -, -, h0⟩ := rd_ok b h
  exact ⟨k, hk, by rw [he], by rw [he]; exact vb_rd b hb k hk hc h0⟩

/-- A field that has been read: how many bytes, that it may be told, and that these bytes are its own. -/
theorem prd_ok (b : List Int) (hb : ∀ x ∈ b, 0 ≤ x ∧ x ≤ 255) (h : (prd b).2.2 = 0) :
    ∃ n : Nat, (prd b).2.1 = n ∧ 1 ≤ n ∧ n ≤ b.length ∧ chk (prd b).1 = 0 ∧ fby (prd b).1 = b.take n ∧ 0 ≤ (prd b).1.n ∧ (prd b).1.n ≤ 18446744073709551615 ∧ (∀ x ∈ (prd b).1.bs, 0 ≤ x ∧ x ≤ 255) ∧ (prd b).1.bs.length ≤ b.length := by
  unfold prd at *
  split at h
  · rename_i h1
    rw [if_pos h1]
    obtain ⟨k, hk, hr1, hv⟩ := rd_bytes b hb h1
    have hkb := rd_bd b hb h1
    generalize (rd b).1 = key at *
    generalize (rd b).2.1 = pk at *
    subst hr1
    split at h
    · simp at h
    · rename_i h2
      rw [if_neg h2]
      have hp : ((k : Int) + 1).toNat = k + 1 := by omega
      rw [hp] at h ⊢
      have hkey : 8 * (key / 8) + key % 8 = key := by omega
      have hD : ∀ x ∈ b.drop (k + 1), 0 ≤ x ∧ x ≤ 255 := fun x hx => hb x (List.mem_of_mem_drop hx)
      have hDl : (b.drop (k + 1)).length = b.length - (k + 1) := by simp
      have hcat : ∀ m, b.take (k + 1) ++ (b.drop (k + 1)).take m = b.take (k + 1 + m) := by
        intro m; exact (List.take_add).symm
      have hdd : ∀ m, (b.drop (k + 1)).drop m = b.drop (k + 1 + m) := by intro m; rw [List.drop_drop]
      generalize hDe : b.drop (k + 1) = D at *
      unfold body at *
      rw [hDe] at h ⊢
      by_cases c0 : key % 8 = 0
      · rw [if_pos (.inl c0)] at h ⊢
        split at h
        · rename_i h3
          rw [if_pos h3, if_pos c0] at *
          obtain ⟨m, hm, hr2, hv2⟩ := rd_bytes D hD h3
          have hnb := rd_bd D hD h3
          refine ⟨k + 1 + (m + 1), by rw [hr2]; simp, by omega, by omega, ?_, ?_, hnb.1, hnb.2, by simp, by simp⟩
          · simp [chk]; omega
          · simp only [fby, tail, if_pos]
            rw [show 8 * (key / 8) + 0 = key by omega, hv, hv2, hcat]
        · rename_i h3
          exact absurd h h3
      · by_cases c2 : key % 8 = 2
        · rw [if_pos (.inr c2)] at h ⊢
          split at h
          · rename_i h3
            rw [if_pos h3, if_neg c0] at *
            obtain ⟨m, hm, hr2, hv2⟩ := rd_bytes D hD h3
            have hnb := rd_bd D hD h3
            split at h
            · simp at h
            · rename_i h4
              rw [if_neg h4]
              generalize (rd D).1 = nn at *
              rw [hr2] at h4 ⊢
              have hm1 : ((m : Int) + 1).toNat = m + 1 := by omega
              rw [hm1]
              obtain ⟨z, rfl⟩ : ∃ z : Nat, nn = z := ⟨nn.toNat, by omega⟩
              have hz : ((b.drop (k + 1 + (m + 1))).take (z : Int).toNat).length = z := by simp; omega
              refine ⟨k + 1 + (m + 1) + z, by simp, by omega, by omega, ?_, ?_, by simp, by simp, fun x hx => hb x (List.mem_of_mem_drop (List.mem_of_mem_take hx)), by rw [hz]; omega⟩
              · simp [chk]; omega
              · simp only [fby, tail]
                rw [hz, show 8 * (key / 8) + 2 = key by omega, hv, if_neg (by decide), if_neg (by decide), if_neg (by decide), hv2, ← List.append_assoc, hcat, Int.toNat_natCast, ← List.take_add]
          · rename_i h3
            exact absurd h h3
        · rw [if_neg (by omega)] at h ⊢
          by_cases c1 : key % 8 = 1
          · rw [if_pos c1] at h ⊢
            split at h
            · simp at h
            · rename_i h4
              rw [if_neg h4]
              have hT : ∀ x ∈ D.take 8, 0 ≤ x ∧ x ≤ 255 := fun x hx => hD x (List.mem_of_mem_take hx)
              have hTl : (D.take 8).length = 8 := by simp; omega
              have h8 := le_8 (D.take 8) hT 8 (by omega) (by omega)
              have hlo := low_le (D.take 8) hT
              rw [hTl] at hlo
              refine ⟨k + 1 + 8, by simp, by omega, by omega, ?_, ?_, h8.1, by have := h8.2; simp at this ⊢; omega, by simp, by simp⟩
              · simp [chk]; omega
              · simp only [fby, tail]
                rw [show 8 * (key / 8) + 1 = key by omega, hv, if_neg (by decide), if_pos trivial, hlo, hcat]
          · rw [if_neg c1] at h ⊢
            by_cases c5 : key % 8 = 5
            · rw [if_pos c5] at h ⊢
              split at h
              · simp at h
              · rename_i h4
                rw [if_neg h4]
                have hT : ∀ x ∈ D.take 4, 0 ≤ x ∧ x ≤ 255 := fun x hx => hD x (List.mem_of_mem_take hx)
                have hTl : (D.take 4).length = 4 := by simp; omega
                have h8 := le_8 (D.take 4) hT 4 (by omega) (by omega)
                have hlo := low_le (D.take 4) hT
                rw [hTl] at hlo
                simp only [Int.reducePow] at h8
                refine ⟨k + 1 + 4, by simp, by omega, by omega, ?_, ?_, h8.1, by simp; omega, by simp, by simp⟩
                · simp [chk]; omega
                · simp only [fby, tail]
                  rw [show 8 * (key / 8) + 5 = key by omega, hv, if_neg (by decide), if_neg (by decide), if_pos trivial, hlo, hcat]
            · rw [if_neg c5] at h
              simp at h
  · rename_i h1
    rw [if_neg h1] at *
    exact absurd h h1

/-- All fields; the place of the first one with an error, and that. -/
def pallF : Nat → List Int → Nat → List Fld → List Fld × Int × Int
  | 0, _, _, _ => ([], 0, 0)
  | f + 1, b, p, acc => if p < b.length then (if (prd (b.drop p)).2.2 = 0 then pallF f b (p + (prd (b.drop p)).2.1.toNat) (acc ++ [(prd (b.drop p)).1]) else ([], (p : Int), (prd (b.drop p)).2.2)) else (acc, 0, 0)
def pall (b : List Int) : List Fld × Int × Int := pallF (b.length + 1) b 0 []

theorem pallF_end (f : Nat) (b : List Int) (p : Nat) (acc : List Fld) (h : ¬ p < b.length) : pallF (f + 1) b p acc = (acc, 0, 0) := by rw [pallF, if_neg h]
theorem pallF_err (f : Nat) (b : List Int) (p : Nat) (acc : List Fld) (h : p < b.length) (he : (prd (b.drop p)).2.2 ≠ 0) : pallF (f + 1) b p acc = ([], (p : Int), (prd (b.drop p)).2.2) := by rw [pallF, if_pos h, if_neg he]
theorem pallF_step (f : Nat) (b : List Int) (p : Nat) (acc : List Fld) (h : p < b.length) (he : (prd (b.drop p)).2.2 = 0) : pallF (f + 1) b p acc = pallF f b (p + (prd (b.drop p)).2.1.toNat) (acc ++ [(prd (b.drop p)).1]) := by rw [pallF, if_pos h, if_pos he]

/-- A field that a message can hold. -/
def Fine (m : Nat) (f : Fld) : Prop := chk f = 0 ∧ 0 ≤ f.n ∧ f.n ≤ 18446744073709551615 ∧ (∀ x ∈ f.bs, 0 ≤ x ∧ x ≤ 255) ∧ f.bs.length ≤ m

theorem pallF_ok : ∀ (f : Nat) (b : List Int) (p : Nat) (acc : List Fld), (∀ x ∈ b, 0 ≤ x ∧ x ≤ 255) → b.length < p + f → p ≤ b.length → acc.flatMap fby = b.take p → (∀ x ∈ acc, Fine b.length x) → acc.length ≤ p →
    (pallF f b p acc).2.2 = 0 → (pallF f b p acc).1.flatMap fby = b ∧ (∀ x ∈ (pallF f b p acc).1, Fine b.length x) ∧ (pallF f b p acc).2.1 = 0 ∧ (pallF f b p acc).1.length ≤ b.length := by
  intro f
  induction f with
  | zero => intro b p acc hb h1 h2; omega
  | succ f ih =>
    intro b p acc hb h1 h2 h3 h4 h5 h6
    by_cases hp : p < b.length
    · by_cases he : (prd (b.drop p)).2.2 = 0
      · rw [pallF_step f b p acc hp he] at h6 ⊢
        have hD : ∀ x ∈ b.drop p, 0 ≤ x ∧ x ≤ 255 := fun x hx => hb x (List.mem_of_mem_drop hx)
        obtain ⟨n, hn, n1, n2, hc, hf, q0, q1, qb, ql⟩ := prd_ok _ hD he
        have hdl : (b.drop p).length = b.length - p := by simp
        rw [hn, Int.toNat_natCast] at h6 ⊢
        refine ih b (p + n) _ hb (by omega) (by omega) ?_ ?_ (by simp; omega) h6
        · rw [List.flatMap_append, h3]
          simp only [List.flatMap_cons, List.flatMap_nil, List.append_nil]
          rw [hf, ← List.take_add]
        · intro x hx
          rcases List.mem_append.1 hx with hx | hx
          · exact h4 x hx
          · obtain rfl : x = _ := by simpa using hx
            exact ⟨hc, q0, q1, qb, by omega⟩
      · rw [pallF_err f b p acc hp he] at h6
        exact absurd h6 he
    · rw [pallF_end f b p acc hp]
      refine ⟨?_, h4, rfl, by show acc.length ≤ b.length; omega⟩
      rw [h3, List.take_of_length_le (by omega)]

theorem pall_ok (b : List Int) (hb : ∀ x ∈ b, 0 ≤ x ∧ x ≤ 255) (h : (pall b).2.2 = 0) : (pall b).1.flatMap fby = b ∧ (∀ x ∈ (pall b).1, Fine b.length x) ∧ (pall b).2.1 = 0 ∧ (pall b).1.length ≤ b.length :=
  pallF_ok _ b 0 [] hb (by omega) (Nat.zero_le _) rfl (by simp) (Nat.le_refl _) h
end Go.Proto

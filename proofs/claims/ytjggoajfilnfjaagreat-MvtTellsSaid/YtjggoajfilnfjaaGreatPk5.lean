/-
  Fields of messages, told and all of them read: plain functions, and what they obey. append of a literal: where it lies, and where the new row lies. Rows of fields: the program's (bytes behind a slice) and the document's (bytes in a string). varint.Zag. Runes of a text: the model's decoding and the document's first rune, in plain terms. text.bad; plain: where no rune begins. text.Count, text.Right: the runes of a text. value.Check. Values: kind, text, number.
-/
import Derived.Test.YtjggoajfilnfjaaGreatPk2
import Derived.Test.YtjggoajfilnfjaaGreatPk1
import Derived.Maps.AppendAt
import Derived.Test.YtjggoajfilnfjaaGreatPk4
import Derived.Test.YtjggoajfilnfjaaGreatProg
import Derived.Laws.RangeAny
import Derived.Test.YtjggoajfilnfjaaGreatShelf
import Derived.Laws.RangeString
import Derived.Lib.OthersKept
namespace Go.Proto
open Go.Vint

def chk (f : Fld) : Int :=
 if f.num < 1 ∨ 536870911 < f.num then 5
 else if f.kind ≠ 0 ∧ f.kind ≠ 1 ∧ f.kind ≠ 2 ∧ f.kind ≠ 5 then 14
 else if f.kind = 2 ∧ 0 < f.n ∨ f.kind ≠ 2 ∧ f.bs ≠ [] then 3
 else if f.kind = 5 ∧ 4294967295 < f.n then 5
 else 0

def low (n : Int) : Nat → List Int
 | 0 => []
 | k + 1 => n % 256 :: low (n / 256) k

def tail (f : Fld) : List Int :=
 if f.kind = 0 then vb f.n else if f.kind = 1 then low f.n 8 else if f.kind = 5 then low f.n 4 else vb f.bs.length ++ f.bs

def fby (f : Fld) : List Int := vb (8 * f.num + f.kind) ++ tail f

theorem low_len (n : Int) (k : Nat) : (low n k).length = k := by
 induction k generalizing n with
 | zero => rfl
 | succ k ih => simp [low, ih]

theorem low_le (l : List Int) (h : ∀ x ∈ l, 0 ≤ x ∧ x ≤ 255) : low (le l) l.length = l := by
 induction l with
 | nil => rfl
 | cons x l ih =>
  have hx := h x (by simp); have h1 : (x + 256 * le l) % 256 = x := by omega
  have h2 : (x + 256 * le l) / 256 = le l := by omega
  simp only [le, List.length_cons, low, h1, h2]; rw [ih (fun y hy => h y (by simp [hy]))]

theorem rd_bytes (b : List Int) (hb : ∀ x ∈ b, 0 ≤ x ∧ x ≤ 255) (h : (rd b).2.2 = 0) :
  ∃ k : Nat, k < b.length ∧ (rd b).2.1 = (k : Int) + 1 ∧ vb (rd b).1 = b.take (k + 1) := by
 obtain ⟨k, hk, he, hc, -, -, h0⟩ := rd_ok b h; exact ⟨k, hk, by rw [he], by rw [he]; exact vb_rd b hb k hk hc h0⟩

theorem prd_ok (b : List Int) (hb : ∀ x ∈ b, 0 ≤ x ∧ x ≤ 255) (h : (prd b).2.2 = 0) :
  ∃ n : Nat, (prd b).2.1 = n ∧ 1 ≤ n ∧ n ≤ b.length ∧ chk (prd b).1 = 0 ∧ fby (prd b).1 = b.take n ∧ 0 ≤ (prd b).1.n ∧ (prd b).1.n ≤ 18446744073709551615 ∧ (∀ x ∈ (prd b).1.bs, 0 ≤ x ∧ x ≤ 255) ∧ (prd b).1.bs.length ≤ b.length := by
 unfold prd at *
 split at h
 ·rename_i h1; rw [if_pos h1]; obtain ⟨k, hk, hr1, hv⟩ := rd_bytes b hb h1; have hkb := rd_bd b hb h1; generalize (rd b).1 = key at *; generalize (rd b).2.1 = pk at *; subst hr1
  split at h
  ·simp at h
  ·rename_i h2; rw [if_neg h2]; have hp : ((k : Int) + 1).toNat = k + 1 := by omega
   rw [hp] at h ⊢; have hkey : 8 * (key / 8) + key % 8 = key := by omega
   have hD : ∀ x ∈ b.drop (k + 1), 0 ≤ x ∧ x ≤ 255 := fun x hx => hb x (List.mem_of_mem_drop hx); have hDl : (b.drop (k + 1)).length = b.length - (k + 1) := by simp
   have hcat : ∀ m, b.take (k + 1) ++ (b.drop (k + 1)).take m = b.take (k + 1 + m) := by
    intro m; exact (List.take_add).symm
   have hdd : ∀ m, (b.drop (k + 1)).drop m = b.drop (k + 1 + m) := by intro m; rw [List.drop_drop]
   generalize hDe : b.drop (k + 1) = D at *; unfold body at *; rw [hDe] at h ⊢
   by_cases c0 : key % 8 = 0
   ·rw [if_pos (.inl c0)] at h ⊢
    split at h
    ·rename_i h3; rw [if_pos h3, if_pos c0] at *; obtain ⟨m, hm, hr2, hv2⟩ := rd_bytes D hD h3; have hnb := rd_bd D hD h3; refine ⟨k + 1 + (m + 1), by rw [hr2]; simp, by omega, by omega, ?_, ?_, hnb.1, hnb.2, by simp, by simp⟩
     ·simp [chk]; omega
     ·simp only [fby, tail, if_pos]; rw [show 8 * (key / 8) + 0 = key by omega, hv, hv2, hcat]
    ·rename_i h3; exact absurd h h3
   ·by_cases c2 : key % 8 = 2
    ·rw [if_pos (.inr c2)] at h ⊢
     split at h
     ·rename_i h3; rw [if_pos h3, if_neg c0] at *; obtain ⟨m, hm, hr2, hv2⟩ := rd_bytes D hD h3; have hnb := rd_bd D hD h3
      split at h
      ·simp at h
      ·rename_i h4; rw [if_neg h4]; generalize (rd D).1 = nn at *; rw [hr2] at h4 ⊢; have hm1 : ((m : Int) + 1).toNat = m + 1 := by omega
       rw [hm1]; obtain ⟨z, rfl⟩ : ∃ z : Nat, nn = z := ⟨nn.toNat, by omega⟩; have hz : ((b.drop (k + 1 + (m + 1))).take (z : Int).toNat).length = z := by simp; omega
       refine ⟨k + 1 + (m + 1) + z, by simp, by omega, by omega, ?_, ?_, by simp, by simp, fun x hx => hb x (List.mem_of_mem_drop (List.mem_of_mem_take hx)), by rw [hz]; omega⟩
       ·simp [chk]; omega
       ·simp only [fby, tail]; rw [hz, show 8 * (key / 8) + 2 = key by omega, hv, if_neg (by decide), if_neg (by decide), if_neg (by decide), hv2, ← List.append_assoc, hcat, Int.toNat_natCast, ← List.take_add]
     ·rename_i h3; exact absurd h h3
    ·rw [if_neg (by omega)] at h ⊢
     by_cases c1 : key % 8 = 1
     ·rw [if_pos c1] at h ⊢
      split at h
      ·simp at h
      ·rename_i h4; rw [if_neg h4]; have hT : ∀ x ∈ D.take 8, 0 ≤ x ∧ x ≤ 255 := fun x hx => hD x (List.mem_of_mem_take hx); have hTl : (D.take 8).length = 8 := by simp; omega
       have h8 := le_8 (D.take 8) hT 8 (by omega) (by omega); have hlo := low_le (D.take 8) hT; rw [hTl] at hlo; refine ⟨k + 1 + 8, by simp, by omega, by omega, ?_, ?_, h8.1, by have := h8.2; simp at this ⊢; omega, by simp, by simp⟩
       ·simp [chk]; omega
       ·simp only [fby, tail]; rw [show 8 * (key / 8) + 1 = key by omega, hv, if_neg (by decide), if_pos trivial, hlo, hcat]
     ·rw [if_neg c1] at h ⊢
      by_cases c5 : key % 8 = 5
      ·rw [if_pos c5] at h ⊢
       split at h
       ·simp at h
       ·rename_i h4; rw [if_neg h4]; have hT : ∀ x ∈ D.take 4, 0 ≤ x ∧ x ≤ 255 := fun x hx => hD x (List.mem_of_mem_take hx); have hTl : (D.take 4).length = 4 := by simp; omega
        have h8 := le_8 (D.take 4) hT 4 (by omega) (by omega); have hlo := low_le (D.take 4) hT; rw [hTl] at hlo; simp only [Int.reducePow] at h8; refine ⟨k + 1 + 4, by simp, by omega, by omega, ?_, ?_, h8.1, by simp; omega, by simp, by simp⟩
        ·simp [chk]; omega
        ·simp only [fby, tail]; rw [show 8 * (key / 8) + 5 = key by omega, hv, if_neg (by decide), if_neg (by decide), if_pos trivial, hlo, hcat]
      ·rw [if_neg c5] at h; simp at h
 ·rename_i h1; rw [if_neg h1] at *; exact absurd h h1

def pallF : Nat → List Int → Nat → List Fld → List Fld × Int × Int
 | 0, _, _, _ => ([], 0, 0)
 | f + 1, b, p, acc => if p < b.length then (if (prd (b.drop p)).2.2 = 0 then pallF f b (p + (prd (b.drop p)).2.1.toNat) (acc ++ [(prd (b.drop p)).1]) else ([], (p : Int), (prd (b.drop p)).2.2)) else (acc, 0, 0)
def pall (b : List Int) : List Fld × Int × Int := pallF (b.length + 1) b 0 []

theorem pallF_end (f : Nat) (b : List Int) (p : Nat) (acc : List Fld) (h : ¬ p < b.length) : pallF (f + 1) b p acc = (acc, 0, 0) := by rw [pallF, if_neg h]
theorem pallF_err (f : Nat) (b : List Int) (p : Nat) (acc : List Fld) (h : p < b.length) (he : (prd (b.drop p)).2.2 ≠ 0) : pallF (f + 1) b p acc = ([], (p : Int), (prd (b.drop p)).2.2) := by rw [pallF, if_pos h, if_neg he]
theorem pallF_step (f : Nat) (b : List Int) (p : Nat) (acc : List Fld) (h : p < b.length) (he : (prd (b.drop p)).2.2 = 0) : pallF (f + 1) b p acc = pallF f b (p + (prd (b.drop p)).2.1.toNat) (acc ++ [(prd (b.drop p)).1]) := by rw [pallF, if_pos h, if_pos he]

def Fine (m : Nat) (f : Fld) : Prop := chk f = 0 ∧ 0 ≤ f.n ∧ f.n ≤ 18446744073709551615 ∧ (∀ x ∈ f.bs, 0 ≤ x ∧ x ≤ 255) ∧ f.bs.length ≤ m

theorem pallF_ok : ∀ (f : Nat) (b : List Int) (p : Nat) (acc : List Fld), (∀ x ∈ b, 0 ≤ x ∧ x ≤ 255) → b.length < p + f → p ≤ b.length → acc.flatMap fby = b.take p → (∀ x ∈ acc, Fine b.length x) → acc.length ≤ p →
  (pallF f b p acc).2.2 = 0 → (pallF f b p acc).1.flatMap fby = b ∧ (∀ x ∈ (pallF f b p acc).1, Fine b.length x) ∧ (pallF f b p acc).2.1 = 0 ∧ (pallF f b p acc).1.length ≤ b.length := by
 intro f
 induction f with
 | zero => intro b p acc hb h1 h2; omega
 | succ f ih =>
  intro b p acc hb h1 h2 h3 h4 h5 h6
  by_cases hp : p < b.length
  ·by_cases he : (prd (b.drop p)).2.2 = 0
   ·rw [pallF_step f b p acc hp he] at h6 ⊢; have hD : ∀ x ∈ b.drop p, 0 ≤ x ∧ x ≤ 255 := fun x hx => hb x (List.mem_of_mem_drop hx); obtain ⟨n, hn, n1, n2, hc, hf, q0, q1, qb, ql⟩ := prd_ok _ hD he; have hdl : (b.drop p).length = b.length - p := by simp
    rw [hn, Int.toNat_natCast] at h6 ⊢; refine ih b (p + n) _ hb (by omega) (by omega) ?_ ?_ (by simp; omega) h6
    ·rw [List.flatMap_append, h3]; simp only [List.flatMap_cons, List.flatMap_nil, List.append_nil]; rw [hf, ← List.take_add]
    ·intro x hx
     rcases List.mem_append.1 hx with hx | hx
     ·exact h4 x hx
     ·obtain rfl : x = _ := by simpa using hx
      exact ⟨hc, q0, q1, qb, by omega⟩
   ·rw [pallF_err f b p acc hp he] at h6; exact absurd h6 he
  ·rw [pallF_end f b p acc hp]; refine ⟨?_, h4, rfl, by show acc.length ≤ b.length; omega⟩; rw [h3, List.take_of_length_le (by omega)]

theorem pall_ok (b : List Int) (hb : ∀ x ∈ b, 0 ≤ x ∧ x ≤ 255) (h : (pall b).2.2 = 0) : (pall b).1.flatMap fby = b ∧ (∀ x ∈ (pall b).1, Fine b.length x) ∧ (pall b).2.1 = 0 ∧ (pall b).1.length ≤ b.length :=
 pallF_ok _ b 0 [] hb (by omega) (Nat.zero_le _) rfl (by simp) (Nat.le_refl _) h
end Go.Proto
set_option linter.unusedVariables false
set_option linter.unusedSimpArgs false
namespace Go
open Go.RowKit
theorem wpList_appLitAt {P : Program} {w : World} {ops : Array Oper} {rest : List Oper} {o : Oper} {a : Act} {Q : Exit → Act → World → Prop} (w0 : World) (hb : Below w0.heap.size w0 w) (hgd : o.guard = none) (s x : Operand) (t : TypeId)
  (ho : o.op = .call { callee := .builtin .append, args := #[s, x], argTypes := #[t, t] })
  (e : TypeId) (z : Value) (size bytes : Nat) (ht : P.underlying t = some (.slice e)) (hinfo : (P.info? e).map (fun i => (i.zero, i.size, i.bytes)) = some (some z, size, bytes))
  (hzs : z.cells.size = size) (hsz : 0 < size) (hb1 : 0 < bytes)
  (v : Value) (n : Nat) (xs : List Value) (hs : a.eval s = v) (hown : w.ownsRow w0.heap.size e size v n xs)
  (m c B : Nat) (hB : w.heap.size = B) (vs : List Value) (te : TypeId) (hx : a.eval x = .slice (some ⟨B, 0, none⟩) m c) (hl : vs.length = m * size) (h1 : ∀ u ∈ vs, u.oneCell' = true)
  (hbytes : (n + m) * bytes ≤ 140737488355328)
  (h : ∀ v' w', w'.ownsRow w0.heap.size e size v' (n + m) (xs ++ vs) → w.grownBy w' v.ownBlock → Below w0.heap.size w0 w' → (v'.ownBlock = v.ownBlock ∨ v'.ownBlock = some (B + 1)) → wpList P ops Q rest (a.put o.dst v') w') :
  wpList P ops Q (o :: rest) a (w.alloc (.cells vs.toArray te)) := by
 subst hB; obtain ⟨i, hi, hz, hsize, hby⟩ := info_parts hinfo; have h63 : n + m ≤ maxLen := by
  have : (n + m) * 1 ≤ (n + m) * bytes := Nat.mul_le_mul_left _ hb1; unfold maxLen; omega
 have hw1 : w.grownBy (w.alloc (.cells vs.toArray te)) v.ownBlock := World.grownBy_alloc w _ _; refine wpList_append_own_at (w.alloc (.cells vs.toArray te)) hgd s x t ho w0.heap.size e i z size bytes ht hi hz hsize hby hzs hsz v n xs hs (hown.below (Below.new _ _)) ⟨w.heap.size, 0, none⟩ m c vs hx hl ?_ h1 h63 hbytes (by have := hb.size; simp; omega) ?_
 ·exact (Rd.new w vs te).add
 ·intro v' w' h2 h3 _ h5; have h4 := hw1.trans h3; exact h v' w' h2 h4 (hb.grown h4 hb.size (fun k hk => (hown.lt k hk).1)) (by simpa using h5)
end Go
namespace Go
open Go.RowKit Go.Proto

structure FC where
 f : Fld
 p : Option Addr
 c : Nat

def FC.cells (x : FC) : List Value := [.int .i64 x.f.num, .int .i64 x.f.kind, .int .u64 x.f.n, .slice x.p x.f.bs.length x.c]
def FC.val (x : FC) : Value := .agg #[.int .i64 x.f.num, .int .i64 x.f.kind, .int .u64 x.f.n, .slice x.p x.f.bs.length x.c]
def FC.Ok (W : World) (x : FC) : Prop := Rd W x.p (x.f.bs.map (Value.int .u8)) ∧ x.f.bs.length ≤ x.c ∧ x.c ≤ maxLen ∧ (x.p = none → x.c = 0)
def flat (xs : List FC) : List Value := xs.flatMap FC.cells

def rcells (f : Fld) : List Value := [.int .i64 f.num, .int .i64 f.kind, .int .u64 f.n, .string (strOfNums f.bs)]
theorem FC.Ok.keep {w w' : World} {x : FC} (h : x.Ok w) (hb : Below w.heap.size w w') : x.Ok w' := ⟨h.1.keep hb, h.2⟩
theorem FC.Ok.below {B : Nat} {w w' : World} {x : FC} (h : x.Ok w) (hb : Below B w w') (hB : w.heap.size ≤ B) : x.Ok w' := ⟨h.1.below hb hB, h.2⟩
theorem FC.Ok.grown {w w' : World} {r : Option Nat} {x : FC} (h : x.Ok w) (hg : w.grownBy w' r) (hne : ∀ b, x.p.map (·.block) = some b → some b ≠ r) : x.Ok w' := ⟨h.1.grown hg hne, h.2⟩

theorem flat_len (xs : List FC) : (flat xs).length = xs.length * 4 := by
 induction xs with
 | nil => rfl
 | cons x xs ih => simp only [flat, List.flatMap_cons, List.length_append] at *; rw [ih]; simp [FC.cells]; omega
theorem flat_get (xs : List FC) (i j : Nat) (hi : i < xs.length) (hj : j < 4) : (flat xs)[i * 4 + j]? = (xs[i]).cells[j]? := by
 induction xs generalizing i with
 | nil => simp at hi
 | cons x xs ih =>
  simp only [flat, List.flatMap_cons]
  cases i with
  | zero => simp only [Nat.zero_mul, Nat.zero_add, List.getElem_cons_zero]; rw [List.getElem?_append_left (by simp [FC.cells]; omega)]
  | succ i =>
   rw [List.getElem?_append_right (by simp [FC.cells]; omega), List.getElem_cons_succ]; rw [← ih i (by simpa using hi)]; simp only [FC.cells, List.length_cons, List.length_nil, flat]
   congr 1; omega
theorem flat_snoc (xs : List FC) (x : FC) : flat (xs ++ [x]) = flat xs ++ x.cells := by simp [flat]
theorem FC.cells_one (x : FC) : ∀ u ∈ x.cells, u.oneCell' = true := by intro u hu; simp [FC.cells] at hu; rcases hu with rfl | rfl | rfl | rfl <;> rfl
end Go
namespace Go.Proofs.YtjggoajfilnfjaaGreat
theorem Tryz.infoField : (Tryz.prog.info? 72).map (fun i => (i.zero, i.size, i.bytes)) = some (some (.agg #[.int .i64 0, .int .i64 0, .int .u64 0, .slice none 0 0]), 4, 48) := by kernel_rfl
end Go.Proofs.YtjggoajfilnfjaaGreat
namespace Go.Proofs.YtjggoajfilnfjaaGreat
open Go.RowKit Go.Vint

theorem vzag_any (u : Int) (h0 : 0 ≤ u) (h1 : u ≤ 18446744073709551615) (w : World) :
  Calls Tryz.prog 123 #[.int .u64 u] w fun e w' => e = .returned (.int .i64 (zag u)) ∧ w = w' := by
 have ha : bits BinOp.and IntKind.u64 u 1 = u % 2 := u64_and1 u h0 (by omega); have HB := Lib.hid (zag_bits u h0 h1)
 go_enter Tryz.func123, Tryz.ntmps123
 go_wp2; go_ret; exact ⟨ret_int HB.out, rfl⟩
end Go.Proofs.YtjggoajfilnfjaaGreat
namespace Go
open Go.RowKit
def byt (s : ByteArray) (i : Nat) : Nat := (s.get! i).toNat
theorem byt_lt (s : ByteArray) (i : Nat) : byt s i < 256 := (s.get! i).toNat_lt
def cont (s : ByteArray) (i : Nat) : Bool := decide (i < s.size) && decide (128 ≤ byt s i) && decide (byt s i < 192)
def badAt (s : ByteArray) (i : Nat) : Bool := decide (Utf8.decode s i = (65533, 1))
def firstF (s : ByteArray) (i : Nat) : Nat × Nat := if badAt s i then (0, 0) else Utf8.decode s i
theorem cont_eq (s : ByteArray) (i : Nat) : (decide (i < s.size) && ((s.get! i).toNat / 64 == 2)) = cont s i := by
 have h := byt_lt s i; unfold cont byt at *; rw [Bool.and_assoc]
 congr 1
 rw [Bool.eq_iff_iff]; simp; omega
theorem decode_eq (s : ByteArray) (i : Nat) : Utf8.decode s i =
    (if byt s i < 128 then (byt s i, 1)
     else if 192 ≤ byt s i ∧ byt s i < 224 ∧ cont s (i + 1) = true then (if 128 ≤ (byt s i - 192) * 64 + (byt s (i + 1) - 128) then ((byt s i - 192) * 64 + (byt s (i + 1) - 128), 2) else (65533, 1))
     else if 224 ≤ byt s i ∧ byt s i < 240 ∧ cont s (i + 1) = true ∧ cont s (i + 2) = true then
       (if 2048 ≤ (byt s i - 224) * 4096 + (byt s (i + 1) - 128) * 64 + (byt s (i + 2) - 128) ∧ ¬ (55296 ≤ (byt s i - 224) * 4096 + (byt s (i + 1) - 128) * 64 + (byt s (i + 2) - 128) ∧ (byt s i - 224) * 4096 + (byt s (i + 1) - 128) * 64 + (byt s (i + 2) - 128) ≤ 57343)
        then ((byt s i - 224) * 4096 + (byt s (i + 1) - 128) * 64 + (byt s (i + 2) - 128), 3) else (65533, 1))
     else if 240 ≤ byt s i ∧ byt s i < 248 ∧ cont s (i + 1) = true ∧ cont s (i + 2) = true ∧ cont s (i + 3) = true then
       (if 65536 ≤ (byt s i - 240) * 262144 + (byt s (i + 1) - 128) * 4096 + (byt s (i + 2) - 128) * 64 + (byt s (i + 3) - 128) ∧ (byt s i - 240) * 262144 + (byt s (i + 1) - 128) * 4096 + (byt s (i + 2) - 128) * 64 + (byt s (i + 3) - 128) ≤ 1114111
        then ((byt s i - 240) * 262144 + (byt s (i + 1) - 128) * 4096 + (byt s (i + 2) - 128) * 64 + (byt s (i + 3) - 128), 4) else (65533, 1))
     else (65533, 1)) := by
  have h0 := byt_lt s i; have h1 := byt_lt s (i + 1); have h2 := byt_lt s (i + 2); have h3 := byt_lt s (i + 3); unfold Utf8.decode; simp only [cont_eq, Nat.add_zero, Utf8.runeError]; show (if (byt s i) < 128 then _ else _) = _; have hm : ∀ k, cont s k = true → 128 ≤ byt s k ∧ byt s k < 192 := by
    intro k h; unfold cont at h; simp only [Bool.and_eq_true, decide_eq_true_eq] at h; omega
  by_cases c0 : byt s i < 128
  · rw [if_pos c0, if_pos c0]; rfl
  rw [if_neg c0, if_neg c0]
  by_cases c1 : 192 ≤ byt s i ∧ byt s i < 224 ∧ cont s (i + 1) = true
  · rw [if_pos c1]; have d1 : ((s.get! i).toNat / 32 == 6 && cont s (i + 1)) = true := by
      rw [c1.2.2, Bool.and_true, beq_iff_eq]; show byt s i / 32 = 6; omega
    rw [if_pos d1]; have := hm _ c1.2.2; show (if byt s i % 32 * 64 + byt s (i + 1) % 64 ≥ 128 then (byt s i % 32 * 64 + byt s (i + 1) % 64, 2) else (65533, 1)) = _; rw [show byt s i % 32 * 64 + byt s (i + 1) % 64 = (byt s i - 192) * 64 + (byt s (i + 1) - 128) by omega]
  · rw [if_neg c1]; have d1 : ¬ ((s.get! i).toNat / 32 == 6 && cont s (i + 1)) = true := by
      intro h; rw [Bool.and_eq_true, beq_iff_eq] at h; have hb : byt s i / 32 = 6 := h.1; exact c1 ⟨by omega, by omega, h.2⟩
    rw [if_neg d1]
    by_cases c2 : 224 ≤ byt s i ∧ byt s i < 240 ∧ cont s (i + 1) = true ∧ cont s (i + 2) = true
    · rw [if_pos c2]; have d2 : ((s.get! i).toNat / 16 == 14 && cont s (i + 1) && cont s (i + 2)) = true := by
        rw [c2.2.2.1, c2.2.2.2, Bool.and_true, Bool.and_true, beq_iff_eq]; show byt s i / 16 = 14; omega
      rw [if_pos d2]; have e1 := hm _ c2.2.2.1; have e2 := hm _ c2.2.2.2; show (if (decide (byt s i % 16 * 4096 + byt s (i + 1) % 64 * 64 + byt s (i + 2) % 64 ≥ 2048) && Utf8.valid ((byt s i % 16 * 4096 + byt s (i + 1) % 64 * 64 + byt s (i + 2) % 64 : Nat) : Int)) = true then (byt s i % 16 * 4096 + byt s (i + 1) % 64 * 64 + byt s (i + 2) % 64, 3) else (65533, 1)) = _; rw [show byt s i % 16 * 4096 + byt s (i + 1) % 64 * 64 + byt s (i + 2) % 64 = (byt s i - 224) * 4096 + (byt s (i + 1) - 128) * 64 + (byt s (i + 2) - 128) by omega]; have hb : (byt s i - 224) * 4096 + (byt s (i + 1) - 128) * 64 + (byt s (i + 2) - 128) < 65536 := by omega
      generalize (byt s i - 224) * 4096 + (byt s (i + 1) - 128) * 64 + (byt s (i + 2) - 128) = r at *
      congr 1
      rw [Bool.and_eq_true]; simp only [Utf8.valid, decide_eq_true_eq, Bool.or_eq_true, Bool.and_eq_true, ge_iff_le, eq_iff_iff]; omega
    · rw [if_neg c2]; have d2 : ¬ ((s.get! i).toNat / 16 == 14 && cont s (i + 1) && cont s (i + 2)) = true := by
        intro h; rw [Bool.and_eq_true, Bool.and_eq_true, beq_iff_eq] at h; have hb : byt s i / 16 = 14 := h.1.1; exact c2 ⟨by omega, by omega, h.1.2, h.2⟩
      rw [if_neg d2]
      by_cases c3 : 240 ≤ byt s i ∧ byt s i < 248 ∧ cont s (i + 1) = true ∧ cont s (i + 2) = true ∧ cont s (i + 3) = true
      · rw [if_pos c3]; have d3 : ((s.get! i).toNat / 8 == 30 && cont s (i + 1) && cont s (i + 2) && cont s (i + 3)) = true := by
          rw [c3.2.2.1, c3.2.2.2.1, c3.2.2.2.2, Bool.and_true, Bool.and_true, Bool.and_true, beq_iff_eq]; show byt s i / 8 = 30; omega
        rw [if_pos d3]; have e1 := hm _ c3.2.2.1; have e2 := hm _ c3.2.2.2.1; have e3 := hm _ c3.2.2.2.2; show (if (decide (byt s i % 8 * 262144 + byt s (i + 1) % 64 * 4096 + byt s (i + 2) % 64 * 64 + byt s (i + 3) % 64 ≥ 65536) && Utf8.valid ((byt s i % 8 * 262144 + byt s (i + 1) % 64 * 4096 + byt s (i + 2) % 64 * 64 + byt s (i + 3) % 64 : Nat) : Int)) = true then (byt s i % 8 * 262144 + byt s (i + 1) % 64 * 4096 + byt s (i + 2) % 64 * 64 + byt s (i + 3) % 64, 4) else (65533, 1)) = _; rw [show byt s i % 8 * 262144 + byt s (i + 1) % 64 * 4096 + byt s (i + 2) % 64 * 64 + byt s (i + 3) % 64 = (byt s i - 240) * 262144 + (byt s (i + 1) - 128) * 4096 + (byt s (i + 2) - 128) * 64 + (byt s (i + 3) - 128) by omega]; generalize (byt s i - 240) * 262144 + (byt s (i + 1) - 128) * 4096 + (byt s (i + 2) - 128) * 64 + (byt s (i + 3) - 128) = r at *
        congr 1
        rw [Bool.and_eq_true]; simp only [Utf8.valid, decide_eq_true_eq, Bool.or_eq_true, Bool.and_eq_true, ge_iff_le, eq_iff_iff]; omega
      · rw [if_neg c3]; have d3 : ¬ ((s.get! i).toNat / 8 == 30 && cont s (i + 1) && cont s (i + 2) && cont s (i + 3)) = true := by
          intro h; rw [Bool.and_eq_true, Bool.and_eq_true, Bool.and_eq_true, beq_iff_eq] at h; have hb : byt s i / 8 = 30 := h.1.1.1; exact c3 ⟨by omega, by omega, h.1.1.2, h.1.2, h.2⟩
        rw [if_neg d3]
end Go
namespace Go
open Go.RowKit
theorem get_lt {s : ByteArray} {i : Nat} (h : i < s.size) : s.data.toList[i]? = some (s.get! i) := by
 rw [Array.getElem?_toList]; have : s.get! i = s.data[i]'h := by
  show s.data[i]! = _; rw [getElem!_pos s.data i h]
 rw [this, Array.getElem?_eq_getElem h]
theorem ext_size (s : ByteArray) (i : Nat) : (s.extract i s.size).size = s.size - i := by
 simp [ByteArray.size_extract]
theorem ext_get (s : ByteArray) (i k : Nat) (h : i + k < s.size) : (s.extract i s.size).get! k = s.get! (i + k) := by
 have h1 : k < (s.extract i s.size).size := by rw [ext_size]; omega
 have e1 := get_lt h1; have e2 := get_lt h; have : (s.extract i s.size).data.toList[k]? = s.data.toList[i + k]? := by
  rw [Array.getElem?_toList, Array.getElem?_toList, ByteArray.data_extract, Array.getElem?_extract]; have hs : s.data.size = s.size := rfl; rw [hs, Nat.min_self, if_pos (by omega)]
 rw [this, e2] at e1; exact (Option.some.inj e1).symm
theorem byt_out {s : ByteArray} {i : Nat} (h : ¬ i < s.size) : byt s i = 0 := by
 unfold byt; have : s.get! i = default := by
  show s.data[i]! = _; rw [getElem!_neg s.data i h]
 rw [this]; rfl
theorem ext_byt (s : ByteArray) (i k : Nat) : byt (s.extract i s.size) k = byt s (i + k) := by
 by_cases h : i + k < s.size
 ·unfold byt; rw [ext_get s i k h]
 ·rw [byt_out h, byt_out (by rw [ext_size]; omega)]
theorem ext_cont (s : ByteArray) (i k : Nat) : cont (s.extract i s.size) k = cont s (i + k) := by
 unfold cont; rw [ext_byt, ext_size]
 by_cases h : i + k < s.size
 ·simp [h, show k < s.size - i by omega]
 ·simp [h, show ¬ k < s.size - i by omega]
theorem ext_decode (s : ByteArray) (i k : Nat) : Utf8.decode (s.extract i s.size) k = Utf8.decode s (i + k) := by
 rw [decode_eq, decode_eq]; simp only [ext_byt, ext_cont, Nat.add_assoc]
theorem ext_bad (s : ByteArray) (i k : Nat) : badAt (s.extract i s.size) k = badAt s (i + k) := by
 unfold badAt; rw [ext_decode]
theorem ext_first (s : ByteArray) (i k : Nat) : firstF (s.extract i s.size) k = firstF s (i + k) := by
 unfold firstF; rw [ext_bad, ext_decode]
theorem cont_iff (s : ByteArray) (i : Nat) : cont s i = true ↔ i < s.size ∧ 128 ≤ byt s i ∧ byt s i < 192 := by
 unfold cont; simp only [Bool.and_eq_true, decide_eq_true_eq, and_assoc]
theorem decode_wid {s : ByteArray} {i : Nat} (h : i < s.size) : 1 ≤ (Utf8.decode s i).2 ∧ i + (Utf8.decode s i).2 ≤ s.size ∧ (Utf8.decode s i).2 ≤ 4 ∧ (Utf8.decode s i).1 ≤ 1114111 := by
 have h0 := byt_lt s i; have c1 := cont_iff s (i + 1); have c2 := cont_iff s (i + 2); have c3 := cont_iff s (i + 3); rw [decode_eq]
 repeat' split
 all_goals simp_all
 all_goals omega
theorem bad_iff {s : ByteArray} {i : Nat} (h : i < s.size) : badAt s i = true ↔ (Utf8.decode s i).1 = 65533 ∧ ¬ (byt s i = 239 ∧ byt s (i + 1) = 191 ∧ byt s (i + 2) = 189) := by
 have h0 := byt_lt s i; have c1 := cont_iff s (i + 1); have c2 := cont_iff s (i + 2); have c3 := cont_iff s (i + 3); have o1 : ¬ i + 1 < s.size → byt s (i + 1) = 0 := byt_out; have o2 : ¬ i + 2 < s.size → byt s (i + 2) = 0 := byt_out; unfold badAt; rw [decide_eq_true_eq, decode_eq]
 repeat' split
 all_goals simp_all
 all_goals omega
theorem isPrefixOf_three (l : List UInt8) (a b c : UInt8) : [a, b, c].isPrefixOf l = (decide (l[0]? = some a) && decide (l[1]? = some b) && decide (l[2]? = some c)) := by
 match l with
 | [] => simp [List.isPrefixOf]
 | [x] => simp [List.isPrefixOf]
 | [x, y] => simp [List.isPrefixOf]
 | x :: y :: z :: t =>
  simp only [List.isPrefixOf, Bool.and_true, List.getElem?_cons_zero, List.getElem?_cons_succ, Option.some.injEq, Bool.and_assoc]; rw [Bool.eq_iff_iff]; simp only [Bool.and_eq_true, beq_iff_eq, decide_eq_true_eq]; constructor <;> (rintro ⟨rfl, rfl, rfl⟩; exact ⟨rfl, rfl, rfl⟩)
theorem get_byt {s : ByteArray} {i : Nat} {b : UInt8} : s.data.toList[i]? = some b ↔ i < s.size ∧ byt s i = b.toNat := by
 by_cases h : i < s.size
 ·rw [get_lt h]; simp only [Option.some.injEq, h, true_and]; unfold byt; exact ⟨fun e => by rw [e], fun e => UInt8.toNat_inj.1 e⟩
 ·have : s.data.toList[i]? = none := by rw [Array.getElem?_toList]; exact Array.getElem?_eq_none (Nat.le_of_not_lt h)
  rw [this]; simp [h]
theorem pre_fffd (s : ByteArray) (i : Nat) : Lib.hasPrefix (s.extract i s.size).data.toList [239, 191, 189] = decide (byt s i = 239 ∧ byt s (i + 1) = 191 ∧ byt s (i + 2) = 189) := by
 unfold Lib.hasPrefix; rw [isPrefixOf_three]; have e : ∀ (k : Nat) (b : UInt8), 0 < b.toNat → ((s.extract i s.size).data.toList[k]? = some b ↔ byt s (i + k) = b.toNat) := by
  intro k b hb; rw [get_byt, ext_byt, ext_size]; constructor
  ·exact fun h => h.2
  ·intro h; refine ⟨?_, h⟩
   by_cases hk : i + k < s.size
   ·omega
   ·rw [byt_out hk] at h; omega
 rw [Bool.eq_iff_iff]; simp only [Bool.and_eq_true, decide_eq_true_eq, e 0 239 (by decide), e 1 191 (by decide), e 2 189 (by decide), Nat.add_zero, and_assoc]; exact Iff.rfl
end Go
namespace Go.Proofs.YtjggoajfilnfjaaGreat
open Go.RowKit

set_option maxHeartbeats 800000 in
theorem bad_any (s : ByteArray) (i : Nat) (h : i < s.size) (hs : s.size ≤ maxLen) (w : World) :
  Calls Tryz.prog 102 #[.string s, .int .i64 i, .int .i32 (Utf8.decode s i).1] w fun e w' => e = .returned (.bool (badAt s i)) ∧ w' = w := by
 have hb := bad_iff h; have hp := pre_fffd s i; have hi : (i : Int) ≤ (s.size : Int) := by omega
 obtain ⟨X, hX⟩ : ∃ X : Bool, decide (byt s i = 239 ∧ byt s (i + 1) = 191 ∧ byt s (i + 2) = 189) = X := ⟨_, rfl⟩; have HC : Hid (∀ w, Calls Tryz.prog 119 #[.string (s.extract i s.size), .string ⟨#[239, 191, 189]⟩] w fun e w' => e = .returned (.bool X) ∧ w' = w) := Lib.hid (fun w => by
  have := Tryz.strings_HasPrefix (s.extract i s.size) ⟨#[239, 191, 189]⟩ w; rw [show (⟨#[239, 191, 189]⟩ : ByteArray).data.toList = [239, 191, 189] from rfl, hp, hX] at this; exact this)
 have HB : Hid ((badAt s i) = (decide ((Utf8.decode s i).1 = 65533) && !X)) := Lib.hid (by
  rw [← hX, Bool.eq_iff_iff, hb, Bool.and_eq_true, Bool.not_eq_true', decide_eq_true_eq, decide_eq_false_iff_not])
 clear hb hp hX; generalize badAt s i = B at *; generalize (Utf8.decode s i).1 = r at *
 go_enter Tryz.func102, Tryz.ntmps102
 by_cases hr : (r : Int) = 65533
 ·have hB : B = !X := by rw [HB.out]; simp; omega
  rw [hr]; subst hB
  go_wp2_with fail
  refine (HC.out _).mono ?_; rintro e w1 ⟨rfl, rfl⟩; go_wp2; go_ret; exact ⟨rfl, rfl⟩
 ·have hB : B = false := by rw [HB.out]; simp; omega
  subst hB; have hrb : ((r : Int) == 65533) = false := by simp; omega
  go_wp2; go_ret; exact ⟨rfl, rfl⟩
end Go.Proofs.YtjggoajfilnfjaaGreat
namespace Go
open Go.RowKit
def rl (s : ByteArray) : Nat → Nat → List (Nat × Nat)
 | 0, _ => []
 | f + 1, p => if p < s.size then ((Utf8.decode s p).1, p) :: rl s f (p + (Utf8.decode s p).2) else []
def runesF (s : ByteArray) : List (Nat × Nat) := rl s s.size 0
def rightF (s : ByteArray) : Bool := (runesF s).all (fun x => !badAt s x.2)
theorem rl_end (s : ByteArray) (f p : Nat) (h : ¬ p < s.size) : rl s f p = [] := by
 cases f with
 | zero => rfl
 | succ f => simp [rl, h]
theorem rl_step (s : ByteArray) (f p : Nat) (h : p < s.size) : rl s (f + 1) p = ((Utf8.decode s p).1, p) :: rl s f (p + (Utf8.decode s p).2) := by simp [rl, h]
theorem below_iter (w : World) (s : ByteArray) (p : Nat) : Below w.heap.size w (w.iter s p) := (Below.refl _ _).alloc (Nat.le_refl _) _
end Go
namespace Go.Proofs.YtjggoajfilnfjaaGreat
open Go.RowKit

set_option maxHeartbeats 800000 in
theorem count_any (s : ByteArray) (hs : s.size ≤ maxLen) (w : World) :
  Calls Tryz.prog 83 #[.string s] w fun e w' => e = .returned (.tuple #[.int .i64 (if rightF s then ((runesF s).length : Int) else 0), .bool (rightF s)]) ∧ Below w.heap.size w w' := by
 have hs2 : s.size ≤ 9223372036854775807 := by unfold maxLen at hs; omega
 obtain ⟨C, hC⟩ : ∃ C : Int, (if rightF s then ((runesF s).length : Int) else 0) = C := ⟨_, rfl⟩; rw [hC]; obtain ⟨T, hT⟩ : ∃ T : Bool, rightF s = T := ⟨_, rfl⟩; rw [hT] at hC ⊢; have HC := Lib.hid hC; have HT := Lib.hid hT; clear hC hT
 go_enter Tryz.func83, Tryz.ntmps83
 go_wp2
 go_loopw [4] (fun n wr => ∃ (p f : Nat) (pre : List (Nat × Nat)), n = .int .i64 (pre.length : Int) ∧ wr = w.iter s p ∧ Hid (runesF s = pre ++ rl s f p) ∧ Hid (pre.all (fun x => !badAt s x.2) = true) ∧ s.size ≤ p + f ∧ pre.length ≤ p ∧ p ≤ s.size) (fun n _ => s.size - (intOf n).toNat)
 case atStart => exact ⟨0, s.size, [], rfl, rfl, Lib.hid rfl, Lib.hid rfl, by omega, by simp, by omega⟩
 case round =>
  obtain ⟨p, f, pre, rfl, rfl, HR, HA, hpf, hpl, hps⟩ := hrel
  by_cases hp : p < s.size
  ·obtain ⟨f, rfl⟩ : ∃ g, f = g + 1 := ⟨f - 1, by omega⟩; have hnx : ∀ ty, (Instr.next (.pointer (some ⟨w.heap.size, 0, none⟩)) true ty).run Tryz.prog (w.iter s p) = _ := fun ty => run_next_any w s p ty hp; have hwd := decode_wid hp; have hbad := bad_any s p hp hs; rw [rl_step s f p hp] at HR; have HRT : Hid (badAt s p = true → rightF s = false) := Lib.hid (fun h => by
    unfold rightF; rw [HR.out, List.all_append, List.all_cons]; simp [h])
   obtain ⟨B, hB⟩ : ∃ B, badAt s p = B := ⟨_, rfl⟩; have HBB := Lib.hid hB; rw [hB] at hbad HRT; clear hB; obtain ⟨W, hW⟩ : ∃ W, p + (Utf8.decode s p).2 = W := ⟨_, rfl⟩; rw [hW] at hnx HR; obtain ⟨R, hR⟩ : ∃ R, (Utf8.decode s p).1 = R := ⟨_, rfl⟩; rw [hR] at hnx hbad HR; have HBAD := Lib.hid hbad; have hbW : Below w.heap.size w (w.iter s W) := below_iter w s W; have hWb : p < W ∧ W ≤ s.size := by omega
   clear hbad hwd hR hW
   go_wp2_with fail
   refine (HBAD.out _).mono ?_; rintro e w1 ⟨rfl, rfl⟩
   cases B with
   | true =>
    have HF := Lib.hid (HRT.out rfl); clear HRT; go_wp2; refine bodyPost_ret (v := .tuple #[.int .i64 0, .bool false]) (by simp [results, Tryz.results83, go_sem]) rfl ⟨?_, hbW⟩; rw [← HC.out, ← HT.out, HF.out]; rfl
   | false =>
    have hlen : Value.int .i64 ((pre.length : Int) + 1) = Value.int .i64 (((pre ++ [(R, p)]).length : Nat) : Int) := by simp
    have hw0 : IntKind.i64.wrap ((pre.length : Int) + 1) = (pre.length : Int) + 1 := IntWalk.i64_in _ (by omega); go_wp2; go_roundw
    case rel => exact ⟨W, f, pre ++ [(R, p)], rfl, rfl, Lib.hid (by rw [HR.out, List.append_assoc]; rfl), Lib.hid (by rw [List.all_append, HA.out]; simp [HBB.out]), by omega, by simp; omega, by omega⟩
    case measure => simp [intOf]; omega
  ·have hnx : ∀ ty, (Instr.next (.pointer (some ⟨w.heap.size, 0, none⟩)) true ty).run Tryz.prog (w.iter s p) = _ := fun ty => Lib.run_next_end_at (w.iter s p) w.heap.size s p ty (World.iter_heap w s p) hp; have hbW : Below w.heap.size w (w.iter s p) := below_iter w s p; rw [rl_end s f p hp, List.append_nil] at HR; have hF : rightF s = true := by unfold rightF; rw [HR.out]; exact HA.out
   have HF := Lib.hid hF; clear hF HA; go_wp2; refine bodyPost_ret (v := .tuple #[.int .i64 (pre.length : Int), .bool true]) (by simp [results, Tryz.results83, go_sem]) rfl ⟨?_, hbW⟩; rw [← HC.out, ← HT.out, HF.out, HR.out]; simp

theorem right_any (s : ByteArray) (hs : s.size ≤ maxLen) (w : World) :
  Calls Tryz.prog 57 #[.string s] w fun e w' => e = .returned (.bool (rightF s)) ∧ Below w.heap.size w w' := by
 have hc := Lib.hid (count_any s hs); generalize (if rightF s then ((runesF s).length : Int) else 0) = C at *; generalize rightF s = T at *
 go_enter Tryz.func57, Tryz.ntmps57
 go_wp2_with fail
 refine (hc.out _).mono ?_; rintro e w1 ⟨rfl, hb⟩; go_wp2; go_ret; exact ⟨rfl, hb⟩
end Go.Proofs.YtjggoajfilnfjaaGreat
set_option maxRecDepth 100000
namespace Go
open Go.RowKit
theorem empty_txt (s : ByteArray) : s.toList.isEmpty = decide (s.size = 0) := by
 rw [ByteArray.toList_eq]; obtain ⟨⟨l⟩⟩ := s
 cases l <;> simp [ByteArray.size]
def vcF (k : Int) (t : ByteArray) (n : Int) : Int :=
 if k = 1 then (if n ≠ 0 then 3 else if rightF t = false then 13 else if 64 < t.size then 2 else 0)
 else if k = 3 then (if t.size ≠ 0 then 3 else if n < -1152921504606846976 ∨ 1152921504606846976 < n then 5 else 0)
 else if k = 2 then (if t.size ≠ 0 then 3 else if n < 0 ∨ 1152921504606846976 < n then 5 else 0)
 else if k = 4 then (if t.size ≠ 0 then 3 else if n < 0 ∨ 1 < n then 5 else 0)
 else 14
end Go
namespace Go.Proofs.YtjggoajfilnfjaaGreat
open Go.RowKit

set_option maxHeartbeats 3200000 in
theorem vchk_any (k n : Int) (t : ByteArray) (ht : t.size ≤ maxLen) (w : World) :
  Calls Tryz.prog 81 #[.agg #[.int .i64 k, .string t, .int .i64 n]] w fun e w' => e = .returned (.int .i64 (vcF k t n)) ∧ Below w.heap.size w w' := by
 have hs2 : t.size ≤ 9223372036854775807 := by unfold maxLen at ht; omega
 have HV := Lib.hid (vcF.eq_1 k t n); have HRI := Lib.hid (fun W => right_any t ht W); have HTE : Hid (t.size = 0 → t = ⟨#[]⟩) := Lib.hid (fun h => by
  apply ByteArray.ext; exact Array.eq_empty_of_size_eq_zero h)
 have HTN : Hid (t.size ≠ 0 → t.toList.isEmpty = false) := Lib.hid (fun h => by rw [empty_txt]; simp [h]); generalize vcF k t n = V at *; generalize rightF t = T at *; have k1 := Blk.lit w w.heap.size [.int .i64 k, .string t, .int .i64 n] 101 rfl; have hb0 := Below.new w (.cells #[.int .i64 k, .string t, .int .i64 n] 101); obtain ⟨B, hB⟩ : ∃ B, w.heap.size = B := ⟨_, rfl⟩; have HBE := Lib.hid hB; rw [hB] at k1; have x0 := k1.cell 0 rfl; have x1 := k1.cell 1 rfl; have x2 := k1.cell 2 rfl
 go_enter Tryz.func81, Tryz.ntmps81
 by_cases h1 : k = 1
 ·have hq := HV.out; rw [if_pos h1] at hq; subst h1; have hV := Lib.hid hq; clear HV hq
  by_cases hn : n = 0
  ·have hV2 := hV.out; rw [if_neg (by omega)] at hV2; replace hV := Lib.hid hV2; subst hn; clear hV2
   go_wp2_with fail
   refine (HRI.out _).mono ?_; rintro e w1 ⟨rfl, hb1⟩; have k2 := k1.keep hb1; have hbw := hb0.trans (hb1.mono hb0.size); clear x0 x1 x2 hb1; have x0 := k2.cell 0 rfl; have x1 := k2.cell 1 rfl; have x2 := k2.cell 2 rfl
   cases T with
   | false =>
    go_wp2; go_ret; exact ⟨ret_int (by rw [hV.out]; simp), hbw⟩
   | true =>
    by_cases hl : 64 < t.size
    ·have hl' : (64 : Int) < (t.size : Int) := by omega
     go_wp2; go_ret; exact ⟨ret_int (by rw [hV.out]; simp [hl]), hbw⟩
    ·have hl' : ¬ (64 : Int) < (t.size : Int) := by omega
     go_wp2; go_ret; exact ⟨ret_int (by rw [hV.out]; simp [hl]), hbw⟩
  ·have hV2 := hV.out; rw [if_pos hn] at hV2; have hV2 := Lib.hid hV2; have hn' : (n == 0) = false := by simpa using hn
   go_wp2; go_ret; exact ⟨ret_int hV2.out.symm, by first | exact hb0 | (rw [← HBE.out]; exact hb0)⟩
 ·have h1' : (k == 1) = false := by simpa using h1
  have hq := HV.out; rw [if_neg h1] at hq; replace HV := Lib.hid hq; clear hq
  by_cases h3 : k = 3
  ·have hq := HV.out; rw [if_pos h3] at hq; subst h3; have hV := Lib.hid hq; clear HV hq h1 h1'
   by_cases hz : t.size = 0
   ·have hV2 := hV.out; rw [if_neg (by omega)] at hV2; replace hV := Lib.hid hV2; clear hV2; obtain rfl := HTE.out hz; clear hz HTE HTN HRI
    by_cases ha : n < -1152921504606846976
    ·go_wp2; go_ret; exact ⟨ret_int (by rw [hV.out]; simp [ha]), by first | exact hb0 | (rw [← HBE.out]; exact hb0)⟩
    ·by_cases hc : 1152921504606846976 < n
     ·go_wp2; go_ret; exact ⟨ret_int (by rw [hV.out]; simp [hc]), by first | exact hb0 | (rw [← HBE.out]; exact hb0)⟩
     ·go_wp2; go_ret; exact ⟨ret_int (by rw [hV.out, if_neg (by omega)]), by first | exact hb0 | (rw [← HBE.out]; exact hb0)⟩
   ·have hV2 := hV.out; rw [if_pos hz] at hV2; have hV2 := Lib.hid hV2; have hte := HTN.out hz; go_wp2; go_ret; exact ⟨ret_int hV2.out.symm, by first | exact hb0 | (rw [← HBE.out]; exact hb0)⟩
  ·have h3' : (k == 3) = false := by simpa using h3
   have hq := HV.out; rw [if_neg h3] at hq; replace HV := Lib.hid hq; clear hq
   by_cases h2 : k = 2
   ·have hq := HV.out; rw [if_pos h2] at hq; subst h2; have hV := Lib.hid hq; clear HV hq h1 h1' h3 h3'
    by_cases hz : t.size = 0
    ·have hV2 := hV.out; rw [if_neg (by omega)] at hV2; replace hV := Lib.hid hV2; clear hV2; obtain rfl := HTE.out hz; clear hz HTE HTN HRI
     by_cases ha : n < 0
     ·go_wp2; go_ret; exact ⟨ret_int (by rw [hV.out]; simp [ha]), by first | exact hb0 | (rw [← HBE.out]; exact hb0)⟩
     ·by_cases hc : 1152921504606846976 < n
      ·go_wp2; go_ret; exact ⟨ret_int (by rw [hV.out]; simp [hc]), by first | exact hb0 | (rw [← HBE.out]; exact hb0)⟩
      ·go_wp2; go_ret; exact ⟨ret_int (by rw [hV.out, if_neg (by omega)]), by first | exact hb0 | (rw [← HBE.out]; exact hb0)⟩
    ·have hV2 := hV.out; rw [if_pos hz] at hV2; have hV2 := Lib.hid hV2; have hte := HTN.out hz; go_wp2; go_ret; exact ⟨ret_int hV2.out.symm, by first | exact hb0 | (rw [← HBE.out]; exact hb0)⟩
   ·have h2' : (k == 2) = false := by simpa using h2
    have hq := HV.out; rw [if_neg h2] at hq; replace HV := Lib.hid hq; clear hq
    by_cases h4 : k = 4
    ·have hq := HV.out; rw [if_pos h4] at hq; subst h4; have hV := Lib.hid hq; clear HV hq h1 h1' h3 h3' h2 h2'
     by_cases hz : t.size = 0
     ·have hV2 := hV.out; rw [if_neg (by omega)] at hV2; replace hV := Lib.hid hV2; clear hV2; obtain rfl := HTE.out hz; clear hz HTE HTN HRI
      by_cases ha : n < 0
      ·go_wp2; go_ret; exact ⟨ret_int (by rw [hV.out]; simp [ha]), by first | exact hb0 | (rw [← HBE.out]; exact hb0)⟩
      ·by_cases hc : 1 < n
       ·go_wp2; go_ret; exact ⟨ret_int (by rw [hV.out]; simp [hc]), by first | exact hb0 | (rw [← HBE.out]; exact hb0)⟩
       ·go_wp2; go_ret; exact ⟨ret_int (by rw [hV.out, if_neg (by omega)]), by first | exact hb0 | (rw [← HBE.out]; exact hb0)⟩
     ·have hV2 := hV.out; rw [if_pos hz] at hV2; have hV2 := Lib.hid hV2; have hte := HTN.out hz; go_wp2; go_ret; exact ⟨ret_int hV2.out.symm, by first | exact hb0 | (rw [← HBE.out]; exact hb0)⟩
    ·have h4' : (k == 4) = false := by simpa using h4
     have hq := HV.out; rw [if_neg h4] at hq; replace HV := Lib.hid hq; clear hq; go_wp2; go_ret; exact ⟨ret_int HV.out.symm, by first | exact hb0 | (rw [← HBE.out]; exact hb0)⟩
end Go.Proofs.YtjggoajfilnfjaaGreat
namespace Go
open Go.RowKit
abbrev VV := Int × ByteArray × Int
def vZ : VV := (0, ⟨#[]⟩, 0)
def vVal (v : Int × ByteArray × Int) : Value := .agg #[.int .i64 v.1, .string v.2.1, .int .i64 v.2.2]
def vCells (v : Int × ByteArray × Int) : List Value := [.int .i64 v.1, .string v.2.1, .int .i64 v.2.2]
def vE (v : VV) : Int := vcF v.1 v.2.1 v.2.2
theorem vE_zero (v : VV) (h : vE v = 0) : (v.1 = 1 ∧ v.2.2 = 0 ∧ v.2.1.size ≤ 64) ∨ (v.1 = 2 ∧ v.2.1 = ⟨#[]⟩ ∧ 0 ≤ v.2.2 ∧ v.2.2 ≤ 1152921504606846976) ∨ (v.1 = 3 ∧ v.2.1 = ⟨#[]⟩ ∧ -1152921504606846976 ≤ v.2.2 ∧ v.2.2 ≤ 1152921504606846976) ∨ (v.1 = 4 ∧ v.2.1 = ⟨#[]⟩ ∧ 0 ≤ v.2.2 ∧ v.2.2 ≤ 1) := by
 obtain ⟨k, t, n⟩ := v; unfold vE vcF at h; dsimp only at h ⊢; have ht : t.size = 0 → t = ⟨#[]⟩ := fun h => by
  apply ByteArray.ext; exact Array.eq_empty_of_size_eq_zero h
 split at h
 ·split at h
  ·omega
  ·split at h
   ·omega
   ·split at h <;> first | (exfalso; omega) | (left; omega)
 ·split at h
  ·split at h
   ·omega
   ·split at h
    ·omega
    ·right; right; left; exact ⟨by omega, ht (by omega), by omega, by omega⟩
  ·split at h
   ·split at h
    ·omega
    ·split at h
     ·omega
     ·right; left; exact ⟨by omega, ht (by omega), by omega, by omega⟩
   ·split at h
    ·split at h
     ·omega
     ·split at h
      ·omega
      ·right; right; right; exact ⟨by omega, ht (by omega), by omega, by omega⟩
    ·omega
end Go

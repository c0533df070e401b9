/-
  Fields of messages, told and all of them read: plain functions, and what they obey. append of a literal: where it lies, and where the new row lies. Rows of fields: the program's (bytes behind a slice) and the document's (bytes in a string). varint.Zag. value.known: the value of a field. Runes of a text: the model's decoding and the document's first rune, in plain terms.
-/
import Derived.Test.YtinogphhbbaobaaDoorPk2
import Derived.Test.YtinogphhbbaobaaDoorPk1
import Derived.Maps.AppendAt
import Derived.Test.YtinogphhbbaobaaDoorPk4
import Derived.Test.YtinogphhbbaobaaDoorProg
import Derived.Laws.RangeAny
/- Fields of messages, told and all of them read: plain functions, and what they obey. -/
namespace Go.Proto
open Go.Vint

def chk (f : Fld) : Int :=
  if f.num < 1 ∨ 536870911 < f.num then 5
  else if f.kind ≠ 0 ∧ f.kind ≠ 1 ∧ f.kind ≠ 2 ∧ f.kind ≠ 5 then 14
  else if f.kind = 2 ∧ 0 < f.n ∨ f.kind ≠ 2 ∧ f.bs ≠ [] then 3
  else if f.kind = 5 ∧ 4294967295 < f.n then 5
  else 0

def low (n : Int) : Nat → List Int
  | 0 => []
  | k + 1 => n % 256 :: low (n / 256) k

def tail (f : Fld) : List Int :=
  if f.kind = 0 then vb f.n else if f.kind = 1 then low f.n 8 else if f.kind = 5 then low f.n 4 else vb f.bs.length ++ f.bs

def fby (f : Fld) : List Int := vb (8 * f.num + f.kind) ++ tail f

theorem low_len (n : Int) (k : Nat) : (low n k).length = k := by
  induction k generalizing n with
  | zero => rfl
  | succ k ih => simp [low, ih]

theorem low_le (l : List Int) (h : ∀ x ∈ l, 0 ≤ x ∧ x ≤ 255) : low (le l) l.length = l := by
  induction l with
  | nil => rfl
  | cons x l ih =>
    have hx := h x (by simp); have h1 : (x + 256 * le l) % 256 = x := by omega
    have h2 : (x + 256 * le l) / 256 = le l := by omega
    simp only [le, List.length_cons, low, h1, h2]; rw [ih (fun y hy => h y (by simp [hy]))]

theorem rd_bytes (b : List Int) (hb : ∀ x ∈ b, 0 ≤ x ∧ x ≤ 255) (h : (rd b).2.2 = 0) :
    ∃ k : Nat, k < b.length ∧ (rd b).2.1 = (k : Int) + 1 ∧ vb (rd b).1 = b.take (k + 1) := by
  obtain ⟨k, hk, he, hc, -, -, h0⟩ := rd_ok b h; exact ⟨k, hk, by rw [he], by rw [he]; exact vb_rd b hb k hk hc h0⟩

theorem prd_ok (b : List Int) (hb : ∀ x ∈ b, 0 ≤ x ∧ x ≤ 255) (h : (prd b).2.2 = 0) :
    ∃ n : Nat, (prd b).2.1 = n ∧ 1 ≤ n ∧ n ≤ b.length ∧ chk (prd b).1 = 0 ∧ fby (prd b).1 = b.take n ∧ 0 ≤ (prd b).1.n ∧ (prd b).1.n ≤ 18446744073709551615 ∧ (∀ x ∈ (prd b).1.bs, 0 ≤ x ∧ x ≤ 255) ∧ (prd b).1.bs.length ≤ b.length := by
  unfold prd at *
  split at h
  · rename_i h1; rw [if_pos h1]; obtain ⟨k, hk, hr1, hv⟩ := rd_bytes b hb h1; have hkb := rd_bd b hb h1; generalize (rd b).1 = key at *; generalize (rd b).2.1 = pk at *; subst hr1
    split at h
    · simp at h
    · rename_i h2; rw [if_neg h2]; have hp : ((k : Int) + 1).toNat = k + 1 := by omega
      rw [hp] at h ⊢; have hkey : 8 * (key / 8) + key % 8 = key := by omega
      have hD : ∀ x ∈ b.drop (k + 1), 0 ≤ x ∧ x ≤ 255 := fun x hx => hb x (List.mem_of_mem_drop hx); have hDl : (b.drop (k + 1)).length = b.length - (k + 1) := by simp
      have hcat : ∀ m, b.take (k + 1) ++ (b.drop (k + 1)).take m = b.take (k + 1 + m) := by
        intro m; exact (List.take_add).symm
      have hdd : ∀ m, (b.drop (k + 1)).drop m = b.drop (k + 1 + m) := by intro m; rw [List.drop_drop]
      generalize hDe : b.drop (k + 1) = D at *; unfold body at *; rw [hDe] at h ⊢
      by_cases c0 : key % 8 = 0
      · rw [if_pos (.inl c0)] at h ⊢
        split at h
        · rename_i h3; rw [if_pos h3, if_pos c0] at *; obtain ⟨m, hm, hr2, hv2⟩ := rd_bytes D hD h3; have hnb := rd_bd D hD h3; refine ⟨k + 1 + (m + 1), by rw [hr2]; simp, by omega, by omega, ?_, ?_, hnb.1, hnb.2, by simp, by simp⟩
          · simp [chk]; omega
          · simp only [fby, tail, if_pos]; rw [show 8 * (key / 8) + 0 = key by omega, hv, hv2, hcat]
        · rename_i h3; exact absurd h h3
      · by_cases c2 : key % 8 = 2
        · rw [if_pos (.inr c2)] at h ⊢
          split at h
          · rename_i h3; rw [if_pos h3, if_neg c0] at *; obtain ⟨m, hm, hr2, hv2⟩ := rd_bytes D hD h3; have hnb := rd_bd D hD h3
            split at h
            · simp at h
            · rename_i h4; rw [if_neg h4]; generalize (rd D).1 = nn at *; rw [hr2] at h4 ⊢; have hm1 : ((m : Int) + 1).toNat = m + 1 := by omega
              rw [hm1]; obtain ⟨z, rfl⟩ : ∃ z : Nat, nn = z := ⟨nn.toNat, by omega⟩; have hz : ((b.drop (k + 1 + (m + 1))).take (z : Int).toNat).length = z := by simp; omega
              refine ⟨k + 1 + (m + 1) + z, by simp, by omega, by omega, ?_, ?_, by simp, by simp, fun x hx => hb x (List.mem_of_mem_drop (List.mem_of_mem_take hx)), by rw [hz]; omega⟩
              · simp [chk]; omega
              · simp only [fby, tail]; rw [hz, show 8 * (key / 8) + 2 = key by omega, hv, if_neg (by decide), if_neg (by decide), if_neg (by decide), hv2, ← List.append_assoc, hcat, Int.toNat_natCast, ← List.take_add]
          · rename_i h3; exact absurd h h3
        · rw [if_neg (by omega)] at h ⊢
          by_cases c1 : key % 8 = 1
          · rw [if_pos c1] at h ⊢
            split at h
            · simp at h
            · rename_i h4; rw [if_neg h4]; have hT : ∀ x ∈ D.take 8, 0 ≤ x ∧ x ≤ 255 := fun x hx => hD x (List.mem_of_mem_take hx); have hTl : (D.take 8).length = 8 := by simp; omega
              have h8 := le_8 (D.take 8) hT 8 (by omega) (by omega); have hlo := low_le (D.take 8) hT; rw [hTl] at hlo; refine ⟨k + 1 + 8, by simp, by omega, by omega, ?_, ?_, h8.1, by have := h8.2; simp at this ⊢; omega, by simp, by simp⟩
              · simp [chk]; omega
              · simp only [fby, tail]; rw [show 8 * (key / 8) + 1 = key by omega, hv, if_neg (by decide), if_pos trivial, hlo, hcat]
          · rw [if_neg c1] at h ⊢
            by_cases c5 : key % 8 = 5
            · rw [if_pos c5] at h ⊢
              split at h
              · simp at h
              · rename_i h4; rw [if_neg h4]; have hT : ∀ x ∈ D.take 4, 0 ≤ x ∧ x ≤ 255 := fun x hx => hD x (List.mem_of_mem_take hx); have hTl : (D.take 4).length = 4 := by simp; omega
                have h8 := le_8 (D.take 4) hT 4 (by omega) (by omega); have hlo := low_le (D.take 4) hT; rw [hTl] at hlo; simp only [Int.reducePow] at h8; refine ⟨k + 1 + 4, by simp, by omega, by omega, ?_, ?_, h8.1, by simp; omega, by simp, by simp⟩
                · simp [chk]; omega
                · simp only [fby, tail]; rw [show 8 * (key / 8) + 5 = key by omega, hv, if_neg (by decide), if_neg (by decide), if_pos trivial, hlo, hcat]
            · rw [if_neg c5] at h; simp at h
  · rename_i h1; rw [if_neg h1] at *; exact absurd h h1

def pallF : Nat → List Int → Nat → List Fld → List Fld × Int × Int
  | 0, _, _, _ => ([], 0, 0)
  | f + 1, b, p, acc => if p < b.length then (if (prd (b.drop p)).2.2 = 0 then pallF f b (p + (prd (b.drop p)).2.1.toNat) (acc ++ [(prd (b.drop p)).1]) else ([], (p : Int), (prd (b.drop p)).2.2)) else (acc, 0, 0)
def pall (b : List Int) : List Fld × Int × Int := pallF (b.length + 1) b 0 []

theorem pallF_end (f : Nat) (b : List Int) (p : Nat) (acc : List Fld) (h : ¬ p < b.length) : pallF (f + 1) b p acc = (acc, 0, 0) := by rw [pallF, if_neg h]
theorem pallF_err (f : Nat) (b : List Int) (p : Nat) (acc : List Fld) (h : p < b.length) (he : (prd (b.drop p)).2.2 ≠ 0) : pallF (f + 1) b p acc = ([], (p : Int), (prd (b.drop p)).2.2) := by rw [pallF, if_pos h, if_neg he]
theorem pallF_step (f : Nat) (b : List Int) (p : Nat) (acc : List Fld) (h : p < b.length) (he : (prd (b.drop p)).2.2 = 0) : pallF (f + 1) b p acc = pallF f b (p + (prd (b.drop p)).2.1.toNat) (acc ++ [(prd (b.drop p)).1]) := by rw [pallF, if_pos h, if_pos he]

def Fine (m : Nat) (f : Fld) : Prop := chk f = 0 ∧ 0 ≤ f.n ∧ f.n ≤ 18446744073709551615 ∧ (∀ x ∈ f.bs, 0 ≤ x ∧ x ≤ 255) ∧ f.bs.length ≤ m

theorem pallF_ok : ∀ (f : Nat) (b : List Int) (p : Nat) (acc : List Fld), (∀ x ∈ b, 0 ≤ x ∧ x ≤ 255) → b.length < p + f → p ≤ b.length → acc.flatMap fby = b.take p → (∀ x ∈ acc, Fine b.length x) → acc.length ≤ p →
    (pallF f b p acc).2.2 = 0 → (pallF f b p acc).1.flatMap fby = b ∧ (∀ x ∈ (pallF f b p acc).1, Fine b.length x) ∧ (pallF f b p acc).2.1 = 0 ∧ (pallF f b p acc).1.length ≤ b.length := by
  intro f
  induction f with
  | zero => intro b p acc hb h1 h2; omega
  | succ f ih =>
    intro b p acc hb h1 h2 h3 h4 h5 h6
    by_cases hp : p < b.length
    · by_cases he : (prd (b.drop p)).2.2 = 0
      · rw [pallF_step f b p acc hp he] at h6 ⊢; have hD : ∀ x ∈ b.drop p, 0 ≤ x ∧ x ≤ 255 := fun x hx => hb x (List.mem_of_mem_drop hx); obtain ⟨n, hn, n1, n2, hc, hf, q0, q1, qb, ql⟩ := prd_ok _ hD he; have hdl : (b.drop p).length = b.length - p := by simp
        rw [hn, Int.toNat_natCast] at h6 ⊢; refine ih b (p + n) _ hb (by omega) (by omega) ?_ ?_ (by simp; omega) h6
        · rw [List.flatMap_append, h3]; simp only [List.flatMap_cons, List.flatMap_nil, List.append_nil]; rw [hf, ← List.take_add]
        · intro x hx
          rcases List.mem_append.1 hx with hx | hx
          · exact h4 x hx
          · obtain rfl : x = _ := by simpa using hx
            exact ⟨hc, q0, q1, qb, by omega⟩
      · rw [pallF_err f b p acc hp he] at h6; exact absurd h6 he
    · rw [pallF_end f b p acc hp]; refine ⟨?_, h4, rfl, by show acc.length ≤ b.length; omega⟩; rw [h3, List.take_of_length_le (by omega)]

theorem pall_ok (b : List Int) (hb : ∀ x ∈ b, 0 ≤ x ∧ x ≤ 255) (h : (pall b).2.2 = 0) : (pall b).1.flatMap fby = b ∧ (∀ x ∈ (pall b).1, Fine b.length x) ∧ (pall b).2.1 = 0 ∧ (pall b).1.length ≤ b.length :=
  pallF_ok _ b 0 [] hb (by omega) (Nat.zero_le _) rfl (by simp) (Nat.le_refl _) h
end Go.Proto
/- append of a literal: where it lies, and where the new row lies. -/
set_option linter.unusedVariables false
set_option linter.unusedSimpArgs false
namespace Go
open Go.RowKit
theorem wpList_appLitAt {P : Program} {w : World} {ops : Array Oper} {rest : List Oper} {o : Oper} {a : Act} {Q : Exit → Act → World → Prop} (w0 : World) (hb : Below w0.heap.size w0 w) (hgd : o.guard = none) (s x : Operand) (t : TypeId)
    (ho : o.op = .call { callee := .builtin .append, args := #[s, x], argTypes := #[t, t] })
    (e : TypeId) (z : Value) (size bytes : Nat) (ht : P.underlying t = some (.slice e)) (hinfo : (P.info? e).map (fun i => (i.zero, i.size, i.bytes)) = some (some z, size, bytes))
    (hzs : z.cells.size = size) (hsz : 0 < size) (hb1 : 0 < bytes)
    (v : Value) (n : Nat) (xs : List Value) (hs : a.eval s = v) (hown : w.ownsRow w0.heap.size e size v n xs)
    (m c B : Nat) (hB : w.heap.size = B) (vs : List Value) (te : TypeId) (hx : a.eval x = .slice (some ⟨B, 0, none⟩) m c) (hl : vs.length = m * size) (h1 : ∀ u ∈ vs, u.oneCell' = true)
    (hbytes : (n + m) * bytes ≤ 140737488355328)
    (h : ∀ v' w', w'.ownsRow w0.heap.size e size v' (n + m) (xs ++ vs) → w.grownBy w' v.ownBlock → Below w0.heap.size w0 w' → (v'.ownBlock = v.ownBlock ∨ v'.ownBlock = some (B + 1)) → wpList P ops Q rest (a.put o.dst v') w') :
    wpList P ops Q (o :: rest) a (w.alloc (.cells vs.toArray te)) := by
  subst hB; obtain ⟨i, hi, hz, hsize, hby⟩ := info_parts hinfo; have h63 : n + m ≤ maxLen := by
    have : (n + m) * 1 ≤ (n + m) * bytes := Nat.mul_le_mul_left _ hb1; unfold maxLen; omega
  have hw1 : w.grownBy (w.alloc (.cells vs.toArray te)) v.ownBlock := World.grownBy_alloc w _ _; refine wpList_append_own_at (w.alloc (.cells vs.toArray te)) hgd s x t ho w0.heap.size e i z size bytes ht hi hz hsize hby hzs hsz v n xs hs (hown.below (Below.new _ _)) ⟨w.heap.size, 0, none⟩ m c vs hx hl ?_ h1 h63 hbytes (by have := hb.size; simp; omega) ?_
  · exact (Rd.new w vs te).add
  · intro v' w' h2 h3 _ h5; have h4 := hw1.trans h3; exact h v' w' h2 h4 (hb.grown h4 hb.size (fun k hk => (hown.lt k hk).1)) (by simpa using h5)
end Go
/- Rows of fields: the program's (bytes behind a slice) and the document's (bytes in a string). -/
namespace Go
open Go.RowKit Go.Proto

structure FC where
  f : Fld
  p : Option Addr
  c : Nat

def FC.cells (x : FC) : List Value := [.int .i64 x.f.num, .int .i64 x.f.kind, .int .u64 x.f.n, .slice x.p x.f.bs.length x.c]
def FC.val (x : FC) : Value := .agg #[.int .i64 x.f.num, .int .i64 x.f.kind, .int .u64 x.f.n, .slice x.p x.f.bs.length x.c]
def FC.Ok (W : World) (x : FC) : Prop := Rd W x.p (x.f.bs.map (Value.int .u8)) ∧ x.f.bs.length ≤ x.c ∧ x.c ≤ maxLen ∧ (x.p = none → x.c = 0)
def flat (xs : List FC) : List Value := xs.flatMap FC.cells

def rcells (f : Fld) : List Value := [.int .i64 f.num, .int .i64 f.kind, .int .u64 f.n, .string (strOfNums f.bs)]
def rflat (fs : List Fld) : List Value := fs.flatMap rcells

theorem FC.Ok.keep {w w' : World} {x : FC} (h : x.Ok w) (hb : Below w.heap.size w w') : x.Ok w' := ⟨h.1.keep hb, h.2⟩
theorem FC.Ok.below {B : Nat} {w w' : World} {x : FC} (h : x.Ok w) (hb : Below B w w') (hB : w.heap.size ≤ B) : x.Ok w' := ⟨h.1.below hb hB, h.2⟩
theorem FC.Ok.grown {w w' : World} {r : Option Nat} {x : FC} (h : x.Ok w) (hg : w.grownBy w' r) (hne : ∀ b, x.p.map (·.block) = some b → some b ≠ r) : x.Ok w' := ⟨h.1.grown hg hne, h.2⟩

theorem flat_len (xs : List FC) : (flat xs).length = xs.length * 4 := by
  induction xs with
  | nil => rfl
  | cons x xs ih => simp only [flat, List.flatMap_cons, List.length_append] at *; rw [ih]; simp [FC.cells]; omega
theorem rflat_len (xs : List Fld) : (rflat xs).length = xs.length * 4 := by
  induction xs with
  | nil => rfl
  | cons x xs ih => simp only [rflat, List.flatMap_cons, List.length_append] at *; rw [ih]; simp [rcells]; omega

theorem flat_get (xs : List FC) (i j : Nat) (hi : i < xs.length) (hj : j < 4) : (flat xs)[i * 4 + j]? = (xs[i]).cells[j]? := by
  induction xs generalizing i with
  | nil => simp at hi
  | cons x xs ih =>
    simp only [flat, List.flatMap_cons]
    cases i with
    | zero => simp only [Nat.zero_mul, Nat.zero_add, List.getElem_cons_zero]; rw [List.getElem?_append_left (by simp [FC.cells]; omega)]
    | succ i =>
      rw [List.getElem?_append_right (by simp [FC.cells]; omega), List.getElem_cons_succ]; rw [← ih i (by simpa using hi)]; simp only [FC.cells, List.length_cons, List.length_nil, flat]
      congr 1; omega
theorem rflat_get (xs : List Fld) (i j : Nat) (hi : i < xs.length) (hj : j < 4) : (rflat xs)[i * 4 + j]? = (rcells xs[i])[j]? := by
  induction xs generalizing i with
  | nil => simp at hi
  | cons x xs ih =>
    simp only [rflat, List.flatMap_cons]
    cases i with
    | zero => simp only [Nat.zero_mul, Nat.zero_add, List.getElem_cons_zero]; rw [List.getElem?_append_left (by simp [rcells]; omega)]
    | succ i =>
      rw [List.getElem?_append_right (by simp [rcells]; omega), List.getElem_cons_succ]; rw [← ih i (by simpa using hi)]; simp only [rcells, List.length_cons, List.length_nil, rflat]
      congr 1; omega

theorem flat_snoc (xs : List FC) (x : FC) : flat (xs ++ [x]) = flat xs ++ x.cells := by simp [flat]
theorem rflat_snoc (xs : List Fld) (x : Fld) : rflat (xs ++ [x]) = rflat xs ++ rcells x := by simp [rflat]
theorem FC.cells_one (x : FC) : ∀ u ∈ x.cells, u.oneCell' = true := by intro u hu; simp [FC.cells] at hu; rcases hu with rfl | rfl | rfl | rfl <;> rfl
theorem rcells_one (x : Fld) : ∀ u ∈ rcells x, u.oneCell' = true := by intro u hu; simp [rcells] at hu; rcases hu with rfl | rfl | rfl | rfl <;> rfl

end Go
namespace Go.Proofs.YtinogphhbbaobaaDoor
theorem Tryd.infoField : (Tryd.prog.info? 33).map (fun i => (i.zero, i.size, i.bytes)) = some (some (.agg #[.int .i64 0, .int .i64 0, .int .u64 0, .slice none 0 0]), 4, 48) := by kernel_rfl
theorem Tryd.infoF : (Tryd.prog.info? 78).map (fun i => (i.zero, i.size, i.bytes)) = some (some (.agg #[.int .i64 0, .int .i64 0, .int .u64 0, .string ⟨#[]⟩]), 4, 40) := by kernel_rfl
end Go.Proofs.YtinogphhbbaobaaDoor
/- varint.Zag. -/
namespace Go.Proofs.YtinogphhbbaobaaDoor
open Go.RowKit Go.Vint

theorem vzag_any (u : Int) (h0 : 0 ≤ u) (h1 : u ≤ 18446744073709551615) (w : World) :
    Calls Tryd.prog 44 #[.int .u64 u] w fun e w' => e = .returned (.int .i64 (zag u)) ∧ w = w' := by
  have ha : bits BinOp.and IntKind.u64 u 1 = u % 2 := u64_and1 u h0 (by omega); have HB := Lib.hid (zag_bits u h0 h1)
  go_enter Tryd.func44, Tryd.ntmps44
  go_wp2; go_ret; exact ⟨ret_int HB.out, rfl⟩
end Go.Proofs.YtinogphhbbaobaaDoor
/- value.known: the value of a field. -/
set_option linter.unusedVariables false
set_option linter.unusedSimpArgs false
set_option maxRecDepth 100000
namespace Go
open Go.RowKit Go.Proto Go.Vint
def knF (f : Fld) : (Int × ByteArray × Int) × Int :=
  if f.num = 2 then ((0, ⟨#[]⟩, 0), 14) else if f.num = 3 then ((0, ⟨#[]⟩, 0), 14) else if f.num = 4 then ((0, ⟨#[]⟩, 0), 14)
  else if f.num = 1 then (if f.kind = 2 then ((1, strOfNums f.bs, 0), 0) else ((0, ⟨#[]⟩, 0), 19))
  else if f.num = 6 then (if f.kind = 0 then ((3, ⟨#[]⟩, zag f.n), 0) else ((0, ⟨#[]⟩, 0), 19))
  else if f.num = 5 then (if f.kind = 0 then ((2, ⟨#[]⟩, if 1152921504606846977 < f.n then 1152921504606846977 else f.n), 0) else ((0, ⟨#[]⟩, 0), 19))
  else if f.num = 7 then (if f.kind = 0 then ((4, ⟨#[]⟩, if 1152921504606846977 < f.n then 1152921504606846977 else f.n), 0) else ((0, ⟨#[]⟩, 0), 19))
  else ((0, ⟨#[]⟩, 0), 0)
def vVal (v : Int × ByteArray × Int) : Value := .agg #[.int .i64 v.1, .string v.2.1, .int .i64 v.2.2]
def vCells (v : Int × ByteArray × Int) : List Value := [.int .i64 v.1, .string v.2.1, .int .i64 v.2.2]
end Go
namespace Go.Proofs.YtinogphhbbaobaaDoor
open Go.RowKit Go.Vint Go.Proto

set_option maxHeartbeats 4000000 in
theorem known_any (x : FC) (w : World) (hx : x.Ok w) (hn : 0 ≤ x.f.n ∧ x.f.n ≤ 18446744073709551615) :
    Calls Tryd.prog 27 #[x.val] w fun e w' => e = .returned (.tuple #[vVal (knF x.f).1, .int .i64 (knF x.f).2]) ∧ Below w.heap.size w w' := by
  obtain ⟨⟨num, kind, n, bs⟩, p, c⟩ := x; dsimp only [FC.val] at *; have hx1 := hx.1; dsimp only at hx1; have HK := Lib.hid (knF.eq_1 ⟨num, kind, n, bs⟩); dsimp only at HK; generalize knF ⟨num, kind, n, bs⟩ = V at *; obtain ⟨B, hB⟩ : ∃ B, w.heap.size = B := ⟨_, rfl⟩; have HBE := Lib.hid hB; have hb0 := Below.new w (.cells #[.int .i64 num, .int .i64 kind, .int .u64 n, .slice p bs.length c] 33); have hb1 := hb0.alloc (by simp) (.cells #[.int .i64 0, .string ⟨#[]⟩, .int .i64 0] 23); have hb2 := hb1.alloc (by simp; omega) (.cells #[.int .i64 0, .string ⟨#[]⟩, .int .i64 0] 23); have k0 := ((Blk.lit w B [.int .i64 num, .int .i64 kind, .int .u64 n, .slice p bs.length c] 33 hB).alloc (.cells #[.int .i64 0, .string ⟨#[]⟩, .int .i64 0] 23)).alloc (.cells #[.int .i64 0, .string ⟨#[]⟩, .int .i64 0] 23); have k1 := (Blk.lit (w.alloc (.cells #[.int .i64 num, .int .i64 kind, .int .u64 n, .slice p bs.length c] 33)) (B + 1) [.int .i64 0, .string ⟨#[]⟩, .int .i64 0] 23 (by simp [hB])).alloc (.cells #[.int .i64 0, .string ⟨#[]⟩, .int .i64 0] 23); have k2 := Blk.lit ((w.alloc (.cells #[.int .i64 num, .int .i64 kind, .int .u64 n, .slice p bs.length c] 33)).alloc (.cells #[.int .i64 0, .string ⟨#[]⟩, .int .i64 0] 23)) (B + 1 + 1) [.int .i64 0, .string ⟨#[]⟩, .int .i64 0] 23 (by simp [hB]); have hr0 := hx1.keep hb2
  go_enter Tryd.func27, Tryd.ntmps27
  by_cases c2 : num = 2
  · subst c2; have hV := HK.out; simp only [if_true, if_false, Int.reduceEq] at hV; clear HK; go_wp2; refine bodyPost_ret (v := .tuple #[vVal V.1, .int .i64 V.2]) ?_ rfl ⟨by first | rfl | (rw [hV]), by first | exact ((Below.new w _).alloc (by simp) _).alloc (by simp; omega) _ | (rw [← HBE.out]; exact ((Below.new w _).alloc (by simp) _).alloc (by simp; omega) _)⟩; have q := Blk.alloc (Blk.lit (w.alloc (.cells #[.int .i64 2, .int .i64 kind, .int .u64 n, .slice p bs.length c] 33)) (B + 1) (vCells V.1) 23 (by simp [hB])) (.cells #[.int .i64 0, .string ⟨#[]⟩, .int .i64 0] 23)
    try subst hV
    have q0 := q.cell 0 rfl; have q1 := q.cell 1 rfl; have q2 := q.cell 2 rfl; dsimp only [vCells] at q0 q1 q2; simp [results, Tryd.results27, go_sem, vVal, q0, q1, q2]
  have e2 : (num == 2) = false := by simpa using c2
  by_cases c3 : num = 3
  · subst c3; have hV := HK.out; simp only [if_true, if_false, Int.reduceEq] at hV; clear HK; go_wp2; refine bodyPost_ret (v := .tuple #[vVal V.1, .int .i64 V.2]) ?_ rfl ⟨by first | rfl | (rw [hV]), by first | exact ((Below.new w _).alloc (by simp) _).alloc (by simp; omega) _ | (rw [← HBE.out]; exact ((Below.new w _).alloc (by simp) _).alloc (by simp; omega) _)⟩; have q := Blk.alloc (Blk.lit (w.alloc (.cells #[.int .i64 3, .int .i64 kind, .int .u64 n, .slice p bs.length c] 33)) (B + 1) (vCells V.1) 23 (by simp [hB])) (.cells #[.int .i64 0, .string ⟨#[]⟩, .int .i64 0] 23)
    try subst hV
    have q0 := q.cell 0 rfl; have q1 := q.cell 1 rfl; have q2 := q.cell 2 rfl; dsimp only [vCells] at q0 q1 q2; simp [results, Tryd.results27, go_sem, vVal, q0, q1, q2]
  have e3 : (num == 3) = false := by simpa using c3
  by_cases c4 : num = 4
  · subst c4; have hV := HK.out; simp only [if_true, if_false, Int.reduceEq] at hV; clear HK; go_wp2; refine bodyPost_ret (v := .tuple #[vVal V.1, .int .i64 V.2]) ?_ rfl ⟨by first | rfl | (rw [hV]), by first | exact ((Below.new w _).alloc (by simp) _).alloc (by simp; omega) _ | (rw [← HBE.out]; exact ((Below.new w _).alloc (by simp) _).alloc (by simp; omega) _)⟩; have q := Blk.alloc (Blk.lit (w.alloc (.cells #[.int .i64 4, .int .i64 kind, .int .u64 n, .slice p bs.length c] 33)) (B + 1) (vCells V.1) 23 (by simp [hB])) (.cells #[.int .i64 0, .string ⟨#[]⟩, .int .i64 0] 23)
    try subst hV
    have q0 := q.cell 0 rfl; have q1 := q.cell 1 rfl; have q2 := q.cell 2 rfl; dsimp only [vCells] at q0 q1 q2; simp [results, Tryd.results27, go_sem, vVal, q0, q1, q2]
  have e4 : (num == 4) = false := by simpa using c4
  by_cases c1 : num = 1
  · subst c1; have hV := HK.out; simp only [if_true, if_false, Int.reduceEq] at hV; clear HK
    by_cases ck : kind = 2
    · subst ck; simp only [if_true] at hV; have hcv := run_convert_rd (P := Tryd.prog) _ 25 5 9 Tryd.underlying25 Tryd.underlying5 Tryd.underlying9 p c bs hr0; go_wp2; refine bodyPost_ret (v := .tuple #[vVal V.1, .int .i64 V.2]) ?_ rfl ⟨by first | rfl | (rw [hV]), by first | exact ((Below.new w _).alloc (by simp) _).alloc (by simp; omega) _ | (rw [← HBE.out]; exact ((Below.new w _).alloc (by simp) _).alloc (by simp; omega) _)⟩; have q := Blk.alloc (Blk.lit (w.alloc (.cells #[.int .i64 1, .int .i64 2, .int .u64 n, .slice p bs.length c] 33)) (B + 1) (vCells V.1) 23 (by simp [hB])) (.cells #[.int .i64 1, .string (strOfNums bs), .int .i64 0] 23)
      try subst hV
      have q0 := q.cell 0 rfl; have q1 := q.cell 1 rfl; have q2 := q.cell 2 rfl; dsimp only [vCells] at q0 q1 q2; simp [results, Tryd.results27, go_sem, vVal, q0, q1, q2]
    · have ek : (kind != 2) = true := by simpa using ck
      simp only [if_neg ck] at hV; have hcv := run_convert_rd (P := Tryd.prog) _ 25 5 9 Tryd.underlying25 Tryd.underlying5 Tryd.underlying9 p c bs hr0; go_wp2; refine bodyPost_ret (v := .tuple #[vVal V.1, .int .i64 V.2]) ?_ rfl ⟨by first | rfl | (rw [hV]), by first | exact ((Below.new w _).alloc (by simp) _).alloc (by simp; omega) _ | (rw [← HBE.out]; exact ((Below.new w _).alloc (by simp) _).alloc (by simp; omega) _)⟩; have q := Blk.alloc (Blk.lit (w.alloc (.cells #[.int .i64 1, .int .i64 kind, .int .u64 n, .slice p bs.length c] 33)) (B + 1) (vCells V.1) 23 (by simp [hB])) (.cells #[.int .i64 1, .string (strOfNums bs), .int .i64 0] 23)
      try subst hV
      have q0 := q.cell 0 rfl; have q1 := q.cell 1 rfl; have q2 := q.cell 2 rfl; dsimp only [vCells] at q0 q1 q2; simp [results, Tryd.results27, go_sem, vVal, q0, q1, q2]
  have e1 : (num == 1) = false := by simpa using c1
  by_cases c6 : num = 6
  · subst c6; have hV := HK.out; simp only [if_true, if_false, Int.reduceEq] at hV; clear HK
    by_cases ck : kind = 0
    · subst ck; simp only [if_true] at hV
      go_wp2_with fail
      refine (vzag_any n hn.1 hn.2 _).mono ?_; rintro e w1 ⟨rfl, rfl⟩; go_wp2; refine bodyPost_ret (v := .tuple #[vVal V.1, .int .i64 V.2]) ?_ rfl ⟨by first | rfl | (rw [hV]), by first | exact ((Below.new w _).alloc (by simp) _).alloc (by simp; omega) _ | (rw [← HBE.out]; exact ((Below.new w _).alloc (by simp) _).alloc (by simp; omega) _)⟩; have q := Blk.alloc (Blk.lit (w.alloc (.cells #[.int .i64 6, .int .i64 0, .int .u64 n, .slice p bs.length c] 33)) (B + 1) (vCells V.1) 23 (by simp [hB])) (.cells #[.int .i64 3, .string ⟨#[]⟩, .int .i64 (zag n)] 23)
      try subst hV
      have q0 := q.cell 0 rfl; have q1 := q.cell 1 rfl; have q2 := q.cell 2 rfl; dsimp only [vCells] at q0 q1 q2; simp [results, Tryd.results27, go_sem, vVal, q0, q1, q2]
    · have ek : (kind != 0) = true := by simpa using ck
      simp only [if_neg ck] at hV
      go_wp2_with fail
      refine (vzag_any n hn.1 hn.2 _).mono ?_; rintro e w1 ⟨rfl, rfl⟩; go_wp2; refine bodyPost_ret (v := .tuple #[vVal V.1, .int .i64 V.2]) ?_ rfl ⟨by first | rfl | (rw [hV]), by first | exact ((Below.new w _).alloc (by simp) _).alloc (by simp; omega) _ | (rw [← HBE.out]; exact ((Below.new w _).alloc (by simp) _).alloc (by simp; omega) _)⟩; have q := Blk.alloc (Blk.lit (w.alloc (.cells #[.int .i64 6, .int .i64 kind, .int .u64 n, .slice p bs.length c] 33)) (B + 1) (vCells V.1) 23 (by simp [hB])) (.cells #[.int .i64 3, .string ⟨#[]⟩, .int .i64 (zag n)] 23)
      try subst hV
      have q0 := q.cell 0 rfl; have q1 := q.cell 1 rfl; have q2 := q.cell 2 rfl; dsimp only [vCells] at q0 q1 q2; simp [results, Tryd.results27, go_sem, vVal, q0, q1, q2]
  have e6 : (num == 6) = false := by simpa using c6
  by_cases c5 : num = 5
  · subst c5; have hV := HK.out; simp only [if_true, if_false, Int.reduceEq] at hV; clear HK
    by_cases hm : 1152921504606846977 < n
    · simp only [if_pos hm] at hV
      by_cases ck : kind = 0
      · subst ck; simp only [if_true] at hV; go_wp2; refine bodyPost_ret (v := .tuple #[vVal V.1, .int .i64 V.2]) ?_ rfl ⟨by first | rfl | (rw [hV]), by first | exact ((Below.new w _).alloc (by simp) _).alloc (by simp; omega) _ | (rw [← HBE.out]; exact ((Below.new w _).alloc (by simp) _).alloc (by simp; omega) _)⟩; have q := Blk.alloc (Blk.lit (w.alloc (.cells #[.int .i64 5, .int .i64 0, .int .u64 n, .slice p bs.length c] 33)) (B + 1) (vCells V.1) 23 (by simp [hB])) (.cells #[.int .i64 2, .string ⟨#[]⟩, .int .i64 1152921504606846977] 23)
        try subst hV
        have q0 := q.cell 0 rfl; have q1 := q.cell 1 rfl; have q2 := q.cell 2 rfl; dsimp only [vCells] at q0 q1 q2; simp [results, Tryd.results27, go_sem, vVal, q0, q1, q2]
      · have ek : (kind != 0) = true := by simpa using ck
        simp only [if_neg ck] at hV; go_wp2; refine bodyPost_ret (v := .tuple #[vVal V.1, .int .i64 V.2]) ?_ rfl ⟨by first | rfl | (rw [hV]), by first | exact ((Below.new w _).alloc (by simp) _).alloc (by simp; omega) _ | (rw [← HBE.out]; exact ((Below.new w _).alloc (by simp) _).alloc (by simp; omega) _)⟩; have q := Blk.alloc (Blk.lit (w.alloc (.cells #[.int .i64 5, .int .i64 kind, .int .u64 n, .slice p bs.length c] 33)) (B + 1) (vCells V.1) 23 (by simp [hB])) (.cells #[.int .i64 2, .string ⟨#[]⟩, .int .i64 1152921504606846977] 23)
        try subst hV
        have q0 := q.cell 0 rfl; have q1 := q.cell 1 rfl; have q2 := q.cell 2 rfl; dsimp only [vCells] at q0 q1 q2; simp [results, Tryd.results27, go_sem, vVal, q0, q1, q2]
    · simp only [if_neg hm] at hV
      by_cases ck : kind = 0
      · subst ck; simp only [if_true] at hV; go_wp2; refine bodyPost_ret (v := .tuple #[vVal V.1, .int .i64 V.2]) ?_ rfl ⟨by first | rfl | (rw [hV]), by first | exact ((Below.new w _).alloc (by simp) _).alloc (by simp; omega) _ | (rw [← HBE.out]; exact ((Below.new w _).alloc (by simp) _).alloc (by simp; omega) _)⟩; have q := Blk.alloc (Blk.lit (w.alloc (.cells #[.int .i64 5, .int .i64 0, .int .u64 n, .slice p bs.length c] 33)) (B + 1) (vCells V.1) 23 (by simp [hB])) (.cells #[.int .i64 2, .string ⟨#[]⟩, .int .i64 n] 23)
        try subst hV
        have q0 := q.cell 0 rfl; have q1 := q.cell 1 rfl; have q2 := q.cell 2 rfl; dsimp only [vCells] at q0 q1 q2; simp [results, Tryd.results27, go_sem, vVal, q0, q1, q2]
      · have ek : (kind != 0) = true := by simpa using ck
        simp only [if_neg ck] at hV; go_wp2; refine bodyPost_ret (v := .tuple #[vVal V.1, .int .i64 V.2]) ?_ rfl ⟨by first | rfl | (rw [hV]), by first | exact ((Below.new w _).alloc (by simp) _).alloc (by simp; omega) _ | (rw [← HBE.out]; exact ((Below.new w _).alloc (by simp) _).alloc (by simp; omega) _)⟩; have q := Blk.alloc (Blk.lit (w.alloc (.cells #[.int .i64 5, .int .i64 kind, .int .u64 n, .slice p bs.length c] 33)) (B + 1) (vCells V.1) 23 (by simp [hB])) (.cells #[.int .i64 2, .string ⟨#[]⟩, .int .i64 n] 23)
        try subst hV
        have q0 := q.cell 0 rfl; have q1 := q.cell 1 rfl; have q2 := q.cell 2 rfl; dsimp only [vCells] at q0 q1 q2; simp [results, Tryd.results27, go_sem, vVal, q0, q1, q2]
  have e5 : (num == 5) = false := by simpa using c5
  by_cases c7 : num = 7
  · subst c7; have hV := HK.out; simp only [if_true, if_false, Int.reduceEq] at hV; clear HK
    by_cases hm : 1152921504606846977 < n
    · simp only [if_pos hm] at hV
      by_cases ck : kind = 0
      · subst ck; simp only [if_true] at hV; go_wp2; refine bodyPost_ret (v := .tuple #[vVal V.1, .int .i64 V.2]) ?_ rfl ⟨by first | rfl | (rw [hV]), by first | exact ((Below.new w _).alloc (by simp) _).alloc (by simp; omega) _ | (rw [← HBE.out]; exact ((Below.new w _).alloc (by simp) _).alloc (by simp; omega) _)⟩; have q := Blk.alloc (Blk.lit (w.alloc (.cells #[.int .i64 7, .int .i64 0, .int .u64 n, .slice p bs.length c] 33)) (B + 1) (vCells V.1) 23 (by simp [hB])) (.cells #[.int .i64 4, .string ⟨#[]⟩, .int .i64 1152921504606846977] 23)
        try subst hV
        have q0 := q.cell 0 rfl; have q1 := q.cell 1 rfl; have q2 := q.cell 2 rfl; dsimp only [vCells] at q0 q1 q2; simp [results, Tryd.results27, go_sem, vVal, q0, q1, q2]
      · have ek : (kind != 0) = true := by simpa using ck
        simp only [if_neg ck] at hV; go_wp2; refine bodyPost_ret (v := .tuple #[vVal V.1, .int .i64 V.2]) ?_ rfl ⟨by first | rfl | (rw [hV]), by first | exact ((Below.new w _).alloc (by simp) _).alloc (by simp; omega) _ | (rw [← HBE.out]; exact ((Below.new w _).alloc (by simp) _).alloc (by simp; omega) _)⟩; have q := Blk.alloc (Blk.lit (w.alloc (.cells #[.int .i64 7, .int .i64 kind, .int .u64 n, .slice p bs.length c] 33)) (B + 1) (vCells V.1) 23 (by simp [hB])) (.cells #[.int .i64 4, .string ⟨#[]⟩, .int .i64 1152921504606846977] 23)
        try subst hV
        have q0 := q.cell 0 rfl; have q1 := q.cell 1 rfl; have q2 := q.cell 2 rfl; dsimp only [vCells] at q0 q1 q2; simp [results, Tryd.results27, go_sem, vVal, q0, q1, q2]
    · simp only [if_neg hm] at hV
      by_cases ck : kind = 0
      · subst ck; simp only [if_true] at hV; go_wp2; refine bodyPost_ret (v := .tuple #[vVal V.1, .int .i64 V.2]) ?_ rfl ⟨by first | rfl | (rw [hV]), by first | exact ((Below.new w _).alloc (by simp) _).alloc (by simp; omega) _ | (rw [← HBE.out]; exact ((Below.new w _).alloc (by simp) _).alloc (by simp; omega) _)⟩; have q := Blk.alloc (Blk.lit (w.alloc (.cells #[.int .i64 7, .int .i64 0, .int .u64 n, .slice p bs.length c] 33)) (B + 1) (vCells V.1) 23 (by simp [hB])) (.cells #[.int .i64 4, .string ⟨#[]⟩, .int .i64 n] 23)
        try subst hV
        have q0 := q.cell 0 rfl; have q1 := q.cell 1 rfl; have q2 := q.cell 2 rfl; dsimp only [vCells] at q0 q1 q2; simp [results, Tryd.results27, go_sem, vVal, q0, q1, q2]
      · have ek : (kind != 0) = true := by simpa using ck
        simp only [if_neg ck] at hV; go_wp2; refine bodyPost_ret (v := .tuple #[vVal V.1, .int .i64 V.2]) ?_ rfl ⟨by first | rfl | (rw [hV]), by first | exact ((Below.new w _).alloc (by simp) _).alloc (by simp; omega) _ | (rw [← HBE.out]; exact ((Below.new w _).alloc (by simp) _).alloc (by simp; omega) _)⟩; have q := Blk.alloc (Blk.lit (w.alloc (.cells #[.int .i64 7, .int .i64 kind, .int .u64 n, .slice p bs.length c] 33)) (B + 1) (vCells V.1) 23 (by simp [hB])) (.cells #[.int .i64 4, .string ⟨#[]⟩, .int .i64 n] 23)
        try subst hV
        have q0 := q.cell 0 rfl; have q1 := q.cell 1 rfl; have q2 := q.cell 2 rfl; dsimp only [vCells] at q0 q1 q2; simp [results, Tryd.results27, go_sem, vVal, q0, q1, q2]
  have e7 : (num == 7) = false := by simpa using c7
  have hV := HK.out; simp only [if_neg c2, if_neg c3, if_neg c4, if_neg c1, if_neg c6, if_neg c5, if_neg c7] at hV; go_wp2; refine bodyPost_ret (v := .tuple #[vVal V.1, .int .i64 V.2]) ?_ rfl ⟨by first | rfl | (rw [hV]), by first | exact ((Below.new w _).alloc (by simp) _).alloc (by simp; omega) _ | (rw [← HBE.out]; exact ((Below.new w _).alloc (by simp) _).alloc (by simp; omega) _)⟩; have q := Blk.alloc (Blk.lit (w.alloc (.cells #[.int .i64 num, .int .i64 kind, .int .u64 n, .slice p bs.length c] 33)) (B + 1) (vCells V.1) 23 (by simp [hB])) (.cells #[.int .i64 0, .string ⟨#[]⟩, .int .i64 0] 23)
  try subst hV
  have q0 := q.cell 0 rfl; have q1 := q.cell 1 rfl; have q2 := q.cell 2 rfl; dsimp only [vCells] at q0 q1 q2; simp [results, Tryd.results27, go_sem, vVal, q0, q1, q2]
end Go.Proofs.YtinogphhbbaobaaDoor
/- Runes of a text: the model's decoding and the document's first rune, in plain terms. -/
set_option linter.unusedVariables false
set_option linter.unusedSimpArgs false
namespace Go
open Go.RowKit
def byt (s : ByteArray) (i : Nat) : Nat := (s.get! i).toNat
theorem byt_lt (s : ByteArray) (i : Nat) : byt s i < 256 := (s.get! i).toNat_lt
def cont (s : ByteArray) (i : Nat) : Bool := decide (i < s.size) && decide (128 ≤ byt s i) && decide (byt s i < 192)
def badAt (s : ByteArray) (i : Nat) : Bool := decide (Utf8.decode s i = (65533, 1))
def firstF (s : ByteArray) (i : Nat) : Nat × Nat := if badAt s i then (0, 0) else Utf8.decode s i
theorem cont_eq (s : ByteArray) (i : Nat) : (decide (i < s.size) && ((s.get! i).toNat / 64 == 2)) = cont s i := by
  have h := byt_lt s i; unfold cont byt at *; rw [Bool.and_assoc]
  congr 1
  rw [Bool.eq_iff_iff]; simp; omega
theorem decode_eq (s : ByteArray) (i : Nat) : Utf8.decode s i =
    (if byt s i < 128 then (byt s i, 1)
     else if 192 ≤ byt s i ∧ byt s i < 224 ∧ cont s (i + 1) = true then (if 128 ≤ (byt s i - 192) * 64 + (byt s (i + 1) - 128) then ((byt s i - 192) * 64 + (byt s (i + 1) - 128), 2) else (65533, 1))
     else if 224 ≤ byt s i ∧ byt s i < 240 ∧ cont s (i + 1) = true ∧ cont s (i + 2) = true then
       (if 2048 ≤ (byt s i - 224) * 4096 + (byt s (i + 1) - 128) * 64 + (byt s (i + 2) - 128) ∧ ¬ (55296 ≤ (byt s i - 224) * 4096 + (byt s (i + 1) - 128) * 64 + (byt s (i + 2) - 128) ∧ (byt s i - 224) * 4096 + (byt s (i + 1) - 128) * 64 + (byt s (i + 2) - 128) ≤ 57343)
        then ((byt s i - 224) * 4096 + (byt s (i + 1) - 128) * 64 + (byt s (i + 2) - 128), 3) else (65533, 1))
     else if 240 ≤ byt s i ∧ byt s i < 248 ∧ cont s (i + 1) = true ∧ cont s (i + 2) = true ∧ cont s (i + 3) = true then
       (if 65536 ≤ (byt s i - 240) * 262144 + (byt s (i + 1) - 128) * 4096 + (byt s (i + 2) - 128) * 64 + (byt s (i + 3) - 128) ∧ (byt s i - 240) * 262144 + (byt s (i + 1) - 128) * 4096 + (byt s (i + 2) - 128) * 64 + (byt s (i + 3) - 128) ≤ 1114111
        then ((byt s i - 240) * 262144 + (byt s (i + 1) - 128) * 4096 + (byt s (i + 2) - 128) * 64 + (byt s (i + 3) - 128), 4) else (65533, 1))
     else (65533, 1)) := by
  have h0 := byt_lt s i; have h1 := byt_lt s (i + 1); have h2 := byt_lt s (i + 2); have h3 := byt_lt s (i + 3); unfold Utf8.decode; simp only [cont_eq, Nat.add_zero, Utf8.runeError]; show (if (byt s i) < 128 then _ else _) = _; have hm : ∀ k, cont s k = true → 128 ≤ byt s k ∧ byt s k < 192 := by
    intro k h; unfold cont at h; simp only [Bool.and_eq_true, decide_eq_true_eq] at h; omega
  by_cases c0 : byt s i < 128
  · rw [if_pos c0, if_pos c0]; rfl
  rw [if_neg c0, if_neg c0]
  by_cases c1 : 192 ≤ byt s i ∧ byt s i < 224 ∧ cont s (i + 1) = true
  · rw [if_pos c1]; have d1 : ((s.get! i).toNat / 32 == 6 && cont s (i + 1)) = true := by
      rw [c1.2.2, Bool.and_true, beq_iff_eq]; show byt s i / 32 = 6; omega
    rw [if_pos d1]; have := hm _ c1.2.2; show (if byt s i % 32 * 64 + byt s (i + 1) % 64 ≥ 128 then (byt s i % 32 * 64 + byt s (i + 1) % 64, 2) else (65533, 1)) = _; rw [show byt s i % 32 * 64 + byt s (i + 1) % 64 = (byt s i - 192) * 64 + (byt s (i + 1) - 128) by omega]
  · rw [if_neg c1]; have d1 : ¬ ((s.get! i).toNat / 32 == 6 && cont s (i + 1)) = true := by
      intro h; rw [Bool.and_eq_true, beq_iff_eq] at h; have hb : byt s i / 32 = 6 := h.1; exact c1 ⟨by omega, by omega, h.2⟩
    rw [if_neg d1]
    by_cases c2 : 224 ≤ byt s i ∧ byt s i < 240 ∧ cont s (i + 1) = true ∧ cont s (i + 2) = true
    · rw [if_pos c2]; have d2 : ((s.get! i).toNat / 16 == 14 && cont s (i + 1) && cont s (i + 2)) = true := by
        rw [c2.2.2.1, c2.2.2.2, Bool.and_true, Bool.and_true, beq_iff_eq]; show byt s i / 16 = 14; omega
      rw [if_pos d2]; have e1 := hm _ c2.2.2.1; have e2 := hm _ c2.2.2.2; show (if (decide (byt s i % 16 * 4096 + byt s (i + 1) % 64 * 64 + byt s (i + 2) % 64 ≥ 2048) && Utf8.valid ((byt s i % 16 * 4096 + byt s (i + 1) % 64 * 64 + byt s (i + 2) % 64 : Nat) : Int)) = true then (byt s i % 16 * 4096 + byt s (i + 1) % 64 * 64 + byt s (i + 2) % 64, 3) else (65533, 1)) = _; rw [show byt s i % 16 * 4096 + byt s (i + 1) % 64 * 64 + byt s (i + 2) % 64 = (byt s i - 224) * 4096 + (byt s (i + 1) - 128) * 64 + (byt s (i + 2) - 128) by omega]; have hb : (byt s i - 224) * 4096 + (byt s (i + 1) - 128) * 64 + (byt s (i + 2) - 128) < 65536 := by omega
      generalize (byt s i - 224) * 4096 + (byt s (i + 1) - 128) * 64 + (byt s (i + 2) - 128) = r at *
      congr 1
      rw [Bool.and_eq_true]; simp only [Utf8.valid, decide_eq_true_eq, Bool.or_eq_true, Bool.and_eq_true, ge_iff_le, eq_iff_iff]; omega
    · rw [if_neg c2]; have d2 : ¬ ((s.get! i).toNat / 16 == 14 && cont s (i + 1) && cont s (i + 2)) = true := by
        intro h; rw [Bool.and_eq_true, Bool.and_eq_true, beq_iff_eq] at h; have hb : byt s i / 16 = 14 := h.1.1; exact c2 ⟨by omega, by omega, h.1.2, h.2⟩
      rw [if_neg d2]
      by_cases c3 : 240 ≤ byt s i ∧ byt s i < 248 ∧ cont s (i + 1) = true ∧ cont s (i + 2) = true ∧ cont s (i + 3) = true
      · rw [if_pos c3]; have d3 : ((s.get! i).toNat / 8 == 30 && cont s (i + 1) && cont s (i + 2) && cont s (i + 3)) = true := by
          rw [c3.2.2.1, c3.2.2.2.1, c3.2.2.2.2, Bool.and_true, Bool.and_true, Bool.and_true, beq_iff_eq]; show byt s i / 8 = 30; omega
        rw [if_pos d3]; have e1 := hm _ c3.2.2.1; have e2 := hm _ c3.2.2.2.1; have e3 := hm _ c3.2.2.2.2; show (if (decide (byt s i % 8 * 262144 + byt s (i + 1) % 64 * 4096 + byt s (i + 2) % 64 * 64 + byt s (i + 3) % 64 ≥ 65536) && Utf8.valid ((byt s i % 8 * 262144 + byt s (i + 1) % 64 * 4096 + byt s (i + 2) % 64 * 64 + byt s (i + 3) % 64 : Nat) : Int)) = true then (byt s i % 8 * 262144 + byt s (i + 1) % 64 * 4096 + byt s (i + 2) % 64 * 64 + byt s (i + 3) % 64, 4) else (65533, 1)) = _; rw [show byt s i % 8 * 262144 + byt s (i + 1) % 64 * 4096 + byt s (i + 2) % 64 * 64 + byt s (i + 3) % 64 = (byt s i - 240) * 262144 + (byt s (i + 1) - 128) * 4096 + (byt s (i + 2) - 128) * 64 + (byt s (i + 3) - 128) by omega]; generalize (byt s i - 240) * 262144 + (byt s (i + 1) - 128) * 4096 + (byt s (i + 2) - 128) * 64 + (byt s (i + 3) - 128) = r at *
        congr 1
        rw [Bool.and_eq_true]; simp only [Utf8.valid, decide_eq_true_eq, Bool.or_eq_true, Bool.and_eq_true, ge_iff_le, eq_iff_iff]; omega
      · rw [if_neg c3]; have d3 : ¬ ((s.get! i).toNat / 8 == 30 && cont s (i + 1) && cont s (i + 2) && cont s (i + 3)) = true := by
          intro h; rw [Bool.and_eq_true, Bool.and_eq_true, Bool.and_eq_true, beq_iff_eq] at h; have hb : byt s i / 8 = 30 := h.1.1.1; exact c3 ⟨by omega, by omega, h.1.1.2, h.1.2, h.2⟩
        rw [if_neg d3]
end Go

/-
  rows.Index: what it holds. Which boxes meet: those that are great, and those that share a field (plain). What Pairs holds while it looks (plain). Rows of the program's table of types. Opening a law's arguments: a point. Slices of points that come in: PC; an opener for []api.Point. What a round keeps: blocks of two element types. (The same lies in XPeach, XPall8, XPonly: those texts and this one do not go together.) Faces in memory: attributes, rings, faces; what keeps them. A ring's edges, as pairs of points; a yield's answer as a letter.
-/
import Derived.Test.YtccamjnomjcchaaPk5
import Derived.Test.YtccamjnomjcchaaProg
import Derived.KernelRfl
import Derived.Test.YtccamjnomjcchaaPk1
import Derived.RangeFuncBox
/- rows.Index: what it holds. -/
set_option linter.unusedVariables false
set_option linter.unusedSimpArgs false
set_option maxRecDepth 100000
namespace Go
open Go.RowKit
def bxs (l : List Bx) : List Value := l.flatMap Bx.cells
theorem bxs_len (l : List Bx) : (bxs l).length = l.length * 4 := flatMap_len Bx.cells 4 (fun _ => rfl) l
theorem bxs_snoc (l : List Bx) (b : Bx) : bxs (l ++ [b]) = bxs l ++ b.cells := by simp [bxs]
theorem Bx.cells_one (b : Bx) : ∀ u ∈ b.cells, u.oneCell' = true := by
  intro u hu; simp [Bx.cells] at hu
  rcases hu with rfl | rfl | rfl | rfl <;> rfl
theorem Rd.bx {w : World} {a : Option Addr} {l : List Bx} (h : Rd w a (bxs l)) (i : Nat) (hi : i < l.length) :
    ∃ b off, a = some ⟨b, off, none⟩ ∧ b < w.heap.size ∧ w.cell? ⟨b, off + i * 4, none⟩ = some (.int .i64 l[i].lo.x) ∧ w.cell? ⟨b, off + i * 4 + 1, none⟩ = some (.int .i64 l[i].lo.y) ∧ w.cell? ⟨b, off + i * 4 + 2, none⟩ = some (.int .i64 l[i].hi.x) ∧ w.cell? ⟨b, off + i * 4 + 3, none⟩ = some (.int .i64 l[i].hi.y) := by
  have g : ∀ j, j < 4 → (bxs l)[i * 4 + j]? = (l[i]).cells[j]? := fun j hj => flatMap_get Bx.cells 4 (fun _ => rfl) l i j hi hj; obtain ⟨b, off, rfl, h0, hb⟩ := h.at (i := i * 4 + 0) (v := .int .i64 l[i].lo.x) (by rw [g 0 (by omega)]; rfl); obtain ⟨b', off', e, h1, -⟩ := h.at (i := i * 4 + 1) (v := .int .i64 l[i].lo.y) (by rw [g 1 (by omega)]; rfl)
  cases e
  obtain ⟨b', off', e, h2, -⟩ := h.at (i := i * 4 + 2) (v := .int .i64 l[i].hi.x) (by rw [g 2 (by omega)]; rfl)
  cases e
  obtain ⟨b', off', e, h3, -⟩ := h.at (i := i * 4 + 3) (v := .int .i64 l[i].hi.y) (by rw [g 3 (by omega)]; rfl)
  cases e
  refine ⟨b, off, rfl, hb, h0, ?_, ?_, ?_⟩ <;> (rw [Nat.add_assoc]; assumption)
def greatsF (bs : List Bx) : List Int := bs.zipIdx.filterMap fun x => if greatF x.1 then some (x.2 : Int) else none
def fieldG (bs : List Bx) (fld : Int × Int) : List Int := bs.zipIdx.filterMap fun x => if greatF x.1 = false ∧ fld ∈ fieldsL x.1 then some (x.2 : Int) else none
theorem greatsF_snoc (bs : List Bx) (b : Bx) : greatsF (bs ++ [b]) = greatsF bs ++ if greatF b then [(bs.length : Int)] else [] := by
  unfold greatsF; rw [List.zipIdx_append, List.filterMap_append]
  congr 1
  cases h : greatF b <;> simp [h]
theorem fieldG_snoc (bs : List Bx) (b : Bx) (fld : Int × Int) : fieldG (bs ++ [b]) fld = fieldG bs fld ++ if greatF b = false ∧ fld ∈ fieldsL b then [(bs.length : Int)] else [] := by
  unfold fieldG; rw [List.zipIdx_append, List.filterMap_append]
  congr 1
  simp only [List.zipIdx, List.zipIdx_cons]
  by_cases h : greatF b = false ∧ fld ∈ fieldsL b
  · simp [h]
  · simp [h]
theorem mem_greatsF (bs : List Bx) (i : Int) : i ∈ greatsF bs ↔ ∃ k : Nat, i = (k : Int) ∧ ∃ h : k < bs.length, greatF bs[k] = true := by
  unfold greatsF; rw [List.mem_filterMap]; constructor
  · rintro ⟨⟨b, k⟩, hm, he⟩; rw [List.mem_zipIdx_iff_getElem?] at hm; dsimp only at hm he; obtain ⟨hk, rfl⟩ := List.getElem?_eq_some_iff.1 hm
    split at he
    · rename_i hg
      cases he
      exact ⟨k, rfl, hk, hg⟩
    · cases he
  · rintro ⟨k, rfl, hk, hg⟩; exact ⟨(bs[k], k), List.mem_zipIdx_iff_getElem?.2 (List.getElem?_eq_getElem hk), by simp [hg]⟩
theorem mem_fieldG (bs : List Bx) (fld : Int × Int) (i : Int) : i ∈ fieldG bs fld ↔ ∃ k : Nat, i = (k : Int) ∧ ∃ h : k < bs.length, greatF bs[k] = false ∧ fld ∈ fieldsL bs[k] := by
  unfold fieldG; rw [List.mem_filterMap]; constructor
  · rintro ⟨⟨b, k⟩, hm, he⟩; rw [List.mem_zipIdx_iff_getElem?] at hm; dsimp only at hm he; obtain ⟨hk, rfl⟩ := List.getElem?_eq_some_iff.1 hm
    split at he
    · rename_i hg
      cases he
      exact ⟨k, rfl, hk, hg⟩
    · cases he
  · rintro ⟨k, rfl, hk, hg⟩; exact ⟨(bs[k], k), List.mem_zipIdx_iff_getElem?.2 (List.getElem?_eq_getElem hk), by simp [hg]⟩
theorem greatsF_len (bs : List Bx) : (greatsF bs).length ≤ bs.length := by
  unfold greatsF; refine Nat.le_trans (List.length_filterMap_le _ _) ?_; simp
theorem fieldG_len (bs : List Bx) (fld : Int × Int) : (fieldG bs fld).length ≤ bs.length := by
  unfold fieldG; refine Nat.le_trans (List.length_filterMap_le _ _) ?_; simp
theorem colF_nodup (X C : Int) (n : Nat) : (colF X C n).Nodup := by
  unfold colF; refine List.Pairwise.map _ (fun a b h => ?_) (List.nodup_range (n := n)); intro e; simp only [Prod.mk.injEq, true_and] at e; exact h (by omega)
theorem mem_colF (X C : Int) (n : Nat) (x : Int × Int) : x ∈ colF X C n ↔ x.1 = X ∧ C ≤ x.2 ∧ x.2 < C + n := by
  unfold colF; rw [List.mem_map]; constructor
  · rintro ⟨j, hj, rfl⟩; have := List.mem_range.1 hj; refine ⟨rfl, ?_, ?_⟩ <;> simp only <;> omega
  · rintro ⟨h1, h2, h3⟩; refine ⟨(x.2 - C).toNat, List.mem_range.2 (by omega), ?_⟩; obtain ⟨a, b⟩ := x; simp only at h1 h2 h3 ⊢; subst h1
    congr 1; omega
theorem mem_colsF (A C : Int) (cy n : Nat) (x : Int × Int) : x ∈ colsF A C cy n ↔ (A ≤ x.1 ∧ x.1 < A + n) ∧ C ≤ x.2 ∧ x.2 < C + cy := by
  unfold colsF; rw [List.mem_flatMap]; constructor
  · rintro ⟨i, hi, hx⟩; rw [mem_colF] at hx; have := List.mem_range.1 hi; refine ⟨?_, hx.2⟩; omega
  · rintro ⟨h1, h2⟩; refine ⟨(x.1 - A).toNat, List.mem_range.2 (by omega), ?_⟩; rw [mem_colF]; exact ⟨by omega, h2⟩
theorem colsF_nodup (A C : Int) (cy : Nat) : ∀ n, (colsF A C cy n).Nodup
  | 0 => by simp [colsF]
  | n + 1 => by
    rw [colsF_succ]; refine List.nodup_append.2 ⟨colsF_nodup A C cy n, colF_nodup _ _ _, fun x hx y hy e => ?_⟩; subst e; rw [mem_colsF] at hx; rw [mem_colF] at hy; omega
theorem fieldsL_nodup (b : Bx) : (fieldsL b).Nodup := colsF_nodup _ _ _ _
theorem mem_fieldsL (b : Bx) (h : b.Ok) (x : Int × Int) : x ∈ fieldsL b ↔ (b.lo.x / 256 ≤ x.1 ∧ x.1 ≤ b.hi.x / 256) ∧ b.lo.y / 256 ≤ x.2 ∧ x.2 ≤ b.hi.y / 256 := by
  unfold fieldsL; rw [mem_colsF]; obtain ⟨h1, h2, h3, h4⟩ := h; have e1 : (b.cx : Int) = b.hi.x / 256 - b.lo.x / 256 + 1 := by unfold Bx.cx; omega
  have e2 : (b.cy : Int) = b.hi.y / 256 - b.lo.y / 256 + 1 := by unfold Bx.cy; omega
  rw [e1, e2]; omega
theorem fieldsL_len (b : Bx) (h : greatF b = false) (hb : b.Ok) : (fieldsL b).length ≤ 64 := by
  have hl : ∀ A C cy n, (colsF A C cy n).length = n * cy := by
    intro A C cy n
    induction n with
    | zero => simp [colsF]
    | succ n ih => rw [colsF_succ, List.length_append, ih, Nat.add_mul]; simp [colF]
  unfold fieldsL; rw [hl]; unfold greatF at h; have := of_decide_eq_false h; obtain ⟨h1, h2, h3, h4⟩ := hb; have e1 : (b.cx : Int) = b.hi.x / 256 - b.lo.x / 256 + 1 := by unfold Bx.cx; omega
  have e2 : (b.cy : Int) = b.hi.y / 256 - b.lo.y / 256 + 1 := by unfold Bx.cy; omega
  rw [← e1, ← e2] at this; have h5 : ((b.cx * b.cy : Nat) : Int) ≤ 64 := by push_cast; omega
  omega
def fieldI (bs : List Bx) (pre : List (Int × Int)) (fld : Int × Int) : List Int := fieldG bs fld ++ if fld ∈ pre then [(bs.length : Int)] else []
theorem fieldI_step (bs : List Bx) (pre : List (Int × Int)) (x : Int × Int) (hx : x ∉ pre) : gput (fieldI bs pre) x (fieldI bs pre x ++ [(bs.length : Int)]) = fieldI bs (pre ++ [x]) := by
  funext y
  by_cases e : y = x
  · subst e; rw [gput_same]; unfold fieldI; rw [if_neg hx, if_pos (by simp)]; simp
  · rw [gput_other _ _ e]; unfold fieldI
    congr 1
    by_cases h : y ∈ pre
    · rw [if_pos h, if_pos (by simp [h])]
    · rw [if_neg h, if_neg (by simp [h, e])]
theorem fieldI_nil (bs : List Bx) : fieldI bs [] = fieldG bs := by funext y; simp [fieldI]
theorem fieldI_end (bs : List Bx) (b : Bx) (h : greatF b = false) : fieldI bs (fieldsL b) = fieldG (bs ++ [b]) := by
  funext y
  rw [fieldG_snoc]; unfold fieldI
  congr 1
  by_cases h2 : y ∈ fieldsL b
  · rw [if_pos h2, if_pos ⟨h, h2⟩]
  · rw [if_neg h2, if_neg (fun h3 => h2 h3.2)]
theorem fieldI_len (bs : List Bx) (pre : List (Int × Int)) (x : Int × Int) : (fieldI bs pre x).length ≤ bs.length + 1 := by
  unfold fieldI; have := fieldG_len bs x; rw [List.length_append]
  split <;> simp <;> omega
theorem fieldG_great (bs : List Bx) (b : Bx) (h : greatF b = true) : fieldG (bs ++ [b]) = fieldG bs := by
  funext y
  rw [fieldG_snoc, if_neg (by rw [h]; simp), List.append_nil]
theorem greatsF_small (bs : List Bx) (b : Bx) (h : greatF b = false) : greatsF (bs ++ [b]) = greatsF bs := by
  rw [greatsF_snoc, h]; simp
def iCell (i : Int) : List Value := [.int .i64 i]
theorem iCells (l : List Int) : l.flatMap iCell = ins l := by
  induction l with
  | nil => rfl
  | cons x l ih => simp only [List.flatMap_cons, ih]; simp [iCell, ins]
end Go
namespace Go.Proofs.Ytccamjnomjcchaa
open Go.RowKit
theorem Try.infoBx : (Try.prog.info? 104).map (fun i => (i.zero, i.size, i.bytes)) = some (some (.agg #[.int .i64 0, .int .i64 0, .int .i64 0, .int .i64 0]), 4, 32) := by kernel_rfl
theorem Try.zeroIs (w : World) : (zeroValue 43).run Try.prog w = .ok (.slice none 0 0) w := by kernel_rfl
structure IdxIn (w : World) (B : Nat) (bs : List Bx) (va vg : Value) (f : Int × Int → Option Value) (G : Int × Int → List Int) (gs : List Int) : Prop where
  all : w.ownsRow (B + 2) 104 4 va bs.length (bxs bs)
  great : w.ownsRow (B + 2) 3 1 vg gs.length (ins gs)
  rows : GRows 3 1 iCell w (B + 2) f G
  d1 : Disj va vg
  d2 : ∀ a v, f a = some v → Disj va v ∧ Disj vg v
def IdxOk (w : World) (B : Nat) (bs : List Bx) : Prop :=
  ∃ (va vg : Value) (f : Int × Int → Option Value) (m n : Nat), Blk w (B + 1) [va, .map (some B), vg] ∧ VMap Try.prog 110 In2.val w B f m n ∧ n ≤ 64 * bs.length ∧ IdxIn w B bs va vg f (fieldG bs) (greatsF bs) ∧ ∀ b ∈ bs, b.Ok
theorem IdxIn.keep {w w' : World} {B : Nat} {bs : List Bx} {va vg : Value} {f : Int × Int → Option Value} {G : Int × Int → List Int} {gs : List Int} (h : IdxIn w B bs va vg f G gs) (hb : Below w.heap.size w w') : IdxIn w' B bs va vg f G gs :=
  ⟨h.all.below hb, h.great.below hb, h.rows.keep hb, h.d1, h.d2⟩
theorem IdxOk.keep {w w' : World} {B : Nat} {bs : List Bx} (h : IdxOk w B bs) (hb : Below w.heap.size w w') : IdxOk w' B bs := by
  obtain ⟨va, vg, f, m, n, h1, h2, h3, h4, h5⟩ := h; exact ⟨va, vg, f, m, n, h1.keep hb, h2.keep hb, h3, h4.keep hb, h5⟩
end Go.Proofs.Ytccamjnomjcchaa
/- Which boxes meet: those that are great, and those that share a field (plain). -/
set_option linter.unusedVariables false
set_option linter.unusedSimpArgs false
namespace Go
open Go.RowKit
theorem meet_field {a b : Bx} (ha : a.Ok) (hb : b.Ok) (h : meetF a b = true) : ∃ fld, fld ∈ fieldsL a ∧ fld ∈ fieldsL b := by
  refine ⟨(max a.lo.x b.lo.x / 256, max a.lo.y b.lo.y / 256), (mem_fieldsL a ha _).2 ?_, (mem_fieldsL b hb _).2 ?_⟩
  · unfold meetF at h; simp only [Bool.and_eq_true, decide_eq_true_eq] at h; obtain ⟨h1, h2, h3, h4⟩ := ha; simp only; omega
  · unfold meetF at h; simp only [Bool.and_eq_true, decide_eq_true_eq] at h; obtain ⟨h1, h2, h3, h4⟩ := hb; simp only; omega
def MeetsAt (b : Bx) (bs : List Bx) (i : Int) : Prop := ∃ k : Nat, i = (k : Int) ∧ ∃ h : k < bs.length, meetF b bs[k] = true
theorem meets_snoc (b : Bx) (bs : List Bx) (c : Bx) (i : Int) : MeetsAt b (bs ++ [c]) i ↔ MeetsAt b bs i ∨ (i = (bs.length : Int) ∧ meetF b c = true) := by
  unfold MeetsAt; constructor
  · rintro ⟨k, rfl, hk, hm⟩; rw [List.length_append, List.length_singleton] at hk
    by_cases h : k < bs.length
    · left; refine ⟨k, rfl, h, ?_⟩
      rw [List.getElem_append_left h] at hm; exact hm
    · right
      obtain rfl : k = bs.length := by omega
      rw [List.getElem_append_right (Nat.le_refl _)] at hm; simp at hm; exact ⟨rfl, hm⟩
  · rintro (⟨k, rfl, hk, hm⟩ | ⟨rfl, hm⟩)
    · refine ⟨k, rfl, by rw [List.length_append]; omega, ?_⟩; rw [List.getElem_append_left hk]; exact hm
    · refine ⟨bs.length, rfl, by simp, ?_⟩; rw [List.getElem_append_right (Nat.le_refl _)]; simp; exact hm
theorem meets_snoc_no (b : Bx) (bs : List Bx) (c : Bx) (h : meetF b c = false) (i : Int) : MeetsAt b (bs ++ [c]) i ↔ MeetsAt b bs i := by
  rw [meets_snoc, h]; simp
theorem nodup_len : ∀ (N : Nat) (l : List Int), l.Nodup → (∀ i ∈ l, 0 ≤ i ∧ i < (N : Int)) → l.length ≤ N
  | 0, l, _, hb => by
    cases l with
    | nil => simp
    | cons x l => have := hb x (by simp); omega
  | N + 1, l, h, hb => by
    by_cases hm : (N : Int) ∈ l
    · have h1 := nodup_len N (l.erase (N : Int)) (h.erase _) (fun i hi => by
        rw [h.mem_erase_iff] at hi; have := hb i hi.2; have := hi.1; omega)
      rw [List.length_erase_of_mem hm] at h1; omega
    · have h1 := nodup_len N l h (fun i hi => by
        have := hb i hi; have : i ≠ (N : Int) := fun e => hm (e ▸ hi); omega)
      omega
end Go
/- What Pairs holds while it looks (plain). -/
set_option linter.unusedVariables false
set_option linter.unusedSimpArgs false
namespace Go
open Go.RowKit
def PairsTo (bs : List Bx) (k : Nat) (L : List (Int × Int)) : Prop := ∀ p : Int × Int, p ∈ L ↔ ∃ i j : Nat, p = ((i : Int), (j : Int)) ∧ i < k ∧ i < j ∧ ∃ (hi : i < bs.length) (hj : j < bs.length), meetF bs[i] bs[j] = true
def PairsAt (L0 : List (Int × Int)) (k : Nat) (R : List Int) (t : Nat) (L : List (Int × Int)) : Prop := ∀ p : Int × Int, p ∈ L ↔ p ∈ L0 ∨ (p.1 = (k : Int) ∧ p.2 ∈ R.take t ∧ (k : Int) < p.2)
theorem PairsTo.zero (bs : List Bx) : PairsTo bs 0 [] := fun p => by simp
theorem PairsAt.zero (L0 : List (Int × Int)) (k : Nat) (R : List Int) : PairsAt L0 k R 0 L0 := fun p => by simp
theorem PairsAt.no {L0 L : List (Int × Int)} {k t : Nat} {R : List Int} {x : Int} (h : PairsAt L0 k R t L) (hx : R[t]? = some x) (hk : ¬ (k : Int) < x) : PairsAt L0 k R (t + 1) L := fun p => by
  obtain ⟨ht, rfl⟩ := List.getElem?_eq_some_iff.1 hx; rw [h p, List.take_succ_eq_append_getElem ht, List.mem_append, List.mem_singleton]; constructor
  · rintro (h1 | ⟨h1, h2, h3⟩)
    · exact .inl h1
    · exact .inr ⟨h1, .inl h2, h3⟩
  · rintro (h1 | ⟨h1, h2 | h2, h3⟩)
    · exact .inl h1
    · exact .inr ⟨h1, h2, h3⟩
    · exact absurd (h2 ▸ h3) hk
theorem PairsAt.yes {L0 L : List (Int × Int)} {k t : Nat} {R : List Int} {x : Int} (h : PairsAt L0 k R t L) (hx : R[t]? = some x) (hk : (k : Int) < x) : PairsAt L0 k R (t + 1) (L ++ [((k : Int), x)]) := fun p => by
  obtain ⟨ht, rfl⟩ := List.getElem?_eq_some_iff.1 hx; rw [List.mem_append, h p, List.take_succ_eq_append_getElem ht, List.mem_append, List.mem_singleton, List.mem_singleton]; constructor
  · rintro ((h1 | ⟨h1, h2, h3⟩) | h1)
    · exact .inl h1
    · exact .inr ⟨h1, .inl h2, h3⟩
    · subst h1; exact .inr ⟨rfl, .inr rfl, hk⟩
  · rintro (h1 | ⟨h1, h2 | h2, h3⟩)
    · exact .inl (.inl h1)
    · exact .inl (.inr ⟨h1, h2, h3⟩)
    · exact .inr (Prod.ext h1 h2)
theorem PairsAt.done {bs : List Bx} {L0 L : List (Int × Int)} {k : Nat} {R : List Int} (h : PairsAt L0 k R R.length L) (h0 : PairsTo bs k L0) (hk : k < bs.length) (hR : ∀ x, x ∈ R ↔ MeetsAt bs[k] bs x) : PairsTo bs (k + 1) L := fun p => by
  rw [h p, h0 p, List.take_length, hR]; constructor
  · rintro (⟨i, j, e, h1, h2⟩ | ⟨h1, ⟨j, h2, hj, hm⟩, h3⟩)
    · exact ⟨i, j, e, by omega, h2⟩
    · exact ⟨k, j, Prod.ext h1 h2, by omega, by omega, hk, hj, hm⟩
  · rintro ⟨i, j, rfl, h1, h2, hi, hj, hm⟩
    by_cases e : i = k
    · subst e; exact .inr ⟨rfl, ⟨j, rfl, hj, hm⟩, by simp only; omega⟩
    · exact .inl ⟨i, j, rfl, by omega, h2, hi, hj, hm⟩
end Go
/- Rows of the program's table of types. -/
namespace Go.Proofs.Ytccamjnomjcchaa
theorem Try.infoU8 : (Try.prog.info? 5).map (fun i => (i.zero, i.size, i.bytes)) = some (some (.int .u8 0), 1, 1) := by kernel_rfl
theorem Try.infoU64 : (Try.prog.info? 34).map (fun i => (i.zero, i.size, i.bytes)) = some (some (.int .u64 0), 1, 8) := by kernel_rfl
theorem Try.infoInt : (Try.prog.info? 3).map (fun i => (i.zero, i.size, i.bytes)) = some (some (.int .i64 0), 1, 8) := by kernel_rfl
end Go.Proofs.Ytccamjnomjcchaa
/- Opening a law's arguments: a point. -/
set_option maxRecDepth 100000
namespace Go.Proofs.Ytccamjnomjcchaa
open Go.RowKit Go.ChangeShapes Go.WideShapes Go.ChangeAt
def PtIn (p : Pt) : Prop := (Lit.int .i64 p.x).wf = true ∧ (Lit.int .i64 p.y).wf = true
theorem open_pt {H : Type} {enc : TypeId × Value → H} {W : World} {base b0 : Nat} {spare : Nat → Bool} {held : Bool} {r : Reach} {v : Value} {d : DataW H} {ps : List MemPlace} (hv : Value.okWide Try.prog W r b0 46 v)
    (hd : DataW.Trod enc Try.prog W base spare held 46 v d ps) : ∃ p : Pt, v = p.val ∧ PtIn p := by
  obtain ⟨cs, rfl, hsz⟩ := okWide_struct Try.underlying46 hv; obtain ⟨n, hd⟩ := hd; have hc : (Value.agg cs).cells.toList = cs.toList := by simp [Value.cells]
  rw [hc] at hd; obtain ⟨xs, k, hk, hxy, _, hxl, hf⟩ := DataW.trod_struct Try.underlying46 hd; have c2 : Try.prog.cellsOf 46 = 2 := by kernel_rfl
  have c3 : Try.prog.cellsOf 3 = 1 := by kernel_rfl
  rw [c2] at hsz; obtain ⟨l⟩ := cs
  match xs, hxl, l, hsz with
  | [y0, y1], _, [v0, v1], _ =>
    have g0 := hf 0 _ rfl; have g1 := hf 1 _ rfl; simp [c3] at g0 g1; obtain ⟨n0, e0, -, w0⟩ := DataW.trod_int Try.underlying3 g0; obtain ⟨n1, e1, -, w1⟩ := DataW.trod_int Try.underlying3 g1; simp at e0 e1; subst e0 e1; exact ⟨⟨n0, n1⟩, rfl, w0, w1⟩
end Go.Proofs.Ytccamjnomjcchaa
/- Slices of points that come in: PC; an opener for []api.Point. -/
set_option linter.unusedVariables false
set_option linter.unusedSimpArgs false
set_option maxRecDepth 100000
namespace Go
open Go.RowKit

structure PC where
  l : List Pt
  p : Option Addr
  c : Nat
instance : Inhabited PC := ⟨⟨[], none, 0⟩⟩
def PC.val (x : PC) : Value := .slice x.p x.l.length x.c
def PC.cells (x : PC) : List Value := [x.val]
def PC.Ok (W : World) (x : PC) : Prop := Rd W x.p (pts x.l) ∧ x.l.length ≤ x.c ∧ x.c ≤ maxLen ∧ (x.p = none → x.c = 0)
theorem PC.Ok.keep {w w' : World} {x : PC} (h : x.Ok w) (hb : Below w.heap.size w w') : x.Ok w' := ⟨h.1.keep hb, h.2⟩
def PC.cut (x : PC) : PC := ⟨x.l.take 40, x.p, x.c⟩
theorem PC.Ok.cut {w : World} {x : PC} (h : x.Ok w) : x.cut.Ok w :=
  ⟨by have := h.1.take (40 * 2); rw [pts_take] at this; exact this, by have := h.2.1; simp [PC.cut]; omega, h.2.2.1, h.2.2.2⟩
end Go
namespace Go.Proofs.Ytccamjnomjcchaa
open Go.RowKit Go.ChangeShapes Go.WideShapes Go.ChangeAt
theorem one_ring {H : Type} {enc : TypeId × Value → H} {W : World} {base : Nat} {spare : Nat → Bool} {held : Bool} (hsp : ∀ b, spare b = true) (n : Nat) (cs' : List Value) (z : DataW H × List MemPlace) (hl : cs'.length = 1)
    (h : DataW.trod enc Try.prog W base spare held n 39 cs' = some z) : ∃ y : PC, cs' = y.cells ∧ y.Ok W := by
  have c3 : Try.prog.cellsOf 3 = 1 := by kernel_rfl
  match cs', hl with
  | [v], _ =>
    obtain ⟨a, l, c, rfl⟩ : ∃ a l c, v = .slice a l c := by
      rcases DataW.trod_slice Try.underlying39 h with ⟨hc, _⟩ | ⟨a, l, c, _, _, _, _, hc, _⟩
      · simp at hc; exact ⟨_, _, _, hc⟩
      · simp at hc; exact ⟨_, _, _, hc⟩
    obtain ⟨xs, rfl, h1, h2, h3, h4, -⟩ := open_flat 2 (by decide) Pt.cells (fun _ => True) (fun _ => rfl) Try.underlying39 (by kernel_rfl) (fun n cs z hcl ht => by
      obtain ⟨ys, k, hk, hxy, _, hxl, hf⟩ := DataW.trod_struct Try.underlying46 ht
      match ys, hxl, cs, hcl with
      | [y0, y1], _, [v0, v1], _ =>
        have g0 := hf 0 _ rfl; have g1 := hf 1 _ rfl; simp [c3] at g0 g1; obtain ⟨n0, e0, -, w0⟩ := DataW.trod_int Try.underlying3 g0; obtain ⟨n1, e1, -, w1⟩ := DataW.trod_int Try.underlying3 g1; simp at e0 e1; subst e0 e1; exact ⟨⟨n0, n1⟩, rfl, trivial⟩) h
    exact ⟨⟨xs, a, c⟩, rfl, h4, h1, h2, h3⟩

theorem one_pt {H : Type} {enc : TypeId × Value → H} {W : World} {base : Nat} {spare : Nat → Bool} {held : Bool} (n : Nat) (cs : List Value) (z : DataW H × List MemPlace) (hcl : cs.length = 2)
    (ht : DataW.trod enc Try.prog W base spare held n 46 cs = some z) : ∃ y : Pt, cs = y.cells ∧ PtIn y := by
  have c3 : Try.prog.cellsOf 3 = 1 := by kernel_rfl
  obtain ⟨ys, k, hk, hxy, _, hxl, hf⟩ := DataW.trod_struct Try.underlying46 ht
  match ys, hxl, cs, hcl with
  | [y0, y1], _, [v0, v1], _ =>
    have g0 := hf 0 _ rfl; have g1 := hf 1 _ rfl; simp [c3] at g0 g1; obtain ⟨n0, e0, -, w0⟩ := DataW.trod_int Try.underlying3 g0; obtain ⟨n1, e1, -, w1⟩ := DataW.trod_int Try.underlying3 g1; simp at e0 e1; subst e0 e1; exact ⟨⟨n0, n1⟩, rfl, w0, w1⟩
theorem open_pts {H : Type} {enc : TypeId × Value → H} {W : World} {base : Nat} {spare : Nat → Bool} {fuel : Nat} {a : Option Addr} {len cap : Nat} {x : DataW H × List MemPlace} {held : Bool} (hsp : ∀ b, spare b = true)
    (h : DataW.trod enc Try.prog W base spare held fuel 39 [.slice a len cap] = some x) :
    ∃ xs : List Pt, len = xs.length ∧ len ≤ cap ∧ cap ≤ maxLen ∧ (a = none → cap = 0) ∧ Rd W a (pts xs) ∧ ∀ y ∈ xs, PtIn y :=
  open_flat 2 (by decide) Pt.cells PtIn (fun _ => rfl) Try.underlying39 (by kernel_rfl) (fun n cs' z hl hz => one_pt n cs' z hl hz) h
end Go.Proofs.Ytccamjnomjcchaa
/- What a round keeps: blocks of two element types. (The same lies in XPeach, XPall8, XPonly: those texts and this one do not go together.) -/
set_option linter.unusedVariables false
set_option linter.unusedSimpArgs false
namespace Go
open Go.RowKit

def KeepT (T U : TypeId) (A B : World) : Prop := A.heap.size ≤ B.heap.size ∧ ∀ (k : Nat) (cs : Array Value) (V : TypeId) (fr : Nat × Nat), A.heap[k]? = some (Obj.cells cs V fr) → (V = T ∨ V = U) → B.heap[k]? = A.heap[k]?

theorem KeepT.trans {T U : TypeId} {A B C : World} (h : KeepT T U A B) (k : KeepT T U B C) : KeepT T U A C :=
  ⟨Nat.le_trans h.1 k.1, fun i cs V fr hi hv => by
    have h1 := h.2 i cs V fr hi hv; rw [k.2 i cs V fr (h1.trans hi) hv, h1]⟩
theorem KeepT.of_below {T U : TypeId} {A B : World} (h : Below A.heap.size A B) : KeepT T U A B :=
  ⟨h.size, fun k _ _ _ hk _ => h.block k (Array.getElem?_eq_some_iff.1 hk).1⟩
theorem KeepT.putObj {T U : TypeId} (W : World) (l : Nat) (o o' : Obj) (h : W.heap[l]? = some o) (ho : o.isCells = false) : KeepT T U W (W.putObj l o') := by
  have hg := grownBy_putObj' W l o'; refine ⟨hg.size, fun k cs V fr hk _ => hg.block k (Array.getElem?_eq_some_iff.1 hk).1 fun e => ?_⟩
  cases e
  rw [h] at hk
  cases hk
  cases ho
theorem KeepT.refl {T U : TypeId} (A : World) : KeepT T U A A := ⟨Nat.le_refl _, fun _ _ _ _ _ _ => rfl⟩

theorem KeepT.of_grownBy {T U : TypeId} {A B : World} {row : Option Nat} (hg : A.grownBy B row) (hr : ∀ r, row = some r → ∀ cs V fr, A.heap[r]? = some (Obj.cells cs V fr) → V ≠ T ∧ V ≠ U) : KeepT T U A B := by
  refine ⟨hg.size, fun k cs V fr hk hv => hg.block k (Array.getElem?_eq_some_iff.1 hk).1 fun e => ?_⟩; have := hr k e.symm cs V fr hk
  rcases hv with rfl | rfl
  · exact this.1 rfl
  · exact this.2 rfl

theorem KeepT.of_row {T U : TypeId} {A B : World} {n₀ : Nat} {e : TypeId} {size : Nat} {v : Value} {k : Nat} {xs : List Value} (hrow : A.ownsRow n₀ e size v k xs) (hT : e ≠ T) (hU : e ≠ U) (hg : A.grownBy B v.ownBlock) : KeepT T U A B :=
  KeepT.of_grownBy hg fun r he cs V fr hk => by
    rcases hrow.2 with ⟨rfl, _⟩ | ⟨g, cap, cur, rfl, _, hgb, _⟩
    · cases he
    · obtain rfl : g = r := by simpa [Value.ownBlock] using he
      rw [hgb] at hk
      cases hk
      exact ⟨hT, hU⟩

theorem KeepT.store {T U : TypeId} {A : World} {B : Nat} {t : TypeId} {v : Value} (h : Boxed A B t v) (hT : t ≠ T) (hU : t ≠ U) (u : Value) : KeepT T U A (A.setCell ⟨B, 0, none⟩ u) :=
  KeepT.of_grownBy (grownBy_setCell' A B u) fun r he cs V fr hk => by
    cases he
    rw [show A.heap[B]? = _ from h] at hk
    cases hk
    exact ⟨hT, hU⟩

theorem KeepsOthers.of_below {A B : World} (h : Below A.heap.size A B) : KeepsOthers A B :=
  KeepsOthers.of_grownBy (row := none) ⟨h.os, h.tape, h.output, h.size, fun k hk _ => h.block k hk⟩ fun _ _ e => by cases e
theorem grownBy_of_below {A B : World} (h : Below A.heap.size A B) (r : Option Nat) : A.grownBy B r := ⟨h.os, h.tape, h.output, h.size, fun k hk _ => h.block k hk⟩
end Go
/- Faces in memory: attributes, rings, faces; what keeps them. -/
set_option linter.unusedVariables false
set_option linter.unusedSimpArgs false
set_option maxRecDepth 100000
namespace Go
open Go.RowKit
structure At where
  key : ByteArray
  kind : Int
  text : ByteArray
  n : Int
instance : Inhabited At := ⟨⟨ByteArray.empty, 0, ByteArray.empty, 0⟩⟩
def At.cells (a : At) : List Value := [.string a.key, .int .i64 a.kind, .string a.text, .int .i64 a.n]
def At.val (a : At) : Value := .agg #[.string a.key, .int .i64 a.kind, .string a.text, .int .i64 a.n]
def ats (l : List At) : List Value := l.flatMap At.cells
theorem At.cells_len (a : At) : a.cells.length = 4 := rfl
theorem ats_len (l : List At) : (ats l).length = l.length * 4 := by
  unfold ats
  induction l with
  | nil => rfl
  | cons a l ih => simp only [List.flatMap_cons, List.length_append, ih, List.length_cons, At.cells_len]; omega
theorem ats_snoc (l : List At) (a : At) : ats (l ++ [a]) = ats l ++ a.cells := by simp [ats]
structure Fc where
  rs : List PC
  ra : Option Addr
  rc : Nat
  ls : List At
  aa : Option Addr
  ac : Nat
instance : Inhabited Fc := ⟨⟨[], none, 0, [], none, 0⟩⟩
def Fc.rval (f : Fc) : Value := .slice f.ra f.rs.length f.rc
def Fc.aval (f : Fc) : Value := .slice f.aa f.ls.length f.ac
def Fc.cells (f : Fc) : List Value := [f.rval, f.aval]
def Fc.val (f : Fc) : Value := .agg #[f.rval, f.aval]
def rcs (l : List PC) : List Value := l.flatMap PC.cells
def fcs (l : List Fc) : List Value := l.flatMap Fc.cells
theorem rcs_len (l : List PC) : (rcs l).length = l.length * 1 := by
  unfold rcs
  induction l with
  | nil => rfl
  | cons a l ih => simp only [List.flatMap_cons, List.length_append, ih, List.length_cons, PC.cells, List.length_nil]; omega
theorem fcs_len (l : List Fc) : (fcs l).length = l.length * 2 := by
  unfold fcs
  induction l with
  | nil => rfl
  | cons a l ih => simp only [List.flatMap_cons, List.length_append, ih, List.length_cons, Fc.cells, List.length_nil]; omega
theorem rcs_snoc (l : List PC) (x : PC) : rcs (l ++ [x]) = rcs l ++ [x.val] := by simp [rcs, PC.cells]
theorem fcs_snoc (l : List Fc) (x : Fc) : fcs (l ++ [x]) = fcs l ++ x.cells := by simp [fcs]
def Fc.rings (f : Fc) : List (List Pt) := f.rs.map PC.l
def Fc.Ok (W : World) (f : Fc) : Prop :=
  (Rd W f.ra (rcs f.rs) ∧ f.rs.length ≤ f.rc ∧ f.rc ≤ maxLen ∧ (f.ra = none → f.rc = 0)) ∧ (∀ r ∈ f.rs, r.Ok W) ∧ (Rd W f.aa (ats f.ls) ∧ f.ls.length ≤ f.ac ∧ f.ac ≤ maxLen ∧ (f.aa = none → f.ac = 0))
theorem Fc.Ok.keep {w w' : World} {f : Fc} (h : f.Ok w) (hb : Below w.heap.size w w') : f.Ok w' :=
  ⟨⟨h.1.1.keep hb, h.1.2⟩, fun r hr => (h.2.1 r hr).keep hb, ⟨h.2.2.1.keep hb, h.2.2.2⟩⟩

theorem Rd.fc {w : World} {a : Option Addr} {l : List Fc} (h : Rd w a (fcs l)) (i : Nat) (hi : i < l.length) :
    ∃ b off, a = some ⟨b, off, none⟩ ∧ b < w.heap.size ∧ w.cell? ⟨b, off + i * 2, none⟩ = some l[i].rval ∧ w.cell? ⟨b, off + i * 2 + 1, none⟩ = some l[i].aval := by
  have g : ∀ j, j < 2 → (fcs l)[i * 2 + j]? = (l[i]).cells[j]? := fun j hj => flatMap_get Fc.cells 2 (fun _ => rfl) l i j hi hj; obtain ⟨b, off, rfl, h0, hb⟩ := h.at (i := i * 2 + 0) (v := l[i].rval) (by rw [g 0 (by omega)]; rfl); obtain ⟨b', off', e, h1, -⟩ := h.at (i := i * 2 + 1) (v := l[i].aval) (by rw [g 1 (by omega)]; rfl)
  cases e
  exact ⟨b, off, rfl, hb, h0, by rw [Nat.add_assoc]; exact h1⟩
theorem Rd.rc {w : World} {a : Option Addr} {l : List PC} (h : Rd w a (rcs l)) (i : Nat) (hi : i < l.length) :
    ∃ b off, a = some ⟨b, off, none⟩ ∧ b < w.heap.size ∧ w.cell? ⟨b, off + i, none⟩ = some l[i].val := by
  have g : (rcs l)[i * 1 + 0]? = (l[i]).cells[0]? := flatMap_get PC.cells 1 (fun _ => rfl) l i 0 hi (by omega); obtain ⟨b, off, rfl, h0, hb⟩ := h.at (i := i * 1 + 0) (v := l[i].val) (by rw [g]; rfl); exact ⟨b, off, rfl, hb, by rw [Nat.mul_one, Nat.add_zero] at h0; exact h0⟩
theorem Rd.atr {w : World} {a : Option Addr} {l : List At} (h : Rd w a (ats l)) (i : Nat) (hi : i < l.length) :
    ∃ b off, a = some ⟨b, off, none⟩ ∧ b < w.heap.size ∧ w.cell? ⟨b, off + i * 4, none⟩ = some (.string l[i].key) ∧ w.cell? ⟨b, off + i * 4 + 1, none⟩ = some (.int .i64 l[i].kind) ∧ w.cell? ⟨b, off + i * 4 + 2, none⟩ = some (.string l[i].text) ∧ w.cell? ⟨b, off + i * 4 + 3, none⟩ = some (.int .i64 l[i].n) := by
  have g : ∀ j, j < 4 → (ats l)[i * 4 + j]? = (l[i]).cells[j]? := fun j hj => flatMap_get At.cells 4 (fun _ => rfl) l i j hi hj; obtain ⟨b, off, rfl, h0, hb⟩ := h.at (i := i * 4 + 0) (v := .string l[i].key) (by rw [g 0 (by omega)]; rfl); obtain ⟨b', off', e, h1, -⟩ := h.at (i := i * 4 + 1) (v := .int .i64 l[i].kind) (by rw [g 1 (by omega)]; rfl)
  cases e
  obtain ⟨b', off', e, h2, -⟩ := h.at (i := i * 4 + 2) (v := .string l[i].text) (by rw [g 2 (by omega)]; rfl)
  cases e
  obtain ⟨b', off', e, h3, -⟩ := h.at (i := i * 4 + 3) (v := .int .i64 l[i].n) (by rw [g 3 (by omega)]; rfl)
  cases e
  refine ⟨b, off, rfl, hb, h0, ?_, ?_, ?_⟩
  · rw [Nat.add_assoc]; exact h1
  · rw [Nat.add_assoc]; exact h2
  · rw [Nat.add_assoc]; exact h3
theorem ats_one (l : List At) : ∀ u ∈ ats l, u.oneCell' = true := by
  intro u hu; obtain ⟨p, -, hu⟩ := List.mem_flatMap.1 hu; simp [At.cells] at hu
  rcases hu with rfl | rfl | rfl | rfl <;> rfl
theorem rcs_one (l : List PC) : ∀ u ∈ rcs l, u.oneCell' = true := by
  intro u hu; obtain ⟨p, -, hu⟩ := List.mem_flatMap.1 hu; simp [PC.cells, PC.val] at hu; rw [hu]; rfl
theorem fcs_one (l : List Fc) : ∀ u ∈ fcs l, u.oneCell' = true := by
  intro u hu; obtain ⟨p, -, hu⟩ := List.mem_flatMap.1 hu; simp [Fc.cells, Fc.rval, Fc.aval] at hu
  rcases hu with rfl | rfl <;> rfl
def TypB (W : World) (a : Option Addr) (T : TypeId) : Prop := ∀ b, a.map (·.block) = some b → ∃ cs fr, W.heap[b]? = some (.cells cs T fr)
theorem TypB.none (W : World) (T : TypeId) : TypB W none T := fun b h => by simp at h
theorem TypB.of_owns {W : World} {base : Nat} {e : TypeId} {size n c m : Nat} {a : Option Addr} {xs : List Value} (h : W.ownsRow base e size (.slice a n c) m xs) : TypB W a e := by
  intro b hb
  rcases h.2 with ⟨h1, -⟩ | ⟨g, cap, cur, h1, -, hg, -⟩
  · cases h1; simp at hb
  · cases h1
    simp at hb; subst hb; exact ⟨cur, _, hg⟩
def KeepS (S : TypeId → Prop) (A B : World) : Prop := A.heap.size ≤ B.heap.size ∧ ∀ (k : Nat) (cs : Array Value) (V : TypeId) (fr : Nat × Nat), A.heap[k]? = some (Obj.cells cs V fr) → S V → B.heap[k]? = A.heap[k]?
theorem KeepS.refl {S : TypeId → Prop} (A : World) : KeepS S A A := ⟨Nat.le_refl _, fun _ _ _ _ _ _ => rfl⟩
theorem KeepS.trans {S : TypeId → Prop} {A B C : World} (h : KeepS S A B) (k : KeepS S B C) : KeepS S A C :=
  ⟨Nat.le_trans h.1 k.1, fun i cs V fr hi hv => by
    have h1 := h.2 i cs V fr hi hv; rw [k.2 i cs V fr (h1.trans hi) hv, h1]⟩
theorem KeepS.of_below {S : TypeId → Prop} {A B : World} (h : Below A.heap.size A B) : KeepS S A B :=
  ⟨h.size, fun k _ _ _ hk _ => h.block k (Array.getElem?_eq_some_iff.1 hk).1⟩
theorem KeepS.of_grownBy {S : TypeId → Prop} {A B : World} {row : Option Nat} (hg : A.grownBy B row) (hr : ∀ r, row = some r → ∀ cs V fr, A.heap[r]? = some (Obj.cells cs V fr) → ¬ S V) : KeepS S A B :=
  ⟨hg.size, fun k cs V fr hk hv => hg.block k (Array.getElem?_eq_some_iff.1 hk).1 fun e => hr k e.symm cs V fr hk hv⟩
theorem KeepS.of_row {S : TypeId → Prop} {A B : World} {n₀ : Nat} {e : TypeId} {size : Nat} {v : Value} {k : Nat} {xs : List Value} (hrow : A.ownsRow n₀ e size v k xs) (hS : ¬ S e) (hg : A.grownBy B v.ownBlock) : KeepS S A B :=
  KeepS.of_grownBy hg fun r he cs V fr hk => by
    rcases hrow.2 with ⟨rfl, _⟩ | ⟨g, cap, cur, rfl, _, hgb, _⟩
    · cases he
    · obtain rfl : g = r := by simpa [Value.ownBlock] using he
      rw [hgb] at hk
      cases hk
      exact hS
theorem KeepS.store {S : TypeId → Prop} {A : World} {p : Addr} {t : TypeId} {cs : Array Value} {fr : Nat × Nat} (h : A.heap[p.block]? = some (.cells cs t fr)) (hS : ¬ S t) (u : Value) : KeepS S A (A.setCell p u) := by
  refine ⟨by simp [World.setCell], fun k cs' V fr' hk hv => ?_⟩; refine Below.heap_setCell A p u k (fun e => ?_); subst e; rw [h] at hk
  cases hk
  exact hS hv
theorem Rd.keepS {S : TypeId → Prop} {A B : World} {a : Option Addr} {vs : List Value} {T : TypeId} (h : Rd A a vs) (ht : TypB A a T) (hS : S T) (k : KeepS S A B) : Rd B a vs := by
  rcases h with h | ⟨b, off, rfl, hc⟩
  · exact .inl h
  · refine .inr ⟨b, off, rfl, fun i v hv => ?_⟩; obtain ⟨cs, fr, hb⟩ := ht b rfl; have := hc i v hv; simp only [World.cell?, k.2 b cs T fr hb hS]; exact this
theorem TypB.keepS {S : TypeId → Prop} {A B : World} {a : Option Addr} {T : TypeId} (ht : TypB A a T) (hS : S T) (k : KeepS S A B) : TypB B a T := by
  intro b hb; obtain ⟨cs, fr, h⟩ := ht b hb; exact ⟨cs, fr, (k.2 b cs T fr h hS).trans h⟩
end Go
namespace Go.Proofs.Ytccamjnomjcchaa
open Go.RowKit
def PcT (W : World) (x : PC) : Prop := x.Ok W ∧ TypB W x.p 46
def FcT (W : World) (f : Fc) : Prop := f.Ok W ∧ TypB W f.ra 39 ∧ (∀ r ∈ f.rs, PcT W r) ∧ TypB W f.aa 93
def faceS (T : TypeId) : Prop := T = 46 ∨ T = 39 ∨ T = 93
theorem PcT.keepS {S : TypeId → Prop} {A B : World} {x : PC} (h : PcT A x) (hS : S 46) (k : KeepS S A B) : PcT B x :=
  ⟨⟨h.1.1.keepS h.2 hS k, h.1.2⟩, h.2.keepS hS k⟩
theorem FcT.keepS {A B : World} {f : Fc} (h : FcT A f) (k : KeepS faceS A B) : FcT B f := by
  obtain ⟨⟨h1, h2, h3⟩, t1, t2, t3⟩ := h; exact ⟨⟨⟨h1.1.keepS t1 (.inr (.inl rfl)) k, h1.2⟩, fun r hr => ((t2 r hr).keepS (.inl rfl) k).1, ⟨h3.1.keepS t3 (.inr (.inr rfl)) k, h3.2⟩⟩, t1.keepS (.inr (.inl rfl)) k, fun r hr => (t2 r hr).keepS (.inl rfl) k, t3.keepS (.inr (.inr rfl)) k⟩
theorem FcT.keep {A B : World} {f : Fc} (h : FcT A f) (hb : Below A.heap.size A B) : FcT B f := h.keepS (KeepS.of_below hb)
theorem PcT.keep {A B : World} {f : PC} (h : PcT A f) (hb : Below A.heap.size A B) : PcT B f := h.keepS (S := faceS) (.inl rfl) (KeepS.of_below hb)
theorem faceS_face : ¬ faceS 38 := by unfold faceS; decide
theorem Try.infoAt : (Try.prog.info? 93).map (fun i => (i.zero, i.size, i.bytes)) = some (some (.agg #[.string ⟨#[]⟩, .int .i64 0, .string ⟨#[]⟩, .int .i64 0]), 4, 48) := by kernel_rfl
theorem Try.infoFace : (Try.prog.info? 38).map (fun i => (i.zero, i.size, i.bytes)) = some (some (.agg #[.slice none 0 0, .slice none 0 0]), 2, 48) := by kernel_rfl
theorem Try.infoRow : (Try.prog.info? 39).map (fun i => (i.zero, i.size, i.bytes)) = some (some (.slice none 0 0), 1, 24) := by kernel_rfl
theorem Try.infoPnt : (Try.prog.info? 46).map (fun i => (i.zero, i.size, i.bytes)) = some (some (.agg #[.int .i64 0, .int .i64 0]), 2, 16) := by kernel_rfl
end Go.Proofs.Ytccamjnomjcchaa
/- A ring's edges, as pairs of points; a yield's answer as a letter. -/
set_option linter.unusedVariables false
set_option linter.unusedSimpArgs false
namespace Go
def edges (l : List Pt) : List (Pt × Pt) := (List.range l.length).map fun i => (l[i]!, l[(i + 1) % l.length]!)
theorem yield_bool {e : Ending} {A B C : Prop} (h : (e = .returned (.bool true) ∧ A ∧ B) ∨ (e = .returned (.bool false) ∧ C)) : ∃ b, e = .returned (.bool b) ∧ ((b = true ∧ A ∧ B) ∨ (b = false ∧ C)) := by
  rcases h with ⟨h, a⟩ | ⟨h, c⟩
  · exact ⟨true, h, .inl ⟨rfl, a⟩⟩
  · exact ⟨false, h, .inr ⟨rfl, c⟩⟩
theorem ok_get (l : List Pt) (h : l.all okPt = true) (i : Nat) (hi : i < l.length) : okPt l[i]! = true := by
  rw [getElem!_pos l i hi]; exact List.all_eq_true.1 h _ (List.getElem_mem _)
end Go

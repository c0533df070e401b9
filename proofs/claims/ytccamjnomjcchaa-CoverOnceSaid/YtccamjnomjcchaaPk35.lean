/-
  Without one of its faces a coverage is one, too (plain). The rows of edges do not matter (plain). What cover.Valid tells, of sides (plain). What the document's Valid tells (plain). Classes and cuts, from whichever end: in plain terms. Segments: what their class tells of their boxes, and of a midpoint (plain).
-/
import Derived.Test.YtccamjnomjcchaaPk23
import Derived.Test.YtccamjnomjcchaaPk26
import Derived.Test.YtccamjnomjcchaaPk31
import Derived.Test.YtccamjnomjcchaaPk32
import Derived.Test.YtccamjnomjcchaaPk34
import Derived.Test.YtccamjnomjcchaaPk11
import Derived.Test.YtccamjnomjcchaaPk4
import Derived.Test.YtccamjnomjcchaaPk12
/- Without one of its faces a coverage is one, too (plain). -/
set_option linter.unusedVariables false
set_option linter.unusedSimpArgs false
namespace Go
open Go.RowKit
def Ed.up (n m : Nat) (e : Ed) : Ed := ⟨⟨e.s.f + n, e.s.r, e.s.a, e.s.b⟩, e.g + m, e.n, e.m⟩
theorem faceEd_up (i g : Nat) (f : List (List Pt)) (n m : Nat) : faceEd (i + n) (g + m) f f.length = (faceEd i g f f.length).map (Ed.up n m) := by
  unfold faceEd; rw [List.map_flatMap]
  congr 1
  funext k
  unfold ringEd; rw [List.map_map]; refine List.map_congr_left fun q _ => ?_; simp [Ed.up]; omega
def Ed.gs (g : Nat) (i : Nat) : List (List (List Pt)) → List Ed
  | [] => []
  | f :: l => faceEd i g f f.length ++ Ed.gs (g + f.length) (i + 1) l
theorem gs_append (A B : List (List (List Pt))) (g i : Nat) : Ed.gs g i (A ++ B) = Ed.gs g i A ++ Ed.gs (g + cntR A) (i + A.length) B := by
  induction A generalizing g i with
  | nil => simp [Ed.gs, cntR]
  | cons f A ih =>
    simp only [List.cons_append, Ed.gs, ih, cntR, List.length_cons, List.append_assoc]; rw [show g + f.length + cntR A = g + (f.length + cntR A) by omega, show i + 1 + A.length = i + (A.length + 1) by omega]
theorem gs_up (B : List (List (List Pt))) (g i n m : Nat) : Ed.gs (g + m) (i + n) B = (Ed.gs g i B).map (Ed.up n m) := by
  induction B generalizing g i with
  | nil => rfl
  | cons f B ih =>
    simp only [Ed.gs, List.map_append]; rw [faceEd_up, ← ih, show g + m + f.length = g + f.length + m by omega, show i + n + 1 = i + 1 + n by omega]
theorem allEd_gs (F : List (List (List Pt))) : allEd F = Ed.gs 0 0 F := by
  have h : ∀ n, n ≤ F.length → someEd F n = Ed.gs 0 0 (F.take n) := by
    intro n hn
    induction n with
    | zero => rfl
    | succ n ih =>
      rw [someEd_succ, ih (by omega), List.take_succ_eq_append_getElem (by omega), gs_append, getElem!_pos F n (by omega)]; simp [Ed.gs, List.length_take, Nat.min_eq_left (show n ≤ F.length by omega)]
  unfold allEd; rw [h _ (Nat.le_refl _), List.take_length]
theorem gs_f (F : List (List (List Pt))) (g i : Nat) : ∀ e ∈ Ed.gs g i F, (i ≤ e.s.f ∧ e.s.f < i + F.length) ∧ g ≤ e.g ∧ e.g < g + cntR F := by
  induction F generalizing g i with
  | nil => intro e he; cases he
  | cons f F ih =>
    intro e he; simp only [Ed.gs, List.mem_append] at he; simp only [List.length_cons, cntR]
    rcases he with he | he
    · unfold faceEd at he; obtain ⟨k, hk, he⟩ := List.mem_flatMap.1 he; obtain ⟨n, hn, rfl⟩ := mem_ringEd.1 he; have := List.mem_range.1 hk; dsimp only; omega
    · have := ih _ _ e he; omega
theorem allEd_split (A B : List (List (List Pt))) (x : List (List Pt)) :
    allEd (A ++ x :: B) = Ed.gs 0 0 A ++ (faceEd A.length (cntR A) x x.length ++ (Ed.gs 0 0 B).map (Ed.up (A.length + 1) (cntR A + x.length))) ∧ allEd (A ++ B) = Ed.gs 0 0 A ++ (Ed.gs 0 0 B).map (Ed.up A.length (cntR A)) := by
  constructor
  · rw [allEd_gs, gs_append]; simp only [Ed.gs, Nat.zero_add]; rw [← gs_up]; simp
  · rw [allEd_gs, gs_append, ← gs_up]
theorem some_pair (L : List Ed) (P : Ed → Ed → Prop) : ¬ somePair L P ↔ L.Pairwise fun a b => meetF (edBx a) (edBx b) = true → ¬ P a b := by
  unfold somePair; rw [List.pairwise_iff_getElem]; constructor
  · intro h i j hi hj hij hm hp; exact h ⟨i, j, hij, hi, hj, hm, hp⟩
  · rintro h ⟨i, j, hij, hi, hj, hm, hp⟩; exact h i j hi hj hij hm hp
theorem nextF_ren {a b a' b' : Ed} (hg : a.g = b.g ↔ a'.g = b'.g) (h1 : a.n = a'.n ∧ a.m = a'.m) (h2 : b.n = b'.n ∧ b.m = b'.m) : nextF a b = nextF a' b' := by
  unfold nextF; rw [h1.1, h1.2, h2.1, h2.2]
  congr 1
  exact decide_eq_decide.2 hg
theorem valid_zero (F : List (List (List Pt))) : ValidIs F 0 ↔ rightR F = true ∧ ¬ somePair (allEd F) badR ∧ ¬ somePair (allEd F) badM ∧ twiceF (allEd F) = false ∧ ∀ e ∈ allEd F, sideOk (allEd F) e := by
  unfold ValidIs MeetsIs; constructor
  · rintro (⟨-, h⟩ | ⟨h0, y, hy, ⟨h1, h2⟩ | ⟨h1, ⟨-, h⟩ | ⟨h2, ⟨-, h⟩ | ⟨h3, -⟩⟩⟩⟩)
    · cases h
    · exact absurd h2.symm h1
    · cases h
    · cases h
    · subst h1
      rcases hy with ⟨h, -⟩ | ⟨h, -⟩ | ⟨-, h4, h5⟩
      · cases h
      · cases h
      · exact ⟨h0, h4, h5, h2, h3⟩
  · rintro ⟨h0, h1, h2, h3, h4⟩; exact .inr ⟨h0, 0, .inr (.inr ⟨rfl, h1, h2⟩), .inr ⟨rfl, .inr ⟨h3, .inr ⟨h4, rfl⟩⟩⟩⟩
theorem sumF_append (a b : Pt) (xs ys : List Ed) (j : Int) : sumF a b (xs ++ ys) j = sumF a b xs j + sumF a b ys j := by
  unfold sumF; rw [List.map_append, List.sum_append]
theorem sumF_up (a b : Pt) (xs : List Ed) (n m : Nat) (j : Int) : sumF a b (xs.map (Ed.up n m)) j = sumF a b xs (j - n) := by
  unfold sumF; rw [List.map_map]
  congr 1
  refine List.map_congr_left fun x _ => ?_; have hf : ((Ed.up n m x).s.f : Int) = (x.s.f : Int) + n := by simp [Ed.up]
  show (if ((Ed.up n m x).s.f : Int) = j then passF x.s.a x.s.b a b else 0) = if (x.s.f : Int) = j - n then passF x.s.a x.s.b a b else 0
  by_cases h : (x.s.f : Int) = j - n
  · rw [if_pos (by omega), if_pos h]
  · rw [if_neg (by omega), if_neg h]
theorem rowsF_append (A B : List Ed) (y : Int) : rowsF (A ++ B) y = rowsF A y ++ rowsF B y := by
  unfold rowsF; rw [List.filter_append]
theorem rowsF_up (B : List Ed) (n m : Nat) (y : Int) : rowsF (B.map (Ed.up n m)) y = (rowsF B y).map (Ed.up n m) := by
  unfold rowsF; rw [List.filter_map]
  congr 1
theorem rows_mem {L : List Ed} {y : Int} {e : Ed} (h : e ∈ rowsF L y) : e ∈ L := (List.mem_filter.1 h).1
theorem less_valid (A B : List (List (List Pt))) (x : List (List Pt)) (h : ValidIs (A ++ x :: B) 0) : ValidIs (A ++ B) 0 := by
  rw [valid_zero] at h ⊢; obtain ⟨h0, h1, h2, h3, h4⟩ := h; obtain ⟨e1, e2⟩ := allEd_split A B x; rw [some_pair, e1] at h1 h2; rw [e1] at h3 h4; rw [some_pair, some_pair, e2]; have hA := gs_f A 0 0; have hB := gs_f B 0 0; have hX : ∀ e ∈ faceEd A.length (cntR A) x x.length, e.s.f = A.length := by
    intro e he; unfold faceEd at he; obtain ⟨k, hk, he⟩ := List.mem_flatMap.1 he; obtain ⟨n, hn, rfl⟩ := mem_ringEd.1 he
    rfl
  generalize faceEd A.length (cntR A) x x.length = EX at *; generalize Ed.gs 0 0 A = EA at *; generalize Ed.gs 0 0 B = EB at *; clear e1 e2; have pw : ∀ P : Ed → Ed → Prop, (∀ a b a' b' : Ed, a.s.a = a'.s.a → a.s.b = a'.s.b → b.s.a = b'.s.a → b.s.b = b'.s.b → (a.g = b.g ↔ a'.g = b'.g) → a.n = a'.n ∧ a.m = a'.m → b.n = b'.n ∧ b.m = b'.m → P a b → P a' b') →
      (EA ++ (EX ++ EB.map (Ed.up (A.length + 1) (cntR A + x.length)))).Pairwise (fun a b => meetF (edBx a) (edBx b) = true → ¬ P a b) → (EA ++ EB.map (Ed.up A.length (cntR A))).Pairwise (fun a b => meetF (edBx a) (edBx b) = true → ¬ P a b) := by
    intro P hP hp; rw [List.pairwise_append] at hp ⊢; obtain ⟨p1, p2, p3⟩ := hp; rw [List.pairwise_append] at p2; obtain ⟨-, p2, -⟩ := p2; rw [List.pairwise_map] at p2 ⊢; refine ⟨p1, p2.imp ?_, ?_⟩
    · intro a b hab hm hpp; refine hab hm (hP (Ed.up A.length (cntR A) a) (Ed.up A.length (cntR A) b) _ _ rfl rfl rfl rfl ?_ ⟨rfl, rfl⟩ ⟨rfl, rfl⟩ hpp); simp only [Ed.up]; omega
    · intro a ha b hb; obtain ⟨c, hc, rfl⟩ := List.mem_map.1 hb; intro hm hpp; refine p3 a ha (Ed.up (A.length + 1) (cntR A + x.length) c) (List.mem_append_right _ (List.mem_map.2 ⟨c, hc, rfl⟩)) hm (hP a (Ed.up A.length (cntR A) c) _ _ rfl rfl rfl rfl ?_ ⟨rfl, rfl⟩ ⟨rfl, rfl⟩ hpp); have := hA a ha; simp only [Ed.up]; omega
  refine ⟨?_, pw badR ?_ h1, pw badM ?_ h2, ?_, ?_⟩
  · unfold rightR at h0 ⊢; rw [List.all_append, List.all_cons] at h0; rw [List.all_append]; simp only [Bool.and_eq_true] at h0 ⊢; exact ⟨h0.1, h0.2.2⟩
  · intro a b a' b' q1 q2 q3 q4 q5 q6 q7 hb; unfold badR clsE at hb ⊢; rw [nextF_ren q5 q6 q7, q1, q2, q3, q4] at hb
    rcases hb with hb | ⟨hb, hc, hd⟩
    · exact .inl hb
    · exact .inr ⟨hb, q5.1 hc, hd⟩
  · intro a b a' b' q1 q2 q3 q4 q5 q6 q7 hb; unfold badM clsE at hb ⊢; rw [nextF_ren q5 q6 q7, q1, q2, q3, q4] at hb; exact ⟨hb.1, fun h => hb.2.1 (q5.2 h), hb.2.2⟩
  · unfold twiceF at h3 ⊢; simp only [Bool.not_eq_false', decide_eq_true_eq] at h3 ⊢; refine List.Nodup.sublist ?_ h3; simp only [List.map_append, List.map_map]; refine List.Sublist.append (List.Sublist.refl _) ?_; refine List.Sublist.trans ?_ (List.sublist_append_right _ _); rw [show (Ed.key ∘ Ed.up A.length (cntR A)) = (Ed.key ∘ Ed.up (A.length + 1) (cntR A + x.length)) from rfl]; exact List.Sublist.refl _
  · -- sums
    have hsum : ∀ (a b : Pt) (y j : Int), sumF a b (rowsF (EA ++ (EX ++ EB.map (Ed.up (A.length + 1) (cntR A + x.length)))) y) j = sumF a b (rowsF EA y) j + (sumF a b (rowsF EX y) j + sumF a b (rowsF EB y) (j - (A.length + 1 : Nat))) := by
      intro a b y j; rw [rowsF_append, rowsF_append, rowsF_up, sumF_append, sumF_append, sumF_up]
    have hsum' : ∀ (a b : Pt) (y j : Int), sumF a b (rowsF (EA ++ EB.map (Ed.up A.length (cntR A))) y) j = sumF a b (rowsF EA y) j + sumF a b (rowsF EB y) (j - (A.length : Nat)) := by
      intro a b y j; rw [rowsF_append, rowsF_up, sumF_append, sumF_up]
    have zA : ∀ (a b : Pt) (y j : Int), j < 0 ∨ (A.length : Int) ≤ j → sumF a b (rowsF EA y) j = 0 := fun a b y j hj => sumF_none fun e he => by
      have := hA e (rows_mem he); omega
    have zX : ∀ (a b : Pt) (y j : Int), j ≠ (A.length : Int) → sumF a b (rowsF EX y) j = 0 := fun a b y j hj => sumF_none fun e he => by
      have := hX e (rows_mem he); omega
    have zB : ∀ (a b : Pt) (y j : Int), j < 0 → sumF a b (rowsF EB y) j = 0 := fun a b y j hj => sumF_none fun e he => by omega
    -- a face's sum among the rest is what it was
    have low : ∀ (a b : Pt) (y j : Int), j < (A.length : Int) → sumF a b (rowsF (EA ++ EB.map (Ed.up A.length (cntR A))) y) j = sumF a b (rowsF (EA ++ (EX ++ EB.map (Ed.up (A.length + 1) (cntR A + x.length)))) y) j := by
      intro a b y j hj; rw [hsum, hsum', zB a b y _ (by omega), zX a b y j (by omega), zB a b y _ (by omega)]; omega
    have high : ∀ (a b : Pt) (y j : Int), (A.length : Int) ≤ j → sumF a b (rowsF (EA ++ EB.map (Ed.up A.length (cntR A))) y) j = sumF a b (rowsF (EA ++ (EX ++ EB.map (Ed.up (A.length + 1) (cntR A + x.length)))) y) (j + 1) := by
      intro a b y j hj; rw [hsum, hsum', zA a b y j (by omega), zA a b y (j + 1) (by omega), zX a b y (j + 1) (by omega)]; rw [show j + 1 - ((A.length + 1 : Nat) : Int) = j - (A.length : Int) by omega]; omega
    intro e he
    rcases List.mem_append.1 he with he | he
    · have h := h4 e (List.mem_append_left _ he); have hf := hA e he; unfold sideOk at h ⊢; refine ⟨fun j => ?_, ?_⟩
      · by_cases hj : j < (A.length : Int)
        · rw [low _ _ _ _ hj]; exact h.1 j
        · rw [high _ _ _ _ (by omega), h.1, if_neg (by omega), if_neg (by omega)]
      · rw [low _ _ _ _ (by omega)]; exact h.2
    · obtain ⟨c, hc, rfl⟩ := List.mem_map.1 he; have h := h4 (Ed.up (A.length + 1) (cntR A + x.length) c) (List.mem_append_right _ (List.mem_append_right _ (List.mem_map.2 ⟨c, hc, rfl⟩))); replace h : (∀ j : Int, sumF c.s.a c.s.b (rowsF (EA ++ (EX ++ EB.map (Ed.up (A.length + 1) (cntR A + x.length)))) ((c.s.a.y + c.s.b.y) / 2 / 64)) j = if j = ((c.s.f + (A.length + 1) : Nat) : Int) then 1 else 0) ∧ sumF c.s.b c.s.a (rowsF (EA ++ (EX ++ EB.map (Ed.up (A.length + 1) (cntR A + x.length)))) ((c.s.b.y + c.s.a.y) / 2 / 64)) ((c.s.f + (A.length + 1) : Nat) : Int) = 0 := h; show (∀ j : Int, sumF c.s.a c.s.b (rowsF (EA ++ EB.map (Ed.up A.length (cntR A))) ((c.s.a.y + c.s.b.y) / 2 / 64)) j = if j = ((c.s.f + A.length : Nat) : Int) then 1 else 0) ∧ sumF c.s.b c.s.a (rowsF (EA ++ EB.map (Ed.up A.length (cntR A))) ((c.s.b.y + c.s.a.y) / 2 / 64)) ((c.s.f + A.length : Nat) : Int) = 0; refine ⟨fun j => ?_, ?_⟩
      · by_cases hj : j < (A.length : Int)
        · rw [low _ _ _ _ hj, h.1, if_neg (by omega), if_neg (by omega)]
        · rw [high _ _ _ _ (by omega), h.1]
          by_cases e : j = ((c.s.f + A.length : Nat) : Int)
          · rw [if_pos e, if_pos (by omega)]
          · rw [if_neg e, if_neg (by omega)]
      · rw [high _ _ _ _ (by omega)]; have := h.2; rw [show ((c.s.f + (A.length + 1) : Nat) : Int) = ((c.s.f + A.length : Nat) : Int) + 1 by omega] at this; exact this
end Go
/- The rows of edges do not matter (plain). -/
set_option linter.unusedVariables false
set_option linter.unusedSimpArgs false
namespace Go
open Go.RowKit
theorem over_cases {M wx y : Int} (h : overF M wx y = true) : M ≤ 2 * y := by
  unfold overF at h; simp only [Bool.or_eq_true, Bool.and_eq_true, decide_eq_true_eq] at h; omega
theorem over_not {M wx y : Int} (h : overF M wx y = false) : 2 * y ≤ M := by
  unfold overF at h; simp only [Bool.or_eq_false_iff, decide_eq_false_iff_not] at h; omega
theorem pass_row {e : Ed} {a b : Pt} (h : passF e.s.a e.s.b a b ≠ 0) : rowIn ((a.y + b.y) / 2 / 64) e = true := by
  have hne : overF (a.y + b.y) (b.x - a.x) e.s.a.y ≠ overF (a.y + b.y) (b.x - a.x) e.s.b.y := by
    intro he; unfold passF at h; simp only [he, if_true] at h; exact h rfl
  have hk : (2 * e.s.a.y ≤ a.y + b.y ∧ a.y + b.y ≤ 2 * e.s.b.y) ∨ (2 * e.s.b.y ≤ a.y + b.y ∧ a.y + b.y ≤ 2 * e.s.a.y) := by
    cases h1 : overF (a.y + b.y) (b.x - a.x) e.s.a.y <;> cases h2 : overF (a.y + b.y) (b.x - a.x) e.s.b.y
    · rw [h1, h2] at hne; exact absurd rfl hne
    · exact .inl ⟨over_not h1, over_cases h2⟩
    · exact .inr ⟨over_not h2, over_cases h1⟩
    · rw [h1, h2] at hne; exact absurd rfl hne
  unfold rowIn; simp only [Bool.and_eq_true, decide_eq_true_eq]; omega
theorem sum_rows (l : List Ed) (a b : Pt) (j : Int) : sumF a b (rowsF l ((a.y + b.y) / 2 / 64)) j = sumF a b l j := by
  induction l with
  | nil => rfl
  | cons e l ih =>
    have h1 : sumF a b (e :: l) j = (if (e.s.f : Int) = j then passF e.s.a e.s.b a b else 0) + sumF a b l j := by simp [sumF]
    rw [h1]
    by_cases hr : rowIn ((a.y + b.y) / 2 / 64) e = true
    · have h2 : rowsF (e :: l) ((a.y + b.y) / 2 / 64) = e :: rowsF l ((a.y + b.y) / 2 / 64) := by unfold rowsF; rw [List.filter_cons, if_pos hr]
      rw [h2, ← ih]; simp [sumF]
    · have h2 : rowsF (e :: l) ((a.y + b.y) / 2 / 64) = rowsF l ((a.y + b.y) / 2 / 64) := by unfold rowsF; rw [List.filter_cons, if_neg hr]
      have h3 : passF e.s.a e.s.b a b = 0 := by
        by_cases h : passF e.s.a e.s.b a b = 0
        · exact h
        · exact absurd (pass_row h) hr
      rw [h2, ih, h3]; simp
def sideA (l : List Ed) (x : Ed) : Prop := (∀ j : Int, sumF x.s.a x.s.b l j = if j = (x.s.f : Int) then 1 else 0) ∧ sumF x.s.b x.s.a l x.s.f = 0
theorem sideOk_iff (l : List Ed) (x : Ed) : sideOk l x ↔ sideA l x := by
  unfold sideOk sideA; simp only [sum_rows]
end Go
/- What cover.Valid tells, of sides (plain). -/
set_option linter.unusedVariables false
set_option linter.unusedSimpArgs false
namespace Go
open Go.RowKit
theorem ringEd_sd (i k g : Nat) (r : List Pt) : (ringEd i k g r).map Ed.s = ringSd i k r := by
  unfold ringEd ringSd edges; rw [List.map_map, List.map_map]
  rfl
theorem allEd_sd (F : List (List (List Pt))) : (allEd F).map Ed.s = allSd F := by
  unfold allEd allSd someEd someSd; rw [List.map_flatMap]
  congr 1
  funext i
  unfold faceEd faceSd; rw [List.map_flatMap]
  congr 1
  funext k
  exact ringEd_sd _ _ _ _
def sameR (a b : Sd) : Prop := a.f = b.f ∧ a.r = b.r
def nxtS (a b : Sd) : Prop := sameR a b ∧ (a.b = b.a ∨ b.b = a.a)
def clsS (a b : Sd) : Int := (clsR a.a a.b b.a b.b).1
def badS (a b : Sd) : Prop := (nxtS a b ∧ clsS a b ≠ 1) ∨ (¬ nxtS a b ∧ sameR a b ∧ clsS a b ≠ 0)
def badT (a b : Sd) : Prop := ¬ sameR a b ∧ clsS a b ≠ 0 ∧ clsS a b ≠ 1 ∧ clsS a b ≠ 5
def sdBx (s : Sd) : Bx := boxOf s.a s.b
def PW (P : Sd → Sd → Prop) (S : List Sd) : Prop := S.Pairwise fun a b => meetF (sdBx a) (sdBx b) = true → ¬ P a b
def sumS (a b : Pt) (S : List Sd) (j : Int) : Int := (S.map fun t => if (t.f : Int) = j then passF t.a t.b a b else 0).sum
def sidesOk (S : List Sd) : Prop := ∀ s ∈ S, (∀ j : Int, sumS s.a s.b S j = if j = (s.f : Int) then 1 else 0) ∧ sumS s.b s.a S s.f = 0
def Sd.key (s : Sd) : Pt × Pt := (s.a, s.b)
open Classical in
noncomputable def v5 (R : Bool) (p q r s : Prop) : Int :=
  if R = false then 9 else if ¬ p then 9 else if ¬ q then 10 else if ¬ r then 8 else if ¬ s then 11 else 0
noncomputable def vS (R : Bool) (S : List Sd) : Int := v5 R (PW badS S) (PW badT S) (S.map Sd.key).Nodup (sidesOk S)
theorem cntR_take_lt {F : List (List (List Pt))} {i j : Nat} (hij : i < j) (hi : i < F.length) : cntR (F.take i) + (F[i]!).length ≤ cntR (F.take j) := by
  have h1 : cntR (F.take (i + 1)) = cntR (F.take i) + (F[i]!).length := by
    rw [List.take_succ_eq_append_getElem hi, cntR_append, getElem!_pos F i hi]; simp [cntR]
  have h2 : F.take j = F.take (i + 1) ++ (F.take j).drop (i + 1) := by
    have := List.take_append_drop (i + 1) (F.take j); rw [List.take_take, Nat.min_eq_left (by omega)] at this; exact this.symm
  rw [h2, cntR_append]; omega
theorem nodup_get {r : List Pt} (h : r.Nodup) {n m : Nat} (hn : n < r.length) (hm : m < r.length) : r[n]! = r[m]! ↔ n = m := by
  rw [getElem!_pos r n hn, getElem!_pos r m hm]; refine ⟨fun e => ?_, fun e => by subst e; rfl⟩; have hp := List.pairwise_iff_getElem.1 h
  rcases Nat.lt_trichotomy n m with hl | hl | hl
  · exact absurd e (hp n m hn hm hl)
  · exact hl
  · exact absurd e.symm (hp m n hm hn hl)
theorem right_nodup {F : List (List (List Pt))} (h : rightR F = true) {f : List (List Pt)} (hf : f ∈ F) {r : List Pt} (hr : r ∈ f) : r.Nodup := by
  have h1 := List.all_eq_true.1 (List.all_eq_true.1 h f hf) r hr; unfold singleF at h1; simp only [Bool.and_eq_true, decide_eq_true_eq] at h1; exact h1.1.2
theorem ed_rel {F : List (List (List Pt))} (hR : rightR F = true) {x y : Ed} (hx : x ∈ allEd F) (hy : y ∈ allEd F) : (x.g = y.g ↔ sameR x.s y.s) ∧ (nextF x y = true ↔ nxtS x.s y.s) := by
  obtain ⟨i, k, n, hi, hk, hn, rfl⟩ := mem_allEd.1 hx; obtain ⟨i', k', n', hi', hk', hn', rfl⟩ := mem_allEd.1 hy; have hg : cntR (F.take i) + k = cntR (F.take i') + k' ↔ i = i' ∧ k = k' := by
    constructor
    · intro h
      rcases Nat.lt_trichotomy i i' with e | e | e
      · have := cntR_take_lt e hi; omega
      · subst e; exact ⟨rfl, by omega⟩
      · have := cntR_take_lt e hi'; omega
    · rintro ⟨rfl, rfl⟩; rfl
  refine ⟨hg, ?_⟩; unfold nextF nxtS sameR; simp only [Bool.and_eq_true, Bool.or_eq_true, decide_eq_true_eq]; rw [hg]; refine and_congr_right fun he => ?_; obtain ⟨rfl, rfl⟩ := he; have hd := right_nodup hR (mem_getE hi) (mem_getE hk); have h1 := nodup_get hd (n := (n + 1) % ((F[i]!)[k]!).length) (m := n') (Nat.mod_lt _ (by omega)) hn'; have h2 := nodup_get hd (n := (n' + 1) % ((F[i]!)[k]!).length) (m := n) (Nat.mod_lt _ (by omega)) hn; rw [h1, h2]
theorem pair_PW {F : List (List (List Pt))} (P : Ed → Ed → Prop) (Q : Sd → Sd → Prop) (h : ∀ x ∈ allEd F, ∀ y ∈ allEd F, P x y ↔ Q x.s y.s) : somePair (allEd F) P ↔ ¬ PW Q (allSd F) := by
  have h1 : ¬ somePair (allEd F) P ↔ PW Q (allSd F) := by
    rw [some_pair, ← allEd_sd]; unfold PW; rw [List.pairwise_map]; constructor
    · intro hp; exact hp.imp_of_mem fun ha hb hh hm hq => hh hm ((h _ ha _ hb).2 hq)
    · intro hp; exact hp.imp_of_mem fun ha hb hh hm hq => hh hm ((h _ ha _ hb).1 hq)
  rw [← h1]; exact Classical.not_not.symm
theorem sumF_S (a b : Pt) (L : List Ed) (j : Int) : sumF a b L j = sumS a b (L.map Ed.s) j := by
  unfold sumF sumS; rw [List.map_map]
  rfl
theorem validB_S (F : List (List (List Pt))) : validB F = vS (rightR F) (allSd F) := by
  have h2 : ValidIs F (vS (rightR F) (allSd F)) := by
    unfold vS v5 ValidIs MeetsIs
    cases hR : rightR F with
    | false => exact .inl ⟨rfl, by simp⟩
    | true =>
      refine .inr ⟨rfl, ?_⟩; have hr : somePair (allEd F) badR ↔ ¬ PW badS (allSd F) := pair_PW _ _ fun x hx y hy => by
        obtain ⟨h1, h2⟩ := ed_rel hR hx hy; unfold badR badS; rw [h2, h1]; have h3 : nextF x y = false ↔ ¬ nxtS x.s y.s := by rw [← h2]; simp
        rw [h3]; exact Iff.rfl
      have hm : somePair (allEd F) badM ↔ ¬ PW badT (allSd F) ∨ somePair (allEd F) badM := ⟨fun h => .inr h, fun h => by
        rcases h with h | h
        · refine (pair_PW badM (fun a b => ¬ nxtS a b ∧ badT a b) fun x hx y hy => ?_).2 ?_
          · obtain ⟨h1, h2⟩ := ed_rel hR hx hy; unfold badM badT; have h3 : nextF x y = false ↔ ¬ nxtS x.s y.s := by rw [← h2]; simp
            rw [h3]; exact ⟨fun ⟨p, q, r⟩ => ⟨p, fun hs => q (h1.2 hs), r⟩, fun ⟨p, q, r⟩ => ⟨p, fun hs => q (h1.1 hs), r⟩⟩
          · intro hp; refine h (hp.imp fun hh hm hq => hh hm ⟨fun hn => hq.1 hn.1, hq⟩)
        · exact h⟩
      have hm2 : somePair (allEd F) badM → ¬ PW badT (allSd F) := fun h hp => by
        refine (pair_PW badM (fun a b => ¬ nxtS a b ∧ badT a b) fun x hx y hy => ?_).1 h (hp.imp fun hh hm hq => hh hm hq.2); obtain ⟨h1, h2⟩ := ed_rel hR hx hy; unfold badM badT; have h3 : nextF x y = false ↔ ¬ nxtS x.s y.s := by rw [← h2]; simp
        rw [h3]; exact ⟨fun ⟨p, q, r⟩ => ⟨p, fun hs => q (h1.2 hs), r⟩, fun ⟨p, q, r⟩ => ⟨p, fun hs => q (h1.1 hs), r⟩⟩
      have hmm : somePair (allEd F) badM ↔ ¬ PW badT (allSd F) := ⟨hm2, fun h => hm.2 (.inl h)⟩; have ht : twiceF (allEd F) = true ↔ ¬ ((allSd F).map Sd.key).Nodup := by
        unfold twiceF; rw [← allEd_sd, List.map_map]; have : (Sd.key ∘ Ed.s) = Ed.key := rfl; rw [this]; simp
      have hs : (∀ e ∈ allEd F, sideOk (allEd F) e) ↔ sidesOk (allSd F) := by
        unfold sidesOk; rw [← allEd_sd]; constructor
        · intro h s hs; obtain ⟨e, he, rfl⟩ := List.mem_map.1 hs; have := (sideOk_iff _ _).1 (h e he); unfold sideA at this; simp only [sumF_S] at this; exact this
        · intro h e he; rw [sideOk_iff]; unfold sideA; simp only [sumF_S]; exact h e.s (List.mem_map.2 ⟨e, he, rfl⟩)
      rw [hr, hmm, hs]; simp only [Bool.true_eq_false, if_false]
      by_cases h1 : PW badS (allSd F)
      · by_cases h2 : PW badT (allSd F)
        · refine ⟨0, .inr (.inr ⟨rfl, fun h => h h1, fun h => h h2⟩), .inr ⟨rfl, ?_⟩⟩
          by_cases h3 : ((allSd F).map Sd.key).Nodup
          · refine .inr ⟨?_, ?_⟩
            · cases htt : twiceF (allEd F)
              · rfl
              · exact absurd h3 (ht.1 htt)
            · by_cases h4 : sidesOk (allSd F)
              · exact .inr ⟨h4, by simp [h1, h2, h3, h4]⟩
              · exact .inl ⟨h4, by simp [h1, h2, h3, h4]⟩
          · exact .inl ⟨ht.2 h3, by simp [h1, h2, h3]⟩
        · exact ⟨10, .inr (.inl ⟨rfl, fun h => h h1, h2⟩), .inl ⟨by decide, by simp [h1, h2]⟩⟩
      · exact ⟨9, .inl ⟨rfl, h1⟩, .inl ⟨by decide, by simp [h1]⟩⟩
  exact ((validIs_iff _ _).1 h2).symm
end Go
/- What the document's Valid tells (plain). -/
set_option linter.unusedVariables false
set_option linter.unusedSimpArgs false
namespace Go
open Go.RowKit
def smpR (F : List (List (List Pt))) : Prop := ∀ f ∈ F, ∀ r ∈ f, simpP r
def twAt (S : List Sd) (a b : Nat) : Prop := S[a]!.a = S[b]!.a ∧ S[a]!.b = S[b]!.b
def twP (S : List Sd) (i : Nat) : Prop := ∀ a, a < i → ∀ b, b < a → ¬ twAt S a b
def sdAt (F : List (List (List Pt))) (s : Sd) (k : Nat) : Prop := roundOk F[k]! s.a s.b = true ∧ roundOk F[k]! s.b s.a = true ∧ roundN F[k]! s.a s.b = (if k = s.f then 1 else 0) ∧ (k = s.f → roundN F[k]! s.b s.a = 0)
def sdOkP (F : List (List (List Pt))) (s : Sd) : Prop := ∀ k, k < F.length → sdAt F s k
def sdsP (F : List (List (List Pt))) (S : List Sd) (i : Nat) : Prop := ∀ a, a < i → sdOkP F S[a]!
def RValIs (F : List (List (List Pt))) (S : List Sd) (x : Int) : Prop :=
  (¬ smpR F ∧ x = 9) ∨ (smpR F ∧ ((¬ matchP S S.length ∧ x = 10) ∨ (matchP S S.length ∧ ((¬ twP S S.length ∧ x = 8) ∨ (twP S S.length ∧ ((¬ sdsP F S S.length ∧ x = 11) ∨ (sdsP F S S.length ∧ x = 0)))))))
def GoodV (F : List (List (List Pt))) (S : List Sd) (e : Ending) : Prop := ∃ x : Int, e = .returned (.int .i64 x) ∧ RValIs F S x
theorem goodv9 {F : List (List (List Pt))} {S : List Sd} (h : ¬ smpR F) : GoodV F S (.returned (.int .i64 9)) := ⟨9, rfl, .inl ⟨h, rfl⟩⟩
theorem goodv10 {F : List (List (List Pt))} {S : List Sd} (h : smpR F) (h1 : ¬ matchP S S.length) : GoodV F S (.returned (.int .i64 10)) := ⟨10, rfl, .inr ⟨h, .inl ⟨h1, rfl⟩⟩⟩
theorem goodv8 {F : List (List (List Pt))} {S : List Sd} (h : smpR F) (h1 : matchP S S.length) (h2 : ¬ twP S S.length) : GoodV F S (.returned (.int .i64 8)) := ⟨8, rfl, .inr ⟨h, .inr ⟨h1, .inl ⟨h2, rfl⟩⟩⟩⟩
theorem goodv11 {F : List (List (List Pt))} {S : List Sd} (h : smpR F) (h1 : matchP S S.length) (h2 : twP S S.length) (h3 : ¬ sdsP F S S.length) : GoodV F S (.returned (.int .i64 11)) := ⟨11, rfl, .inr ⟨h, .inr ⟨h1, .inr ⟨h2, .inl ⟨h3, rfl⟩⟩⟩⟩⟩
theorem goodv0 {F : List (List (List Pt))} {S : List Sd} (h : smpR F) (h1 : matchP S S.length) (h2 : twP S S.length) (h3 : sdsP F S S.length) : GoodV F S (.returned (.int .i64 0)) := ⟨0, rfl, .inr ⟨h, .inr ⟨h1, .inr ⟨h2, .inr ⟨h3, rfl⟩⟩⟩⟩⟩
theorem mem_allSd {F : List (List (List Pt))} {s : Sd} : s ∈ allSd F ↔ ∃ i k n : Nat, i < F.length ∧ k < (F[i]!).length ∧ n < ((F[i]!)[k]!).length ∧ s = ⟨i, k, ((F[i]!)[k]!)[n]!, ((F[i]!)[k]!)[(n + 1) % ((F[i]!)[k]!).length]!⟩ := by
  rw [← allEd_sd, List.mem_map]; constructor
  · rintro ⟨e, he, rfl⟩; obtain ⟨i, k, n, h1, h2, h3, rfl⟩ := mem_allEd.1 he; exact ⟨i, k, n, h1, h2, h3, rfl⟩
  · rintro ⟨i, k, n, h1, h2, h3, rfl⟩; exact ⟨_, mem_allEd.2 ⟨i, k, n, h1, h2, h3, rfl⟩, rfl⟩
theorem simp_ne {r : List Pt} (h : simpP r) {n : Nat} (hn : n < r.length) : r[n]! ≠ r[(n + 1) % r.length]! := by
  obtain ⟨h1, -, h3, -⟩ := h; intro e
  by_cases g : n + 1 < r.length
  · rw [Nat.mod_eq_of_lt g] at e; exact h3 (n + 1) g n (by omega) e.symm
  · have g2 : n + 1 = r.length := by omega
    rw [g2, Nat.mod_self] at e; exact h3 n hn 0 (by omega) e
theorem simp_ok {r : List Pt} (h : simpP r) {n : Nat} (hn : n < r.length) : okPt r[n]! = true := ok_get r h.2.1 n hn
theorem sd_in {F : List (List (List Pt))} (h : smpR F) : ∀ s ∈ allSd F, sdIn s := by
  intro s hs; obtain ⟨i, k, n, h1, h2, h3, rfl⟩ := mem_allSd.1 hs; have hs := h _ (mem_getE h1) _ (mem_getE h2); exact ⟨simp_ok hs h3, simp_ok hs (Nat.mod_lt _ (by omega)), simp_ne hs h3⟩
end Go
/- Classes and cuts, from whichever end: in plain terms. -/
set_option linter.unusedVariables false
set_option linter.unusedSimpArgs false
namespace Go
open Go.RowKit
theorem sg_opp (n : Int) : sg (-n) = -sg n := by
  rcases Int.lt_trichotomy n 0 with h | h | h
  · rw [sg_neg h, sg_pos (by omega)]; rfl
  · rw [sg_z h, sg_z (by omega)]; rfl
  · rw [sg_pos h, sg_neg (by omega)]
theorem onP_ends {a b : Pt} (hab : a ≠ b) (p : Pt) : onP b a p = onP a b p := by
  have e : onP b a p = true ↔ onP a b p = true := by
    rw [onP_iff hab, onP_iff (Ne.symm hab), crs_swap]; have h1 : dotP b a p = longP a b - dotP a b p := by unfold dotP longP; grind
    have h2 : longP b a = longP a b := by unfold longP; grind
    rw [h1, h2]; omega
  cases h1 : onP b a p <;> cases h2 : onP a b p <;> simp_all
theorem onP_first {a b : Pt} (hab : a ≠ b) : onP a b a = true := by
  rw [onP_iff hab]; have h1 : crs a b a = 0 := by unfold crs; grind
  have h2 : dotP a b a = 0 := by unfold dotP; grind
  have h3 : 0 ≤ longP a b := by
    have := sq_pos (b.x - a.x) (b.y - a.y) (pt_ne hab); unfold longP; omega
  omega
theorem onP_last {a b : Pt} (hab : a ≠ b) : onP a b b = true := by rw [← onP_ends hab]; exact onP_first (Ne.symm hab)
theorem rcls_ends (a b c d : Pt) (hab : a ≠ b) : rclsF b a c d = rclsF a b c d := by
  unfold rclsF; rw [onP_ends hab, onP_ends hab, crs_swap a b c, crs_swap a b d, sg_opp, sg_opp]; have e1 : ((b = c ∧ a = d) ∨ (b = d ∧ a = c)) ↔ ((a = c ∧ b = d) ∨ (a = d ∧ b = c)) := by
    constructor <;> (rintro (⟨h1, h2⟩ | ⟨h1, h2⟩) <;> simp [h1, h2])
  simp only [e1]; have e2 : b2i (onP c d b) + b2i (onP c d a) = b2i (onP c d a) + b2i (onP c d b) := Int.add_comm _ _; have e3 : b2i (onP c d b && (decide (b = c) || decide (b = d))) + b2i (onP c d a && (decide (a = c) || decide (a = d))) = b2i (onP c d a && (decide (a = c) || decide (a = d))) + b2i (onP c d b && (decide (b = c) || decide (b = d))) := Int.add_comm _ _; have e4 : (-sg (crs a b c) ≠ -sg (crs a b d) ∧ sg (crs c d b) ≠ sg (crs c d a)) ↔ (sg (crs a b c) ≠ sg (crs a b d) ∧ sg (crs c d a) ≠ sg (crs c d b)) := by omega
  simp only [e2, e3, e4]
theorem rcls_segs (a b c d : Pt) (hab : a ≠ b) (hcd : c ≠ d) : rclsF c d a b = rclsF a b c d := by
  unfold rclsF; have e1 : ((c = a ∧ d = b) ∨ (c = b ∧ d = a)) ↔ ((a = c ∧ b = d) ∨ (a = d ∧ b = c)) := by
    constructor <;> (rintro (⟨h1, h2⟩ | ⟨h1, h2⟩) <;> simp [h1, h2])
  simp only [e1]; have k1 : (onP c d a && (decide (a = c) || decide (a = d))) = (decide (a = c) || decide (a = d)) := by
    by_cases h1 : a = c
    · subst h1; rw [onP_first hcd, Bool.true_and]
    · by_cases h2 : a = d
      · subst h2; rw [onP_last hcd, Bool.true_and]
      · simp [h1, h2]
  have k2 : (onP c d b && (decide (b = c) || decide (b = d))) = (decide (b = c) || decide (b = d)) := by
    by_cases h1 : b = c
    · subst h1; rw [onP_first hcd, Bool.true_and]
    · by_cases h2 : b = d
      · subst h2; rw [onP_last hcd, Bool.true_and]
      · simp [h1, h2]
  have k3 : (onP a b c && (decide (c = a) || decide (c = b))) = (decide (a = c) || decide (b = c)) := by
    by_cases h1 : c = a
    · subst h1; rw [onP_first hab, Bool.true_and]; simp [eq_comm]
    · by_cases h2 : c = b
      · subst h2; rw [onP_last hab, Bool.true_and]; simp [eq_comm]
      · simp [h1, h2, Ne.symm h1, Ne.symm h2]
  have k4 : (onP a b d && (decide (d = a) || decide (d = b))) = (decide (a = d) || decide (b = d)) := by
    by_cases h1 : d = a
    · subst h1; rw [onP_first hab, Bool.true_and]; simp [eq_comm]
    · by_cases h2 : d = b
      · subst h2; rw [onP_last hab, Bool.true_and]; simp [eq_comm]
      · simp [h1, h2, Ne.symm h1, Ne.symm h2]
  rw [k1, k2, k3, k4]; have e2 : b2i (decide (a = c) || decide (b = c)) + b2i (decide (a = d) || decide (b = d)) = b2i (decide (a = c) || decide (a = d)) + b2i (decide (b = c) || decide (b = d)) := by
    have q1 : ¬ (a = c ∧ a = d) := fun h => hcd (h.1.symm.trans h.2); have q2 : ¬ (b = c ∧ b = d) := fun h => hcd (h.1.symm.trans h.2); have q3 : ¬ (a = c ∧ b = c) := fun h => hab (h.1.trans h.2.symm); have q4 : ¬ (a = d ∧ b = d) := fun h => hab (h.1.trans h.2.symm)
    by_cases h1 : a = c <;> by_cases h2 : a = d <;> by_cases h3 : b = c <;> by_cases h4 : b = d <;> simp [h1, h2, h3, h4, b2i] at * <;> simp_all
  rw [e2]; have e3 : b2i (onP a b c) + b2i (onP a b d) + (b2i (onP c d a) + b2i (onP c d b)) = b2i (onP c d a) + b2i (onP c d b) + (b2i (onP a b c) + b2i (onP a b d)) := Int.add_comm _ _; have e4 : (sg (crs c d a) ≠ sg (crs c d b) ∧ sg (crs a b c) ≠ sg (crs a b d)) ↔ (sg (crs a b c) ≠ sg (crs a b d) ∧ sg (crs c d a) ≠ sg (crs c d b)) := And.comm; simp only [e3, e4]
theorem ok4 {a b c d : Pt} (h : [a, b, c, d].all okPt = true) : okPt a = true ∧ okPt b = true ∧ okPt c = true ∧ okPt d = true := by
  simpa only [List.all_cons, List.all_nil, Bool.and_true, Bool.and_eq_true] using h
theorem clsR_ends (a b c d : Pt) : clsR b a c d = clsR a b c d := by
  unfold clsR; have e0 : [b, a, c, d].all okPt = [a, b, c, d].all okPt := by simp only [List.all_cons, List.all_nil]; cases okPt a <;> cases okPt b <;> rfl
  rw [e0]
  by_cases h : [a, b, c, d].all okPt = false
  · rw [if_pos h, if_pos h]
  · rw [if_neg h, if_neg h]; have e1 : (b = a ∨ c = d) ↔ (a = b ∨ c = d) := by simp only [eq_comm (a := b)]
    simp only [e1]
    by_cases h2 : a = b ∨ c = d
    · rw [if_pos h2, if_pos h2]
    · rw [if_neg h2, if_neg h2]; obtain ⟨h3, h4⟩ := not_or.1 h2; obtain ⟨oa, ob, oc, od⟩ := ok4 ((Bool.not_eq_false _).mp h); rw [cls_eq b a c d ob oa oc od (Ne.symm h3) h4, cls_eq a b c d oa ob oc od h3 h4, rcls_ends a b c d h3]
theorem clsR_segs (a b c d : Pt) : clsR c d a b = clsR a b c d := by
  unfold clsR; have e0 : [c, d, a, b].all okPt = [a, b, c, d].all okPt := by simp only [List.all_cons, List.all_nil]; cases okPt a <;> cases okPt b <;> cases okPt c <;> cases okPt d <;> rfl
  rw [e0]
  by_cases h : [a, b, c, d].all okPt = false
  · rw [if_pos h, if_pos h]
  · rw [if_neg h, if_neg h]; have e1 : (c = d ∨ a = b) ↔ (a = b ∨ c = d) := Or.comm; simp only [e1]
    by_cases h2 : a = b ∨ c = d
    · rw [if_pos h2, if_pos h2]
    · rw [if_neg h2, if_neg h2]; obtain ⟨h3, h4⟩ := not_or.1 h2; obtain ⟨oa, ob, oc, od⟩ := ok4 ((Bool.not_eq_false _).mp h); rw [cls_eq c d a b oc od oa ob h4 h3, cls_eq a b c d oa ob oc od h3 h4, rcls_segs a b c d h3 h4]

end Go
/- Segments: what their class tells of their boxes, and of a midpoint (plain). -/
set_option linter.unusedVariables false
set_option linter.unusedSimpArgs false
namespace Go
open Go.RowKit
theorem box_on {c d p : Pt} (h : onP c d p = true) : (min c.x d.x ≤ p.x ∧ p.x ≤ max c.x d.x) ∧ (min c.y d.y ≤ p.y ∧ p.y ≤ max c.y d.y) := by
  rw [← onX_onP] at h; unfold onX boxB at h; simp only [Bool.and_eq_true, decide_eq_true_eq] at h; exact h.2
theorem meet_iff (a b c d : Pt) : meetF (boxOf a b) (boxOf c d) = true ↔ (min a.x b.x ≤ max c.x d.x ∧ min c.x d.x ≤ max a.x b.x) ∧ (min a.y b.y ≤ max c.y d.y ∧ min c.y d.y ≤ max a.y b.y) := by
  unfold meetF boxOf; simp only [Bool.and_eq_true, decide_eq_true_eq]; omega
theorem mean_le {W X Y Z p q r s : Int} (hX : 0 ≤ X) (hW : W ≤ 0) (hY : 0 ≤ Y) (hZ : Z ≤ 0) (hD : X - W = Y - Z) (hD0 : 0 < X - W) (h : X * r - W * s = Y * q - Z * p) : min p q ≤ max r s ∧ min r s ≤ max p q := by
  obtain ⟨m1, hm1⟩ : ∃ m, min p q = m := ⟨_, rfl⟩; obtain ⟨M1, hM1⟩ : ∃ m, max p q = m := ⟨_, rfl⟩; obtain ⟨m2, hm2⟩ : ∃ m, min r s = m := ⟨_, rfl⟩; obtain ⟨M2, hM2⟩ : ∃ m, max r s = m := ⟨_, rfl⟩; rw [hm1, hM1, hm2, hM2]; have a1 := Int.mul_le_mul_of_nonneg_left (show m2 ≤ r by omega) hX; have a2 := Int.mul_le_mul_of_nonneg_left (show r ≤ M2 by omega) hX; have a3 := Int.mul_le_mul_of_nonneg_left (show m2 ≤ s by omega) (show 0 ≤ -W by omega); have a4 := Int.mul_le_mul_of_nonneg_left (show s ≤ M2 by omega) (show 0 ≤ -W by omega); have b1 := Int.mul_le_mul_of_nonneg_left (show m1 ≤ q by omega) hY; have b2 := Int.mul_le_mul_of_nonneg_left (show q ≤ M1 by omega) hY; have b3 := Int.mul_le_mul_of_nonneg_left (show m1 ≤ p by omega) (show 0 ≤ -Z by omega); have b4 := Int.mul_le_mul_of_nonneg_left (show p ≤ M1 by omega) (show 0 ≤ -Z by omega); constructor
  · apply Decidable.byContradiction; intro hc; have c1 := Int.mul_le_mul_of_nonneg_left (show M2 + 1 ≤ m1 by omega) (show 0 ≤ X - W by omega); have e1 : (X - W) * m1 = Y * m1 - Z * m1 := by rw [hD]; grind
    have e2 : (X - W) * (M2 + 1) = X * M2 - W * M2 + (X - W) := by grind
    rw [Int.neg_mul] at a3 a4 b3 b4; rw [Int.neg_mul] at a3 a4 b3 b4; omega
  · apply Decidable.byContradiction; intro hc; have c1 := Int.mul_le_mul_of_nonneg_left (show M1 + 1 ≤ m2 by omega) (show 0 ≤ X - W by omega); have e1 : (X - W) * (M1 + 1) = Y * M1 - Z * M1 + (X - W) := by rw [hD]; grind
    have e2 : (X - W) * m2 = X * m2 - W * m2 := by grind
    rw [Int.neg_mul] at a3 a4 b3 b4; rw [Int.neg_mul] at a3 a4 b3 b4; omega
theorem cross_ids (a b c d : Pt) : crs a b d - crs a b c = crs c d a - crs c d b ∧ crs a b d * c.x - crs a b c * d.x = crs c d a * b.x - crs c d b * a.x ∧ crs a b d * c.y - crs a b c * d.y = crs c d a * b.y - crs c d b * a.y := by
  unfold crs; refine ⟨?_, ?_, ?_⟩ <;> grind
theorem b2i_bd2 (x : Bool) : 0 ≤ b2i x ∧ b2i x ≤ 1 := by cases x <;> decide
theorem sg_cases (n : Int) : (0 < n ∧ sg n = 1) ∨ (n = 0 ∧ sg n = 0) ∨ (n < 0 ∧ sg n = -1) := by
  rcases Int.lt_trichotomy n 0 with h | h | h
  · exact .inr (.inr ⟨h, sg_neg h⟩)
  · exact .inr (.inl ⟨h, sg_z h⟩)
  · exact .inl ⟨h, sg_pos h⟩
theorem cross_meet1 (a b c d : Pt) (h0 : crs a b c < crs a b d) (h1 : sg (crs a b c) ≠ sg (crs a b d)) (h2 : sg (crs c d a) ≠ sg (crs c d b)) : meetF (boxOf a b) (boxOf c d) = true := by
  rw [meet_iff]; obtain ⟨e1, e2, e3⟩ := cross_ids a b c d; generalize crs a b c = W at *; generalize crs a b d = X at *; generalize crs c d a = Y at *; generalize crs c d b = Z at *; have g1 := sg_cases W; have g2 := sg_cases X; have g3 := sg_cases Y; have g4 := sg_cases Z; generalize sg W = sW at *; generalize sg X = sX at *; generalize sg Y = sY at *; generalize sg Z = sZ at *; have k1 : 0 ≤ X ∧ W ≤ 0 := by omega
  have k2 : 0 ≤ Y ∧ Z ≤ 0 := by omega
  exact ⟨mean_le k1.1 k1.2 k2.1 k2.2 e1 (by omega) e2, mean_le k1.1 k1.2 k2.1 k2.2 e1 (by omega) e3⟩
theorem cross_meet (a b c d : Pt) (h1 : sg (crs a b c) ≠ sg (crs a b d)) (h2 : sg (crs c d a) ≠ sg (crs c d b)) : meetF (boxOf a b) (boxOf c d) = true := by
  rcases Int.lt_trichotomy (crs a b c) (crs a b d) with h | h | h
  · exact cross_meet1 a b c d h h1 h2
  · exact absurd (by rw [h]) h1
  · have := cross_meet1 a b d c h (Ne.symm h1) (by
      rw [crs_swap c d a, crs_swap c d b, sg_opp, sg_opp]; omega)
    rw [meet_iff] at this ⊢; omega
theorem rcls_meet (a b c d : Pt) (h : rclsF a b c d ≠ 0) : meetF (boxOf a b) (boxOf c d) = true := by
  by_cases h5 : (a = c ∧ b = d) ∨ (a = d ∧ b = c)
  · rw [meet_iff]
    rcases h5 with ⟨rfl, rfl⟩ | ⟨rfl, rfl⟩ <;> omega
  · by_cases o1 : onP c d a = true
    · have := box_on o1; rw [meet_iff]; omega
    · by_cases o2 : onP c d b = true
      · have := box_on o2; rw [meet_iff]; omega
      · by_cases o3 : onP a b c = true
        · have := box_on o3; rw [meet_iff]; omega
        · by_cases o4 : onP a b d = true
          · have := box_on o4; rw [meet_iff]; omega
          · have p1 : onP c d a = false := by simpa using o1
            have p2 : onP c d b = false := by simpa using o2
            have p3 : onP a b c = false := by simpa using o3
            have p4 : onP a b d = false := by simpa using o4
            unfold rclsF at h; rw [if_neg h5, p1, p2, p3, p4] at h; simp only [b2i, Bool.false_and, Bool.false_eq_true, if_false] at h; rw [if_neg (by decide), if_neg (by decide)] at h
            split at h
            · rename_i hh; exact cross_meet a b c d hh.1 hh.2
            · exact absurd rfl h
theorem mid_side {D W X k m c d : Int} (hk : k = d - c) (hk0 : k ≠ 0) (h1 : D * (m - 2 * c) = -(2 * (W * k))) (h2 : D * (2 * d - m) = 2 * (X * k)) (hr : min c d * 2 ≤ m ∧ m ≤ 2 * max c d) : W * D ≤ 0 ∧ 0 ≤ X * D := by
  have hkk : 0 < k * k := by
    rcases Int.lt_or_gt_of_ne hk0 with h | h
    · exact Int.mul_pos_of_neg_of_neg h h
    · exact Int.mul_pos h h
  have hp : 0 ≤ (m - 2 * c) * k ∧ 0 ≤ (2 * d - m) * k := by
    rcases Int.lt_or_gt_of_ne hk0 with h | h
    · exact ⟨Int.mul_nonneg_of_nonpos_of_nonpos (by omega) (by omega), Int.mul_nonneg_of_nonpos_of_nonpos (by omega) (by omega)⟩
    · exact ⟨Int.mul_nonneg (by omega) (by omega), Int.mul_nonneg (by omega) (by omega)⟩
  have hD : 0 ≤ D * D := by
    rcases Int.lt_trichotomy D 0 with h | h | h
    · exact Int.le_of_lt (Int.mul_pos_of_neg_of_neg h h)
    · rw [h]; decide
    · exact Int.le_of_lt (Int.mul_pos h h)
  have q1 := Int.mul_nonneg hD hp.1; have q2 := Int.mul_nonneg hD hp.2; have e1 : D * D * ((m - 2 * c) * k) = -(2 * (W * D * (k * k))) := by
    have : D * D * ((m - 2 * c) * k) = D * (m - 2 * c) * (D * k) := by grind
    rw [this, h1]; grind
  have e2 : D * D * ((2 * d - m) * k) = 2 * (X * D * (k * k)) := by
    have : D * D * ((2 * d - m) * k) = D * (2 * d - m) * (D * k) := by grind
    rw [this, h2]; grind
  constructor
  · apply Decidable.byContradiction; intro hc; have := Int.mul_pos (show 0 < W * D by omega) hkk; omega
  · apply Decidable.byContradiction; intro hc; have := Int.mul_pos (show 0 < -(X * D) by omega) hkk; rw [Int.neg_mul] at this; omega
theorem mid_cls (a b c d : Pt) (hab : a ≠ b) (hcd : c ≠ d) (h : besHas (besM a b) (besV a b) c d = true) : rclsF a b c d ≠ 0 ∧ rclsF a b c d ≠ 1 ∧ rclsF a b c d ≠ 5 := by
  unfold besHas besIn besM besV at h; dsimp only at h; simp only [Bool.and_eq_true, Bool.not_eq_true', Bool.or_eq_false_iff, Bool.not_eq_false', decide_eq_true_eq, decide_eq_false_iff_not] at h; obtain ⟨⟨hpar, hon⟩, ⟨hx1, hx2⟩, hy1, hy2⟩ := h; obtain ⟨e1, -, -⟩ := cross_ids a b c d; have hYZ : crs c d a + crs c d b = 0 := by unfold crs; grind
  have hD : crs a b d - crs a b c ≠ 0 := by
    intro h0; apply hpar; unfold crs at h0; grind
  have i1 : (crs a b d - crs a b c) * ((a.x + b.x) - 2 * c.x) = -(2 * (crs a b c * (d.x - c.x))) := by
    unfold crs at hYZ ⊢; grind
  have i2 : (crs a b d - crs a b c) * (2 * d.x - (a.x + b.x)) = 2 * (crs a b d * (d.x - c.x)) := by
    unfold crs at hYZ ⊢; grind
  have i3 : (crs a b d - crs a b c) * ((a.y + b.y) - 2 * c.y) = -(2 * (crs a b c * (d.y - c.y))) := by
    unfold crs at hYZ ⊢; grind
  have i4 : (crs a b d - crs a b c) * (2 * d.y - (a.y + b.y)) = 2 * (crs a b d * (d.y - c.y)) := by
    unfold crs at hYZ ⊢; grind
  have h5 : ¬ ((a = c ∧ b = d) ∨ (a = d ∧ b = c)) := by
    rintro (⟨rfl, rfl⟩ | ⟨rfl, rfl⟩)
    · apply hpar; grind
    · apply hpar; grind
  have hYn : crs c d a ≠ 0 := by omega
  have hZn : crs c d b ≠ 0 := by omega
  have p1 : onP c d a = false := by
    cases ho : onP c d a with
    | false => rfl
    | true => exact absurd (onP_line hcd ho) hYn
  have p2 : onP c d b = false := by
    cases ho : onP c d b with
    | false => rfl
    | true => exact absurd (onP_line hcd ho) hZn
  have hWX : crs a b c * (crs a b d - crs a b c) ≤ 0 ∧ 0 ≤ crs a b d * (crs a b d - crs a b c) := by
    by_cases hx : d.x - c.x = 0
    · have hy : d.y - c.y ≠ 0 := fun h => hcd (pt_eq hx h); exact mid_side rfl hy i3 i4 (by omega)
    · exact mid_side rfl hx i1 i2 (by omega)
  have s1 : sg (crs a b c) ≠ sg (crs a b d) := by
    intro hs; have g1 := sg_cases (crs a b c); have g2 := sg_cases (crs a b d); generalize crs a b c = W at *; generalize crs a b d = X at *; have t : (0 < W ∧ 0 < X) ∨ (W < 0 ∧ X < 0) := by omega
    obtain ⟨m1, m2⟩ := hWX; generalize hE : X - W = E at *
    rcases t with ⟨t1, t2⟩ | ⟨t1, t2⟩
    · rcases Int.lt_or_gt_of_ne hD with g | g
      · have := Int.mul_neg_of_pos_of_neg t2 g; omega
      · have := Int.mul_pos t1 g; omega
    · rcases Int.lt_or_gt_of_ne hD with g | g
      · have := Int.mul_pos_of_neg_of_neg t1 g; omega
      · have := Int.mul_neg_of_neg_of_pos t2 g; omega
  have s2 : sg (crs c d a) ≠ sg (crs c d b) := by
    have g1 := sg_cases (crs c d a); have g2 := sg_cases (crs c d b); omega
  unfold rclsF; rw [if_neg h5, p1, p2]; simp only [Bool.false_and]; have hb0 : b2i false = 0 := rfl; rw [hb0]; have b1 := b2i_bd2 (onP a b c); have b2 := b2i_bd2 (onP a b d); generalize b2i (onP a b c) = B1 at *; generalize b2i (onP a b d) = B2 at *; have hs : sg (crs a b c) ≠ sg (crs a b d) ∧ sg (crs c d a) ≠ sg (crs c d b) := ⟨s1, s2⟩; simp only [if_pos hs]
  repeat' split
  all_goals omega
end Go

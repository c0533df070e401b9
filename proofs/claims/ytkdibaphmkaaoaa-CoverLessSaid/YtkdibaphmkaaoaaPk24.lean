/-
  How great few faces are. Few faces: their points are of those that came in, and no more than may be. Without one of its faces a coverage is one, too (plain).
-/
import Derived.Test.YtkdibaphmkaaoaaPk23
import Derived.Test.YtkdibaphmkaaoaaPk7
/- How great few faces are. -/
set_option linter.unusedVariables false
set_option linter.unusedSimpArgs false
namespace Go
open Go.RowKit
theorem fewFs_ls (most : Nat) (l : List Fp) : (∀ f ∈ (fewFs most l).1, f.rings.length ≤ 8 ∧ f.ls.length ≤ 10 ∧ ∀ r ∈ f.rings, r.length ≤ most) ∧ (fewFs most l).1.length = l.length := by
  have kr : ∀ (l : List (List Pt)) (s : List (List Pt) × Nat), (∀ r ∈ s.1, r.length ≤ most) → (l.foldl (fewStep most) s).1.length = s.1.length + l.length ∧ ∀ r ∈ (l.foldl (fewStep most) s).1, r.length ≤ most := by
    intro l
    induction l with
    | nil => intro s h; exact ⟨rfl, h⟩
    | cons r l ih =>
      intro s h
      have h2 : ∀ r' ∈ (fewStep most s r).1, r'.length ≤ most := by
        intro r' hr
        simp only [fewStep, List.mem_append, List.mem_singleton] at hr
        rcases hr with hr | hr
        · exact h r' hr
        · rw [hr, List.length_take]; omega
      obtain ⟨k1, k2⟩ := ih _ h2
      refine ⟨?_, k2⟩
      simp only [List.foldl_cons]
      rw [k1]
      simp [fewStep]; omega
  have key : ∀ (l : List Fp) (s : List Fp × Nat), (∀ f ∈ s.1, f.rings.length ≤ 8 ∧ f.ls.length ≤ 10 ∧ ∀ r ∈ f.rings, r.length ≤ most) → (∀ f ∈ (l.foldl (fewStepF most) s).1, f.rings.length ≤ 8 ∧ f.ls.length ≤ 10 ∧ ∀ r ∈ f.rings, r.length ≤ most) ∧ (l.foldl (fewStepF most) s).1.length = s.1.length + l.length := by
    intro l
    induction l with
    | nil => intro s h; exact ⟨h, rfl⟩
    | cons f l ih =>
      intro s h
      have h2 : ∀ g ∈ (fewStepF most s f).1, g.rings.length ≤ 8 ∧ g.ls.length ≤ 10 ∧ ∀ r ∈ g.rings, r.length ≤ most := by
        intro g hg
        simp only [fewStepF, List.mem_append, List.mem_singleton] at hg
        rcases hg with hg | hg
        · exact h g hg
        · obtain ⟨k1, k2⟩ := kr (f.rings.take 8) ([], s.2) (by simp)
          rw [hg]
          refine ⟨?_, by simp; omega, fun r hr => k2 r hr⟩
          show (fewRs most s.2 (f.rings.take 8)).1.length ≤ 8
          unfold fewRs
          rw [k1]
          simp; omega
      obtain ⟨k1, k2⟩ := ih _ h2
      refine ⟨k1, ?_⟩
      simp only [List.foldl_cons]
      rw [k2]
      simp [fewStepF]; omega
  obtain ⟨k1, k2⟩ := key l ([], 0) (by simp)
  exact ⟨k1, by unfold fewFs; rw [k2]; simp⟩
theorem few_one {fs : List Fc} {most : Nat} {x : Fp} (h : fs.map Fc.plain = fewF most [x]) : ∃ g, fs = [g] ∧ g.rs.length ≤ 8 ∧ g.ls.length ≤ 10 ∧ ∀ r ∈ g.rs, r.l.length ≤ most := by
  have h0 : fewF most [x] = (fewFs most [x]).1 := rfl
  obtain ⟨k1, k2⟩ := fewFs_ls most [x]
  rw [← h0, ← h] at k1 k2
  rw [List.length_map] at k2
  match fs, k2 with
  | [g], _ =>
    have := k1 g.plain (by simp)
    refine ⟨g, rfl, by simpa [Fc.plain, Fc.rings] using this.1, this.2.1, fun r hr => this.2.2 r.l ?_⟩
    exact List.mem_map_of_mem hr
theorem few_bd {fs : List Fc} {most : Nat} {l : List Fp} (h : fs.map Fc.plain = fewF most l) : fs.length ≤ 10 ∧ ∀ f ∈ fs, f.rs.length ≤ 8 ∧ f.ls.length ≤ 10 ∧ ∀ r ∈ f.rs, r.l.length ≤ most := by
  obtain ⟨k1, k2⟩ := fewFs_ls most (l.take 10)
  have h0 : fewF most l = (fewFs most (l.take 10)).1 := rfl
  rw [← h0, ← h] at k1 k2
  rw [List.length_map, List.length_take] at k2
  refine ⟨by omega, fun f hf => ?_⟩
  have := k1 f.plain (List.mem_map_of_mem hf)
  refine ⟨by simpa [Fc.plain, Fc.rings] using this.1, this.2.1, fun r hr => this.2.2 r.l ?_⟩
  exact List.mem_map_of_mem hr
end Go
/- Few faces: their points are of those that came in, and no more than may be. -/
set_option linter.unusedVariables false
set_option linter.unusedSimpArgs false
namespace Go
open Go.RowKit
theorem fewRs_pts (most p : Nat) (l : List (List Pt)) : (∀ r ∈ (fewRs most p l).1, ∀ x ∈ r, ∃ s ∈ l, x ∈ s) ∧ (fewRs most p l).2 = p + lenS (fewRs most p l).1 := by
  have key : ∀ (l : List (List Pt)) (s : List (List Pt) × Nat) (Q : Pt → Prop), (∀ r ∈ s.1, ∀ x ∈ r, Q x) → (∀ r ∈ l, ∀ x ∈ r, Q x) → (∀ r ∈ (l.foldl (fewStep most) s).1, ∀ x ∈ r, Q x) ∧ (s.2 = p + lenS s.1 → (l.foldl (fewStep most) s).2 = p + lenS (l.foldl (fewStep most) s).1) := by
    intro l
    induction l with
    | nil => intro s Q h _; exact ⟨h, id⟩
    | cons r l ih =>
      intro s Q h hl
      obtain ⟨k1, k2⟩ := ih (fewStep most s r) Q (by
        intro r' hr x hx
        simp only [fewStep, List.mem_append, List.mem_singleton] at hr
        rcases hr with hr | hr
        · exact h r' hr x hx
        · rw [hr] at hx; exact hl r List.mem_cons_self x (List.mem_of_mem_take hx)) (fun r hr => hl r (List.mem_cons_of_mem _ hr))
      refine ⟨k1, fun e => k2 ?_⟩
      simp only [fewStep, lenS_append, lenS, e]
      omega
  obtain ⟨k1, k2⟩ := key l ([], p) (fun x => ∃ s ∈ l, x ∈ s) (by simp) (fun r hr x hx => ⟨r, hr, hx⟩)
  exact ⟨k1, k2 (by simp [lenS])⟩
theorem few_all (most : Nat) (l : List Fp) : (∀ f ∈ fewF most l, ∀ r ∈ f.rings, ∀ x ∈ r, ∃ g ∈ l, ∃ s ∈ g.rings, x ∈ s) ∧ cntP ((fewF most l).map Fp.rings) ≤ most := by
  have key : ∀ (l : List Fp) (s : List Fp × Nat) (Q : Pt → Prop), (∀ f ∈ s.1, ∀ r ∈ f.rings, ∀ x ∈ r, Q x) → (∀ f ∈ l, ∀ r ∈ f.rings, ∀ x ∈ r, Q x) → (∀ f ∈ (l.foldl (fewStepF most) s).1, ∀ r ∈ f.rings, ∀ x ∈ r, Q x) ∧ (s.2 = cntP (s.1.map Fp.rings) → (l.foldl (fewStepF most) s).2 = cntP ((l.foldl (fewStepF most) s).1.map Fp.rings)) := by
    intro l
    induction l with
    | nil => intro s Q h _; exact ⟨h, id⟩
    | cons f l ih =>
      intro s Q h hl
      obtain ⟨q1, q2⟩ := fewRs_pts most s.2 (f.rings.take 8)
      obtain ⟨k1, k2⟩ := ih (fewStepF most s f) Q (by
        intro g hg r hr x hx
        simp only [fewStepF, List.mem_append, List.mem_singleton] at hg
        rcases hg with hg | hg
        · exact h g hg r hr x hx
        · rw [hg] at hr
          obtain ⟨t, ht, hxt⟩ := q1 r hr x hx
          exact hl f List.mem_cons_self t (List.mem_of_mem_take ht) x hxt) (fun g hg => hl g (List.mem_cons_of_mem _ hg))
      refine ⟨k1, fun e => k2 ?_⟩
      simp only [fewStepF, List.map_append, List.map_cons, List.map_nil, cntP_append, cntP]
      rw [q2, e]
      omega
  have h0 : fewF most l = (fewFs most (l.take 10)).1 := rfl
  obtain ⟨k1, k2⟩ := key (l.take 10) ([], 0) (fun x => ∃ g ∈ l, ∃ s ∈ g.rings, x ∈ s) (by simp) (fun f hf r hr x hx => ⟨f, List.mem_of_mem_take hf, r, hr, hx⟩)
  refine ⟨k1, ?_⟩
  have h1 := k2 rfl
  have h2 := fewFs_le most (l.take 10)
  rw [h0]
  unfold fewFs at h2 ⊢
  omega
theorem plain_rings (fs : List Fc) : (fs.map Fc.plain).map Fp.rings = fs.map Fc.rings := by
  rw [List.map_map]; rfl
/-- Few faces of those that came in. -/
theorem few_13 {fs : List Fc} {most : Nat} {l : List Fc} (h : fs.map Fc.plain = fewF most (l.map Fc.plain)) (Q : Pt → Prop) (hq : ∀ f ∈ l, ∀ r ∈ f.rs, ∀ x ∈ r.l, Q x) :
    fs.length ≤ 10 ∧ (∀ f ∈ fs, f.rs.length ≤ 8 ∧ f.ls.length ≤ 10 ∧ ∀ r ∈ f.rs, r.l.length ≤ most) ∧ cntP (fs.map Fc.rings) ≤ most ∧ cntR (fs.map Fc.rings) ≤ 80 ∧ ∀ f ∈ fs, ∀ r ∈ f.rs, ∀ x ∈ r.l, Q x := by
  obtain ⟨k1, k2⟩ := few_bd h
  obtain ⟨k3, k4⟩ := few_all most (l.map Fc.plain)
  rw [← h] at k3 k4
  rw [plain_rings] at k4
  refine ⟨k1, k2, k4, ?_, fun f hf r hr x hx => ?_⟩
  · have hc : ∀ fs : List Fc, (∀ f ∈ fs, f.rs.length ≤ 8) → cntR (fs.map Fc.rings) ≤ fs.length * 8 := by
      intro fs
      induction fs with
      | nil => intro _; simp [cntR]
      | cons f fs ih =>
        intro hh
        have h1 := ih (fun g hg => hh g (List.mem_cons_of_mem _ hg))
        have h2 := hh f List.mem_cons_self
        have h3 : f.rings.length = f.rs.length := by simp [Fc.rings]
        simp only [List.map_cons, cntR, List.length_cons, h3]
        omega
    have := hc fs (fun f hf => (k2 f hf).1)
    omega
  · obtain ⟨g, hg, s, hs, hxs⟩ := k3 f.plain (List.mem_map_of_mem hf) r.l (List.mem_map_of_mem hr) x hx
    obtain ⟨g', hg', rfl⟩ := List.mem_map.1 hg
    obtain ⟨s', hs', rfl⟩ := List.mem_map.1 hs
    exact hq g' hg' s' hs' x hxs
end Go
/- Without one of its faces a coverage is one, too (plain). -/
set_option linter.unusedVariables false
set_option linter.unusedSimpArgs false
namespace Go
open Go.RowKit
def Ed.up (n m : Nat) (e : Ed) : Ed := ⟨⟨e.s.f + n, e.s.r, e.s.a, e.s.b⟩, e.g + m, e.n, e.m⟩
theorem faceEd_up (i g : Nat) (f : List (List Pt)) (n m : Nat) : faceEd (i + n) (g + m) f f.length = (faceEd i g f f.length).map (Ed.up n m) := by
  unfold faceEd
  rw [List.map_flatMap]
  congr 1
  funext k
  unfold ringEd
  rw [List.map_map]
  refine List.map_congr_left fun q _ => ?_
  simp [Ed.up]
  omega
def Ed.gs (g : Nat) (i : Nat) : List (List (List Pt)) → List Ed
  | [] => []
  | f :: l => faceEd i g f f.length ++ Ed.gs (g + f.length) (i + 1) l
theorem gs_append (A B : List (List (List Pt))) (g i : Nat) : Ed.gs g i (A ++ B) = Ed.gs g i A ++ Ed.gs (g + cntR A) (i + A.length) B := by
  induction A generalizing g i with
  | nil => simp [Ed.gs, cntR]
  | cons f A ih =>
    simp only [List.cons_append, Ed.gs, ih, cntR, List.length_cons, List.append_assoc]
    rw [show g + f.length + cntR A = g + (f.length + cntR A) by omega, show i + 1 + A.length = i + (A.length + 1) by omega]
theorem gs_up (B : List (List (List Pt))) (g i n m : Nat) : Ed.gs (g + m) (i + n) B = (Ed.gs g i B).map (Ed.up n m) := by
  induction B generalizing g i with
  | nil => rfl
  | cons f B ih =>
    simp only [Ed.gs, List.map_append]
    rw [faceEd_up, ← ih, show g + m + f.length = g + f.length + m by omega, show i + n + 1 = i + 1 + n by omega]
theorem allEd_gs (F : List (List (List Pt))) : allEd F = Ed.gs 0 0 F := by
  have h : ∀ n, n ≤ F.length → someEd F n = Ed.gs 0 0 (F.take n) := by
    intro n hn
    induction n with
    | zero => rfl
    | succ n ih =>
      rw [someEd_succ, ih (by omega), List.take_succ_eq_append_getElem (by omega), gs_append, getElem!_pos F n (by omega)]
      simp [Ed.gs, List.length_take, Nat.min_eq_left (show n ≤ F.length by omega)]
  unfold allEd
  rw [h _ (Nat.le_refl _), List.take_length]
theorem gs_f (F : List (List (List Pt))) (g i : Nat) : ∀ e ∈ Ed.gs g i F, (i ≤ e.s.f ∧ e.s.f < i + F.length) ∧ g ≤ e.g ∧ e.g < g + cntR F := by
  induction F generalizing g i with
  | nil => intro e he; cases he
  | cons f F ih =>
    intro e he
    simp only [Ed.gs, List.mem_append] at he
    simp only [List.length_cons, cntR]
    rcases he with he | he
    · unfold faceEd at he
      obtain ⟨k, hk, he⟩ := List.mem_flatMap.1 he
      obtain ⟨n, hn, rfl⟩ := mem_ringEd.1 he
      have := List.mem_range.1 hk
      dsimp only
      omega
    · have := ih _ _ e he
      omega
/-- Faces, one taken out. -/
theorem allEd_split (A B : List (List (List Pt))) (x : List (List Pt)) :
    allEd (A ++ x :: B) = Ed.gs 0 0 A ++ (faceEd A.length (cntR A) x x.length ++ (Ed.gs 0 0 B).map (Ed.up (A.length + 1) (cntR A + x.length))) ∧ allEd (A ++ B) = Ed.gs 0 0 A ++ (Ed.gs 0 0 B).map (Ed.up A.length (cntR A)) := by
  constructor
  · rw [allEd_gs, gs_append]
    simp only [Ed.gs, Nat.zero_add]
    rw [← gs_up]
    simp
  · rw [allEd_gs, gs_append, ← gs_up]
/-- No two edges whose boxes meet. -/
theorem some_pair (L : List Ed) (P : Ed → Ed → Prop) : ¬ somePair L P ↔ L.Pairwise fun a b => meetF (edBx a) (edBx b) = true → ¬ P a b := by
  unfold somePair
  rw [List.pairwise_iff_getElem]
  constructor
  · intro h i j hi hj hij hm hp
    exact h ⟨i, j, hij, hi, hj, hm, hp⟩
  · rintro h ⟨i, j, hij, hi, hj, hm, hp⟩
    exact h i j hi hj hij hm hp
theorem nextF_ren {a b a' b' : Ed} (hg : a.g = b.g ↔ a'.g = b'.g) (h1 : a.n = a'.n ∧ a.m = a'.m) (h2 : b.n = b'.n ∧ b.m = b'.m) : nextF a b = nextF a' b' := by
  unfold nextF
  rw [h1.1, h1.2, h2.1, h2.2]
  congr 1
  exact decide_eq_decide.2 hg
/-- A coverage is told by its edges. -/
theorem valid_zero (F : List (List (List Pt))) : ValidIs F 0 ↔ rightR F = true ∧ ¬ somePair (allEd F) badR ∧ ¬ somePair (allEd F) badM ∧ twiceF (allEd F) = false ∧ ∀ e ∈ allEd F, sideOk (allEd F) e := by
  unfold ValidIs MeetsIs
  constructor
  · rintro (⟨-, h⟩ | ⟨h0, y, hy, ⟨h1, h2⟩ | ⟨h1, ⟨-, h⟩ | ⟨h2, ⟨-, h⟩ | ⟨h3, -⟩⟩⟩⟩)
    · cases h
    · exact absurd h2.symm h1
    · cases h
    · cases h
    · subst h1
      rcases hy with ⟨h, -⟩ | ⟨h, -⟩ | ⟨-, h4, h5⟩
      · cases h
      · cases h
      · exact ⟨h0, h4, h5, h2, h3⟩
  · rintro ⟨h0, h1, h2, h3, h4⟩
    exact .inr ⟨h0, 0, .inr (.inr ⟨rfl, h1, h2⟩), .inr ⟨rfl, .inr ⟨h3, .inr ⟨h4, rfl⟩⟩⟩⟩
theorem sumF_append (a b : Pt) (xs ys : List Ed) (j : Int) : sumF a b (xs ++ ys) j = sumF a b xs j + sumF a b ys j := by
  unfold sumF; rw [List.map_append, List.sum_append]
theorem sumF_up (a b : Pt) (xs : List Ed) (n m : Nat) (j : Int) : sumF a b (xs.map (Ed.up n m)) j = sumF a b xs (j - n) := by
  unfold sumF
  rw [List.map_map]
  congr 1
  refine List.map_congr_left fun x _ => ?_
  have hf : ((Ed.up n m x).s.f : Int) = (x.s.f : Int) + n := by simp [Ed.up]
  show (if ((Ed.up n m x).s.f : Int) = j then passF x.s.a x.s.b a b else 0) = if (x.s.f : Int) = j - n then passF x.s.a x.s.b a b else 0
  by_cases h : (x.s.f : Int) = j - n
  · rw [if_pos (by omega), if_pos h]
  · rw [if_neg (by omega), if_neg h]
theorem rowsF_append (A B : List Ed) (y : Int) : rowsF (A ++ B) y = rowsF A y ++ rowsF B y := by
  unfold rowsF; rw [List.filter_append]
theorem rowsF_up (B : List Ed) (n m : Nat) (y : Int) : rowsF (B.map (Ed.up n m)) y = (rowsF B y).map (Ed.up n m) := by
  unfold rowsF
  rw [List.filter_map]
  congr 1
theorem rows_mem {L : List Ed} {y : Int} {e : Ed} (h : e ∈ rowsF L y) : e ∈ L := (List.mem_filter.1 h).1
theorem less_valid (A B : List (List (List Pt))) (x : List (List Pt)) (h : ValidIs (A ++ x :: B) 0) : ValidIs (A ++ B) 0 := by
  rw [valid_zero] at h ⊢
  obtain ⟨h0, h1, h2, h3, h4⟩ := h
  obtain ⟨e1, e2⟩ := allEd_split A B x
  rw [some_pair, e1] at h1 h2
  rw [e1] at h3 h4
  rw [some_pair, some_pair, e2]
  have hA := gs_f A 0 0
  have hB := gs_f B 0 0
  have hX : ∀ e ∈ faceEd A.length (cntR A) x x.length, e.s.f = A.length := by
    intro e he
    unfold faceEd at he
    obtain ⟨k, hk, he⟩ := List.mem_flatMap.1 he
    obtain ⟨n, hn, rfl⟩ := mem_ringEd.1 he
    rfl
  generalize faceEd A.length (cntR A) x x.length = EX at *
  generalize Ed.gs 0 0 A = EA at *
  generalize Ed.gs 0 0 B = EB at *
  clear e1 e2
  have pw : ∀ P : Ed → Ed → Prop, (∀ a b a' b' : Ed, a.s.a = a'.s.a → a.s.b = a'.s.b → b.s.a = b'.s.a → b.s.b = b'.s.b → (a.g = b.g ↔ a'.g = b'.g) → a.n = a'.n ∧ a.m = a'.m → b.n = b'.n ∧ b.m = b'.m → P a b → P a' b') →
      (EA ++ (EX ++ EB.map (Ed.up (A.length + 1) (cntR A + x.length)))).Pairwise (fun a b => meetF (edBx a) (edBx b) = true → ¬ P a b) → (EA ++ EB.map (Ed.up A.length (cntR A))).Pairwise (fun a b => meetF (edBx a) (edBx b) = true → ¬ P a b) := by
    intro P hP hp
    rw [List.pairwise_append] at hp ⊢
    obtain ⟨p1, p2, p3⟩ := hp
    rw [List.pairwise_append] at p2
    obtain ⟨-, p2, -⟩ := p2
    rw [List.pairwise_map] at p2 ⊢
    refine ⟨p1, p2.imp ?_, ?_⟩
    · intro a b hab hm hpp
      refine hab hm (hP (Ed.up A.length (cntR A) a) (Ed.up A.length (cntR A) b) _ _ rfl rfl rfl rfl ?_ ⟨rfl, rfl⟩ ⟨rfl, rfl⟩ hpp)
      simp only [Ed.up]; omega
    · intro a ha b hb
      obtain ⟨c, hc, rfl⟩ := List.mem_map.1 hb
      intro hm hpp
      refine p3 a ha (Ed.up (A.length + 1) (cntR A + x.length) c) (List.mem_append_right _ (List.mem_map.2 ⟨c, hc, rfl⟩)) hm (hP a (Ed.up A.length (cntR A) c) _ _ rfl rfl rfl rfl ?_ ⟨rfl, rfl⟩ ⟨rfl, rfl⟩ hpp)
      have := hA a ha
      simp only [Ed.up]; omega
  refine ⟨?_, pw badR ?_ h1, pw badM ?_ h2, ?_, ?_⟩
  · unfold rightR at h0 ⊢
    rw [List.all_append, List.all_cons] at h0
    rw [List.all_append]
    simp only [Bool.and_eq_true] at h0 ⊢
    exact ⟨h0.1, h0.2.2⟩
  · intro a b a' b' q1 q2 q3 q4 q5 q6 q7 hb
    unfold badR clsE at hb ⊢
    rw [nextF_ren q5 q6 q7, q1, q2, q3, q4] at hb
    rcases hb with hb | ⟨hb, hc, hd⟩
    · exact .inl hb
    · exact .inr ⟨hb, q5.1 hc, hd⟩
  · intro a b a' b' q1 q2 q3 q4 q5 q6 q7 hb
    unfold badM clsE at hb ⊢
    rw [nextF_ren q5 q6 q7, q1, q2, q3, q4] at hb
    exact ⟨hb.1, fun h => hb.2.1 (q5.2 h), hb.2.2⟩
  · unfold twiceF at h3 ⊢
    simp only [Bool.not_eq_false', decide_eq_true_eq] at h3 ⊢
    refine List.Nodup.sublist ?_ h3
    simp only [List.map_append, List.map_map]
    refine List.Sublist.append (List.Sublist.refl _) ?_
    refine List.Sublist.trans ?_ (List.sublist_append_right _ _)
    rw [show (Ed.key ∘ Ed.up A.length (cntR A)) = (Ed.key ∘ Ed.up (A.length + 1) (cntR A + x.length)) from rfl]
    exact List.Sublist.refl _
  · -- sums
    have hsum : ∀ (a b : Pt) (y j : Int), sumF a b (rowsF (EA ++ (EX ++ EB.map (Ed.up (A.length + 1) (cntR A + x.length)))) y) j = sumF a b (rowsF EA y) j + (sumF a b (rowsF EX y) j + sumF a b (rowsF EB y) (j - (A.length + 1 : Nat))) := by
      intro a b y j
      rw [rowsF_append, rowsF_append, rowsF_up, sumF_append, sumF_append, sumF_up]
    have hsum' : ∀ (a b : Pt) (y j : Int), sumF a b (rowsF (EA ++ EB.map (Ed.up A.length (cntR A))) y) j = sumF a b (rowsF EA y) j + sumF a b (rowsF EB y) (j - (A.length : Nat)) := by
      intro a b y j
      rw [rowsF_append, rowsF_up, sumF_append, sumF_up]
    have zA : ∀ (a b : Pt) (y j : Int), j < 0 ∨ (A.length : Int) ≤ j → sumF a b (rowsF EA y) j = 0 := fun a b y j hj => sumF_none fun e he => by
      have := hA e (rows_mem he)
      omega
    have zX : ∀ (a b : Pt) (y j : Int), j ≠ (A.length : Int) → sumF a b (rowsF EX y) j = 0 := fun a b y j hj => sumF_none fun e he => by
      have := hX e (rows_mem he)
      omega
    have zB : ∀ (a b : Pt) (y j : Int), j < 0 → sumF a b (rowsF EB y) j = 0 := fun a b y j hj => sumF_none fun e he => by omega
    -- a face's sum among the rest is what it was
    have low : ∀ (a b : Pt) (y j : Int), j < (A.length : Int) → sumF a b (rowsF (EA ++ EB.map (Ed.up A.length (cntR A))) y) j = sumF a b (rowsF (EA ++ (EX ++ EB.map (Ed.up (A.length + 1) (cntR A + x.length)))) y) j := by
      intro a b y j hj
      rw [hsum, hsum', zB a b y _ (by omega), zX a b y j (by omega), zB a b y _ (by omega)]
      omega
    have high : ∀ (a b : Pt) (y j : Int), (A.length : Int) ≤ j → sumF a b (rowsF (EA ++ EB.map (Ed.up A.length (cntR A))) y) j = sumF a b (rowsF (EA ++ (EX ++ EB.map (Ed.up (A.length + 1) (cntR A + x.length)))) y) (j + 1) := by
      intro a b y j hj
      rw [hsum, hsum', zA a b y j (by omega), zA a b y (j + 1) (by omega), zX a b y (j + 1) (by omega)]
      rw [show j + 1 - ((A.length + 1 : Nat) : Int) = j - (A.length : Int) by omega]
      omega
    intro e he
    rcases List.mem_append.1 he with he | he
    · have h := h4 e (List.mem_append_left _ he)
      have hf := hA e he
      unfold sideOk at h ⊢
      refine ⟨fun j => ?_, ?_⟩
      · by_cases hj : j < (A.length : Int)
        · rw [low _ _ _ _ hj]; exact h.1 j
        · rw [high _ _ _ _ (by omega), h.1, if_neg (by omega), if_neg (by omega)]
      · rw [low _ _ _ _ (by omega)]; exact h.2
    · obtain ⟨c, hc, rfl⟩ := List.mem_map.1 he
      have h := h4 (Ed.up (A.length + 1) (cntR A + x.length) c) (List.mem_append_right _ (List.mem_append_right _ (List.mem_map.2 ⟨c, hc, rfl⟩)))
      replace h : (∀ j : Int, sumF c.s.a c.s.b (rowsF (EA ++ (EX ++ EB.map (Ed.up (A.length + 1) (cntR A + x.length)))) ((c.s.a.y + c.s.b.y) / 2 / 64)) j = if j = ((c.s.f + (A.length + 1) : Nat) : Int) then 1 else 0) ∧ sumF c.s.b c.s.a (rowsF (EA ++ (EX ++ EB.map (Ed.up (A.length + 1) (cntR A + x.length)))) ((c.s.b.y + c.s.a.y) / 2 / 64)) ((c.s.f + (A.length + 1) : Nat) : Int) = 0 := h
      show (∀ j : Int, sumF c.s.a c.s.b (rowsF (EA ++ EB.map (Ed.up A.length (cntR A))) ((c.s.a.y + c.s.b.y) / 2 / 64)) j = if j = ((c.s.f + A.length : Nat) : Int) then 1 else 0) ∧ sumF c.s.b c.s.a (rowsF (EA ++ EB.map (Ed.up A.length (cntR A))) ((c.s.b.y + c.s.a.y) / 2 / 64)) ((c.s.f + A.length : Nat) : Int) = 0
      refine ⟨fun j => ?_, ?_⟩
      · by_cases hj : j < (A.length : Int)
        · rw [low _ _ _ _ hj, h.1, if_neg (by omega), if_neg (by omega)]
        · rw [high _ _ _ _ (by omega), h.1]
          by_cases e : j = ((c.s.f + A.length : Nat) : Int)
          · rw [if_pos e, if_pos (by omega)]
          · rw [if_neg e, if_neg (by omega)]
      · rw [high _ _ _ _ (by omega)]
        have := h.2
        rw [show ((c.s.f + (A.length + 1) : Nat) : Int) = ((c.s.f + A.length : Nat) : Int) + 1 by omega] at this
        exact this
end Go

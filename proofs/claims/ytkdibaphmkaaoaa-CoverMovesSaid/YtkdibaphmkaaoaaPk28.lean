/-
  Told in another order, with rings begun elsewhere, faces are a coverage as they were (plain). Classes of what is moved together (plain). Faces moved, or twice as great, are a coverage as they were (plain). Which faces are near, of sides told in another order or moved (plain). Moving, and telling twice as great, keep how points lie (plain). slices.Clone of points. Owned rows of several cells an element, written in place.
-/
import Derived.Test.YtkdibaphmkaaoaaPk27
import Derived.Test.YtkdibaphmkaaoaaPk22
import Derived.Test.YtkdibaphmkaaoaaPk1
import Derived.Test.YtkdibaphmkaaoaaProg
import Derived.Lib.SliceRun
/- Told in another order, with rings begun elsewhere, faces are a coverage as they were (plain). -/
set_option linter.unusedVariables false
set_option linter.unusedSimpArgs false
namespace Go
open Go.RowKit
def prP : List Pt → List (Pt × Pt)
  | x :: y :: r => (x, y) :: prP (y :: r)
  | _ => []
theorem prP_len : ∀ l : List Pt, (prP l).length = l.length - 1
  | [] => rfl
  | [a] => rfl
  | a :: b :: l => by
    have := prP_len (b :: l)
    simp only [prP, List.length_cons] at this ⊢; omega
theorem prP_get : ∀ (l : List Pt) (i : Nat) (h : i + 1 < l.length), (prP l)[i]? = some (l[i]!, l[i + 1]!)
  | [], i, h => by simp at h
  | [a], i, h => by simp at h
  | a :: b :: l, 0, _ => rfl
  | a :: b :: l, i + 1, h => by
    have := prP_get (b :: l) i (by simp at h ⊢; omega)
    simpa [prP] using this
theorem edges_pr (p : Pt) (l : List Pt) : edges (p :: l) = prP (p :: l ++ [p]) := by
  apply List.ext_getElem?
  intro i
  have hl : (edges (p :: l)).length = l.length + 1 := by simp [edges]
  by_cases hi : i < l.length + 1
  · have h1 : (edges (p :: l))[i]? = some ((p :: l)[i]!, (p :: l)[(i + 1) % (p :: l).length]!) := by
      unfold edges
      rw [List.getElem?_map, List.getElem?_range (by simpa using hi)]
      rfl
    rw [h1, prP_get _ i (by simp; omega)]
    congr 2
    · rw [getElem!_pos (p :: l) i (by simpa using hi), getElem!_pos (p :: l ++ [p]) i (by simp; omega), List.getElem_append_left (by simpa using hi)]
    · by_cases e : i + 1 < l.length + 1
      · rw [List.length_cons, Nat.mod_eq_of_lt e, getElem!_pos (p :: l) (i + 1) (by simpa using e), getElem!_pos (p :: l ++ [p]) (i + 1) (by simp; omega), List.getElem_append_left (by simpa using e)]
      · have e2 : i + 1 = l.length + 1 := by omega
        rw [List.length_cons, e2, Nat.mod_self, getElem!_pos (p :: l ++ [p]) (l.length + 1) (by simp)]
        simp
  · rw [List.getElem?_eq_none (by omega), List.getElem?_eq_none (by rw [prP_len]; simp; omega)]
theorem prP_mid (x : Pt) (m : List Pt) : ∀ l : List Pt, prP (l ++ x :: m) = prP (l ++ [x]) ++ prP (x :: m)
  | [] => rfl
  | [a] => rfl
  | a :: b :: l => by
    have := prP_mid x m (b :: l)
    show (a, b) :: prP (b :: l ++ x :: m) = ((a, b) :: prP (b :: l ++ [x])) ++ prP (x :: m)
    rw [this]
    rfl
/-- A ring, begun elsewhere. -/
def rotR (s : Nat) (r : List Pt) : List Pt := r.drop s ++ r.take s
theorem edges_rot (s : Nat) (r : List Pt) : (edges (rotR s r)).Perm (edges r) := by
  unfold rotR
  have h : r = r.take s ++ r.drop s := (List.take_append_drop s r).symm
  generalize r.take s = A at *
  generalize r.drop s = B at *
  subst h
  cases A with
  | nil => simp
  | cons a A =>
    cases B with
    | nil => simp
    | cons b B =>
      have h1 : edges (b :: B ++ a :: A) = prP (b :: B ++ [a]) ++ prP (a :: A ++ [b]) := by
        show edges (b :: (B ++ a :: A)) = _
        rw [edges_pr]
        rw [show b :: (B ++ a :: A) ++ [b] = (b :: B) ++ a :: (A ++ [b]) by simp, prP_mid]
        rfl
      have h2 : edges (a :: A ++ b :: B) = prP (a :: A ++ [b]) ++ prP (b :: B ++ [a]) := by
        show edges (a :: (A ++ b :: B)) = _
        rw [edges_pr]
        rw [show a :: (A ++ b :: B) ++ [a] = (a :: A) ++ b :: (B ++ [a]) by simp, prP_mid]
        rfl
      rw [h1, h2]
      exact List.perm_append_comm
def Sd.ren (π : Nat → Nat) (s : Sd) : Sd := ⟨π s.f, s.r, s.a, s.b⟩
theorem sumS_perm {S S' : List Sd} (h : S.Perm S') (a b : Pt) (j : Int) : sumS a b S j = sumS a b S' j := by
  induction h with
  | nil => rfl
  | cons x _ ih => simp only [sumS, List.map_cons, List.sum_cons] at ih ⊢; omega
  | swap x y l => simp only [sumS, List.map_cons, List.sum_cons]; omega
  | trans _ _ h1 h2 => exact h1.trans h2
theorem sumS_zero {a b : Pt} {S : List Sd} {j : Int} (h : ∀ t ∈ S, (t.f : Int) ≠ j) : sumS a b S j = 0 := by
  induction S with
  | nil => rfl
  | cons t S ih =>
    have h1 := ih (fun u hu => h u (List.mem_cons_of_mem _ hu))
    have h2 := h t List.mem_cons_self
    simp only [sumS, List.map_cons, List.sum_cons] at h1 ⊢
    rw [if_neg h2, h1]
    rfl
theorem sumS_ren {π : Nat → Nat} {S : List Sd} {f : Nat} (hinj : ∀ t ∈ S, π t.f = π f → t.f = f) (a b : Pt) : sumS a b (S.map (Sd.ren π)) (π f) = sumS a b S f := by
  unfold sumS
  rw [List.map_map]
  congr 1
  refine List.map_congr_left fun t ht => ?_
  show (if ((π t.f : Nat) : Int) = (π f : Nat) then passF t.a t.b a b else 0) = if (t.f : Int) = f then passF t.a t.b a b else 0
  by_cases e : t.f = f
  · rw [if_pos (by rw [e]), if_pos (by rw [e])]
  · rw [if_neg (fun h => e (hinj t ht (by omega))), if_neg (by omega)]
theorem cls_symm (a b : Sd) : clsS a b = clsS b a := by
  unfold clsS; rw [clsR_segs]
theorem same_symm {a b : Sd} : sameR a b ↔ sameR b a := by
  unfold sameR; exact ⟨fun h => ⟨h.1.symm, h.2.symm⟩, fun h => ⟨h.1.symm, h.2.symm⟩⟩
theorem nxt_symm {a b : Sd} : nxtS a b ↔ nxtS b a := by
  unfold nxtS; rw [same_symm]
  exact and_congr_right fun _ => ⟨Or.symm, Or.symm⟩
theorem badS_symm {a b : Sd} : badS a b ↔ badS b a := by
  unfold badS; rw [nxt_symm, same_symm, cls_symm]
theorem badT_symm {a b : Sd} : badT a b ↔ badT b a := by
  unfold badT; rw [same_symm, cls_symm]
theorem meet_symm (a b : Bx) : meetF a b = meetF b a := by
  unfold meetF
  simp only [Bool.and_assoc, Bool.and_left_comm, Bool.and_comm]
theorem PW_perm {P : Sd → Sd → Prop} (hs : ∀ a b, P a b ↔ P b a) {S S' : List Sd} (h : S.Perm S') : PW P S ↔ PW P S' := by
  unfold PW
  refine List.Perm.pairwise_iff ?_ h
  intro a b hh hm hp
  exact hh (by rw [meet_symm]; exact hm) ((hs _ _).1 hp)
theorem PW_map {P : Sd → Sd → Prop} {π : Nat → Nat} {S : List Sd} (h : ∀ a ∈ S, ∀ b ∈ S, P (a.ren π) (b.ren π) ↔ P a b) : PW P (S.map (Sd.ren π)) ↔ PW P S := by
  unfold PW
  rw [List.pairwise_map]
  constructor
  · intro hp; exact hp.imp_of_mem fun ha hb hh hm hq => hh hm ((h _ ha _ hb).2 hq)
  · intro hp; exact hp.imp_of_mem fun ha hb hh hm hq => hh hm ((h _ ha _ hb).1 hq)
theorem vS_perm (R : Bool) {S S' : List Sd} (π : Nat → Nat) (hinj : ∀ s ∈ S, ∀ t ∈ S, π s.f = π t.f → s.f = t.f) (hp : S'.Perm (S.map (Sd.ren π))) : vS R S' = vS R S := by
  have hsm : ∀ a ∈ S, ∀ b ∈ S, sameR (a.ren π) (b.ren π) ↔ sameR a b := fun a ha b hb => by
    unfold sameR
    exact ⟨fun h => ⟨hinj a ha b hb h.1, h.2⟩, fun h => ⟨by show π a.f = π b.f; rw [h.1], h.2⟩⟩
  have e1 : PW badS S' ↔ PW badS S := (PW_perm (fun _ _ => badS_symm) hp).trans (PW_map fun a ha b hb => by
    unfold badS nxtS
    rw [hsm a ha b hb]
    exact Iff.rfl)
  have e2 : PW badT S' ↔ PW badT S := (PW_perm (fun _ _ => badT_symm) hp).trans (PW_map fun a ha b hb => by
    unfold badT
    rw [hsm a ha b hb]
    exact Iff.rfl)
  have e3 : (S'.map Sd.key).Nodup ↔ (S.map Sd.key).Nodup := by
    rw [(hp.map Sd.key).nodup_iff, List.map_map]
    exact Iff.rfl
  have e4 : sidesOk S' ↔ sidesOk S := by
    have hsum : ∀ (a b : Pt) (j : Int), sumS a b S' j = sumS a b (S.map (Sd.ren π)) j := fun a b j => sumS_perm hp a b j
    have hin : ∀ (a b : Pt) (t : Sd), t ∈ S → sumS a b S' (π t.f) = sumS a b S t.f := fun a b t ht => by
      rw [hsum, sumS_ren (fun u hu he => hinj u hu t ht he)]
    have hout : ∀ (a b : Pt) (j : Int), (∀ t ∈ S, ((π t.f : Nat) : Int) ≠ j) → sumS a b S' j = 0 := fun a b j hj => by
      rw [hsum]
      refine sumS_zero fun t ht => ?_
      obtain ⟨u, hu, rfl⟩ := List.mem_map.1 ht
      exact hj u hu
    unfold sidesOk
    constructor
    · intro h s hs
      have hs' : s.ren π ∈ S' := hp.symm.subset (List.mem_map.2 ⟨s, hs, rfl⟩)
      obtain ⟨k1, k2⟩ := h _ hs'
      refine ⟨fun j => ?_, ?_⟩
      · by_cases hj : ∃ t ∈ S, (t.f : Int) = j
        · obtain ⟨t, ht, rfl⟩ := hj
          have := k1 (π t.f)
          rw [show (s.ren π).a = s.a from rfl, show (s.ren π).b = s.b from rfl, hin _ _ t ht] at this
          rw [this]
          show (if ((π t.f : Nat) : Int) = ((π s.f : Nat) : Int) then (1 : Int) else 0) = if (t.f : Int) = s.f then 1 else 0
          by_cases e : t.f = s.f
          · rw [if_pos (by rw [e]), if_pos (by rw [e])]
          · rw [if_neg (fun h => e (hinj t ht s hs (by omega))), if_neg (by omega)]
        · rw [sumS_zero (fun t ht he => hj ⟨t, ht, he⟩), if_neg (fun e => hj ⟨s, hs, e.symm⟩)]
      · have := k2
        rw [show (s.ren π).a = s.a from rfl, show (s.ren π).b = s.b from rfl] at this
        rwa [show ((s.ren π).f : Int) = ((π s.f : Nat) : Int) from rfl, hin _ _ s hs] at this
    · intro h s' hs'
      obtain ⟨s, hs, rfl⟩ := List.mem_map.1 (hp.subset hs')
      obtain ⟨k1, k2⟩ := h s hs
      rw [show (s.ren π).a = s.a from rfl, show (s.ren π).b = s.b from rfl, show ((s.ren π).f : Int) = ((π s.f : Nat) : Int) from rfl]
      refine ⟨fun j => ?_, by rw [hin _ _ s hs]; exact k2⟩
      by_cases hj : ∃ t ∈ S, ((π t.f : Nat) : Int) = j
      · obtain ⟨t, ht, rfl⟩ := hj
        rw [hin _ _ t ht, k1]
        by_cases e : t.f = s.f
        · rw [if_pos (by rw [e]), if_pos (by rw [e])]
        · rw [if_neg (by omega), if_neg (fun h => e (hinj t ht s hs (by omega)))]
      · rw [hout _ _ j (fun t ht he => hj ⟨t, ht, he⟩), if_neg (fun e => hj ⟨s, hs, e.symm⟩)]
  unfold vS
  rw [propext e1, propext e2, propext e3, propext e4]
def All2 {α β : Type} (R : α → β → Prop) : List α → List β → Prop
  | [], [] => True
  | a :: l, b :: m => R a b ∧ All2 R l m
  | _, _ => False
theorem All2.len {α β : Type} {R : α → β → Prop} : ∀ {l : List α} {m : List β}, All2 R l m → l.length = m.length
  | [], [], _ => rfl
  | a :: l, b :: m, h => by simp only [List.length_cons]; rw [All2.len h.2]
  | [], _ :: _, h => h.elim
  | _ :: _, [], h => h.elim
theorem All2.get {α β : Type} [Inhabited α] [Inhabited β] {R : α → β → Prop} : ∀ {l : List α} {m : List β}, All2 R l m → ∀ i, i < l.length → R l[i]! m[i]!
  | a :: l, b :: m, h, 0, _ => h.1
  | a :: l, b :: m, h, i + 1, hi => by
    have := All2.get h.2 i (by simpa using hi)
    simpa using this
  | [], [], _, i, hi => by simp at hi
  | [], _ :: _, h, _, _ => h.elim
  | _ :: _, [], h, _, _ => h.elim
theorem All2.app {α β : Type} {R : α → β → Prop} : ∀ {l : List α} {m : List β} {l' : List α} {m' : List β}, All2 R l m → All2 R l' m' → All2 R (l ++ l') (m ++ m')
  | [], [], _, _, _, h => h
  | a :: l, b :: m, _, _, h, h' => ⟨h.1, All2.app h.2 h'⟩
  | [], _ :: _, _, _, h, _ => h.elim
  | _ :: _, [], _, _, h, _ => h.elim
/-- Rings, each begun somewhere. -/
def RotF (f g : List (List Pt)) : Prop := All2 (fun r q => ∃ s, q = rotR s r) f g
def Rot (F G : List (List (List Pt))) : Prop := All2 RotF F G
theorem single_rot (s : Nat) (r : List Pt) : singleF (rotR s r) = singleF r := by
  have hp : (rotR s r).Perm r := by
    unfold rotR
    have := List.perm_append_comm (l₁ := r.drop s) (l₂ := r.take s)
    rwa [List.take_append_drop] at this
  unfold singleF
  rw [hp.length_eq]
  have e1 : decide (rotR s r).Nodup = decide r.Nodup := decide_eq_decide.2 hp.nodup_iff
  have e2 : (rotR s r).all okPt = r.all okPt := by
    rw [Bool.eq_iff_iff, List.all_eq_true, List.all_eq_true]
    exact ⟨fun h x hx => h x (hp.symm.subset hx), fun h x hx => h x (hp.subset hx)⟩
  rw [e1, e2]
theorem rotF_right : ∀ {f g : List (List Pt)}, RotF f g → g.all singleF = f.all singleF
  | [], [], _ => rfl
  | a :: l, b :: m, h => by
    obtain ⟨⟨s, rfl⟩, h2⟩ := h
    rw [List.all_cons, List.all_cons, rotF_right h2, single_rot]
  | [], _ :: _, h => h.elim
  | _ :: _, [], h => h.elim
theorem rot_right : ∀ {F G : List (List (List Pt))}, Rot F G → rightR G = rightR F
  | [], [], _ => rfl
  | a :: l, b :: m, h => by
    have := rot_right h.2
    unfold rightR at this ⊢
    rw [List.all_cons, List.all_cons, this, rotF_right h.1]
  | [], _ :: _, h => h.elim
  | _ :: _, [], h => h.elim
/-- The sides of faces, from a number on. -/
def Sd.gs (i : Nat) : List (List (List Pt)) → List Sd
  | [] => []
  | f :: l => faceSd i f f.length ++ Sd.gs (i + 1) l
theorem sgs_append (A B : List (List (List Pt))) (i : Nat) : Sd.gs i (A ++ B) = Sd.gs i A ++ Sd.gs (i + A.length) B := by
  induction A generalizing i with
  | nil => simp [Sd.gs]
  | cons f A ih =>
    simp only [List.cons_append, Sd.gs, ih, List.length_cons, List.append_assoc]
    rw [show i + 1 + A.length = i + (A.length + 1) by omega]
theorem allSd_gs (F : List (List (List Pt))) : allSd F = Sd.gs 0 F := by
  have h : ∀ n, n ≤ F.length → someSd F n = Sd.gs 0 (F.take n) := by
    intro n hn
    induction n with
    | zero => rfl
    | succ n ih =>
      rw [someSd_succ, ih (by omega), List.take_succ_eq_append_getElem (by omega), sgs_append, getElem!_pos F n (by omega)]
      simp [Sd.gs, List.length_take, Nat.min_eq_left (show n ≤ F.length by omega)]
  unfold allSd
  rw [h _ (Nat.le_refl _), List.take_length]
theorem faceSd_ren (i j : Nat) (f : List (List Pt)) (π : Nat → Nat) (h : π i = j) : faceSd j f f.length = (faceSd i f f.length).map (Sd.ren π) := by
  unfold faceSd
  rw [List.map_flatMap]
  congr 1
  funext k
  unfold ringSd
  rw [List.map_map]
  refine List.map_congr_left fun e _ => ?_
  simp [Sd.ren, h]
theorem sgs_ren (B : List (List (List Pt))) (i j : Nat) (π : Nat → Nat) (h : ∀ k, k < B.length → π (i + k) = j + k) : Sd.gs j B = (Sd.gs i B).map (Sd.ren π) := by
  induction B generalizing i j with
  | nil => rfl
  | cons f B ih =>
    simp only [Sd.gs, List.map_append]
    rw [faceSd_ren i j f π (h 0 (by simp)), ih (i + 1) (j + 1) (fun k hk => by rw [show i + 1 + k = i + (k + 1) by omega, h (k + 1) (by simpa using hk)]; omega)]
theorem sgs_f (F : List (List (List Pt))) (i : Nat) : ∀ s ∈ Sd.gs i F, i ≤ s.f ∧ s.f < i + F.length := by
  induction F generalizing i with
  | nil => intro e he; cases he
  | cons f F ih =>
    intro e he
    simp only [Sd.gs, List.mem_append] at he
    simp only [List.length_cons]
    rcases he with he | he
    · unfold faceSd at he
      obtain ⟨k, hk, he⟩ := List.mem_flatMap.1 he
      unfold ringSd at he
      obtain ⟨q, -, rfl⟩ := List.mem_map.1 he
      dsimp only
      omega
    · have := ih _ e he
      omega
theorem faceSd_rot {f g : List (List Pt)} (h : RotF f g) (i : Nat) : (faceSd i g g.length).Perm (faceSd i f f.length) := by
  have hl := All2.len h
  unfold faceSd
  rw [← hl]
  have key : ∀ k, k < f.length → ∃ s, g[k]! = rotR s f[k]! := by
    intro k hk
    exact All2.get h k hk
  have : ∀ n, n ≤ f.length → ((List.range n).flatMap fun k => ringSd i k g[k]!).Perm ((List.range n).flatMap fun k => ringSd i k f[k]!) := by
    intro n hn
    induction n with
    | zero => exact List.Perm.refl _
    | succ n ih =>
      rw [List.range_succ, List.flatMap_append, List.flatMap_append]
      refine (ih (by omega)).append ?_
      simp only [List.flatMap_cons, List.flatMap_nil, List.append_nil]
      obtain ⟨s, hs⟩ := key n (by omega)
      rw [hs]
      unfold ringSd
      exact (edges_rot s _).map _
  exact this _ (Nat.le_refl _)
theorem sgs_rot : ∀ {F G : List (List (List Pt))}, Rot F G → ∀ i : Nat, (Sd.gs i G).Perm (Sd.gs i F)
  | [], [], _, _ => List.Perm.refl _
  | a :: l, b :: m, h, i => by
    simp only [Sd.gs]
    exact (faceSd_rot h.1 i).append (sgs_rot h.2 (i + 1))
  | [], _ :: _, h, _ => h.elim
  | _ :: _, [], h, _ => h.elim
/-- What becomes of a face's number. -/
def turnN (k m : Nat) (f : Nat) : Nat := if f < k then f + m else f - k
/-- The sides of faces that are told in another order. -/
theorem turn_sides {A B A' B' : List (List (List Pt))} (hA : Rot A A') (hB : Rot B B') : (allSd (B' ++ A')).Perm ((allSd (A ++ B)).map (Sd.ren (turnN A.length B.length))) := by
  have hlA := All2.len hA
  have hlB := All2.len hB
  rw [allSd_gs, allSd_gs, sgs_append, sgs_append, List.map_append]
  simp only [Nat.zero_add]
  rw [← hlB]
  have h1 : (Sd.gs 0 A).map (Sd.ren (turnN A.length B.length)) = Sd.gs B.length A := (sgs_ren A 0 B.length _ (fun k hk => by unfold turnN; rw [if_pos (by omega)]; omega)).symm
  have h2 : (Sd.gs A.length B).map (Sd.ren (turnN A.length B.length)) = Sd.gs 0 B := (sgs_ren B A.length 0 _ (fun k hk => by unfold turnN; rw [if_neg (by omega)]; omega)).symm
  rw [h1, h2]
  exact ((sgs_rot hB 0).append (sgs_rot hA _)).trans List.perm_append_comm
theorem turn_inj (k m : Nat) {f g : Nat} (hf : f < k + m) (hg : g < k + m) (h : turnN k m f = turnN k m g) : f = g := by
  unfold turnN at h
  split at h <;> split at h <;> omega
theorem turn_valid {A B A' B' : List (List (List Pt))} (hA : Rot A A') (hB : Rot B B') : validB (B' ++ A') = validB (A ++ B) := by
  rw [validB_S, validB_S]
  have hr : rightR (B' ++ A') = rightR (A ++ B) := by
    unfold rightR
    rw [List.all_append, List.all_append]
    have h1 := rot_right hA
    have h2 := rot_right hB
    unfold rightR at h1 h2
    rw [h1, h2, Bool.and_comm]
  rw [hr]
  refine vS_perm _ _ ?_ (turn_sides hA hB)
  intro s hs t ht h
  rw [allSd_gs] at hs ht
  have h1 := sgs_f _ _ s hs
  have h2 := sgs_f _ _ t ht
  rw [List.length_append] at h1 h2
  exact turn_inj _ _ (by omega) (by omega) h
end Go
/- Classes of what is moved together (plain). -/
set_option linter.unusedVariables false
set_option linter.unusedSimpArgs false
namespace Go
open Go.RowKit
/-- A point, moved. -/
def Pt.mv (v p : Pt) : Pt := ⟨p.x + v.x, p.y + v.y⟩
theorem crs_mv (v a b c : Pt) : crs (a.mv v) (b.mv v) (c.mv v) = crs a b c := by unfold crs Pt.mv; dsimp only; grind
theorem mv_eq (v a b : Pt) : Pt.mv v a = Pt.mv v b ↔ a = b := by
  obtain ⟨ax, ay⟩ := a
  obtain ⟨bx, bY⟩ := b
  unfold Pt.mv
  simp only [Pt.mk.injEq]
  omega
theorem crs_mv' (v a b c : Pt) : crs (Pt.mv v a) (Pt.mv v b) (Pt.mv v c) = crs a b c := by unfold crs Pt.mv; dsimp only; grind
theorem less_mv (v a b : Pt) : lessP (Pt.mv v a) (Pt.mv v b) = lessP a b := by
  unfold lessP Pt.mv
  dsimp only
  have h1 : (a.x + v.x < b.x + v.x) ↔ a.x < b.x := by omega
  have h2 : (a.x + v.x = b.x + v.x) ↔ a.x = b.x := by omega
  have h3 : (a.y + v.y < b.y + v.y) ↔ a.y < b.y := by omega
  simp only [h1, h2, h3]
theorem line_mv (v a b c d : Pt) : lineF (Pt.mv v a) (Pt.mv v b) (Pt.mv v c) (Pt.mv v d) = lineF a b c d := by
  unfold lineF
  rw [less_mv, less_mv]
  have e : ∀ (q : Bool) (x y : Pt), (if q then Pt.mv v x else Pt.mv v y) = Pt.mv v (if q then x else y) := fun q x y => by cases q <;> rfl
  simp only [e, less_mv, mv_eq]
theorem cls_mv (v a b c d : Pt) : clsF (Pt.mv v a) (Pt.mv v b) (Pt.mv v c) (Pt.mv v d) = clsF a b c d := by
  unfold clsF
  simp only [crs_mv', mv_eq, line_mv]
/-- Near enough to be moved. -/
def Near (p : Pt) : Prop := (-1048576 ≤ p.x ∧ p.x ≤ 1048576) ∧ (-1048576 ≤ p.y ∧ p.y ≤ 1048576)
theorem near_ok {p : Pt} (h : Near p) : okPt p = true := by rw [okPt_iff]; unfold Near at h; omega
theorem near_mv {v p : Pt} (hv : Near v) (h : Near p) : okPt (Pt.mv v p) = true := by
  rw [okPt_iff]; unfold Near at *; unfold Pt.mv; dsimp only; omega
theorem clsR_mv (v a b c d : Pt) (hv : Near v) (ha : Near a) (hb : Near b) (hc : Near c) (hd : Near d) : clsR (Pt.mv v a) (Pt.mv v b) (Pt.mv v c) (Pt.mv v d) = clsR a b c d := by
  unfold clsR
  have e1 : [a, b, c, d].all okPt = true := by simp [near_ok ha, near_ok hb, near_ok hc, near_ok hd]
  have e2 : [Pt.mv v a, Pt.mv v b, Pt.mv v c, Pt.mv v d].all okPt = true := by simp [near_mv hv ha, near_mv hv hb, near_mv hv hc, near_mv hv hd]
  simp only [e1, e2, mv_eq, cls_mv]
end Go
/- Faces moved, or twice as great, are a coverage as they were (plain). -/
set_option linter.unusedVariables false
set_option linter.unusedSimpArgs false
namespace Go
open Go.RowKit
/-- A map of the plane that keeps how points lie. -/
structure Sim (φ : Pt → Pt) : Prop where
  eq : ∀ a b, φ a = φ b ↔ a = b
  lx : ∀ a b, (φ a).x ≤ (φ b).x ↔ a.x ≤ b.x
  ly : ∀ a b, (φ a).y ≤ (φ b).y ↔ a.y ≤ b.y
  less : ∀ a b, lessP (φ a) (φ b) = lessP a b
  sg : ∀ a b c, sg (crs (φ a) (φ b) (φ c)) = sg (crs a b c)
  pass : ∀ p q a b, passF (φ p) (φ q) (φ a) (φ b) = passF p q a b
section
variable {φ : Pt → Pt}
theorem Sim.line (h : Sim φ) (a b c d : Pt) : lineF (φ a) (φ b) (φ c) (φ d) = lineF a b c d := by
  unfold lineF
  rw [h.less, h.less]
  have e : ∀ (q : Bool) (x y : Pt), (if q then φ x else φ y) = φ (if q then x else y) := fun q x y => by cases q <;> rfl
  simp only [e, h.less, h.eq]
theorem Sim.cls (h : Sim φ) (a b c d : Pt) : clsF (φ a) (φ b) (φ c) (φ d) = clsF a b c d := by
  unfold clsF
  simp only [h.sg, h.eq, h.line]
def Ed.mp (φ : Pt → Pt) (e : Ed) : Ed := ⟨⟨e.s.f, e.s.r, φ e.s.a, φ e.s.b⟩, e.g, e.n, e.m⟩
def mapF (φ : Pt → Pt) (F : List (List (List Pt))) : List (List (List Pt)) := F.map fun f => f.map fun r => r.map φ
theorem get_map' {α β : Type} [Inhabited α] [Inhabited β] (f : α → β) (l : List α) (i : Nat) (hi : i < l.length) : (l.map f)[i]! = f l[i]! := by
  rw [getElem!_pos (l.map f) i (by simpa using hi), getElem!_pos l i hi, List.getElem_map]
theorem cntR_map (φ : Pt → Pt) (F : List (List (List Pt))) : cntR (mapF φ F) = cntR F := by
  induction F with
  | nil => rfl
  | cons f F ih => simp only [mapF, List.map_cons, cntR, List.length_map] at *; omega
theorem ringEd_map (φ : Pt → Pt) (i k g : Nat) (r : List Pt) : ringEd i k g (r.map φ) = (ringEd i k g r).map (Ed.mp φ) := by
  unfold ringEd
  rw [List.length_map, List.map_map]
  refine List.map_congr_left fun n hn => ?_
  have hn := List.mem_range.1 hn
  simp only [Function.comp, Ed.mp]
  rw [get_map' φ r n hn, get_map' φ r _ (Nat.mod_lt _ (by omega))]
theorem gs_map (φ : Pt → Pt) (F : List (List (List Pt))) (g i : Nat) : Ed.gs g i (mapF φ F) = (Ed.gs g i F).map (Ed.mp φ) := by
  induction F generalizing g i with
  | nil => rfl
  | cons f F ih =>
    have h1 : mapF φ (f :: F) = f.map (fun r => r.map φ) :: mapF φ F := rfl
    rw [h1]
    simp only [Ed.gs, List.map_append, List.length_map]
    rw [ih]
    congr 1
    unfold faceEd
    rw [List.map_flatMap]
    simp only [List.flatMap]
    congr 1
    refine List.map_congr_left fun k hk => ?_
    have hk := List.mem_range.1 hk
    rw [get_map' (fun r => r.map φ) f k hk, ringEd_map]
theorem allEd_map (φ : Pt → Pt) (F : List (List (List Pt))) : allEd (mapF φ F) = (allEd F).map (Ed.mp φ) := by
  rw [allEd_gs, allEd_gs, gs_map]
theorem le_mm (a b c d : Int) : min a b ≤ max c d ↔ a ≤ c ∨ a ≤ d ∨ b ≤ c ∨ b ≤ d := by omega
theorem Sim.box (h : Sim φ) (a b : Ed) : meetF (edBx (Ed.mp φ a)) (edBx (Ed.mp φ b)) = meetF (edBx a) (edBx b) := by
  unfold meetF edBx boxOf Ed.mp
  dsimp only
  obtain ⟨⟨-, -, p, q⟩, -, -, -⟩ := a
  obtain ⟨⟨-, -, r, s⟩, -, -, -⟩ := b
  dsimp only
  have key : ∀ (f : Pt → Int) (g : Pt → Int) (hfg : ∀ a b, f a ≤ f b ↔ g a ≤ g b) (a b c d : Pt), min (f a) (f b) ≤ max (f c) (f d) ↔ min (g a) (g b) ≤ max (g c) (g d) := fun f g hfg a b c d => by
    rw [le_mm, le_mm, hfg, hfg, hfg, hfg]
  have e1 := key (fun a => (φ a).x) (fun a => a.x) h.lx p q r s
  have e2 := key (fun a => (φ a).x) (fun a => a.x) h.lx r s p q
  have e3 := key (fun a => (φ a).y) (fun a => a.y) h.ly p q r s
  have e4 := key (fun a => (φ a).y) (fun a => a.y) h.ly r s p q
  simp only [e1, e2, e3, e4]
theorem sumF_map (h : Sim φ) (l : List Ed) (a b : Pt) (j : Int) : sumF (φ a) (φ b) (l.map (Ed.mp φ)) j = sumF a b l j := by
  unfold sumF
  rw [List.map_map]
  congr 1
  refine List.map_congr_left fun e _ => ?_
  show (if (e.s.f : Int) = j then passF (φ e.s.a) (φ e.s.b) (φ a) (φ b) else 0) = if (e.s.f : Int) = j then passF e.s.a e.s.b a b else 0
  rw [h.pass]
theorem sideA_map (h : Sim φ) (l : List Ed) (x : Ed) : sideA (l.map (Ed.mp φ)) (Ed.mp φ x) ↔ sideA l x := by
  unfold sideA
  have h1 : (Ed.mp φ x).s.a = φ x.s.a := rfl
  have h2 : (Ed.mp φ x).s.b = φ x.s.b := rfl
  have h3 : (Ed.mp φ x).s.f = x.s.f := rfl
  rw [h1, h2, h3]
  simp only [sumF_map h]
theorem somePair_map (L : List Ed) (P Q : Ed → Ed → Prop) (hb : ∀ a ∈ L, ∀ b ∈ L, meetF (edBx (Ed.mp φ a)) (edBx (Ed.mp φ b)) = meetF (edBx a) (edBx b)) (h : ∀ a ∈ L, ∀ b ∈ L, P (Ed.mp φ a) (Ed.mp φ b) ↔ Q a b) : somePair (L.map (Ed.mp φ)) P ↔ somePair L Q := by
  unfold somePair
  constructor
  · rintro ⟨i, j, hij, hi, hj, hm, hp⟩
    simp only [List.length_map] at hi hj
    simp only [List.getElem_map] at hm hp
    rw [hb _ (List.getElem_mem hi) _ (List.getElem_mem hj)] at hm
    exact ⟨i, j, hij, hi, hj, hm, (h _ (List.getElem_mem hi) _ (List.getElem_mem hj)).1 hp⟩
  · rintro ⟨i, j, hij, hi, hj, hm, hp⟩
    refine ⟨i, j, hij, by simpa using hi, by simpa using hj, ?_, ?_⟩
    · simp only [List.getElem_map]
      rw [hb _ (List.getElem_mem hi) _ (List.getElem_mem hj)]
      exact hm
    · simp only [List.getElem_map]
      exact (h _ (List.getElem_mem hi) _ (List.getElem_mem hj)).2 hp
theorem nodup_map (h : Sim φ) (r : List Pt) : (r.map φ).Nodup ↔ r.Nodup := by
  unfold List.Nodup
  rw [List.pairwise_map]
  constructor
  · intro hp; exact hp.imp fun hne he => hne ((h.eq _ _).2 he)
  · intro hp; exact hp.imp fun hne he => hne ((h.eq _ _).1 he)
/-- Of points that may be, and of which what they are told as may be. -/
theorem sim_valid (h : Sim φ) (F : List (List (List Pt))) (hok : ∀ f ∈ F, ∀ r ∈ f, ∀ p ∈ r, okPt p = true ∧ okPt (φ p) = true) : validB (mapF φ F) = validB F := by
  have hE : ∀ e ∈ allEd F, (okPt e.s.a = true ∧ okPt (φ e.s.a) = true) ∧ okPt e.s.b = true ∧ okPt (φ e.s.b) = true := by
    intro e he
    obtain ⟨f, hf, r, hr, ha, hb, -⟩ := ed_in he
    exact ⟨hok f hf r hr _ ha, hok f hf r hr _ hb⟩
  have hc : ∀ a ∈ allEd F, ∀ b ∈ allEd F, clsE (Ed.mp φ a) (Ed.mp φ b) = clsE a b := by
    intro a ha b hb
    obtain ⟨⟨a1, a2⟩, a3, a4⟩ := hE a ha
    obtain ⟨⟨b1, b2⟩, b3, b4⟩ := hE b hb
    unfold clsE clsR
    have e1 : [a.s.a, a.s.b, b.s.a, b.s.b].all okPt = true := by simp [a1, a3, b1, b3]
    have e2 : [(Ed.mp φ a).s.a, (Ed.mp φ a).s.b, (Ed.mp φ b).s.a, (Ed.mp φ b).s.b].all okPt = true := by
      show [φ a.s.a, φ a.s.b, φ b.s.a, φ b.s.b].all okPt = true
      simp [a2, a4, b2, b4]
    rw [e1, e2]
    show (if true = false then ((0, 5) : Int × Int) else if φ a.s.a = φ a.s.b ∨ φ b.s.a = φ b.s.b then (0, 1) else (clsF (φ a.s.a) (φ a.s.b) (φ b.s.a) (φ b.s.b), 0)).1 = _
    simp only [h.eq, h.cls]
  have hn : ∀ a b : Ed, nextF (Ed.mp φ a) (Ed.mp φ b) = nextF a b := fun _ _ => rfl
  have hR : rightR (mapF φ F) = rightR F := by
    unfold rightR mapF
    rw [List.all_map]
    rw [Bool.eq_iff_iff, List.all_eq_true, List.all_eq_true]
    refine forall_congr' fun f => forall_congr' fun hf => ?_
    simp only [Function.comp]
    rw [List.all_map, List.all_eq_true, List.all_eq_true]
    refine forall_congr' fun r => forall_congr' fun hr => ?_
    simp only [Function.comp, singleF, List.length_map]
    have e1 : decide (r.map φ).Nodup = decide r.Nodup := decide_eq_decide.2 (nodup_map h r)
    have e2 : (r.map φ).all okPt = true := by
      rw [List.all_map, List.all_eq_true]
      exact fun p hp => (hok f hf r hr p hp).2
    have e3 : r.all okPt = true := by
      rw [List.all_eq_true]
      exact fun p hp => (hok f hf r hr p hp).1
    rw [e1, e2, e3]
  have hT : twiceF (allEd (mapF φ F)) = twiceF (allEd F) := by
    unfold twiceF
    congr 1
    refine decide_eq_decide.2 ?_
    rw [allEd_map, List.map_map]
    unfold List.Nodup
    rw [List.pairwise_map, List.pairwise_map]
    have hk : ∀ a b : Ed, (Ed.key ∘ Ed.mp φ) a = (Ed.key ∘ Ed.mp φ) b ↔ a.key = b.key := fun a b => by
      show ((φ a.s.a, φ a.s.b) : Pt × Pt) = (φ b.s.a, φ b.s.b) ↔ (a.s.a, a.s.b) = (b.s.a, b.s.b)
      simp only [Prod.mk.injEq, h.eq]
    constructor
    · intro hp; exact hp.imp fun hne he => hne ((hk _ _).2 he)
    · intro hp; exact hp.imp fun hne he => hne ((hk _ _).1 he)
  have hr : somePair (allEd (mapF φ F)) badR ↔ somePair (allEd F) badR := by
    rw [allEd_map]
    refine somePair_map _ _ _ (fun a _ b _ => h.box a b) fun a ha b hb => ?_
    unfold badR
    rw [hn, hc a ha b hb]
    exact Iff.rfl
  have hm : somePair (allEd (mapF φ F)) badM ↔ somePair (allEd F) badM := by
    rw [allEd_map]
    refine somePair_map _ _ _ (fun a _ b _ => h.box a b) fun a ha b hb => ?_
    unfold badM
    rw [hn, hc a ha b hb]
    exact Iff.rfl
  have hs : (∀ e ∈ allEd (mapF φ F), sideOk (allEd (mapF φ F)) e) ↔ ∀ e ∈ allEd F, sideOk (allEd F) e := by
    rw [allEd_map]
    constructor
    · intro hh e he
      have := hh (Ed.mp φ e) (List.mem_map.2 ⟨e, he, rfl⟩)
      rw [sideOk_iff, sideA_map h] at this
      rwa [sideOk_iff]
    · intro hh e he
      obtain ⟨c, hc, rfl⟩ := List.mem_map.1 he
      rw [sideOk_iff, sideA_map h, ← sideOk_iff]
      exact hh c hc
  have h2 : ValidIs (mapF φ F) (validB F) := by
    have h1 : ValidIs F (validB F) := (validIs_iff _ _).2 rfl
    unfold ValidIs MeetsIs at h1 ⊢
    rw [hR, hr, hm, hT, hs]
    exact h1
  exact ((validIs_iff _ _).1 h2).symm
end
end Go
/- Which faces are near, of sides told in another order or moved (plain). -/
set_option linter.unusedVariables false
set_option linter.unusedSimpArgs false
namespace Go
open Go.RowKit
/-- The side of another face that goes the other way. -/
def oppS (s t : Sd) : Prop := t.a = s.b ∧ t.b = s.a ∧ t.f ≠ s.f
def nearP (S : List Sd) (i : Nat) (x : Int) : Prop := ∃ s ∈ S, s.f = i ∧ ((∃ t ∈ S, oppS s t ∧ x = (t.f : Int)) ∨ (x = -1 ∧ ¬ ∃ t ∈ S, oppS s t))
theorem mem_nearOne (S : List Sd) (s : Sd) (x : Int) : x ∈ nearOne S s ↔ (∃ t ∈ S, oppS s t ∧ x = (t.f : Int)) ∨ (x = -1 ∧ ¬ ∃ t ∈ S, oppS s t) := by
  have hm : ∀ y : Int, y ∈ (waysF S (s.b, s.a)).filter (fun f => decide (f ≠ (s.f : Int))) ↔ ∃ t ∈ S, oppS s t ∧ y = (t.f : Int) := by
    intro y
    rw [List.mem_filter, decide_eq_true_eq]
    unfold waysF oppS
    rw [List.mem_map]
    constructor
    · rintro ⟨⟨t, ht, rfl⟩, hne⟩
      rw [List.mem_filter, decide_eq_true_eq, Prod.mk.injEq] at ht
      exact ⟨t, ht.1, ⟨ht.2.1, ht.2.2, fun e => hne (by rw [e])⟩, rfl⟩
    · rintro ⟨t, ht, ⟨h1, h2, h3⟩, rfl⟩
      exact ⟨⟨t, List.mem_filter.2 ⟨ht, by rw [decide_eq_true_eq, Prod.mk.injEq]; exact ⟨h1, h2⟩⟩, rfl⟩, fun e => h3 (by omega)⟩
  unfold nearOne
  dsimp only
  split
  · rename_i he
    have hn : ¬ ∃ t ∈ S, oppS s t := by
      rintro ⟨t, ht, ho⟩
      have := (hm (t.f : Int)).2 ⟨t, ht, ho, rfl⟩
      rw [he] at this; cases this
    rw [List.mem_singleton]
    constructor
    · intro h; exact .inr ⟨h, hn⟩
    · rintro (⟨t, ht, ho, -⟩ | ⟨h, -⟩)
      · exact absurd ⟨t, ht, ho⟩ hn
      · exact h
  · rename_i he
    rw [hm]
    constructor
    · intro h; exact .inl h
    · rintro (h | ⟨-, hn⟩)
      · exact h
      · exfalso
        apply he
        cases hl : (waysF S (s.b, s.a)).filter (fun f => decide (f ≠ (s.f : Int))) with
        | nil => rfl
        | cons y l =>
          have hy : y ∈ (waysF S (s.b, s.a)).filter (fun f => decide (f ≠ (s.f : Int))) := by rw [hl]; exact List.mem_cons_self
          obtain ⟨t, ht, ho, -⟩ := (hm y).1 hy
          exact absurd ⟨t, ht, ho⟩ hn
theorem mem_nearG (S : List Sd) (i : Nat) (x : Int) : x ∈ nearG S S i ↔ nearP S i x := by
  unfold nearG nearP
  rw [List.mem_flatMap]
  constructor
  · rintro ⟨s, hs, hx⟩
    rw [List.mem_filter, decide_eq_true_eq] at hs
    exact ⟨s, hs.1, hs.2, (mem_nearOne S s x).1 hx⟩
  · rintro ⟨s, hs, hi, hx⟩
    exact ⟨s, List.mem_filter.2 ⟨hs, by rw [decide_eq_true_eq]; exact hi⟩, (mem_nearOne S s x).2 hx⟩
theorem near_bd {S : List Sd} {n i : Nat} {x : Int} (hS : ∀ s ∈ S, s.f < n) (h : nearP S i x) : -1 ≤ x ∧ x < n := by
  obtain ⟨s, hs, -, ⟨t, ht, -, rfl⟩ | ⟨rfl, -⟩⟩ := h
  · have := hS t ht; omega
  · have := hS s hs; omega
/-- Told in another order. -/
theorem near_perm {S S' : List Sd} {n : Nat} (π : Nat → Nat) (hS : ∀ s ∈ S, s.f < n) (hinj : ∀ f g, f < n → g < n → π f = π g → f = g) (hp : S'.Perm (S.map (Sd.ren π))) (i : Nat) (hi : i < n) (x : Int) :
    nearP S' (π i) x ↔ (x = -1 ∧ nearP S i (-1)) ∨ ∃ f, f < n ∧ x = (π f : Nat) ∧ nearP S i f := by
  have hmem : ∀ s', s' ∈ S' ↔ ∃ s ∈ S, s' = s.ren π := fun s' => by
    rw [hp.mem_iff, List.mem_map]
    exact ⟨fun ⟨s, hs, e⟩ => ⟨s, hs, e.symm⟩, fun ⟨s, hs, e⟩ => ⟨s, hs, e.symm⟩⟩
  have hopp : ∀ s ∈ S, ∀ t ∈ S, oppS (s.ren π) (t.ren π) ↔ oppS s t := fun s hs t ht => by
    unfold oppS
    exact ⟨fun ⟨h1, h2, h3⟩ => ⟨h1, h2, fun e => h3 (by show π t.f = π s.f; rw [e])⟩, fun ⟨h1, h2, h3⟩ => ⟨h1, h2, fun e => h3 (hinj _ _ (hS t ht) (hS s hs) e)⟩⟩
  have hno : ∀ s ∈ S, (∃ t' ∈ S', oppS (s.ren π) t') ↔ ∃ t ∈ S, oppS s t := fun s hs => by
    constructor
    · rintro ⟨t', ht', ho⟩
      obtain ⟨t, ht, rfl⟩ := (hmem _).1 ht'
      exact ⟨t, ht, (hopp s hs t ht).1 ho⟩
    · rintro ⟨t, ht, ho⟩
      exact ⟨t.ren π, (hmem _).2 ⟨t, ht, rfl⟩, (hopp s hs t ht).2 ho⟩
  unfold nearP
  constructor
  · rintro ⟨s', hs', hi', h⟩
    obtain ⟨s, hs, rfl⟩ := (hmem _).1 hs'
    have he : s.f = i := hinj _ _ (hS s hs) hi hi'
    rcases h with ⟨t', ht', ho, rfl⟩ | ⟨rfl, hn⟩
    · obtain ⟨t, ht, rfl⟩ := (hmem _).1 ht'
      exact .inr ⟨t.f, hS t ht, rfl, s, hs, he, .inl ⟨t, ht, (hopp s hs t ht).1 ho, rfl⟩⟩
    · exact .inl ⟨rfl, s, hs, he, .inr ⟨rfl, fun h => hn ((hno s hs).2 h)⟩⟩
  · rintro (⟨rfl, s, hs, he, h⟩ | ⟨f, hf, rfl, s, hs, he, h⟩)
    · rcases h with ⟨t, ht, -, h⟩ | ⟨-, hn⟩
      · omega
      · exact ⟨s.ren π, (hmem _).2 ⟨s, hs, rfl⟩, by show π s.f = π i; rw [he], .inr ⟨rfl, fun h => hn ((hno s hs).1 h)⟩⟩
    · rcases h with ⟨t, ht, ho, h⟩ | ⟨h, -⟩
      · obtain rfl : f = t.f := by omega
        exact ⟨s.ren π, (hmem _).2 ⟨s, hs, rfl⟩, by show π s.f = π i; rw [he], .inl ⟨t.ren π, (hmem _).2 ⟨t, ht, rfl⟩, (hopp s hs t ht).2 ho, rfl⟩⟩
      · omega
/-- Moved. -/
theorem near_sim {φ : Pt → Pt} (h : Sim φ) (F : List (List (List Pt))) (i : Nat) (x : Int) : nearP (allSd (mapF φ F)) i x ↔ nearP (allSd F) i x := by
  have hs : allSd (mapF φ F) = (allSd F).map fun s => (⟨s.f, s.r, φ s.a, φ s.b⟩ : Sd) := by
    rw [← allEd_sd, ← allEd_sd, allEd_map, List.map_map, List.map_map]
    rfl
  rw [hs]
  generalize allSd F = S
  have hopp : ∀ s t : Sd, oppS ⟨s.f, s.r, φ s.a, φ s.b⟩ ⟨t.f, t.r, φ t.a, φ t.b⟩ ↔ oppS s t := fun s t => by
    unfold oppS
    dsimp only
    rw [h.eq, h.eq]
  have hno : ∀ s : Sd, (∃ t' ∈ S.map fun s => (⟨s.f, s.r, φ s.a, φ s.b⟩ : Sd), oppS ⟨s.f, s.r, φ s.a, φ s.b⟩ t') ↔ ∃ t ∈ S, oppS s t := fun s => by
    constructor
    · rintro ⟨t', ht', ho⟩
      obtain ⟨t, ht, rfl⟩ := List.mem_map.1 ht'
      exact ⟨t, ht, (hopp s t).1 ho⟩
    · rintro ⟨t, ht, ho⟩
      exact ⟨_, List.mem_map.2 ⟨t, ht, rfl⟩, (hopp s t).2 ho⟩
  unfold nearP
  constructor
  · rintro ⟨s', hs', hi', hh⟩
    obtain ⟨s, hs, rfl⟩ := List.mem_map.1 hs'
    rcases hh with ⟨t', ht', ho, rfl⟩ | ⟨rfl, hn⟩
    · obtain ⟨t, ht, rfl⟩ := List.mem_map.1 ht'
      exact ⟨s, hs, hi', .inl ⟨t, ht, (hopp s t).1 ho, rfl⟩⟩
    · exact ⟨s, hs, hi', .inr ⟨rfl, fun h2 => hn ((hno s).2 h2)⟩⟩
  · rintro ⟨s, hs, hi', hh⟩
    refine ⟨_, List.mem_map.2 ⟨s, hs, rfl⟩, hi', ?_⟩
    rcases hh with ⟨t, ht, ho, rfl⟩ | ⟨rfl, hn⟩
    · exact .inl ⟨_, List.mem_map.2 ⟨t, ht, rfl⟩, (hopp s t).2 ho, rfl⟩
    · exact .inr ⟨rfl, fun h2 => hn ((hno s).1 h2)⟩
end Go
/- Moving, and telling twice as great, keep how points lie (plain). -/
set_option linter.unusedVariables false
set_option linter.unusedSimpArgs false
namespace Go
open Go.RowKit
theorem sim_mv (v : Pt) : Sim (Pt.mv v) where
  eq := mv_eq v
  lx a b := by unfold Pt.mv; dsimp only; omega
  ly a b := by unfold Pt.mv; dsimp only; omega
  less := less_mv v
  sg a b c := by rw [crs_mv']
  pass p q a b := by
    have h1 : ∀ y : Int, overF ((a.y + v.y) + (b.y + v.y)) ((b.x + v.x) - (a.x + v.x)) (y + v.y) = overF (a.y + b.y) (b.x - a.x) y := fun y => by
      unfold overF
      congr 1
      · exact decide_eq_decide.2 (by omega)
      · congr 1
        · exact decide_eq_decide.2 (by omega)
        · exact decide_eq_decide.2 (by omega)
    have h2 : sideF (Pt.mv v p) (Pt.mv v q) (Pt.mv v a) (Pt.mv v b) = sideF p q a b := by
      unfold sideF Pt.mv
      dsimp only
      have e1 : (q.x + v.x - (p.x + v.x)) = q.x - p.x := by omega
      have e2 : (q.y + v.y - (p.y + v.y)) = q.y - p.y := by omega
      have e3 : (a.y + v.y + (b.y + v.y) - 2 * (p.y + v.y)) = a.y + b.y - 2 * p.y := by omega
      have e4 : (a.x + v.x + (b.x + v.x) - 2 * (p.x + v.x)) = a.x + b.x - 2 * p.x := by omega
      have e5 : (b.x + v.x - (a.x + v.x)) = b.x - a.x := by omega
      have e6 : (b.y + v.y - (a.y + v.y)) = b.y - a.y := by omega
      rw [e1, e2, e3, e4, e5, e6]
    unfold passF
    rw [h2]
    unfold Pt.mv
    dsimp only
    simp only [h1]
/-- Twice as far. -/
def Pt.two (p : Pt) : Pt := ⟨2 * p.x, 2 * p.y⟩
theorem sg_four (n : Int) : sg (4 * n) = sg n := by
  rcases Int.lt_trichotomy n 0 with h | h | h
  · rw [sg_neg h, sg_neg (by omega)]
  · rw [h]; rfl
  · rw [sg_pos h, sg_pos (by omega)]
theorem sim_two : Sim Pt.two where
  eq a b := by
    obtain ⟨ax, ay⟩ := a
    obtain ⟨bx, bY⟩ := b
    unfold Pt.two
    simp only [Pt.mk.injEq]
    omega
  lx a b := by unfold Pt.two; dsimp only; omega
  ly a b := by unfold Pt.two; dsimp only; omega
  less a b := by
    unfold lessP Pt.two
    dsimp only
    have h1 : (2 * a.x < 2 * b.x) ↔ a.x < b.x := by omega
    have h2 : (2 * a.x = 2 * b.x) ↔ a.x = b.x := by omega
    have h3 : (2 * a.y < 2 * b.y) ↔ a.y < b.y := by omega
    simp only [h1, h2, h3]
  sg a b c := by
    have : crs a.two b.two c.two = 4 * crs a b c := by unfold crs Pt.two; dsimp only; grind
    rw [this, sg_four]
  pass p q a b := by
    have h1 : ∀ y : Int, overF (2 * a.y + 2 * b.y) (2 * b.x - 2 * a.x) (2 * y) = overF (a.y + b.y) (b.x - a.x) y := fun y => by
      unfold overF
      congr 1
      · exact decide_eq_decide.2 (by omega)
      · congr 1
        · exact decide_eq_decide.2 (by omega)
        · exact decide_eq_decide.2 (by omega)
    have h2 : sideF p.two q.two a.two b.two = 4 * sideF p q a b := by
      unfold sideF Pt.two
      dsimp only
      have e1 : (2 * q.x - 2 * p.x) * (2 * a.y + 2 * b.y - 2 * (2 * p.y)) - (2 * q.y - 2 * p.y) * (2 * a.x + 2 * b.x - 2 * (2 * p.x)) = 4 * ((q.x - p.x) * (a.y + b.y - 2 * p.y) - (q.y - p.y) * (a.x + b.x - 2 * p.x)) := by grind
      have e2 : (2 * q.x - 2 * p.x) * (2 * b.x - 2 * a.x) + (2 * q.y - 2 * p.y) * (2 * b.y - 2 * a.y) = 4 * ((q.x - p.x) * (b.x - a.x) + (q.y - p.y) * (b.y - a.y)) := by grind
      rw [e1, e2]
      generalize (q.x - p.x) * (a.y + b.y - 2 * p.y) - (q.y - p.y) * (a.x + b.x - 2 * p.x) = s
      by_cases h : s = 0
      · rw [if_pos h, if_pos (by omega)]
      · rw [if_neg h, if_neg (by omega)]
    unfold passF
    rw [h2]
    unfold Pt.two
    dsimp only
    simp only [h1]
    generalize sideF p q a b = s
    have h3 : (0 < 4 * s) ↔ 0 < s := by omega
    have h4 : (4 * s < 0) ↔ s < 0 := by omega
    simp only [h3, h4]
end Go
/- slices.Clone of points. -/
set_option linter.unusedVariables false
set_option linter.unusedSimpArgs false
set_option maxRecDepth 100000
namespace Go.Proofs.Ytkdibaphmkaaoaa
open Go.RowKit
theorem Try.infoZP : (Try.prog.info? 46).map (fun i => (i.zero, i.size, i.bytes)) = some (some (.agg #[.int .i64 0, .int .i64 0]), 2, 16) := by kernel_rfl

set_option maxHeartbeats 1600000 in
theorem cloneP_any (a : Option Addr) (c : Nat) (L : List Pt) (hlen : L.length ≤ 1000000) (w : World) (hr : Rd w a (pts L)) (hc : a = none → c = 0) :
    Calls Try.prog 44 #[.slice a L.length c] w fun e w' => ∃ v, e = .returned v ∧ w'.ownsRow w.heap.size 46 2 v L.length (pts L) ∧ Below w.heap.size w w' := by
  have hnil := fun a n c => Lib.run_eql_slice_nil (P := Try.prog) w 40 46 a n c 0 0 Try.underlying40
  cases a with
  | none =>
    have h0 : L = [] := by
      rcases hr with h | ⟨_, _, h, _⟩
      · have h2 := congrArg List.length h
        rw [pts_len] at h2
        exact List.length_eq_zero_iff.1 (by simp only [List.length_nil] at h2; omega)
      · cases h
    subst h0
    go_enter Try.func44, Try.ntmps44
    go_wp2
    go_ret
    exact ⟨_, rfl, World.ownsRow_nil _ _ _ _, Below.refl _ _⟩
  | some ad =>
    obtain ⟨n, hn⟩ : ∃ n, L.length = n := ⟨_, rfl⟩
    have HN := Lib.hid hn
    rw [hn] at hlen ⊢
    clear hn
    go_enter Try.func44, Try.ntmps44
    go_wp2_with (at_builtin; go_must (refine wpList_app' w (Below.new w (.cells #[] 46)) rfl (.tmp 5) (.tmp 6) 40 rfl 46 (.agg #[.int .i64 0, .int .i64 0]) 2 16 Try.underlying40 Try.infoZP rfl (by decide) (.slice (some ⟨w.heap.size, 0, none⟩) 0 0) 0 [] rfl (ownsRow_empty w _ _) (some ad) n c (pts L) rfl hc (hr.alloc _) (by rw [pts_len, HN.out]; try omega) (pts_one L) (by omega) (by decide) ?_); intro v1 w1 hown1 _ hbl1)
    go_ret
    refine ⟨_, rfl, ?_, hbl1⟩
    simpa using hown1

end Go.Proofs.Ytkdibaphmkaaoaa
/- Owned rows of several cells an element, written in place. -/
set_option linter.unusedVariables false
set_option linter.unusedSimpArgs false
namespace Go
open Go.RowKit

theorem ownsRow_cur {W : World} {base g c n s : Nat} {e : TypeId} {xs : List Value} (h : W.ownsRow base e s (.slice (some ⟨g, 0, none⟩) n c) n xs) :
    ∃ cur : Array Value, W.heap[g]? = some (.cells cur e (0, 0)) ∧ n ≤ c ∧ c ≤ maxLen ∧ cur.size = c * s ∧ cur.toList.take (n * s) = xs ∧ xs.length = n * s ∧ base ≤ g := by
  obtain ⟨h1, h2⟩ := h
  rcases h2 with ⟨hv, _⟩ | ⟨g', cap, cur, hv, hb, hg, h3, h4, h5, h6⟩
  · cases hv
  · cases hv
    exact ⟨cur, hg, h3, h4, h5, h6, h1, hb⟩

theorem ownsRow_setS {W : World} {base g c n s i : Nat} {e : TypeId} {xs : List Value} (h : W.ownsRow base e s (.slice (some ⟨g, 0, none⟩) n c) n xs) (u : Value) :
    (W.setCell ⟨g, i, none⟩ u).ownsRow base e s (.slice (some ⟨g, 0, none⟩) n c) n (xs.set i u) := by
  obtain ⟨cur, hg, h3, h4, h5, h6, h1, hb⟩ := ownsRow_cur h
  refine ⟨by simpa using h1, .inr ⟨g, c, cur.setIfInBounds i u, rfl, hb, ?_, h3, h4, by simpa using h5, ?_⟩⟩
  · show (W.setCell ⟨g, i, none⟩ u).heap[g]? = _
    simp [World.setCell, Array.getElem?_modify, hg]
  · rw [← h6]
    simp [List.take_set]

theorem ownsRow_cellS {W : World} {base g c n s i : Nat} {e : TypeId} {xs : List Value} (h : W.ownsRow base e s (.slice (some ⟨g, 0, none⟩) n c) n xs) {v : Value} (hv : xs[i]? = some v) :
    W.cell? ⟨g, i, none⟩ = some v ∧ W.frozen? ⟨g, i, none⟩ = false ∧ g < W.heap.size := by
  obtain ⟨cur, hg, h3, h4, h5, h6, h1, hb⟩ := ownsRow_cur h
  refine ⟨?_, by simp [World.frozen?, hg], (Array.getElem?_eq_some_iff.1 hg).1⟩
  rw [cell_of_row W g i cur e (0, 0) hg]
  rw [← h6, List.getElem?_take] at hv
  split at hv
  · simpa using hv
  · cases hv

/-- A cut: where, and how far: p of w. -/
structure Cu where
  x : Int
  y : Int
  p : Int
  w : Int
instance : Inhabited Cu := ⟨⟨0, 0, 0, 0⟩⟩
def Cu.cells (c : Cu) : List Value := [.int .i64 c.x, .int .i64 c.y, .int .i64 c.p, .int .i64 c.w]
def Cu.val (c : Cu) : Value := .agg #[.int .i64 c.x, .int .i64 c.y, .int .i64 c.p, .int .i64 c.w]
def cus (l : List Cu) : List Value := l.flatMap Cu.cells
/-- How far one is, by the other's measure. -/
def cmpC (a b : Cu) : Int := a.p * b.w - b.p * a.w
def CuOk (c : Cu) : Prop := (0 ≤ c.p ∧ c.p ≤ 67108864) ∧ (1 ≤ c.w ∧ c.w ≤ 67108864)
end Go

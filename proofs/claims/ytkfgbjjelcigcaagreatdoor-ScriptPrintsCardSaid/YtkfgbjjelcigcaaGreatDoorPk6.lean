/-
  Plain: a line's first word. A scope with jumps to two labels: back to one, forward to another. text.Unquote.
-/
import Derived.Test.YtkfgbjjelcigcaaGreatDoorPk4
import Derived.Test.YtkfgbjjelcigcaaGreatDoorPk2
import Derived.Lib.IndexLaws
import Derived.Test.YtkfgbjjelcigcaaGreatDoorPk1
/- Plain: a line's first word. -/
set_option linter.unusedVariables false
set_option linter.unusedSimpArgs false
set_option maxRecDepth 100000
namespace Go
open Go.RowKit
theorem unqF_le (s : ByteArray) : ∀ (f p : Nat) (acc : List UInt8), (unqF s f p acc).2.2 = 0 → p < (unqF s f p acc).2.1 ∧ (unqF s f p acc).2.1 ≤ s.size := by
  intro f
  induction f with
  | zero => intro p acc h; cases h
  | succ f ih =>
    intro p acc h
    by_cases hp : p < s.size
    · have hw := decode_wid hp; have he := esc_ok (s.extract (p + 1) s.size); have hes := esc_err (s.extract (p + 1) s.size); unfold unqF at h ⊢; rw [if_pos hp] at h ⊢
      split
      · rename_i h1; rw [if_pos h1] at h; cases h
      · rename_i h1; rw [if_neg h1] at h
        split
        · dsimp only; omega
        · rename_i h2; rw [if_neg h2] at h
          split
          · rename_i h3; rw [if_pos h3] at h
            split
            · rename_i h4; rw [if_pos h4] at h; have := ih _ _ h; have hk := he h4; omega
            · rename_i h4; rw [if_neg h4] at h; exact absurd h h4
          · rename_i h3; rw [if_neg h3] at h
            split
            · rename_i h4; rw [if_pos h4] at h; cases h
            · rename_i h4; rw [if_neg h4] at h; have := ih _ _ h; omega
    · rw [unqF_end s _ p acc hp] at h; cases h
theorem unquoteF_le (s : ByteArray) (h : (unquoteF s).2.2 = 0) : 1 < (unquoteF s).2.1 ∧ (unquoteF s).2.1 ≤ s.size := by
  unfold unquoteF at h ⊢
  split
  · rename_i h1; rw [if_pos h1] at h; cases h
  · rename_i h1; rw [if_neg h1] at h
    split
    · rename_i h2; rw [if_pos h2] at h; cases h
    · rename_i h2; rw [if_neg h2] at h; exact unqF_le s _ _ _ h
theorem unqF_err (s : ByteArray) : ∀ (f p : Nat) (acc : List UInt8), (unqF s f p acc).2.2 ≤ 13 := by
  intro f
  induction f with
  | zero => intro p acc; simp [unqF]
  | succ f ih =>
    intro p acc; have hes := esc_err (s.extract (p + 1) s.size); unfold unqF
    repeat' split
    all_goals first | exact ih _ _ | (dsimp only; omega)
def endF (t : ByteArray) : Nat := if Lib.indexByte t.data.toList 32 < 0 then t.size else (Lib.indexByte t.data.toList 32).toNat
theorem idx_cases (t : ByteArray) (c : UInt8) : (Lib.indexByte t.data.toList c = -1 ∧ ∀ k, k < t.size → byt t k ≠ c.toNat) ∨ (∃ n : Nat, Lib.indexByte t.data.toList c = (n : Int) ∧ n < t.size ∧ byt t n = c.toNat ∧ ∀ k, k < n → byt t k ≠ c.toNat) := by
  have hge := Lib.indexByte_ge t.data.toList c
  rcases Int.lt_or_le (Lib.indexByte t.data.toList c) 0 with h | h
  · have h1 : Lib.indexByte t.data.toList c = -1 := by omega
    refine .inl ⟨h1, fun k hk hb => ?_⟩; exact Lib.indexByte_none h1 k (get_byt.2 ⟨hk, hb⟩)
  · obtain ⟨n, hn⟩ : ∃ n : Nat, Lib.indexByte t.data.toList c = n := ⟨_, (Int.toNat_of_nonneg h).symm⟩; obtain ⟨h1, h2⟩ := Lib.indexByte_some hn; have h3 := get_byt.1 h1; refine .inr ⟨n, hn, h3.1, h3.2, fun k hk hb => ?_⟩; exact h2 k hk (get_byt.2 ⟨by omega, hb⟩)
theorem endF_spec (t : ByteArray) : endF t ≤ t.size ∧ (∀ k, k < endF t → byt t k ≠ 32) ∧ (endF t < t.size → byt t (endF t) = 32) := by
  unfold endF
  rcases idx_cases t 32 with ⟨h1, h2⟩ | ⟨n, h1, h2, h3, h4⟩
  · rw [h1, if_pos (by decide)]; exact ⟨Nat.le_refl _, h2, fun h => absurd h (Nat.lt_irrefl _)⟩
  · rw [h1, if_neg (by omega), Int.toNat_natCast]; exact ⟨Nat.le_of_lt h2, h4, fun _ => h3⟩
theorem endF_unique (t : ByteArray) (n : Nat) (h1 : n ≤ t.size) (h2 : ∀ k, k < n → byt t k ≠ 32) (h3 : n < t.size → byt t n = 32) : n = endF t := by
  obtain ⟨g1, g2, g3⟩ := endF_spec t
  rcases Nat.lt_trichotomy n (endF t) with h | h | h
  · exact absurd (h3 (by omega)) (g2 n h)
  · exact h
  · exact absurd (g3 (by omega)) (h2 _ h)
def has34 (t : ByteArray) (n : Nat) : Bool := decide (∃ k, k < n ∧ byt t k = 34)
theorem pre_size (t : ByteArray) (n : Nat) (h : n ≤ t.size) : (t.extract 0 n).size = n := by
  simp [ByteArray.size_extract]; omega
theorem pre_get (t : ByteArray) (n k : Nat) (h : n ≤ t.size) (hk : k < n) : (t.extract 0 n).get! k = t.get! k := by
  have h1 : k < (t.extract 0 n).size := by rw [pre_size t n h]; omega
  have e1 := get_lt h1; have e2 := get_lt (s := t) (i := k) (by omega); have : (t.extract 0 n).data.toList[k]? = t.data.toList[k]? := by
    rw [Array.getElem?_toList, Array.getElem?_toList, ByteArray.data_extract, Array.getElem?_extract]; have hs : t.data.size = t.size := rfl; rw [hs, if_pos (by omega), Nat.zero_add]
  rw [this, e2] at e1; exact (Option.some.inj e1).symm
theorem pre_byt (t : ByteArray) (n k : Nat) (h : n ≤ t.size) (hk : k < n) : byt (t.extract 0 n) k = byt t k := by
  unfold byt; rw [pre_get t n k h hk]
theorem has34_eq (t : ByteArray) (n : Nat) (h : n ≤ t.size) : decide (0 ≤ Lib.indexByte (t.extract 0 n).data.toList 34) = has34 t n := by
  unfold has34; rw [decide_eq_decide]; have hs := pre_size t n h
  rcases idx_cases (t.extract 0 n) 34 with ⟨h1, h2⟩ | ⟨m, h1, h2, h3, h4⟩
  · rw [h1]; constructor
    · intro h; omega
    · rintro ⟨k, hk, hb⟩; exact absurd (by rw [pre_byt t n k h hk]; exact hb) (h2 k (by omega))
  · rw [h1]; constructor
    · intro _; rw [hs] at h2; exact ⟨m, h2, by rw [← pre_byt t n m h h2]; exact h3⟩
    · intro _; omega
def wordF (t : ByteArray) : List UInt8 × Bool × Nat × Nat :=
  if 0 < t.size ∧ byt t 0 = 34 then
    (if (unquoteF t).2.2 ≠ 0 then ([], false, 0, (unquoteF t).2.2)
     else if (unquoteF t).2.1 < t.size ∧ byt t (unquoteF t).2.1 ≠ 32 then ([], false, 0, 3)
     else ((unquoteF t).1, true, (unquoteF t).2.1, 0))
  else if endF t = 0 ∨ has34 t (endF t) = true then ([], false, 0, 3)
  else if rightF (t.extract 0 (endF t)) = false then ([], false, 0, 13)
  else ((t.extract 0 (endF t)).data.toList, false, endF t, 0)
theorem pre_34 (t : ByteArray) : Lib.hasPrefix t.data.toList [34] = decide (0 < t.size ∧ byt t 0 = 34) := by
  unfold Lib.hasPrefix; have hb : t.data.toList[0]? = some 34 ↔ 0 < t.size ∧ byt t 0 = 34 := by
    rw [get_byt]; exact Iff.rfl
  cases hl : t.data.toList with
  | nil =>
    rw [hl] at hb; have hn : ¬ (0 < t.size ∧ byt t 0 = 34) := fun h => by have := hb.2 h; simp at this
    simp [List.isPrefixOf, hn]
  | cons x l =>
    rw [hl] at hb; simp only [List.getElem?_cons_zero, Option.some.injEq] at hb; simp only [List.isPrefixOf, Bool.and_true]; rw [Bool.eq_iff_iff, decide_eq_true_eq, ← hb, beq_iff_eq]; exact eq_comm
end Go
/- A scope with jumps to two labels: back to one, forward to another. -/
set_option linter.unusedVariables false
set_option linter.unusedSimpArgs false
namespace Go
open Go.RowKit
def Exit.jumps (J : Nat → Act → World → Prop) (Q : Exit → Act → World → Prop) : Exit → Act → World → Prop
  | .goto l, a, w => J l a w
  | e, a, w => Q e a w
section
variable {P : Program} {a : Act} {w : World} {Q : Exit → Act → World → Prop}
theorem wp_scope_many {c : Code} (rest : Nat → Code) (J : Nat → Act → World → Prop) (μ : Nat → Act → World → Nat) (hf : ∀ l a w, J l a w → findLabel c l = some (rest l))
    (first : c.wp P (Exit.jumps J Q) a w)
    (pass : ∀ l a w, J l a w → (rest l).wp P (Exit.jumps (fun l' a' w' => J l' a' w' ∧ μ l' a' w' < μ l a w) Q) a w) : (Code.scope c).wp P Q a w := by
  intro b k cs; have key : ∀ n l a w, μ l a w = n → J l a w → ∃ e a' w', Q e a' w' ∧ Arrives P (lone (b.at a (.code (rest l) :: .inScope c :: k)) cs w) b k cs e a' w' := by
    intro n
    induction n using Nat.strongRecOn with
    | _ n ih =>
      intro l a w hn hJ; obtain ⟨e, a₁, w₁, hq, harr⟩ := pass l a w hJ b (.inScope c :: k) cs
      cases e with
      | normal => exact ⟨.normal, a₁, w₁, hq, Steps.trans harr (.one step_inScope)⟩
      | exit id => exact ⟨.exit id, a₁, w₁, hq, fun k' hk => harr k' (by simp [exitTo, hk])⟩
      | goto l' =>
        obtain ⟨hJ', hlt⟩ := hq; obtain ⟨e₂, a₂, w₂, hq₂, harr₂⟩ := ih _ (by omega) l' a₁ w₁ rfl hJ'; have hg : gotoIn l' (.inScope c :: k) = some (.code (rest l') :: .inScope c :: k) := by simp [gotoIn, hf _ _ _ hJ']
        exact ⟨e₂, a₂, w₂, hq₂, .of_steps (harr _ hg) harr₂⟩
      | ret => exact ⟨_, a₁, w₁, hq, harr⟩
      | panic ch => exact ⟨_, a₁, w₁, hq, harr⟩
      | outgrown => exact ⟨_, a₁, w₁, hq, harr⟩
  obtain ⟨e, a₁, w₁, hq, harr⟩ := first b (.inScope c :: k) cs
  cases e with
  | normal => exact ⟨.normal, a₁, w₁, hq, .head step_scope (Steps.trans harr (.one step_inScope))⟩
  | exit id => exact ⟨.exit id, a₁, w₁, hq, fun k' hk => .head step_scope (harr k' (by simp [exitTo, hk]))⟩
  | goto l' =>
    have hJ' : J l' a₁ w₁ := hq; have hg : gotoIn l' (.inScope c :: k) = some (.code (rest l') :: .inScope c :: k) := by simp [gotoIn, hf _ _ _ hJ']
    obtain ⟨e₂, a₂, w₂, hq₂, harr₂⟩ := key _ l' a₁ w₁ rfl hJ'; exact ⟨e₂, a₂, w₂, hq₂, .of_steps (.head step_scope (harr _ hg)) harr₂⟩
  | ret => exact ⟨_, a₁, w₁, hq, .of_steps (.one step_scope) harr⟩
  | panic ch => exact ⟨_, a₁, w₁, hq, .of_steps (.one step_scope) harr⟩
  | outgrown => exact ⟨_, a₁, w₁, hq, .of_steps (.one step_scope) harr⟩
end
def Exit.two (l b : Nat) (J B : Act → World → Prop) (Q : Exit → Act → World → Prop) : Exit → Act → World → Prop
  | .goto l', a, w => if l' = l then J a w else if l' = b then B a w else False
  | e, a, w => Q e a w
section
variable {l b : Nat} {J B : Act → World → Prop} {Q : Exit → Act → World → Prop} {a : Act} {w : World}
@[go_sem] theorem Exit.two_normal : Exit.two l b J B Q .normal a w = Q .normal a w := rfl
@[go_sem] theorem Exit.two_exit (id : Nat) : Exit.two l b J B Q (.exit id) a w = Q (.exit id) a w := rfl
@[go_sem] theorem Exit.two_ret : Exit.two l b J B Q .ret a w = Q .ret a w := rfl
@[go_sem] theorem Exit.two_panic (ch : List PanicEntry) : Exit.two l b J B Q (.panic ch) a w = Q (.panic ch) a w := rfl
end
theorem wp_goto_two {P : Program} {a : Act} {w : World} {Q : Exit → Act → World → Prop} {c rest restb : Code} (l b : Nat) (hlb : l ≠ b) (I : Nat → Act → World → Prop) (hf : findLabel c l = some (.seq .skip rest)) (hb : findLabel c b = some restb)
    (pass : ∀ n a w, I n a w → ∀ J B : Act → World → Prop, (∀ k a' w', k < n → I k a' w' → J a' w') → Hid (∀ a' w', restb.wp P (Exit.two l b (fun _ _ => False) (fun _ _ => False) Q) a' w' → B a' w') → rest.wp P (Exit.two l b J B Q) a w)
    (first : ∀ J B : Act → World → Prop, Hid (∀ n a w, I n a w → rest.wp P (Exit.two l b J B Q) a w) → Hid (∀ a' w', restb.wp P (Exit.two l b (fun _ _ => False) (fun _ _ => False) Q) a' w' → B a' w') → c.wp P (Exit.two l b J B Q) a w) : (Code.scope c).wp P Q a w := by
  have hlb' : ¬ b = l := fun h => hlb h.symm; refine wp_scope_many (fun m => if m = l then .seq .skip rest else restb) (fun m a w => (m = l ∧ ∃ n, I n a w) ∨ (m = b ∧ restb.wp P (Exit.two l b (fun _ _ => False) (fun _ _ => False) Q) a w)) (fun m a w => if m = l then 1 + leastOf (fun n => I n a w) else 0) ?_ ?_ ?_
  · rintro m a w (⟨rfl, _⟩ | ⟨rfl, _⟩)
    · simpa using hf
    · simpa [hlb'] using hb
  · refine wp_mono (first (fun a w => ∃ n, I n a w) (fun a w => restb.wp P (Exit.two l b (fun _ _ => False) (fun _ _ => False) Q) a w) (Lib.hid fun n a w h => pass n a w h _ _ (fun k a' w' _ h => ⟨k, h⟩) (Lib.hid fun _ _ h => h)) (Lib.hid fun _ _ h => h)) ?_; intro e a' w' hq
    cases e with
    | goto m =>
      by_cases h1 : m = l
      · subst h1; have : ∃ n, I n a' w' := by simpa [Exit.two] using hq
        exact Or.inl ⟨rfl, this⟩
      · by_cases h2 : m = b
        · subst h2; refine Or.inr ⟨rfl, ?_⟩; have h3 : (if m = l then _ else if m = m then _ else False) := hq
          rwa [if_neg h1, if_pos rfl] at h3
        · have h3 : (if m = l then _ else if m = b then _ else False) := hq; rw [if_neg h1, if_neg h2] at h3; exact h3.elim
    | _ => exact hq
  · rintro m a w (⟨rfl, hI⟩ | ⟨rfl, hB⟩)
    · simp only [if_pos]; refine wp_seq (wp_skip ?_); refine wp_mono (pass _ a w (leastOf_spec hI).1 (fun a' w' => ∃ k, k < leastOf (fun n => I n a w) ∧ I k a' w') (fun a w => restb.wp P (Exit.two m b (fun _ _ => False) (fun _ _ => False) Q) a w) (fun k a' w' hk h => ⟨k, hk, h⟩) (Lib.hid fun _ _ h => h)) ?_; intro e a' w' hq
      cases e with
      | goto x =>
        by_cases h1 : x = m
        · subst h1; have h3 : ∃ k, k < leastOf (fun n => I n a w) ∧ I k a' w' := by simpa [Exit.two] using hq
          obtain ⟨k, hk, hIk⟩ := h3; refine ⟨Or.inl ⟨rfl, k, hIk⟩, ?_⟩; have := (leastOf_spec (p := fun n => I n a' w') ⟨k, hIk⟩).2 k hIk; simp only [if_pos]; omega
        · by_cases h2 : x = b
          · subst h2; have h3 : (if x = m then _ else if x = x then _ else False) := hq; rw [if_neg h1, if_pos rfl] at h3; refine ⟨Or.inr ⟨rfl, h3⟩, ?_⟩; simp only [if_neg hlb', if_pos]; omega
          · have h3 : (if x = m then _ else if x = b then _ else False) := hq; rw [if_neg h1, if_neg h2] at h3; exact h3.elim
      | _ => exact hq
    · simp only [if_neg hlb']; refine wp_mono hB ?_; intro e a' w' hq
      cases e with
      | goto x =>
        have h3 : (if x = l then False else if x = m then False else False) := hq
        split at h3
        · exact h3.elim
        · split at h3 <;> exact h3.elim
      | _ => exact hq
end Go
/- text.Unquote. -/
set_option linter.unusedVariables false
set_option linter.unusedSimpArgs false
set_option maxRecDepth 100000
namespace Go.Proofs.YtkfgbjjelcigcaaGreatDoor
open Go.RowKit

set_option maxHeartbeats 6400000 in
theorem unq_any (s : ByteArray) (hs : s.size ≤ 100000) (w : World) :
    Calls Tryz.prog 79 #[.string s] w fun e w' => e = .returned (.tuple #[.string ⟨(unquoteF s).1.toArray⟩, .int .i64 (unquoteF s).2.1, .int .i64 (unquoteF s).2.2]) ∧ Below w.heap.size w w' := by
  have hF := Lib.hid (unquoteF.eq_1 s); obtain ⟨R, hR⟩ : ∃ R, unquoteF s = R := ⟨_, rfl⟩; rw [hR] at hF ⊢; clear hR; obtain ⟨R1, R2, R3⟩ := R; dsimp only
  go_enter Tryz.func79, Tryz.ntmps79
  go_wp2; refine wp_goto_two 1 0 (by decide) (fun n a' w' => ∃ (p f : Nat) (acc : List UInt8) (u2 u3 u4 u6 u8 u9 u10 u11 u12 u13 u14 u15 u16 u17 u18 u19 u20 u21 u22 u23 u24 u25 u26 u27 u28 u29 u30 u31 u32 u33 u34 u35 u36 u37 u38 u39 u40 u41 u42 u43 u44 u45 u46 u47 u48 u49 u50 u51 u52 u53 u54 u55 u56 u57 u58 u59 u60 u61 u62 u63 u64 u65 u66 u67 u68 u69 u70 : Value),
    (n = s.size - p ∧ 1 ≤ p ∧ p ≤ s.size ∧ s.size ≤ p + f ∧ Lib.IsBuilderF 91 5 w.heap.size w.heap.size (Lib.byteCells acc) w' ∧ Below w.heap.size w w' ∧ acc.length ≤ p ∧ Hid ((R1, R2, R3) = unqF s f p acc)) ∧
    a' = { tmps := List.toArray ((.string s) :: undef :: u2 :: u3 :: u4 :: (.pointer (some ⟨w.heap.size, 0, none⟩)) :: u6 :: (.int .i64 (p : Int)) :: u8 :: u9 :: u10 :: u11 :: u12 :: u13 :: u14 :: u15 :: u16 :: u17 :: u18 :: u19 :: u20 :: u21 :: u22 :: u23 :: u24 :: u25 :: u26 :: u27 :: u28 :: u29 :: u30 :: u31 :: u32 :: u33 :: u34 :: u35 :: u36 :: u37 :: u38 :: u39 :: u40 :: u41 :: u42 :: u43 :: u44 :: u45 :: u46 :: u47 :: u48 :: u49 :: u50 :: u51 :: u52 :: u53 :: u54 :: u55 :: u56 :: u57 :: u58 :: u59 :: u60 :: u61 :: u62 :: u63 :: u64 :: u65 :: u66 :: u67 :: u68 :: u69 :: u70 :: []), defers := [] }) rfl rfl ?_ ?_
  · rintro n a' w' ⟨p, f, acc, u2, u3, u4, u6, u8, u9, u10, u11, u12, u13, u14, u15, u16, u17, u18, u19, u20, u21, u22, u23, u24, u25, u26, u27, u28, u29, u30, u31, u32, u33, u34, u35, u36, u37, u38, u39, u40, u41, u42, u43, u44, u45, u46, u47, u48, u49, u50, u51, u52, u53, u54, u55, u56, u57, u58, u59, u60, u61, u62, u63, u64, u65, u66, u67, u68, u69, u70, ⟨rfl, hp1, hps, hpf, hI, hb, hal, HU⟩, rfl⟩ J B hJ HB; have HJ := Lib.hid hJ; clear hJ hF; have hpi : (p : Int) ≤ (s.size : Int) := by omega
    obtain ⟨E, hE⟩ : ∃ E, s.extract p s.size = E := ⟨_, rfl⟩; have hEs : E.size = s.size - p := by rw [← hE]; exact ext_size s p
    have hEd : Utf8.decode E 0 = Utf8.decode s p := by rw [← hE, ext_decode]; rfl
    have hEb : badAt E 0 = badAt s p := by rw [← hE, ext_bad]; rfl
    obtain ⟨KI, hKI⟩ : ∃ k, w'.heap.size = k := ⟨_, rfl⟩; have hI2 := hI.alloc (.stringIter E 0); have hit2 : (w'.alloc (.stringIter E 0)).heap[KI]? = some (.stringIter E 0) := by rw [← hKI]; exact heap_alloc_new w' _
    have hb2 := hb.alloc (hb.size) (.stringIter E 0); have hK : w.heap.size ≤ KI := by rw [← hKI]; exact hb.size
    clear hI hb; go_wp2
    go_loopw [6, 7] (fun e at' wr => e = .int .i64 4 ∧ at' = .int .i64 (p : Int) ∧ Lib.IsBuilderF 91 5 w.heap.size w.heap.size (Lib.byteCells acc) wr ∧ wr.heap[KI]? = some (.stringIter E 0) ∧ Below w.heap.size w wr) (fun _ _ _ => 0)
    case atStart => exact ⟨rfl, rfl, hI2, hit2, hb2⟩
    case round =>
      clear hI2 hit2 hb2; obtain ⟨rfl, rfl, hI, hit, hbw⟩ := hrel; have hsz : KI < wr.heap.size := (Array.getElem?_eq_some_iff.1 hit).1
      by_cases hp : p < s.size
      · obtain ⟨f, rfl⟩ : ∃ g, f = g + 1 := ⟨f - 1, by omega⟩; have hE0 : 0 < E.size := by omega
        have hnx : ∀ ty, (Instr.next (.pointer (some ⟨KI, 0, none⟩)) true ty).run Tryz.prog wr = _ := fun ty => Lib.run_next_any_at wr KI E 0 ty hit hE0; have hbad := bad_any E 0 hE0 (by unfold maxLen; omega); rw [hEd] at hnx hbad; rw [hEb] at hbad; have hwd := decode_wid hp; have hI2 := hI.iterAt hit (0 + (Utf8.decode s p).2); have hit2 := Lib.iterAt_heap wr KI E 0 (0 + (Utf8.decode s p).2) hit; have hbw2 := Lib.below_iterAt hbw (k := KI) hK E (0 + (Utf8.decode s p).2); have hsz2 := Lib.iterAt_size wr KI E (0 + (Utf8.decode s p).2); have hED := Lib.hid (fun hb => enc_dec (s := s) (p := p) hp hb); have F1 := Lib.hid (fun h1 => unqF_bad (s := s) (f := f) (p := p) (acc := acc) hp h1); have F2 := Lib.hid (fun h1 h2 => unqF_shut (s := s) (f := f) (p := p) (acc := acc) hp h1 h2); have F3 := Lib.hid (fun h1 h2 => unqF_esc (s := s) (f := f) (p := p) (acc := acc) hp h1 h2); have F4 := Lib.hid (fun h1 h2 h3 h4 => unqF_low (s := s) (f := f) (p := p) (acc := acc) hp h1 h2 h3 h4); have F5 := Lib.hid (fun h1 h2 h3 h4 => unqF_on (s := s) (f := f) (p := p) (acc := acc) hp h1 h2 h3 h4); obtain ⟨BD, hBD⟩ : ∃ BD, badAt s p = BD := ⟨_, rfl⟩; rw [hBD] at hbad hED F1 F2 F3 F4 F5; clear hBD; obtain ⟨W, hW⟩ : ∃ W, (Utf8.decode s p).2 = W := ⟨_, rfl⟩; rw [hW] at hnx hwd hI2 hit2 hbw2 hsz2 hED F5; obtain ⟨R, hR⟩ : ∃ R, (Utf8.decode s p).1 = R := ⟨_, rfl⟩; rw [hR] at hnx hwd hbad hED F2 F3 F4 F5; have HBAD := Lib.hid hbad; clear hbad hR hW hEd hEb hI hbw; have hRb : R ≤ 1114111 := hwd.2.2.2; have hw0 : wr.iterAt KI E (0 + W) = wr.iterAt KI E (0 + W) := rfl
        obtain ⟨w2, hw2⟩ : ∃ w2, wr.iterAt KI E (0 + W) = w2 := ⟨_, rfl⟩; rw [hw2] at hnx hI2 hit2 hbw2 hsz2; clear hw2 hw0
        go_wp2_with fail
        refine (HBAD.out _).mono ?_; rintro e w3 ⟨rfl, rfl⟩
        cases BD with
        | true =>
          have hu := HU.out; rw [F1.out rfl] at hu
          cases hu
          clear F1 F2 F3 F4 F5 hED HU; go_wp2; refine wp_label ?_; go_wp2; rw [Exit.two_ret]; refine bodyPost_ret (v := .tuple #[.string ⟨#[]⟩, .int .i64 0, .int .i64 13]) (by simp [results, Tryz.results79, go_sem]) rfl ⟨rfl, hbw2⟩
        | false =>
          have hED1 := hED.out rfl; have F2 := Lib.hid (F2.out rfl); have F3 := Lib.hid (F3.out rfl); have F4 := Lib.hid (F4.out rfl); have F5 := Lib.hid (F5.out rfl); obtain ⟨hEN, hRL⟩ := hED1; have HEN := Lib.hid hEN; have HRL := Lib.hid hRL; clear F1 hED hEN hRL
          by_cases c1 : R = 34
          · subst c1; have hu := HU.out; rw [F2.out rfl] at hu
            cases hu
            clear F2 F3 F4 F5 HU HEN HRL HBAD hnx
            go_wp2_with (go_at_call 36; refine (Tryz.Builder_String_any_k w.heap.size w.heap.size R1 _ hI2 (by omega)).mono ?_)
            rintro e w6 ⟨rfl, _, b6, _⟩; go_wp2; rw [Exit.two_ret]; refine bodyPost_ret (v := .tuple #[.string ⟨R1.toArray⟩, .int .i64 ((p : Int) + 1), .int .i64 0]) (by simp [results, Tryz.results79, go_sem]) rfl ⟨by simp, hbw2.trans b6⟩
          · have n1 : ((R : Int) == 34) = false := by rw [beq_eq_false_iff_ne]; omega
            by_cases c2 : R = 92
            · subst c2; clear F2 F4 F5 HEN HRL HBAD hnx c1; have hex := esc_any (s.extract (p + 1) s.size) (by rw [ext_size]; unfold maxLen; omega); have hu := HU.out; rw [F3.out rfl] at hu; have hok := esc_ok (s.extract (p + 1) s.size); rw [ext_size] at hok; generalize escF (s.extract (p + 1) s.size) = X at *; obtain ⟨X1, X2, X3⟩ := X; dsimp only at hu hex hok; have HEX := Lib.hid hex; have HU := Lib.hid hu; have HOK := Lib.hid hok; clear F3 hex hu hok; have hp1i : (p : Int) + 1 ≤ (s.size : Int) := by omega
              go_wp2_with fail
              refine (HEX.out _).mono ?_; rintro e w4 ⟨rfl, n4, rfl⟩; have hI4 : Lib.IsBuilderF 91 5 w.heap.size w.heap.size (Lib.byteCells acc) (w3.drewN n4) := hI2; have hb4 : Below w.heap.size w (w3.drewN n4) := below_drewN hbw2 n4; have hs4 := hb4.size; generalize w3.drewN n4 = w4 at *
              by_cases c3 : X3 = 0
              · subst c3; obtain ⟨k1, k2, k3, k4⟩ := HOK.out rfl; have hu := HU.out; rw [if_pos rfl] at hu; have HU := Lib.hid hu; have HEL := Lib.hid (enc_low X1 k1); clear hu HOK HEX
                go_wp2_with (go_at_call 92; refine (Tryz.Builder_WriteRune_k w.heap.size w.heap.size _ (X1 : Int) (by omega) (by omega) _ hI4 (by rw [Lib.byteCells_length]; omega) hs4).mono ?_)
                rintro e w5 ⟨rfl, h5, b5, _⟩; have hI5 : Lib.IsBuilderF 91 5 w.heap.size w.heap.size (Lib.byteCells (acc ++ [X1.toUInt8])) w5 := by
                  rw [Lib.byteCells_append, ← HEL.out, Lib.byteCells_encodeRune]; exact Or.inr h5
                have hb5 := hb4.trans b5; clear HEL h5 b5; have hal5 : (acc ++ [X1.toUInt8]).length = acc.length + 1 := by simp
                have hat5 : (p : Int) + ((X2 : Int) + 1) = ((p + 1 + X2 : Nat) : Int) := by omega
                go_wp2
                go_step3
                show J _ _
                try rw [hat5]
                refine HJ.out (s.size - (p + 1 + X2)) _ _ (by omega) ⟨p + 1 + X2, f, acc ++ [X1.toUInt8], _, _, _, _, _, _, _, _, _, _, _, _, _, _, _, _, _, _, _, _, _, _, _, _, _, _, _, _, _, _, _, _, _, _, _, _, _, _, _, _, _, _, _, _, _, _, _, _, _, _, _, _, _, _, _, _, _, _, _, _, _, _, _, _, _, _, _, ⟨rfl, by omega, by omega, by omega, hI5, hb5, by omega, HU⟩, rfl⟩
              · have n3 : ((X3 : Int) == 0) = false := by rw [beq_eq_false_iff_ne]; omega
                have hu := HU.out; rw [if_neg c3] at hu
                cases hu
                clear HU HOK HEX; go_wp2; refine wp_label ?_; go_wp2; rw [Exit.two_ret]; refine bodyPost_ret (v := .tuple #[.string ⟨#[]⟩, .int .i64 0, .int .i64 (R3 : Int)]) (by simp [results, Tryz.results79, go_sem]) rfl ⟨rfl, hb4⟩
            · have n2 : ((R : Int) == 92) = false := by rw [beq_eq_false_iff_ne]; omega
              clear F2 F3
              by_cases c3 : R < 32 ∨ R = 127
              · have hu := HU.out; rw [F4.out c1 c2 c3] at hu
                cases hu
                clear HU F4 F5 HEN HRL HBAD
                by_cases c4 : R < 32
                · have l1 : ¬ (32 : Int) ≤ (R : Int) := by omega
                  go_wp2; refine wp_label ?_; go_wp2; rw [Exit.two_ret]; refine bodyPost_ret (v := .tuple #[.string ⟨#[]⟩, .int .i64 0, .int .i64 3]) (by simp [results, Tryz.results79, go_sem]) rfl ⟨rfl, hbw2⟩
                · have c5 : R = 127 := by omega
                  subst c5; go_wp2; refine wp_label ?_; go_wp2; rw [Exit.two_ret]; refine bodyPost_ret (v := .tuple #[.string ⟨#[]⟩, .int .i64 0, .int .i64 3]) (by simp [results, Tryz.results79, go_sem]) rfl ⟨rfl, hbw2⟩
              · have l1 : (32 : Int) ≤ (R : Int) := by omega
                have l2 : ((R : Int) != 127) = true := bne_iff_ne.2 (by omega); have hu := HU.out; rw [F5.out c1 c2 c3] at hu; have HU := Lib.hid hu; have HRL2 := Lib.hid (fun w => Tryz.utf8_RuneLen (R : Int) w); rw [HRL.out] at HRL2; clear hu F4 F5 HBAD
                go_wp2_with (go_at_call 92; refine (Tryz.Builder_WriteRune_k w.heap.size w.heap.size _ (R : Int) (by omega) (by omega) _ hI2 (by rw [Lib.byteCells_length]; omega) hbw2.size).mono ?_)
                rintro e w5 ⟨rfl, h5, b5, _⟩; have hI5 : Lib.IsBuilderF 91 5 w.heap.size w.heap.size (Lib.byteCells (acc ++ bts s p W)) w5 := by
                  rw [Lib.byteCells_append, ← HEN.out, Lib.byteCells_encodeRune]; exact Or.inr h5
                have hb5 := hbw2.trans b5; clear HEN h5 b5
                go_wp2_with fail
                refine (HRL2.out _).mono ?_; rintro e w6 ⟨rfl, rfl⟩; have hal5 : (acc ++ bts s p W).length = acc.length + W := by rw [List.length_append, bts_len s p W (by omega)]
                have hWs : p + W ≤ s.size := hwd.2.1; go_wp2; have hat5 : (p : Int) + (W : Int) = ((p + W : Nat) : Int) := by omega
                go_step3
                show J _ _
                try rw [hat5]
                refine HJ.out (s.size - (p + W)) _ _ (by omega) ⟨p + W, f, acc ++ bts s p W, _, _, _, _, _, _, _, _, _, _, _, _, _, _, _, _, _, _, _, _, _, _, _, _, _, _, _, _, _, _, _, _, _, _, _, _, _, _, _, _, _, _, _, _, _, _, _, _, _, _, _, _, _, _, _, _, _, _, _, _, _, _, _, _, _, _, _, ⟨rfl, by omega, by omega, by omega, hI5, hb5, by omega, HU⟩, rfl⟩
      · have hu := HU.out; rw [unqF_end s f p acc hp] at hu
        cases hu
        have hE0 : ¬ 0 < E.size := by omega
        have hnx : ∀ ty, (Instr.next (.pointer (some ⟨KI, 0, none⟩)) true ty).run Tryz.prog wr = _ := fun ty => Lib.run_next_end_at wr KI E 0 ty hit hE0; clear HU; go_wp2; refine wp_label ?_; go_wp2; rw [Exit.two_ret]; refine bodyPost_ret (v := .tuple #[.string ⟨#[]⟩, .int .i64 0, .int .i64 4]) (by simp [results, Tryz.results79, go_sem]) rfl ⟨rfl, hbw⟩
  · intro J B HL HB
    by_cases h0 : s.size = 0
    · have hR := hF.out; rw [if_pos h0] at hR
      cases hR
      have hte : s.toList.isEmpty = true := by rw [empty_dec]; simp [h0]
      clear hF HL; go_wp2
      go_step3
      show B _ _; refine HB.out _ _ ?_; go_wp2; rw [Exit.two_ret]; refine bodyPost_ret (v := .tuple #[.string ⟨#[]⟩, .int .i64 0, .int .i64 4]) (by simp [results, Tryz.results79, go_sem]) rfl ⟨rfl, Below.new _ _⟩
    · have hR := hF.out; rw [if_neg h0] at hR; have hte : s.toList.isEmpty = false := by rw [empty_dec]; simp [h0]
      have hpos : 0 < s.size := by omega
      have hg0 := byt_get hpos
      by_cases c0 : byt s 0 = 34
      · rw [if_neg (by omega)] at hR; rw [c0] at hg0; have HU := Lib.hid hR; clear hF hR; go_wp2
        go_step3
        go_step; go_step; exact HL.out (s.size - 1) _ _ ⟨1, s.size, [], _, _, _, _, _, _, _, _, _, _, _, _, _, _, _, _, _, _, _, _, _, _, _, _, _, _, _, _, _, _, _, _, _, _, _, _, _, _, _, _, _, _, _, _, _, _, _, _, _, _, _, _, _, _, _, _, _, _, _, _, _, _, _, _, _, _, _, ⟨rfl, by omega, by omega, by omega, Lib.IsBuilderF.of (Lib.fresh_isBuilder 91 5 w), Below.new _ _, by simp, HU⟩, rfl⟩
      · rw [if_pos (by omega)] at hR
        cases hR
        have hb0 := byt_lt s 0; have HB0 : Hid (¬ byt s 0 = 34) := Lib.hid c0; generalize byt s 0 = c at *; have n0 : ((c : Int) != 34) = true := bne_iff_ne.2 (by omega); clear hF HL c0; go_wp2
        go_step3
        show B _ _; refine HB.out _ _ ?_; go_wp2; rw [Exit.two_ret]; refine bodyPost_ret (v := .tuple #[.string ⟨#[]⟩, .int .i64 0, .int .i64 3]) (by simp [results, Tryz.results79, go_sem]) rfl ⟨rfl, Below.new _ _⟩
end Go.Proofs.YtkfgbjjelcigcaaGreatDoor

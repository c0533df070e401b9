/-
  A scope with jumps to two labels: back to one, forward to another. text.Unquote. value.number of what Digits told, value.Parse of what Print told. graticuleref09.plain, Digits.
-/
import Derived.Test.YtinogphhbbaobaaDoorPk1
import Derived.Test.YtinogphhbbaobaaDoorPk12
import Derived.Test.YtinogphhbbaobaaDoorPk6
import Derived.Test.YtinogphhbbaobaaDoorPk10
import Derived.Test.YtinogphhbbaobaaDoorPk13
import Derived.Test.YtinogphhbbaobaaDoorPk9
import Derived.Test.YtinogphhbbaobaaDoorProg
import Derived.WalkMore
/- A scope with jumps to two labels: back to one, forward to another. -/
set_option linter.unusedVariables false
set_option linter.unusedSimpArgs false
namespace Go
open Go.RowKit
def Exit.jumps (J : Nat → Act → World → Prop) (Q : Exit → Act → World → Prop) : Exit → Act → World → Prop
  | .goto l, a, w => J l a w
  | e, a, w => Q e a w
section
variable {P : Program} {a : Act} {w : World} {Q : Exit → Act → World → Prop}
theorem wp_scope_many {c : Code} (rest : Nat → Code) (J : Nat → Act → World → Prop) (μ : Nat → Act → World → Nat) (hf : ∀ l a w, J l a w → findLabel c l = some (rest l))
    (first : c.wp P (Exit.jumps J Q) a w)
    (pass : ∀ l a w, J l a w → (rest l).wp P (Exit.jumps (fun l' a' w' => J l' a' w' ∧ μ l' a' w' < μ l a w) Q) a w) : (Code.scope c).wp P Q a w := by
  intro b k cs; have key : ∀ n l a w, μ l a w = n → J l a w → ∃ e a' w', Q e a' w' ∧ Arrives P (lone (b.at a (.code (rest l) :: .inScope c :: k)) cs w) b k cs e a' w' := by
    intro n
    induction n using Nat.strongRecOn with
    | _ n ih =>
      intro l a w hn hJ; obtain ⟨e, a₁, w₁, hq, harr⟩ := pass l a w hJ b (.inScope c :: k) cs
      cases e with
      | normal => exact ⟨.normal, a₁, w₁, hq, Steps.trans harr (.one step_inScope)⟩
      | exit id => exact ⟨.exit id, a₁, w₁, hq, fun k' hk => harr k' (by simp [exitTo, hk])⟩
      | goto l' =>
        obtain ⟨hJ', hlt⟩ := hq; obtain ⟨e₂, a₂, w₂, hq₂, harr₂⟩ := ih _ (by omega) l' a₁ w₁ rfl hJ'; have hg : gotoIn l' (.inScope c :: k) = some (.code (rest l') :: .inScope c :: k) := by simp [gotoIn, hf _ _ _ hJ']
        exact ⟨e₂, a₂, w₂, hq₂, .of_steps (harr _ hg) harr₂⟩
      | ret => exact ⟨_, a₁, w₁, hq, harr⟩
      | panic ch => exact ⟨_, a₁, w₁, hq, harr⟩
      | outgrown => exact ⟨_, a₁, w₁, hq, harr⟩
  obtain ⟨e, a₁, w₁, hq, harr⟩ := first b (.inScope c :: k) cs
  cases e with
  | normal => exact ⟨.normal, a₁, w₁, hq, .head step_scope (Steps.trans harr (.one step_inScope))⟩
  | exit id => exact ⟨.exit id, a₁, w₁, hq, fun k' hk => .head step_scope (harr k' (by simp [exitTo, hk]))⟩
  | goto l' =>
    have hJ' : J l' a₁ w₁ := hq; have hg : gotoIn l' (.inScope c :: k) = some (.code (rest l') :: .inScope c :: k) := by simp [gotoIn, hf _ _ _ hJ']
    obtain ⟨e₂, a₂, w₂, hq₂, harr₂⟩ := key _ l' a₁ w₁ rfl hJ'; exact ⟨e₂, a₂, w₂, hq₂, .of_steps (.head step_scope (harr _ hg)) harr₂⟩
  | ret => exact ⟨_, a₁, w₁, hq, .of_steps (.one step_scope) harr⟩
  | panic ch => exact ⟨_, a₁, w₁, hq, .of_steps (.one step_scope) harr⟩
  | outgrown => exact ⟨_, a₁, w₁, hq, .of_steps (.one step_scope) harr⟩
end
def Exit.two (l b : Nat) (J B : Act → World → Prop) (Q : Exit → Act → World → Prop) : Exit → Act → World → Prop
  | .goto l', a, w => if l' = l then J a w else if l' = b then B a w else False
  | e, a, w => Q e a w
section
variable {l b : Nat} {J B : Act → World → Prop} {Q : Exit → Act → World → Prop} {a : Act} {w : World}
@[go_sem] theorem Exit.two_normal : Exit.two l b J B Q .normal a w = Q .normal a w := rfl
@[go_sem] theorem Exit.two_exit (id : Nat) : Exit.two l b J B Q (.exit id) a w = Q (.exit id) a w := rfl
@[go_sem] theorem Exit.two_ret : Exit.two l b J B Q .ret a w = Q .ret a w := rfl
@[go_sem] theorem Exit.two_panic (ch : List PanicEntry) : Exit.two l b J B Q (.panic ch) a w = Q (.panic ch) a w := rfl
end
theorem wp_goto_two {P : Program} {a : Act} {w : World} {Q : Exit → Act → World → Prop} {c rest restb : Code} (l b : Nat) (hlb : l ≠ b) (I : Nat → Act → World → Prop) (hf : findLabel c l = some (.seq .skip rest)) (hb : findLabel c b = some restb)
    (pass : ∀ n a w, I n a w → ∀ J B : Act → World → Prop, (∀ k a' w', k < n → I k a' w' → J a' w') → Hid (∀ a' w', restb.wp P (Exit.two l b (fun _ _ => False) (fun _ _ => False) Q) a' w' → B a' w') → rest.wp P (Exit.two l b J B Q) a w)
    (first : ∀ J B : Act → World → Prop, Hid (∀ n a w, I n a w → rest.wp P (Exit.two l b J B Q) a w) → Hid (∀ a' w', restb.wp P (Exit.two l b (fun _ _ => False) (fun _ _ => False) Q) a' w' → B a' w') → c.wp P (Exit.two l b J B Q) a w) : (Code.scope c).wp P Q a w := by
  have hlb' : ¬ b = l := fun h => hlb h.symm; refine wp_scope_many (fun m => if m = l then .seq .skip rest else restb) (fun m a w => (m = l ∧ ∃ n, I n a w) ∨ (m = b ∧ restb.wp P (Exit.two l b (fun _ _ => False) (fun _ _ => False) Q) a w)) (fun m a w => if m = l then 1 + leastOf (fun n => I n a w) else 0) ?_ ?_ ?_
  · rintro m a w (⟨rfl, _⟩ | ⟨rfl, _⟩)
    · simpa using hf
    · simpa [hlb'] using hb
  · refine wp_mono (first (fun a w => ∃ n, I n a w) (fun a w => restb.wp P (Exit.two l b (fun _ _ => False) (fun _ _ => False) Q) a w) (Lib.hid fun n a w h => pass n a w h _ _ (fun k a' w' _ h => ⟨k, h⟩) (Lib.hid fun _ _ h => h)) (Lib.hid fun _ _ h => h)) ?_; intro e a' w' hq
    cases e with
    | goto m =>
      by_cases h1 : m = l
      · subst h1; have : ∃ n, I n a' w' := by simpa [Exit.two] using hq
        exact Or.inl ⟨rfl, this⟩
      · by_cases h2 : m = b
        · subst h2; refine Or.inr ⟨rfl, ?_⟩; have h3 : (if m = l then _ else if m = m then _ else False) := hq
          rwa [if_neg h1, if_pos rfl] at h3
        · have h3 : (if m = l then _ else if m = b then _ else False) := hq; rw [if_neg h1, if_neg h2] at h3; exact h3.elim
    | _ => exact hq
  · rintro m a w (⟨rfl, hI⟩ | ⟨rfl, hB⟩)
    · simp only [if_pos]; refine wp_seq (wp_skip ?_); refine wp_mono (pass _ a w (leastOf_spec hI).1 (fun a' w' => ∃ k, k < leastOf (fun n => I n a w) ∧ I k a' w') (fun a w => restb.wp P (Exit.two m b (fun _ _ => False) (fun _ _ => False) Q) a w) (fun k a' w' hk h => ⟨k, hk, h⟩) (Lib.hid fun _ _ h => h)) ?_; intro e a' w' hq
      cases e with
      | goto x =>
        by_cases h1 : x = m
        · subst h1; have h3 : ∃ k, k < leastOf (fun n => I n a w) ∧ I k a' w' := by simpa [Exit.two] using hq
          obtain ⟨k, hk, hIk⟩ := h3; refine ⟨Or.inl ⟨rfl, k, hIk⟩, ?_⟩; have := (leastOf_spec (p := fun n => I n a' w') ⟨k, hIk⟩).2 k hIk; simp only [if_pos]; omega
        · by_cases h2 : x = b
          · subst h2; have h3 : (if x = m then _ else if x = x then _ else False) := hq; rw [if_neg h1, if_pos rfl] at h3; refine ⟨Or.inr ⟨rfl, h3⟩, ?_⟩; simp only [if_neg hlb', if_pos]; omega
          · have h3 : (if x = m then _ else if x = b then _ else False) := hq; rw [if_neg h1, if_neg h2] at h3; exact h3.elim
      | _ => exact hq
    · simp only [if_neg hlb']; refine wp_mono hB ?_; intro e a' w' hq
      cases e with
      | goto x =>
        have h3 : (if x = l then False else if x = m then False else False) := hq
        split at h3
        · exact h3.elim
        · split at h3 <;> exact h3.elim
      | _ => exact hq
end Go
/- text.Unquote. -/
set_option linter.unusedVariables false
set_option linter.unusedSimpArgs false
set_option maxRecDepth 100000
namespace Go.Proofs.YtinogphhbbaobaaDoor
open Go.RowKit

set_option maxHeartbeats 6400000 in
theorem unq_any (s : ByteArray) (hs : s.size ≤ 100000) (w : World) :
    Calls Tryd.prog 35 #[.string s] w fun e w' => e = .returned (.tuple #[.string ⟨(unquoteF s).1.toArray⟩, .int .i64 (unquoteF s).2.1, .int .i64 (unquoteF s).2.2]) ∧ Below w.heap.size w w' := by
  have hF := Lib.hid (unquoteF.eq_1 s); obtain ⟨R, hR⟩ : ∃ R, unquoteF s = R := ⟨_, rfl⟩; rw [hR] at hF ⊢; clear hR; obtain ⟨R1, R2, R3⟩ := R; dsimp only
  go_enter Tryd.func35, Tryd.ntmps35
  go_wp2; refine wp_goto_two 1 0 (by decide) (fun n a' w' => ∃ (p f : Nat) (acc : List UInt8) (u2 u3 u4 u6 u8 u9 u10 u11 u12 u13 u14 u15 u16 u17 u18 u19 u20 u21 u22 u23 u24 u25 u26 u27 u28 u29 u30 u31 u32 u33 u34 u35 u36 u37 u38 u39 u40 u41 u42 u43 u44 u45 u46 u47 u48 u49 u50 u51 u52 u53 u54 u55 u56 u57 u58 u59 u60 u61 u62 u63 u64 u65 u66 u67 u68 u69 u70 : Value),
    (n = s.size - p ∧ 1 ≤ p ∧ p ≤ s.size ∧ s.size ≤ p + f ∧ Lib.IsBuilderF 93 5 w.heap.size w.heap.size (Lib.byteCells acc) w' ∧ Below w.heap.size w w' ∧ acc.length ≤ p ∧ Hid ((R1, R2, R3) = unqF s f p acc)) ∧
    a' = { tmps := List.toArray ((.string s) :: undef :: u2 :: u3 :: u4 :: (.pointer (some ⟨w.heap.size, 0, none⟩)) :: u6 :: (.int .i64 (p : Int)) :: u8 :: u9 :: u10 :: u11 :: u12 :: u13 :: u14 :: u15 :: u16 :: u17 :: u18 :: u19 :: u20 :: u21 :: u22 :: u23 :: u24 :: u25 :: u26 :: u27 :: u28 :: u29 :: u30 :: u31 :: u32 :: u33 :: u34 :: u35 :: u36 :: u37 :: u38 :: u39 :: u40 :: u41 :: u42 :: u43 :: u44 :: u45 :: u46 :: u47 :: u48 :: u49 :: u50 :: u51 :: u52 :: u53 :: u54 :: u55 :: u56 :: u57 :: u58 :: u59 :: u60 :: u61 :: u62 :: u63 :: u64 :: u65 :: u66 :: u67 :: u68 :: u69 :: u70 :: []), defers := [] }) rfl rfl ?_ ?_
  · rintro n a' w' ⟨p, f, acc, u2, u3, u4, u6, u8, u9, u10, u11, u12, u13, u14, u15, u16, u17, u18, u19, u20, u21, u22, u23, u24, u25, u26, u27, u28, u29, u30, u31, u32, u33, u34, u35, u36, u37, u38, u39, u40, u41, u42, u43, u44, u45, u46, u47, u48, u49, u50, u51, u52, u53, u54, u55, u56, u57, u58, u59, u60, u61, u62, u63, u64, u65, u66, u67, u68, u69, u70, ⟨rfl, hp1, hps, hpf, hI, hb, hal, HU⟩, rfl⟩ J B hJ HB; have HJ := Lib.hid hJ; clear hJ hF; have hpi : (p : Int) ≤ (s.size : Int) := by omega
    obtain ⟨E, hE⟩ : ∃ E, s.extract p s.size = E := ⟨_, rfl⟩; have hEs : E.size = s.size - p := by rw [← hE]; exact ext_size s p
    have hEd : Utf8.decode E 0 = Utf8.decode s p := by rw [← hE, ext_decode]; rfl
    have hEb : badAt E 0 = badAt s p := by rw [← hE, ext_bad]; rfl
    obtain ⟨KI, hKI⟩ : ∃ k, w'.heap.size = k := ⟨_, rfl⟩; have hI2 := hI.alloc (.stringIter E 0); have hit2 : (w'.alloc (.stringIter E 0)).heap[KI]? = some (.stringIter E 0) := by rw [← hKI]; exact heap_alloc_new w' _
    have hb2 := hb.alloc (hb.size) (.stringIter E 0); have hK : w.heap.size ≤ KI := by rw [← hKI]; exact hb.size
    clear hI hb; go_wp2
    go_loopw [6, 7] (fun e at' wr => e = .int .i64 4 ∧ at' = .int .i64 (p : Int) ∧ Lib.IsBuilderF 93 5 w.heap.size w.heap.size (Lib.byteCells acc) wr ∧ wr.heap[KI]? = some (.stringIter E 0) ∧ Below w.heap.size w wr) (fun _ _ _ => 0)
    case atStart => exact ⟨rfl, rfl, hI2, hit2, hb2⟩
    case round =>
      clear hI2 hit2 hb2; obtain ⟨rfl, rfl, hI, hit, hbw⟩ := hrel; have hsz : KI < wr.heap.size := (Array.getElem?_eq_some_iff.1 hit).1
      by_cases hp : p < s.size
      · obtain ⟨f, rfl⟩ : ∃ g, f = g + 1 := ⟨f - 1, by omega⟩; have hE0 : 0 < E.size := by omega
        have hnx : ∀ ty, (Instr.next (.pointer (some ⟨KI, 0, none⟩)) true ty).run Tryd.prog wr = _ := fun ty => Lib.run_next_any_at wr KI E 0 ty hit hE0; have hbad := bad_any E 0 hE0 (by unfold maxLen; omega); rw [hEd] at hnx hbad; rw [hEb] at hbad; have hwd := decode_wid hp; have hI2 := hI.iterAt hit (0 + (Utf8.decode s p).2); have hit2 := Lib.iterAt_heap wr KI E 0 (0 + (Utf8.decode s p).2) hit; have hbw2 := Lib.below_iterAt hbw (k := KI) hK E (0 + (Utf8.decode s p).2); have hsz2 := Lib.iterAt_size wr KI E (0 + (Utf8.decode s p).2); have hED := Lib.hid (fun hb => enc_dec (s := s) (p := p) hp hb); have F1 := Lib.hid (fun h1 => unqF_bad (s := s) (f := f) (p := p) (acc := acc) hp h1); have F2 := Lib.hid (fun h1 h2 => unqF_shut (s := s) (f := f) (p := p) (acc := acc) hp h1 h2); have F3 := Lib.hid (fun h1 h2 => unqF_esc (s := s) (f := f) (p := p) (acc := acc) hp h1 h2); have F4 := Lib.hid (fun h1 h2 h3 h4 => unqF_low (s := s) (f := f) (p := p) (acc := acc) hp h1 h2 h3 h4); have F5 := Lib.hid (fun h1 h2 h3 h4 => unqF_on (s := s) (f := f) (p := p) (acc := acc) hp h1 h2 h3 h4); obtain ⟨BD, hBD⟩ : ∃ BD, badAt s p = BD := ⟨_, rfl⟩; rw [hBD] at hbad hED F1 F2 F3 F4 F5; clear hBD; obtain ⟨W, hW⟩ : ∃ W, (Utf8.decode s p).2 = W := ⟨_, rfl⟩; rw [hW] at hnx hwd hI2 hit2 hbw2 hsz2 hED F5; obtain ⟨R, hR⟩ : ∃ R, (Utf8.decode s p).1 = R := ⟨_, rfl⟩; rw [hR] at hnx hwd hbad hED F2 F3 F4 F5; have HBAD := Lib.hid hbad; clear hbad hR hW hEd hEb hI hbw; have hRb : R ≤ 1114111 := hwd.2.2.2; have hw0 : wr.iterAt KI E (0 + W) = wr.iterAt KI E (0 + W) := rfl
        obtain ⟨w2, hw2⟩ : ∃ w2, wr.iterAt KI E (0 + W) = w2 := ⟨_, rfl⟩; rw [hw2] at hnx hI2 hit2 hbw2 hsz2; clear hw2 hw0
        go_wp2_with fail
        refine (HBAD.out _).mono ?_; rintro e w3 ⟨rfl, rfl⟩
        cases BD with
        | true =>
          have hu := HU.out; rw [F1.out rfl] at hu
          cases hu
          clear F1 F2 F3 F4 F5 hED HU; go_wp2; refine wp_label ?_; go_wp2; rw [Exit.two_ret]; refine bodyPost_ret (v := .tuple #[.string ⟨#[]⟩, .int .i64 0, .int .i64 13]) (by simp [results, Tryd.results35, go_sem]) rfl ⟨rfl, hbw2⟩
        | false =>
          have hED1 := hED.out rfl; have F2 := Lib.hid (F2.out rfl); have F3 := Lib.hid (F3.out rfl); have F4 := Lib.hid (F4.out rfl); have F5 := Lib.hid (F5.out rfl); obtain ⟨hEN, hRL⟩ := hED1; have HEN := Lib.hid hEN; have HRL := Lib.hid hRL; clear F1 hED hEN hRL
          by_cases c1 : R = 34
          · subst c1; have hu := HU.out; rw [F2.out rfl] at hu
            cases hu
            clear F2 F3 F4 F5 HU HEN HRL HBAD hnx
            go_wp2_with (go_at_call 50; refine (Tryd.Builder_String_any_k w.heap.size w.heap.size R1 _ hI2 (by omega)).mono ?_)
            rintro e w6 ⟨rfl, _, b6, _⟩; go_wp2; rw [Exit.two_ret]; refine bodyPost_ret (v := .tuple #[.string ⟨R1.toArray⟩, .int .i64 ((p : Int) + 1), .int .i64 0]) (by simp [results, Tryd.results35, go_sem]) rfl ⟨by simp, hbw2.trans b6⟩
          · have n1 : ((R : Int) == 34) = false := by rw [beq_eq_false_iff_ne]; omega
            by_cases c2 : R = 92
            · subst c2; clear F2 F4 F5 HEN HRL HBAD hnx c1; have hex := esc_any (s.extract (p + 1) s.size) (by rw [ext_size]; unfold maxLen; omega); have hu := HU.out; rw [F3.out rfl] at hu; have hok := esc_ok (s.extract (p + 1) s.size); rw [ext_size] at hok; generalize escF (s.extract (p + 1) s.size) = X at *; obtain ⟨X1, X2, X3⟩ := X; dsimp only at hu hex hok; have HEX := Lib.hid hex; have HU := Lib.hid hu; have HOK := Lib.hid hok; clear F3 hex hu hok; have hp1i : (p : Int) + 1 ≤ (s.size : Int) := by omega
              go_wp2_with fail
              refine (HEX.out _).mono ?_; rintro e w4 ⟨rfl, n4, rfl⟩; have hI4 : Lib.IsBuilderF 93 5 w.heap.size w.heap.size (Lib.byteCells acc) (w3.drewN n4) := hI2; have hb4 : Below w.heap.size w (w3.drewN n4) := below_drewN hbw2 n4; have hs4 := hb4.size; generalize w3.drewN n4 = w4 at *
              by_cases c3 : X3 = 0
              · subst c3; obtain ⟨k1, k2, k3, k4⟩ := HOK.out rfl; have hu := HU.out; rw [if_pos rfl] at hu; have HU := Lib.hid hu; have HEL := Lib.hid (enc_low X1 k1); clear hu HOK HEX
                go_wp2_with (go_at_call 55; refine (Tryd.Builder_WriteRune_k w.heap.size w.heap.size _ (X1 : Int) (by omega) (by omega) _ hI4 (by rw [Lib.byteCells_length]; omega) hs4).mono ?_)
                rintro e w5 ⟨rfl, h5, b5, _⟩; have hI5 : Lib.IsBuilderF 93 5 w.heap.size w.heap.size (Lib.byteCells (acc ++ [X1.toUInt8])) w5 := by
                  rw [Lib.byteCells_append, ← HEL.out, Lib.byteCells_encodeRune]; exact Or.inr h5
                have hb5 := hb4.trans b5; clear HEL h5 b5; have hal5 : (acc ++ [X1.toUInt8]).length = acc.length + 1 := by simp
                have hat5 : (p : Int) + ((X2 : Int) + 1) = ((p + 1 + X2 : Nat) : Int) := by omega
                go_wp2
                go_step3
                show J _ _
                try rw [hat5]
                refine HJ.out (s.size - (p + 1 + X2)) _ _ (by omega) ⟨p + 1 + X2, f, acc ++ [X1.toUInt8], _, _, _, _, _, _, _, _, _, _, _, _, _, _, _, _, _, _, _, _, _, _, _, _, _, _, _, _, _, _, _, _, _, _, _, _, _, _, _, _, _, _, _, _, _, _, _, _, _, _, _, _, _, _, _, _, _, _, _, _, _, _, _, _, _, _, _, ⟨rfl, by omega, by omega, by omega, hI5, hb5, by omega, HU⟩, rfl⟩
              · have n3 : ((X3 : Int) == 0) = false := by rw [beq_eq_false_iff_ne]; omega
                have hu := HU.out; rw [if_neg c3] at hu
                cases hu
                clear HU HOK HEX; go_wp2; refine wp_label ?_; go_wp2; rw [Exit.two_ret]; refine bodyPost_ret (v := .tuple #[.string ⟨#[]⟩, .int .i64 0, .int .i64 (R3 : Int)]) (by simp [results, Tryd.results35, go_sem]) rfl ⟨rfl, hb4⟩
            · have n2 : ((R : Int) == 92) = false := by rw [beq_eq_false_iff_ne]; omega
              clear F2 F3
              by_cases c3 : R < 32 ∨ R = 127
              · have hu := HU.out; rw [F4.out c1 c2 c3] at hu
                cases hu
                clear HU F4 F5 HEN HRL HBAD
                by_cases c4 : R < 32
                · have l1 : ¬ (32 : Int) ≤ (R : Int) := by omega
                  go_wp2; refine wp_label ?_; go_wp2; rw [Exit.two_ret]; refine bodyPost_ret (v := .tuple #[.string ⟨#[]⟩, .int .i64 0, .int .i64 3]) (by simp [results, Tryd.results35, go_sem]) rfl ⟨rfl, hbw2⟩
                · have c5 : R = 127 := by omega
                  subst c5; go_wp2; refine wp_label ?_; go_wp2; rw [Exit.two_ret]; refine bodyPost_ret (v := .tuple #[.string ⟨#[]⟩, .int .i64 0, .int .i64 3]) (by simp [results, Tryd.results35, go_sem]) rfl ⟨rfl, hbw2⟩
              · have l1 : (32 : Int) ≤ (R : Int) := by omega
                have l2 : ((R : Int) != 127) = true := bne_iff_ne.2 (by omega); have hu := HU.out; rw [F5.out c1 c2 c3] at hu; have HU := Lib.hid hu; have HRL2 := Lib.hid (fun w => Tryd.utf8_RuneLen (R : Int) w); rw [HRL.out] at HRL2; clear hu F4 F5 HBAD
                go_wp2_with (go_at_call 55; refine (Tryd.Builder_WriteRune_k w.heap.size w.heap.size _ (R : Int) (by omega) (by omega) _ hI2 (by rw [Lib.byteCells_length]; omega) hbw2.size).mono ?_)
                rintro e w5 ⟨rfl, h5, b5, _⟩; have hI5 : Lib.IsBuilderF 93 5 w.heap.size w.heap.size (Lib.byteCells (acc ++ bts s p W)) w5 := by
                  rw [Lib.byteCells_append, ← HEN.out, Lib.byteCells_encodeRune]; exact Or.inr h5
                have hb5 := hbw2.trans b5; clear HEN h5 b5
                go_wp2_with fail
                refine (HRL2.out _).mono ?_; rintro e w6 ⟨rfl, rfl⟩; have hal5 : (acc ++ bts s p W).length = acc.length + W := by rw [List.length_append, bts_len s p W (by omega)]
                have hWs : p + W ≤ s.size := hwd.2.1; go_wp2; have hat5 : (p : Int) + (W : Int) = ((p + W : Nat) : Int) := by omega
                go_step3
                show J _ _
                try rw [hat5]
                refine HJ.out (s.size - (p + W)) _ _ (by omega) ⟨p + W, f, acc ++ bts s p W, _, _, _, _, _, _, _, _, _, _, _, _, _, _, _, _, _, _, _, _, _, _, _, _, _, _, _, _, _, _, _, _, _, _, _, _, _, _, _, _, _, _, _, _, _, _, _, _, _, _, _, _, _, _, _, _, _, _, _, _, _, _, _, _, _, _, _, ⟨rfl, by omega, by omega, by omega, hI5, hb5, by omega, HU⟩, rfl⟩
      · have hu := HU.out; rw [unqF_end s f p acc hp] at hu
        cases hu
        have hE0 : ¬ 0 < E.size := by omega
        have hnx : ∀ ty, (Instr.next (.pointer (some ⟨KI, 0, none⟩)) true ty).run Tryd.prog wr = _ := fun ty => Lib.run_next_end_at wr KI E 0 ty hit hE0; clear HU; go_wp2; refine wp_label ?_; go_wp2; rw [Exit.two_ret]; refine bodyPost_ret (v := .tuple #[.string ⟨#[]⟩, .int .i64 0, .int .i64 4]) (by simp [results, Tryd.results35, go_sem]) rfl ⟨rfl, hbw⟩
  · intro J B HL HB
    by_cases h0 : s.size = 0
    · have hR := hF.out; rw [if_pos h0] at hR
      cases hR
      have hte : s.toList.isEmpty = true := by rw [empty_dec]; simp [h0]
      clear hF HL; go_wp2
      go_step3
      show B _ _; refine HB.out _ _ ?_; go_wp2; rw [Exit.two_ret]; refine bodyPost_ret (v := .tuple #[.string ⟨#[]⟩, .int .i64 0, .int .i64 4]) (by simp [results, Tryd.results35, go_sem]) rfl ⟨rfl, Below.new _ _⟩
    · have hR := hF.out; rw [if_neg h0] at hR; have hte : s.toList.isEmpty = false := by rw [empty_dec]; simp [h0]
      have hpos : 0 < s.size := by omega
      have hg0 := byt_get hpos
      by_cases c0 : byt s 0 = 34
      · rw [if_neg (by omega)] at hR; rw [c0] at hg0; have HU := Lib.hid hR; clear hF hR; go_wp2
        go_step3
        go_step; go_step; exact HL.out (s.size - 1) _ _ ⟨1, s.size, [], _, _, _, _, _, _, _, _, _, _, _, _, _, _, _, _, _, _, _, _, _, _, _, _, _, _, _, _, _, _, _, _, _, _, _, _, _, _, _, _, _, _, _, _, _, _, _, _, _, _, _, _, _, _, _, _, _, _, _, _, _, _, _, _, _, _, _, ⟨rfl, by omega, by omega, by omega, Lib.IsBuilderF.of (Lib.fresh_isBuilder 93 5 w), Below.new _ _, by simp, HU⟩, rfl⟩
      · rw [if_pos (by omega)] at hR
        cases hR
        have hb0 := byt_lt s 0; have HB0 : Hid (¬ byt s 0 = 34) := Lib.hid c0; generalize byt s 0 = c at *; have n0 : ((c : Int) != 34) = true := bne_iff_ne.2 (by omega); clear hF HL c0; go_wp2
        go_step3
        show B _ _; refine HB.out _ _ ?_; go_wp2; rw [Exit.two_ret]; refine bodyPost_ret (v := .tuple #[.string ⟨#[]⟩, .int .i64 0, .int .i64 3]) (by simp [results, Tryd.results35, go_sem]) rfl ⟨rfl, Below.new _ _⟩
end Go.Proofs.YtinogphhbbaobaaDoor
/- value.number of what Digits told, value.Parse of what Print told. -/
set_option linter.unusedVariables false
set_option linter.unusedSimpArgs false
set_option maxRecDepth 100000
namespace Go
open Go.RowKit
theorem first_rune (s : ByteArray) (c : Nat) (hc : c < 128) (t : List UInt8) (h : s.data.toList = c.toUInt8 :: t) : Utf8.decode s 0 = (c, 1) ∧ 0 < s.size := by
  have h1 := drop_dec s 0 c (.inl (by omega)) t (by rw [List.drop_zero, enc_one hc, h]; rfl); rw [enc_one hc] at h1; exact ⟨h1.1, h1.2.2⟩
theorem rl_len (s : ByteArray) : ∀ (f p : Nat), (rl s f p).length ≤ f
  | 0, p => by simp [rl]
  | f + 1, p => by
    unfold rl
    split
    · have := rl_len s f (p + (Utf8.decode s p).2); simp only [List.length_cons]; omega
    · simp
theorem forms_len' (l : List (Nat × Nat)) : (formsF l).length ≤ 4 * l.length := by
  induction l with
  | nil => simp [formsF]
  | cons x l ih =>
    have h1 := formF_len x.1; unfold formsF at ih ⊢; rw [List.flatMap_cons, List.length_append, List.length_cons]; omega
theorem quote_len (t : ByteArray) : (quoteF t).length ≤ 2 + 4 * t.size := by
  have h1 := forms_len' (runesF t); have h2 := rl_len t t.size 0; have h3 : (runesF t).length ≤ t.size := h2; unfold quoteF; rw [List.length_append, List.length_append]; simp only [List.length_cons, List.length_nil]; omega
theorem itoa_plain (n : Int) (h : 0 ≤ n) : Lib.itoa n = Lib.decDigits n.natAbs := by
  unfold Lib.itoa; rw [if_neg (by omega)]
  congr 1
  omega
theorem pre_minus (n : Int) (h : 0 ≤ n) : Lib.hasPrefix (Lib.itoa n) [45] = false := by
  rw [itoa_plain n h]; have hb := Dec.dec_bytes n.natAbs; generalize Lib.decDigits n.natAbs = L at *
  cases L with
  | nil => rfl
  | cons c r =>
    have := (hb c List.mem_cons_self).1; have hne : (45 == c) = false := by
      rw [beq_eq_false_iff_ne]; intro e; rw [← e] at this; revert this; decide
    simp [Lib.hasPrefix, List.isPrefixOf, hne]
theorem extract_tail (c : UInt8) (l : List UInt8) : ((⟨#[c]⟩ : ByteArray) ++ ⟨l.toArray⟩).extract 1 (1 + l.length) = ⟨l.toArray⟩ := by
  apply ByteArray.ext; apply Array.ext'; simp
end Go
namespace Go.Proofs.YtinogphhbbaobaaDoor
open Go.RowKit
set_option maxHeartbeats 2000000 in
theorem valnum_any (k n : Int) (h0 : -1152921504606846976 ≤ n) (h1 : n ≤ 1152921504606846976) (w : World) :
    Calls Tryd.prog 36 #[.int .i64 k, .string ⟨(Lib.itoa n).toArray⟩] w fun e w' => e = .returned (.tuple #[.agg #[.int .i64 k, .string ⟨#[]⟩, .int .i64 n], .int .i64 0]) ∧ Below w.heap.size w w' := by
  have HN := Lib.hid (fun W => number_itoa n h0 h1 W); obtain ⟨B, hB⟩ : ∃ B, w.heap.size = B := ⟨_, rfl⟩; have hBb : w.heap.size ≤ B := by omega
  have hbw := Below.new w (.cells #[.int .i64 0, .string ⟨#[]⟩, .int .i64 0] 23); have k0 := Blk.lit w B [.int .i64 0, .string ⟨#[]⟩, .int .i64 0] 23 hB
  go_enter Tryd.func36, Tryd.ntmps36
  go_wp2_with fail
  refine (HN.out _).mono ?_; rintro e w1 ⟨rfl, hb1⟩; have k1 := k0.keep hb1; have hbz := hbw.trans (hb1.mono hbw.size); clear k0 hb1 hbw HN; have sc0 := k1.cell 0 rfl; have sf0 := k1.free 0; have sk0 := k1.set 0 (.int .i64 k); have sc1 := sk0.cell 1 rfl; have sf1 := sk0.free 1; have sk1 := sk0.set 1 (.string ⟨#[]⟩); have sc2 := sk1.cell 2 rfl; have sf2 := sk1.free 2; have kF := sk1.set 2 (.int .i64 n); go_wp2; refine bodyPost_ret (v := .tuple #[.agg #[.int .i64 k, .string ⟨#[]⟩, .int .i64 n], .int .i64 0]) ?_ rfl ⟨rfl, by have hX := ((hbz.set_at (b := B) (o := 0) hBb (.int .i64 k)).set_at (b := B) (o := 1) hBb (.string ⟨#[]⟩)).set_at (b := B) (o := 2) hBb (.int .i64 n); first | exact hX | (rw [hB] at hX; exact hX)⟩; have q0 := kF.cell 0 rfl; have q1 := kF.cell 1 rfl; have q2 := kF.cell 2 rfl; simp [results, Tryd.results36, go_sem, q0, q1, q2]
set_option maxHeartbeats 8000000 in
theorem parse_print (v : VV) (hE : vE v = 0) (w : World) :
    Calls Tryd.prog 18 #[.string (prnF v)] w fun e w' => e = .returned (.tuple #[vVal v, .int .i64 0]) ∧ Below w.heap.size w w' := by
  have hz := vE_zero v hE; have hri := vE_right v hE; obtain ⟨k, t, n⟩ := v; dsimp only at hz hri; dsimp only [vVal]; have HP := Lib.hid (prnF.eq_1 (k, t, n)); dsimp only at HP; obtain ⟨S, hS⟩ : ∃ S, prnF (k, t, n) = S := ⟨_, rfl⟩; rw [hS] at HP ⊢; obtain ⟨B, hB⟩ : ∃ B, w.heap.size = B := ⟨_, rfl⟩; have hBb : w.heap.size ≤ B := by omega
  have hb0 := Below.new w (.cells #[.int .i64 0, .string ⟨#[]⟩, .int .i64 0] 23); have k0 := Blk.lit w B [.int .i64 0, .string ⟨#[]⟩, .int .i64 0] 23 hB; have hwA : (w.alloc (.cells #[.int .i64 0, .string ⟨#[]⟩, .int .i64 0] 23)).heap.size = B + 1 := by simp [hB]
  clear hE hS
  rcases hz with ⟨rfl, rfl, h3⟩ | ⟨rfl, rfl, h3, h4⟩ | ⟨rfl, rfl, h3, h4⟩ | ⟨rfl, rfl, h3, h4⟩
  · have HR := Lib.hid (hri rfl); have hPS := HP.out; rw [if_pos rfl] at hPS; have hSl : S.data.toList = quoteF t := by rw [hPS]
    have hql : quoteF t = (34 : Nat).toUInt8 :: (((runesF t).map (·.1)).flatMap formF ++ [34]) := by rw [quote_runes]; rfl
    obtain ⟨hd, hsz⟩ := first_rune S 34 (by decide) _ (hSl.trans hql); have huq := unquote_quote t HR.out []; rw [List.append_nil, ← hPS] at huq; have hsl : (quoteF t).length = S.size := by rw [hPS]; simp [ByteArray.size]
    rw [hsl] at huq; have hS6 : S.size ≤ 100000 := by have := quote_len t; omega
    have HU := Lib.hid (fun W => unq_any S hS6 W); rw [huq] at HU; have htt : (⟨t.data.toList.toArray⟩ : ByteArray) = t := rfl; rw [htt] at HU; clear hPS hSl hql huq hsl HP hri HR htt
    go_enter Tryd.func18, Tryd.ntmps18
    go_wp2; generalize w.alloc (.cells #[.int .i64 0, .string ⟨#[]⟩, .int .i64 0] 23) = wA at *
    go_loopw [] (fun wr => wr = wA.iter S 0) (fun _ => 1)
    case atStart => rfl
    case round =>
      subst hrel; have hnx := fun ty => run_next_any (P := Tryd.prog) wA S 0 ty hsz; rw [hd, hwA] at hnx; have k1 := k0.keep (below_iter wA S 1); have hbz := hb0.trans ((below_iter wA S 1).mono hb0.size)
      go_wp2_with fail
      refine (HU.out _).mono ?_; rintro e w2 ⟨rfl, hb2⟩; have k2 := k1.keep hb2; have hb3 := hbz.trans (hb2.mono hbz.size); clear hb2 hnx hd HU hwA; have sc0 := k2.cell 0 rfl; have sf0 := k2.free 0; have sk0 := k2.set 0 (.int .i64 1); have sc1 := sk0.cell 1 rfl; have sf1 := sk0.free 1; have sk1 := sk0.set 1 (.string t); have sc2 := sk1.cell 2 rfl; have sf2 := sk1.free 2; have kF := sk1.set 2 (.int .i64 0); go_wp2; refine bodyPost_ret (v := .tuple #[.agg #[.int .i64 1, .string t, .int .i64 0], .int .i64 0]) ?_ rfl ⟨rfl, by have hX := ((hb3.set_at (b := B) (o := 0) hBb (.int .i64 1)).set_at (b := B) (o := 1) hBb (.string t)).set_at (b := B) (o := 2) hBb (.int .i64 0); first | exact hX | (rw [hB] at hX; exact hX)⟩; have q0 := kF.cell 0 rfl; have q1 := kF.cell 1 rfl; have q2 := kF.cell 2 rfl; simp [results, Tryd.results18, go_sem, q0, q1, q2]
  · have hPS := HP.out; rw [if_neg (by decide), if_pos rfl] at hPS; obtain ⟨hd, hsz⟩ := first_rune S 117 (by decide) (Lib.itoa n) (by rw [hPS]; simp); have hLn := Lib.itoa_length_le n (by omega) (by omega); have HPM := Lib.hid (pre_minus n h3); have HNU := Lib.hid (fun W => valnum_any 2 n (by omega) h4 W); have hsl : S.extract 1 S.size = ⟨(Lib.itoa n).toArray⟩ := by
      have e : S.size = 1 + (Lib.itoa n).length := by rw [hPS]; simp [ByteArray.size, ByteArray.size_append]; omega
      rw [e, hPS]; exact extract_tail _ _
    obtain ⟨DG, hDG⟩ : ∃ D : ByteArray, (⟨(Lib.itoa n).toArray⟩ : ByteArray) = D := ⟨_, rfl⟩; have HPX := Lib.hid (fun W => Tryd.strings_HasPrefix DG ⟨#[45]⟩ W); have hpx : Lib.hasPrefix DG.data.toList (⟨#[45]⟩ : ByteArray).data.toList = false := by rw [← hDG]; exact HPM.out
    rw [hpx] at HPX; rw [hDG] at HNU hsl; clear hPS HP hri HPM hDG hpx hLn
    go_enter Tryd.func18, Tryd.ntmps18
    go_wp2; generalize w.alloc (.cells #[.int .i64 0, .string ⟨#[]⟩, .int .i64 0] 23) = wA at *
    go_loopw [] (fun wr => wr = wA.iter S 0) (fun _ => 1)
    case atStart => rfl
    case round =>
      subst hrel; have hnx := fun ty => run_next_any (P := Tryd.prog) wA S 0 ty hsz; rw [hd, hwA] at hnx; have k1 := k0.keep (below_iter wA S 1); have hbz := hb0.trans ((below_iter wA S 1).mono hb0.size)
      go_wp2_with fail
      refine (HPX.out _).mono ?_; rintro e w2 ⟨rfl, rfl⟩
      go_wp2_with fail
      refine (HNU.out _).mono ?_; rintro e w2 ⟨rfl, hb2⟩; have k2 := k1.keep hb2; have hb3 := hbz.trans (hb2.mono hbz.size); clear hb2 hnx hd HNU hwA; have sc0 := k2.cell 0 rfl; have sf0 := k2.free 0; have sk0 := k2.set 0 (.int .i64 2); have sc1 := sk0.cell 1 rfl; have sf1 := sk0.free 1; have sk1 := sk0.set 1 (.string ⟨#[]⟩); have sc2 := sk1.cell 2 rfl; have sf2 := sk1.free 2; have kF := sk1.set 2 (.int .i64 n); go_wp2; refine bodyPost_ret (v := .tuple #[.agg #[.int .i64 2, .string ⟨#[]⟩, .int .i64 n], .int .i64 0]) ?_ rfl ⟨rfl, by have hX := ((hb3.set_at (b := B) (o := 0) hBb (.int .i64 2)).set_at (b := B) (o := 1) hBb (.string ⟨#[]⟩)).set_at (b := B) (o := 2) hBb (.int .i64 n); first | exact hX | (rw [hB] at hX; exact hX)⟩; have q0 := kF.cell 0 rfl; have q1 := kF.cell 1 rfl; have q2 := kF.cell 2 rfl; simp [results, Tryd.results18, go_sem, q0, q1, q2]
  · by_cases hn : 0 ≤ n
    · have hPS := HP.out; rw [if_neg (by decide), if_neg (by decide), if_pos rfl, if_pos hn] at hPS; obtain ⟨hd, hsz⟩ := first_rune S 43 (by decide) (Lib.itoa n) (by rw [hPS]; simp); have hLn := Lib.itoa_length_le n (by omega) (by omega); have HPM := Lib.hid (pre_minus n hn); have HNU := Lib.hid (fun W => valnum_any 3 n h3 h4 W); have hsl : S.extract 1 S.size = ⟨(Lib.itoa n).toArray⟩ := by
        have e : S.size = 1 + (Lib.itoa n).length := by rw [hPS]; simp [ByteArray.size, ByteArray.size_append]; omega
        rw [e, hPS]; exact extract_tail _ _
      obtain ⟨DG, hDG⟩ : ∃ D : ByteArray, (⟨(Lib.itoa n).toArray⟩ : ByteArray) = D := ⟨_, rfl⟩; have HPX := Lib.hid (fun W => Tryd.strings_HasPrefix DG ⟨#[45]⟩ W); have hpx : Lib.hasPrefix DG.data.toList (⟨#[45]⟩ : ByteArray).data.toList = false := by rw [← hDG]; exact HPM.out
      rw [hpx] at HPX; rw [hDG] at HNU hsl; clear hPS HP hri HPM hDG hpx hLn
      go_enter Tryd.func18, Tryd.ntmps18
      go_wp2; generalize w.alloc (.cells #[.int .i64 0, .string ⟨#[]⟩, .int .i64 0] 23) = wA at *
      go_loopw [] (fun wr => wr = wA.iter S 0) (fun _ => 1)
      case atStart => rfl
      case round =>
        subst hrel; have hnx := fun ty => run_next_any (P := Tryd.prog) wA S 0 ty hsz; rw [hd, hwA] at hnx; have k1 := k0.keep (below_iter wA S 1); have hbz := hb0.trans ((below_iter wA S 1).mono hb0.size)
        go_wp2_with fail
        refine (HPX.out _).mono ?_; rintro e w2 ⟨rfl, rfl⟩
        go_wp2_with fail
        refine (HNU.out _).mono ?_; rintro e w2 ⟨rfl, hb2⟩; have k2 := k1.keep hb2; have hb3 := hbz.trans (hb2.mono hbz.size); clear hb2 hnx hd HNU hwA; have sc0 := k2.cell 0 rfl; have sf0 := k2.free 0; have sk0 := k2.set 0 (.int .i64 3); have sc1 := sk0.cell 1 rfl; have sf1 := sk0.free 1; have sk1 := sk0.set 1 (.string ⟨#[]⟩); have sc2 := sk1.cell 2 rfl; have sf2 := sk1.free 2; have kF := sk1.set 2 (.int .i64 n); go_wp2; refine bodyPost_ret (v := .tuple #[.agg #[.int .i64 3, .string ⟨#[]⟩, .int .i64 n], .int .i64 0]) ?_ rfl ⟨rfl, by have hX := ((hb3.set_at (b := B) (o := 0) hBb (.int .i64 3)).set_at (b := B) (o := 1) hBb (.string ⟨#[]⟩)).set_at (b := B) (o := 2) hBb (.int .i64 n); first | exact hX | (rw [hB] at hX; exact hX)⟩; have q0 := kF.cell 0 rfl; have q1 := kF.cell 1 rfl; have q2 := kF.cell 2 rfl; simp [results, Tryd.results18, go_sem, q0, q1, q2]
    · have hPS := HP.out; rw [if_neg (by decide), if_neg (by decide), if_pos rfl, if_neg hn] at hPS; have hit : Lib.itoa n = (45 : Nat).toUInt8 :: Lib.decDigits n.natAbs := by
        unfold Lib.itoa; rw [if_pos (by omega)]
        rfl
      obtain ⟨hd, hsz⟩ := first_rune S 45 (by decide) (Lib.decDigits n.natAbs) (by rw [hPS]; exact hit); have HNU := Lib.hid (fun W => valnum_any 3 n h3 h4 W); rw [← hPS] at HNU; clear hPS HP hri hit
      go_enter Tryd.func18, Tryd.ntmps18
      go_wp2; generalize w.alloc (.cells #[.int .i64 0, .string ⟨#[]⟩, .int .i64 0] 23) = wA at *
      go_loopw [] (fun wr => wr = wA.iter S 0) (fun _ => 1)
      case atStart => rfl
      case round =>
        subst hrel; have hnx := fun ty => run_next_any (P := Tryd.prog) wA S 0 ty hsz; rw [hd, hwA] at hnx; have k1 := k0.keep (below_iter wA S 1); have hbz := hb0.trans ((below_iter wA S 1).mono hb0.size)
        go_wp2_with fail
        refine (HNU.out _).mono ?_; rintro e w2 ⟨rfl, hb2⟩; have k2 := k1.keep hb2; have hb3 := hbz.trans (hb2.mono hbz.size); clear hb2 hnx hd HNU hwA; have sc0 := k2.cell 0 rfl; have sf0 := k2.free 0; have sk0 := k2.set 0 (.int .i64 3); have sc1 := sk0.cell 1 rfl; have sf1 := sk0.free 1; have sk1 := sk0.set 1 (.string ⟨#[]⟩); have sc2 := sk1.cell 2 rfl; have sf2 := sk1.free 2; have kF := sk1.set 2 (.int .i64 n); go_wp2; refine bodyPost_ret (v := .tuple #[.agg #[.int .i64 3, .string ⟨#[]⟩, .int .i64 n], .int .i64 0]) ?_ rfl ⟨rfl, by have hX := ((hb3.set_at (b := B) (o := 0) hBb (.int .i64 3)).set_at (b := B) (o := 1) hBb (.string ⟨#[]⟩)).set_at (b := B) (o := 2) hBb (.int .i64 n); first | exact hX | (rw [hB] at hX; exact hX)⟩; have q0 := kF.cell 0 rfl; have q1 := kF.cell 1 rfl; have q2 := kF.cell 2 rfl; simp [results, Tryd.results18, go_sem, q0, q1, q2]
  · have hPS := HP.out; rw [if_neg (by decide), if_neg (by decide), if_neg (by decide)] at hPS
    rcases (by omega : n = 0 ∨ n = 1) with rfl | rfl
    · rw [if_neg (by decide)] at hPS; obtain ⟨hd, hsz⟩ := first_rune S 110 (by decide) [111] (by rw [hPS]; rfl); subst hPS; clear HP hri
      go_enter Tryd.func18, Tryd.ntmps18
      go_wp2; generalize w.alloc (.cells #[.int .i64 0, .string ⟨#[]⟩, .int .i64 0] 23) = wA at *
      go_loopw [] (fun wr => wr = wA.iter ⟨#[110, 111]⟩ 0) (fun _ => 1)
      case atStart => rfl
      case round =>
        subst hrel; have hnx := fun ty => run_next_any (P := Tryd.prog) wA ⟨#[110, 111]⟩ 0 ty hsz; rw [hd, hwA] at hnx; have k1 := k0.keep (below_iter wA ⟨#[110, 111]⟩ 1); have hbz := hb0.trans ((below_iter wA ⟨#[110, 111]⟩ 1).mono hb0.size); have sc0 := k1.cell 0 rfl; have sf0 := k1.free 0; have sk0 := k1.set 0 (.int .i64 4); have sc1 := sk0.cell 1 rfl; have sf1 := sk0.free 1; have sk1 := sk0.set 1 (.string ⟨#[]⟩); have sc2 := sk1.cell 2 rfl; have sf2 := sk1.free 2; have kF := sk1.set 2 (.int .i64 0); go_wp2; refine bodyPost_ret (v := .tuple #[.agg #[.int .i64 4, .string ⟨#[]⟩, .int .i64 0], .int .i64 0]) ?_ rfl ⟨rfl, by have hX := ((hbz.set_at (b := B) (o := 0) hBb (.int .i64 4)).set_at (b := B) (o := 1) hBb (.string ⟨#[]⟩)).set_at (b := B) (o := 2) hBb (.int .i64 0); first | exact hX | (rw [hB] at hX; exact hX)⟩; have q0 := kF.cell 0 rfl; have q1 := kF.cell 1 rfl; have q2 := kF.cell 2 rfl; simp [results, Tryd.results18, go_sem, q0, q1, q2]
    · rw [if_pos rfl] at hPS; obtain ⟨hd, hsz⟩ := first_rune S 121 (by decide) [101, 115] (by rw [hPS]; rfl); subst hPS; clear HP hri
      go_enter Tryd.func18, Tryd.ntmps18
      go_wp2; generalize w.alloc (.cells #[.int .i64 0, .string ⟨#[]⟩, .int .i64 0] 23) = wA at *
      go_loopw [] (fun wr => wr = wA.iter ⟨#[121, 101, 115]⟩ 0) (fun _ => 1)
      case atStart => rfl
      case round =>
        subst hrel; have hnx := fun ty => run_next_any (P := Tryd.prog) wA ⟨#[121, 101, 115]⟩ 0 ty hsz; rw [hd, hwA] at hnx; have k1 := k0.keep (below_iter wA ⟨#[121, 101, 115]⟩ 1); have hbz := hb0.trans ((below_iter wA ⟨#[121, 101, 115]⟩ 1).mono hb0.size); have sc0 := k1.cell 0 rfl; have sf0 := k1.free 0; have sk0 := k1.set 0 (.int .i64 4); have sc1 := sk0.cell 1 rfl; have sf1 := sk0.free 1; have sk1 := sk0.set 1 (.string ⟨#[]⟩); have sc2 := sk1.cell 2 rfl; have sf2 := sk1.free 2; have kF := sk1.set 2 (.int .i64 1); go_wp2; refine bodyPost_ret (v := .tuple #[.agg #[.int .i64 4, .string ⟨#[]⟩, .int .i64 1], .int .i64 0]) ?_ rfl ⟨rfl, by have hX := ((hbz.set_at (b := B) (o := 0) hBb (.int .i64 4)).set_at (b := B) (o := 1) hBb (.string ⟨#[]⟩)).set_at (b := B) (o := 2) hBb (.int .i64 1); first | exact hX | (rw [hB] at hX; exact hX)⟩; have q0 := kF.cell 0 rfl; have q1 := kF.cell 1 rfl; have q2 := kF.cell 2 rfl; simp [results, Tryd.results18, go_sem, q0, q1, q2]
end Go.Proofs.YtinogphhbbaobaaDoor
/- graticuleref09.plain, Digits. -/
set_option linter.unusedVariables false
set_option linter.unusedSimpArgs false
set_option maxRecDepth 100000
namespace Go.Proofs.YtinogphhbbaobaaDoor
open Go.RowKit

set_option maxHeartbeats 2000000 in
theorem rplain_any : ∀ (u : Nat), u ≤ 18446744073709551615 → ∀ (w : World),
    Calls Tryd.prog 62 #[.int .u64 (u : Int)] w fun e w' => e = .returned (.string ⟨(Lib.decDigits u).toArray⟩) ∧ w' = w := by
  intro u
  induction u using Nat.strongRecOn with
  | ind u ih =>
    intro hu w; have hd : Lib.decDigits u = if u < 10 then [UInt8.ofNat (48 + u)] else Lib.decDigits (u / 10) ++ [UInt8.ofNat (48 + u % 10)] := by
      rw [Lib.decDigits]; split <;> rfl
    have HD := Lib.hid hd; generalize Lib.decDigits u = D at *; have hx : (⟨#[48, 49, 50, 51, 52, 53, 54, 55, 56, 57]⟩ : ByteArray).extract (u % 10) (u % 10 + 1) = ⟨#[UInt8.ofNat (48 + u % 10)]⟩ := by
      have hm : u % 10 < 10 := Nat.mod_lt _ (by omega); generalize u % 10 = m at *
      rcases (by omega : m = 0 ∨ m = 1 ∨ m = 2 ∨ m = 3 ∨ m = 4 ∨ m = 5 ∨ m = 6 ∨ m = 7 ∨ m = 8 ∨ m = 9) with rfl | rfl | rfl | rfl | rfl | rfl | rfl | rfl | rfl | rfl <;> rfl
    obtain ⟨cc, hcc⟩ : ∃ c, UInt8.ofNat (48 + u % 10) = c := ⟨_, rfl⟩; rw [hcc] at hx; have HCC := Lib.hid hcc; clear hcc; have HX := Lib.hid hx; have hlen := Lib.nDigits_le20 (u / 10) (by omega); rw [← Lib.decDigits_length] at hlen; have HIH := Lib.hid (ih (u / 10)); clear hd hx ih
    go_enter Tryd.func62, Tryd.ntmps62
    by_cases h10 : u < 10
    · have h10' : (u : Int) < 10 := by omega
      go_wp2; refine bodyPost_ret (v := .string ((⟨#[48, 49, 50, 51, 52, 53, 54, 55, 56, 57]⟩ : ByteArray).extract (u % 10) (u % 10 + 1))) (by simp [results, Tryd.results62, go_sem]) rfl ⟨?_, rfl⟩; rw [HX.out, HD.out, if_pos h10, ← HCC.out, show u % 10 = u by omega]
    · have h10' : ¬ (u : Int) < 10 := by omega
      have hih := HIH.out (by omega) (by omega) w; rw [show ((u / 10 : Nat) : Int) = (u : Int) / 10 by omega] at hih; have HI := Lib.hid hih; clear hih HIH
      go_wp2_with fail
      refine HI.out.mono ?_; rintro e w' ⟨rfl, rfl⟩; generalize Lib.decDigits (u / 10) = DD at *; rw [HX.out]; have hl2 : ¬ 9223372036854775807 < DD.length + 1 := by omega
      have hcat : (⟨DD.toArray⟩ : ByteArray) ++ ⟨#[cc]⟩ = ⟨D.toArray⟩ := by
        rw [HD.out, if_neg h10, HCC.out]; apply ByteArray.ext; simp [ByteArray.data_append]
      have HCAT := Lib.hid hcat; clear hcat; go_wp2; refine bodyPost_ret (v := .string (⟨DD.toArray⟩ ++ ⟨#[cc]⟩)) (by simp [results, Tryd.results62, go_sem]) rfl ⟨by rw [HCAT.out], rfl⟩

set_option maxHeartbeats 2000000 in
theorem rdigits_any (n : Int) (h0 : -1152921504606846976 ≤ n) (h1 : n ≤ 1152921504606846976) (w : World) :
    Calls Tryd.prog 41 #[.int .i64 n] w fun e w' => e = .returned (.string ⟨(Lib.itoa n).toArray⟩) ∧ w' = w := by
  have hI : Lib.itoa n = if n < 0 then 45 :: Lib.decDigits n.natAbs else Lib.decDigits n.toNat := rfl; have HI := Lib.hid hI; generalize Lib.itoa n = S at *; clear hI
  go_enter Tryd.func41, Tryd.ntmps41
  by_cases hn : n < 0
  · have hp := rplain_any n.natAbs (by omega) w; rw [show ((n.natAbs : Nat) : Int) = -(n + 1) + 1 by omega] at hp; have HP := Lib.hid hp; clear hp; have hlen := Lib.nDigits_le20 n.natAbs (by omega); rw [← Lib.decDigits_length] at hlen
    go_wp2_with fail
    refine HP.out.mono ?_; rintro e w' ⟨rfl, rfl⟩; generalize Lib.decDigits n.natAbs = DD at *; have hl2 : ¬ 9223372036854775807 < 1 + DD.length := by omega
    have HCAT : Hid ((⟨#[45]⟩ : ByteArray) ++ ⟨DD.toArray⟩ = ⟨S.toArray⟩) := by
      refine Lib.hid ?_; rw [HI.out, if_pos hn]; apply ByteArray.ext; simp [ByteArray.data_append]
    go_wp2; refine bodyPost_ret (v := .string (⟨#[45]⟩ ++ ⟨DD.toArray⟩)) (by simp [results, Tryd.results41, go_sem]) rfl ⟨by rw [HCAT.out], rfl⟩
  · have hp := rplain_any n.toNat (by omega) w; rw [show ((n.toNat : Nat) : Int) = n by omega] at hp; have HP := Lib.hid hp; clear hp; have hnn : 0 ≤ n := by omega
    go_wp2_with fail
    refine HP.out.mono ?_; rintro e w' ⟨rfl, rfl⟩; go_wp2; go_ret; exact ⟨by rw [HI.out, if_neg (by omega)]; rfl, rfl⟩
end Go.Proofs.YtinogphhbbaobaaDoor

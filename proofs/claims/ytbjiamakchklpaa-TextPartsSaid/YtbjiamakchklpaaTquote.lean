/-
  text.Quote.
-/
import Derived.Test.YtbjiamakchklpaaTcount
import Derived.Test.YtbjiamakchklpaaTform
set_option linter.unusedVariables false
set_option linter.unusedSimpArgs false
set_option maxRecDepth 100000
namespace Go
open Go.RowKit
/-- The forms of runes, one behind the other. -/
def formsF (l : List (Nat × Nat)) : List UInt8 := l.flatMap (fun x => formF x.1)
/-- A text's quoted form. -/
def quoteF (s : ByteArray) : List UInt8 := [34] ++ formsF (runesF s) ++ [34]
theorem formF_len (r : Nat) : (formF r).length ≤ 4 := by
  unfold formF
  split
  · have := Lib.runeCells_le (r : Int)
    rw [Lib.runeCells_length] at this
    exact this.2
  · unfold formR
    repeat' split
    all_goals simp
theorem forms_snoc (l : List (Nat × Nat)) (x : Nat × Nat) : formsF (l ++ [x]) = formsF l ++ formF x.1 := by simp [formsF]
theorem forms_len (l : List (Nat × Nat)) : (formsF l).length ≤ 4 * l.length := by
  induction l with
  | nil => simp [formsF]
  | cons x l ih =>
    have := formF_len x.1
    simp only [formsF, List.flatMap_cons, List.length_append, List.length_cons] at *
    omega
end Go
namespace Go.Proofs.Ytbjiamakchklpaa
open Go.RowKit

set_option maxHeartbeats 3200000 in
theorem quote_any (s : ByteArray) (hs : s.size ≤ 100000) (w : World) :
    Calls Try.prog 9 #[.string s] w fun e w' => e = .returned (.tuple #[.string ⟨(if rightF s then quoteF s else []).toArray⟩, .int .i64 (if rightF s then 0 else 13)]) ∧ Below w.heap.size w w' := by
  have hc := Lib.hid (right_any s (by unfold maxLen; omega))
  obtain ⟨T, hT⟩ : ∃ T : Bool, rightF s = T := ⟨_, rfl⟩
  rw [hT] at hc ⊢
  have HT := Lib.hid hT
  clear hT
  go_enter Try.func9, Try.ntmps9
  go_wp2_with fail
  refine (hc.out _).mono ?_
  rintro e w1 ⟨rfl, hb1⟩
  have hs1 := hb1.size
  cases T with
  | false =>
    clear hc HT
    go_wp2
    refine bodyPost_ret (v := .tuple #[.string ⟨#[]⟩, .int .i64 13]) (by simp [results, Try.results9, go_sem]) rfl ⟨rfl, hb1⟩
  | true =>
    clear hc HT
    have hI0 : Lib.IsBuilderF 55 5 w1.heap.size w1.heap.size (Lib.byteCells []) (w1.alloc (.cells #[.pointer none, .slice none 0 0] 55)) := Lib.IsBuilderF.of (Lib.fresh_isBuilder 55 5 w1)
    have hbA : Below w1.heap.size w1 (w1.alloc (.cells #[.pointer none, .slice none 0 0] 55)) := Below.new _ _
    go_wp2_with (go_at_call 22; refine (Try.Builder_WriteByte_k w1.heap.size w1.heap.size _ 34 _ hI0 (by rw [Lib.byteCells_length]; simp) (by simp)).mono ?_)
    rintro e w2 ⟨rfl, h2, b2, k2⟩
    have hB2 := hbA.trans b2
    have hK : w1.heap.size < w2.heap.size := by
      have := b2.size
      simp at this
      omega
    have hI2 : Lib.IsBuilderF 55 5 w1.heap.size w1.heap.size (Lib.byteCells [34]) w2 := Or.inr h2
    have hI3 := hI2.alloc (.stringIter s 0)
    have hit3 : (w2.alloc (.stringIter s 0)).heap[w2.heap.size]? = some (.stringIter s 0) := heap_alloc_new w2 _
    have hB3 := hB2.alloc (Nat.le_of_lt hK) (.stringIter s 0)
    obtain ⟨KI, hKI⟩ : ∃ k, w2.heap.size = k := ⟨_, rfl⟩
    rw [hKI] at hit3 hK
    clear h2 k2 hbA hI0 b2 hI2 hB2
    go_wp2
    go_loopw [] (fun wr => ∃ (p f : Nat) (pre : List (Nat × Nat)), Lib.IsBuilderF 55 5 w1.heap.size w1.heap.size (Lib.byteCells (34 :: formsF pre)) wr ∧ wr.heap[KI]? = some (.stringIter s p) ∧ Below w1.heap.size w1 wr ∧ Hid (runesF s = pre ++ rl s f p) ∧ s.size ≤ p + f ∧ p ≤ s.size ∧ pre.length ≤ p) (fun wr => s.size - wr.iterPos KI)
    case atStart => exact ⟨0, s.size, [], hI3, hit3, hB3, Lib.hid rfl, by omega, by omega, by simp⟩
    case round =>
      clear hI3 hit3 hB3
      obtain ⟨p, f, pre, hI, hit, hbw, HR, hpf, hps, hpl⟩ := hrel
      have hsz : KI < wr.heap.size := (Array.getElem?_eq_some_iff.1 hit).1
      by_cases hp : p < s.size
      · obtain ⟨f, rfl⟩ : ∃ g, f = g + 1 := ⟨f - 1, by omega⟩
        have hnx : ∀ ty, (Instr.next (.pointer (some ⟨KI, 0, none⟩)) true ty).run Try.prog wr = _ := fun ty => Lib.run_next_any_at wr KI s p ty hit hp
        have hwd := decode_wid hp
        rw [rl_step s f p hp] at HR
        have hI2 := hI.iterAt hit (p + (Utf8.decode s p).2)
        have hit2 := Lib.iterAt_heap wr KI s p (p + (Utf8.decode s p).2) hit
        have hbw2 := Lib.below_iterAt hbw (k := KI) (by omega) s (p + (Utf8.decode s p).2)
        have hsz2 := Lib.iterAt_size wr KI s (p + (Utf8.decode s p).2)
        obtain ⟨W, hW⟩ : ∃ W, p + (Utf8.decode s p).2 = W := ⟨_, rfl⟩
        rw [hW] at hnx HR hI2 hit2 hbw2 hsz2
        obtain ⟨R, hR⟩ : ∃ R, (Utf8.decode s p).1 = R := ⟨_, rfl⟩
        rw [hR] at hnx HR hwd
        have hform := Lib.hid (form_any R hwd.2.2.2)
        have hfl := formF_len R
        have hfs := forms_len pre
        have hWb : p < W ∧ W ≤ s.size := by omega
        have HSN : Hid (formsF (pre ++ [(R, p)]) = formsF pre ++ formF R) := Lib.hid (forms_snoc pre (R, p))
        clear hwd hR hW hI hbw
        obtain ⟨FR, hFR⟩ : ∃ FR, formF R = FR := ⟨_, rfl⟩
        rw [hFR] at hform hfl HSN
        clear hFR
        go_wp2_with fail
        refine (hform.out _).mono ?_
        rintro e w3 ⟨rfl, n, rfl⟩
        have hI3 : Lib.IsBuilderF 55 5 w1.heap.size w1.heap.size (Lib.byteCells (34 :: formsF pre)) ((wr.iterAt KI s W).drewN n) := hI2
        have hit3 : ((wr.iterAt KI s W).drewN n).heap[KI]? = some (.stringIter s W) := hit2
        have hbw3 : Below w1.heap.size w1 ((wr.iterAt KI s W).drewN n) := below_drewN hbw2 n
        have hsz3 : ((wr.iterAt KI s W).drewN n).heap.size = wr.heap.size := hsz2
        generalize (wr.iterAt KI s W).drewN n = w3 at *
        clear hI2 hit2 hbw2 hsz2 hform hnx
        go_wp2_with (go_at_call 23; refine (Try.Builder_WriteString_k w1.heap.size w1.heap.size _ ⟨FR.toArray⟩ _ hI3 (by rw [Lib.byteCells_length]; simp [ByteArray.size]; omega) (by omega)).mono ?_)
        rintro e w4 ⟨rfl, h4, b4, k4⟩
        have hit4 := k4.iter hit3 (by omega)
        go_wp2
        go_roundw
        case rel =>
          refine ⟨W, f, pre ++ [(R, p)], ?_, hit4, hbw3.trans b4, Lib.hid (by rw [HR.out, List.append_assoc]; rfl), by omega, by omega, by simp; omega⟩
          have e1 : Lib.byteCells (34 :: formsF (pre ++ [(R, p)])) = Lib.byteCells (34 :: formsF pre) ++ Lib.strCells ⟨FR.toArray⟩ := by
            rw [HSN.out, ← List.cons_append, Lib.byteCells_append]
            congr 1
          rw [e1]
          exact Or.inr h4
        case measure =>
          simp only [World.iterPos, hit4, hit]
          omega
      · have hnx : ∀ ty, (Instr.next (.pointer (some ⟨KI, 0, none⟩)) true ty).run Try.prog wr = _ := fun ty => Lib.run_next_end_at wr KI s p ty hit hp
        rw [rl_end s f p hp, List.append_nil] at HR
        have hfs := forms_len pre
        have hQ : Hid (quoteF s = (34 :: formsF pre) ++ [34]) := Lib.hid (by unfold quoteF; rw [HR.out]; rfl)
        obtain ⟨Q, hQQ⟩ : ∃ Q, quoteF s = Q := ⟨_, rfl⟩
        rw [hQQ] at hQ
        have HQQ := Lib.hid hQQ
        clear hQQ
        clear HR
        go_wp2_with (go_at_call 22; refine (Try.Builder_WriteByte_k w1.heap.size w1.heap.size _ 34 _ hI (by rw [Lib.byteCells_length]; simp; omega) (by omega)).mono ?_)
        rintro e w5 ⟨rfl, h5, b5, k5⟩
        have hsz5 := b5.size
        have hI6 : Lib.IsBuilderF 55 5 w1.heap.size w1.heap.size (Lib.byteCells Q) w5 := by
          rw [hQ.out, Lib.byteCells_append]; exact Or.inr h5
        go_wp2_with (go_at_call 25; refine (Try.Builder_String_any_k w1.heap.size w1.heap.size Q _ hI6 (by omega)).mono ?_)
        rintro e w6 ⟨rfl, _, b6, _⟩
        go_wp2
        refine bodyPost_ret (v := .tuple #[.string ⟨Q.toArray⟩, .int .i64 0]) (by simp [results, Try.results9, go_sem]) rfl ⟨by rw [HQQ.out], hb1.trans (((hbw.trans b5).trans b6).mono hs1)⟩
end Go.Proofs.Ytbjiamakchklpaa

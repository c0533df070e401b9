/-
  Opening a law's arguments: faces. What all laws of chapter 13 import first (so that their claims have the same files). Attributes that are left (plain). A map of strings to bools that the call makes: a set of strings. Runes of a text: the model's decoding and the document's first rune, in plain terms. text.bad; plain: where no rune begins. text.Count, text.Right: the runes of a text. text.letter, text.Name.
-/
import Derived.Test.YtccamjnomjcchaaPk1
import Derived.Test.YtccamjnomjcchaaPk6
import Derived.Test.YtccamjnomjcchaaPk26
import Derived.Test.YtccamjnomjcchaaPk25
import Derived.Maps.Own
import Derived.Maps.OwnOps
import Derived.Maps.Views
import Derived.Laws.RangeAny
import Derived.Test.YtccamjnomjcchaaShelf
import Derived.Laws.RangeString
import Derived.Lib.OthersKept
/- Opening a law's arguments: faces. -/
set_option linter.unusedVariables false
set_option linter.unusedSimpArgs false
set_option maxRecDepth 100000
namespace Go
open Go.RowKit
def AtIn (a : At) : Prop := AtOk a ∧ (Lit.int .i64 a.kind).wf = true ∧ (Lit.int .i64 a.n).wf = true
def FcIn (W : World) (f : Fc) : Prop := f.Ok W ∧ (∀ x ∈ f.ls, AtIn x) ∧ ∀ r ∈ f.rs, ∀ p ∈ r.l, (Lit.int .i64 p.x).wf = true ∧ (Lit.int .i64 p.y).wf = true
theorem FcIn.in {W : World} {f : Fc} (h : FcIn W f) : f.In W := ⟨h.1, fun x hx => (h.2.1 x hx).1⟩
end Go
namespace Go.Proofs.Ytccamjnomjcchaa
open Go.RowKit Go.ChangeShapes Go.WideShapes Go.ChangeAt
theorem one_attr {H : Type} {enc : TypeId × Value → H} {W : World} {base : Nat} {spare : Nat → Bool} {held : Bool} (n : Nat) (cs : List Value) (z : DataW H × List MemPlace) (hcl : cs.length = 4)
    (ht : DataW.trod enc Try.prog W base spare held n 93 cs = some z) : ∃ y : At, cs = y.cells ∧ AtIn y := by
  have c3 : Try.prog.cellsOf 3 = 1 := by kernel_rfl
  have c1 : Try.prog.cellsOf 9 = 1 := by kernel_rfl
  have cv : Try.prog.cellsOf 91 = 3 := by kernel_rfl
  obtain ⟨ys, k, hk, hxy, _, hxl, hf⟩ := DataW.trod_struct Try.underlying93 ht
  match ys, hxl, cs, hcl with
  | [y0, y1], _, [v0, v1, v2, v3], _ =>
    have g0 := hf 0 _ rfl
    have g1 := hf 1 _ rfl
    simp [c1, cv] at g0 g1
    obtain ⟨s0, e0, -, w0⟩ := DataW.trod_string Try.underlying9 g0
    simp at e0
    subst e0
    obtain ⟨zs, k2, hk2, hxy2, _, hzl, hf2⟩ := DataW.trod_struct Try.underlying91 g1
    match zs, hzl with
    | [u0, u1, u2], _ =>
      have g2 := hf2 0 _ rfl
      have g3 := hf2 1 _ rfl
      have g4 := hf2 2 _ rfl
      simp [c1, c3] at g2 g3 g4
      obtain ⟨n1, e1, -, w1⟩ := DataW.trod_int Try.underlying3 g2
      obtain ⟨s2, e2, -, w2⟩ := DataW.trod_string Try.underlying9 g3
      obtain ⟨n3, e3, -, w3⟩ := DataW.trod_int Try.underlying3 g4
      simp at e1 e2 e3
      subst e1 e2 e3
      exact ⟨⟨s0, n1, s2, n3⟩, rfl, ⟨w0, w2⟩, w1, w3⟩

theorem one_ringW {H : Type} {enc : TypeId × Value → H} {W : World} {base : Nat} {spare : Nat → Bool} {held : Bool} (hsp : ∀ b, spare b = true) (n : Nat) (cs' : List Value) (z : DataW H × List MemPlace) (hl : cs'.length = 1)
    (h : DataW.trod enc Try.prog W base spare held n 39 cs' = some z) : ∃ y : PC, cs' = y.cells ∧ y.Ok W ∧ ∀ p ∈ y.l, PtIn p := by
  match cs', hl with
  | [v], _ =>
    obtain ⟨a, l, c, rfl⟩ : ∃ a l c, v = .slice a l c := by
      rcases DataW.trod_slice Try.underlying39 h with ⟨hc, _⟩ | ⟨a, l, c, _, _, _, _, hc, _⟩
      · simp at hc; exact ⟨_, _, _, hc⟩
      · simp at hc; exact ⟨_, _, _, hc⟩
    obtain ⟨xs, rfl, h1, h2, h3, h4, h5⟩ := open_pts hsp h
    exact ⟨⟨xs, a, c⟩, rfl, ⟨h4, h1, h2, h3⟩, h5⟩
theorem one_slice {cs : List Value} {H : Type} {enc : TypeId × Value → H} {W : World} {base : Nat} {spare : Nat → Bool} {held : Bool} {n : Nat} {v : Value} {z : DataW H × List MemPlace} {t e : TypeId} (ht : Try.prog.underlying t = some (.slice e))
    (h : DataW.trod enc Try.prog W base spare held n t [v] = some z) : ∃ a l c, v = .slice a l c := by
  rcases DataW.trod_slice ht h with ⟨hc, _⟩ | ⟨a, l, c, _, _, _, _, hc, _⟩
  · simp at hc; exact ⟨_, _, _, hc⟩
  · simp at hc; exact ⟨_, _, _, hc⟩

theorem one_face {H : Type} {enc : TypeId × Value → H} {W : World} {base : Nat} {spare : Nat → Bool} {held : Bool} (hsp : ∀ b, spare b = true) (n : Nat) (cs' : List Value) (z : DataW H × List MemPlace) (hl : cs'.length = 2)
    (h : DataW.trod enc Try.prog W base spare held n 38 cs' = some z) : ∃ y : Fc, cs' = y.cells ∧ FcIn W y := by
  have c1 : Try.prog.cellsOf 35 = 1 := by kernel_rfl
  have c2 : Try.prog.cellsOf 36 = 1 := by kernel_rfl
  obtain ⟨ys, k, hk, hxy, _, hxl, hf⟩ := DataW.trod_struct Try.underlying38 h
  match ys, hxl, cs', hl with
  | [y0, y1], _, [v0, v1], _ =>
    have g0 := hf 0 _ rfl
    have g1 := hf 1 _ rfl
    simp [c1, c2] at g0 g1
    obtain ⟨a, l, c, rfl⟩ := one_slice (cs := []) Try.underlying35 g0
    obtain ⟨b, m, d, rfl⟩ := one_slice (cs := []) Try.underlying36 g1
    obtain ⟨xs, rfl, h1, h2, h3, h4, h5⟩ := open_flat 1 (by decide) PC.cells (fun y => y.Ok W ∧ ∀ p ∈ y.l, PtIn p) (fun _ => rfl) Try.underlying35 (by kernel_rfl) (fun n cs' z hl hz => one_ringW hsp n cs' z hl hz) g0
    obtain ⟨ys, rfl, k1, k2, k3, k4, k5⟩ := open_flat 4 (by decide) At.cells AtIn (fun _ => rfl) Try.underlying36 (by kernel_rfl) (fun n cs' z hl hz => one_attr n cs' z hl hz) g1
    exact ⟨⟨xs, a, c, ys, b, d⟩, rfl, ⟨⟨h4, h1, h2, h3⟩, fun r hr => (h5 r hr).1, ⟨k4, k1, k2, k3⟩⟩, k5, fun r hr => (h5 r hr).2⟩

theorem open_faces {H : Type} {enc : TypeId × Value → H} {W : World} {base : Nat} {spare : Nat → Bool} {fuel : Nat} {a : Option Addr} {len cap : Nat} {x : DataW H × List MemPlace} {held : Bool} (hsp : ∀ b, spare b = true)
    (h : DataW.trod enc Try.prog W base spare held fuel 22 [.slice a len cap] = some x) :
    ∃ xs : List Fc, len = xs.length ∧ len ≤ cap ∧ cap ≤ maxLen ∧ (a = none → cap = 0) ∧ Rd W a (fcs xs) ∧ ∀ y ∈ xs, FcIn W y :=
  open_flat 2 (by decide) Fc.cells (FcIn W) (fun _ => rfl) Try.underlying22 (by kernel_rfl) (fun n cs' z hl hz => one_face hsp n cs' z hl hz) h
theorem open_face {H : Type} {enc : TypeId × Value → H} {W : World} {base b0 : Nat} {spare : Nat → Bool} {held : Bool} {r : Reach} {v : Value} {d : DataW H} {ps : List MemPlace} (hv : Value.okWide Try.prog W r b0 38 v) (hsp : ∀ b, spare b = true)
    (hd : DataW.Trod enc Try.prog W base spare held 38 v d ps) : ∃ f : Fc, v = f.val ∧ FcIn W f := by
  obtain ⟨cs, rfl, hsz⟩ := okWide_struct Try.underlying38 hv
  obtain ⟨n, hd⟩ := hd
  have hc : (Value.agg cs).cells.toList = cs.toList := by simp [Value.cells]
  rw [hc] at hd
  have c2 : Try.prog.cellsOf 38 = 2 := by kernel_rfl
  rw [c2] at hsz
  obtain ⟨l⟩ := cs
  obtain ⟨f, e, hf⟩ := one_face hsp n l _ hsz hd
  exact ⟨f, by subst e; rfl, hf⟩
end Go.Proofs.Ytccamjnomjcchaa
/- What all laws of chapter 13 import first (so that their claims have the same files). -/

/- Attributes that are left (plain). -/
set_option linter.unusedVariables false
set_option linter.unusedSimpArgs false
set_option maxRecDepth 100000
namespace Go
open Go.RowKit
def AtsOk (l : List At) : Prop := l.length ≤ 10 ∧ ∀ x ∈ l, x.key.size ≤ 100 ∧ x.text.size ≤ 100
theorem cutS_le (s : ByteArray) : (cutS s).size ≤ 100 := by unfold cutS; simp; omega
theorem atsOk_cut (l : List At) : AtsOk ((l.take 10).map cutA) := by
  refine ⟨by simp; omega, fun x hx => ?_⟩
  obtain ⟨y, -, rfl⟩ := List.mem_map.1 hx
  exact ⟨cutS_le _, cutS_le _⟩
end Go
/- A map of strings to bools that the call makes: a set of strings. -/
set_option linter.unusedVariables false
set_option linter.unusedSimpArgs false
namespace Go
open Go.RowKit
open Go.Maps (Keyed IsMap string_keyed)
def StrSet (P : Program) (K E : TypeId) (w : World) (b n : Nat) (ks : List (List UInt8)) : Prop :=
  ∃ D : DataW Unit, w.ownsMap P K (plainElem P E) b n D ∧ IsMap D ∧ ∀ s : ByteArray, D.atKey (.string s.data.toList) (.lit (.bool false)) = .lit (.bool (decide (s.data.toList ∈ ks)))
theorem StrSet.made (P : Program) (K E : TypeId) (w : World) : StrSet P K E (w.alloc (.map #[] 0)) w.heap.size 0 [] :=
  ⟨.map [], World.ownsMap_made w P K _, ⟨[], rfl⟩, fun s => by simp [DataW.atKey]⟩
theorem StrSet.below {P : Program} {K E : TypeId} {w w' : World} {b n : Nat} {ks : List (List UInt8)} (h : StrSet P K E w b n ks) (hb : Below w.heap.size w w') : StrSet P K E w' b n ks := by
  obtain ⟨D, hD, hm, hk⟩ := h
  have hl := hD.lt
  obtain ⟨es, clock, he, r⟩ := hD
  exact ⟨D, ⟨es, clock, (hb.block b hl).trans he, r⟩, hm, hk⟩
theorem StrSet.lt {P : Program} {K E : TypeId} {w : World} {b n : Nat} {ks : List (List UInt8)} (h : StrSet P K E w b n ks) : b < w.heap.size := by
  obtain ⟨D, hD, -⟩ := h
  exact hD.lt
theorem StrSet.look {P : Program} {K E T : TypeId} {w : World} {b n : Nat} {ks : List (List UInt8)} (h : StrSet P K E w b n ks) (ht : P.underlying T = some (.map K E)) (hK : P.underlying K = some .string) (hE : P.underlying E = some .bool) (hz : (zeroValue E).run P w = .ok (.bool false) w) (s : ByteArray) (hs : s.size ≤ maxLen) :
    (Instr.lookup T (.map (some b)) (.string s) false).run P w = .ok (.bool (decide (s.data.toList ∈ ks))) w := by
  obtain ⟨D, hD, hm, hk⟩ := h
  obtain ⟨v, ps, hrun, hv⟩ := hD.lookup (string_keyed hK) ht hz (plainElem_bool hE false) (WideMaps.keyOf_string_mk hK hs)
  rw [hk] at hv
  have : v = .bool (decide (s.data.toList ∈ ks)) := by
    unfold plainElem at hv
    rw [hE] at hv
    cases v <;> simp at hv
    obtain ⟨h1, -⟩ := hv
    rw [h1]
  rw [hrun, this]
theorem wpList_set_add {P : Program} {K E T : TypeId} (w : World) {ops : Array Oper} {rest : List Oper} {o : Oper} {a : Act} {Q : Exit → Act → World → Prop}
    (hg : o.guard = none) (m x v : Operand) (hop : o.op = Op.mapUpdate T m x v) (ht : P.underlying T = some (.map K E)) (hK : P.underlying K = some .string) (hE : P.underlying E = some .bool) (b n : Nat) (ks : List (List UInt8))
    (hm : a.eval m = .map (some b)) (hown : StrSet P K E w b n ks) (hn : n < maxLen) (s : ByteArray) (hs : s.size ≤ maxLen) (hx : a.eval x = .string s) (hv : a.eval v = .bool true)
    (hk : ∀ w', StrSet P K E w' b (n + 1) (s.data.toList :: ks) → w.grownBy w' (some b) → wpList P ops Q rest (a.put o.dst undef) w') :
    wpList P ops Q (o :: rest) a w := by
  obtain ⟨D, hD, hmap, hat⟩ := hown
  refine wpList_mapUpdate_own w hg m x v T hop K E (string_keyed hK) ht (plainElem P E) b n D hm hD hn (.string s) (.bool true) (.string s.data.toList) hx hv (WideMaps.keyOf_string_mk hK hs) (.lit (.bool true)) [] (plainElem_bool hE true) ?_
  intro w' h1 h2
  refine hk w' ⟨_, h1, hmap.put _ _, fun s' => ?_⟩ h2
  by_cases he : s'.data.toList = s.data.toList
  · rw [he, Maps.atKey_put_same hmap (by trivial)]
    simp
  · rw [Maps.atKey_put_other (by
      intro h
      apply he
      injection h), hat]
    simp [he]
end Go
/- Runes of a text: the model's decoding and the document's first rune, in plain terms. -/
set_option linter.unusedVariables false
set_option linter.unusedSimpArgs false
namespace Go
open Go.RowKit
def byt (s : ByteArray) (i : Nat) : Nat := (s.get! i).toNat
theorem byt_lt (s : ByteArray) (i : Nat) : byt s i < 256 := (s.get! i).toNat_lt
def cont (s : ByteArray) (i : Nat) : Bool := decide (i < s.size) && decide (128 ≤ byt s i) && decide (byt s i < 192)
def badAt (s : ByteArray) (i : Nat) : Bool := decide (Utf8.decode s i = (65533, 1))
def firstF (s : ByteArray) (i : Nat) : Nat × Nat := if badAt s i then (0, 0) else Utf8.decode s i
theorem cont_eq (s : ByteArray) (i : Nat) : (decide (i < s.size) && ((s.get! i).toNat / 64 == 2)) = cont s i := by
  have h := byt_lt s i
  unfold cont byt at *
  rw [Bool.and_assoc]
  congr 1
  rw [Bool.eq_iff_iff]
  simp
  omega
theorem decode_eq (s : ByteArray) (i : Nat) : Utf8.decode s i =
    (if byt s i < 128 then (byt s i, 1)
     else if 192 ≤ byt s i ∧ byt s i < 224 ∧ cont s (i + 1) = true then (if 128 ≤ (byt s i - 192) * 64 + (byt s (i + 1) - 128) then ((byt s i - 192) * 64 + (byt s (i + 1) - 128), 2) else (65533, 1))
     else if 224 ≤ byt s i ∧ byt s i < 240 ∧ cont s (i + 1) = true ∧ cont s (i + 2) = true then
       (if 2048 ≤ (byt s i - 224) * 4096 + (byt s (i + 1) - 128) * 64 + (byt s (i + 2) - 128) ∧ ¬ (55296 ≤ (byt s i - 224) * 4096 + (byt s (i + 1) - 128) * 64 + (byt s (i + 2) - 128) ∧ (byt s i - 224) * 4096 + (byt s (i + 1) - 128) * 64 + (byt s (i + 2) - 128) ≤ 57343)
        then ((byt s i - 224) * 4096 + (byt s (i + 1) - 128) * 64 + (byt s (i + 2) - 128), 3) else (65533, 1))
     else if 240 ≤ byt s i ∧ byt s i < 248 ∧ cont s (i + 1) = true ∧ cont s (i + 2) = true ∧ cont s (i + 3) = true then
       (if 65536 ≤ (byt s i - 240) * 262144 + (byt s (i + 1) - 128) * 4096 + (byt s (i + 2) - 128) * 64 + (byt s (i + 3) - 128) ∧ (byt s i - 240) * 262144 + (byt s (i + 1) - 128) * 4096 + (byt s (i + 2) - 128) * 64 + (byt s (i + 3) - 128) ≤ 1114111
        then ((byt s i - 240) * 262144 + (byt s (i + 1) - 128) * 4096 + (byt s (i + 2) - 128) * 64 + (byt s (i + 3) - 128), 4) else (65533, 1))
     else (65533, 1)) := by
  have h0 := byt_lt s i
  have h1 := byt_lt s (i + 1)
  have h2 := byt_lt s (i + 2)
  have h3 := byt_lt s (i + 3)
  unfold Utf8.decode
  simp only [cont_eq, Nat.add_zero, Utf8.runeError]
  show (if (byt s i) < 128 then _ else _) = _
  have hm : ∀ k, cont s k = true → 128 ≤ byt s k ∧ byt s k < 192 := by
    intro k h
    unfold cont at h
    simp only [Bool.and_eq_true, decide_eq_true_eq] at h
    omega
  by_cases c0 : byt s i < 128
  · rw [if_pos c0, if_pos c0]; rfl
  rw [if_neg c0, if_neg c0]
  by_cases c1 : 192 ≤ byt s i ∧ byt s i < 224 ∧ cont s (i + 1) = true
  · rw [if_pos c1]
    have d1 : ((s.get! i).toNat / 32 == 6 && cont s (i + 1)) = true := by
      rw [c1.2.2, Bool.and_true, beq_iff_eq]; show byt s i / 32 = 6; omega
    rw [if_pos d1]
    have := hm _ c1.2.2
    show (if byt s i % 32 * 64 + byt s (i + 1) % 64 ≥ 128 then (byt s i % 32 * 64 + byt s (i + 1) % 64, 2) else (65533, 1)) = _
    rw [show byt s i % 32 * 64 + byt s (i + 1) % 64 = (byt s i - 192) * 64 + (byt s (i + 1) - 128) by omega]
  · rw [if_neg c1]
    have d1 : ¬ ((s.get! i).toNat / 32 == 6 && cont s (i + 1)) = true := by
      intro h
      rw [Bool.and_eq_true, beq_iff_eq] at h
      have hb : byt s i / 32 = 6 := h.1
      exact c1 ⟨by omega, by omega, h.2⟩
    rw [if_neg d1]
    by_cases c2 : 224 ≤ byt s i ∧ byt s i < 240 ∧ cont s (i + 1) = true ∧ cont s (i + 2) = true
    · rw [if_pos c2]
      have d2 : ((s.get! i).toNat / 16 == 14 && cont s (i + 1) && cont s (i + 2)) = true := by
        rw [c2.2.2.1, c2.2.2.2, Bool.and_true, Bool.and_true, beq_iff_eq]; show byt s i / 16 = 14; omega
      rw [if_pos d2]
      have e1 := hm _ c2.2.2.1
      have e2 := hm _ c2.2.2.2
      show (if (decide (byt s i % 16 * 4096 + byt s (i + 1) % 64 * 64 + byt s (i + 2) % 64 ≥ 2048) && Utf8.valid ((byt s i % 16 * 4096 + byt s (i + 1) % 64 * 64 + byt s (i + 2) % 64 : Nat) : Int)) = true then (byt s i % 16 * 4096 + byt s (i + 1) % 64 * 64 + byt s (i + 2) % 64, 3) else (65533, 1)) = _
      rw [show byt s i % 16 * 4096 + byt s (i + 1) % 64 * 64 + byt s (i + 2) % 64 = (byt s i - 224) * 4096 + (byt s (i + 1) - 128) * 64 + (byt s (i + 2) - 128) by omega]
      have hb : (byt s i - 224) * 4096 + (byt s (i + 1) - 128) * 64 + (byt s (i + 2) - 128) < 65536 := by omega
      generalize (byt s i - 224) * 4096 + (byt s (i + 1) - 128) * 64 + (byt s (i + 2) - 128) = r at *
      congr 1
      rw [Bool.and_eq_true]
      simp only [Utf8.valid, decide_eq_true_eq, Bool.or_eq_true, Bool.and_eq_true, ge_iff_le, eq_iff_iff]
      omega
    · rw [if_neg c2]
      have d2 : ¬ ((s.get! i).toNat / 16 == 14 && cont s (i + 1) && cont s (i + 2)) = true := by
        intro h
        rw [Bool.and_eq_true, Bool.and_eq_true, beq_iff_eq] at h
        have hb : byt s i / 16 = 14 := h.1.1
        exact c2 ⟨by omega, by omega, h.1.2, h.2⟩
      rw [if_neg d2]
      by_cases c3 : 240 ≤ byt s i ∧ byt s i < 248 ∧ cont s (i + 1) = true ∧ cont s (i + 2) = true ∧ cont s (i + 3) = true
      · rw [if_pos c3]
        have d3 : ((s.get! i).toNat / 8 == 30 && cont s (i + 1) && cont s (i + 2) && cont s (i + 3)) = true := by
          rw [c3.2.2.1, c3.2.2.2.1, c3.2.2.2.2, Bool.and_true, Bool.and_true, Bool.and_true, beq_iff_eq]; show byt s i / 8 = 30; omega
        rw [if_pos d3]
        have e1 := hm _ c3.2.2.1
        have e2 := hm _ c3.2.2.2.1
        have e3 := hm _ c3.2.2.2.2
        show (if (decide (byt s i % 8 * 262144 + byt s (i + 1) % 64 * 4096 + byt s (i + 2) % 64 * 64 + byt s (i + 3) % 64 ≥ 65536) && Utf8.valid ((byt s i % 8 * 262144 + byt s (i + 1) % 64 * 4096 + byt s (i + 2) % 64 * 64 + byt s (i + 3) % 64 : Nat) : Int)) = true then (byt s i % 8 * 262144 + byt s (i + 1) % 64 * 4096 + byt s (i + 2) % 64 * 64 + byt s (i + 3) % 64, 4) else (65533, 1)) = _
        rw [show byt s i % 8 * 262144 + byt s (i + 1) % 64 * 4096 + byt s (i + 2) % 64 * 64 + byt s (i + 3) % 64 = (byt s i - 240) * 262144 + (byt s (i + 1) - 128) * 4096 + (byt s (i + 2) - 128) * 64 + (byt s (i + 3) - 128) by omega]
        generalize (byt s i - 240) * 262144 + (byt s (i + 1) - 128) * 4096 + (byt s (i + 2) - 128) * 64 + (byt s (i + 3) - 128) = r at *
        congr 1
        rw [Bool.and_eq_true]
        simp only [Utf8.valid, decide_eq_true_eq, Bool.or_eq_true, Bool.and_eq_true, ge_iff_le, eq_iff_iff]
        omega
      · rw [if_neg c3]
        have d3 : ¬ ((s.get! i).toNat / 8 == 30 && cont s (i + 1) && cont s (i + 2) && cont s (i + 3)) = true := by
          intro h
          rw [Bool.and_eq_true, Bool.and_eq_true, Bool.and_eq_true, beq_iff_eq] at h
          have hb : byt s i / 8 = 30 := h.1.1.1
          exact c3 ⟨by omega, by omega, h.1.1.2, h.1.2, h.2⟩
        rw [if_neg d3]
end Go
/- text.bad; plain: where no rune begins. -/
set_option linter.unusedVariables false
set_option linter.unusedSimpArgs false
namespace Go
open Go.RowKit
theorem get_lt {s : ByteArray} {i : Nat} (h : i < s.size) : s.data.toList[i]? = some (s.get! i) := by
  rw [Array.getElem?_toList]
  have : s.get! i = s.data[i]'h := by
    show s.data[i]! = _
    rw [getElem!_pos s.data i h]
  rw [this, Array.getElem?_eq_getElem h]
theorem ext_size (s : ByteArray) (i : Nat) : (s.extract i s.size).size = s.size - i := by
  simp [ByteArray.size_extract]
theorem ext_get (s : ByteArray) (i k : Nat) (h : i + k < s.size) : (s.extract i s.size).get! k = s.get! (i + k) := by
  have h1 : k < (s.extract i s.size).size := by rw [ext_size]; omega
  have e1 := get_lt h1
  have e2 := get_lt h
  have : (s.extract i s.size).data.toList[k]? = s.data.toList[i + k]? := by
    rw [Array.getElem?_toList, Array.getElem?_toList, ByteArray.data_extract, Array.getElem?_extract]
    have hs : s.data.size = s.size := rfl
    rw [hs, Nat.min_self, if_pos (by omega)]
  rw [this, e2] at e1
  exact (Option.some.inj e1).symm
theorem byt_out {s : ByteArray} {i : Nat} (h : ¬ i < s.size) : byt s i = 0 := by
  unfold byt
  have : s.get! i = default := by
    show s.data[i]! = _
    rw [getElem!_neg s.data i h]
  rw [this]; rfl
theorem ext_byt (s : ByteArray) (i k : Nat) : byt (s.extract i s.size) k = byt s (i + k) := by
  by_cases h : i + k < s.size
  · unfold byt; rw [ext_get s i k h]
  · rw [byt_out h, byt_out (by rw [ext_size]; omega)]
theorem ext_cont (s : ByteArray) (i k : Nat) : cont (s.extract i s.size) k = cont s (i + k) := by
  unfold cont
  rw [ext_byt, ext_size]
  by_cases h : i + k < s.size
  · simp [h, show k < s.size - i by omega]
  · simp [h, show ¬ k < s.size - i by omega]
theorem ext_decode (s : ByteArray) (i k : Nat) : Utf8.decode (s.extract i s.size) k = Utf8.decode s (i + k) := by
  rw [decode_eq, decode_eq]
  simp only [ext_byt, ext_cont, Nat.add_assoc]
theorem ext_bad (s : ByteArray) (i k : Nat) : badAt (s.extract i s.size) k = badAt s (i + k) := by
  unfold badAt; rw [ext_decode]
theorem ext_first (s : ByteArray) (i k : Nat) : firstF (s.extract i s.size) k = firstF s (i + k) := by
  unfold firstF; rw [ext_bad, ext_decode]
theorem cont_iff (s : ByteArray) (i : Nat) : cont s i = true ↔ i < s.size ∧ 128 ≤ byt s i ∧ byt s i < 192 := by
  unfold cont
  simp only [Bool.and_eq_true, decide_eq_true_eq, and_assoc]
theorem decode_wid {s : ByteArray} {i : Nat} (h : i < s.size) : 1 ≤ (Utf8.decode s i).2 ∧ i + (Utf8.decode s i).2 ≤ s.size ∧ (Utf8.decode s i).2 ≤ 4 ∧ (Utf8.decode s i).1 ≤ 1114111 := by
  have h0 := byt_lt s i
  have c1 := cont_iff s (i + 1)
  have c2 := cont_iff s (i + 2)
  have c3 := cont_iff s (i + 3)
  rw [decode_eq]
  repeat' split
  all_goals simp_all
  all_goals omega
theorem bad_iff {s : ByteArray} {i : Nat} (h : i < s.size) : badAt s i = true ↔ (Utf8.decode s i).1 = 65533 ∧ ¬ (byt s i = 239 ∧ byt s (i + 1) = 191 ∧ byt s (i + 2) = 189) := by
  have h0 := byt_lt s i
  have c1 := cont_iff s (i + 1)
  have c2 := cont_iff s (i + 2)
  have c3 := cont_iff s (i + 3)
  have o1 : ¬ i + 1 < s.size → byt s (i + 1) = 0 := byt_out
  have o2 : ¬ i + 2 < s.size → byt s (i + 2) = 0 := byt_out
  unfold badAt
  rw [decide_eq_true_eq, decode_eq]
  repeat' split
  all_goals simp_all
  all_goals omega
theorem isPrefixOf_three (l : List UInt8) (a b c : UInt8) : [a, b, c].isPrefixOf l = (decide (l[0]? = some a) && decide (l[1]? = some b) && decide (l[2]? = some c)) := by
  match l with
  | [] => simp [List.isPrefixOf]
  | [x] => simp [List.isPrefixOf]
  | [x, y] => simp [List.isPrefixOf]
  | x :: y :: z :: t =>
    simp only [List.isPrefixOf, Bool.and_true, List.getElem?_cons_zero, List.getElem?_cons_succ, Option.some.injEq, Bool.and_assoc]
    rw [Bool.eq_iff_iff]
    simp only [Bool.and_eq_true, beq_iff_eq, decide_eq_true_eq]
    constructor <;> (rintro ⟨rfl, rfl, rfl⟩; exact ⟨rfl, rfl, rfl⟩)
theorem get_byt {s : ByteArray} {i : Nat} {b : UInt8} : s.data.toList[i]? = some b ↔ i < s.size ∧ byt s i = b.toNat := by
  by_cases h : i < s.size
  · rw [get_lt h]
    simp only [Option.some.injEq, h, true_and]
    unfold byt
    exact ⟨fun e => by rw [e], fun e => UInt8.toNat_inj.1 e⟩
  · have : s.data.toList[i]? = none := by rw [Array.getElem?_toList]; exact Array.getElem?_eq_none (Nat.le_of_not_lt h)
    rw [this]
    simp [h]
theorem pre_fffd (s : ByteArray) (i : Nat) : Lib.hasPrefix (s.extract i s.size).data.toList [239, 191, 189] = decide (byt s i = 239 ∧ byt s (i + 1) = 191 ∧ byt s (i + 2) = 189) := by
  unfold Lib.hasPrefix
  rw [isPrefixOf_three]
  have e : ∀ (k : Nat) (b : UInt8), 0 < b.toNat → ((s.extract i s.size).data.toList[k]? = some b ↔ byt s (i + k) = b.toNat) := by
    intro k b hb
    rw [get_byt, ext_byt, ext_size]
    constructor
    · exact fun h => h.2
    · intro h
      refine ⟨?_, h⟩
      by_cases hk : i + k < s.size
      · omega
      · rw [byt_out hk] at h; omega
  rw [Bool.eq_iff_iff]
  simp only [Bool.and_eq_true, decide_eq_true_eq, e 0 239 (by decide), e 1 191 (by decide), e 2 189 (by decide), Nat.add_zero, and_assoc]
  exact Iff.rfl
end Go
namespace Go.Proofs.Ytccamjnomjcchaa
open Go.RowKit

set_option maxHeartbeats 800000 in
theorem bad_any (s : ByteArray) (i : Nat) (h : i < s.size) (hs : s.size ≤ maxLen) (w : World) :
    Calls Try.prog 114 #[.string s, .int .i64 i, .int .i32 (Utf8.decode s i).1] w fun e w' => e = .returned (.bool (badAt s i)) ∧ w' = w := by
  have hb := bad_iff h
  have hp := pre_fffd s i
  have hi : (i : Int) ≤ (s.size : Int) := by omega
  obtain ⟨X, hX⟩ : ∃ X : Bool, decide (byt s i = 239 ∧ byt s (i + 1) = 191 ∧ byt s (i + 2) = 189) = X := ⟨_, rfl⟩
  have HC : Hid (∀ w, Calls Try.prog 116 #[.string (s.extract i s.size), .string ⟨#[239, 191, 189]⟩] w fun e w' => e = .returned (.bool X) ∧ w' = w) := Lib.hid (fun w => by
    have := Try.strings_HasPrefix (s.extract i s.size) ⟨#[239, 191, 189]⟩ w
    rw [show (⟨#[239, 191, 189]⟩ : ByteArray).data.toList = [239, 191, 189] from rfl, hp, hX] at this
    exact this)
  have HB : Hid ((badAt s i) = (decide ((Utf8.decode s i).1 = 65533) && !X)) := Lib.hid (by
    rw [← hX, Bool.eq_iff_iff, hb, Bool.and_eq_true, Bool.not_eq_true', decide_eq_true_eq, decide_eq_false_iff_not])
  clear hb hp hX
  generalize badAt s i = B at *
  generalize (Utf8.decode s i).1 = r at *
  go_enter Try.func114, Try.ntmps114
  by_cases hr : (r : Int) = 65533
  · have hB : B = !X := by rw [HB.out]; simp; omega
    rw [hr]
    subst hB
    go_wp2_with fail
    refine (HC.out _).mono ?_
    rintro e w1 ⟨rfl, rfl⟩
    go_wp2
    go_ret
    exact ⟨rfl, rfl⟩
  · have hB : B = false := by rw [HB.out]; simp; omega
    subst hB
    have hrb : ((r : Int) == 65533) = false := by simp; omega
    go_wp2
    go_ret
    exact ⟨rfl, rfl⟩
end Go.Proofs.Ytccamjnomjcchaa
/- text.Count, text.Right: the runes of a text. -/
set_option linter.unusedVariables false
set_option linter.unusedSimpArgs false
namespace Go
open Go.RowKit
def rl (s : ByteArray) : Nat → Nat → List (Nat × Nat)
  | 0, _ => []
  | f + 1, p => if p < s.size then ((Utf8.decode s p).1, p) :: rl s f (p + (Utf8.decode s p).2) else []
def runesF (s : ByteArray) : List (Nat × Nat) := rl s s.size 0
def rightF (s : ByteArray) : Bool := (runesF s).all (fun x => !badAt s x.2)
theorem rl_end (s : ByteArray) (f p : Nat) (h : ¬ p < s.size) : rl s f p = [] := by
  cases f with
  | zero => rfl
  | succ f => simp [rl, h]
theorem rl_step (s : ByteArray) (f p : Nat) (h : p < s.size) : rl s (f + 1) p = ((Utf8.decode s p).1, p) :: rl s f (p + (Utf8.decode s p).2) := by simp [rl, h]
theorem below_iter (w : World) (s : ByteArray) (p : Nat) : Below w.heap.size w (w.iter s p) := (Below.refl _ _).alloc (Nat.le_refl _) _
end Go
namespace Go.Proofs.Ytccamjnomjcchaa
open Go.RowKit

set_option maxHeartbeats 800000 in
theorem count_any (s : ByteArray) (hs : s.size ≤ maxLen) (w : World) :
    Calls Try.prog 110 #[.string s] w fun e w' => e = .returned (.tuple #[.int .i64 (if rightF s then ((runesF s).length : Int) else 0), .bool (rightF s)]) ∧ Below w.heap.size w w' := by
  have hs2 : s.size ≤ 9223372036854775807 := by unfold maxLen at hs; omega
  obtain ⟨C, hC⟩ : ∃ C : Int, (if rightF s then ((runesF s).length : Int) else 0) = C := ⟨_, rfl⟩
  rw [hC]
  obtain ⟨T, hT⟩ : ∃ T : Bool, rightF s = T := ⟨_, rfl⟩
  rw [hT] at hC ⊢
  have HC := Lib.hid hC
  have HT := Lib.hid hT
  clear hC hT
  go_enter Try.func110, Try.ntmps110
  go_wp2
  go_loopw [4] (fun n wr => ∃ (p f : Nat) (pre : List (Nat × Nat)), n = .int .i64 (pre.length : Int) ∧ wr = w.iter s p ∧ Hid (runesF s = pre ++ rl s f p) ∧ Hid (pre.all (fun x => !badAt s x.2) = true) ∧ s.size ≤ p + f ∧ pre.length ≤ p ∧ p ≤ s.size) (fun n _ => s.size - (intOf n).toNat)
  case atStart => exact ⟨0, s.size, [], rfl, rfl, Lib.hid rfl, Lib.hid rfl, by omega, by simp, by omega⟩
  case round =>
    obtain ⟨p, f, pre, rfl, rfl, HR, HA, hpf, hpl, hps⟩ := hrel
    by_cases hp : p < s.size
    · obtain ⟨f, rfl⟩ : ∃ g, f = g + 1 := ⟨f - 1, by omega⟩
      have hnx : ∀ ty, (Instr.next (.pointer (some ⟨w.heap.size, 0, none⟩)) true ty).run Try.prog (w.iter s p) = _ := fun ty => run_next_any w s p ty hp
      have hwd := decode_wid hp
      have hbad := bad_any s p hp hs
      rw [rl_step s f p hp] at HR
      have HRT : Hid (badAt s p = true → rightF s = false) := Lib.hid (fun h => by
        unfold rightF
        rw [HR.out, List.all_append, List.all_cons]
        simp [h])
      obtain ⟨B, hB⟩ : ∃ B, badAt s p = B := ⟨_, rfl⟩
      have HBB := Lib.hid hB
      rw [hB] at hbad HRT
      clear hB
      obtain ⟨W, hW⟩ : ∃ W, p + (Utf8.decode s p).2 = W := ⟨_, rfl⟩
      rw [hW] at hnx HR
      obtain ⟨R, hR⟩ : ∃ R, (Utf8.decode s p).1 = R := ⟨_, rfl⟩
      rw [hR] at hnx hbad HR
      have HBAD := Lib.hid hbad
      have hbW : Below w.heap.size w (w.iter s W) := below_iter w s W
      have hWb : p < W ∧ W ≤ s.size := by omega
      clear hbad hwd hR hW
      go_wp2_with fail
      refine (HBAD.out _).mono ?_
      rintro e w1 ⟨rfl, rfl⟩
      cases B with
      | true =>
        have HF := Lib.hid (HRT.out rfl)
        clear HRT
        go_wp2
        refine bodyPost_ret (v := .tuple #[.int .i64 0, .bool false]) (by simp [results, Try.results110, go_sem]) rfl ⟨?_, hbW⟩
        rw [← HC.out, ← HT.out, HF.out]; rfl
      | false =>
        have hlen : Value.int .i64 ((pre.length : Int) + 1) = Value.int .i64 (((pre ++ [(R, p)]).length : Nat) : Int) := by simp
        have hw0 : IntKind.i64.wrap ((pre.length : Int) + 1) = (pre.length : Int) + 1 := IntWalk.i64_in _ (by omega)
        go_wp2
        go_roundw
        case rel => exact ⟨W, f, pre ++ [(R, p)], rfl, rfl, Lib.hid (by rw [HR.out, List.append_assoc]; rfl), Lib.hid (by rw [List.all_append, HA.out]; simp [HBB.out]), by omega, by simp; omega, by omega⟩
        case measure => simp [intOf]; omega
    · have hnx : ∀ ty, (Instr.next (.pointer (some ⟨w.heap.size, 0, none⟩)) true ty).run Try.prog (w.iter s p) = _ := fun ty => Lib.run_next_end_at (w.iter s p) w.heap.size s p ty (World.iter_heap w s p) hp
      have hbW : Below w.heap.size w (w.iter s p) := below_iter w s p
      rw [rl_end s f p hp, List.append_nil] at HR
      have hF : rightF s = true := by unfold rightF; rw [HR.out]; exact HA.out
      have HF := Lib.hid hF
      clear hF HA
      go_wp2
      refine bodyPost_ret (v := .tuple #[.int .i64 (pre.length : Int), .bool true]) (by simp [results, Try.results110, go_sem]) rfl ⟨?_, hbW⟩
      rw [← HC.out, ← HT.out, HF.out, HR.out]; simp

theorem right_any (s : ByteArray) (hs : s.size ≤ maxLen) (w : World) :
    Calls Try.prog 112 #[.string s] w fun e w' => e = .returned (.bool (rightF s)) ∧ Below w.heap.size w w' := by
  have hc := Lib.hid (count_any s hs)
  generalize (if rightF s then ((runesF s).length : Int) else 0) = C at *
  generalize rightF s = T at *
  go_enter Try.func112, Try.ntmps112
  go_wp2_with fail
  refine (hc.out _).mono ?_
  rintro e w1 ⟨rfl, hb⟩
  go_wp2
  go_ret
  exact ⟨rfl, hb⟩
end Go.Proofs.Ytccamjnomjcchaa
/- text.letter, text.Name. -/
set_option linter.unusedVariables false
set_option linter.unusedSimpArgs false
set_option maxRecDepth 100000
namespace Go
open Go.RowKit
def letterF (r : Nat) : Bool := decide (97 ≤ r ∧ r ≤ 122 ∨ 65 ≤ r ∧ r ≤ 90 ∨ r = 95 ∨ 128 ≤ r)
def otherF (r : Nat) : Bool := decide (r = 45 ∨ r = 46 ∨ 48 ≤ r ∧ r ≤ 57)
def nameAt (x : Nat × Nat) : Bool := letterF x.1 || (decide (x.2 ≠ 0) && otherF x.1)
def nameF (s : ByteArray) : Bool := rightF s && decide (1 ≤ (runesF s).length ∧ (runesF s).length ≤ 32) && (runesF s).all nameAt
end Go
namespace Go.Proofs.Ytccamjnomjcchaa
open Go.RowKit

set_option maxHeartbeats 800000 in
theorem letter_any (r : Nat) (hr : r ≤ 1114111) (w : World) :
    Calls Try.prog 111 #[.int .i32 (r : Int)] w fun e w' => e = .returned (.bool (letterF r)) ∧ w' = w := by
  have hL : Hid (letterF r = decide (97 ≤ r ∧ r ≤ 122 ∨ 65 ≤ r ∧ r ≤ 90 ∨ r = 95 ∨ 128 ≤ r)) := Lib.hid rfl
  generalize letterF r = L at *
  go_enter Try.func111, Try.ntmps111
  go_wp2
  all_goals (go_ret; refine ⟨ret_bool ?_, rfl⟩; rw [hL.out]; clear hL; first | (simp_all; done) | (rw [Bool.eq_iff_iff]; simp only [Bool.or_eq_true, decide_eq_true_eq, beq_iff_eq]; omega) | (simp_all; omega))

set_option maxHeartbeats 1600000 in
theorem name_any (s : ByteArray) (hs : s.size ≤ maxLen) (w : World) :
    Calls Try.prog 95 #[.string s] w fun e w' => e = .returned (.bool (nameF s)) ∧ Below w.heap.size w w' := by
  have hs2 : s.size ≤ 9223372036854775807 := by unfold maxLen at hs; omega
  have hc := Lib.hid (count_any s hs)
  have hN : Hid (nameF s = (rightF s && decide (1 ≤ (runesF s).length ∧ (runesF s).length ≤ 32) && (runesF s).all nameAt)) := Lib.hid rfl
  generalize nameF s = N at *
  obtain ⟨C, hC⟩ : ∃ C : Int, (if rightF s then ((runesF s).length : Int) else 0) = C := ⟨_, rfl⟩
  rw [hC] at hc
  obtain ⟨T, hT⟩ : ∃ T : Bool, rightF s = T := ⟨_, rfl⟩
  rw [hT] at hC hc hN
  clear hT
  go_enter Try.func95, Try.ntmps95
  go_wp2_with fail
  refine (hc.out _).mono ?_
  rintro e w1 ⟨rfl, hb1⟩
  have hs1 := hb1.size
  cases T with
  | false =>
    have hn : N = false := by rw [hN.out]; rfl
    subst hn
    clear hC hN hc
    go_wp2
    go_ret
    exact ⟨rfl, hb1⟩
  | true =>
    rw [if_pos rfl] at hC
    by_cases h1 : C < 1
    · have hn : N = false := by rw [hN.out]; have : ¬ 1 ≤ (runesF s).length := by omega
                                simp [this]
      subst hn
      clear hC hN hc
      go_wp2
      go_ret
      exact ⟨rfl, hb1⟩
    · by_cases h2 : 32 < C
      · have hn : N = false := by rw [hN.out]; have : ¬ (runesF s).length ≤ 32 := by omega
                                  simp [this]
        subst hn
        clear hC hN hc
        go_wp2
        go_ret
        exact ⟨rfl, hb1⟩
      · have HN : Hid (N = (runesF s).all nameAt) := Lib.hid (by
          rw [hN.out]
          have : 1 ≤ (runesF s).length ∧ (runesF s).length ≤ 32 := by omega
          simp [this])
        clear hC hN hc
        go_wp2
        go_loopw [] (fun wr => ∃ (p f : Nat) (pre : List (Nat × Nat)), wr = w1.iter s p ∧ Hid (runesF s = pre ++ rl s f p) ∧ Hid (pre.all nameAt = true) ∧ s.size ≤ p + f ∧ p ≤ s.size) (fun wr => s.size - wr.iterPos w1.heap.size)
        case atStart => exact ⟨0, s.size, [], rfl, Lib.hid rfl, Lib.hid rfl, by omega, by omega⟩
        case round =>
          obtain ⟨p, f, pre, rfl, HR, HA, hpf, hps⟩ := hrel
          by_cases hp : p < s.size
          · obtain ⟨f, rfl⟩ : ∃ g, f = g + 1 := ⟨f - 1, by omega⟩
            have hnx : ∀ ty, (Instr.next (.pointer (some ⟨w1.heap.size, 0, none⟩)) true ty).run Try.prog (w1.iter s p) = _ := fun ty => run_next_any w1 s p ty hp
            have hwd := decode_wid hp
            rw [rl_step s f p hp] at HR
            obtain ⟨W, hW⟩ : ∃ W, p + (Utf8.decode s p).2 = W := ⟨_, rfl⟩
            rw [hW] at hnx HR
            obtain ⟨R, hR⟩ : ∃ R, (Utf8.decode s p).1 = R := ⟨_, rfl⟩
            rw [hR] at hnx HR hwd
            have hlet := letter_any R hwd.2.2.2
            have hbW : Below w.heap.size w (w1.iter s W) := hb1.trans ((below_iter w1 s W).mono hs1)
            have hWb : p < W ∧ W ≤ s.size := by omega
            have HX : Hid (nameAt (R, p) = (letterF R || (decide (p ≠ 0) && otherF R))) := Lib.hid rfl
            have HXF : Hid (nameAt (R, p) = false → N = false) := Lib.hid (fun h => by
              rw [HN.out, HR.out, List.all_append, List.all_cons, h]; simp)
            have HXT : Hid (nameAt (R, p) = true → (pre ++ [(R, p)]).all nameAt = true) := Lib.hid (fun h => by
              rw [List.all_append, HA.out]; simp [h])
            have HOT : Hid (otherF R = decide (R = 45 ∨ R = 46 ∨ 48 ≤ R ∧ R ≤ 57)) := Lib.hid rfl
            generalize nameAt (R, p) = X at *
            generalize letterF R = L at *
            have HLT := Lib.hid hlet
            have hRb : R ≤ 1114111 := hwd.2.2.2
            clear hlet hwd hR hW
            go_wp2_with fail
            refine (HLT.out _).mono ?_
            rintro e w2 ⟨rfl, rfl⟩
            cases L with
            | true =>
              have hX : X = true := by rw [HX.out]; rfl
              have HP := Lib.hid (HXT.out hX)
              clear HX HXF HXT HOT HLT hX
              go_wp2
              go_roundw
              case rel => exact ⟨W, f, pre ++ [(R, p)], rfl, Lib.hid (by rw [HR.out, List.append_assoc]; rfl), HP, by omega, by omega⟩
              case measure => simp; omega
            | false =>
              by_cases hp0 : p = 0
              · subst hp0
                have hN0 : N = false := HXF.out (by rw [HX.out]; rfl)
                subst hN0
                clear HX HXF HXT HOT HLT HN HR HA
                go_wp2
                go_ret
                exact ⟨rfl, hbW⟩
              · have hpb : ((p : Int) == 0) = false := by rw [beq_eq_false_iff_ne]; omega
                by_cases r1 : (R : Int) = 45
                · have hR1 : R = 45 := by omega
                  have hX : X = true := by rw [HX.out, HOT.out]; simp; omega
                  have HP := Lib.hid (HXT.out hX)
                  clear HX HXF HXT HOT HLT hX
                  go_wp2
                  all_goals (refine ⟨⟨W, f, pre ++ [(R, p)], rfl, Lib.hid (by rw [HR.out, List.append_assoc]; rfl), HP, by omega, by omega⟩, ?_⟩; simp; omega)
                · by_cases r2 : (R : Int) = 46
                  · have hR1 : R = 46 := by omega
                    have hX : X = true := by rw [HX.out, HOT.out]; simp; omega
                    have HP := Lib.hid (HXT.out hX)
                    clear HX HXF HXT HOT HLT hX
                    go_wp2
                    all_goals (refine ⟨⟨W, f, pre ++ [(R, p)], rfl, Lib.hid (by rw [HR.out, List.append_assoc]; rfl), HP, by omega, by omega⟩, ?_⟩; simp; omega)
                  · have n1 : ((R : Int) != 45) = true := bne_iff_ne.2 r1
                    have n2 : ((R : Int) != 46) = true := bne_iff_ne.2 r2
                    by_cases r3 : (R : Int) < 48
                    · have hN0 : N = false := HXF.out (by rw [HX.out, HOT.out]; simp; omega)
                      subst hN0
                      clear HX HXF HXT HOT HLT HN HR HA
                      go_wp2
                      go_ret
                      exact ⟨rfl, hbW⟩
                    · by_cases r4 : 57 < (R : Int)
                      · have hN0 : N = false := HXF.out (by rw [HX.out, HOT.out]; simp; omega)
                        subst hN0
                        clear HX HXF HXT HOT HLT HN HR HA
                        go_wp2
                        go_ret
                        exact ⟨rfl, hbW⟩
                      · have hX : X = true := by rw [HX.out, HOT.out]; simp; omega
                        have HP := Lib.hid (HXT.out hX)
                        clear HX HXF HXT HOT HLT hX
                        go_wp2
                        go_roundw
                        case rel => exact ⟨W, f, pre ++ [(R, p)], rfl, Lib.hid (by rw [HR.out, List.append_assoc]; rfl), HP, by omega, by omega⟩
                        case measure => simp; omega
          · have hnx : ∀ ty, (Instr.next (.pointer (some ⟨w1.heap.size, 0, none⟩)) true ty).run Try.prog (w1.iter s p) = _ := fun ty => Lib.run_next_end_at (w1.iter s p) w1.heap.size s p ty (World.iter_heap w1 s p) hp
            have hbW : Below w.heap.size w (w1.iter s p) := hb1.trans ((below_iter w1 s p).mono hs1)
            rw [rl_end s f p hp, List.append_nil] at HR
            have hF : N = true := by rw [HN.out, HR.out]; exact HA.out
            subst hF
            clear HR HA HN
            go_wp2
            go_ret
            exact ⟨rfl, hbW⟩
end Go.Proofs.Ytccamjnomjcchaa

/-
  Rows of rings: graticulelaw03.Cut, graticulelaw23.Cut, left; an opener for [][]api.Point.
-/
import Derived.Test.YtephdnahmgfmeaaRpts
set_option linter.unusedVariables false
set_option linter.unusedSimpArgs false
set_option maxRecDepth 4000
namespace Go
open Go.RowKit

/-- A slice of points, with its address and capacity. -/
structure PC where
  l : List Pt
  p : Option Addr
  c : Nat
instance : Inhabited PC := ⟨⟨[], none, 0⟩⟩
def PC.val (x : PC) : Value := .slice x.p x.l.length x.c
def PC.cells (x : PC) : List Value := [x.val]
def PC.Ok (W : World) (x : PC) : Prop := Rd W x.p (pts x.l) ∧ x.l.length ≤ x.c ∧ x.c ≤ maxLen ∧ (x.p = none → x.c = 0)
theorem PC.Ok.keep {w w' : World} {x : PC} (h : x.Ok w) (hb : Below w.heap.size w w') : x.Ok w' := ⟨h.1.keep hb, h.2⟩
def PC.cut (x : PC) : PC := ⟨x.l.take 40, x.p, x.c⟩
theorem PC.Ok.cut {w : World} {x : PC} (h : x.Ok w) : x.cut.Ok w :=
  ⟨by have := h.1.take (40 * 2); rw [pts_take] at this; exact this, by have := h.2.1; simp [PC.cut]; omega, h.2.2.1, h.2.2.2⟩
def lefty (l : List Pt) : Bool := decide (0 < areaF l)
theorem lefty_eq (l : List Pt) : lefty l = (decide (2 < l.length) && (l.all okPt && decide (0 < sho l))) := by
  unfold lefty areaF
  by_cases h1 : l.length < 3
  · rw [if_pos (.inl h1), decide_eq_false (by omega : ¬ 2 < l.length)]; rfl
  · cases h2 : l.all okPt with
    | false => rw [if_pos (.inr rfl)]; simp
    | true => rw [if_neg (by simp; omega), fan_sho, decide_eq_true (by omega : 2 < l.length)]; simp
end Go
namespace Go.Proofs.Ytephdnahmgfmeaa
open Go.RowKit Go.ChangeShapes Go.WideShapes Go.ChangeAt
theorem Try.infoPts : (Try.prog.info? 27).map (fun i => (i.zero, i.size, i.bytes)) = some (some (.slice none 0 0), 1, 24) := by kernel_rfl

theorem one_ring {H : Type} {enc : TypeId × Value → H} {W : World} {base : Nat} {spare : Nat → Bool} {held : Bool} (hsp : ∀ b, spare b = true) (n : Nat) (cs' : List Value) (z : DataW H × List MemPlace) (hl : cs'.length = 1)
    (h : DataW.trod enc Try.prog W base spare held n 27 cs' = some z) : ∃ y : PC, cs' = y.cells ∧ y.Ok W := by
  have c3 : Try.prog.cellsOf 3 = 1 := by kernel_rfl
  match cs', hl with
  | [v], _ =>
    obtain ⟨a, l, c, rfl⟩ : ∃ a l c, v = .slice a l c := by
      rcases DataW.trod_slice Try.underlying27 h with ⟨hc, _⟩ | ⟨a, l, c, _, _, _, _, hc, _⟩
      · simp at hc; exact ⟨_, _, _, hc⟩
      · simp at hc; exact ⟨_, _, _, hc⟩
    obtain ⟨xs, rfl, h1, h2, h3, h4, -⟩ := open_flat 2 (by decide) Pt.cells (fun _ => True) (fun _ => rfl) Try.underlying27 (by kernel_rfl) (fun n cs z hcl ht => by
      obtain ⟨ys, k, hk, hxy, _, hxl, hf⟩ := DataW.trod_struct Try.underlying59 ht
      match ys, hxl, cs, hcl with
      | [y0, y1], _, [v0, v1], _ =>
        have g0 := hf 0 _ rfl
        have g1 := hf 1 _ rfl
        simp [c3] at g0 g1
        obtain ⟨n0, e0, -, w0⟩ := DataW.trod_int Try.underlying3 g0
        obtain ⟨n1, e1, -, w1⟩ := DataW.trod_int Try.underlying3 g1
        simp at e0 e1
        subst e0 e1
        exact ⟨⟨n0, n1⟩, rfl, trivial⟩) h
    exact ⟨⟨xs, a, c⟩, rfl, h4, h1, h2, h3⟩

theorem open_rings {H : Type} {enc : TypeId × Value → H} {W : World} {base : Nat} {spare : Nat → Bool} {fuel : Nat} {a : Option Addr} {len cap : Nat} {x : DataW H × List MemPlace} {held : Bool} (hsp : ∀ b, spare b = true)
    (h : DataW.trod enc Try.prog W base spare held fuel 22 [.slice a len cap] = some x) :
    ∃ xs : List PC, len = xs.length ∧ len ≤ cap ∧ cap ≤ maxLen ∧ (a = none → cap = 0) ∧ Rd W a (xs.flatMap PC.cells) ∧ ∀ y ∈ xs, y.Ok W :=
  open_flat 1 (by decide) PC.cells (PC.Ok W) (fun _ => rfl) Try.underlying22 (by kernel_rfl) (fun n cs' z hl hz => one_ring hsp n cs' z hl hz) h

theorem cut3_any (x : PC) (w : World) (hx : x.Ok w) :
    Calls Try.prog 21 #[x.val] w fun e w' => e = .returned x.cut.val ∧ w = w' := by
  obtain ⟨l, p, c⟩ := x
  obtain ⟨h1, h2, h3, h4⟩ := hx
  dsimp only [PC.val, PC.cut] at *
  unfold maxLen at h3
  obtain ⟨N, hN⟩ : ∃ N, l.length = N := ⟨_, rfl⟩
  have hT : (l.take 40).length = min 40 N := by rw [List.length_take, hN]
  rw [hT]
  rw [hN] at h2 ⊢
  clear hT hN h1
  obtain ⟨z0, hz0⟩ : ∃ z : Int, (if (40 : Int) < (N : Int) then (40 : Int) else (N : Int)) = z := ⟨_, rfl⟩
  have e0 : z0.toNat = min 40 N := by rw [← hz0]; split <;> omega
  have hz1 : 0 ≤ z0 ∧ z0 ≤ c := by rw [← hz0]; split <;> omega
  go_enter Try.func21, Try.ntmps21
  go_wp2
  go_ret
  exact ⟨rfl, rfl⟩

set_option maxHeartbeats 800000 in
theorem left_any (x : PC) (w : World) (hx : x.Ok w) (hl : x.l.length ≤ 1000) :
    Calls Try.prog 7 #[x.val] w fun e w' => e = .returned (.bool (lefty x.l)) ∧ Below w.heap.size w w' := by
  obtain ⟨l, p, c⟩ := x
  obtain ⟨h1, h2, h3, h4⟩ := hx
  dsimp only [PC.val] at *
  have hof := lofs_any p c l (by omega) w h1
  have HLF := Lib.hid (lefty_eq l)
  have hal := fun a c W h => rall_any a c l (by omega) W h
  have har := fun hok a c W h => rarea3_any a c l hl hok W h
  generalize lefty l = LF at *
  generalize sho l = SH at *
  have HOF := Lib.hid hof
  have HAL := Lib.hid hal
  have HAR := Lib.hid har
  obtain ⟨N, hN⟩ : ∃ N, l.length = N := ⟨_, rfl⟩
  rw [hN] at HOF HAL HAR HLF hl ⊢
  clear hof hal har hN h1 h2 h3 h4
  go_enter Try.func7, Try.ntmps7
  go_wp2_with fail
  refine HOF.out.mono ?_
  rintro e w1 ⟨v1, rfl, hown1, hb1⟩
  obtain ⟨a1, c1, rfl, -, -, -, hr1, -⟩ := hown1.form
  have hs1 := hb1.size
  clear HOF hown1
  by_cases h2 : 2 < N
  · have h2' : (2 : Int) < (N : Int) := by omega
    cases hok : l.all okPt with
    | true =>
      rw [hok] at HAL HLF
      have HA2 := Lib.hid (HAR.out hok)
      have hok' := Lib.hid hok
      clear hok HAR
      go_wp2_with fail
      refine (HAL.out a1 c1 w1 hr1).mono ?_
      rintro e w2 ⟨rfl, hb2⟩
      have hb3 := hb1.trans (hb2.mono hs1)
      have hr2 := hr1.keep hb2
      have hA3 := Lib.hid (HA2.out a1 c1 w2 hr2)
      clear HAL hb1 hb2 hr1 hr2 HA2
      go_wp2_with fail
      refine hA3.out.mono ?_
      rintro e w3 ⟨rfl, hb4⟩
      have hb5 := hb3.trans (hb4.mono hb3.size)
      clear hA3 hb3 hb4
      go_wp2
      go_ret
      refine ⟨ret_bool ?_, hb5⟩
      rw [HLF.out]
      simp [h2]
    | false =>
      rw [hok] at HAL HLF
      have hok' := Lib.hid hok
      clear hok HAR
      go_wp2_with fail
      refine (HAL.out a1 c1 w1 hr1).mono ?_
      rintro e w2 ⟨rfl, hb2⟩
      have hb3 := hb1.trans (hb2.mono hs1)
      clear HAL hb1 hb2 hr1
      go_wp2
      go_ret
      refine ⟨ret_bool ?_, hb3⟩
      rw [HLF.out]
      simp
  · have h2' : ¬ (2 : Int) < (N : Int) := by omega
    go_wp2
    go_ret
    refine ⟨ret_bool ?_, hb1⟩
    rw [HLF.out]
    simp [h2]
end Go.Proofs.Ytephdnahmgfmeaa

/-
  value.Bytes. Opening a law's arguments: a slice whose elements have several cells (structs), or are slices themselves, as 'Rd'. Points: how they lie, and what the program says of them. Opening a law's arguments: a point. Slices of points that come in: PC; an opener for []api.Point. graticulelaw03.Cut. Rows of rings: an opener for [][]api.Point. exact.within, Right, Cross. exact.within, Right, Cross. A ring's edges, as pairs of points; a yield's answer as a letter. ring.edges: the iterator. A region that draws its order, inside a round of a range over a function: walked once, in the text's order, by the laws outside rounds.
-/
import Derived.Test.YtjggoajfilnfjaaGreatPk7
import Derived.Test.YtjggoajfilnfjaaGreatPk8
import Derived.Test.YtjggoajfilnfjaaGreatPk1
import Derived.Deep.Slices
import Derived.Test.YtjggoajfilnfjaaGreatPk3
import Derived.Test.YtjggoajfilnfjaaGreatProg
import Derived.Test.YtjggoajfilnfjaaGreatPk6
import Derived.Shelf.Abstract
import Derived.Shelf.RegionOpen
import Derived.OwnWalkIn
import Derived.TacticsInMore
import Derived.LoopNIn
import Derived.LoopIn
import Derived.BigRegionIn
import Derived.Stop.RegionWithIn
import Derived.OrdersIn
import Derived.RangeFuncCalls
import Derived.CallsIn
set_option linter.unusedVariables false
set_option linter.unusedSimpArgs false
set_option maxRecDepth 100000
namespace Go
open Go.RowKit Go.Proto Go.Vint
def vFld (v : VV) : Fld := if v.1 = 1 then ⟨1, 2, 0, bnums v.2.1⟩ else if v.1 = 2 then ⟨5, 0, v.2.2, []⟩ else if v.1 = 3 then ⟨6, 0, zig v.2.2, []⟩ else ⟨7, 0, v.2.2, []⟩
def vby (v : VV) : List Int := if vE v = 0 then fby (vFld v) else []
theorem vFld_ok (v : VV) (h : vE v = 0) : chk (vFld v) = 0 ∧ 0 ≤ (vFld v).n ∧ (vFld v).n ≤ 18446744073709551615 ∧ (∀ x ∈ (vFld v).bs, 0 ≤ x ∧ x ≤ 255) ∧ (vFld v).bs.length ≤ 64 := by
 obtain ⟨k, t, n⟩ := v
 rcases vE_zero _ h with ⟨a, b, c⟩ | ⟨a, b, c, d⟩ | ⟨a, b, c, d⟩ | ⟨a, b, c, d⟩ <;> (dsimp only at a b c; subst a; simp only [vFld])
 ·simp only [if_true]; exact ⟨by simp [chk], by omega, by omega, bnums_bd t, by rw [bnums_len]; exact c⟩
 ·simp only [Int.reduceEq, if_false, if_true]; exact ⟨by simp [chk], c, by dsimp only at d; omega, by simp, by simp⟩
 ·simp only [Int.reduceEq, if_false, if_true]; have := zig_bd n (by omega) (by dsimp only at d; omega); exact ⟨by simp [chk], this.1, this.2, by simp, by simp⟩
 ·simp only [Int.reduceEq, if_false]; exact ⟨by simp [chk], c, by dsimp only at d; omega, by simp, by simp⟩
end Go
namespace Go.Proofs.YtjggoajfilnfjaaGreat
open Go.RowKit Go.Vint Go.Proto

set_option maxHeartbeats 4000000 in
theorem valbytes_any (v : VV) (ht : v.2.1.size ≤ maxLen) (w : World) :
  Calls Tryz.prog 53 #[vVal v] w fun e w' => ∃ x, e = .returned (.tuple #[x, .int .i64 (vE v)]) ∧ w'.ownsRow w.heap.size 5 1 x (vby v).length ((vby v).map (Value.int .u8)) ∧ Below w.heap.size w w' := by
 obtain ⟨k, t, n⟩ := v; have HZ := Lib.hid (vE_zero (k, t, n)); have HO := Lib.hid (vFld_ok (k, t, n)); have HVB := Lib.hid (vby.eq_1 (k, t, n)); have HF : Hid (vFld (k, t, n) = _) := Lib.hid (vFld.eq_1 (k, t, n)); obtain ⟨FL, hFL⟩ : ∃ FL, vFld (k, t, n) = FL := ⟨_, rfl⟩; have HCK := Lib.hid (fun W => vchk_any k n t ht W); obtain ⟨E, hE⟩ : ∃ E, vE (k, t, n) = E := ⟨_, rfl⟩; have hE2 : vcF k t n = E := hE; rw [hE2] at HCK; rw [hE, hFL] at HVB; rw [hE] at HO HZ; rw [hFL] at HO HF; rw [hE]; dsimp only [vVal] at *; obtain ⟨VB, hVB⟩ : ∃ VB, vby (k, t, n) = VB := ⟨_, rfl⟩; rw [hVB] at HVB ⊢; clear hE hE2 hFL hVB; have hb0 := Below.new w (.cells #[.int .i64 k, .string t, .int .i64 n] 101); have k0 := Blk.lit w w.heap.size [.int .i64 k, .string t, .int .i64 n] 101 rfl; obtain ⟨B, hB⟩ : ∃ B, w.heap.size = B := ⟨_, rfl⟩; rw [hB] at k0; have HBE := Lib.hid hB
 go_enter Tryz.func53, Tryz.ntmps53
 go_wp2_with fail
 refine (HCK.out _).mono ?_; rintro e w1 ⟨rfl, hb1⟩; have k1 := k0.keep hb1; have hbw := hb0.trans (hb1.mono hb0.size); have x0 := k1.cell 0 rfl; have x1 := k1.cell 1 rfl; have x2 := k1.cell 2 rfl; clear k0 hb1 hb0 HCK
 by_cases hE : E = 0
 ·subst hE; obtain ⟨o1, o2, o3, o4, o5⟩ := HO.out rfl; have hVB := HVB.out; rw [if_pos rfl] at hVB; have HVB2 := Lib.hid hVB; clear hVB HVB; have hpw : pwr [FL] = (fby FL, 0) := by
   rw [pwr_ok _ (by intro f hf; obtain rfl := List.mem_singleton.1 hf; exact o1)]; simp
  rw [← HVB2.out] at hpw; have HPW := Lib.hid hpw; have HW : Hid (∀ W p c, Rd W p (FL.bs.map (Value.int .u8)) → FL.bs.length ≤ c → c ≤ maxLen → (p = none → c = 0) → Calls Tryz.prog 26 #[.slice (some ⟨W.heap.size, 0, none⟩) 1 1] (W.alloc (.cells #[.int .i64 FL.num, .int .i64 FL.kind, .int .u64 FL.n, .slice p FL.bs.length c] 72)) fun e w' => ∃ x, e = .returned (.tuple #[x, .int .i64 0]) ∧ w'.ownsRow (W.heap.size + 1) 5 1 x VB.length (VB.map (Value.int .u8)) ∧ Below W.heap.size W w') := by
   refine Lib.hid fun W p c h1 h2 h3 h4 => ?_; have hbn := Below.new W (.cells #[.int .i64 FL.num, .int .i64 FL.kind, .int .u64 FL.n, .slice p FL.bs.length c] 72); have h := pwrite_any (some ⟨W.heap.size, 0, none⟩) 1 [⟨FL, p, c⟩] (by intro x hx; obtain rfl := List.mem_singleton.1 hx; exact ⟨o4, o2, o3, by dsimp only; omega⟩) (by simp) _ (Rd.new W (flat [⟨FL, p, c⟩]) 72) (by intro x hx; obtain rfl := List.mem_singleton.1 hx; exact ⟨h1.keep hbn, h2, h3, h4⟩); simp only [List.map_cons, List.map_nil, HPW.out] at h; refine h.mono ?_; rintro e w' ⟨x, rfl, hown, hb⟩; exact ⟨x, rfl, by simpa using hown, hbn.trans (hb.mono (by simp))⟩
  clear o1 o2 o3 o4 o5 hpw HPW HO; have hs1 := hbw.size
  by_cases h1 : k = 1
  ·subst h1; have hF := HF.out; simp only [if_true] at hF; subst hF; obtain ⟨c2, w2, hcv, hr2, hb2, hc1, hc2⟩ := conv_sb (P := Tryz.prog) w1 9 31 5 Tryz.underlying9 Tryz.underlying31 Tryz.underlying5 t; have hw := HW.out w2 (some ⟨w1.heap.size, 0, none⟩) c2 hr2 (by rw [bnums_len]; exact hc1) (hc2 ht) (by simp); rw [bnums_len] at hw; have HW2 := Lib.hid hw; clear hw HW; have hbw2 := hbw.trans (hb2.mono hs1)
   go_wp2_with fail
   refine HW2.out.mono ?_; rintro e w3 ⟨x, rfl, hown, hb3⟩; have hbw3 := hbw2.trans (hb3.mono hbw2.size); have hown3 : w3.ownsRow w.heap.size _ _ _ _ _ := hown.mono (by have := hbw2.size; omega); clear HW2 hown hb3; go_wp2; refine bodyPost_ret (v := .tuple #[x, .int .i64 0]) (by simp [results, Tryz.results53, go_sem]) rfl ⟨x, rfl, ?_, ?_⟩
   ·first | exact hown3 | (rw [← HBE.out]; exact hown3)
   ·first | exact hbw3 | (rw [← HBE.out]; exact hbw3)
  ·have e1 : (k == 1) = false := by simpa using h1
   have hz := HZ.out rfl
   try dsimp only at hz
   by_cases h2 : k = 2
   ·subst h2; have hF := HF.out; simp only [Int.reduceEq, if_false, if_true] at hF; subst hF; have hn0 : 0 ≤ n := by omega
    have hn1 : n ≤ 1152921504606846976 := by omega
    clear hz; have hw := HW.out w1 none 0 (Rd.nil _ _) (by simp) (by simp [maxLen]) (by simp); dsimp only [List.length_nil] at hw; have HW2 := Lib.hid hw; clear hw HW
    go_wp2_with fail
    refine HW2.out.mono ?_; rintro e w3 ⟨x, rfl, hown, hb3⟩; have hbw3 := hbw.trans (hb3.mono hs1); have hown3 : w3.ownsRow w.heap.size _ _ _ _ _ := hown.mono (by omega); clear HW2 hown hb3; go_wp2; refine bodyPost_ret (v := .tuple #[x, .int .i64 0]) (by simp [results, Tryz.results53, go_sem]) rfl ⟨x, rfl, ?_, ?_⟩
    ·first | exact hown3 | (rw [← HBE.out]; exact hown3)
    ·first | exact hbw3 | (rw [← HBE.out]; exact hbw3)
   ·have e2 : (k == 2) = false := by simpa using h2
    by_cases h3 : k = 3
    ·subst h3; have hF := HF.out; simp only [Int.reduceEq, if_false, if_true] at hF; subst hF; have hn0 : -1152921504606846976 ≤ n := by omega
     have hn1 : n ≤ 1152921504606846976 := by omega
     clear hz; have hw := HW.out w1 none 0 (Rd.nil _ _) (by simp) (by simp [maxLen]) (by simp); dsimp only [List.length_nil] at hw; have HW2 := Lib.hid hw; clear hw HW
     go_wp2_with fail
     refine (vzig_any n (by omega) (by omega) _).mono ?_; rintro e w2 ⟨rfl, rfl⟩
     go_wp2_with fail
     refine HW2.out.mono ?_; rintro e w3 ⟨x, rfl, hown, hb3⟩; have hbw3 := hbw.trans (hb3.mono hs1); have hown3 : w3.ownsRow w.heap.size _ _ _ _ _ := hown.mono (by omega); clear HW2 hown hb3; go_wp2; refine bodyPost_ret (v := .tuple #[x, .int .i64 0]) (by simp [results, Tryz.results53, go_sem]) rfl ⟨x, rfl, ?_, ?_⟩
     ·first | exact hown3 | (rw [← HBE.out]; exact hown3)
     ·first | exact hbw3 | (rw [← HBE.out]; exact hbw3)
    ·have e3 : (k == 3) = false := by simpa using h3
     obtain rfl : k = 4 := by omega
     have hF := HF.out; simp only [Int.reduceEq, if_false, if_true] at hF; subst hF; have hn0 : 0 ≤ n := by omega
     have hn1 : n ≤ 1 := by omega
     clear hz; have hw := HW.out w1 none 0 (Rd.nil _ _) (by simp) (by simp [maxLen]) (by simp); dsimp only [List.length_nil] at hw; have HW2 := Lib.hid hw; clear hw HW
     go_wp2_with fail
     refine HW2.out.mono ?_; rintro e w3 ⟨x, rfl, hown, hb3⟩; have hbw3 := hbw.trans (hb3.mono hs1); have hown3 : w3.ownsRow w.heap.size _ _ _ _ _ := hown.mono (by omega); clear HW2 hown hb3; go_wp2; refine bodyPost_ret (v := .tuple #[x, .int .i64 0]) (by simp [results, Tryz.results53, go_sem]) rfl ⟨x, rfl, ?_, ?_⟩
     ·first | exact hown3 | (rw [← HBE.out]; exact hown3)
     ·first | exact hbw3 | (rw [← HBE.out]; exact hbw3)
 ·have hE' : (E != 0) = true := by simpa using hE
  have hVB := HVB.out; rw [if_neg hE] at hVB; have HVB2 := Lib.hid hVB; clear hVB HVB; go_wp2; refine bodyPost_ret (v := .tuple #[.slice none 0 0, .int .i64 E]) (by simp [results, Tryz.results53, go_sem]) rfl ⟨_, rfl, ?_, ?_⟩
  ·rw [HVB2.out]; exact World.ownsRow_nil _ _ _ _
  ·first | exact hbw | (rw [← HBE.out]; exact hbw)
end Go.Proofs.YtjggoajfilnfjaaGreat
namespace Go
open Go.ChangeShapes Go.WideShapes Go.ChangeAt Go.RowKit Go.Deep

theorem flatMap_len {α β : Type} (f : α → List β) (m : Nat) (hf : ∀ x, (f x).length = m) (xs : List α) : (xs.flatMap f).length = xs.length * m := by
 induction xs with
 | nil => simp
 | cons x xs ih => rw [List.flatMap_cons, List.length_append, hf, ih, List.length_cons, Nat.succ_mul]; omega

theorem flatMap_get {α β : Type} (f : α → List β) (m : Nat) (hf : ∀ x, (f x).length = m) (xs : List α) (i j : Nat) (hi : i < xs.length) (hj : j < m) : (xs.flatMap f)[i * m + j]? = (f xs[i])[j]? := by
 induction xs generalizing i with
 | nil => simp at hi
 | cons x xs ih =>
  rw [List.flatMap_cons]
  cases i with
  | zero => rw [List.getElem?_append_left (by rw [hf]; omega), Nat.zero_mul, Nat.zero_add, List.getElem_cons_zero]
  | succ i =>
   rw [List.getElem?_append_right (by rw [hf, Nat.succ_mul]; omega), List.getElem_cons_succ, hf, ← ih i (by simpa using hi)]
   congr 1
   rw [Nat.succ_mul]; omega

theorem open_flat {α : Type} [Inhabited α] {H : Type} {enc : TypeId × Value → H} {P : Program} {W : World} {base : Nat} {spare : Nat → Bool} {t e : TypeId} {fuel : Nat} {a : Option Addr} {len cap : Nat} {x : DataW H × List MemPlace} {held : Bool}
  (m : Nat) (hm0 : 0 < m) (cells : α → List Value) (Good : α → Prop) (hcl : ∀ y, (cells y).length = m)
  (ht : P.underlying t = some (.slice e)) (hc : P.cellsOf e = m)
  (one : ∀ n cs' z, cs'.length = m → DataW.trod enc P W base spare held n e cs' = some z → ∃ y, cs' = cells y ∧ Good y)
  (h : DataW.trod enc P W base spare held fuel t [.slice a len cap] = some x) :
  ∃ xs : List α, len = xs.length ∧ len ≤ cap ∧ cap ≤ maxLen ∧ (a = none → cap = 0) ∧ Rd W a (xs.flatMap cells) ∧ ∀ y ∈ xs, Good y := by
 rcases open_slice ht h with ⟨hcs, _⟩ | ⟨ad, l, c, k, n, D, Pl, hcs, hb, hl, hmx, hk, _, hx⟩
 ·simp at hcs; obtain ⟨rfl, rfl, rfl⟩ := hcs; exact ⟨[], rfl, Nat.le_refl _, by simp [maxLen], fun _ => rfl, .inl rfl, by simp⟩
 ·simp at hcs; obtain ⟨rfl, rfl, rfl⟩ := hcs; have hlk : len ≤ k := by rw [hk]; split <;> omega
  have each : ∀ i, i < len → ∃ y : α, Good y ∧ ∀ j v, (cells y)[j]? = some v → W.cell? ((ad.add (i * m)).add j) = some v := by
   intro i hi; obtain ⟨cs', h1, h2⟩ := hx i (by omega); rw [hc] at h1; obtain ⟨_, hlen, hcell⟩ := World.cells?_some h1; obtain ⟨y, rfl, hg⟩ := one _ _ _ hlen h2; refine ⟨y, hg, fun j v hv => ?_⟩; rw [hcell j (by have := (List.getElem?_eq_some_iff.1 hv).1; rw [hcl] at this; exact this)]; exact hv
  obtain ⟨y, hy⟩ := choose_lt each; refine ⟨(List.range len).map y, by simp, hl, hmx, fun h => (by cases h), ?_, ?_⟩
  ·by_cases h0 : len = 0
   ·subst h0; exact .inl rfl
   ·obtain ⟨v0, hv0⟩ : ∃ v, (cells (y 0))[0]? = some v := ⟨_, List.getElem?_eq_getElem (by rw [hcl]; exact hm0)⟩; have hs := cell_spot ((hy 0 (by omega)).2 0 v0 hv0); have hs' : ad.spot = none := by simpa [Addr.add] using hs
    obtain ⟨b, off, sp⟩ := ad; simp only at hs'; subst hs'; refine .inr ⟨b, off, rfl, fun p v hv => ?_⟩; have hp : p < len * m := by
     have := (List.getElem?_eq_some_iff.1 hv).1
     rwa [flatMap_len cells m hcl, List.length_map, List.length_range] at this
    have hi : p / m < len := Nat.div_lt_of_lt_mul (by rw [Nat.mul_comm]; exact hp); have hj : p % m < m := Nat.mod_lt _ hm0; have hpe : p / m * m + p % m = p := Nat.div_add_mod' p m; rw [← hpe, flatMap_get cells m hcl _ _ _ (by simpa using hi) hj] at hv; simp only [List.getElem_map, List.getElem_range] at hv; have := (hy _ hi).2 _ _ hv; rw [add_add, hpe] at this; unfold Addr.add at this
    split at this
    ·subst_vars; simpa using this
    ·simpa using this
  ·intro z hz; obtain ⟨i, hi, rfl⟩ := List.mem_map.1 hz; exact (hy i (List.mem_range.1 hi)).1
end Go
namespace Go
open Go.RowKit

structure Pt where
 x : Int
 y : Int

instance : Inhabited Pt := ⟨⟨0, 0⟩⟩
instance : DecidableEq Pt := fun a b => decidable_of_iff (a.x = b.x ∧ a.y = b.y) (by cases a; cases b; simp)

def Pt.cells (p : Pt) : List Value := [.int .i64 p.x, .int .i64 p.y]
def Pt.val (p : Pt) : Value := .agg #[.int .i64 p.x, .int .i64 p.y]
def pts (l : List Pt) : List Value := l.flatMap Pt.cells

theorem pts_get (l : List Pt) (i j : Nat) (hi : i < l.length) (hj : j < 2) : (pts l)[i * 2 + j]? = (l[i]).cells[j]? := flatMap_get Pt.cells 2 (fun _ => rfl) l i j hi hj
theorem pts_snoc (a : List Pt) (p : Pt) : pts (a ++ [p]) = pts a ++ p.cells := by simp [pts]
theorem Pt.cells_one (p : Pt) : ∀ u ∈ p.cells, u.oneCell' = true := by intro u hu; simp [Pt.cells] at hu; rcases hu with rfl | rfl <;> rfl
theorem pts_take (l : List Pt) (n : Nat) : (pts l).take (n * 2) = pts (l.take n) := by
 induction l generalizing n with
 | nil => simp [pts]
 | cons p l ih =>
  cases n with
  | zero => simp [pts]
  | succ n =>
   have := ih n; simp only [pts, List.flatMap_cons, List.take_succ_cons] at *; rw [← this, show (n + 1) * 2 = 2 + n * 2 by omega, List.take_add]; simp [Pt.cells]

theorem Rd.pt {w : World} {a : Option Addr} {l : List Pt} (h : Rd w a (pts l)) (i : Nat) (hi : i < l.length) :
  ∃ b off, a = some ⟨b, off, none⟩ ∧ b < w.heap.size ∧ w.cell? ⟨b, off + i * 2, none⟩ = some (.int .i64 l[i].x) ∧ w.cell? ⟨b, off + i * 2 + 1, none⟩ = some (.int .i64 l[i].y) := by
 obtain ⟨b, off, rfl, h0, hb⟩ := h.at (i := i * 2 + 0) (v := .int .i64 l[i].x) (by rw [pts_get l i 0 hi (by omega)]; rfl); obtain ⟨b', off', e, h1, -⟩ := h.at (i := i * 2 + 1) (v := .int .i64 l[i].y) (by rw [pts_get l i 1 hi (by omega)]; rfl)
 cases e
 exact ⟨b, off, rfl, hb, h0, by rw [Nat.add_assoc]; exact h1⟩

def okPt (p : Pt) : Bool := decide (-16777216 ≤ p.x ∧ p.x ≤ 16777216) && decide (-16777216 ≤ p.y ∧ p.y ≤ 16777216)
theorem okPt_iff (p : Pt) : okPt p = true ↔ (-16777216 ≤ p.x ∧ p.x ≤ 16777216) ∧ (-16777216 ≤ p.y ∧ p.y ≤ 16777216) := by simp [okPt]

def crs (a b c : Pt) : Int := (b.x - a.x) * (c.y - a.y) - (b.y - a.y) * (c.x - a.x)

theorem mul_bd (a b m n : Int) (ha : -m ≤ a ∧ a ≤ m) (hb : -n ≤ b ∧ b ≤ n) (hm : 0 ≤ m) (hn : 0 ≤ n) : -(m * n) ≤ a * b ∧ a * b ≤ m * n := by
 have h1 : (a * b).natAbs ≤ (m * n).natAbs := by
  rw [Int.natAbs_mul, Int.natAbs_mul]; exact Nat.mul_le_mul (by omega) (by omega)
 have h2 : 0 ≤ m * n := Int.mul_nonneg hm hn; omega

theorem crs_bd (a b c : Pt) (ha : okPt a = true) (hb : okPt b = true) (hc : okPt c = true) : -2251799813685248 ≤ crs a b c ∧ crs a b c ≤ 2251799813685248 := by
 rw [okPt_iff] at ha hb hc; unfold crs; have h1 := mul_bd (b.x - a.x) (c.y - a.y) 33554432 33554432 (by omega) (by omega) (by omega) (by omega); have h2 := mul_bd (b.y - a.y) (c.x - a.x) 33554432 33554432 (by omega) (by omega) (by omega) (by omega); omega
end Go
namespace Go.Proofs.YtjggoajfilnfjaaGreat
open Go.RowKit Go.ChangeShapes Go.WideShapes Go.ChangeAt
def PtIn (p : Pt) : Prop := (Lit.int .i64 p.x).wf = true ∧ (Lit.int .i64 p.y).wf = true
end Go.Proofs.YtjggoajfilnfjaaGreat
namespace Go
open Go.RowKit

structure PC where
 l : List Pt
 p : Option Addr
 c : Nat
instance : Inhabited PC := ⟨⟨[], none, 0⟩⟩
def PC.val (x : PC) : Value := .slice x.p x.l.length x.c
def PC.cells (x : PC) : List Value := [x.val]
def PC.Ok (W : World) (x : PC) : Prop := Rd W x.p (pts x.l) ∧ x.l.length ≤ x.c ∧ x.c ≤ maxLen ∧ (x.p = none → x.c = 0)
theorem PC.Ok.keep {w w' : World} {x : PC} (h : x.Ok w) (hb : Below w.heap.size w w') : x.Ok w' := ⟨h.1.keep hb, h.2⟩
def PC.cut (x : PC) : PC := ⟨x.l.take 40, x.p, x.c⟩
theorem PC.Ok.cut {w : World} {x : PC} (h : x.Ok w) : x.cut.Ok w :=
 ⟨by have := h.1.take (40 * 2); rw [pts_take] at this; exact this, by have := h.2.1; simp [PC.cut]; omega, h.2.2.1, h.2.2.2⟩
end Go
namespace Go.Proofs.YtjggoajfilnfjaaGreat
open Go.RowKit Go.ChangeShapes Go.WideShapes Go.ChangeAt
theorem one_pt {H : Type} {enc : TypeId × Value → H} {W : World} {base : Nat} {spare : Nat → Bool} {held : Bool} (n : Nat) (cs : List Value) (z : DataW H × List MemPlace) (hcl : cs.length = 2)
  (ht : DataW.trod enc Tryz.prog W base spare held n 79 cs = some z) : ∃ y : Pt, cs = y.cells ∧ PtIn y := by
 have c3 : Tryz.prog.cellsOf 3 = 1 := by kernel_rfl
 obtain ⟨ys, k, hk, hxy, _, hxl, hf⟩ := DataW.trod_struct Tryz.underlying79 ht
 match ys, hxl, cs, hcl with
 | [y0, y1], _, [v0, v1], _ =>
  have g0 := hf 0 _ rfl; have g1 := hf 1 _ rfl; simp [c3] at g0 g1; obtain ⟨n0, e0, -, w0⟩ := DataW.trod_int Tryz.underlying3 g0; obtain ⟨n1, e1, -, w1⟩ := DataW.trod_int Tryz.underlying3 g1; simp at e0 e1; subst e0 e1; exact ⟨⟨n0, n1⟩, rfl, w0, w1⟩
theorem open_pts {H : Type} {enc : TypeId × Value → H} {W : World} {base : Nat} {spare : Nat → Bool} {fuel : Nat} {a : Option Addr} {len cap : Nat} {x : DataW H × List MemPlace} {held : Bool} (hsp : ∀ b, spare b = true)
  (h : DataW.trod enc Tryz.prog W base spare held fuel 80 [.slice a len cap] = some x) :
  ∃ xs : List Pt, len = xs.length ∧ len ≤ cap ∧ cap ≤ maxLen ∧ (a = none → cap = 0) ∧ Rd W a (pts xs) ∧ ∀ y ∈ xs, PtIn y :=
 open_flat 2 (by decide) Pt.cells PtIn (fun _ => rfl) Tryz.underlying80 (by kernel_rfl) (fun n cs' z hl hz => one_pt n cs' z hl hz) h
end Go.Proofs.YtjggoajfilnfjaaGreat
namespace Go.Proofs.YtjggoajfilnfjaaGreat
open Go.RowKit
theorem cut3_free (p : Option Addr) (c N : Nat) (h2 : N ≤ c) (h3 : c ≤ maxLen) (w : World) :
  Calls Tryz.prog 45 #[.slice p N c] w fun e w' => e = .returned (.slice p (min 40 N) c) ∧ w = w' := by
 unfold maxLen at h3; obtain ⟨z0, hz0⟩ : ∃ z : Int, (if (40 : Int) < (N : Int) then (40 : Int) else (N : Int)) = z := ⟨_, rfl⟩; have e0 : z0.toNat = min 40 N := by rw [← hz0]; split <;> omega
 have hz1 : 0 ≤ z0 ∧ z0 ≤ c := by rw [← hz0]; split <;> omega
 have hzm : min (N : Int) 40 = z0 := by rw [← hz0]; split <;> omega
 go_enter Tryz.func45, Tryz.ntmps45
 go_wp2; go_ret; exact ⟨rfl, rfl⟩
theorem cut3_any (x : PC) (w : World) (hx : x.Ok w) :
  Calls Tryz.prog 45 #[x.val] w fun e w' => e = .returned x.cut.val ∧ w = w' := by
 obtain ⟨l, p, c⟩ := x; have := cut3_free p c l.length hx.2.1 hx.2.2.1 w; dsimp only [PC.val, PC.cut] at *
 rwa [List.length_take]
end Go.Proofs.YtjggoajfilnfjaaGreat
namespace Go.Proofs.YtjggoajfilnfjaaGreat
open Go.RowKit Go.ChangeShapes Go.WideShapes Go.ChangeAt
theorem Tryz.infoPts : (Tryz.prog.info? 80).map (fun i => (i.zero, i.size, i.bytes)) = some (some (.slice none 0 0), 1, 24) := by kernel_rfl

end Go.Proofs.YtjggoajfilnfjaaGreat
namespace Go.Proofs.YtjggoajfilnfjaaGreat
open Go.RowKit

theorem xwithin_any (n lo hi : Int) (w : World) :
  Calls Tryz.prog 127 #[.int .i64 n, .int .i64 lo, .int .i64 hi] w fun e w' => e = .returned (.bool (decide (lo ≤ n ∧ n ≤ hi))) ∧ w = w' := by
 go_enter Tryz.func127, Tryz.ntmps127
 by_cases h1 : lo ≤ n
 ·go_wp2; go_ret; refine ⟨ret_bool ?_, rfl⟩; simp [h1]
 ·go_wp2; go_ret; refine ⟨ret_bool ?_, rfl⟩
  symm; rw [Bool.and_eq_false_iff]
  exact .inl (decide_eq_false (by omega))

set_option maxHeartbeats 800000 in
theorem xright_any (a : Option Addr) (c : Nat) (l : List Pt) (hl : l.length ≤ maxLen) (w : World) (hr : Rd w a (pts l)) :
  Calls Tryz.prog 120 #[.slice a l.length c] w fun e w' => e = .returned (.bool (l.all okPt)) ∧ Below w.heap.size w w' := by
 go_enter Tryz.func120, Tryz.ntmps120
 unfold maxLen at hl; go_wp2
 go_loopw [7] (fun i wr => ∃ k : Nat, k ≤ l.length ∧ i = .int .i64 k ∧ (l.take k).all okPt = true ∧ Below w.heap.size w wr) (fun i _ => l.length - (intOf i).toNat)
 case atStart => exact ⟨0, Nat.zero_le _, rfl, rfl, Below.refl _ _⟩
 case round =>
  obtain ⟨k, hk, rfl, hall, hbl⟩ := hrel; have HA := Lib.hid hall; clear hall
  by_cases hlt : k < l.length
  ·obtain ⟨b, off, rfl, hb, c0, c1⟩ := (hr.keep hbl).pt k hlt; have HST : Hid ((l.take (k + 1)).all okPt = okPt l[k]) := by
    refine Lib.hid ?_; rw [List.take_succ_eq_append_getElem hlt, List.all_append, HA.out]; simp
   have HNO : Hid (okPt l[k] = false → l.all okPt = false) := by
    refine Lib.hid fun h => ?_; rw [List.all_eq_false]; exact ⟨l[k], List.getElem_mem _, by simp [h]⟩
   generalize l[k] = p at *; obtain ⟨x, y⟩ := p; dsimp only at c0 c1; have hs := hbl.size
   by_cases hx : -16777216 ≤ x ∧ x ≤ 16777216
   ·by_cases hy : -16777216 ≤ y ∧ y ≤ 16777216
    ·have HX := Lib.hid hx; have HY := Lib.hid hy; clear hx hy
     go_wp2_with fail
     refine (xwithin_any x (-16777216) 16777216 _).mono ?_; rintro e w1 ⟨rfl, rfl⟩; rw [decide_eq_true HX.out]
     go_wp2_with fail
     refine (xwithin_any y (-16777216) 16777216 _).mono ?_; rintro e w1 ⟨rfl, rfl⟩; rw [decide_eq_true HY.out]; go_wp2; go_roundw
     case rel =>
      refine ⟨k + 1, by omega, by go_num, ?_, hbl.alloc hs _⟩; rw [HST.out, okPt_iff]; exact ⟨HX.out, HY.out⟩
     case measure => simp [intOf]; omega
    ·have HX := Lib.hid hx; have HY := Lib.hid hy; clear hx hy
     go_wp2_with fail
     refine (xwithin_any x (-16777216) 16777216 _).mono ?_; rintro e w1 ⟨rfl, rfl⟩; rw [decide_eq_true HX.out]
     go_wp2_with fail
     refine (xwithin_any y (-16777216) 16777216 _).mono ?_; rintro e w1 ⟨rfl, rfl⟩; rw [decide_eq_false HY.out]; go_wp2; go_ret; refine ⟨ret_bool (HNO.out ?_).symm, hbl.alloc hs _⟩; simp [okPt, HY.out]
   ·have HX := Lib.hid hx; clear hx
    go_wp2_with fail
    refine (xwithin_any x (-16777216) 16777216 _).mono ?_; rintro e w1 ⟨rfl, rfl⟩; rw [decide_eq_false HX.out]; go_wp2; go_ret; refine ⟨ret_bool (HNO.out ?_).symm, hbl.alloc hs _⟩; simp [okPt, HX.out]
  ·obtain rfl : k = l.length := by omega
   have HA := Lib.hid HA.out; rw [List.take_length] at HA; go_wp2; go_ret; exact ⟨ret_bool HA.out.symm, hbl⟩

end Go.Proofs.YtjggoajfilnfjaaGreat
namespace Go.Proofs.YtjggoajfilnfjaaGreat
open Go.RowKit

set_option maxHeartbeats 800000 in
theorem xcross_any (a b c : Pt) (ha : okPt a = true) (hb : okPt b = true) (hc : okPt c = true) (w : World) :
  Calls Tryz.prog 122 #[a.val, b.val, c.val] w fun e w' => e = .returned (.int .i64 (crs a b c)) ∧ Below w.heap.size w w' := by
 have hall : ([a, b, c].all okPt) = true := by simp [ha, hb, hc]
 have hB := crs_bd a b c ha hb hc; rw [okPt_iff] at ha hb hc; have h1 := mul_bd (b.x - a.x) (c.y - a.y) 33554432 33554432 (by omega) (by omega) (by omega) (by omega); have h2 := mul_bd (b.y - a.y) (c.x - a.x) 33554432 33554432 (by omega) (by omega) (by omega) (by omega); simp only [Int.reduceMul, Int.reduceNeg] at h1 h2; obtain ⟨z, hz⟩ : ∃ z, crs a b c = z := ⟨_, rfl⟩; have HZ := Lib.hid hz; have HALL := Lib.hid hall; rw [hz] at hB ⊢; clear hz hall; have hri := fun W h => xright_any (some ⟨w.heap.size + 1 + 1 + 1, 0, none⟩) 3 [a, b, c] (by simp [maxLen]) W h; rw [HALL.out] at hri; have HRI := Lib.hid hri; clear hri HALL; obtain ⟨ax, ay⟩ := a; obtain ⟨bx, bY⟩ := b; obtain ⟨cx, cy⟩ := c; dsimp only [Pt.val, crs] at *
 go_enter Tryz.func122, Tryz.ntmps122
 go_wp2_with fail
 refine (HRI.out _ (Rd.lit _ _ [.int .i64 ax, .int .i64 ay, .int .i64 bx, .int .i64 bY, .int .i64 cx, .int .i64 cy] _ (by simp))).mono ?_; rintro e w1 ⟨rfl, hb1⟩; have hA := ((((Blk.lit w w.heap.size [.int .i64 ax, .int .i64 ay] 79 rfl).alloc (.cells #[.int .i64 bx, .int .i64 bY] 79)).alloc (.cells #[.int .i64 cx, .int .i64 cy] 79)).alloc (.cells #[.int .i64 ax, .int .i64 ay, .int .i64 bx, .int .i64 bY, .int .i64 cx, .int .i64 cy] 79)).keep hb1; have hB2 := (((Blk.lit (w.alloc (.cells #[.int .i64 ax, .int .i64 ay] 79)) (w.heap.size + 1) [.int .i64 bx, .int .i64 bY] 79 (by simp)).alloc (.cells #[.int .i64 cx, .int .i64 cy] 79)).alloc (.cells #[.int .i64 ax, .int .i64 ay, .int .i64 bx, .int .i64 bY, .int .i64 cx, .int .i64 cy] 79)).keep hb1; have hC2 := ((Blk.lit ((w.alloc (.cells #[.int .i64 ax, .int .i64 ay] 79)).alloc (.cells #[.int .i64 bx, .int .i64 bY] 79)) (w.heap.size + 1 + 1) [.int .i64 cx, .int .i64 cy] 79 (by simp)).alloc (.cells #[.int .i64 ax, .int .i64 ay, .int .i64 bx, .int .i64 bY, .int .i64 cx, .int .i64 cy] 79)).keep hb1; have a0 := hA.cell 0 rfl; have a1 := hA.cell 1 rfl; have b0 := hB2.cell 0 rfl; have b1 := hB2.cell 1 rfl; have c0 := hC2.cell 0 rfl; have c1 := hC2.cell 1 rfl; have hbl := ((((Below.new w (.cells #[.int .i64 ax, .int .i64 ay] 79)).alloc (by simp) (.cells #[.int .i64 bx, .int .i64 bY] 79)).alloc (by simp; omega) (.cells #[.int .i64 cx, .int .i64 cy] 79)).alloc (by simp; omega) (.cells #[.int .i64 ax, .int .i64 ay, .int .i64 bx, .int .i64 bY, .int .i64 cx, .int .i64 cy] 79)).trans (hb1.mono (by simp; omega))
 clear hA hB2 hC2 hb1 HRI; go_wp2; go_ret; exact ⟨ret_int HZ.out, hbl⟩
end Go.Proofs.YtjggoajfilnfjaaGreat
namespace Go
def edges (l : List Pt) : List (Pt × Pt) := (List.range l.length).map fun i => (l[i]!, l[(i + 1) % l.length]!)
theorem yield_bool {e : Ending} {A B C : Prop} (h : (e = .returned (.bool true) ∧ A ∧ B) ∨ (e = .returned (.bool false) ∧ C)) : ∃ b, e = .returned (.bool b) ∧ ((b = true ∧ A ∧ B) ∨ (b = false ∧ C)) := by
 rcases h with ⟨h, a⟩ | ⟨h, c⟩
 ·exact ⟨true, h, .inl ⟨rfl, a⟩⟩
 ·exact ⟨false, h, .inr ⟨rfl, c⟩⟩
theorem ok_get (l : List Pt) (h : l.all okPt = true) (i : Nat) (hi : i < l.length) : okPt l[i]! = true := by
 rw [getElem!_pos l i hi]; exact List.all_eq_true.1 h _ (List.getElem_mem _)
end Go
namespace Go
end Go
namespace Go.Proofs.YtjggoajfilnfjaaGreat
open Go.RowKit
attribute [local go_sem] Oper.semAt_some

def KpP (n₀ : Nat) (A B : World) : Prop := Below n₀ A B ∧ KeepT 80 80 A B

set_option maxRecDepth 100000 in
set_option maxHeartbeats 1000000 in
theorem edges1_in (n : Nat) (l Bn : Nat) (a : Option Addr) (c : Nat) (L : List Pt) (hlen : L.length ≤ 1000000) (w0 : World) (hr0 : Rd w0 a (pts L))
  (J : List (Pt × Pt) → World → Prop) (W : World) (hbl : Below w0.heap.size w0 W) (hJ : AbidesFrom W.heap.size J) (fr : Nat × Nat) (hBn : W.heap[Bn]? = some (.cells #[.slice a L.length c] 80 fr))
  (hY : ∀ pre x W1, J pre W1 → (pre.length < L.length ∧ x = (L[pre.length]!, L[(pre.length + 1) % L.length]!)) → YieldAt Fence.wide (n - 1) Tryz.prog l #[x.1.val, x.2.val] W1 fun e W' => e = .returned (.bool true) ∧ J (pre ++ [x]) W' ∧ KpP w0.heap.size W1 W')
  (h0 : J [] W) :
  CallsIn Fence.wide n Tryz.prog 128 #[.func (.yield l) #[] #[], .pointer (some ⟨Bn, 0, none⟩)] W fun e W' => (∃ v, e = .returned v) ∧ ∃ xs, xs = edges L ∧ J xs W' := by
 refine callsIn_of_wp Tryz.func128 rfl trivial ?_ rfl; simp only [Tryz.ntmps128, List.size_toArray, List.length_cons, List.length_nil, Nat.reduceAdd, Nat.reduceSub, Array.replicate_succ, Array.replicate_zero, List.push_toArray, List.append_toArray, List.nil_append, List.cons_append]; have hbc : W.cell? ⟨Bn, 0, none⟩ = some (.slice a L.length c) := by simp [World.cell?, hBn]
 gi_wp2
 gi_loopw [7] (fun i wr => ∃ k : Nat, i = .int .i64 k ∧ k ≤ L.length ∧ J ((edges L).take k) wr ∧ Below w0.heap.size w0 wr ∧ wr.heap[Bn]? = some (.cells #[.slice a L.length c] 80 fr)) (fun i _ => L.length - (intOf i).toNat)
 case atStart => exact ⟨0, rfl, Nat.zero_le _, h0, hbl, hBn⟩
 case round =>
  obtain ⟨k, rfl, hk, hj, hb1, hBx⟩ := hrel; have hbc' : wr.cell? ⟨Bn, 0, none⟩ = some (.slice a L.length c) := by simp [World.cell?, hBx]
  have HY := Lib.hid hY; have HJ := Lib.hid hJ; clear hY hBn hbc hJ
  by_cases hlt : k < L.length
  ·obtain ⟨q, hq⟩ : ∃ q, (k + 1) % L.length = q := ⟨_, rfl⟩; have hql : q < L.length := by rw [← hq]; exact Nat.mod_lt _ (by omega)
   obtain ⟨b, off, rfl, hb, c0, c1⟩ := (hr0.keep hb1).pt k hlt; obtain ⟨b', off', e, hb', d0, d1⟩ := (hr0.keep hb1).pt q hql
   cases e
   have hek : (edges L)[k]? = some (L[k], L[q]) := by
    unfold edges; rw [List.getElem?_map, List.getElem?_range hlt]; simp only [Option.map_some, hq]; rw [getElem!_pos L k hlt, getElem!_pos L q hql]
   have hel : (edges L).length = L.length := by simp [edges]
   have htk : ((edges L).take k).length = k := by rw [List.length_take, hel]; omega
   have hsn : (edges L).take (k + 1) = (edges L).take k ++ [(L[k], L[q])] := by
    rw [List.take_add_one, hek]; rfl
   have hxe : (L[((edges L).take k).length]!, L[(((edges L).take k).length + 1) % L.length]!) = (L[k], L[q]) := by
    rw [htk, hq, getElem!_pos L k hlt, getElem!_pos L q hql]
   have hyy := fun W1 hj1 => HY.out ((edges L).take k) (L[k], L[q]) W1 hj1 ⟨by rw [htk]; exact hlt, hxe.symm⟩; have hrem : ((k : Int) + 1) % (L.length : Int) = (q : Int) := by rw [← hq]; simp
   obtain ⟨⟨x1, y1⟩, hp1⟩ : ∃ p, L[k] = p := ⟨_, rfl⟩; obtain ⟨⟨x2, y2⟩, hp2⟩ : ∃ p, L[q] = p := ⟨_, rfl⟩; rw [hp1] at c0 c1; rw [hp2] at d0 d1; rw [hp1, hp2] at hsn hyy; dsimp only [Pt.val] at c0 c1 d0 d1 hyy; have HSN := Lib.hid hsn; have hbA := Below.new wr (.cells #[.int .i64 x1, .int .i64 y1] 79); have hjA := HJ.out _ _ _ none hj (grownBy_of_below hbA none) (fun r h => by cases h); have hjB : J ((edges L).take k) (wr.alloc (.cells #[.int .i64 x1, .int .i64 y1] 79)).drew := HJ.out _ _ _ none hjA ⟨rfl, rfl, rfl, Nat.le_refl _, fun _ _ _ => rfl⟩ (fun r h => by cases h); obtain ⟨fn, tmps, assign, body, hy, hR⟩ := hyy _ hjB; have HR := Lib.hid hR; have hlz : (L.length : Int) ≠ 0 := by omega
   clear hyy hq hek hel htk hxe hp1 hp2 hR hjA hjB hsn; have hrem2 : (IntKind.i64.wrap ((k : Int) + 1)).tmod (L.length : Int) = (q : Int) := by
    rw [IntWalk.i64_in _ (by omega), Int.tmod_eq_emod_of_nonneg (by omega)]; exact hrem
   have hq0 : (0 : Int) ≤ (q : Int) ∧ (q : Int) < (L.length : Int) := by omega
   have hnb : b ≠ wr.heap.size := by omega
   have hBl : Bn < wr.heap.size := (Array.getElem?_eq_some_iff.1 hBx).1; have hnB : Bn ≠ wr.heap.size := by omega
   have hnil : ¬ L = [] := by intro h; rw [h] at hlt; simp at hlt
   have hln : ¬ L.length = 0 := by omega
   gi_wp2
   gi_region_with (refine ⟨(fun h => by cases h), HR.out.mono ?_⟩; rintro e W3 ⟨rfl, hJ3, hk3⟩)
   all_goals
    gi_wp2
    go_roundw
    case rel =>
     refine ⟨k + 1, by go_num, by omega, ?_, ?_, ?_⟩
     ·rw [HSN.out]; exact hJ3
     ·exact (hb1.trans ((hbA.drew).mono hb1.size)).trans hk3.1
     ·exact (hk3.2.2 Bn _ _ _ ((Below.heap_alloc wr _ _ hBl).trans hBx) (.inl rfl)).trans ((Below.heap_alloc wr _ _ hBl).trans hBx)
    case measure => simp [intOf]; omega
  ·obtain rfl : k = L.length := by omega
   have hall : (edges L).take L.length = edges L := List.take_of_length_le (by simp [edges]); rw [hall] at hj
   gi_wp2
   go_end0
   exact ⟨⟨_, rfl⟩, edges L, rfl, hj⟩
end Go.Proofs.YtjggoajfilnfjaaGreat
namespace Go
open Go.RowKit

def noDefer (ops : Array Oper) : Bool := ops.all fun o => match o.op with | .defer _ => false | _ => true

section
variable {P : Program} {ops : Array Oper} {lt : Nat → Bool} {Q : Exit → Act → World → Prop} {S : World → Prop} {l n : Nat}

theorem oper_wpIn_round {o : Oper} {a : Act} {w : World} {K : Act → World → Prop} (hd : ∀ c, o.op ≠ .defer c) (h : o.wp P a w K Q) : o.wpIn (Fence.wide.inRound l) n P a w K Q := by
 refine ⟨fun _ _ => trivial, ?_⟩; rw [Oper.semAt_eq _ _ _ hd]; unfold Oper.wp at h
 cases hr : (execOp a.eval o).run P w with
 | ok nx w' =>
  rw [hr] at h
  cases nx with
  | value v => exact h
  | skip => exact h
  | defer d => exact h
  | enter f args =>
   refine ⟨fun hh => (by cases hh), ?_⟩; exact CallsIn.inRound l (callsIn_wide.2 h)
  | row row args =>
   refine ⟨fun hh => (by cases hh), ?_⟩; intro c cs _; obtain ⟨v, w'', hR, hs⟩ := h c cs; exact ⟨v, w'', hR, stepsIn_wide.2 hs⟩
  | _ => exact (h : False).elim
 | halt hh w' =>
  rw [hr] at h
  cases hh with
  | panic v => exact h
  | _ => exact (h : False).elim

theorem wpAnyIn_of_any (hd : noDefer ops = true) (hQ : ¬ LetsOut Q) (md : Region.Mode) : ∀ (fuel : Nat) (listed : Array Bool) (a : Act) (w : World), wpAny P md ops Q fuel listed a w → wpAnyIn (Fence.wide.inRound l) n P md ops Q fuel listed a w := by
 intro fuel
 induction fuel with
 | zero => intro listed a w h; exact h
 | succ fuel ih =>
  intro listed a w h; refine ⟨h.1, fun i hi => ?_⟩; have := h.2 i hi; unfold wpOp at this; unfold wpOpIn
  cases ho : ops[i]? with
  | none => rw [ho] at this; exact ih _ _ _ this
  | some o =>
   rw [ho] at this; simp only at this ⊢; have hdo : ∀ c, o.op ≠ .defer c := by
    intro c hc; unfold noDefer at hd; rw [Array.all_eq_true] at hd; obtain ⟨hlt, he⟩ := Array.getElem?_eq_some_iff.1 ho; have := hd i hlt; rw [he, hc] at this; simp at this
   split
   ·rename_i hw; rw [if_pos hw] at this
    rcases this with h1 | ⟨_, h2⟩
    ·exact oper_wpIn_round hdo (Oper.wp_mono (fun a w h => ih _ _ _ h) h1)
    ·exact absurd h2 hQ
   ·rename_i hw; rw [if_neg hw] at this; exact ⟨fun _ _ => trivial, ih _ _ _ this⟩

theorem onlyQ_letsOut : ¬ LetsOut (OnlyQ Q) := fun ⟨_, _, h⟩ => h

theorem oper_noQ {o : Oper} {a : Act} {w : World} {K : Act → World → Prop} (h : o.wp P a w K NoQ) : o.wp P a w K Q := by
 unfold Oper.wp at h ⊢; generalize (execOp a.eval o).run P w = r at *
 cases r with
 | ok n w' =>
  cases n <;> simp only [Oper.upon] at h ⊢ <;> first
   | exact h
   | exact Calls.mono h (fun e w'' he => by
     cases e with
     | returned v => exact he
     | panicked c => exact (he : False).elim
     | outgrown => obtain ⟨_, _, h⟩ := he; exact (h : False).elim)
 | halt x w' => cases x <;> simp only [Oper.upon, NoQ] at h

theorem wp_callgo {a : Act} {w : World} {K : Act → World → Prop} {dst : Option Tmp} {ty : TypeId} {pos : String} {after : Array Edge} {guard : Option (Nat × Bool)} {f : FuncId} {args : Array Operand} {ats : Array TypeId} (vs : List Value) (fn : Func)
  (hfn : P.funcs[f]? = some fn) (hn : (fn.name == "runtime.NumGoroutine") = false) (hb : fn.body.isNone = false) (hvs : args.toList.map a.eval = vs)
  (h : Calls P f vs.toArray w fun e w' => ∃ v, e = .returned v ∧ K (a.put dst v) w') :
  Oper.wp P { dst := dst, op := .call { callee := .value (.func f), args := args, argTypes := ats }, type := ty, pos := pos, after := after, guard := guard } a w K NoQ := by
 unfold Oper.wp; have e : #[] ++ args.map a.eval ++ #[] = vs.toArray := by
  rw [← hvs]; simp only [Array.empty_append, Array.append_empty]; apply Array.ext'; simp
 rw [execOp_call_go, run_callFunc _ _ hfn hn hb, e]; rw [Oper.upon_enter]; refine Calls.mono h ?_; rintro e w' ⟨v, rfl, hK⟩; exact hK

/-! Two operations that may come up in either order (`s += f(v)`: the load of s and the call), the light ones of a prefix taken first. -/
def okPre (md : Region.Mode) (ops : Array Oper) : List Nat → Array Bool → Bool
 | [], _ => true
 | i :: r, listed => Region.free md ops listed i && (Region.ready md ops listed).contains i && okPre md ops r (listed.setIfInBounds i true)

def wpPre (P : Program) (ops : Array Oper) (S : World → Prop) : List Nat → Act → (Act → Prop) → Prop
 | [], a, K => K a
 | i :: r, a, K => ∃ o v, ops[i]? = some o ∧ Region.wanted o (yielded ops a.tmps) = true ∧ (∀ w', S w' → (execOp a.eval o).run P w' = .ok (.value v) w') ∧ wpPre P ops S r (a.put o.dst v) K

theorem wpPre_nil {a : Act} {K : Act → Prop} (h : K a) : wpPre P ops S [] a K := h
theorem wpPre_cons {i : Nat} {r : List Nat} {a : Act} {K : Act → Prop} {o : Oper} (v : Value) (ho : ops[i]? = some o) (hw : Region.wanted o (yielded ops a.tmps) = true)
  (hv : ∀ w', S w' → (execOp a.eval o).run P w' = .ok (.value v) w') (h : wpPre P ops S r (a.put o.dst v) K) : wpPre P ops S (i :: r) a K := ⟨o, v, ho, hw, hv, h⟩

theorem wpAnyH_pre {md : Region.Mode} (hs : Region.noSelect ops = true) (hQ : ∀ c a w, ¬ Q (.panic c) a w) : ∀ (pre : List Nat) (fuel : Nat) (listed : Array Bool) (a : Act) (w : World), okPre md ops pre listed = true → S w →
  wpPre P ops S pre a (fun a' => wpAnyH P md ops Q S fuel (pre.foldl (fun l i => l.setIfInBounds i true) listed) a' w) → wpAnyH P md ops Q S (fuel + pre.length) listed a w := by
 intro pre
 induction pre with
 | nil => intro fuel listed a w _ _ h; exact h
 | cons i r ih =>
  intro fuel listed a w hc hS h; obtain ⟨o, v, ho, hw, hv, h⟩ := h; simp only [okPre, Bool.and_eq_true] at hc; rw [List.length_cons, ← Nat.add_assoc]; exact wpAnyH_take ho hs hc.1.1 hc.1.2 (fun c a w h => absurd h (hQ c _ w)) (.inl ⟨hw, hv⟩) hS (ih _ _ _ _ hc.2 hS h)

theorem wpIn_region_two {id : Nat} {a : Act} {w : World} (lts pre : List Nat) (x y : Nat) (A B : List Nat) (f : Nat) (S : World → Prop) (ox oy : Oper) (hm : P.follows .mixedOrders = true) (hs : Region.noSelect ops = true) (hd : noDefer ops = true)
  (hsz : ops.size = f + 1 + pre.length) (hp : okPre .any ops pre (Array.replicate ops.size false) = true) (hx : ops[x]? = some ox) (hy : ops[y]? = some oy)
  (hr : Region.ready .any ops (pre.foldl (fun l i => l.setIfInBounds i true) (Array.replicate ops.size false)) = [x, y])
  (hA : okText .any ops (lts.contains ·) f A ((pre.foldl (fun l i => l.setIfInBounds i true) (Array.replicate ops.size false)).setIfInBounds x true) = true)
  (hB : okText .any ops (lts.contains ·) f B ((pre.foldl (fun l i => l.setIfInBounds i true) (Array.replicate ops.size false)).setIfInBounds y true) = true)
  (hS : S w.drew)
  (h : wpPre P ops S pre a (fun a' => (Region.wanted ox (yielded ops a'.tmps) = true ∧ ∀ K : Act → World → Prop, Hid (∀ a'' w'', S w'' → wpTxt P ops (lts.contains ·) Q S none A a'' w'' → K a'' w'') → ox.wp P a' w.drew K NoQ) ∧
   (Region.wanted oy (yielded ops a'.tmps) = true ∧ ∀ K : Act → World → Prop, Hid (∀ a'' w'', S w'' → wpTxt P ops (lts.contains ·) Q S none B a'' w'' → K a'' w'') → oy.wp P a' w.drew K NoQ))) :
  (Code.region id ops true).wpIn (Fence.wide.inRound l) n P Q a w := by
 refine wpIn_mono ?_ OnlyQ.imp; refine wpIn_region_any hm ?_; refine wpAnyIn_of_any hd onlyQ_letsOut .any _ _ _ _ ?_; refine wpAny_of_held (S := S) _ _ _ _ ?_; rw [hsz]; refine wpAnyH_pre (w := w.drew) hs (fun c a w h => h) pre (f + 1) _ a (by rw [← hsz]; exact hp) hS ?_; rw [← hsz]; have key : ∀ (pre : List Nat) (a : Act) (K K' : Act → Prop), (∀ a, K a → K' a) → wpPre P ops S pre a K → wpPre P ops S pre a K' := by
  intro pre
  induction pre with
  | nil => intro a K K' hk h; exact hk a h
  | cons i r ih =>
   intro a K K' hk h; obtain ⟨o, v, h1, h2, h3, h4⟩ := h; exact ⟨o, v, h1, h2, h3, ih _ _ _ hk h4⟩
 refine key pre a _ _ (fun a' h => ?_) h; obtain ⟨⟨wx, kx0⟩, wy, ky0⟩ := h; have kx := kx0 (fun a'' w'' => S w'' ∧ wpTxt P ops (lts.contains ·) Q S none A a'' w'') (Lib.hid fun a w h1 h2 => ⟨h1, h2⟩); have ky := ky0 (fun a'' w'' => S w'' ∧ wpTxt P ops (lts.contains ·) Q S none B a'' w'') (Lib.hid fun a w h1 h2 => ⟨h1, h2⟩); refine wpAnyH_all hr (by simp) ?_; intro i hi; simp only [List.mem_cons, List.not_mem_nil, or_false] at hi; have hno : ∀ e a w, NoQ e a w → OnlyQ Q e a w := fun e a w h => h.elim
 rcases hi with rfl | rfl
 ·unfold wpOp; rw [hx]; simp only; rw [if_pos wx]
  left
  refine oper_noQ ?_; exact Oper.wp_mono (fun a w h => ⟨h.1, okText_sound (Q := OnlyQ Q) .any hs (fun c a w h => h) hno f A _ _ _ hA h.1 (wpTxt_only _ _ _ h.2)⟩) kx
 ·unfold wpOp; rw [hy]; simp only; rw [if_pos wy]
  left
  refine oper_noQ ?_; exact Oper.wp_mono (fun a w h => ⟨h.1, okText_sound (Q := OnlyQ Q) .any hs (fun c a w h => h) hno f B _ _ _ hB h.1 (wpTxt_only _ _ _ h.2)⟩) ky
end
end Go

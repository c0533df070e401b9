/-
  geom.within, part, Check. geom.Numbers' closure: a point's two numbers behind the others. geom.Check. geom.Numbers.
-/
import Derived.Test.YtjggoajfilnfjaaGreatPk10
import Derived.Test.YtjggoajfilnfjaaGreatPk8
import Derived.Test.YtjggoajfilnfjaaGreatPk1
set_option linter.unusedVariables false
set_option linter.unusedSimpArgs false
namespace Go
def near (p : Pt) : Bool := decide (-1048576 ≤ p.x ∧ p.x ≤ 1048576) && decide (-1048576 ≤ p.y ∧ p.y ≤ 1048576)
def twin (l : List Pt) : Bool := (List.range (l.length - 1)).any fun i => decide (l[i + 1]! = l[i]!)
def partE (kind : Int) (first : Bool) (l : List Pt) : Int :=
 if l.all near = false then 5
 else if (l.length : Int) < kind then 15
 else if twin l = true then 15
 else if kind = 3 ∧ (l[0]! = l[l.length - 1]! ∨ areaF l = 0 ∨ first = true ∧ areaF l < 0) then 15
 else 0
theorem pts_drop1 (L : List Pt) : (pts L).drop 2 = pts (L.drop 1) := by
 cases L with
 | nil => rfl
 | cons p L => rfl
end Go
namespace Go.Proofs.YtjggoajfilnfjaaGreat
open Go.RowKit

theorem gwithin_any (n : Int) (w : World) :
  Calls Tryz.prog 104 #[.int .i64 n] w fun e w' => e = .returned (.bool (decide (-1048576 ≤ n ∧ n ≤ 1048576))) ∧ w = w' := by
 go_enter Tryz.func104, Tryz.ntmps104
 by_cases h1 : -1048576 ≤ n
 ·go_wp2; go_ret; refine ⟨ret_bool ?_, rfl⟩; simp [h1]
 ·go_wp2; go_ret; refine ⟨ret_bool ?_, rfl⟩
  symm; rw [Bool.and_eq_false_iff]
  exact .inl (decide_eq_false (by omega))

set_option maxHeartbeats 1600000 in
theorem gpart_any (kind : Int) (first : Bool) (x : PC) (hl : x.l.length ≤ 1000) (hk : kind = 2 ∨ kind = 3) (w : World) (hx : x.Ok w) :
  Calls Tryz.prog 85 #[.int .i64 kind, .bool first, x.val] w fun e w' => e = .returned (.int .i64 (partE kind first x.l)) ∧ Below w.heap.size w w' := by
 obtain ⟨L, a, c⟩ := x; obtain ⟨hr, h2, h3, h4⟩ := hx; dsimp only [PC.val] at *; obtain ⟨PE, hPE⟩ : ∃ PE, partE kind first L = PE := ⟨_, rfl⟩; rw [hPE]; have HPE := Lib.hid hPE; clear hPE
 go_enter Tryz.func85, Tryz.ntmps85
 go_wp2
 go_loopw [14] (fun i wr => ∃ k : Nat, k ≤ L.length ∧ i = .int .i64 k ∧ (L.take k).all near = true ∧ Below w.heap.size w wr) (fun i _ => L.length - (intOf i).toNat)
 case atStart => exact ⟨0, Nat.zero_le _, rfl, rfl, Below.refl _ _⟩
 case round =>
  obtain ⟨k, hk1, rfl, hall, hbl⟩ := hrel; have HA := Lib.hid hall; clear hall
  by_cases hlt : k < L.length
  ·obtain ⟨b, off, rfl, hb, c0, c1⟩ := (hr.keep hbl).pt k hlt; have HST : Hid ((L.take (k + 1)).all near = near L[k]) := by
    refine Lib.hid ?_; rw [List.take_succ_eq_append_getElem hlt, List.all_append, HA.out]; simp
   have HNO : Hid (near L[k] = false → PE = 5) := by
    refine Lib.hid fun h => ?_; rw [← HPE.out]; have : L.all near = false := by
     rw [List.all_eq_false]; exact ⟨L[k], List.getElem_mem _, by simp [h]⟩
    unfold partE; rw [if_pos this]
   generalize L[k] = p at *; obtain ⟨x, y⟩ := p; dsimp only at c0 c1; have hs := hbl.size
   by_cases hx : -1048576 ≤ x ∧ x ≤ 1048576
   ·by_cases hy : -1048576 ≤ y ∧ y ≤ 1048576
    ·have HX := Lib.hid hx; have HY := Lib.hid hy; clear hx hy
     go_wp2_with fail
     refine (gwithin_any x _).mono ?_; rintro e w1 ⟨rfl, rfl⟩; rw [decide_eq_true HX.out]
     go_wp2_with fail
     refine (gwithin_any y _).mono ?_; rintro e w1 ⟨rfl, rfl⟩; rw [decide_eq_true HY.out]; go_wp2; go_roundw
     case rel =>
      refine ⟨k + 1, by omega, by go_num, ?_, hbl.alloc hs _⟩; rw [HST.out]; simp [near, HX.out, HY.out]
     case measure => simp [intOf]; omega
    ·have HX := Lib.hid hx; have HY := Lib.hid hy; clear hx hy
     go_wp2_with fail
     refine (gwithin_any x _).mono ?_; rintro e w1 ⟨rfl, rfl⟩; rw [decide_eq_true HX.out]
     go_wp2_with fail
     refine (gwithin_any y _).mono ?_; rintro e w1 ⟨rfl, rfl⟩; rw [decide_eq_false HY.out]; go_wp2; go_ret; refine ⟨ret_int (HNO.out ?_).symm, hbl.alloc hs _⟩; simp [near, HY.out]
   ·have HX := Lib.hid hx; clear hx
    go_wp2_with fail
    refine (gwithin_any x _).mono ?_; rintro e w1 ⟨rfl, rfl⟩; rw [decide_eq_false HX.out]; go_wp2; go_ret; refine ⟨ret_int (HNO.out ?_).symm, hbl.alloc hs _⟩; simp [near, HX.out]
  ·obtain rfl : k = L.length := by omega
   have HA := Lib.hid HA.out; rw [List.take_length] at HA
   by_cases hlk : (L.length : Int) < kind
   ·have hE : Hid (PE = 15) := Lib.hid (by rw [← HPE.out]; unfold partE; rw [if_neg (by rw [HA.out]; simp), if_pos hlk]); go_wp2; go_ret; exact ⟨ret_int hE.out.symm, hbl⟩
   ·have hL2 : 2 ≤ L.length := by rcases hk with rfl | rfl <;> omega
    obtain ⟨b, off, rfl, hb, -, -⟩ := hr.pt 0 (by omega); have hP1 : Hid (twin L = true → PE = 15) := Lib.hid fun h => by
     rw [← HPE.out]; unfold partE; rw [if_neg (by rw [HA.out]; simp), if_neg hlk, if_pos h]
    have hP2 : Hid (twin L = false → kind = 3 → (L[0]! = L[L.length - 1]! ∨ areaF L = 0 ∨ first = true ∧ areaF L < 0) → PE = 15) := Lib.hid fun h h1 h2 => by
     rw [← HPE.out]; unfold partE; rw [if_neg (by rw [HA.out]; simp), if_neg hlk, if_neg (by rw [h]; simp), if_pos ⟨h1, h2⟩]
    have hP3 : Hid (twin L = false → ¬ (kind = 3 ∧ (L[0]! = L[L.length - 1]! ∨ areaF L = 0 ∨ first = true ∧ areaF L < 0)) → PE = 0) := Lib.hid fun h h1 => by
     rw [← HPE.out]; unfold partE; rw [if_neg (by rw [HA.out]; simp), if_neg hlk, if_neg (by rw [h]; simp), if_neg h1]
    have har := fun W h => rarea_any (some ⟨b, off, none⟩) c L hl W h; have HAR := Lib.hid har; have hc1 : ¬ c = 1 := by omega
    have hc1' : ¬ (L.length : Int) < 1 := by omega
    clear har HA hlt hk1; have hrd := hr.drop 2; rw [pts_drop1] at hrd; go_wp2
    go_loopw [36] (fun i wr => ∃ j : Nat, j + 1 ≤ L.length ∧ i = .int .i64 j ∧ (∀ q, q < j → L[q + 1]! ≠ L[q]!) ∧ Below w.heap.size w wr) (fun i _ => L.length - (intOf i).toNat)
    case atStart => exact ⟨0, by omega, rfl, fun q hq => absurd hq (Nat.not_lt_zero _), hbl⟩
    case round =>
     obtain ⟨j, hj1, rfl, hne, hbl'⟩ := hrel; have HNE := Lib.hid hne; clear hne hbl
     by_cases hlt : j + 1 < L.length
     ·have hjd : j < (L.drop 1).length := by simp; omega
      obtain ⟨b1, off1, he, -, d0, d1⟩ := (hrd.keep hbl').pt j hjd
      cases he
      obtain ⟨b2, off2, he, hb2, c0, c1⟩ := (hr.keep hbl').pt j (by omega)
      cases he
      have hd : (L.drop 1)[j] = L[j + 1]! := by rw [List.getElem_drop, getElem!_pos L (j + 1) hlt]; congr 1; omega
      rw [hd] at d0 d1; rw [← getElem!_pos L j (by omega)] at c0 c1; have hs := hbl'.size; have HEQ : Hid (L[j + 1]! = L[j]! → twin L = true) := Lib.hid fun h => by
       unfold twin; rw [List.any_eq_true]; exact ⟨j, List.mem_range.2 (by omega), by simp [h]⟩
      have HNO : Hid (L[j + 1]! ≠ L[j]! → ∀ q, q < j + 1 → L[q + 1]! ≠ L[q]!) := Lib.hid fun h q hq => by
       by_cases h1 : q = j
       ·subst h1; exact h
       ·exact HNE.out q (by omega)
      generalize L[j + 1]! = p at *; generalize L[j]! = q at *; obtain ⟨px, py⟩ := p; obtain ⟨qx, qy⟩ := q; dsimp only at c0 c1 d0 d1; clear hjd hd
      go_wp2_with fail
      have hbne : b ≠ wr.heap.size := by omega
      by_cases hx : px = qx
      ·subst hx
       by_cases hy : py = qy
       ·subst hy
        go_quiet (fail)
        go_wp2; go_ret; exact ⟨ret_int (hP1.out (HEQ.out trivial)).symm, below_drewN (hbl'.alloc hs _) _⟩
       ·go_quiet (fail)
        go_wp2; go_roundw
        case rel => exact ⟨j + 1, by omega, by go_num, HNO.out (by simp [hy]), below_drewN (hbl'.alloc hs _) _⟩
        case measure => simp [intOf]; omega
      ·go_quiet (fail)
       go_wp2; go_roundw
       case rel => exact ⟨j + 1, by omega, by go_num, HNO.out (by simp [hx]), below_drewN (hbl'.alloc hs _) _⟩
       case measure => simp [intOf]; omega
     ·obtain rfl : j = L.length - 1 := by omega
      have HT : Hid (twin L = false) := Lib.hid (by
       unfold twin; rw [List.any_eq_false]; intro q hq; have := HNE.out q (List.mem_range.1 hq)
       simpa using this)
      clear HNE hP1 hrd; have hs := hbl'.size
      rcases hk with rfl | rfl
      ·go_wp2; go_ret; exact ⟨ret_int (hP3.out HT.out (by simp)).symm, hbl'⟩
      ·go_wp2_with fail
       refine (HAR.out _ (hr.keep hbl')).mono ?_; rintro e w1 ⟨rfl, hb1⟩; have hbl1 := hbl'.trans (hb1.mono hs); obtain ⟨b2, off2, he, hb2, c0, c1⟩ := (hr.keep hbl1).pt 0 (by omega)
       cases he
       obtain ⟨b3, off3, he, hb3, d0, d1⟩ := (hr.keep hbl1).pt (L.length - 1) (by omega)
       cases he
       rw [← getElem!_pos L 0 (by omega)] at c0 c1; rw [← getElem!_pos L (L.length - 1) (by omega)] at d0 d1; clear hb1 hbl' HAR; have HP2 := hP2.out HT.out trivial; have HP3 := hP3.out HT.out; generalize areaF L = ar at *; generalize L[0]! = p at *; generalize L[L.length - 1]! = q at *; obtain ⟨px, py⟩ := p; obtain ⟨qx, qy⟩ := q; dsimp only at c0 c1 d0 d1; have HP2' := Lib.hid HP2; have HP3' := Lib.hid HP3; clear HP2 HP3 hP2 hP3; have hL1 : 0 < L.length := by omega
       rw [Nat.zero_mul, Nat.add_zero] at c0; rw [Nat.zero_mul, Nat.add_zero] at c1; have hw : IntKind.i64.wrap ((L.length : Int) - 1) = ((L.length - 1 : Nat) : Int) := by
        have : ((L.length - 1 : Nat) : Int) = (L.length : Int) - 1 := by omega
        rw [this]; exact IntWalk.i64_in _ (by omega)
       by_cases hx : px = qx ∧ py = qy
       ·obtain ⟨rfl, rfl⟩ := hx
        go_wp2_with fail
        go_quiet (fail)
        go_wp2; go_ret; exact ⟨ret_int (HP2'.out (.inl trivial)).symm, below_drewN hbl1 _⟩
       ·have hne : (⟨px, py⟩ : Pt) ≠ ⟨qx, qy⟩ := by simpa using hx
        have HNE := Lib.hid hne; clear hne; have hxy : ¬ px = qx ∨ px = qx ∧ ¬ py = qy := by
         by_cases h1 : px = qx
         ·exact .inr ⟨h1, fun h2 => hx ⟨h1, h2⟩⟩
         ·exact .inl h1
        clear hx; have har : ar = 0 ∨ ¬ ar = 0 ∧ decide (ar < 0) = false ∨ ¬ ar = 0 ∧ ar < 0 := by
         by_cases h1 : ar < 0
         ·exact .inr (.inr ⟨by omega, h1⟩)
         ·by_cases h2 : ar = 0
          ·exact .inl h2
          ·exact .inr (.inl ⟨h2, decide_eq_false h1⟩)
        rcases hxy with hx | ⟨rfl, hy⟩
        all_goals rcases har with rfl | ⟨hz, hp⟩ | ⟨hz, hn⟩
        all_goals cases first
        all_goals try (have hz' : (ar == 0) = false := by simpa using hz)
        all_goals go_wp2_with fail
        all_goals go_quiet (fail)
        all_goals go_wp2
        all_goals go_ret
        all_goals first | exact ⟨ret_int (HP2'.out (by simp [*])).symm, below_drewN hbl1 _⟩ | exact ⟨ret_int (HP3'.out (by have h := HNE.out; have h2 := of_decide_eq_false ‹decide (ar < 0) = false›; simp [*])).symm, below_drewN hbl1 _⟩ | exact ⟨ret_int (HP3'.out (by have h := HNE.out; simp [*])).symm, below_drewN hbl1 _⟩
end Go.Proofs.YtjggoajfilnfjaaGreat
set_option maxRecDepth 100000
namespace Go
open Go.RowKit Go.Vint

def byN (a p : Pt) : List Int := [zig (p.x - a.x), zig (p.y - a.y)]

def Num (e : TypeId) (base B1 B2 : Nat) (W : World) (R : List Int) (at' : Pt) : Prop :=
 ∃ v, Blk W B1 [v] ∧ Blk W B2 at'.cells ∧ W.ownsRow base e 1 v R.length (R.map (Value.int .u64)) ∧ base ≤ W.heap.size
def Close (p : Pt) : Prop := (-1048576 ≤ p.x ∧ p.x ≤ 1048576) ∧ (-1048576 ≤ p.y ∧ p.y ≤ 1048576)
end Go
namespace Go.Proofs.YtjggoajfilnfjaaGreat
open Go.RowKit Go.Vint

set_option maxHeartbeats 1600000 in
theorem by_any (p at' : Pt) (R : List Int) (base B1 B2 n0 : Nat) (h1 : B1 < base) (h2 : B2 < base) (hne : B1 ≠ B2) (hn1 : n0 ≤ B1) (hn2 : n0 ≤ B2) (hp : Close p) (ha : Close at') (hR : R.length ≤ 1000000) (w : World) (h : Num 70 base B1 B2 w R at') :
  Calls Tryz.prog 118 #[p.val, .pointer (some ⟨B1, 0, none⟩), .pointer (some ⟨B2, 0, none⟩)] w fun e w' => (∃ v, e = .returned v) ∧ Num 70 base B1 B2 w' (R ++ byN at' p) p ∧ Below n0 w w' := by
 obtain ⟨v, hb1, hb2, hown, hbs⟩ := h; obtain ⟨x, y⟩ := p; obtain ⟨ax, ay⟩ := at'; obtain ⟨⟨p1, p2⟩, p3, p4⟩ := hp; obtain ⟨⟨a1, a2⟩, a3, a4⟩ := ha; dsimp only [Pt.val, Pt.cells] at *
 go_enter Tryz.func118, Tryz.ntmps118
 have hw1 : IntKind.i64.wrap (x - ax) = x - ax := IntWalk.i64_in _ (by omega); have hw2 : IntKind.i64.wrap (y - ay) = y - ay := IntWalk.i64_in _ (by omega); have hz1 := vzig_any (x - ax) (by omega) (by omega); have hz2 := vzig_any (y - ay) (by omega) (by omega); have hby : byN ⟨ax, ay⟩ ⟨x, y⟩ = [zig (x - ax), zig (y - ay)] := rfl; have HBY := Lib.hid hby; have HZ1 := Lib.hid hz1; have HZ2 := Lib.hid hz2; clear hby hz1 hz2; generalize zig (x - ax) = zx at *; generalize zig (y - ay) = zy at *; clear p1 p2 p3 p4 a1 a2 a3 a4
 go_wp2_with fail
 have hbx := Blk.new w [.int .i64 x, .int .i64 y] 79; have k1 := hb1.alloc (.cells #[.int .i64 x, .int .i64 y] 79); have k2 := hb2.alloc (.cells #[.int .i64 x, .int .i64 y] 79); have ko := hown.below (Below.new w (.cells #[.int .i64 x, .int .i64 y] 79)); have hBl := Below.new w (.cells #[.int .i64 x, .int .i64 y] 79); obtain ⟨w1, hw1e⟩ : ∃ w1, w.alloc (.cells #[.int .i64 x, .int .i64 y] 79) = w1 := ⟨_, rfl⟩; rw [hw1e] at hbx k1 k2 ko hBl; rw [hw1e]; clear hw1e; have hbs1 : base ≤ w1.heap.size := Nat.le_trans hbs hBl.size; have hlt := hbx.lt; have hvb : ∀ k, v.ownBlock = some k → base ≤ k ∧ k < w.heap.size := fun k hk => hown.lt k hk; have HVB := Lib.hid hvb; clear hb1 hb2 hown hvb; refine wp_region_lit_txtZ (some 15) [0, 1, 2, 3, 4, 5, 7, 8, 9, 10, 11] (fun W => Blk W w.heap.size [.int .i64 x, .int .i64 y] ∧ Blk W B1 [v] ∧ Blk W B2 [.int .i64 ax, .int .i64 ay]) (by kernel_rfl) (by kernel_rfl) (by kernel_rfl) (by kernel_rfl) ⟨hbx.drew, k1.drew, k2.drew⟩ ?_; refine txt_light v rfl rfl ?_ ?_
 ·intro w' hS; have c0 := hS.2.1.cell 0 rfl; go_simp
 try simp only [Act.put, List.setIfInBounds_toArray, List.set_cons_zero, List.set_cons_succ]
 (refine txt_light ?_ rfl rfl ?_ ?_; rotate_left; · (intro w' hS; (try dsimp only at hS); go_simp; with_reducible rfl)); try simp only [Act.put, List.setIfInBounds_toArray, List.set_cons_zero, List.set_cons_succ]
 refine txt_light (.int .i64 x) rfl rfl ?_ ?_
 ·intro w' hS; have c0 := hS.1.cell 0 rfl; go_simp
 try simp only [Act.put, List.setIfInBounds_toArray, List.set_cons_zero, List.set_cons_succ]
 (refine txt_light ?_ rfl rfl ?_ ?_; rotate_left; · (intro w' hS; (try dsimp only at hS); go_simp; with_reducible rfl)); try simp only [Act.put, List.setIfInBounds_toArray, List.set_cons_zero, List.set_cons_succ]
 refine txt_light (.int .i64 ax) rfl rfl ?_ ?_
 ·intro w' hS; have c0 := hS.2.2.cell 0 rfl; go_simp
 try simp only [Act.put, List.setIfInBounds_toArray, List.set_cons_zero, List.set_cons_succ]
 refine txt_light (.int .i64 (x - ax)) rfl rfl ?_ ?_
 ·intro w' hS; go_simp
 try simp only [Act.put, List.setIfInBounds_toArray, List.set_cons_zero, List.set_cons_succ]
 refine txt_call [.int .i64 (x - ax)] Tryz.f82 rfl rfl Tryz.func82 (by kernel_rfl) (by kernel_rfl) rfl ((HZ1.out _).mono ?_); rintro e w2 ⟨rfl, rfl⟩; refine ⟨_, rfl, ⟨hbx.drew, k1.drew, k2.drew⟩, ?_⟩
 try simp only [Act.put, List.setIfInBounds_toArray, List.set_cons_zero, List.set_cons_succ]
 (refine txt_light ?_ rfl rfl ?_ ?_; rotate_left; · (intro w' hS; (try dsimp only at hS); go_simp; with_reducible rfl)); try simp only [Act.put, List.setIfInBounds_toArray, List.set_cons_zero, List.set_cons_succ]
 refine txt_light (.int .i64 y) rfl rfl ?_ ?_
 ·intro w' hS; have c0 := hS.1.cell 1 rfl; go_simp
 try simp only [Act.put, List.setIfInBounds_toArray, List.set_cons_zero, List.set_cons_succ]
 (refine txt_light ?_ rfl rfl ?_ ?_; rotate_left; · (intro w' hS; (try dsimp only at hS); go_simp; with_reducible rfl)); try simp only [Act.put, List.setIfInBounds_toArray, List.set_cons_zero, List.set_cons_succ]
 refine txt_light (.int .i64 ay) rfl rfl ?_ ?_
 ·intro w' hS; have c0 := hS.2.2.cell 1 rfl; go_simp
 try simp only [Act.put, List.setIfInBounds_toArray, List.set_cons_zero, List.set_cons_succ]
 refine txt_light (.int .i64 (y - ay)) rfl rfl ?_ ?_
 ·intro w' hS; go_simp
 try simp only [Act.put, List.setIfInBounds_toArray, List.set_cons_zero, List.set_cons_succ]
 refine txt_call [.int .i64 (y - ay)] Tryz.f82 rfl rfl Tryz.func82 (by kernel_rfl) (by kernel_rfl) rfl ((HZ2.out _).mono ?_); rintro e w2 ⟨rfl, rfl⟩; refine ⟨_, rfl, ⟨hbx.drew, k1.drew, k2.drew⟩, ?_⟩
 try simp only [Act.put, List.setIfInBounds_toArray, List.set_cons_zero, List.set_cons_succ]
 refine txt_heavy rfl rfl (fun K hK => ?_); go_step; have hb3 := Below.new w1.drew (.cells #[.int .u64 zx, .int .u64 zy] 70); have x1 := (Blk.drew hbx).keep hb3; have x2 := (Blk.drew k1).keep hb3; have x3 := (Blk.drew k2).keep hb3; have xo := World.ownsRow.below (w := w1.drew) ko hb3; have xr := Rd.lit w1.drew w1.heap.size [.int .u64 zx, .int .u64 zy] 70 rfl; have hB3 : Below n0 w (w1.drew.alloc (.cells #[.int .u64 zx, .int .u64 zy] 70)) := ((hBl.mono (by omega)).drew).alloc (by simp; omega) _; refine hK.out _ _ ⟨x1, x2, x3⟩ ?_; clear hK K hbx k1 k2 ko hBl hb3
 try simp only [Act.put, List.setIfInBounds_toArray, List.set_cons_zero, List.set_cons_succ]
 refine txt_heavy rfl rfl (fun K hK => ?_); refine wp_app (.tmp 4) (.tmp 17) 151 rfl base 70 (.int .u64 0) 1 8 Tryz.underlying151 Tryz.infoU64 rfl (by decide) v R.length (R.map (Value.int .u64)) rfl xo (some ⟨w1.heap.size, 0, none⟩) 2 2 [.int .u64 zx, .int .u64 zy] rfl (fun h => by cases h) xr rfl (by simp [Value.oneCell']) (by omega) (by decide) (by simp; omega) ?_; intro v2 w2 hown2 hg2; have hn1' : ∀ b, b < base → some b ≠ v.ownBlock := fun b hb e => by have := (HVB.out b e.symm).1; omega
 have hn2' : some w.heap.size ≠ v.ownBlock := fun e => by have := (HVB.out _ e.symm).2; omega
 have y1 := x1.grown hg2 hn2'; have y2 := x2.grown hg2 (hn1' B1 h1); have y3 := x3.grown hg2 (hn1' B2 h2); have hB4 := hB3.grown hg2 (by simp; omega) (fun k hk => by have := (HVB.out k hk).1; omega); have hsz : base ≤ w2.heap.size := by have := y1.lt; omega
 refine hK.out _ _ ⟨y1, y2, y3⟩ ?_; clear hK K x1 x2 x3 xo xr hB3 hg2; have hf2 := hown2.form; obtain ⟨pa, pc, rfl, -⟩ := hf2
 try simp only [Act.put, List.setIfInBounds_toArray, List.set_cons_zero, List.set_cons_succ]
 refine txt_last rfl rfl rfl (fun K hK => ?_); have c0 := y2.cell 0 rfl; have f0 := y2.free 0; go_step; refine hK.out _ _ ?_; refine txt_nil ?_; clear hK K c0 f0; have z1 := y1.set_at (b' := B1) (o := 0) (by omega) (.slice pa (R.length + 2) pc); have z2 := y2.set 0 (.slice pa (R.length + 2) pc); have z3 := y3.set_at (b' := B1) (o := 0) (fun e => hne e.symm) (.slice pa (R.length + 2) pc); have zo := hown2.set_ne (p := ⟨B1, 0, none⟩) (fun h => by have := (hown2.lt _ h).1; simp at this; omega) (.slice pa (R.length + 2) pc); have hB5 := hB4.set_at (b := B1) (o := 0) hn1 (.slice pa (R.length + 2) pc); have hz5 : base ≤ (w2.setCell ⟨B1, 0, none⟩ (.slice pa (R.length + 2) pc)).heap.size := by simp [World.setCell]; exact hsz
 generalize w2.setCell ⟨B1, 0, none⟩ (.slice pa (R.length + 2) pc) = w3 at *; have e0 := z1.cell 0 rfl; have e1 := z1.cell 1 rfl; have g0 := z3.cell 0 rfl; have g1 := z3.cell 1 rfl; have q0 := z3.free 0; have q1 := z3.free 1; clear y1 y2 y3 hown2 hB4 hsz z1; go_wp2; refine ⟨rfl, .tuple #[], by simp [results, Tryz.results118, go_sem], ⟨_, rfl⟩, ⟨.slice pa (R.length + 2) pc, ?_, ?_, ?_, ?_⟩, ?_⟩
 ·exact (z2.set_at (b' := B2) (o := 0) hne (.int .i64 x)).set_at (b' := B2) (o := 1) hne (.int .i64 y)
 ·exact (z3.set 0 (.int .i64 x)).set 1 (.int .i64 y)
 ·rw [HBY.out, List.length_append, List.map_append]; refine (zo.set_ne (p := ⟨B2, 0, none⟩) ?_ (.int .i64 x)).set_ne (p := ⟨B2, 1, none⟩) ?_ (.int .i64 y)
  ·exact fun h => by have := (zo.lt _ h).1; simp at this; omega
  ·exact fun h => by have := (zo.lt _ h).1; simp at this; omega
 ·simp [World.setCell]; exact hz5
 ·exact (hB5.set_at (b := B2) (o := 0) hn2 (.int .i64 x)).set_at (b := B2) (o := 1) hn2 (.int .i64 y)
end Go.Proofs.YtjggoajfilnfjaaGreat
namespace Go
def chk (kind : Int) (first : Bool) : List (List Pt) → Int
 | [] => 0
 | l :: t => if partE kind first l ≠ 0 then partE kind first l else chk kind false t
def checkE (kind : Int) (G : List (List Pt)) : Int := if kind ≠ 2 ∧ kind ≠ 3 then 14 else if G.length = 0 then 15 else chk kind true G
theorem chk_end (kind : Int) (first : Bool) (G : List (List Pt)) (k : Nat) (h : ¬ k < G.length) : chk kind first (G.drop k) = 0 := by
 rw [List.drop_of_length_le (by omega)]; rfl
end Go
namespace Go.Proofs.YtjggoajfilnfjaaGreat
open Go.RowKit

set_option maxHeartbeats 1600000 in
theorem gcheck_any (kind : Int) (a : Option Addr) (c : Nat) (xs : List PC) (hl : xs.length ≤ 1000000) (hle : ∀ x ∈ xs, x.l.length ≤ 1000) (w : World) (hr : Rd w a (xs.map PC.val)) (hok : ∀ x ∈ xs, x.Ok w) :
  Calls Tryz.prog 59 #[.int .i64 kind, .slice a xs.length c] w fun e w' => e = .returned (.int .i64 (checkE kind (xs.map (·.l)))) ∧ Below w.heap.size w w' := by
 obtain ⟨E, hE⟩ : ∃ E, checkE kind (xs.map (·.l)) = E := ⟨_, rfl⟩; rw [hE]; unfold checkE at hE; rw [List.length_map] at hE; have HE := Lib.hid hE; clear hE
 go_enter Tryz.func59, Tryz.ntmps59
 by_cases hk : kind = 2 ∨ kind = 3
 ·have hkk : ((kind != 2) && (kind != 3)) = false := by rcases hk with rfl | rfl <;> rfl
  by_cases h0 : xs.length = 0
  ·have HE0 : Hid (E = 15) := Lib.hid (by rw [← HE.out, if_neg (by omega), if_pos h0]); have HK := Lib.hid hk
   rcases hk with rfl | rfl
   ·go_wp2; go_ret; exact ⟨ret_int HE0.out.symm, Below.refl _ _⟩
   ·go_wp2; go_ret; exact ⟨ret_int HE0.out.symm, Below.refl _ _⟩
  ·have HE0 : Hid (E = chk kind true (xs.map (·.l))) := Lib.hid (by rw [← HE.out, if_neg (by omega), if_neg h0]); have HK := Lib.hid hk; clear HE; have loop : ∀ k kk : Int, (kind = k) → True := fun _ _ _ => trivial; clear loop
   rcases hk with rfl | rfl
   all_goals
    go_wp2
    go_loopw [21] (fun i wr => ∃ k : Nat, k ≤ xs.length ∧ i = .int .i64 k ∧ E = chk _ (decide (k = 0)) ((xs.map (·.l)).drop k) ∧ Below w.heap.size w wr) (fun i _ => xs.length - (intOf i).toNat)
    case atStart => exact ⟨0, Nat.zero_le _, rfl, HE0.out, Below.refl _ _⟩
    case round =>
     obtain ⟨k, hk, rfl, hst, hbl⟩ := hrel; have hs := hbl.size
     by_cases hlt : k < xs.length
     ·obtain ⟨x, hxk⟩ : ∃ x, xs[k] = x := ⟨_, rfl⟩; have hxm : x ∈ xs := by rw [← hxk]; exact List.getElem_mem _
      have hxo : x.Ok w := hok x hxm; have hxl := hle x hxm; obtain ⟨b1, off1, rfl, c0, _⟩ := (hr.keep hbl).at (i := k) (v := x.val) (by simp [hlt, hxk]); have hd : (xs.map (·.l)).drop k = x.l :: (xs.map (·.l)).drop (k + 1) := by
       rw [List.drop_eq_getElem_cons (by simpa using hlt)]; simp [hxk]
      rw [hd] at hst; have hp := fun kd hkd => gpart_any kd (decide (k = 0)) x hxl hkd wr (hxo.keep hbl); have HP := Lib.hid hp; have hkz : (((k : Nat) : Int) == 0) = decide (k = 0) := by
       by_cases h : k = 0
       ·subst h; rfl
       ·rw [decide_eq_false h]; simp; omega
      rw [chk] at hst; have HST := Lib.hid hst; have hk1 : decide (k + 1 = 0) = false := by simp
      have HK1 := Lib.hid hk1; clear hst hp hxk hxm hxo hok hle hr hd hk1 HE0; obtain ⟨l, p, cx⟩ := x; dsimp only [PC.val] at *
      go_wp2_with fail
      refine (HP.out _ (by first | exact .inl rfl | exact .inr rfl)).mono ?_; rintro e w1 ⟨rfl, hb1⟩; have hbl1 := hbl.trans (hb1.mono hs); clear hb1 HP c0; have HST := HST.out; generalize partE _ (decide (k = 0)) l = pe at *
      by_cases hpe : pe = 0
      ·subst hpe; rw [if_neg (by simp), ← HK1.out] at HST; have HST := Lib.hid HST; go_wp2; go_roundw
       case rel => exact ⟨k + 1, by omega, by go_num, HST.out, hbl1⟩
       case measure => simp [intOf]; omega
      ·rw [if_pos hpe] at HST; have HST := Lib.hid HST; have hpe' : (pe != 0) = true := by simpa using hpe
       go_wp2; go_ret; exact ⟨ret_int HST.out.symm, hbl1⟩
     ·rw [chk_end _ _ _ _ (by simpa using hlt)] at hst; obtain rfl : k = xs.length := by omega
      have HST := Lib.hid hst; go_wp2; go_ret; exact ⟨ret_int HST.out.symm, hbl⟩
 ·have HE0 : Hid (E = 14) := Lib.hid (by rw [← HE.out, if_pos (by omega)]); have hk2 : (kind != 2) = true := by simp; omega
  have hk3 : (kind != 3) = true := by simp; omega
  go_wp2; go_ret; exact ⟨ret_int HE0.out.symm, Below.refl _ _⟩
end Go.Proofs.YtjggoajfilnfjaaGreat
namespace Go
open Go.RowKit Go.Vint
def pn (a : Pt) : List Pt → List Int
 | [] => []
 | p :: l => byN a p ++ pn p l
def partN (kind : Int) (a : Pt) (l : List Pt) : List Int :=
 [(9 : Int)] ++ byN a l[0]! ++ [((l.length : Int) - 1) * 8 + 2] ++ pn l[0]! (l.drop 1) ++ (if kind = 3 then [15] else [])
def numsF (kind : Int) (a : Pt) : List (List Pt) → List Int
 | [] => []
 | l :: t => partN kind a l ++ numsF kind l[l.length - 1]! t

theorem pn_len (l : List Pt) : ∀ a, (pn a l).length = 2 * l.length := by
 induction l with
 | nil => intro a; rfl
 | cons p l ih => intro a; rw [pn, List.length_append, ih p]; simp [byN]; omega
theorem partE_zero {kind : Int} {first : Bool} {l : List Pt} (hk : kind = 2 ∨ kind = 3) (h : partE kind first l = 0) : 2 ≤ l.length ∧ ∀ p ∈ l, Close p := by
 unfold partE at h
 split at h
 ·simp at h
 ·rename_i h1
  split at h
  ·simp at h
  ·rename_i h2; refine ⟨by omega, fun p hp => ?_⟩; have : l.all near = true := by simpa using h1
   have := List.all_eq_true.1 this p hp
   simpa [near, Close] using this

theorem chk_zero {kind : Int} (hk : kind = 2 ∨ kind = 3) (G : List (List Pt)) : ∀ first, chk kind first G = 0 → ∀ l ∈ G, 2 ≤ l.length ∧ ∀ p ∈ l, Close p := by
 induction G with
 | nil => intro _ _ l hl; simp at hl
 | cons l0 t ih =>
  intro first h l hl; rw [chk] at h
  by_cases hp : partE kind first l0 = 0
  ·rw [if_neg (by simpa using hp)] at h
   rcases List.mem_cons.1 hl with rfl | hl
   ·exact partE_zero hk hp
   ·exact ih _ h l hl
  ·rw [if_pos hp] at h; exact absurd h hp

theorem checkE_zero {kind : Int} {G : List (List Pt)} (h : checkE kind G = 0) : (kind = 2 ∨ kind = 3) ∧ 1 ≤ G.length ∧ ∀ l ∈ G, 2 ≤ l.length ∧ ∀ p ∈ l, Close p := by
 unfold checkE at h
 split at h
 ·simp at h
 ·split at h
  ·simp at h
  ·have hk : kind = 2 ∨ kind = 3 := by omega
   exact ⟨hk, by omega, chk_zero hk G true h⟩

theorem Num.keep {e : TypeId} {base B1 B2 : Nat} {W W' : World} {R : List Int} {at' : Pt} (h : Num e base B1 B2 W R at') (hb : Below W.heap.size W W') : Num e base B1 B2 W' R at' := by
 obtain ⟨v, h1, h2, h3, h4⟩ := h; exact ⟨v, h1.keep hb, h2.keep hb, h3.below hb, Nat.le_trans h4 hb.size⟩
theorem Num.app {e : TypeId} {base B1 B2 n0 : Nat} {w wr w2 : World} {S : List Int} {at' : Pt} {v v2 : Value} {n : Int} (b1 : Blk wr B1 [v]) (b2 : Blk wr B2 at'.cells) (hown : wr.ownsRow base e 1 v S.length (S.map (Value.int .u64))) (hbs : base ≤ wr.heap.size)
  (h1 : B1 < base) (h2 : B2 < base) (hne : B1 ≠ B2) (hn1 : n0 ≤ B1) (hbl : Below n0 w wr) (hg : (wr.alloc (.cells #[.int .u64 n] e)).grownBy w2 v.ownBlock)
  (hown2 : w2.ownsRow base e 1 v2 (S.length + 1) (S.map (Value.int .u64) ++ [.int .u64 n])) :
  Blk w2 B1 [v] ∧ Num e base B1 B2 (w2.setCell ⟨B1, 0, none⟩ v2) (S ++ [n]) at' ∧ Below n0 w (w2.setCell ⟨B1, 0, none⟩ v2) := by
 have hno : ∀ b, b < base → some b ≠ v.ownBlock := fun b hb e => by have := (hown.lt b e.symm).1; omega
 have y1 := (b1.alloc (.cells #[.int .u64 n] e)).grown hg (hno _ h1); have y2 := (b2.alloc (.cells #[.int .u64 n] e)).grown hg (hno _ h2); have hB := (hbl.alloc (by omega) (.cells #[.int .u64 n] e)).grown hg (by simp; omega) (fun k hk => by have := (hown.lt k hk).1; omega); have hsz : base ≤ w2.heap.size := by have := hg.size; simp at this; omega
 refine ⟨y1, ⟨v2, y1.set 0 v2, y2.set_at (fun e => hne e.symm) v2, ?_, ?_⟩, hB.set_at hn1 v2⟩
 ·rw [List.length_append, List.map_append]; refine hown2.set_ne (p := ⟨B1, 0, none⟩) ?_ v2; exact fun h => by have := (hown2.lt _ h).1; simp at this; omega
 ·simp [World.setCell]; exact hsz
end Go
namespace Go.Proofs.YtjggoajfilnfjaaGreat
open Go.RowKit Go.Vint

set_option maxHeartbeats 1600000 in
theorem gnums_any (kind : Int) (a : Option Addr) (c : Nat) (xs : List PC) (hl : xs.length ≤ 100) (hle : ∀ x ∈ xs, x.l.length ≤ 1000) (w : World) (hr : Rd w a (xs.map PC.val)) (hok : ∀ x ∈ xs, x.Ok w) (R : List Int)
  (hR : R = (if checkE kind (xs.map (·.l)) = 0 then numsF kind ⟨0, 0⟩ (xs.map (·.l)) else [])) :
  Calls Tryz.prog 101 #[.int .i64 kind, .slice a xs.length c] w fun e w' => ∃ v, e = .returned (.tuple #[v, .int .i64 (checkE kind (xs.map (·.l)))]) ∧
   w'.ownsRow w.heap.size 70 1 v R.length (R.map (Value.int .u64)) ∧ Below w.heap.size w w' := by
 have hc := gcheck_any kind a c xs (by omega) hle w hr hok; have hE : checkE kind (xs.map (·.l)) = 0 → (kind = 2 ∨ kind = 3) ∧ ∀ x ∈ xs, 2 ≤ x.l.length ∧ ∀ p ∈ x.l, Close p := fun h => by
  obtain ⟨h1, h2, h3⟩ := checkE_zero h; exact ⟨h1, fun x hx => h3 x.l (List.mem_map_of_mem hx)⟩
 generalize checkE kind (xs.map (·.l)) = E at *; have HC := Lib.hid hc; have HE := Lib.hid hE
 by_cases hE0 : E = 0
 ·subst hE0; rw [if_pos rfl] at hR; obtain ⟨hk, hx⟩ := hE rfl; have HX := Lib.hid hx; have HRR := Lib.hid hR; have HOK := Lib.hid hok; have HLE := Lib.hid hle; clear HE hx hc hE hR hok hle
  go_enter Tryz.func101, Tryz.ntmps101
  go_wp2_with fail
  refine HC.out.mono ?_; rintro e w1 ⟨rfl, hb1⟩; have hs1 := hb1.size; clear HC; go_wp2
  go_loopw [24] (fun i wr => ∃ (k : Nat) (S : List Int) (at' : Pt), k ≤ xs.length ∧ i = .int .i64 k ∧ R = S ++ numsF kind at' ((xs.map (·.l)).drop k) ∧ S.length ≤ 2003 * k ∧ Close at' ∧
   Num 70 (w1.heap.size + 2) w1.heap.size (w1.heap.size + 1) wr S at' ∧ Below w.heap.size w wr) (fun i _ => xs.length - (intOf i).toNat)
  case atStart =>
   refine ⟨0, [], ⟨0, 0⟩, Nat.zero_le _, rfl, HRR.out, by simp, ⟨⟨by decide, by decide⟩, by decide, by decide⟩, ⟨.slice none 0 0, ?_, ?_, World.ownsRow_nil _ _ _ _, ?_⟩, ?_⟩
   ·exact (Blk.new w1 [.slice none 0 0] 151).alloc _
   ·exact Blk.lit (w1.alloc (.cells #[.slice none 0 0] 151)) _ [.int .i64 0, .int .i64 0] 79 (by simp)
   ·simp
   ·exact (hb1.alloc hs1 _).alloc (by simp; omega) _
  case round =>
   obtain ⟨k, S, at', hk1, rfl, hRS, hSl, hca, ⟨v, b1, b2, hown, hbs⟩, hbl⟩ := hrel; have hs := hbl.size
   by_cases hlt : k < xs.length
   ·obtain ⟨x, hxk⟩ : ∃ x, xs[k] = x := ⟨_, rfl⟩; have hxm : x ∈ xs := by rw [← hxk]; exact List.getElem_mem _
    have hxo : x.Ok w := HOK.out x hxm; have hxl := HLE.out x hxm; obtain ⟨hx2, hxc⟩ := HX.out x hxm; obtain ⟨bb, ob, rfl, c0, _⟩ := (hr.keep hbl).at (i := k) (v := x.val) (by simp [hlt, hxk]); have hd : (xs.map (·.l)).drop k = x.l :: (xs.map (·.l)).drop (k + 1) := by
     rw [List.drop_eq_getElem_cons (by simpa using hlt)]; simp [hxk]
    rw [hd, numsF] at hRS; have HRS := Lib.hid hRS; have HXC := Lib.hid hxc; clear hd hxk hxm hRS hxc HOK HLE HX HRR; obtain ⟨l, p, cx⟩ := x; obtain ⟨hr2, hc2, hc3, hc4⟩ := hxo; dsimp only [PC.val] at *; obtain ⟨pb, po, rfl, -, -, -⟩ := hr2.pt 0 (by omega); have hL0 : 0 < l.length := by omega
    obtain ⟨q, hq⟩ : ∃ q, l[0]! = q := ⟨_, rfl⟩; have hQ : ∀ W, Below w.heap.size w W → W.cell? ⟨pb, po, none⟩ = some (.int .i64 q.x) ∧ W.cell? ⟨pb, po + 1, none⟩ = some (.int .i64 q.y) := fun W h => by
     obtain ⟨_, _, ee, -, d0, d1⟩ := (hr2.keep h).pt 0 (by omega)
     cases ee
     rw [Nat.zero_mul, Nat.add_zero, ← getElem!_pos l 0 (by omega), hq] at d0 d1; exact ⟨d0, d1⟩
    have hql : Close q := by rw [← hq, getElem!_pos l 0 (by omega)]; exact HXC.out _ (List.getElem_mem _)
    have HQL := Lib.hid hql; have HPN : Hid (partN kind at' l = [(9 : Int)] ++ byN at' q ++ [((l.length : Int) - 1) * 8 + 2] ++ pn q (l.drop 1) ++ (if kind = 3 then [15] else [])) := Lib.hid (by unfold partN; rw [hq]); have HQ0 : Hid (l[0]! = q) := Lib.hid hq; clear hq hql; obtain ⟨qx, qy⟩ := q; dsimp only at hQ; have HQ := Lib.hid hQ; clear hQ; obtain ⟨B1, hB1⟩ : ∃ B1, w1.heap.size = B1 := ⟨_, rfl⟩; rw [hB1] at b1 b2 hown hbs hs1 ⊢; have d0 := b1.cell 0 rfl; have hSb : S.length ≤ 300000 := by omega
    obtain ⟨i0, hi, hz0, hz1, hz2⟩ := info_parts Tryz.infoU64
    go_wp2_with (at_builtin; go_must (refine wpList_append_own_at (wr.alloc (.cells #[.int .u64 9] 70)) rfl (.tmp 28) (.tmp 29) 151 rfl (B1 + 2) 70 i0 (.int .u64 0) 1 8 Tryz.underlying151 hi hz0 hz1 hz2 rfl (by decide) v S.length (S.map (Value.int .u64)) rfl (hown.below (Below.new _ _)) ⟨wr.heap.size, 0, none⟩ 1 1 [.int .u64 9] rfl rfl (Rd.new wr [.int .u64 9] 70).add (by simp [Value.oneCell']) (by unfold maxLen; omega) (by omega) (by simp; omega) ?_); intro v2 w2 hown2 hg2 _ _; obtain ⟨pa, pc, rfl, -⟩ := hown2.form; obtain ⟨e1, hN1, hbl2⟩ := Num.app b1 b2 hown hbs (by omega) (by omega) (by omega) hs1 hbl hg2 hown2; have e0 := e1.cell 0 rfl; have f0 := e1.free 0; clear hown hown2 hbl hg2 b1 b2 d0 hbs; obtain ⟨d0, d1⟩ := HQ.out _ hbl2)
    generalize w2.setCell ⟨B1, 0, none⟩ (.slice pa (S.length + 1) pc) = w3 at hN1 hbl2 ⊢; refine (by_any ⟨qx, qy⟩ at' (S ++ [9]) (B1 + 2) B1 (B1 + 1) w.heap.size (by omega) (by omega) (by omega) hs1 (by omega) HQL.out hca (by simp; omega) w3 hN1).mono ?_; rintro e w4 ⟨⟨rv, rfl⟩, hN2, hb3⟩; have hbl3 := hbl2.trans hb3; clear hb3 hbl2 hN1 d0 d1 e0 f0 e1 c0; obtain ⟨S2, hS2⟩ : ∃ S2, S ++ [9] ++ byN at' ⟨qx, qy⟩ = S2 := ⟨_, rfl⟩; rw [hS2] at hN2; have hS2l : S2.length = S.length + 3 := by rw [← hS2]; simp [byN]
    have HS2 := Lib.hid hS2; clear hS2; obtain ⟨v5, b3, b4, hown5, hbs5⟩ := hN2; have d2 := b3.cell 0 rfl; obtain ⟨VV, hVV⟩ : ∃ VV, VV = ((l.length : Int) - 1) * 8 + 2 := ⟨_, rfl⟩; have hor : bits BinOp.or IntKind.u64 (((l.length : Int) - 1) * 8) 2 = VV := by
     rw [hVV]; exact u64_or_hi 3 _ 2 (by decide) (by omega) (by omega) (by omega) (by decide) (by decide)
    have HVV := Lib.hid hVV; clear hVV
    go_wp2_with (at_builtin; go_must (refine wpList_append_own_at (w4.alloc (.cells #[.int .u64 VV] 70)) rfl (.tmp 36) (.tmp 43) 151 rfl (B1 + 2) 70 i0 (.int .u64 0) 1 8 Tryz.underlying151 hi hz0 hz1 hz2 rfl (by decide) v5 S2.length (S2.map (Value.int .u64)) rfl (hown5.below (Below.new _ _)) ⟨w4.heap.size, 0, none⟩ 1 1 [.int .u64 VV] rfl rfl (Rd.new w4 [.int .u64 VV] 70).add (by simp [Value.oneCell']) (by unfold maxLen; omega) (by omega) (by simp; omega) ?_); intro v6 w6 hown6 hg6 _ _; obtain ⟨pa6, pc6, rfl, -⟩ := hown6.form; obtain ⟨e6, hN6, hbl6⟩ := Num.app b3 b4 hown5 hbs5 (by omega) (by omega) (by omega) hs1 hbl3 hg6 hown6; have e60 := e6.cell 0 rfl; have f60 := e6.free 0; clear hown5 hown6 hbl3 hg6 b3 b4 d2 hbs5)
    rw [hS2l] at hN6 hbl6; generalize w6.setCell ⟨B1, 0, none⟩ (.slice pa6 (S.length + 3 + 1) pc6) = w7 at hN6 hbl6 ⊢; clear e60 f60 e6; have hrd := hr2.drop 2; rw [pts_drop1] at hrd; obtain ⟨NN, hNN⟩ : ∃ NN, NN = S2 ++ [VV] ++ pn ⟨qx, qy⟩ (l.drop 1) := ⟨_, rfl⟩; have HNN := Lib.hid hNN; clear hNN; have hLd : (l.drop 1).length = l.length - 1 := by simp
    go_loopw [48] (fun i wj => ∃ (j : Nat) (T : List Int) (q' : Pt), j ≤ l.length - 1 ∧ i = .int .i64 j ∧ NN = T ++ pn q' ((l.drop 1).drop j) ∧ T.length = S.length + 4 + 2 * j ∧ q' = l[j]! ∧ Close q' ∧
     Num 70 (B1 + 2) B1 (B1 + 1) wj T q' ∧ Below w.heap.size w wj) (fun i _ => l.length - (intOf i).toNat)
    case atStart =>
     exact ⟨0, S2 ++ [VV], ⟨qx, qy⟩, Nat.zero_le _, rfl, HNN.out, by simp; omega, HQ0.out.symm, HQL.out, hN6, hbl6⟩
    case round =>
     obtain ⟨j, T, q', hj, rfl, hNT, hTl, hq', hqc, hN8, hbl8⟩ := hrel; have hs8 := hbl8.size
     by_cases hlj : j < l.length - 1
     ·have hjd : j < (l.drop 1).length := by simp; omega
      obtain ⟨_, _, ee, -, f0, f1⟩ := (hrd.keep hbl8).pt j hjd
      cases ee
      have hd : (l.drop 1)[j] = l[j + 1]! := by rw [List.getElem_drop, getElem!_pos l (j + 1) (by omega)]; congr 1; omega
      have hdr : (l.drop 1).drop j = l[j + 1]! :: (l.drop 1).drop (j + 1) := by rw [List.drop_eq_getElem_cons hjd, hd]
      have hpc : Close l[j + 1]! := by rw [getElem!_pos l (j + 1) (by omega)]; exact HXC.out _ (List.getElem_mem _)
      rw [hdr, pn] at hNT; rw [hd] at f0 f1; have HPC := Lib.hid hpc; have HNT := Lib.hid hNT; obtain ⟨p, hp⟩ : ∃ p, l[j + 1]! = p := ⟨_, rfl⟩; rw [hp] at f0 f1 HPC HNT; have HP := Lib.hid hp; clear hd hdr hpc hNT hp hjd hq'; obtain ⟨px, py⟩ := p; dsimp only at f0 f1; have hN9 := hN8.keep (Below.new wr (.cells #[.int .i64 px, .int .i64 py] 79)); have hbl9 := hbl8.alloc hs8 (.cells #[.int .i64 px, .int .i64 py] 79); clear hbl8 hN8
      go_wp2_with fail
      refine (by_any ⟨px, py⟩ q' T (B1 + 2) B1 (B1 + 1) w.heap.size (by omega) (by omega) (by omega) hs1 (by omega) HPC.out hqc (by omega) _ hN9).mono ?_; rintro e w10 ⟨⟨rv, rfl⟩, hN10, hb10⟩; have hbl10 := hbl9.trans hb10; clear hN9 hbl9 hb10; go_wp2; go_roundw
      case rel => exact ⟨j + 1, _, _, by omega, by go_num, by rw [HNT.out, List.append_assoc], by simp [byN]; omega, HP.out.symm, HPC.out, hN10, hbl10⟩
      case measure => simp [intOf]; omega
     ·obtain rfl : j = l.length - 1 := by omega
      rw [List.drop_of_length_le (by simp), pn, List.append_nil] at hNT; have HNT := Lib.hid hNT; have HQ' := Lib.hid hq'; clear hNT hq'; obtain ⟨v8, b5, b6, hown8, hbs8⟩ := hN8; have d3 := b5.cell 0 rfl
      rcases hk with rfl | rfl
      ·have hstep : Hid (R = T ++ numsF 2 q' ((xs.map (·.l)).drop (k + 1))) := Lib.hid (by
        rw [HRS.out, HPN.out, if_neg (by decide), HQ'.out, ← HNT.out, HNN.out, ← HS2.out, HVV.out]; simp only [List.append_assoc, List.append_nil])
       clear HRS HPN HQ' HNN HS2 HVV HXC HQ HQ0; go_wp2; go_roundw
       case rel => exact ⟨k + 1, T, q', by omega, by go_num, hstep.out, by omega, hqc, ⟨v8, b5, b6, hown8, hbs8⟩, hbl8⟩
       case measure => simp [intOf]; omega
      ·have hstep : Hid (R = (T ++ [15]) ++ numsF 3 q' ((xs.map (·.l)).drop (k + 1))) := Lib.hid (by
        rw [HRS.out, HPN.out, if_pos rfl, HQ'.out, ← HNT.out, HNN.out, ← HS2.out, HVV.out]; simp only [List.append_assoc, List.append_nil])
       clear HRS HPN HQ' HNN HS2 HVV HXC HQ HQ0
       go_wp2_with (at_builtin; go_must (refine wpList_append_own_at (wr.alloc (.cells #[.int .u64 15] 70)) rfl (.tmp 58) (.tmp 59) 151 rfl (B1 + 2) 70 i0 (.int .u64 0) 1 8 Tryz.underlying151 hi hz0 hz1 hz2 rfl (by decide) v8 T.length (T.map (Value.int .u64)) rfl (hown8.below (Below.new _ _)) ⟨wr.heap.size, 0, none⟩ 1 1 [.int .u64 15] rfl rfl (Rd.new wr [.int .u64 15] 70).add (by simp [Value.oneCell']) (by unfold maxLen; omega) (by omega) (by simp; omega) ?_); intro v9 w9 hown9 hg9 _ _; obtain ⟨pa9, pc9, rfl, -⟩ := hown9.form; obtain ⟨e9, hN9, hbl9⟩ := Num.app b5 b6 hown8 hbs8 (by omega) (by omega) (by omega) hs1 hbl8 hg9 hown9; have e90 := e9.cell 0 rfl; have f90 := e9.free 0; clear hown8 hown9 hbl8 hg9 b5 b6 d3 hbs8)
       go_roundw
       case rel => rw [hTl] at hN9 hbl9; exact ⟨k + 1, T ++ [15], q', by omega, by go_num, hstep.out, by simp; omega, hqc, hN9, hbl9⟩
       case measure => simp [intOf]; omega
   ·obtain rfl : k = xs.length := by omega
    have hfin : R = S := by rw [hRS, List.drop_of_length_le (by simp), numsF, List.append_nil]
    have d0 := b1.cell 0 rfl; subst hfin; clear hRS; go_wp2; refine bodyPost_ret (v := .tuple #[v, .int .i64 0]) (by simp [results, Tryz.results101, go_sem]) rfl ⟨v, rfl, hown.mono (by omega), hbl⟩
 ·have hE' : (E != 0) = true := by simpa using hE0
  rw [if_neg hE0] at hR; subst hR; clear HE hE hc
  go_enter Tryz.func101, Tryz.ntmps101
  go_wp2_with fail
  refine HC.out.mono ?_; rintro e w1 ⟨rfl, hb1⟩; clear HC; go_wp2; refine bodyPost_ret (v := .tuple #[.slice none 0 0, .int .i64 E]) (by simp [results, Tryz.results101, go_sem]) rfl ⟨_, rfl, World.ownsRow_nil _ _ _ _, hb1⟩
end Go.Proofs.YtjggoajfilnfjaaGreat

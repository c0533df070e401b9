/-
  proto.Same.
-/
import Derived.Test.YtoicahfpnnhgpaaPsame
import Derived.Test.YtoicahfpnnhgpaaPlow
import Derived.Test.YtoicahfpnnhgpaaBclone
import Derived.BigRegion
import Derived.RegionTactic
set_option linter.unusedVariables false
set_option linter.unusedSimpArgs false
namespace Go.Proofs.Ytoicahfpnnhgpaa
open Go.RowKit Go.Vint Go.Proto

set_option maxHeartbeats 2000000 in
theorem same2_any (a b : Option Addr) (c d : Nat) (xs ys : List FC) (hx : ∀ x ∈ xs, Byt x.f) (hy : ∀ y ∈ ys, Byt y.f) (hl : xs.length ≤ 1000000000) (hm : ys.length ≤ 1000000000) (w : World)
    (hr : Rd w a (flat xs)) (hs : Rd w b (flat ys)) (hok : ∀ x ∈ xs, x.Ok w) (hok2 : ∀ y ∈ ys, y.Ok w) :
    Calls Try.prog 20 #[.slice a xs.length c, .slice b ys.length d] w fun e w' => e = .returned (.bool (decide (xs.map (·.f) = ys.map (·.f)))) ∧ Below w.heap.size w w' := by
  by_cases hlen : xs.length = ys.length
  · have hne : ((xs.length : Int) != (ys.length : Int)) = false := by simp [hlen]
    go_enter Try.func20, Try.ntmps20
    have HL := Lib.hid hlen
    clear hlen
    go_wp2
    go_loopw [15] (fun i wr => ∃ k : Nat, k ≤ xs.length ∧ i = .int .i64 k ∧ (xs.map (·.f)).take k = (ys.map (·.f)).take k ∧ Below w.heap.size w wr) (fun i _ => xs.length - (intOf i).toNat)
    case atStart => exact ⟨0, Nat.zero_le _, rfl, rfl, Below.refl _ _⟩
    case round =>
      obtain ⟨k, hk, rfl, heq, hbl⟩ := hrel
      have HE := Lib.hid heq
      clear heq
      by_cases hlt : k < xs.length
      · have hlt2 : k < ys.length := by have := HL.out; omega
        obtain ⟨x, hxk⟩ : ∃ x, xs[k] = x := ⟨_, rfl⟩
        obtain ⟨y, hyk⟩ : ∃ y, ys[k] = y := ⟨_, rfl⟩
        have h0 := fun j hj => flat_get xs k j hlt hj
        have g0 := fun j hj => flat_get ys k j hlt2 hj
        rw [hxk] at h0
        rw [hyk] at g0
        have hxo : x.Ok w := hok x (by rw [← hxk]; exact List.getElem_mem _)
        have hyo : y.Ok w := hok2 y (by rw [← hyk]; exact List.getElem_mem _)
        have hxb : Byt x.f := hx x (by rw [← hxk]; exact List.getElem_mem _)
        have hyb : Byt y.f := hy y (by rw [← hyk]; exact List.getElem_mem _)
        obtain ⟨b1, off1, rfl, -, _⟩ := hr.at (i := k * 4 + 0) (h0 0 (by omega))
        obtain ⟨b2, off2, rfl, -, _⟩ := hs.at (i := k * 4 + 0) (g0 0 (by omega))
        have HC1 : ∀ j v, j < 4 → x.cells[j]? = some v → wr.cell? ⟨b1, off1 + k * 4 + j, none⟩ = some v := by
          intro j v hj hv
          obtain ⟨b', o', e, hc, -⟩ := (hr.keep hbl).at (i := k * 4 + j) (v := v) (by rw [h0 j hj, hv])
          cases e
          rw [Nat.add_assoc]; exact hc
        have HC2 : ∀ j v, j < 4 → y.cells[j]? = some v → wr.cell? ⟨b2, off2 + k * 4 + j, none⟩ = some v := by
          intro j v hj hv
          obtain ⟨b', o', e, hc, -⟩ := (hs.keep hbl).at (i := k * 4 + j) (v := v) (by rw [g0 j hj, hv])
          cases e
          rw [Nat.add_assoc]; exact hc
        have c0 := HC1 0 _ (by omega) rfl
        have c1 := HC1 1 _ (by omega) rfl
        have c2 := HC1 2 _ (by omega) rfl
        have c3 := HC1 3 _ (by omega) rfl
        have d0 := HC2 0 _ (by omega) rfl
        have d1 := HC2 1 _ (by omega) rfl
        have d2 := HC2 2 _ (by omega) rfl
        have d3 := HC2 3 _ (by omega) rfl
        rw [Nat.add_zero] at c0 d0
        have HXO := Lib.hid hxo
        have HYO := Lib.hid hyo
        have HXK := Lib.hid hxk
        have HYK := Lib.hid hyk
        have HNO : Hid (x.f ≠ y.f → false = decide (xs.map (·.f) = ys.map (·.f))) := by
          refine Lib.hid fun hne => ?_
          symm; apply decide_eq_false
          intro h
          have h1 : (xs.map (·.f))[k]? = (ys.map (·.f))[k]? := by rw [h]
          rw [List.getElem?_map, List.getElem?_map, List.getElem?_eq_getElem hlt, List.getElem?_eq_getElem hlt2, hxk, hyk] at h1
          simp at h1
          exact hne h1
        clear h0 g0 hr hs hxo hyo hxk hyk hok hok2 HC1 HC2
        obtain ⟨⟨num, kind, n, bs⟩, p, cx⟩ := x
        obtain ⟨⟨num', kind', n', bs'⟩, p', cx'⟩ := y
        dsimp only at c0 c1 c2 c3 d0 d1 d2 d3
        have q1 := World.block_lt_of_cell? wr _ c0
        have q2 := World.block_lt_of_cell? wr _ d0
        simp only at q1 q2
        have hb1 : b1 ≠ wr.heap.size := by omega
        have hb2 : b1 ≠ wr.heap.size + 1 := by omega
        have hb3 : b2 ≠ wr.heap.size := by omega
        have hb4 : b2 ≠ wr.heap.size + 1 := by omega
        have hs0 := hbl.size
        by_cases e1 : num = num'
        · by_cases e2 : kind = kind'
          · by_cases e3 : n = n'
            · subst e1 e2 e3
              have f1 : (num != num) = false := by simp
              have f2 : (kind != kind) = false := by simp
              have f3 : (n != n) = false := by simp
              go_wp2
              go_region
              all_goals (go_wp2_with fail; refine (bequal_any p p' cx cx' bs bs' hxb hyb _ ((((HXO.out.keep hbl).1.alloc _).alloc _).drew) ((((HYO.out.keep hbl).1.alloc _).alloc _).drew)).mono ?_; rintro e w1 ⟨rfl, rfl⟩)
              all_goals
                by_cases e4 : bs = bs'
                · subst e4
                  simp only [decide_true]
                  go_wp2
                  go_roundw
                  case rel =>
                    refine ⟨k + 1, by omega, by go_num, ?_, (((hbl.alloc hs0 _).alloc (by simp; omega) _).drew)⟩
                    rw [List.take_succ_eq_append_getElem (by simpa using hlt), List.take_succ_eq_append_getElem (by simpa using hlt2), HE.out, List.getElem_map, List.getElem_map, HXK.out, HYK.out]
                  case measure => simp [intOf]; omega
                · rw [decide_eq_false e4]
                  go_wp2
                  go_ret
                  refine ⟨ret_bool (HNO.out (fun e => ?_)), (((hbl.alloc hs0 _).alloc (by simp; omega) _).drew)⟩
                  simp only [Fld.mk.injEq] at e
                  exact e4 e.2.2.2
            · have f1 : (num != num') = false := by simp [e1]
              have f2 : (kind != kind') = false := by simp [e2]
              have f3 : (n != n') = true := by simp [e3]
              have E1 := Lib.hid e1
              have E2 := Lib.hid e2
              have E3 := Lib.hid e3
              clear e1 e2 e3
              go_wp2
              go_region
              all_goals (go_wp2; go_ret; refine ⟨ret_bool (HNO.out (fun e => ?_)), (((hbl.alloc hs0 _).alloc (by simp; omega) _).drew)⟩; simp only [Fld.mk.injEq] at e; exact E3.out e.2.2.1)
          · have f1 : (num != num') = false := by simp [e1]
            have f2 : (kind != kind') = true := by simp [e2]
            have E1 := Lib.hid e1
            have E2 := Lib.hid e2
            clear e1 e2
            go_wp2
            go_region
            all_goals (go_wp2; go_ret; refine ⟨ret_bool (HNO.out (fun e => ?_)), (((hbl.alloc hs0 _).alloc (by simp; omega) _).drew)⟩; simp only [Fld.mk.injEq] at e; exact E2.out e.2.1)
        · have f1 : (num != num') = true := by simp [e1]
          have E1 := Lib.hid e1
          clear e1
          go_wp2
          go_region
          all_goals (go_wp2; go_ret; refine ⟨ret_bool (HNO.out (fun e => ?_)), (((hbl.alloc hs0 _).alloc (by simp; omega) _).drew)⟩; simp only [Fld.mk.injEq] at e; exact E1.out e.1)
      · go_wp2
        go_ret
        refine ⟨ret_bool ?_, hbl⟩
        symm; apply decide_eq_true
        have := HE.out
        rwa [List.take_of_length_le (by simp; omega), List.take_of_length_le (by have := HL.out; simp; omega)] at this
  · have hne : ((xs.length : Int) != (ys.length : Int)) = true := by simp; omega
    go_enter Try.func20, Try.ntmps20
    go_wp2
    go_ret
    refine ⟨ret_bool ?_, Below.refl _ _⟩
    symm; apply decide_eq_false; intro h; apply hlen
    have := congrArg List.length h
    simpa using this
end Go.Proofs.Ytoicahfpnnhgpaa

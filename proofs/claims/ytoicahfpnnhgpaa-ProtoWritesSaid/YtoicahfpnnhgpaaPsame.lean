/-
  graticulelaw08.same: are the program's fields the document's?
-/
import Derived.Test.YtoicahfpnnhgpaaPof
import Derived.Test.YtoicahfpnnhgpaaReg
import Derived.Test.YtoicahfpnnhgpaaBclone
set_option linter.unusedVariables false
set_option linter.unusedSimpArgs false
namespace Go.Proto
open Go.Vint
instance : DecidableEq Fld := fun a b => decidable_of_iff (a.num = b.num ∧ a.kind = b.kind ∧ a.n = b.n ∧ a.bs = b.bs) (by cases a; cases b; simp)
end Go.Proto
namespace Go.Proofs.Ytoicahfpnnhgpaa
open Go.RowKit Go.Vint Go.Proto

/-- Bytes of a field. -/
def Byt (f : Fld) : Prop := ∀ x ∈ f.bs, 0 ≤ x ∧ x ≤ 255

set_option maxHeartbeats 2000000 in
theorem psame_any (a b : Option Addr) (c d : Nat) (xs : List FC) (ys : List Fld) (hx : ∀ x ∈ xs, Byt x.f) (hy : ∀ y ∈ ys, Byt y) (hl : xs.length ≤ 1000000000) (hm : ys.length ≤ 1000000000) (w : World)
    (hr : Rd w a (flat xs)) (hs : Rd w b (rflat ys)) (hok : ∀ x ∈ xs, x.Ok w) :
    Calls Try.prog 13 #[.slice a xs.length c, .slice b ys.length d] w fun e w' => e = .returned (.bool (decide (xs.map (·.f) = ys))) ∧ Below w.heap.size w w' := by
  by_cases hlen : xs.length = ys.length
  · have hne : ((xs.length : Int) != (ys.length : Int)) = false := by simp [hlen]
    go_enter Try.func13, Try.ntmps13
    have HL := Lib.hid hlen
    clear hlen
    go_wp2
    go_loopw [5] (fun i wr => ∃ k : Nat, k ≤ xs.length ∧ i = .int .i64 k ∧ (xs.map (·.f)).take k = ys.take k ∧ Below w.heap.size w wr) (fun i _ => xs.length - (intOf i).toNat)
    case atStart => exact ⟨0, Nat.zero_le _, rfl, rfl, Below.refl _ _⟩
    case round =>
      obtain ⟨k, hk, rfl, heq, hbl⟩ := hrel
      have HE := Lib.hid heq
      clear heq
      by_cases hlt : k < xs.length
      · have hlt2 : k < ys.length := by have := HL.out; omega
        obtain ⟨x, hxk⟩ : ∃ x, xs[k] = x := ⟨_, rfl⟩
        obtain ⟨y, hyk⟩ : ∃ y, ys[k] = y := ⟨_, rfl⟩
        have h0 := fun j hj => flat_get xs k j hlt hj
        have g0 := fun j hj => rflat_get ys k j hlt2 hj
        rw [hxk] at h0
        rw [hyk] at g0
        have hxo : x.Ok w := hok x (by rw [← hxk]; exact List.getElem_mem _)
        have hxb : Byt x.f := hx x (by rw [← hxk]; exact List.getElem_mem _)
        have hyb : Byt y := hy y (by rw [← hyk]; exact List.getElem_mem _)
        obtain ⟨b1, off1, rfl, -, _⟩ := hr.at (i := k * 4 + 0) (h0 0 (by omega))
        obtain ⟨b2, off2, rfl, -, _⟩ := hs.at (i := k * 4 + 0) (g0 0 (by omega))
        have HC1 : Hid (∀ W, Below wr.heap.size wr W → ∀ j v, j < 4 → x.cells[j]? = some v → W.cell? ⟨b1, off1 + k * 4 + j, none⟩ = some v) := by
          refine Lib.hid fun W hW j v hj hv => ?_
          obtain ⟨b', o', e, hc, -⟩ := ((hr.keep hbl).keep hW).at (i := k * 4 + j) (v := v) (by rw [h0 j hj, hv])
          cases e
          rw [Nat.add_assoc]; exact hc
        have HC2 : Hid (∀ W, Below wr.heap.size wr W → ∀ j v, j < 4 → (rcells y)[j]? = some v → W.cell? ⟨b2, off2 + k * 4 + j, none⟩ = some v) := by
          refine Lib.hid fun W hW j v hj hv => ?_
          obtain ⟨b', o', e, hc, -⟩ := ((hs.keep hbl).keep hW).at (i := k * 4 + j) (v := v) (by rw [g0 j hj, hv])
          cases e
          rw [Nat.add_assoc]; exact hc
        have HOF := Lib.hid (of_any x)
        have HXO := Lib.hid hxo
        have HXK := Lib.hid hxk
        have HYK := Lib.hid hyk
        clear h0 g0 hr hs hxo hxk hyk hok
        obtain ⟨⟨num, kind, n, bs⟩, p, cx⟩ := x
        obtain ⟨num', kind', n', bs'⟩ := y
        go_wp2
        refine wp_region_lit_txt [0, 1, 2, 3, 5, 6, 7, 8, 9] (Below wr.heap.size wr) (by kernel_rfl) (by kernel_rfl) (by kernel_rfl) ((Below.refl _ _).drew) ?_
        (refine txt_light ?_ rfl rfl ?_ ?_; rotate_left; · (intro w' hS; (try dsimp only at hS); go_simp; with_reducible rfl)); try simp only [Act.put, List.setIfInBounds_toArray, List.set_cons_zero, List.set_cons_succ]
        (refine txt_light ?_ rfl rfl ?_ ?_; rotate_left; · (intro w' hS; (try dsimp only at hS); go_simp; with_reducible rfl)); try simp only [Act.put, List.setIfInBounds_toArray, List.set_cons_zero, List.set_cons_succ]
        (refine txt_light ?_ rfl rfl ?_ ?_; rotate_left; · (intro w' hS; (try dsimp only at hS); go_simp; with_reducible rfl)); try simp only [Act.put, List.setIfInBounds_toArray, List.set_cons_zero, List.set_cons_succ]
        refine txt_light ?_ rfl rfl ?_ ?_
        rotate_left
        · intro w' hS
          have c0 : w'.cell? ⟨b1, off1 + k * 4, none⟩ = some (.int .i64 num) := HC1.out w' hS 0 _ (by omega) rfl
          have c1 : w'.cell? ⟨b1, off1 + k * 4 + 1, none⟩ = some (.int .i64 kind) := HC1.out w' hS 1 _ (by omega) rfl
          have c2 : w'.cell? ⟨b1, off1 + k * 4 + 2, none⟩ = some (.int .u64 n) := HC1.out w' hS 2 _ (by omega) rfl
          have c3 : w'.cell? ⟨b1, off1 + k * 4 + 3, none⟩ = some (.slice p bs.length cx) := HC1.out w' hS 3 _ (by omega) rfl
          go_simp
          with_reducible rfl
        · try simp only [Act.put, List.setIfInBounds_toArray, List.set_cons_zero, List.set_cons_succ]
          refine txt_call [.agg #[.int .i64 num, .int .i64 kind, .int .u64 n, .slice p bs.length cx]] Try.f10 rfl rfl Try.func10 (by kernel_rfl) (by kernel_rfl) rfl ((HOF.out _ (HXO.out.keep hbl.drew)).mono ?_)
          rintro e w4 ⟨rfl, hb4⟩
          have hb4' : Below wr.heap.size wr w4 := (Below.refl _ _).drew.trans (hb4.mono (Nat.le_refl _))
          clear hb4
          refine ⟨_, rfl, hb4', ?_⟩
          try simp only [Act.put, List.setIfInBounds_toArray, List.set_cons_zero, List.set_cons_succ, rcells]
          (refine txt_light ?_ rfl rfl ?_ ?_; rotate_left; · (intro w' hS; (try dsimp only at hS); go_simp; with_reducible rfl)); try simp only [Act.put, List.setIfInBounds_toArray, List.set_cons_zero, List.set_cons_succ]
          (refine txt_light ?_ rfl rfl ?_ ?_; rotate_left; · (intro w' hS; (try dsimp only at hS); go_simp; with_reducible rfl)); try simp only [Act.put, List.setIfInBounds_toArray, List.set_cons_zero, List.set_cons_succ]
          (refine txt_light ?_ rfl rfl ?_ ?_; rotate_left; · (intro w' hS; (try dsimp only at hS); go_simp; with_reducible rfl)); try simp only [Act.put, List.setIfInBounds_toArray, List.set_cons_zero, List.set_cons_succ]
          refine txt_light ?_ rfl rfl ?_ ?_
          rotate_left
          · intro w' hS
            have c0 : w'.cell? ⟨b2, off2 + k * 4, none⟩ = some (.int .i64 num') := HC2.out w' hS 0 _ (by omega) rfl
            have c1 : w'.cell? ⟨b2, off2 + k * 4 + 1, none⟩ = some (.int .i64 kind') := HC2.out w' hS 1 _ (by omega) rfl
            have c2 : w'.cell? ⟨b2, off2 + k * 4 + 2, none⟩ = some (.int .u64 n') := HC2.out w' hS 2 _ (by omega) rfl
            have c3 : w'.cell? ⟨b2, off2 + k * 4 + 3, none⟩ = some (.string (strOfNums bs')) := HC2.out w' hS 3 _ (by omega) rfl
            go_simp
            with_reducible rfl
          · try simp only [Act.put, List.setIfInBounds_toArray, List.set_cons_zero, List.set_cons_succ]
            refine txt_light (.bool (!decide (num = num' ∧ kind = kind' ∧ n = n' ∧ bs = bs'))) rfl rfl ?_ ?_
            · intro w' hS
              go_simp
              (
                simp only [strOfNums_toList_iff bs bs' hxb hyb]
                by_cases q1 : num = num' <;> by_cases q2 : kind = kind' <;> by_cases q3 : n = n' <;> by_cases q4 : bs = bs' <;> simp [q1, q2, q3, q4])
            · try simp only [Act.put, List.setIfInBounds_toArray, List.set_cons_zero, List.set_cons_succ]
              refine txt_nil ?_
              have hbl4 := hbl.trans (hb4'.mono hbl.size)
              clear hb4'
              by_cases q : num = num' ∧ kind = kind' ∧ n = n' ∧ bs = bs'
              · simp only [q, decide_true, Bool.not_true]
                go_wp2
                go_roundw
                case rel =>
                  refine ⟨k + 1, by omega, by go_num, ?_, hbl4⟩
                  rw [List.take_succ_eq_append_getElem (by simpa using hlt), List.take_succ_eq_append_getElem hlt2, HE.out, List.getElem_map, HXK.out, HYK.out]
                  obtain ⟨rfl, rfl, rfl, rfl⟩ := q
                  rfl
                case measure => simp [intOf]; omega
              · simp only [q, decide_false, Bool.not_false]
                go_wp2
                go_ret
                refine ⟨ret_bool ?_, hbl4⟩
                symm; apply decide_eq_false
                intro h
                have h1 : (xs.map (·.f))[k]? = ys[k]? := by rw [h]
                rw [List.getElem?_map, List.getElem?_eq_getElem hlt, List.getElem?_eq_getElem hlt2, HXK.out, HYK.out] at h1
                simp at h1
                exact q h1
      · go_wp2
        go_ret
        refine ⟨ret_bool ?_, hbl⟩
        symm; apply decide_eq_true
        have := HE.out
        rwa [List.take_of_length_le (by simp; omega), List.take_of_length_le (by have := HL.out; omega)] at this
  · have hne : ((xs.length : Int) != (ys.length : Int)) = true := by simp; omega
    go_enter Try.func13, Try.ntmps13
    go_wp2
    go_ret
    refine ⟨ret_bool ?_, Below.refl _ _⟩
    symm; apply decide_eq_false; intro h; apply hlen; rw [← h]; simp
end Go.Proofs.Ytoicahfpnnhgpaa

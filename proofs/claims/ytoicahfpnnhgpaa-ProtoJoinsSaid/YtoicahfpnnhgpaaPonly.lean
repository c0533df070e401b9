/-
  proto.Only.
-/
import Derived.Test.YtoicahfpnnhgpaaPall8
import Derived.Test.YtoicahfpnnhgpaaPcut
import Derived.Test.YtoicahfpnnhgpaaBclone
set_option linter.unusedVariables false
set_option linter.unusedSimpArgs false
namespace Go
open Go.RowKit
theorem KeepT.storeT {T U : TypeId} {A : World} {B : Nat} {t : TypeId} {vs : List Value} (h : BlkT A B t vs) (hT : t ≠ T) (hU : t ≠ U) (i : Nat) (u : Value) : KeepT T U A (A.setCell ⟨B, i, none⟩ u) :=
  KeepT.of_grownBy (row := some B) ⟨rfl, rfl, rfl, by rw [size_setCell]; exact Nat.le_refl _, fun k _ hk => Below.heap_setCell _ ⟨B, i, none⟩ _ _ (fun e => hk (by rw [e]))⟩ fun r he cs V fr hk => by
    cases he
    rw [show A.heap[B]? = _ from h] at hk
    cases hk
    exact ⟨hT, hU⟩
end Go
namespace Go.Proofs.Ytoicahfpnnhgpaa
open Go.RowKit Go.Vint Go.Proto

theorem typed_of_owns {w : World} {base : Nat} {a : Option Addr} {n c m : Nat} {xs : List Value} (h : w.ownsRow base 5 1 (.slice a n c) m xs) : ∀ b, a.map (·.block) = some b → Typed 5 w b := by
  intro b hb
  rcases h.2 with ⟨h2, _⟩ | ⟨g, cap, cur, hv, _, hg, _⟩
  · cases h2; cases hb
  · cases hv
    simp at hb
    subst hb
    exact ⟨_, _, hg⟩

set_option maxHeartbeats 4000000 in
theorem only_any (a : Option Addr) (c : Nat) (xs : List FC) (nm : Int) (w : World) (hr : Rd w a (flat xs)) (hok : ∀ x ∈ xs, x.Ok w) (hl : xs.length ≤ 1000000) (hbl0 : ∀ x ∈ xs, x.f.bs.length ≤ 1000000) :
    Calls Try.prog 19 #[.slice a xs.length c, .int .i64 nm] w fun e w' => ∃ v, e = .returned v ∧ ∃ ys : List FC, ys.map (·.f) = (xs.map (·.f)).filter (fun f => decide (f.num = nm)) ∧
      w'.ownsRow w.heap.size 25 4 v ys.length (flat ys) ∧ (∀ y ∈ ys, Lies w' y) ∧ Below w.heap.size w w' := by
  go_enter Try.func19, Try.ntmps19
  go_wp2
  go_loopw [5, 10] (fun o i wr => ∃ (k : Nat) (ys : List FC), k ≤ xs.length ∧ i = .int .i64 k ∧ ys.length ≤ k ∧ ys.map (·.f) = ((xs.map (·.f)).take k).filter (fun f => decide (f.num = nm)) ∧ wr.ownsRow w.heap.size 25 4 o ys.length (flat ys) ∧ (∀ y ∈ ys, Lies wr y) ∧ Below w.heap.size w wr) (fun _ i _ => xs.length - (intOf i).toNat)
  case atStart => exact ⟨0, [], Nat.zero_le _, rfl, Nat.le_refl _, rfl, World.ownsRow_nil _ _ _ _, by simp, Below.refl _ _⟩
  case round =>
    obtain ⟨k, ys, hk, rfl, hyl, hys, hown, hly, hbl⟩ := hrel
    have HYS := Lib.hid hys
    have HLY := Lib.hid hly
    clear hys hly
    by_cases hlt : k < xs.length
    · obtain ⟨x, hxk⟩ : ∃ x, xs[k] = x := ⟨_, rfl⟩
      have h0 := fun j hj => flat_get xs k j hlt hj
      rw [hxk] at h0
      have hxm : x ∈ xs := by rw [← hxk]; exact List.getElem_mem _
      have hxo : x.Ok w := hok x hxm
      have hbs := hbl0 x hxm
      obtain ⟨b1, off1, rfl, -, _⟩ := hr.at (i := k * 4 + 0) (h0 0 (by omega))
      have HC1 : ∀ W, Below w.heap.size w W → ∀ j v, j < 4 → x.cells[j]? = some v → W.cell? ⟨b1, off1 + k * 4 + j, none⟩ = some v := by
        intro W hW j v hj hv
        obtain ⟨b', o', e, hc, -⟩ := (hr.keep hW).at (i := k * 4 + j) (v := v) (by rw [h0 j hj, hv])
        cases e
        rw [Nat.add_assoc]; exact hc
      have c0 := HC1 wr hbl 0 _ (by omega) rfl
      have c1 := HC1 wr hbl 1 _ (by omega) rfl
      have c2 := HC1 wr hbl 2 _ (by omega) rfl
      have c3 := HC1 wr hbl 3 _ (by omega) rfl
      have HST1 : Hid (x.f.num = nm → ((xs.map (·.f)).take (k + 1)).filter (fun f => decide (f.num = nm)) = ((xs.map (·.f)).take k).filter (fun f => decide (f.num = nm)) ++ [x.f]) := by
        refine Lib.hid fun h => ?_
        rw [List.take_succ_eq_append_getElem (by simpa using hlt), List.filter_append, List.getElem_map, hxk]
        simp [h]
      have HST0 : Hid (¬ x.f.num = nm → ((xs.map (·.f)).take (k + 1)).filter (fun f => decide (f.num = nm)) = ((xs.map (·.f)).take k).filter (fun f => decide (f.num = nm))) := by
        refine Lib.hid fun h => ?_
        rw [List.take_succ_eq_append_getElem (by simpa using hlt), List.filter_append, List.getElem_map, hxk]
        simp [h]
      have HXO := Lib.hid hxo
      rw [Nat.add_zero] at c0
      clear h0 hr hok hxk hxm hxo HC1 hbl0
      obtain ⟨⟨num, kind, n, bs⟩, p, cx⟩ := x
      dsimp only at hbs
      have hs := hbl.size
      by_cases hq : num = nm
      · subst hq
        have heq : (num == num) = true := by simp
        have hst := Lib.hid (HST1.out rfl)
        clear HST0 HST1
        go_wp2_with fail
        have hb1 := Below.new wr (.cells #[.int .i64 num, .int .i64 kind, .int .u64 n, .slice p bs.length cx] 25)
        have hX0 := BlkT.new wr [.int .i64 num, .int .i64 kind, .int .u64 n, .slice p bs.length cx] 25
        refine (bclone_any p cx bs hbs _ ((HXO.out.keep hbl).1.keep hb1) HXO.out.2.2.2).mono ?_
        rintro e w1 ⟨v1, rfl, hown1, hb2⟩
        have hf1 := hown1.form
        obtain ⟨a1, e1, rfl, q1, q2, q3, hr1, -⟩ := hf1
        have hty := typed_of_owns hown1
        have hX1 := hX0.keep hb2
        have hfr := hX1.blk.free 3
        have hX2 := hX1.set 3 (.slice a1 bs.length e1)
        have hb3 : Below wr.heap.size wr w1 := hb1.trans (hb2.mono (by simp))
        have hbl2 := (hbl.trans (hb3.mono hs)).set_at (b := wr.heap.size) (o := 3) hs (.slice a1 bs.length e1)
        have hown2 := (hown.below hb3).set_ne (p := ⟨wr.heap.size, 3, none⟩) (fun h => by have := (hown.lt _ h).2; simp at this) (.slice a1 bs.length e1)
        have hkT : KeepT 5 22 w1 (w1.setCell ⟨wr.heap.size, 3, none⟩ (.slice a1 bs.length e1)) := KeepT.storeT hX1 (by decide) (by decide) 3 _
        have d0 := hX1.cell 0 rfl
        have d1 := hX1.cell 1 rfl
        have d2 := hX1.cell 2 rfl
        have d3 := hX1.cell 3 rfl
        have hL1 : Lies w1 ⟨⟨num, kind, n, bs⟩, a1, e1⟩ := ⟨⟨hr1, q1, q2, q3⟩, hty⟩
        have HL1 := Lib.hid hL1
        have HKT := Lib.hid hkT
        have HB3 := Lib.hid hb3
        clear hown hown1 hr1 hty hX0 hX1 hb1 hb2 hL1 hkT hbl q1 q2 q3 c0 c1 c2 c3 hb3
        go_wp2_with (at_builtin; go_must (refine wpList_appLitAt w hbl2 rfl (.tmp 22) (.tmp 24) 36 rfl 25 (.agg #[.int .i64 0, .int .i64 0, .int .u64 0, .slice none 0 0]) 4 48 Try.underlying36 Try.infoField rfl (by decide) (by decide) u5 ys.length (flat ys) rfl hown2 1 1 w1.heap.size (by simp [World.setCell]) [.int .i64 num, .int .i64 kind, .int .u64 n, .slice a1 bs.length e1] _ rfl rfl (by simp [Value.oneCell']) (by omega) ?_); intro v2 w2 hown4 hg4 hbl4 _)
        go_roundw
        case rel =>
          have hkF : KeepT 5 22 w1 w2 := HKT.out.trans (KeepT.of_row hown2 (by decide) (by decide) hg4)
          refine ⟨k + 1, ys ++ [⟨⟨num, kind, n, bs⟩, a1, e1⟩], by omega, by go_num, by simp; omega, ?_, ?_, ?_, hbl4⟩
          · rw [hst.out, List.map_append, HYS.out]; rfl
          · rw [flat_snoc, List.length_append]; exact hown4
          · intro y hy
            rcases List.mem_append.1 hy with hy | hy
            · exact (HLY.out y hy).kept ((KeepT.of_below HB3.out).trans hkF)
            · obtain rfl : y = _ := by simpa using hy
              exact HL1.out.kept hkF
        case measure => simp [intOf]; omega
      · have heq : (num == nm) = false := by simpa using hq
        have hst := Lib.hid (HST0.out hq)
        clear HST0 HST1
        have hb1 := Below.new wr (.cells #[.int .i64 num, .int .i64 kind, .int .u64 n, .slice p bs.length cx] 25)
        go_wp2
        go_roundw
        case rel =>
          refine ⟨k + 1, ys, by omega, by go_num, by omega, HYS.out.trans hst.out.symm, hown.below hb1, fun y hy => (HLY.out y hy).kept (KeepT.of_below hb1), hbl.alloc hs _⟩
        case measure => simp [intOf]; omega
    · obtain rfl : k = xs.length := by omega
      have HYS := Lib.hid HYS.out
      rw [List.take_of_length_le (by simp)] at HYS
      go_wp2
      go_ret
      exact ⟨_, rfl, ys, HYS.out, hown, HLY.out, hbl⟩
end Go.Proofs.Ytoicahfpnnhgpaa

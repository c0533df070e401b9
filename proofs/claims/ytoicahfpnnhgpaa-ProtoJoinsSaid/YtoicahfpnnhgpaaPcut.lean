/-
  graticulelaw08.cut and ofs.
-/
import Derived.Test.YtoicahfpnnhgpaaPsame
import Derived.Test.YtoicahfpnnhgpaaPlow
import Derived.Test.YtoicahfpnnhgpaaInfo
set_option linter.unusedVariables false
set_option linter.unusedSimpArgs false
namespace Go
open Go.Proto
/-- A field with at most 50 bytes. -/
def FC.cut (x : FC) : FC := ⟨⟨x.f.num, x.f.kind, x.f.n, x.f.bs.take 50⟩, x.p, x.c⟩
end Go
namespace Go.Proofs.Ytoicahfpnnhgpaa
open Go.RowKit Go.Vint Go.Proto

theorem FC.Ok.cut {W : World} {x : FC} (h : x.Ok W) : x.cut.Ok W :=
  ⟨by show Rd W x.p ((x.f.bs.take 50).map _); rw [List.map_take]; exact h.1.take 50, by have := h.2.1; simp [FC.cut]; omega, h.2.2.1, h.2.2.2⟩

set_option maxHeartbeats 2000000 in
theorem cut_any (a : Option Addr) (c : Nat) (xs : List FC) (w : World) (hr : Rd w a (flat xs)) (hok : ∀ x ∈ xs, x.Ok w) (hl : xs.length ≤ maxLen) :
    Calls Try.prog 17 #[.slice a xs.length c] w fun e w' => ∃ v, e = .returned v ∧
      w'.ownsRow w.heap.size 25 4 v ((xs.take 20).map FC.cut).length (flat ((xs.take 20).map FC.cut)) ∧ Below w.heap.size w w' := by
  obtain ⟨Y, hY⟩ : ∃ Y, (xs.take 20).map FC.cut = Y := ⟨_, rfl⟩
  rw [hY]
  have HY := Lib.hid hY
  clear hY
  go_enter Try.func17, Try.ntmps17
  unfold maxLen at hl
  go_wp2
  go_loopw [3, 4] (fun o i wr => ∃ k : Nat, k ≤ xs.length ∧ k ≤ 20 ∧ i = .int .i64 k ∧ wr.ownsRow w.heap.size 25 4 o k (flat ((xs.take k).map FC.cut)) ∧ Below w.heap.size w wr) (fun _ i _ => xs.length - (intOf i).toNat)
  case atStart => exact ⟨0, Nat.zero_le _, by omega, rfl, World.ownsRow_nil _ _ _ _, Below.refl _ _⟩
  case round =>
    obtain ⟨k, hk, hk2, rfl, hown, hbl⟩ := hrel
    by_cases hlt : k < xs.length ∧ k < 20
    · obtain ⟨hlt, hlt2⟩ := hlt
      obtain ⟨x, hxk⟩ : ∃ x, xs[k] = x := ⟨_, rfl⟩
      have h0 := fun j hj => flat_get xs k j hlt hj
      rw [hxk] at h0
      have hxo : x.Ok w := hok x (by rw [← hxk]; exact List.getElem_mem _)
      obtain ⟨b1, off1, rfl, -, _⟩ := hr.at (i := k * 4 + 0) (h0 0 (by omega))
      have HC1 : ∀ W, Below w.heap.size w W → ∀ j v, j < 4 → x.cells[j]? = some v → W.cell? ⟨b1, off1 + k * 4 + j, none⟩ = some v := by
        intro W hW j v hj hv
        obtain ⟨b', o', e, hc, -⟩ := (hr.keep hW).at (i := k * 4 + j) (v := v) (by rw [h0 j hj, hv])
        cases e
        rw [Nat.add_assoc]; exact hc
      have c0 := HC1 wr hbl 0 _ (by omega) rfl
      have c1 := HC1 wr hbl 1 _ (by omega) rfl
      have c2 := HC1 wr hbl 2 _ (by omega) rfl
      have c3 := HC1 wr hbl 3 _ (by omega) rfl
      have hst : Hid (flat ((xs.take (k + 1)).map FC.cut) = flat ((xs.take k).map FC.cut) ++ x.cut.cells) := by
        refine Lib.hid ?_
        rw [List.take_succ_eq_append_getElem hlt, List.map_append, hxk]
        simp [flat]
      obtain ⟨⟨num, kind, n, bs⟩, p, cx⟩ := x
      have hx1 := hxo.2.1
      have hx2 := hxo.2.2.1
      dsimp only at hx1 hx2
      unfold maxLen at hx2
      have HXO := Lib.hid hxo
      clear h0 hr hok hxk hxo HC1
      rw [Nat.add_zero] at c0
      obtain ⟨z0, hz0⟩ : ∃ z : Int, (if (50 : Int) < (bs.length : Int) then (50 : Int) else (bs.length : Int)) = z := ⟨_, rfl⟩
      have e0 : z0.toNat = (bs.take 50).length := by rw [List.length_take, ← hz0]; split <;> omega
      have hz1 : 0 ≤ z0 ∧ z0 ≤ cx := by rw [← hz0]; split <;> omega
      have hs := hbl.size
      have hbx := hbl.alloc hs (.cells #[.int .i64 num, .int .i64 kind, .int .u64 n, .slice p (min 50 bs.length) cx] 25)
      have hownx := hown.below (Below.new wr (.cells #[.int .i64 num, .int .i64 kind, .int .u64 n, .slice p (min 50 bs.length) cx] 25))
      go_wp2_with (at_builtin; go_must (refine wpList_appLitAt w hbx rfl (.tmp 28) (.tmp 30) 36 rfl 25 (.agg #[.int .i64 0, .int .i64 0, .int .u64 0, .slice none 0 0]) 4 48 Try.underlying36 Try.infoField rfl (by decide) (by decide) u3 k (flat ((xs.take k).map FC.cut)) rfl hownx 1 1 (wr.heap.size + 1) (by simp) [.int .i64 num, .int .i64 kind, .int .u64 n, .slice p (min 50 bs.length) cx] _ rfl rfl (by simp [Value.oneCell']) (by omega) ?_); intro v2 w2 hown2 _ hbl2 _; clear hown hownx hbl hbx)
      go_roundw
      case rel =>
        refine ⟨k + 1, by omega, by omega, by go_num, ?_, hbl2⟩
        rw [hst.out]
        have e : FC.cells (FC.cut ⟨⟨num, kind, n, bs⟩, p, cx⟩) = [.int .i64 num, .int .i64 kind, .int .u64 n, .slice p (min 50 bs.length) cx] := by simp [FC.cells, FC.cut]
        rw [e]
        exact hown2
      case measure => simp [intOf]; omega
    · have e : xs.take 20 = xs.take k := by
        by_cases h : k < xs.length
        · rw [show k = 20 by omega]
        · rw [List.take_of_length_le (by omega), List.take_of_length_le (by omega)]
      have e2 : (xs.take 20).length = k := by simp; omega
      have E := Lib.hid e
      have E2 := Lib.hid e2
      have hfin : wr.ownsRow w.heap.size 25 4 u3 Y.length (flat Y) := by
        rw [← HY.out, List.length_map, E2.out, E.out]; exact hown
      have HFIN := Lib.hid hfin
      clear e e2 hfin
      by_cases h1 : k < xs.length
      · obtain rfl : k = 20 := by omega
        go_wp2
        go_ret
        exact ⟨_, rfl, HFIN.out, hbl⟩
      · obtain rfl : k = xs.length := by omega
        go_wp2
        go_ret
        exact ⟨_, rfl, HFIN.out, hbl⟩

set_option maxHeartbeats 2000000 in
theorem ofs_any (a : Option Addr) (c : Nat) (xs : List FC) (hl : xs.length ≤ 1000000) (w : World) (hr : Rd w a (flat xs)) (hok : ∀ x ∈ xs, x.Ok w) :
    Calls Try.prog 18 #[.slice a xs.length c] w fun e w' => ∃ v, e = .returned v ∧
      w'.ownsRow w.heap.size 30 4 v xs.length (rflat (xs.map (·.f))) ∧ Below w.heap.size w w' := by
  go_enter Try.func18, Try.ntmps18
  go_wp2
  go_loopw [3, 4] (fun o i wr => ∃ k : Nat, k ≤ xs.length ∧ i = .int .i64 k ∧ wr.ownsRow w.heap.size 30 4 o k (rflat ((xs.take k).map (·.f))) ∧ Below w.heap.size w wr) (fun _ i _ => xs.length - (intOf i).toNat)
  case atStart => exact ⟨0, Nat.zero_le _, rfl, World.ownsRow_nil _ _ _ _, Below.refl _ _⟩
  case round =>
    obtain ⟨k, hk, rfl, hown, hbl⟩ := hrel
    by_cases hlt : k < xs.length
    · obtain ⟨x, hxk⟩ : ∃ x, xs[k] = x := ⟨_, rfl⟩
      have h0 := fun j hj => flat_get xs k j hlt hj
      rw [hxk] at h0
      have hxo : x.Ok w := hok x (by rw [← hxk]; exact List.getElem_mem _)
      obtain ⟨b1, off1, rfl, -, _⟩ := hr.at (i := k * 4 + 0) (h0 0 (by omega))
      have HC1 : ∀ W, Below w.heap.size w W → ∀ j v, j < 4 → x.cells[j]? = some v → W.cell? ⟨b1, off1 + k * 4 + j, none⟩ = some v := by
        intro W hW j v hj hv
        obtain ⟨b', o', e, hc, -⟩ := (hr.keep hW).at (i := k * 4 + j) (v := v) (by rw [h0 j hj, hv])
        cases e
        rw [Nat.add_assoc]; exact hc
      have c0 := HC1 wr hbl 0 _ (by omega) rfl
      have c1 := HC1 wr hbl 1 _ (by omega) rfl
      have c2 := HC1 wr hbl 2 _ (by omega) rfl
      have c3 := HC1 wr hbl 3 _ (by omega) rfl
      have hst : Hid (rflat ((xs.take (k + 1)).map (·.f)) = rflat ((xs.take k).map (·.f)) ++ rcells x.f) := by
        refine Lib.hid ?_
        rw [List.take_succ_eq_append_getElem hlt, List.map_append, hxk]
        simp [rflat]
      have hof := of_any x wr (hxo.keep hbl)
      have HOF := Lib.hid hof
      rw [Nat.add_zero] at c0
      clear h0 hr hok hxk hxo HC1 hof
      obtain ⟨⟨num, kind, n, bs⟩, p, cx⟩ := x
      go_wp2_with fail
      refine HOF.out.mono ?_
      rintro e w1 ⟨rfl, hb1⟩
      have hbl1 := hbl.trans (hb1.mono hbl.size)
      have hs1 := hbl1.size
      have hown1 := hown.below hb1
      dsimp only [rcells]
      clear hown HOF hb1 hbl c0 c1 c2 c3
      go_wp2_with (at_builtin; go_must (refine wpList_appLitAt w hbl1 rfl (.tmp 11) (.tmp 17) 39 rfl 30 (.agg #[.int .i64 0, .int .i64 0, .int .u64 0, .string ⟨#[]⟩]) 4 40 Try.underlying39 Try.infoF rfl (by decide) (by decide) u3 k (rflat ((xs.take k).map (·.f))) rfl hown1 1 1 w1.heap.size rfl (rcells ⟨num, kind, n, bs⟩) _ rfl rfl (rcells_one _) (by omega) ?_); intro v2 w2 hown2 _ hbl2 _; clear hown1 hbl1)
      go_roundw
      case rel =>
        refine ⟨k + 1, by omega, by go_num, ?_, hbl2⟩
        rw [hst.out]
        exact hown2
      case measure => simp [intOf]; omega
    · obtain rfl : k = xs.length := by omega
      rw [List.take_length] at hown
      go_wp2
      go_ret
      exact ⟨_, rfl, hown, hbl⟩
end Go.Proofs.Ytoicahfpnnhgpaa

/-
  graticulelaw23.Cut, geom.Groups: rows in rows.
-/
import Derived.Test.YtephdnahmgfmeaaRings
import Derived.Test.YtephdnahmgfmeaaArea
import Derived.Test.YtephdnahmgfmeaaAppAt
set_option linter.unusedVariables false
set_option linter.unusedSimpArgs false
set_option maxRecDepth 100000
namespace Go
open Go.RowKit

theorem rings_map (xs : List PC) : xs.flatMap PC.cells = xs.map PC.val := by
  induction xs with
  | nil => rfl
  | cons x xs ih => rw [List.flatMap_cons, ih]; rfl

/-- A new ring in groups. -/
def gstep (G : List (List Int)) (i : Int) (b : Bool) : List (List Int) := if b then G ++ [[i]] else match G[G.length - 1]? with
  | none => G
  | some g => G.set (G.length - 1) (g ++ [i])
def gto (f : Nat → Bool) : Nat → List (List Int)
  | 0 => []
  | n + 1 => gstep (gto f n) n (f n)

theorem gstep_len (G : List (List Int)) (i : Int) (b : Bool) : (gstep G i b).length ≤ G.length + 1 := by
  unfold gstep
  split
  · simp
  · split
    · omega
    · simp
theorem gto_len (f : Nat → Bool) (n : Nat) : (gto f n).length ≤ n := by
  induction n with
  | zero => simp [gto]
  | succ n ih => have := gstep_len (gto f n) n (f n); rw [gto]; omega

theorem gto_sum (f : Nat → Bool) (n : Nat) : ∀ g ∈ gto f n, g.length ≤ n := by
  induction n with
  | zero => simp [gto]
  | succ n ih =>
    intro g hg
    rw [gto] at hg
    unfold gstep at hg
    split at hg
    · rcases List.mem_append.1 hg with hg | hg
      · have := ih g hg; omega
      · obtain rfl : g = _ := by simpa using hg
        simp
    · split at hg
      · have := ih g hg; omega
      · rename_i g0 hg0
        rcases List.mem_or_eq_of_mem_set hg with hg | rfl
        · have := ih g hg; omega
        · have := ih g0 (List.mem_of_getElem? hg0)
          simp
          omega

/-- Owned rows behind values. -/
def Inn (H : Nat) (e : TypeId) (W : World) (vals : List Value) (G : List (List Int)) : Prop :=
  vals.length = G.length ∧ (∀ (j : Nat) (v : Value) (g : List Int), vals[j]? = some v → G[j]? = some g → W.ownsRow H e 1 v g.length (g.map (Value.int .i64)) ∧ g ≠ []) ∧ (∀ (i j : Nat) (u v : Value), i ≠ j → vals[i]? = some u → vals[j]? = some v → u.ownBlock ≠ v.ownBlock)

theorem ownsRow_ne_type {W : World} {b1 b2 : Nat} {e1 e2 : TypeId} {s1 s2 : Nat} {v1 v2 : Value} {n1 n2 : Nat} {x1 x2 : List Value} (h1 : W.ownsRow b1 e1 s1 v1 n1 x1) (h2 : W.ownsRow b2 e2 s2 v2 n2 x2) (he : e1 ≠ e2) : v1.ownBlock = none ∨ v1.ownBlock ≠ v2.ownBlock := by
  rcases h1.2 with ⟨rfl, _⟩ | ⟨g, cap, cur, rfl, _, hg, _⟩
  · exact .inl rfl
  · refine .inr fun e => ?_
    rcases h2.2 with ⟨rfl, _⟩ | ⟨g2, cap2, cur2, rfl, _, hg2, _⟩
    · simp [Value.ownBlock] at e
    · obtain rfl : g = g2 := by simpa [Value.ownBlock] using e
      rw [hg] at hg2
      cases hg2
      exact he rfl

theorem Inn.keep {H : Nat} {e : TypeId} {W W' : World} {vals : List Value} {G : List (List Int)} (h : Inn H e W vals G) (hb : Below W.heap.size W W') : Inn H e W' vals G :=
  ⟨h.1, fun j v g hv hg => ⟨(h.2.1 j v g hv hg).1.below hb, (h.2.1 j v g hv hg).2⟩, h.2.2⟩

theorem Inn.grown {H : Nat} {e e2 : TypeId} {W W' : World} {vals : List Value} {G : List (List Int)} {b s n : Nat} {o : Value} {xs : List Value} (h : Inn H e W vals G) (ho : W.ownsRow b e2 s o n xs) (he : e ≠ e2) (hg : W.grownBy W' o.ownBlock) : Inn H e W' vals G :=
  ⟨h.1, fun j v g hv hgg => ⟨(h.2.1 j v g hv hgg).1.kept hg (ownsRow_ne_type (h.2.1 j v g hv hgg).1 ho he), (h.2.1 j v g hv hgg).2⟩, h.2.2⟩

/-- A new row behind the others. -/
theorem Inn.snoc {H : Nat} {e : TypeId} {W : World} {vals : List Value} {G : List (List Int)} (h : Inn H e W vals G) {v : Value} {g : List Int} (hv : W.ownsRow H e 1 v g.length (g.map (Value.int .i64))) (hg : g ≠ []) (hne : ∀ u ∈ vals, u.ownBlock ≠ v.ownBlock) : Inn H e W (vals ++ [v]) (G ++ [g]) := by
  obtain ⟨h1, h2, h3⟩ := h
  refine ⟨by simp [h1], ?_, ?_⟩
  · intro j u k hu hk
    by_cases hj : j < vals.length
    · rw [List.getElem?_append_left hj] at hu
      rw [List.getElem?_append_left (by omega)] at hk
      exact h2 j u k hu hk
    · have hj2 : j = vals.length := by
        have := (List.getElem?_eq_some_iff.1 hu).1
        simp at this; omega
      subst hj2
      rw [List.getElem?_append_right (Nat.le_refl _)] at hu
      rw [h1, List.getElem?_append_right (Nat.le_refl _)] at hk
      simp at hu hk
      subst hu hk
      exact ⟨hv, hg⟩
  · intro i j u k hij hu hk
    have ui : ∀ (i : Nat) (u : Value), (vals ++ [v])[i]? = some u → (i < vals.length ∧ vals[i]? = some u) ∨ (i = vals.length ∧ u = v) := by
      intro i u hu
      by_cases hi : i < vals.length
      · rw [List.getElem?_append_left hi] at hu; exact .inl ⟨hi, hu⟩
      · have : i = vals.length := by
          have := (List.getElem?_eq_some_iff.1 hu).1
          simp at this; omega
        subst this
        rw [List.getElem?_append_right (Nat.le_refl _)] at hu
        simp at hu
        exact .inr ⟨rfl, hu.symm⟩
    rcases ui i u hu with ⟨_, hu2⟩ | ⟨e1, e2⟩
    · rcases ui j k hk with ⟨_, hk2⟩ | ⟨e3, e4⟩
      · exact h3 i j u k hij hu2 hk2
      · rw [e4]; exact hne u (List.mem_of_getElem? hu2)
    · rcases ui j k hk with ⟨_, hk2⟩ | ⟨e3, e4⟩
      · rw [e2]; exact (hne k (List.mem_of_getElem? hk2)).symm
      · exact absurd (e1.trans e3.symm) hij

theorem Inn.owns {H : Nat} {e : TypeId} {W : World} {vals : List Value} {G : List (List Int)} (h : Inn H e W vals G) {u : Value} (hu : u ∈ vals) : ∃ g : List Int, W.ownsRow H e 1 u g.length (g.map (Value.int .i64)) := by
  obtain ⟨j, hj, rfl⟩ := List.getElem_of_mem hu
  have hj2 : j < G.length := by rw [← h.1]; exact hj
  exact ⟨G[j], (h.2.1 j _ _ (List.getElem?_eq_getElem hj) (List.getElem?_eq_getElem hj2)).1⟩

/-- The last row grows. -/
theorem Inn.last {H : Nat} {e : TypeId} {W W' : World} {vals : List Value} {G : List (List Int)} {m : Nat} {u v2 : Value} {gl : List Int} {k : Int} (h : Inn H e W vals G) (hu : vals[m]? = some u) (hgl : G[m]? = some gl) (hg : W.grownBy W' u.ownBlock)
    (hv : W'.ownsRow H e 1 v2 (gl ++ [k]).length ((gl ++ [k]).map (Value.int .i64))) (hb : v2.ownBlock = u.ownBlock ∨ ∃ b, v2.ownBlock = some b ∧ W.heap.size ≤ b) : Inn H e W' (vals.set m v2) (G.set m (gl ++ [k])) := by
  obtain ⟨h1, h2, h3⟩ := h
  have hm : m < vals.length := (List.getElem?_eq_some_iff.1 hu).1
  have hm2 : m < G.length := (List.getElem?_eq_some_iff.1 hgl).1
  have hoth : ∀ (j : Nat) (x : Value), j ≠ m → vals[j]? = some x → x.ownBlock ≠ u.ownBlock ∧ x.ownBlock ≠ v2.ownBlock := by
    intro j x hj hx
    have n1 := h3 j m x u hj hx hu
    refine ⟨n1, ?_⟩
    rcases hb with e1 | ⟨b, e1, hle⟩
    · rw [e1]; exact n1
    · rw [e1]
      intro e2
      have hj2 : j < G.length := by rw [← h1]; exact (List.getElem?_eq_some_iff.1 hx).1
      have := (h2 j x _ hx (List.getElem?_eq_getElem hj2)).1
      have := (this.lt b e2).2
      omega
  refine ⟨by simp [h1], ?_, ?_⟩
  · intro j x g hx hgg
    by_cases hj : m = j
    · subst hj
      rw [List.getElem?_set_self hm] at hx
      rw [List.getElem?_set_self hm2] at hgg
      cases hx
      cases hgg
      exact ⟨hv, by simp⟩
    · rw [List.getElem?_set_ne hj] at hx hgg
      have := h2 j x g hx hgg
      exact ⟨this.1.kept hg (.inr (hoth j x (Ne.symm hj) hx).1), this.2⟩
  · intro i j x y hij hx hy
    by_cases hi : m = i
    · subst hi
      rw [List.getElem?_set_self hm] at hx
      rw [List.getElem?_set_ne hij] at hy
      cases hx
      exact ((hoth j y (Ne.symm hij) hy).2).symm
    · rw [List.getElem?_set_ne hi] at hx
      by_cases hj : m = j
      · subst hj
        rw [List.getElem?_set_self hm] at hy
        cases hy
        exact (hoth i x (Ne.symm hi) hx).2
      · rw [List.getElem?_set_ne hj] at hy
        exact h3 i j x y hij hx hy

/-- A store into the outer row. -/
theorem Inn.store {H : Nat} {e e2 : TypeId} {W : World} {vals : List Value} {G : List (List Int)} {b s n : Nat} {g c o : Nat} {xs : List Value} (h : Inn H e W vals G) (ho : W.ownsRow b e2 s (.slice (some ⟨g, 0, none⟩) n c) n xs) (he : e ≠ e2) (u : Value) : Inn H e (W.setCell ⟨g, o, none⟩ u) vals G :=
  ⟨h.1, fun j v gg hv hgg => ⟨(h.2.1 j v gg hv hgg).1.set_ne (p := ⟨g, o, none⟩) (by
    rcases ownsRow_ne_type (h.2.1 j v gg hv hgg).1 ho he with h0 | h0
    · rw [h0]; simp
    · simpa [Value.ownBlock] using h0) u, (h.2.1 j v gg hv hgg).2⟩, h.2.2⟩

/-- A store into an owned row of one cell an element. -/
theorem ownsRow_set_in {W : World} {base g c n i : Nat} {e : TypeId} {xs : List Value} (h : W.ownsRow base e 1 (.slice (some ⟨g, 0, none⟩) n c) n xs) (u : Value) (hi : i < n) : (W.setCell ⟨g, i, none⟩ u).ownsRow base e 1 (.slice (some ⟨g, 0, none⟩) n c) n (xs.set i u) := by
  obtain ⟨h1, h2⟩ := h
  refine ⟨by simpa using h1, ?_⟩
  rcases h2 with ⟨hv, _⟩ | ⟨g', cap, cur, hv, hb, hg, h3, h4, h5, h6⟩
  · cases hv
  · cases hv
    refine .inr ⟨g, c, cur.setIfInBounds i u, rfl, hb, ?_, h3, h4, by simpa using h5, ?_⟩
    · show (W.setCell ⟨g, i, none⟩ u).heap[g]? = _
      simp [World.setCell, Array.getElem?_modify, hg]
    · rw [← h6]
      simp [List.take_set]

theorem ownsRow_cellset {W : World} {base g c n i : Nat} {e : TypeId} {xs : List Value} (h : W.ownsRow base e 1 (.slice (some ⟨g, 0, none⟩) n c) n xs) (hi : i < n) : (∃ v, W.cell? ⟨g, i, none⟩ = some v) ∧ W.frozen? ⟨g, i, none⟩ = false := by
  obtain ⟨h1, h2⟩ := h
  rcases h2 with ⟨hv, _⟩ | ⟨g', cap, cur, hv, hb, hg, h3, h4, h5, h6⟩
  · cases hv
  · cases hv
    have hc : i < cur.size := by
      have : xs.length = n * 1 := h1
      have h7 := congrArg List.length h6
      simp at h7
      omega
    exact ⟨⟨cur[i], by rw [cell_of_row W g i cur e (0, 0) hg, Array.getElem?_eq_getElem hc]⟩, by simp [World.frozen?, hg]⟩
end Go
namespace Go.Proofs.Ytephdnahmgfmeaa
open Go.RowKit
theorem Try.infoInts : (Try.prog.info? 28).map (fun i => (i.zero, i.size, i.bytes)) = some (some (.slice none 0 0), 1, 24) := by kernel_rfl
theorem Try.infoI64 : (Try.prog.info? 3).map (fun i => (i.zero, i.size, i.bytes)) = some (some (.int .i64 0), 1, 8) := by kernel_rfl

set_option maxHeartbeats 800000 in
theorem cut23_any (a : Option Addr) (c : Nat) (xs : List PC) (w : World) (hr : Rd w a (xs.map PC.val)) (hok : ∀ x ∈ xs, x.Ok w) (hl : xs.length ≤ maxLen) :
    Calls Try.prog 5 #[.slice a xs.length c] w fun e w' => ∃ v, e = .returned v ∧
      w'.ownsRow w.heap.size 27 1 v ((xs.take 10).map PC.cut).length (((xs.take 10).map PC.cut).map PC.val) ∧ Below w.heap.size w w' := by
  obtain ⟨Y, hY⟩ : ∃ Y, (xs.take 10).map PC.cut = Y := ⟨_, rfl⟩
  rw [hY]
  have HY := Lib.hid hY
  clear hY
  go_enter Try.func5, Try.ntmps5
  unfold maxLen at hl
  go_wp2
  go_loopw [3, 4] (fun o i wr => ∃ k : Nat, k ≤ xs.length ∧ k ≤ 10 ∧ i = .int .i64 k ∧ wr.ownsRow w.heap.size 27 1 o k (((xs.take k).map PC.cut).map PC.val) ∧ Below w.heap.size w wr) (fun _ i _ => xs.length - (intOf i).toNat)
  case atStart => exact ⟨0, Nat.zero_le _, by omega, rfl, World.ownsRow_nil _ _ _ _, Below.refl _ _⟩
  case round =>
    obtain ⟨k, hk, hk2, rfl, hown, hbl⟩ := hrel
    by_cases hlt : k < xs.length ∧ k < 10
    · obtain ⟨hlt, hlt2⟩ := hlt
      obtain ⟨x, hxk⟩ : ∃ x, xs[k] = x := ⟨_, rfl⟩
      have hxo : x.Ok w := hok x (by rw [← hxk]; exact List.getElem_mem _)
      obtain ⟨b1, off1, rfl, c0, _⟩ := (hr.keep hbl).at (i := k) (v := x.val) (by simp [hlt, hxk])
      have hst : Hid (((xs.take (k + 1)).map PC.cut).map PC.val = ((xs.take k).map PC.cut).map PC.val ++ [x.cut.val]) := by
        refine Lib.hid ?_
        rw [List.take_succ_eq_append_getElem hlt, List.map_append, List.map_append, hxk]
        rfl
      have hct := cut3_any x wr (hxo.keep hbl)
      have HCT := Lib.hid hct
      clear hct hr hok hxk hxo
      obtain ⟨l, p, cx⟩ := x
      dsimp only [PC.val, PC.cut] at *
      go_wp2_with fail
      refine HCT.out.mono ?_
      rintro e w1 ⟨rfl, rfl⟩
      clear HCT c0
      go_wp2_with (at_builtin; go_must (refine wpList_appLit' w hbl rfl (.tmp 15) (.tmp 21) 22 rfl 27 (.slice none 0 0) 1 24 Try.underlying22 Try.infoPts rfl (by decide) (by decide) u3 k (((xs.take k).map PC.cut).map PC.val) rfl hown 1 1 [.slice p (min 40 l.length) cx] _ rfl rfl (by simp [Value.oneCell']) (by omega) ?_); intro v2 w2 hown2 _ hbl2; clear hown hbl)
      go_roundw
      case rel =>
        refine ⟨k + 1, by omega, by omega, by go_num, ?_, hbl2⟩
        rw [hst.out]
        simpa [List.length_take] using hown2
      case measure => simp [intOf]; omega
    · have e : xs.take 10 = xs.take k := by
        by_cases h : k < xs.length
        · rw [show k = 10 by omega]
        · rw [List.take_of_length_le (by omega), List.take_of_length_le (by omega)]
      have e2 : (xs.take 10).length = k := by simp; omega
      have hfin : wr.ownsRow w.heap.size 27 1 u3 Y.length (Y.map PC.val) := by
        rw [← HY.out, List.length_map, e2, e]; exact hown
      have HFIN := Lib.hid hfin
      clear e e2 hfin
      by_cases h1 : k < xs.length
      · obtain rfl : k = 10 := by omega
        go_wp2
        go_ret
        exact ⟨_, rfl, HFIN.out, hbl⟩
      · obtain rfl : k = xs.length := by omega
        go_wp2
        go_ret
        exact ⟨_, rfl, HFIN.out, hbl⟩

set_option maxHeartbeats 1600000 in
theorem groups_any (a : Option Addr) (c : Nat) (xs : List PC) (hl : xs.length ≤ 1000000) (hle : ∀ x ∈ xs, x.l.length ≤ 1000) (f : Nat → Bool) (hf : ∀ i (h : i < xs.length), f i = lefty (xs[i]).l) (w : World) (hr : Rd w a (xs.map PC.val)) (hok : ∀ x ∈ xs, x.Ok w) :
    Calls Try.prog 6 #[.slice a xs.length c] w fun e w' => ∃ v vals, e = .returned v ∧
      w'.ownsRow w.heap.size 28 1 v (gto f xs.length).length vals ∧ Inn w.heap.size 3 w' vals (gto f xs.length) ∧ Below w.heap.size w w' := by
  go_enter Try.func6, Try.ntmps6
  go_wp2
  go_loopw [3, 9] (fun o i wr => ∃ (k : Nat) (vals : List Value), k ≤ xs.length ∧ i = .int .i64 k ∧ wr.ownsRow w.heap.size 28 1 o (gto f k).length vals ∧ Inn w.heap.size 3 wr vals (gto f k) ∧ Below w.heap.size w wr) (fun _ i _ => xs.length - (intOf i).toNat)
  case atStart => exact ⟨0, [], Nat.zero_le _, rfl, World.ownsRow_nil _ _ _ _, ⟨rfl, by simp, by simp⟩, Below.refl _ _⟩
  case round =>
    obtain ⟨k, vals, hk, rfl, hown, hinn, hbl⟩ := hrel
    by_cases hlt : k < xs.length
    · obtain ⟨x, hxk⟩ : ∃ x, xs[k] = x := ⟨_, rfl⟩
      have hxm : x ∈ xs := by rw [← hxk]; exact List.getElem_mem _
      have hxo : x.Ok w := hok x hxm
      obtain ⟨b1, off1, rfl, c0, _⟩ := (hr.keep hbl).at (i := k) (v := x.val) (by simp [hlt, hxk])
      have hfk : f k = lefty x.l := by rw [hf k hlt, hxk]
      have hgs : gto f (k + 1) = gstep (gto f k) k (lefty x.l) := by rw [gto, hfk]
      have hgl := gto_len f k
      have hgsum := gto_sum f k
      have hG : Hid (∃ G, G = gto f (k + 1)) := Lib.hid ⟨_, rfl⟩
      have HGS := Lib.hid hgs
      have har := rarea_any x.p x.c x.l (hle x hxm) wr (hxo.keep hbl).1
      have hlf : lefty x.l = decide (0 < areaF x.l) := rfl
      generalize areaF x.l = ar at *
      have HAR := Lib.hid har
      obtain ⟨G, hGe⟩ : ∃ G, gto f k = G := ⟨_, rfl⟩
      rw [hGe] at hown hinn hgl hgsum HGS
      rw [hlf] at HGS
      obtain ⟨pa, pc, rfl, -⟩ := hown.form
      clear hxk hxm hxo hok hle hf hr hfk hgs har hlf hG hGe
      obtain ⟨l, p, cx⟩ := x
      dsimp only [PC.val] at c0 HAR
      have hs := hbl.size
      have HINN := Lib.hid hinn
      have HGSUM := Lib.hid hgsum
      clear hinn hgsum
      by_cases h0 : 0 < ar
      · rw [decide_eq_true h0] at HGS
        have HST : Hid (gto f (k + 1) = G ++ [[(k : Int)]]) := Lib.hid (by rw [HGS.out]; rfl)
        go_wp2_with fail
        refine HAR.out.mono ?_
        rintro e w1 ⟨rfl, hb1⟩
        have hbl1 := hbl.trans (hb1.mono hs)
        have hs1 := hbl1.size
        have hown1 := hown.below hb1
        have hinn1 := HINN.out.keep hb1
        have hbl2 := hbl1.alloc hs1 (.cells #[.int .i64 k] 3)
        have hown2 := hown1.below (Below.new w1 (.cells #[.int .i64 k] 3))
        have HIN1 := Lib.hid hinn1
        clear HAR HINN hown hb1 hbl hinn1 hbl1 c0 HGS
        go_wp2_with (at_builtin; go_must (refine wpList_appLitAt w hbl2 rfl (.tmp 21) (.tmp 24) 24 rfl 28 (.slice none 0 0) 1 24 Try.underlying24 Try.infoInts rfl (by decide) (by decide) (.slice pa G.length pc) G.length vals rfl hown2 1 1 (w1.heap.size + 1) (by simp) [.slice (some ⟨w1.heap.size, 0, none⟩) 1 1] _ rfl rfl (by simp [Value.oneCell']) (by omega) ?_); intro v2 w2 hown3 hg3 hbl3 _; clear hbl2)
        go_roundw
        case rel =>
          refine ⟨k + 1, vals ++ [.slice (some ⟨w1.heap.size, 0, none⟩) 1 1], by omega, by go_num, ?_, ?_, hbl3⟩
          · rw [HST.out, List.length_append]; exact hown3
          · rw [HST.out]
            have hnew := ((ownsRow_lit w1 3 1 1 [.int .i64 k] rfl (by decide)).mono hs1)
            refine ((HIN1.out.keep (Below.new w1 (.cells #[.int .i64 k] 3))).grown hown2 (by decide) hg3).snoc (g := [(k : Int)]) (hnew.kept hg3 (ownsRow_ne_type hnew hown2 (by decide))) (by simp) ?_
            intro u hu e
            obtain ⟨g, hgo⟩ := HIN1.out.owns hu
            have := (hgo.lt w1.heap.size (by rw [e]; rfl)).2
            omega
        case measure => simp [intOf]; omega
      · rw [decide_eq_false h0] at HGS
        have hd0 : decide ((0 : Int) < ar) = false := decide_eq_false h0
        clear h0
        by_cases hG0 : G.length = 0
        · have HST : Hid (gto f (k + 1) = G) := Lib.hid (by
            rw [HGS.out]
            unfold gstep
            obtain rfl : G = [] := List.length_eq_zero_iff.1 hG0
            rfl)
          go_wp2_with fail
          refine HAR.out.mono ?_
          rintro e w1 ⟨rfl, hb1⟩
          have hbl1 := hbl.trans (hb1.mono hs)
          have hown1 := hown.below hb1
          have hinn1 := HINN.out.keep hb1
          have HIN1 := Lib.hid hinn1
          clear HAR HINN hown hb1 hbl hinn1 c0 HGS
          go_wp2
          go_roundw
          case rel => exact ⟨k + 1, vals, by omega, by go_num, by rw [HST.out, hG0]; rw [hG0] at hown1; exact hown1, by rw [HST.out]; exact HIN1.out, hbl1⟩
          case measure => simp [intOf]; omega
        · obtain ⟨m, hm⟩ : ∃ m, G.length = m + 1 := ⟨G.length - 1, by omega⟩
          have hgm : G[m]? = some G[m] := List.getElem?_eq_getElem (by omega)
          obtain ⟨gl, hgl2⟩ : ∃ gl, G[m] = gl := ⟨_, rfl⟩
          rw [hgl2] at hgm
          have HST : Hid (gto f (k + 1) = G.set m (gl ++ [(k : Int)])) := Lib.hid (by
            rw [HGS.out]
            unfold gstep
            rw [if_neg (by simp), show G.length - 1 = m by omega, hgm])
          have hvl : vals.length = m + 1 := by rw [HINN.out.1, hm]
          obtain ⟨u, hu⟩ : ∃ u, vals[m]? = some u := ⟨vals[m]'(by omega), List.getElem?_eq_getElem (by omega)⟩
          have hglen : gl.length ≤ k := HGSUM.out gl (List.mem_of_getElem? hgm)
          rw [hm] at hown ⊢
          obtain ⟨g, cap, hpe⟩ := ownsRow_succ hown
          cases hpe
          have HU := Lib.hid hu
          have HGM := Lib.hid hgm
          have HM := Lib.hid hm
          have HVL := Lib.hid hvl
          have hmk : m < 1000000 := by omega
          clear hgl2 hm hvl
          go_wp2_with fail
          refine HAR.out.mono ?_
          rintro e w1 ⟨rfl, hb1⟩
          have hbl1 := hbl.trans (hb1.mono hs)
          have hs1 := hbl1.size
          have hown1 := hown.below hb1
          have hinn1 := HINN.out.keep hb1
          have huo := (hinn1.2.1 m u gl HU.out HGM.out).1
          obtain ⟨b2, o2, he2, hcu, -⟩ := (Rd.of_owns hown1).at HU.out
          cases he2
          rw [Nat.zero_add] at hcu
          obtain ⟨ua, uc, rfl, -⟩ := huo.form
          have HIN1 := Lib.hid hinn1
          clear HAR HINN hown hb1 hbl hinn1 c0 HGS hu hgm hG0 HGSUM hgl
          go_wp2_with (at_builtin; go_must (refine wpList_appLitAt w hbl1 rfl (.tmp 34) (.tmp 36) 28 rfl 3 (.int .i64 0) 1 8 Try.underlying28 Try.infoI64 rfl (by decide) (by decide) (.slice ua gl.length uc) gl.length (gl.map (Value.int .i64)) rfl huo 1 1 w1.heap.size rfl [.int .i64 k] _ rfl rfl (by simp [Value.oneCell']) (by omega) ?_); intro v2 w2 hown3 hg3 hbl3 hob; have hownO := hown1.kept hg3 (ownsRow_ne_type hown1 huo (by decide)); obtain ⟨⟨cv, hcv⟩, hfr⟩ := ownsRow_cellset hownO (i := m) (by omega); have hf3 := hown3.form; obtain ⟨va, vc, rfl, -⟩ := hf3; have HOB := Lib.hid hob; clear hob)
          go_roundw
          case rel =>
            have hlenG : (gto f (k + 1)).length = m + 1 := by rw [HST.out, List.length_set, HM.out]
            have hgH : w.heap.size ≤ g := (hownO.lt g rfl).1
            refine ⟨k + 1, vals.set m (.slice va (gl.length + 1) vc), by omega, by go_num, by rw [hlenG]; exact ownsRow_set_in hownO _ (by omega), ?_, hbl3.set_at hgH _⟩
            rw [HST.out]
            refine (HIN1.out.last HU.out HGM.out hg3 (by simpa using hown3) ?_).store hownO (by decide) _
            rcases HOB.out with h | h
            · exact .inl h
            · exact .inr ⟨_, h, by omega⟩
          case measure => simp [intOf]; omega
    · obtain rfl : k = xs.length := by omega
      go_wp2
      go_ret
      exact ⟨_, vals, rfl, hown, hinn, hbl⟩
end Go.Proofs.Ytephdnahmgfmeaa

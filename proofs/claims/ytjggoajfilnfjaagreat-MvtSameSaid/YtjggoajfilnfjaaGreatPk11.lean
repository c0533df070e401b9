/-
  graticulelaw23.Cut; rows in rows. mvt.number, mvt.bytes: fields. geom.within, part, Check. geom.Numbers' closure: a point's two numbers behind the others. geom.Check.
-/
import Derived.Test.YtjggoajfilnfjaaGreatPk9
import Derived.Test.YtjggoajfilnfjaaGreatPk10
import Derived.Test.YtjggoajfilnfjaaGreatPk5
import Derived.Test.YtjggoajfilnfjaaGreatPk8
import Derived.Test.YtjggoajfilnfjaaGreatPk2
/- graticulelaw23.Cut; rows in rows. -/
set_option linter.unusedVariables false
set_option linter.unusedSimpArgs false
set_option maxRecDepth 100000
namespace Go
open Go.RowKit

theorem rings_map (xs : List PC) : xs.flatMap PC.cells = xs.map PC.val := by
  induction xs with
  | nil => rfl
  | cons x xs ih => rw [List.flatMap_cons, ih]; rfl

def gstep (G : List (List Int)) (i : Int) (b : Bool) : List (List Int) := if b then G ++ [[i]] else match G[G.length - 1]? with
  | none => G
  | some g => G.set (G.length - 1) (g ++ [i])
def gto (f : Nat → Bool) : Nat → List (List Int)
  | 0 => []
  | n + 1 => gstep (gto f n) n (f n)

theorem gstep_len (G : List (List Int)) (i : Int) (b : Bool) : (gstep G i b).length ≤ G.length + 1 := by
  unfold gstep
  split
  · simp
  · split
    · omega
    · simp
theorem gto_len (f : Nat → Bool) (n : Nat) : (gto f n).length ≤ n := by
  induction n with
  | zero => simp [gto]
  | succ n ih => have := gstep_len (gto f n) n (f n); rw [gto]; omega

theorem gto_sum (f : Nat → Bool) (n : Nat) : ∀ g ∈ gto f n, g.length ≤ n := by
  induction n with
  | zero => simp [gto]
  | succ n ih =>
    intro g hg; rw [gto] at hg; unfold gstep at hg
    split at hg
    · rcases List.mem_append.1 hg with hg | hg
      · have := ih g hg; omega
      · obtain rfl : g = _ := by simpa using hg
        simp
    · split at hg
      · have := ih g hg; omega
      · rename_i g0 hg0
        rcases List.mem_or_eq_of_mem_set hg with hg | rfl
        · have := ih g hg; omega
        · have := ih g0 (List.mem_of_getElem? hg0); simp; omega

def Inn (H : Nat) (e : TypeId) (W : World) (vals : List Value) (G : List (List Int)) : Prop :=
  vals.length = G.length ∧ (∀ (j : Nat) (v : Value) (g : List Int), vals[j]? = some v → G[j]? = some g → W.ownsRow H e 1 v g.length (g.map (Value.int .i64)) ∧ g ≠ []) ∧ (∀ (i j : Nat) (u v : Value), i ≠ j → vals[i]? = some u → vals[j]? = some v → u.ownBlock ≠ v.ownBlock)

theorem ownsRow_ne_type {W : World} {b1 b2 : Nat} {e1 e2 : TypeId} {s1 s2 : Nat} {v1 v2 : Value} {n1 n2 : Nat} {x1 x2 : List Value} (h1 : W.ownsRow b1 e1 s1 v1 n1 x1) (h2 : W.ownsRow b2 e2 s2 v2 n2 x2) (he : e1 ≠ e2) : v1.ownBlock = none ∨ v1.ownBlock ≠ v2.ownBlock := by
  rcases h1.2 with ⟨rfl, _⟩ | ⟨g, cap, cur, rfl, _, hg, _⟩
  · exact .inl rfl
  · refine .inr fun e => ?_
    rcases h2.2 with ⟨rfl, _⟩ | ⟨g2, cap2, cur2, rfl, _, hg2, _⟩
    · simp [Value.ownBlock] at e
    · obtain rfl : g = g2 := by simpa [Value.ownBlock] using e
      rw [hg] at hg2
      cases hg2
      exact he rfl

theorem Inn.keep {H : Nat} {e : TypeId} {W W' : World} {vals : List Value} {G : List (List Int)} (h : Inn H e W vals G) (hb : Below W.heap.size W W') : Inn H e W' vals G :=
  ⟨h.1, fun j v g hv hg => ⟨(h.2.1 j v g hv hg).1.below hb, (h.2.1 j v g hv hg).2⟩, h.2.2⟩

theorem Inn.grown {H : Nat} {e e2 : TypeId} {W W' : World} {vals : List Value} {G : List (List Int)} {b s n : Nat} {o : Value} {xs : List Value} (h : Inn H e W vals G) (ho : W.ownsRow b e2 s o n xs) (he : e ≠ e2) (hg : W.grownBy W' o.ownBlock) : Inn H e W' vals G :=
  ⟨h.1, fun j v g hv hgg => ⟨(h.2.1 j v g hv hgg).1.kept hg (ownsRow_ne_type (h.2.1 j v g hv hgg).1 ho he), (h.2.1 j v g hv hgg).2⟩, h.2.2⟩

theorem Inn.snoc {H : Nat} {e : TypeId} {W : World} {vals : List Value} {G : List (List Int)} (h : Inn H e W vals G) {v : Value} {g : List Int} (hv : W.ownsRow H e 1 v g.length (g.map (Value.int .i64))) (hg : g ≠ []) (hne : ∀ u ∈ vals, u.ownBlock ≠ v.ownBlock) : Inn H e W (vals ++ [v]) (G ++ [g]) := by
  obtain ⟨h1, h2, h3⟩ := h; refine ⟨by simp [h1], ?_, ?_⟩
  · intro j u k hu hk
    by_cases hj : j < vals.length
    · rw [List.getElem?_append_left hj] at hu; rw [List.getElem?_append_left (by omega)] at hk; exact h2 j u k hu hk
    · have hj2 : j = vals.length := by
        have := (List.getElem?_eq_some_iff.1 hu).1; simp at this; omega
      subst hj2; rw [List.getElem?_append_right (Nat.le_refl _)] at hu; rw [h1, List.getElem?_append_right (Nat.le_refl _)] at hk; simp at hu hk; subst hu hk; exact ⟨hv, hg⟩
  · intro i j u k hij hu hk; have ui : ∀ (i : Nat) (u : Value), (vals ++ [v])[i]? = some u → (i < vals.length ∧ vals[i]? = some u) ∨ (i = vals.length ∧ u = v) := by
      intro i u hu
      by_cases hi : i < vals.length
      · rw [List.getElem?_append_left hi] at hu; exact .inl ⟨hi, hu⟩
      · have : i = vals.length := by
          have := (List.getElem?_eq_some_iff.1 hu).1; simp at this; omega
        subst this; rw [List.getElem?_append_right (Nat.le_refl _)] at hu; simp at hu; exact .inr ⟨rfl, hu.symm⟩
    rcases ui i u hu with ⟨_, hu2⟩ | ⟨e1, e2⟩
    · rcases ui j k hk with ⟨_, hk2⟩ | ⟨e3, e4⟩
      · exact h3 i j u k hij hu2 hk2
      · rw [e4]; exact hne u (List.mem_of_getElem? hu2)
    · rcases ui j k hk with ⟨_, hk2⟩ | ⟨e3, e4⟩
      · rw [e2]; exact (hne k (List.mem_of_getElem? hk2)).symm
      · exact absurd (e1.trans e3.symm) hij

theorem Inn.owns {H : Nat} {e : TypeId} {W : World} {vals : List Value} {G : List (List Int)} (h : Inn H e W vals G) {u : Value} (hu : u ∈ vals) : ∃ g : List Int, W.ownsRow H e 1 u g.length (g.map (Value.int .i64)) := by
  obtain ⟨j, hj, rfl⟩ := List.getElem_of_mem hu; have hj2 : j < G.length := by rw [← h.1]; exact hj
  exact ⟨G[j], (h.2.1 j _ _ (List.getElem?_eq_getElem hj) (List.getElem?_eq_getElem hj2)).1⟩

theorem Inn.last {H : Nat} {e : TypeId} {W W' : World} {vals : List Value} {G : List (List Int)} {m : Nat} {u v2 : Value} {gl : List Int} {k : Int} (h : Inn H e W vals G) (hu : vals[m]? = some u) (hgl : G[m]? = some gl) (hg : W.grownBy W' u.ownBlock)
    (hv : W'.ownsRow H e 1 v2 (gl ++ [k]).length ((gl ++ [k]).map (Value.int .i64))) (hb : v2.ownBlock = u.ownBlock ∨ ∃ b, v2.ownBlock = some b ∧ W.heap.size ≤ b) : Inn H e W' (vals.set m v2) (G.set m (gl ++ [k])) := by
  obtain ⟨h1, h2, h3⟩ := h; have hm : m < vals.length := (List.getElem?_eq_some_iff.1 hu).1; have hm2 : m < G.length := (List.getElem?_eq_some_iff.1 hgl).1; have hoth : ∀ (j : Nat) (x : Value), j ≠ m → vals[j]? = some x → x.ownBlock ≠ u.ownBlock ∧ x.ownBlock ≠ v2.ownBlock := by
    intro j x hj hx; have n1 := h3 j m x u hj hx hu; refine ⟨n1, ?_⟩
    rcases hb with e1 | ⟨b, e1, hle⟩
    · rw [e1]; exact n1
    · rw [e1]; intro e2; have hj2 : j < G.length := by rw [← h1]; exact (List.getElem?_eq_some_iff.1 hx).1
      have := (h2 j x _ hx (List.getElem?_eq_getElem hj2)).1; have := (this.lt b e2).2; omega
  refine ⟨by simp [h1], ?_, ?_⟩
  · intro j x g hx hgg
    by_cases hj : m = j
    · subst hj; rw [List.getElem?_set_self hm] at hx; rw [List.getElem?_set_self hm2] at hgg
      cases hx
      cases hgg
      exact ⟨hv, by simp⟩
    · rw [List.getElem?_set_ne hj] at hx hgg; have := h2 j x g hx hgg; exact ⟨this.1.kept hg (.inr (hoth j x (Ne.symm hj) hx).1), this.2⟩
  · intro i j x y hij hx hy
    by_cases hi : m = i
    · subst hi; rw [List.getElem?_set_self hm] at hx; rw [List.getElem?_set_ne hij] at hy
      cases hx
      exact ((hoth j y (Ne.symm hij) hy).2).symm
    · rw [List.getElem?_set_ne hi] at hx
      by_cases hj : m = j
      · subst hj; rw [List.getElem?_set_self hm] at hy
        cases hy
        exact (hoth i x (Ne.symm hi) hx).2
      · rw [List.getElem?_set_ne hj] at hy; exact h3 i j x y hij hx hy

theorem Inn.store {H : Nat} {e e2 : TypeId} {W : World} {vals : List Value} {G : List (List Int)} {b s n : Nat} {g c o : Nat} {xs : List Value} (h : Inn H e W vals G) (ho : W.ownsRow b e2 s (.slice (some ⟨g, 0, none⟩) n c) n xs) (he : e ≠ e2) (u : Value) : Inn H e (W.setCell ⟨g, o, none⟩ u) vals G :=
  ⟨h.1, fun j v gg hv hgg => ⟨(h.2.1 j v gg hv hgg).1.set_ne (p := ⟨g, o, none⟩) (by
    rcases ownsRow_ne_type (h.2.1 j v gg hv hgg).1 ho he with h0 | h0
    · rw [h0]; simp
    · simpa [Value.ownBlock] using h0) u, (h.2.1 j v gg hv hgg).2⟩, h.2.2⟩

theorem ownsRow_set_in {W : World} {base g c n i : Nat} {e : TypeId} {xs : List Value} (h : W.ownsRow base e 1 (.slice (some ⟨g, 0, none⟩) n c) n xs) (u : Value) (hi : i < n) : (W.setCell ⟨g, i, none⟩ u).ownsRow base e 1 (.slice (some ⟨g, 0, none⟩) n c) n (xs.set i u) := by
  obtain ⟨h1, h2⟩ := h; refine ⟨by simpa using h1, ?_⟩
  rcases h2 with ⟨hv, _⟩ | ⟨g', cap, cur, hv, hb, hg, h3, h4, h5, h6⟩
  · cases hv
  · cases hv
    refine .inr ⟨g, c, cur.setIfInBounds i u, rfl, hb, ?_, h3, h4, by simpa using h5, ?_⟩
    · show (W.setCell ⟨g, i, none⟩ u).heap[g]? = _; simp [World.setCell, Array.getElem?_modify, hg]
    · rw [← h6]; simp [List.take_set]

theorem ownsRow_cellset {W : World} {base g c n i : Nat} {e : TypeId} {xs : List Value} (h : W.ownsRow base e 1 (.slice (some ⟨g, 0, none⟩) n c) n xs) (hi : i < n) : (∃ v, W.cell? ⟨g, i, none⟩ = some v) ∧ W.frozen? ⟨g, i, none⟩ = false := by
  obtain ⟨h1, h2⟩ := h
  rcases h2 with ⟨hv, _⟩ | ⟨g', cap, cur, hv, hb, hg, h3, h4, h5, h6⟩
  · cases hv
  · cases hv
    have hc : i < cur.size := by
      have : xs.length = n * 1 := h1; have h7 := congrArg List.length h6; simp at h7; omega
    exact ⟨⟨cur[i], by rw [cell_of_row W g i cur e (0, 0) hg, Array.getElem?_eq_getElem hc]⟩, by simp [World.frozen?, hg]⟩
end Go
namespace Go.Proofs.YtjggoajfilnfjaaGreat
open Go.RowKit
theorem Tryz.infoInts : (Tryz.prog.info? 106).map (fun i => (i.zero, i.size, i.bytes)) = some (some (.slice none 0 0), 1, 24) := by kernel_rfl
theorem Tryz.infoI64 : (Tryz.prog.info? 3).map (fun i => (i.zero, i.size, i.bytes)) = some (some (.int .i64 0), 1, 8) := by kernel_rfl

set_option maxHeartbeats 800000 in
theorem cut23_any (a : Option Addr) (c : Nat) (xs : List PC) (w : World) (hr : Rd w a (xs.map PC.val)) (hok : ∀ x ∈ xs, x.Ok w) (hl : xs.length ≤ maxLen) :
    Calls Tryz.prog 18 #[.slice a xs.length c] w fun e w' => ∃ v, e = .returned v ∧
      w'.ownsRow w.heap.size 80 1 v ((xs.take 10).map PC.cut).length (((xs.take 10).map PC.cut).map PC.val) ∧ Below w.heap.size w w' := by
  obtain ⟨Y, hY⟩ : ∃ Y, (xs.take 10).map PC.cut = Y := ⟨_, rfl⟩; rw [hY]; have HY := Lib.hid hY; clear hY
  go_enter Tryz.func18, Tryz.ntmps18
  unfold maxLen at hl; go_wp2
  go_loopw [3, 4] (fun o i wr => ∃ k : Nat, k ≤ xs.length ∧ k ≤ 10 ∧ i = .int .i64 k ∧ wr.ownsRow w.heap.size 80 1 o k (((xs.take k).map PC.cut).map PC.val) ∧ Below w.heap.size w wr) (fun _ i _ => xs.length - (intOf i).toNat)
  case atStart => exact ⟨0, Nat.zero_le _, by omega, rfl, World.ownsRow_nil _ _ _ _, Below.refl _ _⟩
  case round =>
    obtain ⟨k, hk, hk2, rfl, hown, hbl⟩ := hrel
    by_cases hlt : k < xs.length ∧ k < 10
    · obtain ⟨hlt, hlt2⟩ := hlt; obtain ⟨x, hxk⟩ : ∃ x, xs[k] = x := ⟨_, rfl⟩; have hxo : x.Ok w := hok x (by rw [← hxk]; exact List.getElem_mem _); obtain ⟨b1, off1, rfl, c0, _⟩ := (hr.keep hbl).at (i := k) (v := x.val) (by simp [hlt, hxk]); have hst : Hid (((xs.take (k + 1)).map PC.cut).map PC.val = ((xs.take k).map PC.cut).map PC.val ++ [x.cut.val]) := by
        refine Lib.hid ?_; rw [List.take_succ_eq_append_getElem hlt, List.map_append, List.map_append, hxk]
        rfl
      have hct := cut3_any x wr (hxo.keep hbl); have HCT := Lib.hid hct; clear hct hr hok hxk hxo; obtain ⟨l, p, cx⟩ := x; dsimp only [PC.val, PC.cut] at *
      go_wp2_with fail
      refine HCT.out.mono ?_; rintro e w1 ⟨rfl, rfl⟩; clear HCT c0
      go_wp2_with (at_builtin; go_must (refine wpList_appLit' w hbl rfl (.tmp 15) (.tmp 21) 51 rfl 80 (.slice none 0 0) 1 24 Tryz.underlying51 Tryz.infoPts rfl (by decide) (by decide) u3 k (((xs.take k).map PC.cut).map PC.val) rfl hown 1 1 [.slice p (min 40 l.length) cx] _ rfl rfl (by simp [Value.oneCell']) (by omega) ?_); intro v2 w2 hown2 _ hbl2; clear hown hbl)
      go_roundw
      case rel =>
        refine ⟨k + 1, by omega, by omega, by go_num, ?_, hbl2⟩; rw [hst.out]
        simpa [List.length_take] using hown2
      case measure => simp [intOf]; omega
    · have e : xs.take 10 = xs.take k := by
        by_cases h : k < xs.length
        · rw [show k = 10 by omega]
        · rw [List.take_of_length_le (by omega), List.take_of_length_le (by omega)]
      have e2 : (xs.take 10).length = k := by simp; omega
      have hfin : wr.ownsRow w.heap.size 80 1 u3 Y.length (Y.map PC.val) := by
        rw [← HY.out, List.length_map, e2, e]; exact hown
      have HFIN := Lib.hid hfin; clear e e2 hfin
      by_cases h1 : k < xs.length
      · obtain rfl : k = 10 := by omega
        go_wp2; go_ret; exact ⟨_, rfl, HFIN.out, hbl⟩
      · obtain rfl : k = xs.length := by omega
        go_wp2; go_ret; exact ⟨_, rfl, HFIN.out, hbl⟩

end Go.Proofs.YtjggoajfilnfjaaGreat
/- mvt.number, mvt.bytes: fields. -/
set_option linter.unusedVariables false
set_option linter.unusedSimpArgs false
set_option maxRecDepth 100000
namespace Go.Proofs.YtjggoajfilnfjaaGreat
open Go.RowKit Go.Vint Go.Proto
theorem number_any (num n : Int) (w : World) :
    Calls Tryz.prog 51 #[.int .i64 num, .int .u64 n] w fun e w' => e = .returned (.agg #[.int .i64 num, .int .i64 0, .int .u64 n, .slice none 0 0]) ∧ Below w.heap.size w w' := by
  go_enter Tryz.func51, Tryz.ntmps51
  have hz : (Tryz.prog.info? 72).map (fun i => i.zero) = some (some (.agg #[.int .i64 0, .int .i64 0, .int .u64 0, .slice none 0 0])) := by kernel_rfl
  have k0 := Blk.new w [.int .i64 0, .int .i64 0, .int .u64 0, .slice none 0 0] 72; have a0 := k0.cell 0 rfl; have a1 := k0.cell 1 rfl; have a2 := k0.cell 2 rfl; have a3 := k0.cell 3 rfl; go_wp2; have k1 := Blk.new w [.int .i64 num, .int .i64 0, .int .u64 n, .slice none 0 0] 72; have q0 := k1.cell 0 rfl; have q1 := k1.cell 1 rfl; have q2 := k1.cell 2 rfl; have q3 := k1.cell 3 rfl; exact bodyPost_ret (v := .agg #[.int .i64 num, .int .i64 0, .int .u64 n, .slice none 0 0]) (by simp [results, Tryz.results51, go_sem, q0, q1, q2, q3]) rfl ⟨rfl, Below.new _ _⟩
theorem bytes_any (num : Int) (p : Option Addr) (m c : Nat) (w : World) :
    Calls Tryz.prog 25 #[.int .i64 num, .slice p m c] w fun e w' => e = .returned (.agg #[.int .i64 num, .int .i64 2, .int .u64 0, .slice p m c]) ∧ Below w.heap.size w w' := by
  go_enter Tryz.func25, Tryz.ntmps25
  have hz : (Tryz.prog.info? 72).map (fun i => i.zero) = some (some (.agg #[.int .i64 0, .int .i64 0, .int .u64 0, .slice none 0 0])) := by kernel_rfl
  have k0 := Blk.new w [.int .i64 0, .int .i64 0, .int .u64 0, .slice none 0 0] 72; have a0 := k0.cell 0 rfl; have a1 := k0.cell 1 rfl; have a2 := k0.cell 2 rfl; have a3 := k0.cell 3 rfl; go_wp2; have k1 := Blk.new w [.int .i64 num, .int .i64 2, .int .u64 0, .slice p m c] 72; have q0 := k1.cell 0 rfl; have q1 := k1.cell 1 rfl; have q2 := k1.cell 2 rfl; have q3 := k1.cell 3 rfl; exact bodyPost_ret (v := .agg #[.int .i64 num, .int .i64 2, .int .u64 0, .slice p m c]) (by simp [results, Tryz.results25, go_sem, q0, q1, q2, q3]) rfl ⟨rfl, Below.new _ _⟩
def FdT (W : World) (x : FC) : Prop := ∃ b, W.ownsRow b 5 1 (.slice x.p x.f.bs.length x.c) x.f.bs.length (x.f.bs.map (Value.int .u8))
theorem fdT_none {W : World} {x : FC} (h1 : x.p = none) (h2 : x.c = 0) (h3 : x.f.bs = []) : FdT W x := ⟨0, by rw [h1, h2, h3]; exact World.ownsRow_nil _ _ _ _⟩
theorem FdT.below {W W' : World} {x : FC} (h : FdT W x) (hb : Below W.heap.size W W') : FdT W' x := by
  obtain ⟨b, h⟩ := h; exact ⟨b, h.below hb⟩
theorem FdT.grown {W W' : World} {x : FC} (h : FdT W x) {base n : Nat} {v : Value} {xs : List Value} (hg : W.grownBy W' v.ownBlock) (ho : W.ownsRow base 72 4 v n xs) : FdT W' x := by
  obtain ⟨b, h⟩ := h; exact ⟨b, h.kept hg (ownsRow_ne_type h ho (by decide))⟩
theorem FdT.ok {W : World} {x : FC} (h : FdT W x) : x.Ok W := by
  obtain ⟨b, h⟩ := h; obtain ⟨a, c, e, h1, h2, h3, h4, -⟩ := h.form
  cases e
  exact ⟨h4, h1, h2, h3⟩
abbrev ownVal {W : World} {b : Nat} {e : TypeId} {s n : Nat} {v : Value} {xs : List Value} (_ : W.ownsRow b e s v n xs) : Value := v
end Go.Proofs.YtjggoajfilnfjaaGreat
/- geom.within, part, Check. -/
set_option linter.unusedVariables false
set_option linter.unusedSimpArgs false
namespace Go
def near (p : Pt) : Bool := decide (-1048576 ≤ p.x ∧ p.x ≤ 1048576) && decide (-1048576 ≤ p.y ∧ p.y ≤ 1048576)
def twin (l : List Pt) : Bool := (List.range (l.length - 1)).any fun i => decide (l[i + 1]! = l[i]!)
def partE (kind : Int) (first : Bool) (l : List Pt) : Int :=
  if l.all near = false then 5
  else if (l.length : Int) < kind then 15
  else if twin l = true then 15
  else if kind = 3 ∧ (l[0]! = l[l.length - 1]! ∨ areaF l = 0 ∨ first = true ∧ areaF l < 0) then 15
  else 0
theorem pts_drop1 (L : List Pt) : (pts L).drop 2 = pts (L.drop 1) := by
  cases L with
  | nil => rfl
  | cons p L => rfl
end Go
namespace Go.Proofs.YtjggoajfilnfjaaGreat
open Go.RowKit

theorem gwithin_any (n : Int) (w : World) :
    Calls Tryz.prog 104 #[.int .i64 n] w fun e w' => e = .returned (.bool (decide (-1048576 ≤ n ∧ n ≤ 1048576))) ∧ w = w' := by
  go_enter Tryz.func104, Tryz.ntmps104
  by_cases h1 : -1048576 ≤ n
  · go_wp2; go_ret; refine ⟨ret_bool ?_, rfl⟩; simp [h1]
  · go_wp2; go_ret; refine ⟨ret_bool ?_, rfl⟩
    symm; rw [Bool.and_eq_false_iff]
    exact .inl (decide_eq_false (by omega))

set_option maxHeartbeats 1600000 in
theorem gpart_any (kind : Int) (first : Bool) (x : PC) (hl : x.l.length ≤ 1000) (hk : kind = 2 ∨ kind = 3) (w : World) (hx : x.Ok w) :
    Calls Tryz.prog 85 #[.int .i64 kind, .bool first, x.val] w fun e w' => e = .returned (.int .i64 (partE kind first x.l)) ∧ Below w.heap.size w w' := by
  obtain ⟨L, a, c⟩ := x; obtain ⟨hr, h2, h3, h4⟩ := hx; dsimp only [PC.val] at *; obtain ⟨PE, hPE⟩ : ∃ PE, partE kind first L = PE := ⟨_, rfl⟩; rw [hPE]; have HPE := Lib.hid hPE; clear hPE
  go_enter Tryz.func85, Tryz.ntmps85
  go_wp2
  go_loopw [14] (fun i wr => ∃ k : Nat, k ≤ L.length ∧ i = .int .i64 k ∧ (L.take k).all near = true ∧ Below w.heap.size w wr) (fun i _ => L.length - (intOf i).toNat)
  case atStart => exact ⟨0, Nat.zero_le _, rfl, rfl, Below.refl _ _⟩
  case round =>
    obtain ⟨k, hk1, rfl, hall, hbl⟩ := hrel; have HA := Lib.hid hall; clear hall
    by_cases hlt : k < L.length
    · obtain ⟨b, off, rfl, hb, c0, c1⟩ := (hr.keep hbl).pt k hlt; have HST : Hid ((L.take (k + 1)).all near = near L[k]) := by
        refine Lib.hid ?_; rw [List.take_succ_eq_append_getElem hlt, List.all_append, HA.out]; simp
      have HNO : Hid (near L[k] = false → PE = 5) := by
        refine Lib.hid fun h => ?_; rw [← HPE.out]; have : L.all near = false := by
          rw [List.all_eq_false]; exact ⟨L[k], List.getElem_mem _, by simp [h]⟩
        unfold partE; rw [if_pos this]
      generalize L[k] = p at *; obtain ⟨x, y⟩ := p; dsimp only at c0 c1; have hs := hbl.size
      by_cases hx : -1048576 ≤ x ∧ x ≤ 1048576
      · by_cases hy : -1048576 ≤ y ∧ y ≤ 1048576
        · have HX := Lib.hid hx; have HY := Lib.hid hy; clear hx hy
          go_wp2_with fail
          refine (gwithin_any x _).mono ?_; rintro e w1 ⟨rfl, rfl⟩; rw [decide_eq_true HX.out]
          go_wp2_with fail
          refine (gwithin_any y _).mono ?_; rintro e w1 ⟨rfl, rfl⟩; rw [decide_eq_true HY.out]; go_wp2; go_roundw
          case rel =>
            refine ⟨k + 1, by omega, by go_num, ?_, hbl.alloc hs _⟩; rw [HST.out]; simp [near, HX.out, HY.out]
          case measure => simp [intOf]; omega
        · have HX := Lib.hid hx; have HY := Lib.hid hy; clear hx hy
          go_wp2_with fail
          refine (gwithin_any x _).mono ?_; rintro e w1 ⟨rfl, rfl⟩; rw [decide_eq_true HX.out]
          go_wp2_with fail
          refine (gwithin_any y _).mono ?_; rintro e w1 ⟨rfl, rfl⟩; rw [decide_eq_false HY.out]; go_wp2; go_ret; refine ⟨ret_int (HNO.out ?_).symm, hbl.alloc hs _⟩; simp [near, HY.out]
      · have HX := Lib.hid hx; clear hx
        go_wp2_with fail
        refine (gwithin_any x _).mono ?_; rintro e w1 ⟨rfl, rfl⟩; rw [decide_eq_false HX.out]; go_wp2; go_ret; refine ⟨ret_int (HNO.out ?_).symm, hbl.alloc hs _⟩; simp [near, HX.out]
    · obtain rfl : k = L.length := by omega
      have HA := Lib.hid HA.out; rw [List.take_length] at HA
      by_cases hlk : (L.length : Int) < kind
      · have hE : Hid (PE = 15) := Lib.hid (by rw [← HPE.out]; unfold partE; rw [if_neg (by rw [HA.out]; simp), if_pos hlk]); go_wp2; go_ret; exact ⟨ret_int hE.out.symm, hbl⟩
      · have hL2 : 2 ≤ L.length := by rcases hk with rfl | rfl <;> omega
        obtain ⟨b, off, rfl, hb, -, -⟩ := hr.pt 0 (by omega); have hP1 : Hid (twin L = true → PE = 15) := Lib.hid fun h => by
          rw [← HPE.out]; unfold partE; rw [if_neg (by rw [HA.out]; simp), if_neg hlk, if_pos h]
        have hP2 : Hid (twin L = false → kind = 3 → (L[0]! = L[L.length - 1]! ∨ areaF L = 0 ∨ first = true ∧ areaF L < 0) → PE = 15) := Lib.hid fun h h1 h2 => by
          rw [← HPE.out]; unfold partE; rw [if_neg (by rw [HA.out]; simp), if_neg hlk, if_neg (by rw [h]; simp), if_pos ⟨h1, h2⟩]
        have hP3 : Hid (twin L = false → ¬ (kind = 3 ∧ (L[0]! = L[L.length - 1]! ∨ areaF L = 0 ∨ first = true ∧ areaF L < 0)) → PE = 0) := Lib.hid fun h h1 => by
          rw [← HPE.out]; unfold partE; rw [if_neg (by rw [HA.out]; simp), if_neg hlk, if_neg (by rw [h]; simp), if_neg h1]
        have har := fun W h => rarea_any (some ⟨b, off, none⟩) c L hl W h; have HAR := Lib.hid har; have hc1 : ¬ c = 1 := by omega
        have hc1' : ¬ (L.length : Int) < 1 := by omega
        clear har HA hlt hk1; have hrd := hr.drop 2; rw [pts_drop1] at hrd; go_wp2
        go_loopw [36] (fun i wr => ∃ j : Nat, j + 1 ≤ L.length ∧ i = .int .i64 j ∧ (∀ q, q < j → L[q + 1]! ≠ L[q]!) ∧ Below w.heap.size w wr) (fun i _ => L.length - (intOf i).toNat)
        case atStart => exact ⟨0, by omega, rfl, fun q hq => absurd hq (Nat.not_lt_zero _), hbl⟩
        case round =>
          obtain ⟨j, hj1, rfl, hne, hbl'⟩ := hrel; have HNE := Lib.hid hne; clear hne hbl
          by_cases hlt : j + 1 < L.length
          · have hjd : j < (L.drop 1).length := by simp; omega
            obtain ⟨b1, off1, he, -, d0, d1⟩ := (hrd.keep hbl').pt j hjd
            cases he
            obtain ⟨b2, off2, he, hb2, c0, c1⟩ := (hr.keep hbl').pt j (by omega)
            cases he
            have hd : (L.drop 1)[j] = L[j + 1]! := by rw [List.getElem_drop, getElem!_pos L (j + 1) hlt]; congr 1; omega
            rw [hd] at d0 d1; rw [← getElem!_pos L j (by omega)] at c0 c1; have hs := hbl'.size; have HEQ : Hid (L[j + 1]! = L[j]! → twin L = true) := Lib.hid fun h => by
              unfold twin; rw [List.any_eq_true]; exact ⟨j, List.mem_range.2 (by omega), by simp [h]⟩
            have HNO : Hid (L[j + 1]! ≠ L[j]! → ∀ q, q < j + 1 → L[q + 1]! ≠ L[q]!) := Lib.hid fun h q hq => by
              by_cases h1 : q = j
              · subst h1; exact h
              · exact HNE.out q (by omega)
            generalize L[j + 1]! = p at *; generalize L[j]! = q at *; obtain ⟨px, py⟩ := p; obtain ⟨qx, qy⟩ := q; dsimp only at c0 c1 d0 d1; clear hjd hd
            go_wp2_with fail
            have hbne : b ≠ wr.heap.size := by omega
            by_cases hx : px = qx
            · subst hx
              by_cases hy : py = qy
              · subst hy
                go_quiet (fail)
                go_wp2; go_ret; exact ⟨ret_int (hP1.out (HEQ.out trivial)).symm, below_drewN (hbl'.alloc hs _) _⟩
              · go_quiet (fail)
                go_wp2; go_roundw
                case rel => exact ⟨j + 1, by omega, by go_num, HNO.out (by simp [hy]), below_drewN (hbl'.alloc hs _) _⟩
                case measure => simp [intOf]; omega
            · go_quiet (fail)
              go_wp2; go_roundw
              case rel => exact ⟨j + 1, by omega, by go_num, HNO.out (by simp [hx]), below_drewN (hbl'.alloc hs _) _⟩
              case measure => simp [intOf]; omega
          · obtain rfl : j = L.length - 1 := by omega
            have HT : Hid (twin L = false) := Lib.hid (by
              unfold twin; rw [List.any_eq_false]; intro q hq; have := HNE.out q (List.mem_range.1 hq)
              simpa using this)
            clear HNE hP1 hrd; have hs := hbl'.size
            rcases hk with rfl | rfl
            · go_wp2; go_ret; exact ⟨ret_int (hP3.out HT.out (by simp)).symm, hbl'⟩
            · go_wp2_with fail
              refine (HAR.out _ (hr.keep hbl')).mono ?_; rintro e w1 ⟨rfl, hb1⟩; have hbl1 := hbl'.trans (hb1.mono hs); obtain ⟨b2, off2, he, hb2, c0, c1⟩ := (hr.keep hbl1).pt 0 (by omega)
              cases he
              obtain ⟨b3, off3, he, hb3, d0, d1⟩ := (hr.keep hbl1).pt (L.length - 1) (by omega)
              cases he
              rw [← getElem!_pos L 0 (by omega)] at c0 c1; rw [← getElem!_pos L (L.length - 1) (by omega)] at d0 d1; clear hb1 hbl' HAR; have HP2 := hP2.out HT.out trivial; have HP3 := hP3.out HT.out; generalize areaF L = ar at *; generalize L[0]! = p at *; generalize L[L.length - 1]! = q at *; obtain ⟨px, py⟩ := p; obtain ⟨qx, qy⟩ := q; dsimp only at c0 c1 d0 d1; have HP2' := Lib.hid HP2; have HP3' := Lib.hid HP3; clear HP2 HP3 hP2 hP3; have hL1 : 0 < L.length := by omega
              rw [Nat.zero_mul, Nat.add_zero] at c0; rw [Nat.zero_mul, Nat.add_zero] at c1; have hw : IntKind.i64.wrap ((L.length : Int) - 1) = ((L.length - 1 : Nat) : Int) := by
                have : ((L.length - 1 : Nat) : Int) = (L.length : Int) - 1 := by omega
                rw [this]; exact IntWalk.i64_in _ (by omega)
              by_cases hx : px = qx ∧ py = qy
              · obtain ⟨rfl, rfl⟩ := hx
                go_wp2_with fail
                go_quiet (fail)
                go_wp2; go_ret; exact ⟨ret_int (HP2'.out (.inl trivial)).symm, below_drewN hbl1 _⟩
              · have hne : (⟨px, py⟩ : Pt) ≠ ⟨qx, qy⟩ := by simpa using hx
                have HNE := Lib.hid hne; clear hne; have hxy : ¬ px = qx ∨ px = qx ∧ ¬ py = qy := by
                  by_cases h1 : px = qx
                  · exact .inr ⟨h1, fun h2 => hx ⟨h1, h2⟩⟩
                  · exact .inl h1
                clear hx; have har : ar = 0 ∨ ¬ ar = 0 ∧ decide (ar < 0) = false ∨ ¬ ar = 0 ∧ ar < 0 := by
                  by_cases h1 : ar < 0
                  · exact .inr (.inr ⟨by omega, h1⟩)
                  · by_cases h2 : ar = 0
                    · exact .inl h2
                    · exact .inr (.inl ⟨h2, decide_eq_false h1⟩)
                rcases hxy with hx | ⟨rfl, hy⟩
                all_goals rcases har with rfl | ⟨hz, hp⟩ | ⟨hz, hn⟩
                all_goals cases first
                all_goals try (have hz' : (ar == 0) = false := by simpa using hz)
                all_goals go_wp2_with fail
                all_goals go_quiet (fail)
                all_goals go_wp2
                all_goals go_ret
                all_goals first | exact ⟨ret_int (HP2'.out (by simp [*])).symm, below_drewN hbl1 _⟩ | exact ⟨ret_int (HP3'.out (by have h := HNE.out; have h2 := of_decide_eq_false ‹decide (ar < 0) = false›; simp [*])).symm, below_drewN hbl1 _⟩ | exact ⟨ret_int (HP3'.out (by have h := HNE.out; simp [*])).symm, below_drewN hbl1 _⟩
end Go.Proofs.YtjggoajfilnfjaaGreat
/- geom.Numbers' closure: a point's two numbers behind the others. -/
set_option linter.unusedVariables false
set_option linter.unusedSimpArgs false
set_option maxRecDepth 100000
namespace Go
open Go.RowKit Go.Vint

def byN (a p : Pt) : List Int := [zig (p.x - a.x), zig (p.y - a.y)]

def Num (e : TypeId) (base B1 B2 : Nat) (W : World) (R : List Int) (at' : Pt) : Prop :=
  ∃ v, Blk W B1 [v] ∧ Blk W B2 at'.cells ∧ W.ownsRow base e 1 v R.length (R.map (Value.int .u64)) ∧ base ≤ W.heap.size
def Close (p : Pt) : Prop := (-1048576 ≤ p.x ∧ p.x ≤ 1048576) ∧ (-1048576 ≤ p.y ∧ p.y ≤ 1048576)
end Go
namespace Go.Proofs.YtjggoajfilnfjaaGreat
open Go.RowKit Go.Vint

set_option maxHeartbeats 1600000 in
theorem by_any (p at' : Pt) (R : List Int) (base B1 B2 n0 : Nat) (h1 : B1 < base) (h2 : B2 < base) (hne : B1 ≠ B2) (hn1 : n0 ≤ B1) (hn2 : n0 ≤ B2) (hp : Close p) (ha : Close at') (hR : R.length ≤ 1000000) (w : World) (h : Num 70 base B1 B2 w R at') :
    Calls Tryz.prog 118 #[p.val, .pointer (some ⟨B1, 0, none⟩), .pointer (some ⟨B2, 0, none⟩)] w fun e w' => (∃ v, e = .returned v) ∧ Num 70 base B1 B2 w' (R ++ byN at' p) p ∧ Below n0 w w' := by
  obtain ⟨v, hb1, hb2, hown, hbs⟩ := h; obtain ⟨x, y⟩ := p; obtain ⟨ax, ay⟩ := at'; obtain ⟨⟨p1, p2⟩, p3, p4⟩ := hp; obtain ⟨⟨a1, a2⟩, a3, a4⟩ := ha; dsimp only [Pt.val, Pt.cells] at *
  go_enter Tryz.func118, Tryz.ntmps118
  have hw1 : IntKind.i64.wrap (x - ax) = x - ax := IntWalk.i64_in _ (by omega); have hw2 : IntKind.i64.wrap (y - ay) = y - ay := IntWalk.i64_in _ (by omega); have hz1 := vzig_any (x - ax) (by omega) (by omega); have hz2 := vzig_any (y - ay) (by omega) (by omega); have hby : byN ⟨ax, ay⟩ ⟨x, y⟩ = [zig (x - ax), zig (y - ay)] := rfl; have HBY := Lib.hid hby; have HZ1 := Lib.hid hz1; have HZ2 := Lib.hid hz2; clear hby hz1 hz2; generalize zig (x - ax) = zx at *; generalize zig (y - ay) = zy at *; clear p1 p2 p3 p4 a1 a2 a3 a4
  go_wp2_with fail
  have hbx := Blk.new w [.int .i64 x, .int .i64 y] 79; have k1 := hb1.alloc (.cells #[.int .i64 x, .int .i64 y] 79); have k2 := hb2.alloc (.cells #[.int .i64 x, .int .i64 y] 79); have ko := hown.below (Below.new w (.cells #[.int .i64 x, .int .i64 y] 79)); have hBl := Below.new w (.cells #[.int .i64 x, .int .i64 y] 79); obtain ⟨w1, hw1e⟩ : ∃ w1, w.alloc (.cells #[.int .i64 x, .int .i64 y] 79) = w1 := ⟨_, rfl⟩; rw [hw1e] at hbx k1 k2 ko hBl; rw [hw1e]; clear hw1e; have hbs1 : base ≤ w1.heap.size := Nat.le_trans hbs hBl.size; have hlt := hbx.lt; have hvb : ∀ k, v.ownBlock = some k → base ≤ k ∧ k < w.heap.size := fun k hk => hown.lt k hk; have HVB := Lib.hid hvb; clear hb1 hb2 hown hvb; refine wp_region_lit_txtZ (some 15) [0, 1, 2, 3, 4, 5, 7, 8, 9, 10, 11] (fun W => Blk W w.heap.size [.int .i64 x, .int .i64 y] ∧ Blk W B1 [v] ∧ Blk W B2 [.int .i64 ax, .int .i64 ay]) (by kernel_rfl) (by kernel_rfl) (by kernel_rfl) (by kernel_rfl) ⟨hbx.drew, k1.drew, k2.drew⟩ ?_; refine txt_light v rfl rfl ?_ ?_
  · intro w' hS; have c0 := hS.2.1.cell 0 rfl; go_simp
  try simp only [Act.put, List.setIfInBounds_toArray, List.set_cons_zero, List.set_cons_succ]
  (refine txt_light ?_ rfl rfl ?_ ?_; rotate_left; · (intro w' hS; (try dsimp only at hS); go_simp; with_reducible rfl)); try simp only [Act.put, List.setIfInBounds_toArray, List.set_cons_zero, List.set_cons_succ]
  refine txt_light (.int .i64 x) rfl rfl ?_ ?_
  · intro w' hS; have c0 := hS.1.cell 0 rfl; go_simp
  try simp only [Act.put, List.setIfInBounds_toArray, List.set_cons_zero, List.set_cons_succ]
  (refine txt_light ?_ rfl rfl ?_ ?_; rotate_left; · (intro w' hS; (try dsimp only at hS); go_simp; with_reducible rfl)); try simp only [Act.put, List.setIfInBounds_toArray, List.set_cons_zero, List.set_cons_succ]
  refine txt_light (.int .i64 ax) rfl rfl ?_ ?_
  · intro w' hS; have c0 := hS.2.2.cell 0 rfl; go_simp
  try simp only [Act.put, List.setIfInBounds_toArray, List.set_cons_zero, List.set_cons_succ]
  refine txt_light (.int .i64 (x - ax)) rfl rfl ?_ ?_
  · intro w' hS; go_simp
  try simp only [Act.put, List.setIfInBounds_toArray, List.set_cons_zero, List.set_cons_succ]
  refine txt_call [.int .i64 (x - ax)] Tryz.f82 rfl rfl Tryz.func82 (by kernel_rfl) (by kernel_rfl) rfl ((HZ1.out _).mono ?_); rintro e w2 ⟨rfl, rfl⟩; refine ⟨_, rfl, ⟨hbx.drew, k1.drew, k2.drew⟩, ?_⟩
  try simp only [Act.put, List.setIfInBounds_toArray, List.set_cons_zero, List.set_cons_succ]
  (refine txt_light ?_ rfl rfl ?_ ?_; rotate_left; · (intro w' hS; (try dsimp only at hS); go_simp; with_reducible rfl)); try simp only [Act.put, List.setIfInBounds_toArray, List.set_cons_zero, List.set_cons_succ]
  refine txt_light (.int .i64 y) rfl rfl ?_ ?_
  · intro w' hS; have c0 := hS.1.cell 1 rfl; go_simp
  try simp only [Act.put, List.setIfInBounds_toArray, List.set_cons_zero, List.set_cons_succ]
  (refine txt_light ?_ rfl rfl ?_ ?_; rotate_left; · (intro w' hS; (try dsimp only at hS); go_simp; with_reducible rfl)); try simp only [Act.put, List.setIfInBounds_toArray, List.set_cons_zero, List.set_cons_succ]
  refine txt_light (.int .i64 ay) rfl rfl ?_ ?_
  · intro w' hS; have c0 := hS.2.2.cell 1 rfl; go_simp
  try simp only [Act.put, List.setIfInBounds_toArray, List.set_cons_zero, List.set_cons_succ]
  refine txt_light (.int .i64 (y - ay)) rfl rfl ?_ ?_
  · intro w' hS; go_simp
  try simp only [Act.put, List.setIfInBounds_toArray, List.set_cons_zero, List.set_cons_succ]
  refine txt_call [.int .i64 (y - ay)] Tryz.f82 rfl rfl Tryz.func82 (by kernel_rfl) (by kernel_rfl) rfl ((HZ2.out _).mono ?_); rintro e w2 ⟨rfl, rfl⟩; refine ⟨_, rfl, ⟨hbx.drew, k1.drew, k2.drew⟩, ?_⟩
  try simp only [Act.put, List.setIfInBounds_toArray, List.set_cons_zero, List.set_cons_succ]
  refine txt_heavy rfl rfl (fun K hK => ?_); go_step; have hb3 := Below.new w1.drew (.cells #[.int .u64 zx, .int .u64 zy] 70); have x1 := (Blk.drew hbx).keep hb3; have x2 := (Blk.drew k1).keep hb3; have x3 := (Blk.drew k2).keep hb3; have xo := World.ownsRow.below (w := w1.drew) ko hb3; have xr := Rd.lit w1.drew w1.heap.size [.int .u64 zx, .int .u64 zy] 70 rfl; have hB3 : Below n0 w (w1.drew.alloc (.cells #[.int .u64 zx, .int .u64 zy] 70)) := ((hBl.mono (by omega)).drew).alloc (by simp; omega) _; refine hK.out _ _ ⟨x1, x2, x3⟩ ?_; clear hK K hbx k1 k2 ko hBl hb3
  try simp only [Act.put, List.setIfInBounds_toArray, List.set_cons_zero, List.set_cons_succ]
  refine txt_heavy rfl rfl (fun K hK => ?_); refine wp_app (.tmp 4) (.tmp 17) 151 rfl base 70 (.int .u64 0) 1 8 Tryz.underlying151 Tryz.infoU64 rfl (by decide) v R.length (R.map (Value.int .u64)) rfl xo (some ⟨w1.heap.size, 0, none⟩) 2 2 [.int .u64 zx, .int .u64 zy] rfl (fun h => by cases h) xr rfl (by simp [Value.oneCell']) (by omega) (by decide) (by simp; omega) ?_; intro v2 w2 hown2 hg2; have hn1' : ∀ b, b < base → some b ≠ v.ownBlock := fun b hb e => by have := (HVB.out b e.symm).1; omega
  have hn2' : some w.heap.size ≠ v.ownBlock := fun e => by have := (HVB.out _ e.symm).2; omega
  have y1 := x1.grown hg2 hn2'; have y2 := x2.grown hg2 (hn1' B1 h1); have y3 := x3.grown hg2 (hn1' B2 h2); have hB4 := hB3.grown hg2 (by simp; omega) (fun k hk => by have := (HVB.out k hk).1; omega); have hsz : base ≤ w2.heap.size := by have := y1.lt; omega
  refine hK.out _ _ ⟨y1, y2, y3⟩ ?_; clear hK K x1 x2 x3 xo xr hB3 hg2; have hf2 := hown2.form; obtain ⟨pa, pc, rfl, -⟩ := hf2
  try simp only [Act.put, List.setIfInBounds_toArray, List.set_cons_zero, List.set_cons_succ]
  refine txt_last rfl rfl rfl (fun K hK => ?_); have c0 := y2.cell 0 rfl; have f0 := y2.free 0; go_step; refine hK.out _ _ ?_; refine txt_nil ?_; clear hK K c0 f0; have z1 := y1.set_at (b' := B1) (o := 0) (by omega) (.slice pa (R.length + 2) pc); have z2 := y2.set 0 (.slice pa (R.length + 2) pc); have z3 := y3.set_at (b' := B1) (o := 0) (fun e => hne e.symm) (.slice pa (R.length + 2) pc); have zo := hown2.set_ne (p := ⟨B1, 0, none⟩) (fun h => by have := (hown2.lt _ h).1; simp at this; omega) (.slice pa (R.length + 2) pc); have hB5 := hB4.set_at (b := B1) (o := 0) hn1 (.slice pa (R.length + 2) pc); have hz5 : base ≤ (w2.setCell ⟨B1, 0, none⟩ (.slice pa (R.length + 2) pc)).heap.size := by simp [World.setCell]; exact hsz
  generalize w2.setCell ⟨B1, 0, none⟩ (.slice pa (R.length + 2) pc) = w3 at *; have e0 := z1.cell 0 rfl; have e1 := z1.cell 1 rfl; have g0 := z3.cell 0 rfl; have g1 := z3.cell 1 rfl; have q0 := z3.free 0; have q1 := z3.free 1; clear y1 y2 y3 hown2 hB4 hsz z1; go_wp2; refine ⟨rfl, .tuple #[], by simp [results, Tryz.results118, go_sem], ⟨_, rfl⟩, ⟨.slice pa (R.length + 2) pc, ?_, ?_, ?_, ?_⟩, ?_⟩
  · exact (z2.set_at (b' := B2) (o := 0) hne (.int .i64 x)).set_at (b' := B2) (o := 1) hne (.int .i64 y)
  · exact (z3.set 0 (.int .i64 x)).set 1 (.int .i64 y)
  · rw [HBY.out, List.length_append, List.map_append]; refine (zo.set_ne (p := ⟨B2, 0, none⟩) ?_ (.int .i64 x)).set_ne (p := ⟨B2, 1, none⟩) ?_ (.int .i64 y)
    · exact fun h => by have := (zo.lt _ h).1; simp at this; omega
    · exact fun h => by have := (zo.lt _ h).1; simp at this; omega
  · simp [World.setCell]; exact hz5
  · exact (hB5.set_at (b := B2) (o := 0) hn2 (.int .i64 x)).set_at (b := B2) (o := 1) hn2 (.int .i64 y)
end Go.Proofs.YtjggoajfilnfjaaGreat
/- geom.Check. -/
set_option linter.unusedVariables false
set_option linter.unusedSimpArgs false
namespace Go
def chk (kind : Int) (first : Bool) : List (List Pt) → Int
  | [] => 0
  | l :: t => if partE kind first l ≠ 0 then partE kind first l else chk kind false t
def checkE (kind : Int) (G : List (List Pt)) : Int := if kind ≠ 2 ∧ kind ≠ 3 then 14 else if G.length = 0 then 15 else chk kind true G
theorem chk_end (kind : Int) (first : Bool) (G : List (List Pt)) (k : Nat) (h : ¬ k < G.length) : chk kind first (G.drop k) = 0 := by
  rw [List.drop_of_length_le (by omega)]; rfl
end Go
namespace Go.Proofs.YtjggoajfilnfjaaGreat
open Go.RowKit

set_option maxHeartbeats 1600000 in
theorem gcheck_any (kind : Int) (a : Option Addr) (c : Nat) (xs : List PC) (hl : xs.length ≤ 1000000) (hle : ∀ x ∈ xs, x.l.length ≤ 1000) (w : World) (hr : Rd w a (xs.map PC.val)) (hok : ∀ x ∈ xs, x.Ok w) :
    Calls Tryz.prog 59 #[.int .i64 kind, .slice a xs.length c] w fun e w' => e = .returned (.int .i64 (checkE kind (xs.map (·.l)))) ∧ Below w.heap.size w w' := by
  obtain ⟨E, hE⟩ : ∃ E, checkE kind (xs.map (·.l)) = E := ⟨_, rfl⟩; rw [hE]; unfold checkE at hE; rw [List.length_map] at hE; have HE := Lib.hid hE; clear hE
  go_enter Tryz.func59, Tryz.ntmps59
  by_cases hk : kind = 2 ∨ kind = 3
  · have hkk : ((kind != 2) && (kind != 3)) = false := by rcases hk with rfl | rfl <;> rfl
    by_cases h0 : xs.length = 0
    · have HE0 : Hid (E = 15) := Lib.hid (by rw [← HE.out, if_neg (by omega), if_pos h0]); have HK := Lib.hid hk
      rcases hk with rfl | rfl
      · go_wp2; go_ret; exact ⟨ret_int HE0.out.symm, Below.refl _ _⟩
      · go_wp2; go_ret; exact ⟨ret_int HE0.out.symm, Below.refl _ _⟩
    · have HE0 : Hid (E = chk kind true (xs.map (·.l))) := Lib.hid (by rw [← HE.out, if_neg (by omega), if_neg h0]); have HK := Lib.hid hk; clear HE; have loop : ∀ k kk : Int, (kind = k) → True := fun _ _ _ => trivial; clear loop
      rcases hk with rfl | rfl
      all_goals
        go_wp2
        go_loopw [21] (fun i wr => ∃ k : Nat, k ≤ xs.length ∧ i = .int .i64 k ∧ E = chk _ (decide (k = 0)) ((xs.map (·.l)).drop k) ∧ Below w.heap.size w wr) (fun i _ => xs.length - (intOf i).toNat)
        case atStart => exact ⟨0, Nat.zero_le _, rfl, HE0.out, Below.refl _ _⟩
        case round =>
          obtain ⟨k, hk, rfl, hst, hbl⟩ := hrel; have hs := hbl.size
          by_cases hlt : k < xs.length
          · obtain ⟨x, hxk⟩ : ∃ x, xs[k] = x := ⟨_, rfl⟩; have hxm : x ∈ xs := by rw [← hxk]; exact List.getElem_mem _
            have hxo : x.Ok w := hok x hxm; have hxl := hle x hxm; obtain ⟨b1, off1, rfl, c0, _⟩ := (hr.keep hbl).at (i := k) (v := x.val) (by simp [hlt, hxk]); have hd : (xs.map (·.l)).drop k = x.l :: (xs.map (·.l)).drop (k + 1) := by
              rw [List.drop_eq_getElem_cons (by simpa using hlt)]; simp [hxk]
            rw [hd] at hst; have hp := fun kd hkd => gpart_any kd (decide (k = 0)) x hxl hkd wr (hxo.keep hbl); have HP := Lib.hid hp; have hkz : (((k : Nat) : Int) == 0) = decide (k = 0) := by
              by_cases h : k = 0
              · subst h; rfl
              · rw [decide_eq_false h]; simp; omega
            rw [chk] at hst; have HST := Lib.hid hst; have hk1 : decide (k + 1 = 0) = false := by simp
            have HK1 := Lib.hid hk1; clear hst hp hxk hxm hxo hok hle hr hd hk1 HE0; obtain ⟨l, p, cx⟩ := x; dsimp only [PC.val] at *
            go_wp2_with fail
            refine (HP.out _ (by first | exact .inl rfl | exact .inr rfl)).mono ?_; rintro e w1 ⟨rfl, hb1⟩; have hbl1 := hbl.trans (hb1.mono hs); clear hb1 HP c0; have HST := HST.out; generalize partE _ (decide (k = 0)) l = pe at *
            by_cases hpe : pe = 0
            · subst hpe; rw [if_neg (by simp), ← HK1.out] at HST; have HST := Lib.hid HST; go_wp2; go_roundw
              case rel => exact ⟨k + 1, by omega, by go_num, HST.out, hbl1⟩
              case measure => simp [intOf]; omega
            · rw [if_pos hpe] at HST; have HST := Lib.hid HST; have hpe' : (pe != 0) = true := by simpa using hpe
              go_wp2; go_ret; exact ⟨ret_int HST.out.symm, hbl1⟩
          · rw [chk_end _ _ _ _ (by simpa using hlt)] at hst; obtain rfl : k = xs.length := by omega
            have HST := Lib.hid hst; go_wp2; go_ret; exact ⟨ret_int HST.out.symm, hbl⟩
  · have HE0 : Hid (E = 14) := Lib.hid (by rw [← HE.out, if_pos (by omega)]); have hk2 : (kind != 2) = true := by simp; omega
    have hk3 : (kind != 3) = true := by simp; omega
    go_wp2; go_ret; exact ⟨ret_int HE0.out.symm, Below.refl _ _⟩
end Go.Proofs.YtjggoajfilnfjaaGreat

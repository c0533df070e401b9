/-
  graticulelaw23.Cut; rows in rows. mvt.number, mvt.bytes: fields. Faces in memory: attributes, rings, faces; what keeps them. text.letter, text.Name. Plain: what is wrong with attributes. Plain: a layer's table, and what tags tell.
-/
import Derived.Test.YtjggoajfilnfjaaPk9
import Derived.Test.YtjggoajfilnfjaaPk10
import Derived.Test.YtjggoajfilnfjaaPk5
import Derived.Test.YtjggoajfilnfjaaPk6
import Derived.RangeFuncBox
/- graticulelaw23.Cut; rows in rows. -/
set_option linter.unusedVariables false
set_option linter.unusedSimpArgs false
set_option maxRecDepth 100000
namespace Go
open Go.RowKit

theorem rings_map (xs : List PC) : xs.flatMap PC.cells = xs.map PC.val := by
  induction xs with
  | nil => rfl
  | cons x xs ih => rw [List.flatMap_cons, ih]; rfl

def gstep (G : List (List Int)) (i : Int) (b : Bool) : List (List Int) := if b then G ++ [[i]] else match G[G.length - 1]? with
  | none => G
  | some g => G.set (G.length - 1) (g ++ [i])
def gto (f : Nat → Bool) : Nat → List (List Int)
  | 0 => []
  | n + 1 => gstep (gto f n) n (f n)

theorem gstep_len (G : List (List Int)) (i : Int) (b : Bool) : (gstep G i b).length ≤ G.length + 1 := by
  unfold gstep
  split
  · simp
  · split
    · omega
    · simp
theorem gto_len (f : Nat → Bool) (n : Nat) : (gto f n).length ≤ n := by
  induction n with
  | zero => simp [gto]
  | succ n ih => have := gstep_len (gto f n) n (f n); rw [gto]; omega

theorem gto_sum (f : Nat → Bool) (n : Nat) : ∀ g ∈ gto f n, g.length ≤ n := by
  induction n with
  | zero => simp [gto]
  | succ n ih =>
    intro g hg; rw [gto] at hg; unfold gstep at hg
    split at hg
    · rcases List.mem_append.1 hg with hg | hg
      · have := ih g hg; omega
      · obtain rfl : g = _ := by simpa using hg
        simp
    · split at hg
      · have := ih g hg; omega
      · rename_i g0 hg0
        rcases List.mem_or_eq_of_mem_set hg with hg | rfl
        · have := ih g hg; omega
        · have := ih g0 (List.mem_of_getElem? hg0); simp; omega

def Inn (H : Nat) (e : TypeId) (W : World) (vals : List Value) (G : List (List Int)) : Prop :=
  vals.length = G.length ∧ (∀ (j : Nat) (v : Value) (g : List Int), vals[j]? = some v → G[j]? = some g → W.ownsRow H e 1 v g.length (g.map (Value.int .i64)) ∧ g ≠ []) ∧ (∀ (i j : Nat) (u v : Value), i ≠ j → vals[i]? = some u → vals[j]? = some v → u.ownBlock ≠ v.ownBlock)

theorem ownsRow_ne_type {W : World} {b1 b2 : Nat} {e1 e2 : TypeId} {s1 s2 : Nat} {v1 v2 : Value} {n1 n2 : Nat} {x1 x2 : List Value} (h1 : W.ownsRow b1 e1 s1 v1 n1 x1) (h2 : W.ownsRow b2 e2 s2 v2 n2 x2) (he : e1 ≠ e2) : v1.ownBlock = none ∨ v1.ownBlock ≠ v2.ownBlock := by
  rcases h1.2 with ⟨rfl, _⟩ | ⟨g, cap, cur, rfl, _, hg, _⟩
  · exact .inl rfl
  · refine .inr fun e => ?_
    rcases h2.2 with ⟨rfl, _⟩ | ⟨g2, cap2, cur2, rfl, _, hg2, _⟩
    · simp [Value.ownBlock] at e
    · obtain rfl : g = g2 := by simpa [Value.ownBlock] using e
      rw [hg] at hg2
      cases hg2
      exact he rfl

theorem Inn.keep {H : Nat} {e : TypeId} {W W' : World} {vals : List Value} {G : List (List Int)} (h : Inn H e W vals G) (hb : Below W.heap.size W W') : Inn H e W' vals G :=
  ⟨h.1, fun j v g hv hg => ⟨(h.2.1 j v g hv hg).1.below hb, (h.2.1 j v g hv hg).2⟩, h.2.2⟩

theorem Inn.grown {H : Nat} {e e2 : TypeId} {W W' : World} {vals : List Value} {G : List (List Int)} {b s n : Nat} {o : Value} {xs : List Value} (h : Inn H e W vals G) (ho : W.ownsRow b e2 s o n xs) (he : e ≠ e2) (hg : W.grownBy W' o.ownBlock) : Inn H e W' vals G :=
  ⟨h.1, fun j v g hv hgg => ⟨(h.2.1 j v g hv hgg).1.kept hg (ownsRow_ne_type (h.2.1 j v g hv hgg).1 ho he), (h.2.1 j v g hv hgg).2⟩, h.2.2⟩

theorem Inn.snoc {H : Nat} {e : TypeId} {W : World} {vals : List Value} {G : List (List Int)} (h : Inn H e W vals G) {v : Value} {g : List Int} (hv : W.ownsRow H e 1 v g.length (g.map (Value.int .i64))) (hg : g ≠ []) (hne : ∀ u ∈ vals, u.ownBlock ≠ v.ownBlock) : Inn H e W (vals ++ [v]) (G ++ [g]) := by
  obtain ⟨h1, h2, h3⟩ := h; refine ⟨by simp [h1], ?_, ?_⟩
  · intro j u k hu hk
    by_cases hj : j < vals.length
    · rw [List.getElem?_append_left hj] at hu; rw [List.getElem?_append_left (by omega)] at hk; exact h2 j u k hu hk
    · have hj2 : j = vals.length := by
        have := (List.getElem?_eq_some_iff.1 hu).1; simp at this; omega
      subst hj2; rw [List.getElem?_append_right (Nat.le_refl _)] at hu; rw [h1, List.getElem?_append_right (Nat.le_refl _)] at hk; simp at hu hk; subst hu hk; exact ⟨hv, hg⟩
  · intro i j u k hij hu hk; have ui : ∀ (i : Nat) (u : Value), (vals ++ [v])[i]? = some u → (i < vals.length ∧ vals[i]? = some u) ∨ (i = vals.length ∧ u = v) := by
      intro i u hu
      by_cases hi : i < vals.length
      · rw [List.getElem?_append_left hi] at hu; exact .inl ⟨hi, hu⟩
      · have : i = vals.length := by
          have := (List.getElem?_eq_some_iff.1 hu).1; simp at this; omega
        subst this; rw [List.getElem?_append_right (Nat.le_refl _)] at hu; simp at hu; exact .inr ⟨rfl, hu.symm⟩
    rcases ui i u hu with ⟨_, hu2⟩ | ⟨e1, e2⟩
    · rcases ui j k hk with ⟨_, hk2⟩ | ⟨e3, e4⟩
      · exact h3 i j u k hij hu2 hk2
      · rw [e4]; exact hne u (List.mem_of_getElem? hu2)
    · rcases ui j k hk with ⟨_, hk2⟩ | ⟨e3, e4⟩
      · rw [e2]; exact (hne k (List.mem_of_getElem? hk2)).symm
      · exact absurd (e1.trans e3.symm) hij

theorem Inn.owns {H : Nat} {e : TypeId} {W : World} {vals : List Value} {G : List (List Int)} (h : Inn H e W vals G) {u : Value} (hu : u ∈ vals) : ∃ g : List Int, W.ownsRow H e 1 u g.length (g.map (Value.int .i64)) := by
  obtain ⟨j, hj, rfl⟩ := List.getElem_of_mem hu; have hj2 : j < G.length := by rw [← h.1]; exact hj
  exact ⟨G[j], (h.2.1 j _ _ (List.getElem?_eq_getElem hj) (List.getElem?_eq_getElem hj2)).1⟩

theorem Inn.last {H : Nat} {e : TypeId} {W W' : World} {vals : List Value} {G : List (List Int)} {m : Nat} {u v2 : Value} {gl : List Int} {k : Int} (h : Inn H e W vals G) (hu : vals[m]? = some u) (hgl : G[m]? = some gl) (hg : W.grownBy W' u.ownBlock)
    (hv : W'.ownsRow H e 1 v2 (gl ++ [k]).length ((gl ++ [k]).map (Value.int .i64))) (hb : v2.ownBlock = u.ownBlock ∨ ∃ b, v2.ownBlock = some b ∧ W.heap.size ≤ b) : Inn H e W' (vals.set m v2) (G.set m (gl ++ [k])) := by
  obtain ⟨h1, h2, h3⟩ := h; have hm : m < vals.length := (List.getElem?_eq_some_iff.1 hu).1; have hm2 : m < G.length := (List.getElem?_eq_some_iff.1 hgl).1; have hoth : ∀ (j : Nat) (x : Value), j ≠ m → vals[j]? = some x → x.ownBlock ≠ u.ownBlock ∧ x.ownBlock ≠ v2.ownBlock := by
    intro j x hj hx; have n1 := h3 j m x u hj hx hu; refine ⟨n1, ?_⟩
    rcases hb with e1 | ⟨b, e1, hle⟩
    · rw [e1]; exact n1
    · rw [e1]; intro e2; have hj2 : j < G.length := by rw [← h1]; exact (List.getElem?_eq_some_iff.1 hx).1
      have := (h2 j x _ hx (List.getElem?_eq_getElem hj2)).1; have := (this.lt b e2).2; omega
  refine ⟨by simp [h1], ?_, ?_⟩
  · intro j x g hx hgg
    by_cases hj : m = j
    · subst hj; rw [List.getElem?_set_self hm] at hx; rw [List.getElem?_set_self hm2] at hgg
      cases hx
      cases hgg
      exact ⟨hv, by simp⟩
    · rw [List.getElem?_set_ne hj] at hx hgg; have := h2 j x g hx hgg; exact ⟨this.1.kept hg (.inr (hoth j x (Ne.symm hj) hx).1), this.2⟩
  · intro i j x y hij hx hy
    by_cases hi : m = i
    · subst hi; rw [List.getElem?_set_self hm] at hx; rw [List.getElem?_set_ne hij] at hy
      cases hx
      exact ((hoth j y (Ne.symm hij) hy).2).symm
    · rw [List.getElem?_set_ne hi] at hx
      by_cases hj : m = j
      · subst hj; rw [List.getElem?_set_self hm] at hy
        cases hy
        exact (hoth i x (Ne.symm hi) hx).2
      · rw [List.getElem?_set_ne hj] at hy; exact h3 i j x y hij hx hy

theorem Inn.store {H : Nat} {e e2 : TypeId} {W : World} {vals : List Value} {G : List (List Int)} {b s n : Nat} {g c o : Nat} {xs : List Value} (h : Inn H e W vals G) (ho : W.ownsRow b e2 s (.slice (some ⟨g, 0, none⟩) n c) n xs) (he : e ≠ e2) (u : Value) : Inn H e (W.setCell ⟨g, o, none⟩ u) vals G :=
  ⟨h.1, fun j v gg hv hgg => ⟨(h.2.1 j v gg hv hgg).1.set_ne (p := ⟨g, o, none⟩) (by
    rcases ownsRow_ne_type (h.2.1 j v gg hv hgg).1 ho he with h0 | h0
    · rw [h0]; simp
    · simpa [Value.ownBlock] using h0) u, (h.2.1 j v gg hv hgg).2⟩, h.2.2⟩

theorem ownsRow_set_in {W : World} {base g c n i : Nat} {e : TypeId} {xs : List Value} (h : W.ownsRow base e 1 (.slice (some ⟨g, 0, none⟩) n c) n xs) (u : Value) (hi : i < n) : (W.setCell ⟨g, i, none⟩ u).ownsRow base e 1 (.slice (some ⟨g, 0, none⟩) n c) n (xs.set i u) := by
  obtain ⟨h1, h2⟩ := h; refine ⟨by simpa using h1, ?_⟩
  rcases h2 with ⟨hv, _⟩ | ⟨g', cap, cur, hv, hb, hg, h3, h4, h5, h6⟩
  · cases hv
  · cases hv
    refine .inr ⟨g, c, cur.setIfInBounds i u, rfl, hb, ?_, h3, h4, by simpa using h5, ?_⟩
    · show (W.setCell ⟨g, i, none⟩ u).heap[g]? = _; simp [World.setCell, Array.getElem?_modify, hg]
    · rw [← h6]; simp [List.take_set]

theorem ownsRow_cellset {W : World} {base g c n i : Nat} {e : TypeId} {xs : List Value} (h : W.ownsRow base e 1 (.slice (some ⟨g, 0, none⟩) n c) n xs) (hi : i < n) : (∃ v, W.cell? ⟨g, i, none⟩ = some v) ∧ W.frozen? ⟨g, i, none⟩ = false := by
  obtain ⟨h1, h2⟩ := h
  rcases h2 with ⟨hv, _⟩ | ⟨g', cap, cur, hv, hb, hg, h3, h4, h5, h6⟩
  · cases hv
  · cases hv
    have hc : i < cur.size := by
      have : xs.length = n * 1 := h1; have h7 := congrArg List.length h6; simp at h7; omega
    exact ⟨⟨cur[i], by rw [cell_of_row W g i cur e (0, 0) hg, Array.getElem?_eq_getElem hc]⟩, by simp [World.frozen?, hg]⟩
end Go
namespace Go.Proofs.Ytjggoajfilnfjaa
open Go.RowKit
theorem Try.infoInts : (Try.prog.info? 112).map (fun i => (i.zero, i.size, i.bytes)) = some (some (.slice none 0 0), 1, 24) := by kernel_rfl
theorem Try.infoI64 : (Try.prog.info? 3).map (fun i => (i.zero, i.size, i.bytes)) = some (some (.int .i64 0), 1, 8) := by kernel_rfl

set_option maxHeartbeats 800000 in
theorem cut23_any (a : Option Addr) (c : Nat) (xs : List PC) (w : World) (hr : Rd w a (xs.map PC.val)) (hok : ∀ x ∈ xs, x.Ok w) (hl : xs.length ≤ maxLen) :
    Calls Try.prog 15 #[.slice a xs.length c] w fun e w' => ∃ v, e = .returned v ∧
      w'.ownsRow w.heap.size 28 1 v ((xs.take 10).map PC.cut).length (((xs.take 10).map PC.cut).map PC.val) ∧ Below w.heap.size w w' := by
  obtain ⟨Y, hY⟩ : ∃ Y, (xs.take 10).map PC.cut = Y := ⟨_, rfl⟩; rw [hY]; have HY := Lib.hid hY; clear hY
  go_enter Try.func15, Try.ntmps15
  unfold maxLen at hl; go_wp2
  go_loopw [3, 4] (fun o i wr => ∃ k : Nat, k ≤ xs.length ∧ k ≤ 10 ∧ i = .int .i64 k ∧ wr.ownsRow w.heap.size 28 1 o k (((xs.take k).map PC.cut).map PC.val) ∧ Below w.heap.size w wr) (fun _ i _ => xs.length - (intOf i).toNat)
  case atStart => exact ⟨0, Nat.zero_le _, by omega, rfl, World.ownsRow_nil _ _ _ _, Below.refl _ _⟩
  case round =>
    obtain ⟨k, hk, hk2, rfl, hown, hbl⟩ := hrel
    by_cases hlt : k < xs.length ∧ k < 10
    · obtain ⟨hlt, hlt2⟩ := hlt; obtain ⟨x, hxk⟩ : ∃ x, xs[k] = x := ⟨_, rfl⟩; have hxo : x.Ok w := hok x (by rw [← hxk]; exact List.getElem_mem _); obtain ⟨b1, off1, rfl, c0, _⟩ := (hr.keep hbl).at (i := k) (v := x.val) (by simp [hlt, hxk]); have hst : Hid (((xs.take (k + 1)).map PC.cut).map PC.val = ((xs.take k).map PC.cut).map PC.val ++ [x.cut.val]) := by
        refine Lib.hid ?_; rw [List.take_succ_eq_append_getElem hlt, List.map_append, List.map_append, hxk]
        rfl
      have hct := cut3_any x wr (hxo.keep hbl); have HCT := Lib.hid hct; clear hct hr hok hxk hxo; obtain ⟨l, p, cx⟩ := x; dsimp only [PC.val, PC.cut] at *
      go_wp2_with fail
      refine HCT.out.mono ?_; rintro e w1 ⟨rfl, rfl⟩; clear HCT c0
      go_wp2_with (at_builtin; go_must (refine wpList_appLit' w hbl rfl (.tmp 15) (.tmp 21) 29 rfl 28 (.slice none 0 0) 1 24 Try.underlying29 Try.infoPts rfl (by decide) (by decide) u3 k (((xs.take k).map PC.cut).map PC.val) rfl hown 1 1 [.slice p (min 40 l.length) cx] _ rfl rfl (by simp [Value.oneCell']) (by omega) ?_); intro v2 w2 hown2 _ hbl2; clear hown hbl)
      go_roundw
      case rel =>
        refine ⟨k + 1, by omega, by omega, by go_num, ?_, hbl2⟩; rw [hst.out]
        simpa [List.length_take] using hown2
      case measure => simp [intOf]; omega
    · have e : xs.take 10 = xs.take k := by
        by_cases h : k < xs.length
        · rw [show k = 10 by omega]
        · rw [List.take_of_length_le (by omega), List.take_of_length_le (by omega)]
      have e2 : (xs.take 10).length = k := by simp; omega
      have hfin : wr.ownsRow w.heap.size 28 1 u3 Y.length (Y.map PC.val) := by
        rw [← HY.out, List.length_map, e2, e]; exact hown
      have HFIN := Lib.hid hfin; clear e e2 hfin
      by_cases h1 : k < xs.length
      · obtain rfl : k = 10 := by omega
        go_wp2; go_ret; exact ⟨_, rfl, HFIN.out, hbl⟩
      · obtain rfl : k = xs.length := by omega
        go_wp2; go_ret; exact ⟨_, rfl, HFIN.out, hbl⟩

end Go.Proofs.Ytjggoajfilnfjaa
/- mvt.number, mvt.bytes: fields. -/
set_option linter.unusedVariables false
set_option linter.unusedSimpArgs false
set_option maxRecDepth 100000
namespace Go.Proofs.Ytjggoajfilnfjaa
open Go.RowKit Go.Vint Go.Proto
theorem number_any (num n : Int) (w : World) :
    Calls Try.prog 37 #[.int .i64 num, .int .u64 n] w fun e w' => e = .returned (.agg #[.int .i64 num, .int .i64 0, .int .u64 n, .slice none 0 0]) ∧ Below w.heap.size w w' := by
  go_enter Try.func37, Try.ntmps37
  have hz : (Try.prog.info? 46).map (fun i => i.zero) = some (some (.agg #[.int .i64 0, .int .i64 0, .int .u64 0, .slice none 0 0])) := by kernel_rfl
  have k0 := Blk.new w [.int .i64 0, .int .i64 0, .int .u64 0, .slice none 0 0] 46; have a0 := k0.cell 0 rfl; have a1 := k0.cell 1 rfl; have a2 := k0.cell 2 rfl; have a3 := k0.cell 3 rfl; go_wp2; have k1 := Blk.new w [.int .i64 num, .int .i64 0, .int .u64 n, .slice none 0 0] 46; have q0 := k1.cell 0 rfl; have q1 := k1.cell 1 rfl; have q2 := k1.cell 2 rfl; have q3 := k1.cell 3 rfl; exact bodyPost_ret (v := .agg #[.int .i64 num, .int .i64 0, .int .u64 n, .slice none 0 0]) (by simp [results, Try.results37, go_sem, q0, q1, q2, q3]) rfl ⟨rfl, Below.new _ _⟩
theorem bytes_any (num : Int) (p : Option Addr) (m c : Nat) (w : World) :
    Calls Try.prog 17 #[.int .i64 num, .slice p m c] w fun e w' => e = .returned (.agg #[.int .i64 num, .int .i64 2, .int .u64 0, .slice p m c]) ∧ Below w.heap.size w w' := by
  go_enter Try.func17, Try.ntmps17
  have hz : (Try.prog.info? 46).map (fun i => i.zero) = some (some (.agg #[.int .i64 0, .int .i64 0, .int .u64 0, .slice none 0 0])) := by kernel_rfl
  have k0 := Blk.new w [.int .i64 0, .int .i64 0, .int .u64 0, .slice none 0 0] 46; have a0 := k0.cell 0 rfl; have a1 := k0.cell 1 rfl; have a2 := k0.cell 2 rfl; have a3 := k0.cell 3 rfl; go_wp2; have k1 := Blk.new w [.int .i64 num, .int .i64 2, .int .u64 0, .slice p m c] 46; have q0 := k1.cell 0 rfl; have q1 := k1.cell 1 rfl; have q2 := k1.cell 2 rfl; have q3 := k1.cell 3 rfl; exact bodyPost_ret (v := .agg #[.int .i64 num, .int .i64 2, .int .u64 0, .slice p m c]) (by simp [results, Try.results17, go_sem, q0, q1, q2, q3]) rfl ⟨rfl, Below.new _ _⟩
def FdT (W : World) (x : FC) : Prop := ∃ b, W.ownsRow b 5 1 (.slice x.p x.f.bs.length x.c) x.f.bs.length (x.f.bs.map (Value.int .u8))
theorem fdT_none {W : World} {x : FC} (h1 : x.p = none) (h2 : x.c = 0) (h3 : x.f.bs = []) : FdT W x := ⟨0, by rw [h1, h2, h3]; exact World.ownsRow_nil _ _ _ _⟩
theorem FdT.below {W W' : World} {x : FC} (h : FdT W x) (hb : Below W.heap.size W W') : FdT W' x := by
  obtain ⟨b, h⟩ := h; exact ⟨b, h.below hb⟩
theorem FdT.grown {W W' : World} {x : FC} (h : FdT W x) {base n : Nat} {v : Value} {xs : List Value} (hg : W.grownBy W' v.ownBlock) (ho : W.ownsRow base 46 4 v n xs) : FdT W' x := by
  obtain ⟨b, h⟩ := h; exact ⟨b, h.kept hg (ownsRow_ne_type h ho (by decide))⟩
theorem FdT.ok {W : World} {x : FC} (h : FdT W x) : x.Ok W := by
  obtain ⟨b, h⟩ := h; obtain ⟨a, c, e, h1, h2, h3, h4, -⟩ := h.form
  cases e
  exact ⟨h4, h1, h2, h3⟩
abbrev ownVal {W : World} {b : Nat} {e : TypeId} {s n : Nat} {v : Value} {xs : List Value} (_ : W.ownsRow b e s v n xs) : Value := v
end Go.Proofs.Ytjggoajfilnfjaa
/- Faces in memory: attributes, rings, faces; what keeps them. -/
set_option linter.unusedVariables false
set_option linter.unusedSimpArgs false
set_option maxRecDepth 100000
namespace Go
open Go.RowKit
structure At where
  key : ByteArray
  kind : Int
  text : ByteArray
  n : Int
instance : Inhabited At := ⟨⟨ByteArray.empty, 0, ByteArray.empty, 0⟩⟩
def At.cells (a : At) : List Value := [.string a.key, .int .i64 a.kind, .string a.text, .int .i64 a.n]
def At.val (a : At) : Value := .agg #[.string a.key, .int .i64 a.kind, .string a.text, .int .i64 a.n]
def ats (l : List At) : List Value := l.flatMap At.cells
theorem At.cells_len (a : At) : a.cells.length = 4 := rfl
theorem ats_len (l : List At) : (ats l).length = l.length * 4 := by
  unfold ats
  induction l with
  | nil => rfl
  | cons a l ih => simp only [List.flatMap_cons, List.length_append, ih, List.length_cons, At.cells_len]; omega
theorem ats_snoc (l : List At) (a : At) : ats (l ++ [a]) = ats l ++ a.cells := by simp [ats]
structure Fc where
  rs : List PC
  ra : Option Addr
  rc : Nat
  ls : List At
  aa : Option Addr
  ac : Nat
instance : Inhabited Fc := ⟨⟨[], none, 0, [], none, 0⟩⟩
def Fc.rval (f : Fc) : Value := .slice f.ra f.rs.length f.rc
def Fc.aval (f : Fc) : Value := .slice f.aa f.ls.length f.ac
def Fc.cells (f : Fc) : List Value := [f.rval, f.aval]
def Fc.val (f : Fc) : Value := .agg #[f.rval, f.aval]
def rcs (l : List PC) : List Value := l.flatMap PC.cells
def fcs (l : List Fc) : List Value := l.flatMap Fc.cells
theorem rcs_len (l : List PC) : (rcs l).length = l.length * 1 := by
  unfold rcs
  induction l with
  | nil => rfl
  | cons a l ih => simp only [List.flatMap_cons, List.length_append, ih, List.length_cons, PC.cells, List.length_nil]; omega
theorem fcs_len (l : List Fc) : (fcs l).length = l.length * 2 := by
  unfold fcs
  induction l with
  | nil => rfl
  | cons a l ih => simp only [List.flatMap_cons, List.length_append, ih, List.length_cons, Fc.cells, List.length_nil]; omega
theorem rcs_snoc (l : List PC) (x : PC) : rcs (l ++ [x]) = rcs l ++ [x.val] := by simp [rcs, PC.cells]
theorem fcs_snoc (l : List Fc) (x : Fc) : fcs (l ++ [x]) = fcs l ++ x.cells := by simp [fcs]
def Fc.rings (f : Fc) : List (List Pt) := f.rs.map PC.l
def Fc.Ok (W : World) (f : Fc) : Prop :=
  (Rd W f.ra (rcs f.rs) ∧ f.rs.length ≤ f.rc ∧ f.rc ≤ maxLen ∧ (f.ra = none → f.rc = 0)) ∧ (∀ r ∈ f.rs, r.Ok W) ∧ (Rd W f.aa (ats f.ls) ∧ f.ls.length ≤ f.ac ∧ f.ac ≤ maxLen ∧ (f.aa = none → f.ac = 0))
theorem Fc.Ok.keep {w w' : World} {f : Fc} (h : f.Ok w) (hb : Below w.heap.size w w') : f.Ok w' :=
  ⟨⟨h.1.1.keep hb, h.1.2⟩, fun r hr => (h.2.1 r hr).keep hb, ⟨h.2.2.1.keep hb, h.2.2.2⟩⟩

theorem Rd.fc {w : World} {a : Option Addr} {l : List Fc} (h : Rd w a (fcs l)) (i : Nat) (hi : i < l.length) :
    ∃ b off, a = some ⟨b, off, none⟩ ∧ b < w.heap.size ∧ w.cell? ⟨b, off + i * 2, none⟩ = some l[i].rval ∧ w.cell? ⟨b, off + i * 2 + 1, none⟩ = some l[i].aval := by
  have g : ∀ j, j < 2 → (fcs l)[i * 2 + j]? = (l[i]).cells[j]? := fun j hj => flatMap_get Fc.cells 2 (fun _ => rfl) l i j hi hj; obtain ⟨b, off, rfl, h0, hb⟩ := h.at (i := i * 2 + 0) (v := l[i].rval) (by rw [g 0 (by omega)]; rfl); obtain ⟨b', off', e, h1, -⟩ := h.at (i := i * 2 + 1) (v := l[i].aval) (by rw [g 1 (by omega)]; rfl)
  cases e
  exact ⟨b, off, rfl, hb, h0, by rw [Nat.add_assoc]; exact h1⟩
theorem Rd.rc {w : World} {a : Option Addr} {l : List PC} (h : Rd w a (rcs l)) (i : Nat) (hi : i < l.length) :
    ∃ b off, a = some ⟨b, off, none⟩ ∧ b < w.heap.size ∧ w.cell? ⟨b, off + i, none⟩ = some l[i].val := by
  have g : (rcs l)[i * 1 + 0]? = (l[i]).cells[0]? := flatMap_get PC.cells 1 (fun _ => rfl) l i 0 hi (by omega); obtain ⟨b, off, rfl, h0, hb⟩ := h.at (i := i * 1 + 0) (v := l[i].val) (by rw [g]; rfl); exact ⟨b, off, rfl, hb, by rw [Nat.mul_one, Nat.add_zero] at h0; exact h0⟩
theorem Rd.atr {w : World} {a : Option Addr} {l : List At} (h : Rd w a (ats l)) (i : Nat) (hi : i < l.length) :
    ∃ b off, a = some ⟨b, off, none⟩ ∧ b < w.heap.size ∧ w.cell? ⟨b, off + i * 4, none⟩ = some (.string l[i].key) ∧ w.cell? ⟨b, off + i * 4 + 1, none⟩ = some (.int .i64 l[i].kind) ∧ w.cell? ⟨b, off + i * 4 + 2, none⟩ = some (.string l[i].text) ∧ w.cell? ⟨b, off + i * 4 + 3, none⟩ = some (.int .i64 l[i].n) := by
  have g : ∀ j, j < 4 → (ats l)[i * 4 + j]? = (l[i]).cells[j]? := fun j hj => flatMap_get At.cells 4 (fun _ => rfl) l i j hi hj; obtain ⟨b, off, rfl, h0, hb⟩ := h.at (i := i * 4 + 0) (v := .string l[i].key) (by rw [g 0 (by omega)]; rfl); obtain ⟨b', off', e, h1, -⟩ := h.at (i := i * 4 + 1) (v := .int .i64 l[i].kind) (by rw [g 1 (by omega)]; rfl)
  cases e
  obtain ⟨b', off', e, h2, -⟩ := h.at (i := i * 4 + 2) (v := .string l[i].text) (by rw [g 2 (by omega)]; rfl)
  cases e
  obtain ⟨b', off', e, h3, -⟩ := h.at (i := i * 4 + 3) (v := .int .i64 l[i].n) (by rw [g 3 (by omega)]; rfl)
  cases e
  refine ⟨b, off, rfl, hb, h0, ?_, ?_, ?_⟩
  · rw [Nat.add_assoc]; exact h1
  · rw [Nat.add_assoc]; exact h2
  · rw [Nat.add_assoc]; exact h3
theorem ats_one (l : List At) : ∀ u ∈ ats l, u.oneCell' = true := by
  intro u hu; obtain ⟨p, -, hu⟩ := List.mem_flatMap.1 hu; simp [At.cells] at hu
  rcases hu with rfl | rfl | rfl | rfl <;> rfl
theorem rcs_one (l : List PC) : ∀ u ∈ rcs l, u.oneCell' = true := by
  intro u hu; obtain ⟨p, -, hu⟩ := List.mem_flatMap.1 hu; simp [PC.cells, PC.val] at hu; rw [hu]; rfl
theorem fcs_one (l : List Fc) : ∀ u ∈ fcs l, u.oneCell' = true := by
  intro u hu; obtain ⟨p, -, hu⟩ := List.mem_flatMap.1 hu; simp [Fc.cells, Fc.rval, Fc.aval] at hu
  rcases hu with rfl | rfl <;> rfl
def TypB (W : World) (a : Option Addr) (T : TypeId) : Prop := ∀ b, a.map (·.block) = some b → ∃ cs fr, W.heap[b]? = some (.cells cs T fr)
theorem TypB.none (W : World) (T : TypeId) : TypB W none T := fun b h => by simp at h
theorem TypB.of_owns {W : World} {base : Nat} {e : TypeId} {size n c m : Nat} {a : Option Addr} {xs : List Value} (h : W.ownsRow base e size (.slice a n c) m xs) : TypB W a e := by
  intro b hb
  rcases h.2 with ⟨h1, -⟩ | ⟨g, cap, cur, h1, -, hg, -⟩
  · cases h1; simp at hb
  · cases h1
    simp at hb; subst hb; exact ⟨cur, _, hg⟩
def KeepS (S : TypeId → Prop) (A B : World) : Prop := A.heap.size ≤ B.heap.size ∧ ∀ (k : Nat) (cs : Array Value) (V : TypeId) (fr : Nat × Nat), A.heap[k]? = some (Obj.cells cs V fr) → S V → B.heap[k]? = A.heap[k]?
theorem KeepS.refl {S : TypeId → Prop} (A : World) : KeepS S A A := ⟨Nat.le_refl _, fun _ _ _ _ _ _ => rfl⟩
theorem KeepS.trans {S : TypeId → Prop} {A B C : World} (h : KeepS S A B) (k : KeepS S B C) : KeepS S A C :=
  ⟨Nat.le_trans h.1 k.1, fun i cs V fr hi hv => by
    have h1 := h.2 i cs V fr hi hv; rw [k.2 i cs V fr (h1.trans hi) hv, h1]⟩
theorem KeepS.of_below {S : TypeId → Prop} {A B : World} (h : Below A.heap.size A B) : KeepS S A B :=
  ⟨h.size, fun k _ _ _ hk _ => h.block k (Array.getElem?_eq_some_iff.1 hk).1⟩
theorem KeepS.of_grownBy {S : TypeId → Prop} {A B : World} {row : Option Nat} (hg : A.grownBy B row) (hr : ∀ r, row = some r → ∀ cs V fr, A.heap[r]? = some (Obj.cells cs V fr) → ¬ S V) : KeepS S A B :=
  ⟨hg.size, fun k cs V fr hk hv => hg.block k (Array.getElem?_eq_some_iff.1 hk).1 fun e => hr k e.symm cs V fr hk hv⟩
theorem KeepS.of_row {S : TypeId → Prop} {A B : World} {n₀ : Nat} {e : TypeId} {size : Nat} {v : Value} {k : Nat} {xs : List Value} (hrow : A.ownsRow n₀ e size v k xs) (hS : ¬ S e) (hg : A.grownBy B v.ownBlock) : KeepS S A B :=
  KeepS.of_grownBy hg fun r he cs V fr hk => by
    rcases hrow.2 with ⟨rfl, _⟩ | ⟨g, cap, cur, rfl, _, hgb, _⟩
    · cases he
    · obtain rfl : g = r := by simpa [Value.ownBlock] using he
      rw [hgb] at hk
      cases hk
      exact hS
theorem KeepS.store {S : TypeId → Prop} {A : World} {p : Addr} {t : TypeId} {cs : Array Value} {fr : Nat × Nat} (h : A.heap[p.block]? = some (.cells cs t fr)) (hS : ¬ S t) (u : Value) : KeepS S A (A.setCell p u) := by
  refine ⟨by simp [World.setCell], fun k cs' V fr' hk hv => ?_⟩; refine Below.heap_setCell A p u k (fun e => ?_); subst e; rw [h] at hk
  cases hk
  exact hS hv
theorem Rd.keepS {S : TypeId → Prop} {A B : World} {a : Option Addr} {vs : List Value} {T : TypeId} (h : Rd A a vs) (ht : TypB A a T) (hS : S T) (k : KeepS S A B) : Rd B a vs := by
  rcases h with h | ⟨b, off, rfl, hc⟩
  · exact .inl h
  · refine .inr ⟨b, off, rfl, fun i v hv => ?_⟩; obtain ⟨cs, fr, hb⟩ := ht b rfl; have := hc i v hv; simp only [World.cell?, k.2 b cs T fr hb hS]; exact this
theorem TypB.keepS {S : TypeId → Prop} {A B : World} {a : Option Addr} {T : TypeId} (ht : TypB A a T) (hS : S T) (k : KeepS S A B) : TypB B a T := by
  intro b hb; obtain ⟨cs, fr, h⟩ := ht b hb; exact ⟨cs, fr, (k.2 b cs T fr h hS).trans h⟩
end Go
namespace Go.Proofs.Ytjggoajfilnfjaa
open Go.RowKit
def PcT (W : World) (x : PC) : Prop := x.Ok W ∧ TypB W x.p 27
def FcT (W : World) (f : Fc) : Prop := f.Ok W ∧ TypB W f.ra 28 ∧ (∀ r ∈ f.rs, PcT W r) ∧ TypB W f.aa 84
def faceS (T : TypeId) : Prop := T = 27 ∨ T = 28 ∨ T = 84
theorem PcT.keepS {S : TypeId → Prop} {A B : World} {x : PC} (h : PcT A x) (hS : S 27) (k : KeepS S A B) : PcT B x :=
  ⟨⟨h.1.1.keepS h.2 hS k, h.1.2⟩, h.2.keepS hS k⟩
theorem FcT.keepS {A B : World} {f : Fc} (h : FcT A f) (k : KeepS faceS A B) : FcT B f := by
  obtain ⟨⟨h1, h2, h3⟩, t1, t2, t3⟩ := h; exact ⟨⟨⟨h1.1.keepS t1 (.inr (.inl rfl)) k, h1.2⟩, fun r hr => ((t2 r hr).keepS (.inl rfl) k).1, ⟨h3.1.keepS t3 (.inr (.inr rfl)) k, h3.2⟩⟩, t1.keepS (.inr (.inl rfl)) k, fun r hr => (t2 r hr).keepS (.inl rfl) k, t3.keepS (.inr (.inr rfl)) k⟩
theorem FcT.keep {A B : World} {f : Fc} (h : FcT A f) (hb : Below A.heap.size A B) : FcT B f := h.keepS (KeepS.of_below hb)
theorem PcT.keep {A B : World} {f : PC} (h : PcT A f) (hb : Below A.heap.size A B) : PcT B f := h.keepS (S := faceS) (.inl rfl) (KeepS.of_below hb)
theorem Try.infoAt : (Try.prog.info? 84).map (fun i => (i.zero, i.size, i.bytes)) = some (some (.agg #[.string ⟨#[]⟩, .int .i64 0, .string ⟨#[]⟩, .int .i64 0]), 4, 48) := by kernel_rfl
theorem Try.infoRow : (Try.prog.info? 28).map (fun i => (i.zero, i.size, i.bytes)) = some (some (.slice none 0 0), 1, 24) := by kernel_rfl
theorem Try.infoPnt : (Try.prog.info? 27).map (fun i => (i.zero, i.size, i.bytes)) = some (some (.agg #[.int .i64 0, .int .i64 0]), 2, 16) := by kernel_rfl
end Go.Proofs.Ytjggoajfilnfjaa
/- text.letter, text.Name. -/
set_option linter.unusedVariables false
set_option linter.unusedSimpArgs false
set_option maxRecDepth 100000
namespace Go
open Go.RowKit
def letterF (r : Nat) : Bool := decide (97 ≤ r ∧ r ≤ 122 ∨ 65 ≤ r ∧ r ≤ 90 ∨ r = 95 ∨ 128 ≤ r)
def otherF (r : Nat) : Bool := decide (r = 45 ∨ r = 46 ∨ 48 ≤ r ∧ r ≤ 57)
def nameAt (x : Nat × Nat) : Bool := letterF x.1 || (decide (x.2 ≠ 0) && otherF x.1)
def nameF (s : ByteArray) : Bool := rightF s && decide (1 ≤ (runesF s).length ∧ (runesF s).length ≤ 32) && (runesF s).all nameAt
end Go
namespace Go.Proofs.Ytjggoajfilnfjaa
open Go.RowKit

set_option maxHeartbeats 800000 in
theorem letter_any (r : Nat) (hr : r ≤ 1114111) (w : World) :
    Calls Try.prog 64 #[.int .i32 (r : Int)] w fun e w' => e = .returned (.bool (letterF r)) ∧ w' = w := by
  have hL : Hid (letterF r = decide (97 ≤ r ∧ r ≤ 122 ∨ 65 ≤ r ∧ r ≤ 90 ∨ r = 95 ∨ 128 ≤ r)) := Lib.hid rfl; generalize letterF r = L at *
  go_enter Try.func64, Try.ntmps64
  go_wp2
  all_goals (go_ret; refine ⟨ret_bool ?_, rfl⟩; rw [hL.out]; clear hL; first | (simp_all; done) | (rw [Bool.eq_iff_iff]; simp only [Bool.or_eq_true, decide_eq_true_eq, beq_iff_eq]; omega) | (simp_all; omega))

set_option maxHeartbeats 1600000 in
theorem name_any (s : ByteArray) (hs : s.size ≤ maxLen) (w : World) :
    Calls Try.prog 50 #[.string s] w fun e w' => e = .returned (.bool (nameF s)) ∧ Below w.heap.size w w' := by
  have hs2 : s.size ≤ 9223372036854775807 := by unfold maxLen at hs; omega
  have hc := Lib.hid (count_any s hs); have hN : Hid (nameF s = (rightF s && decide (1 ≤ (runesF s).length ∧ (runesF s).length ≤ 32) && (runesF s).all nameAt)) := Lib.hid rfl; generalize nameF s = N at *; obtain ⟨C, hC⟩ : ∃ C : Int, (if rightF s then ((runesF s).length : Int) else 0) = C := ⟨_, rfl⟩; rw [hC] at hc; obtain ⟨T, hT⟩ : ∃ T : Bool, rightF s = T := ⟨_, rfl⟩; rw [hT] at hC hc hN; clear hT
  go_enter Try.func50, Try.ntmps50
  go_wp2_with fail
  refine (hc.out _).mono ?_; rintro e w1 ⟨rfl, hb1⟩; have hs1 := hb1.size
  cases T with
  | false =>
    have hn : N = false := by rw [hN.out]; rfl
    subst hn; clear hC hN hc; go_wp2; go_ret; exact ⟨rfl, hb1⟩
  | true =>
    rw [if_pos rfl] at hC
    by_cases h1 : C < 1
    · have hn : N = false := by rw [hN.out]; have : ¬ 1 ≤ (runesF s).length := by omega
                                simp [this]
      subst hn; clear hC hN hc; go_wp2; go_ret; exact ⟨rfl, hb1⟩
    · by_cases h2 : 32 < C
      · have hn : N = false := by rw [hN.out]; have : ¬ (runesF s).length ≤ 32 := by omega
                                  simp [this]
        subst hn; clear hC hN hc; go_wp2; go_ret; exact ⟨rfl, hb1⟩
      · have HN : Hid (N = (runesF s).all nameAt) := Lib.hid (by
          rw [hN.out]; have : 1 ≤ (runesF s).length ∧ (runesF s).length ≤ 32 := by omega
          simp [this])
        clear hC hN hc; go_wp2
        go_loopw [] (fun wr => ∃ (p f : Nat) (pre : List (Nat × Nat)), wr = w1.iter s p ∧ Hid (runesF s = pre ++ rl s f p) ∧ Hid (pre.all nameAt = true) ∧ s.size ≤ p + f ∧ p ≤ s.size) (fun wr => s.size - wr.iterPos w1.heap.size)
        case atStart => exact ⟨0, s.size, [], rfl, Lib.hid rfl, Lib.hid rfl, by omega, by omega⟩
        case round =>
          obtain ⟨p, f, pre, rfl, HR, HA, hpf, hps⟩ := hrel
          by_cases hp : p < s.size
          · obtain ⟨f, rfl⟩ : ∃ g, f = g + 1 := ⟨f - 1, by omega⟩; have hnx : ∀ ty, (Instr.next (.pointer (some ⟨w1.heap.size, 0, none⟩)) true ty).run Try.prog (w1.iter s p) = _ := fun ty => run_next_any w1 s p ty hp; have hwd := decode_wid hp; rw [rl_step s f p hp] at HR; obtain ⟨W, hW⟩ : ∃ W, p + (Utf8.decode s p).2 = W := ⟨_, rfl⟩; rw [hW] at hnx HR; obtain ⟨R, hR⟩ : ∃ R, (Utf8.decode s p).1 = R := ⟨_, rfl⟩; rw [hR] at hnx HR hwd; have hlet := letter_any R hwd.2.2.2; have hbW : Below w.heap.size w (w1.iter s W) := hb1.trans ((below_iter w1 s W).mono hs1); have hWb : p < W ∧ W ≤ s.size := by omega
            have HX : Hid (nameAt (R, p) = (letterF R || (decide (p ≠ 0) && otherF R))) := Lib.hid rfl; have HXF : Hid (nameAt (R, p) = false → N = false) := Lib.hid (fun h => by
              rw [HN.out, HR.out, List.all_append, List.all_cons, h]; simp)
            have HXT : Hid (nameAt (R, p) = true → (pre ++ [(R, p)]).all nameAt = true) := Lib.hid (fun h => by
              rw [List.all_append, HA.out]; simp [h])
            have HOT : Hid (otherF R = decide (R = 45 ∨ R = 46 ∨ 48 ≤ R ∧ R ≤ 57)) := Lib.hid rfl; generalize nameAt (R, p) = X at *; generalize letterF R = L at *; have HLT := Lib.hid hlet; have hRb : R ≤ 1114111 := hwd.2.2.2; clear hlet hwd hR hW
            go_wp2_with fail
            refine (HLT.out _).mono ?_; rintro e w2 ⟨rfl, rfl⟩
            cases L with
            | true =>
              have hX : X = true := by rw [HX.out]; rfl
              have HP := Lib.hid (HXT.out hX); clear HX HXF HXT HOT HLT hX; go_wp2; go_roundw
              case rel => exact ⟨W, f, pre ++ [(R, p)], rfl, Lib.hid (by rw [HR.out, List.append_assoc]; rfl), HP, by omega, by omega⟩
              case measure => simp; omega
            | false =>
              by_cases hp0 : p = 0
              · subst hp0; have hN0 : N = false := HXF.out (by rw [HX.out]; rfl); subst hN0; clear HX HXF HXT HOT HLT HN HR HA; go_wp2; go_ret; exact ⟨rfl, hbW⟩
              · have hpb : ((p : Int) == 0) = false := by rw [beq_eq_false_iff_ne]; omega
                by_cases r1 : (R : Int) = 45
                · have hR1 : R = 45 := by omega
                  have hX : X = true := by rw [HX.out, HOT.out]; simp; omega
                  have HP := Lib.hid (HXT.out hX); clear HX HXF HXT HOT HLT hX; go_wp2
                  all_goals (refine ⟨⟨W, f, pre ++ [(R, p)], rfl, Lib.hid (by rw [HR.out, List.append_assoc]; rfl), HP, by omega, by omega⟩, ?_⟩; simp; omega)
                · by_cases r2 : (R : Int) = 46
                  · have hR1 : R = 46 := by omega
                    have hX : X = true := by rw [HX.out, HOT.out]; simp; omega
                    have HP := Lib.hid (HXT.out hX); clear HX HXF HXT HOT HLT hX; go_wp2
                    all_goals (refine ⟨⟨W, f, pre ++ [(R, p)], rfl, Lib.hid (by rw [HR.out, List.append_assoc]; rfl), HP, by omega, by omega⟩, ?_⟩; simp; omega)
                  · have n1 : ((R : Int) != 45) = true := bne_iff_ne.2 r1; have n2 : ((R : Int) != 46) = true := bne_iff_ne.2 r2
                    by_cases r3 : (R : Int) < 48
                    · have hN0 : N = false := HXF.out (by rw [HX.out, HOT.out]; simp; omega); subst hN0; clear HX HXF HXT HOT HLT HN HR HA; go_wp2; go_ret; exact ⟨rfl, hbW⟩
                    · by_cases r4 : 57 < (R : Int)
                      · have hN0 : N = false := HXF.out (by rw [HX.out, HOT.out]; simp; omega); subst hN0; clear HX HXF HXT HOT HLT HN HR HA; go_wp2; go_ret; exact ⟨rfl, hbW⟩
                      · have hX : X = true := by rw [HX.out, HOT.out]; simp; omega
                        have HP := Lib.hid (HXT.out hX); clear HX HXF HXT HOT HLT hX; go_wp2; go_roundw
                        case rel => exact ⟨W, f, pre ++ [(R, p)], rfl, Lib.hid (by rw [HR.out, List.append_assoc]; rfl), HP, by omega, by omega⟩
                        case measure => simp; omega
          · have hnx : ∀ ty, (Instr.next (.pointer (some ⟨w1.heap.size, 0, none⟩)) true ty).run Try.prog (w1.iter s p) = _ := fun ty => Lib.run_next_end_at (w1.iter s p) w1.heap.size s p ty (World.iter_heap w1 s p) hp; have hbW : Below w.heap.size w (w1.iter s p) := hb1.trans ((below_iter w1 s p).mono hs1); rw [rl_end s f p hp, List.append_nil] at HR; have hF : N = true := by rw [HN.out, HR.out]; exact HA.out
            subst hF; clear HR HA HN; go_wp2; go_ret; exact ⟨rfl, hbW⟩
end Go.Proofs.Ytjggoajfilnfjaa
/- Plain: what is wrong with attributes. -/
set_option linter.unusedVariables false
set_option linter.unusedSimpArgs false
namespace Go
open Go.RowKit
def tcGo (met : List (List UInt8)) : List At → Int
  | [] => 0
  | a :: l => if nameF a.key = false then 13 else if vcF a.kind a.text a.n ≠ 0 then vcF a.kind a.text a.n else if a.key.data.toList ∈ met then 8 else tcGo (a.key.data.toList :: met) l
def tcF (l : List At) : Int := if 8 < l.length then 6 else tcGo [] l
end Go
/- Plain: a layer's table, and what tags tell. -/
set_option linter.unusedVariables false
set_option linter.unusedSimpArgs false
namespace Go
open Go.RowKit
def plc {α : Type} [DecidableEq α] (l : List α) (x : α) : List α × Nat := if x ∈ l then (l, l.idxOf x) else (l ++ [x], l.length)
section
variable {α : Type} [DecidableEq α]
theorem plc_at (l : List α) (x : α) : (plc l x).1[(plc l x).2]? = some x ∧ (plc l x).2 < (plc l x).1.length := by
  unfold plc
  split
  · rename_i h; have h2 := List.idxOf_lt_length_of_mem h; exact ⟨by rw [List.getElem?_eq_getElem h2]; simp, h2⟩
  · simp
theorem plc_ext (l : List α) (x : α) : ∃ t, (plc l x).1 = l ++ t := by
  unfold plc
  split
  · exact ⟨[], by simp⟩
  · exact ⟨[x], rfl⟩
theorem plc_len (l : List α) (x : α) : (plc l x).1.length ≤ l.length + 1 := by
  unfold plc
  split <;> simp
theorem plc_nodup (l : List α) (x : α) (h : l.Nodup) : (plc l x).1.Nodup := by
  unfold plc
  split
  · exact h
  · rename_i hx; rw [List.nodup_append]; exact ⟨h, by simp, by intro a ha b hb; simp at hb; subst hb; rintro rfl; exact hx ha⟩
theorem plc_mem (l : List α) (x : α) {P : α → Prop} (h : ∀ y ∈ l, P y) (hx : P x) : ∀ y ∈ (plc l x).1, P y := by
  unfold plc
  split
  · exact h
  · intro y hy
    rcases List.mem_append.1 hy with hy | hy
    · exact h y hy
    · rw [List.mem_singleton.1 hy]; exact hx
end
def At.vv (a : At) : VV := (a.kind, a.text, a.n)
abbrev TB := List ByteArray × List VV
def addA (t : TB) (a : At) : TB := ((plc t.1 a.key).1, (plc t.2 a.vv).1)
def tagA (t : TB) (a : At) : List Int := [((plc t.1 a.key).2 : Int), ((plc t.2 a.vv).2 : Int)]
def addL (t : TB) : List At → TB
  | [] => t
  | a :: l => addL (addA t a) l
def tagL (t : TB) : List At → List Int
  | [] => []
  | a :: l => tagA t a ++ tagL (addA t a) l
theorem addL_snoc (l : List At) : ∀ (t : TB) (a : At), addL t (l ++ [a]) = addA (addL t l) a := by
  induction l with
  | nil => intro t a; rfl
  | cons b l ih => intro t a; exact ih _ a
theorem tagL_snoc (l : List At) : ∀ (t : TB) (a : At), tagL t (l ++ [a]) = tagL t l ++ tagA (addL t l) a := by
  induction l with
  | nil => intro t a; simp [tagL, addL]
  | cons b l ih => intro t a; simp only [List.cons_append, tagL, addL]; rw [ih]; simp
theorem tagL_len (l : List At) : ∀ t : TB, (tagL t l).length = 2 * l.length := by
  induction l with
  | nil => intro t; rfl
  | cons b l ih => intro t; simp only [tagL, List.length_append, ih, tagA, List.length_cons, List.length_nil]; omega
def TExt (t u : TB) : Prop := (∃ r, u.1 = t.1 ++ r) ∧ ∃ r, u.2 = t.2 ++ r
theorem TExt.refl (t : TB) : TExt t t := ⟨⟨[], by simp⟩, ⟨[], by simp⟩⟩
theorem TExt.trans {t u v : TB} (h : TExt t u) (k : TExt u v) : TExt t v := by
  obtain ⟨⟨a, ha⟩, ⟨b, hb⟩⟩ := h; obtain ⟨⟨c, hc⟩, ⟨d, hd⟩⟩ := k; exact ⟨⟨a ++ c, by rw [hc, ha, List.append_assoc]⟩, ⟨b ++ d, by rw [hd, hb, List.append_assoc]⟩⟩
theorem TExt.addA (t : TB) (a : At) : TExt t (addA t a) := ⟨plc_ext _ _, plc_ext _ _⟩
theorem TExt.addL (l : List At) : ∀ t : TB, TExt t (addL t l) := by
  induction l with
  | nil => intro t; exact TExt.refl t
  | cons a l ih => intro t; exact (TExt.addA t a).trans (ih _)
theorem TExt.get1 {t u : TB} (h : TExt t u) {i : Nat} {x : ByteArray} (hi : t.1[i]? = some x) : u.1[i]? = some x := by
  obtain ⟨⟨r, hr⟩, -⟩ := h; rw [hr, List.getElem?_append_left (List.getElem?_eq_some_iff.1 hi).1, hi]
theorem TExt.get2 {t u : TB} (h : TExt t u) {i : Nat} {x : VV} (hi : t.2[i]? = some x) : u.2[i]? = some x := by
  obtain ⟨-, ⟨r, hr⟩⟩ := h; rw [hr, List.getElem?_append_left (List.getElem?_eq_some_iff.1 hi).1, hi]
def TagsOf (u : TB) (tags : List Int) (l : List At) : Prop :=
  tags.length = 2 * l.length ∧ ∀ i, ∀ h : i < l.length, ∃ k v : Nat, tags[2 * i]? = some (k : Int) ∧ tags[2 * i + 1]? = some (v : Int) ∧ u.1[k]? = some l[i].key ∧ u.2[v]? = some l[i].vv
theorem tagsOf_addL (l : List At) : ∀ (t u : TB), TExt (addL t l) u → TagsOf u (tagL t l) l := by
  induction l with
  | nil => intro t u h; exact ⟨rfl, fun i hi => by simp at hi⟩
  | cons a l ih =>
    intro t u h; have h2 := ih (addA t a) u h; refine ⟨tagL_len _ _, fun i hi => ?_⟩
    cases i with
    | zero =>
      have hx := (TExt.addL l (addA t a)).trans h; refine ⟨(plc t.1 a.key).2, (plc t.2 a.vv).2, rfl, rfl, hx.get1 (plc_at _ _).1, hx.get2 (plc_at _ _).1⟩
    | succ i =>
      obtain ⟨k, v, h3, h4, h5, h6⟩ := h2.2 i (by simpa using hi); refine ⟨k, v, ?_, ?_, h5, h6⟩
      · have : 2 * (i + 1) = 2 * i + 2 := by omega
        rw [this]; simp only [tagL, tagA, List.cons_append, List.nil_append, List.getElem?_cons_succ]; exact h3
      · have : 2 * (i + 1) + 1 = (2 * i + 1) + 2 := by omega
        rw [this]; simp only [tagL, tagA, List.cons_append, List.nil_append, List.getElem?_cons_succ]; exact h4
def TbOk (t : TB) : Prop := t.1.Nodup ∧ (∀ k ∈ t.1, nameF k = true) ∧ t.2.Nodup ∧ ∀ v ∈ t.2, vE v = 0
theorem TbOk.nil : TbOk ([], []) := ⟨by simp, by simp, by simp, by simp⟩
theorem TbOk.addA {t : TB} (h : TbOk t) {a : At} (h1 : nameF a.key = true) (h2 : vE a.vv = 0) : TbOk (addA t a) :=
  ⟨plc_nodup _ _ h.1, plc_mem _ _ h.2.1 h1, plc_nodup _ _ h.2.2.1, plc_mem _ _ h.2.2.2 h2⟩
theorem TbOk.addL (l : List At) : ∀ {t : TB}, TbOk t → (∀ a ∈ l, nameF a.key = true ∧ vE a.vv = 0) → TbOk (addL t l) := by
  induction l with
  | nil => intro t h _; exact h
  | cons a l ih => intro t h hl; exact ih (h.addA (hl a (by simp)).1 (hl a (by simp)).2) (fun b hb => hl b (by simp [hb]))
theorem addL_len (l : List At) : ∀ t : TB, (addL t l).1.length ≤ t.1.length + l.length ∧ (addL t l).2.length ≤ t.2.length + l.length := by
  induction l with
  | nil => intro t; exact ⟨by simp [addL], by simp [addL]⟩
  | cons a l ih =>
    intro t; have h := ih (addA t a); have h1 := plc_len t.1 a.key; have h2 := plc_len t.2 a.vv; simp only [addL, List.length_cons, addA] at h ⊢; omega
theorem tcGo_zero : ∀ (l : List At) (met : List (List UInt8)), tcGo met l = 0 → (∀ a ∈ l, nameF a.key = true ∧ vE a.vv = 0 ∧ a.key.data.toList ∉ met) ∧ (l.map (·.key.data.toList)).Nodup
  | [], _, _ => ⟨by simp, by simp⟩
  | a :: l, met, h => by
    unfold tcGo at h
    split at h
    · cases h
    · rename_i h1
      split at h
      · rename_i h2; exact absurd h h2
      · rename_i h2
        split at h
        · cases h
        · rename_i h3; obtain ⟨h4, h5⟩ := tcGo_zero l _ h; refine ⟨fun b hb => ?_, ?_⟩
          · rcases List.mem_cons.1 hb with rfl | hb
            · exact ⟨by simpa using h1, by simpa [vE, At.vv] using h2, h3⟩
            · obtain ⟨g1, g2, g3⟩ := h4 b hb; exact ⟨g1, g2, fun hm => g3 (List.mem_cons_of_mem _ hm)⟩
          · rw [List.map_cons, List.nodup_cons]; refine ⟨fun hm => ?_, h5⟩; obtain ⟨b, hb, he⟩ := List.mem_map.1 hm; exact (h4 b hb).2.2 (by rw [he]; simp)
theorem tcF_zero (l : List At) (h : tcF l = 0) : l.length ≤ 8 ∧ (∀ a ∈ l, nameF a.key = true ∧ vE a.vv = 0) ∧ (l.map (·.key.data.toList)).Nodup := by
  unfold tcF at h
  split at h
  · cases h
  · obtain ⟨h1, h2⟩ := tcGo_zero l [] h; exact ⟨by omega, fun a ha => ⟨(h1 a ha).1, (h1 a ha).2.1⟩, h2⟩
end Go

/-
  seg.thin.
-/
import Derived.Test.YtmmhkageehlknaaScmp
import Derived.Test.YtmmhkageehlknaaPts
import Derived.Maps.AppendAt
import Derived.Scope
set_option linter.unusedVariables false
set_option linter.unusedSimpArgs false
namespace Go
open Go.RowKit
theorem grown_setg (w : World) (B i : Nat) (v : Value) : w.grownBy (w.setCell ⟨B, i, none⟩ v) (some B) :=
  ⟨rfl, rfl, rfl, by rw [size_setCell]; exact Nat.le_refl _, fun k _ h => Below.heap_setCell _ _ _ _ (by intro e; exact h (by rw [e]))⟩
theorem Rd.cu {w : World} {a : Option Addr} {l : List Cu} (h : Rd w a (cus l)) (i : Nat) (hi : i < l.length) :
    ∃ b off, a = some ⟨b, off, none⟩ ∧ b < w.heap.size ∧ w.cell? ⟨b, off + i * 4, none⟩ = some (.int .i64 l[i].x) ∧ w.cell? ⟨b, off + i * 4 + 1, none⟩ = some (.int .i64 l[i].y) ∧ w.cell? ⟨b, off + i * 4 + 2, none⟩ = some (.int .i64 l[i].p) ∧ w.cell? ⟨b, off + i * 4 + 3, none⟩ = some (.int .i64 l[i].w) := by
  obtain ⟨b, off, rfl, h0, hb⟩ := h.at (i := i * 4 + 0) (v := .int .i64 l[i].x) (by rw [cus_get l i 0 hi (by omega)]; rfl)
  obtain ⟨_, _, e1, h1, -⟩ := h.at (i := i * 4 + 1) (v := .int .i64 l[i].y) (by rw [cus_get l i 1 hi (by omega)]; rfl)
  obtain ⟨_, _, e2, h2, -⟩ := h.at (i := i * 4 + 2) (v := .int .i64 l[i].p) (by rw [cus_get l i 2 hi (by omega)]; rfl)
  obtain ⟨_, _, e3, h3, -⟩ := h.at (i := i * 4 + 3) (v := .int .i64 l[i].w) (by rw [cus_get l i 3 hi (by omega)]; rfl)
  cases e1; cases e2; cases e3
  exact ⟨b, off, rfl, hb, h0, by rw [Nat.add_assoc]; exact h1, by rw [Nat.add_assoc]; exact h2, by rw [Nat.add_assoc]; exact h3⟩
theorem own_take {W : World} {base g c n s m : Nat} {e : TypeId} {xs : List Value} (h : W.ownsRow base e s (.slice (some ⟨g, 0, none⟩) n c) n xs) (hm : m ≤ n) :
    W.ownsRow base e s (.slice (some ⟨g, 0, none⟩) m c) m (xs.take (m * s)) := by
  obtain ⟨cur, hg, h3, h4, h5, h6, h1, hb⟩ := ownsRow_cur h
  have hms : m * s ≤ n * s := Nat.mul_le_mul_right _ hm
  refine ⟨by rw [List.length_take]; omega, .inr ⟨g, c, cur, rfl, hb, hg, by omega, h4, h5, ?_⟩⟩
  rw [← h6, List.take_take, Nat.min_eq_left hms]
theorem noGoto_ret1 {Q : Exit → Act → World → Prop} {a : Act} {w : World} : Exit.noGoto Q .ret a w = Q .ret a w := rfl
def Cu.at (c : Cu) : Pt := ⟨c.x, c.y⟩
def thStep (s : Pt × List Pt) (c : Cu) : Pt × List Pt := if c.at = s.1 then s else (c.at, s.2 ++ [c.at])
def thAll (a : Pt) (l : List Cu) : Pt × List Pt := l.foldl thStep (a, [])
def thinF (a b : Pt) (l : List Cu) : List Pt := let s := thAll a l; if s.2 ≠ [] ∧ s.1 = b then s.2.dropLast else s.2
theorem thAll_take (a : Pt) (l : List Cu) (k : Nat) (hk : k < l.length) : thAll a (l.take (k + 1)) = thStep (thAll a (l.take k)) l[k] := by
  unfold thAll; rw [List.take_succ_eq_append_getElem hk, List.foldl_append]; rfl
end Go
namespace Go.Proofs.Ytmmhkageehlknaa
open Go.RowKit
theorem Try.infoTP : (Try.prog.info? 23).map (fun i => (i.zero, i.size, i.bytes)) = some (some (.agg #[.int .i64 0, .int .i64 0]), 2, 16) := by kernel_rfl

set_option maxHeartbeats 1600000 in
theorem thin_any (a b : Pt) (ra : Option Addr) (rc : Nat) (l : List Cu) (hl : l.length ≤ 1000000) (w : World) (hr : Rd w ra (cus l)) :
    Calls Try.prog 52 #[a.val, b.val, .slice ra l.length rc] w fun e w' => ∃ v, e = .returned v ∧ w'.ownsRow w.heap.size 23 2 v (thinF a b l).length (pts (thinF a b l)) ∧ Below w.heap.size w w' := by
  have hS0 : thAll a (l.take 0) = (a, []) := rfl
  have HF : Hid (thinF a b l = (if (thAll a l).2 ≠ [] ∧ (thAll a l).1 = b then (thAll a l).2.dropLast else (thAll a l).2)) := Lib.hid rfl
  generalize thinF a b l = R at *
  have HTK := Lib.hid (fun k hk => thAll_take a l k hk)
  obtain ⟨S, hS⟩ : ∃ S : Nat → Pt × List Pt, S = fun k => thAll a (l.take k) := ⟨_, rfl⟩
  have HS0 : Hid (S 0 = (a, [])) := Lib.hid (by rw [hS]; rfl)
  have HS1 : Hid (∀ k (hk : k < l.length), S (k + 1) = thStep (S k) l[k]) := Lib.hid (fun k hk => by rw [hS]; exact HTK.out k hk)
  have HF2 : Hid (R = (if (S l.length).2 ≠ [] ∧ (S l.length).1 = b then (S l.length).2.dropLast else (S l.length).2)) := Lib.hid (by rw [hS, HF.out]; simp only [List.take_length])
  clear HTK HF hS0 hS
  obtain ⟨ax, ay⟩ := a
  obtain ⟨bx, by'⟩ := b
  dsimp only [Pt.val]
  go_enter Try.func52, Try.ntmps52
  go_wp2
  refine wp_scope_straight ?_
  go_wp2
  refine wp_label ?_
  go_wp2
  go_loopw [7, 14] (fun o i wr => ∃ (k : Nat) (L : Pt) (out : List Pt), k ≤ l.length ∧ i = .int .i64 k ∧ Hid (S k = (L, out)) ∧ out.length ≤ k ∧ wr.ownsRow (w.heap.size + 3) 23 2 o out.length (pts out) ∧ Blk wr (w.heap.size + 1 + 1) [.int .i64 L.x, .int .i64 L.y] ∧ Blk wr (w.heap.size + 1) [.int .i64 bx, .int .i64 by'] ∧ Below w.heap.size w wr) (fun _ i _ => l.length - (intOf i).toNat)
  case atStart => exact ⟨0, ⟨ax, ay⟩, [], Nat.zero_le _, rfl, HS0, Nat.le_refl _, World.ownsRow_nil _ _ _ _, Blk.lit _ _ [.int .i64 ax, .int .i64 ay] _ (by simp), (Blk.lit _ _ [.int .i64 bx, .int .i64 by'] _ (by simp)).alloc _, (((Below.refl _ _).alloc (Nat.le_refl _) _).alloc (by simp) _).alloc (by simp; omega) _⟩
  case round =>
    obtain ⟨k, L, out, hk, rfl, HS, hol, hown, hlast, hbb, hbl⟩ := hrel
    by_cases hlt : k < l.length
    · obtain ⟨b1, off1, rfl, -, c0, c1, c2, c3⟩ := (hr.keep hbl).cu k hlt
      have HST : Hid (S (k + 1) = thStep (L, out) l[k]) := Lib.hid (by rw [HS1.out k hlt, HS.out])
      generalize l[k] = c at *
      obtain ⟨x, y, p, q⟩ := c
      obtain ⟨lx, ly⟩ := L
      dsimp only at c0 c1 c2 c3 hlast
      have l0 := hlast.cell 0 rfl
      have l1 := hlast.cell 1 rfl
      have f0 := hlast.free 0
      have f1 := hlast.free 1
      have hsl := hlast.lt
      have hs := hbl.size
      by_cases he : (⟨x, y⟩ : Pt) = ⟨lx, ly⟩
      · have hex : x = lx := congrArg Pt.x he
        have hey : y = ly := congrArg Pt.y he
        clear he
        subst hex hey
        go_wp2
        refine ⟨⟨k + 1, ⟨x, y⟩, out, by omega, by first | rfl | go_num, Lib.hid (by rw [HST.out, thStep]; exact if_pos rfl), by omega, hown.below (Below.new _ _), hlast.alloc _, hbb.alloc _, hbl.alloc hs _⟩, by simp [intOf]; omega⟩
      · have HE : Hid (¬ (⟨x, y⟩ : Pt) = ⟨lx, ly⟩) := Lib.hid he
        by_cases hex : x = lx
        · have hey : ¬ y = ly := fun h => he (by rw [hex, h])
          subst hex
          clear he
          have hob : ∀ g, u7.ownBlock = some g → w.heap.size + 3 ≤ g := fun g e => (hown.lt g e).1
          have hgs1 := grown_setg wr (w.heap.size + 1 + 1) 0 (.int .i64 x)
          have hgs2 := grown_setg (wr.setCell ⟨w.heap.size + 1 + 1, 0, none⟩ (.int .i64 x)) (w.heap.size + 1 + 1) 1 (.int .i64 y)
          have hownS := (hown.kept hgs1 (.inr (by intro e; have := hob _ e; omega))).kept hgs2 (.inr (by intro e; have := hob _ e; omega))
          have hblS := (hbl.grown hgs1 hs (fun k hk => by cases hk; omega)).grown hgs2 (by rw [size_setCell]; exact hs) (fun k hk => by cases hk; omega)
          have hlS : Blk _ _ [.int .i64 x, .int .i64 y] := (hlast.set 0 (.int .i64 x)).set 1 (.int .i64 y)
          have hbS := (hbb.set_at (b' := w.heap.size + 1 + 1) (o := 0) (by omega) (.int .i64 x)).set_at (b' := w.heap.size + 1 + 1) (o := 1) (by omega) (.int .i64 y)
          have hszS : ((wr.setCell ⟨w.heap.size + 1 + 1, 0, none⟩ (.int .i64 x)).setCell ⟨w.heap.size + 1 + 1, 1, none⟩ (.int .i64 y)).heap.size = wr.heap.size := by rw [size_setCell, size_setCell]
          have HSZ := Lib.hid hszS
          clear hszS hgs1 hgs2
          obtain ⟨ti, hti, hz0, hz1, hz2⟩ := info_parts Try.infoTP
          go_wp2_with (at_builtin; go_must (refine wpList_append_own_at ((((wr.setCell ⟨w.heap.size + 1 + 1, 0, none⟩ (.int .i64 x)).setCell ⟨w.heap.size + 1 + 1, 1, none⟩ (.int .i64 y)).alloc (.cells #[.int .i64 x, .int .i64 y, .int .i64 p, .int .i64 q] 71)).alloc (.cells #[.int .i64 x, .int .i64 y] 23)) rfl (.tmp 24) (.tmp 26) 40 rfl (w.heap.size + 3) 23 ti (.agg #[.int .i64 0, .int .i64 0]) 2 16 Try.underlying40 hti hz0 hz1 hz2 rfl (by decide) u7 out.length (pts out) rfl ((hownS.below (Below.new _ _)).below (Below.new _ _)) ⟨wr.heap.size + 1, 0, none⟩ 1 1 [.int .i64 x, .int .i64 y] rfl rfl (Rd.lit _ (wr.heap.size + 1) [.int .i64 x, .int .i64 y] 23 (by simp [HSZ.out])).add (by simp [Value.oneCell']) (by unfold maxLen; omega) (by omega) (by simp [HSZ.out]; omega) ?_); intro v2 w2 hown2 hg3 _ _)
          go_roundw
          case rel =>
            refine ⟨k + 1, ⟨x, y⟩, out ++ [⟨x, y⟩], by omega, by go_num, Lib.hid (by rw [HST.out, thStep]; exact if_neg HE.out), by simp; omega, ?_, ((hlS.alloc _).alloc _).grown hg3 (fun e => by have := hob _ e.symm; omega), ((hbS.alloc _).alloc _).grown hg3 (fun e => by have := hob _ e.symm; omega), ((hblS.alloc (by rw [HSZ.out]; exact hs) _).alloc (by simp [HSZ.out]; omega) _).grown hg3 (by simp [HSZ.out]; omega) (fun k e => by have := hob _ e; omega)⟩
            rw [pts_snoc, List.length_append]
            exact hown2
          case measure => simp [intOf]; omega
        · clear he
          have hob : ∀ g, u7.ownBlock = some g → w.heap.size + 3 ≤ g := fun g e => (hown.lt g e).1
          have hgs1 := grown_setg wr (w.heap.size + 1 + 1) 0 (.int .i64 x)
          have hgs2 := grown_setg (wr.setCell ⟨w.heap.size + 1 + 1, 0, none⟩ (.int .i64 x)) (w.heap.size + 1 + 1) 1 (.int .i64 y)
          have hownS := (hown.kept hgs1 (.inr (by intro e; have := hob _ e; omega))).kept hgs2 (.inr (by intro e; have := hob _ e; omega))
          have hblS := (hbl.grown hgs1 hs (fun k hk => by cases hk; omega)).grown hgs2 (by rw [size_setCell]; exact hs) (fun k hk => by cases hk; omega)
          have hlS : Blk _ _ [.int .i64 x, .int .i64 y] := (hlast.set 0 (.int .i64 x)).set 1 (.int .i64 y)
          have hbS := (hbb.set_at (b' := w.heap.size + 1 + 1) (o := 0) (by omega) (.int .i64 x)).set_at (b' := w.heap.size + 1 + 1) (o := 1) (by omega) (.int .i64 y)
          have hszS : ((wr.setCell ⟨w.heap.size + 1 + 1, 0, none⟩ (.int .i64 x)).setCell ⟨w.heap.size + 1 + 1, 1, none⟩ (.int .i64 y)).heap.size = wr.heap.size := by rw [size_setCell, size_setCell]
          have HSZ := Lib.hid hszS
          clear hszS hgs1 hgs2
          obtain ⟨ti, hti, hz0, hz1, hz2⟩ := info_parts Try.infoTP
          go_wp2_with (at_builtin; go_must (refine wpList_append_own_at ((((wr.setCell ⟨w.heap.size + 1 + 1, 0, none⟩ (.int .i64 x)).setCell ⟨w.heap.size + 1 + 1, 1, none⟩ (.int .i64 y)).alloc (.cells #[.int .i64 x, .int .i64 y, .int .i64 p, .int .i64 q] 71)).alloc (.cells #[.int .i64 x, .int .i64 y] 23)) rfl (.tmp 24) (.tmp 26) 40 rfl (w.heap.size + 3) 23 ti (.agg #[.int .i64 0, .int .i64 0]) 2 16 Try.underlying40 hti hz0 hz1 hz2 rfl (by decide) u7 out.length (pts out) rfl ((hownS.below (Below.new _ _)).below (Below.new _ _)) ⟨wr.heap.size + 1, 0, none⟩ 1 1 [.int .i64 x, .int .i64 y] rfl rfl (Rd.lit _ (wr.heap.size + 1) [.int .i64 x, .int .i64 y] 23 (by simp [HSZ.out])).add (by simp [Value.oneCell']) (by unfold maxLen; omega) (by omega) (by simp [HSZ.out]; omega) ?_); intro v2 w2 hown2 hg3 _ _)
          go_roundw
          case rel =>
            refine ⟨k + 1, ⟨x, y⟩, out ++ [⟨x, y⟩], by omega, by go_num, Lib.hid (by rw [HST.out, thStep]; exact if_neg HE.out), by simp; omega, ?_, ((hlS.alloc _).alloc _).grown hg3 (fun e => by have := hob _ e.symm; omega), ((hbS.alloc _).alloc _).grown hg3 (fun e => by have := hob _ e.symm; omega), ((hblS.alloc (by rw [HSZ.out]; exact hs) _).alloc (by simp [HSZ.out]; omega) _).grown hg3 (by simp [HSZ.out]; omega) (fun k e => by have := hob _ e; omega)⟩
            rw [pts_snoc, List.length_append]
            exact hown2
          case measure => simp [intOf]; omega
    · obtain rfl : k = l.length := by omega
      have HR : Hid (R = if out ≠ [] ∧ L = ⟨bx, by'⟩ then out.dropLast else out) := Lib.hid (by rw [HF2.out, HS.out])
      obtain ⟨lx, ly⟩ := L
      dsimp only at hlast
      have l0 := hlast.cell 0 rfl
      have l1 := hlast.cell 1 rfl
      have b0 := hbb.cell 0 rfl
      have b1 := hbb.cell 1 rfl
      have hsl := hlast.lt
      have hsb := hbb.lt
      have hdown := hown.mono (by omega : w.heap.size ≤ w.heap.size + 3)
      clear HS HS1 HF2 HS0 hlast hbb hown
      rcases List.eq_nil_or_concat out with rfl | ⟨o2, pp, rfl⟩
      · have hR2 : R = [] := by rw [HR.out]; simp
        subst hR2
        have HD := Lib.hid hdown
        clear hdown HR
        obtain ⟨oa, oc, rfl, -⟩ := HD.out.form
        go_wp2
        rw [noGoto_ret1]
        go_ret
        exact ⟨_, rfl, HD.out, hbl⟩
      · have hl2 : (o2.concat pp).length = o2.length + 1 := by simp
        have HR2 : Hid (R = if (⟨lx, ly⟩ : Pt) = ⟨bx, by'⟩ then o2 else o2 ++ [pp]) := Lib.hid (by rw [HR.out]; simp)
        have HP : Hid ((pts (o2.concat pp)).take (o2.length * 2) = pts o2) := Lib.hid (by rw [pts_take]; simp)
        have HC : Hid (o2.concat pp = o2 ++ [pp]) := Lib.hid (by simp)
        obtain ⟨oa, oc, rfl, hoc, hom, hon, -, hob⟩ := hdown.form
        rw [hl2] at hoc hol
        have hoa : ∃ g, oa = some ⟨g, 0, none⟩ := by
          obtain ⟨-, h | ⟨g, cap, cur, h, -⟩⟩ := hdown
          · omega
          · cases h; exact ⟨g, rfl⟩
        obtain ⟨g, rfl⟩ := hoa
        rw [hl2] at hdown
        have HDT := Lib.hid (own_take hdown (m := o2.length) (by omega))
        have HD := Lib.hid hdown
        rw [hl2]
        have HLO := Lib.hid hl2
        clear hdown HR hl2 hob hon
        generalize o2.concat pp = oo at *
        have hpos : (0 : Int) < (o2.length : Int) + 1 := by omega
        have hm1 : IntKind.i64.wrap (((o2.length + 1 : Nat) : Int) - 1) = (o2.length : Int) := by
          have : ((o2.length + 1 : Nat) : Int) - 1 = (o2.length : Int) := by omega
          rw [this]; exact IntWalk.i64_in _ (by unfold maxLen at hom; omega)
        by_cases hx : lx = bx
        · by_cases hy : ly = by'
          · have hRe : R = o2 := by rw [HR2.out, hx, hy]; simp
            subst hx hy
            subst hRe
            go_wp2
            try rw [noGoto_ret1]
            go_ret
            refine ⟨_, rfl, ?_, hbl⟩
            rw [← HP.out]
            exact HDT.out
          · have hRe : R = o2 ++ [pp] := by rw [HR2.out, if_neg (by simp [hy])]
            subst hx hRe
            go_wp2
            rw [noGoto_ret1]
            go_ret
            refine ⟨_, rfl, ?_, hbl⟩
            rw [← HC.out]
            rw [HLO.out]; exact HD.out
        · have hRe : R = o2 ++ [pp] := by rw [HR2.out, if_neg (by simp [hx])]
          subst hRe
          go_wp2
          rw [noGoto_ret1]
          go_ret
          refine ⟨_, rfl, ?_, hbl⟩
          rw [← HC.out]
          rw [HLO.out]; exact HD.out
end Go.Proofs.Ytmmhkageehlknaa

/-
  graticulelaw23.Ofs; plain: how great a geometry's numbers are.
-/
import Derived.Test.YtephdnahmgfmeaaGread
import Derived.Test.YtephdnahmgfmeaaRsame
set_option linter.unusedVariables false
set_option linter.unusedSimpArgs false
set_option maxRecDepth 100000
namespace Go
open Go.RowKit Go.Vint

theorem InP.rows {e : TypeId} {H : Nat} {W : World} (G : List (List Pt)) : ∀ {vals : List Value}, InP e H W vals G → ∃ ys : List PC, vals = ys.map PC.val ∧ ys.map (·.l) = G ∧ ∀ y ∈ ys, y.Ok W := by
  induction G with
  | nil =>
    intro vals h
    have : vals = [] := List.length_eq_zero_iff.1 h.1
    subst this
    exact ⟨[], rfl, rfl, by simp⟩
  | cons g G ih =>
    intro vals h
    obtain ⟨v, vs, rfl⟩ : ∃ v vs, vals = v :: vs := by
      cases vals with
      | nil => have := h.1; simp at this
      | cons v vs => exact ⟨v, vs, rfl⟩
    obtain ⟨ys, h1, h2, h3⟩ := ih (vals := vs) ⟨by have := h.1; simpa using this, fun j u k hu hk => h.2 (j + 1) u k (by simpa using hu) (by simpa using hk)⟩
    obtain ⟨a, c, rfl, hc, hm, hn, hr, -⟩ := (h.2 0 v g rfl rfl).form
    refine ⟨⟨g, a, c⟩ :: ys, by simp [h1, PC.val], by simp [h2], ?_⟩
    intro y hy
    rcases List.mem_cons.1 hy with rfl | hy
    · exact ⟨hr, hc, hm, hn⟩
    · exact h3 y hy

theorem numsF_len (kind : Int) (G : List (List Pt)) : ∀ (a : Pt), (∀ g ∈ G, 1 ≤ g.length ∧ g.length ≤ 1000) → (numsF kind a G).length ≤ 2003 * G.length := by
  induction G with
  | nil => intro a _; simp [numsF]
  | cons g G ih =>
    intro a h
    have h1 := ih g[g.length - 1]! (fun x hx => h x (by simp [hx]))
    have h2 := partN_len kind a g (h g (by simp)).1
    have h3 := (h g (by simp)).2
    rw [numsF, List.length_append, List.length_cons]
    omega

theorem byN_bd {a p : Pt} (ha : Close a) (hp : Close p) : ∀ x ∈ byN a p, 0 ≤ x ∧ x ≤ 18446744073709551615 := by
  have h1 := zig_bd (p.x - a.x) (by have := ha.1; have := hp.1; omega) (by have := ha.1; have := hp.1; omega)
  have h2 := zig_bd (p.y - a.y) (by have := ha.2; have := hp.2; omega) (by have := ha.2; have := hp.2; omega)
  intro x hx
  simp only [byN, List.mem_cons, List.not_mem_nil, or_false] at hx
  rcases hx with rfl | rfl
  · exact h1
  · exact h2

theorem pn_bd (l : List Pt) : ∀ {a : Pt}, Close a → (∀ p ∈ l, Close p) → ∀ x ∈ pn a l, 0 ≤ x ∧ x ≤ 18446744073709551615 := by
  induction l with
  | nil => intro a _ _ x hx; simp [pn] at hx
  | cons p l ih =>
    intro a ha h x hx
    rw [pn] at hx
    rcases List.mem_append.1 hx with hx | hx
    · exact byN_bd ha (h p (by simp)) x hx
    · exact ih (h p (by simp)) (fun q hq => h q (by simp [hq])) x hx

theorem numsF_bd (kind : Int) (G : List (List Pt)) : ∀ {a : Pt}, Close a → (∀ g ∈ G, (2 ≤ g.length ∧ g.length ≤ 1000) ∧ ∀ p ∈ g, Close p) → ∀ x ∈ numsF kind a G, 0 ≤ x ∧ x ≤ 18446744073709551615 := by
  induction G with
  | nil => intro a _ _ x hx; simp [numsF] at hx
  | cons g G ih =>
    intro a ha h x hx
    obtain ⟨⟨h2, h3⟩, hc⟩ := h g (by simp)
    have hq : ∀ i, i < g.length → Close g[i]! := fun i hi => by rw [getElem!_pos g i hi]; exact hc _ (List.getElem_mem _)
    rw [numsF] at hx
    rcases List.mem_append.1 hx with hx | hx
    · unfold partN at hx
      rcases List.mem_append.1 hx with hx | hx
      · rcases List.mem_append.1 hx with hx | hx
        · rcases List.mem_append.1 hx with hx | hx
          · rcases List.mem_append.1 hx with hx | hx
            · obtain rfl := List.mem_singleton.1 hx; decide
            · exact byN_bd ha (hq 0 (by omega)) x hx
          · obtain rfl := List.mem_singleton.1 hx; omega
        · exact pn_bd _ (hq 0 (by omega)) (fun p hp => hc p (List.mem_of_mem_drop hp)) x hx
      · split at hx
        · obtain rfl := List.mem_singleton.1 hx; decide
        · simp at hx
    · exact ih (hq _ (by omega)) (fun g' hg' => h g' (by simp [hg'])) x hx
end Go
namespace Go.Proofs.Ytephdnahmgfmeaa
open Go.RowKit
theorem Try.infoRPts : (Try.prog.info? 54).map (fun i => (i.zero, i.size, i.bytes)) = some (some (.slice none 0 0), 1, 24) := by kernel_rfl

set_option maxHeartbeats 800000 in
theorem ofs23_any (a : Option Addr) (c : Nat) (xs : List PC) (hl : xs.length ≤ 1000000) (hle : ∀ x ∈ xs, x.l.length ≤ 1000) (w : World) (hr : Rd w a (xs.map PC.val)) (hok : ∀ x ∈ xs, x.Ok w) :
    Calls Try.prog 9 #[.slice a xs.length c] w fun e w' => ∃ v vals, e = .returned v ∧
      w'.ownsRow w.heap.size 54 1 v xs.length vals ∧ InP 66 w.heap.size w' vals (xs.map (·.l)) ∧ Below w.heap.size w w' := by
  go_enter Try.func9, Try.ntmps9
  go_wp2
  go_loopw [3, 4] (fun o i wr => ∃ (k : Nat) (vals : List Value), k ≤ xs.length ∧ i = .int .i64 k ∧ wr.ownsRow w.heap.size 54 1 o k vals ∧ InP 66 w.heap.size wr vals ((xs.take k).map (·.l)) ∧ Below w.heap.size w wr) (fun _ i _ => xs.length - (intOf i).toNat)
  case atStart => exact ⟨0, [], Nat.zero_le _, rfl, World.ownsRow_nil _ _ _ _, ⟨rfl, by simp⟩, Below.refl _ _⟩
  case round =>
    obtain ⟨k, vals, hk, rfl, hown, hin, hbl⟩ := hrel
    have hs := hbl.size
    by_cases hlt : k < xs.length
    · obtain ⟨x, hxk⟩ : ∃ x, xs[k] = x := ⟨_, rfl⟩
      have hxm : x ∈ xs := by rw [← hxk]; exact List.getElem_mem _
      have hxo : x.Ok w := hok x hxm
      have hxl := hle x hxm
      obtain ⟨b1, off1, rfl, c0, _⟩ := (hr.keep hbl).at (i := k) (v := x.val) (by simp [hlt, hxk])
      have hst : Hid ((xs.take (k + 1)).map (·.l) = (xs.take k).map (·.l) ++ [x.l]) := by
        refine Lib.hid ?_
        rw [List.take_succ_eq_append_getElem hlt, List.map_append, hxk]; rfl
      have hof := lofs_any x.p x.c x.l (by omega) wr (hxo.keep hbl).1
      have HOF := Lib.hid hof
      have hob := hown.lt
      clear hof hxk hxm
      obtain ⟨l, p, cx⟩ := x
      dsimp only [PC.val] at *
      go_wp2_with fail
      refine HOF.out.mono ?_
      rintro e w1 ⟨v1, rfl, hv1, hb1⟩
      have hown1 := hown.below hb1
      have hin1 := (hin.keep hb1).snoc (hv1.mono hs)
      have hbl1 := hbl.trans (hb1.mono hs)
      obtain ⟨va, vc, rfl, -, -, -, -, -⟩ := hv1.form
      clear HOF hown hin hbl hb1 hv1 c0
      obtain ⟨ti, hti, hz0, hz1, hz2⟩ := info_parts Try.infoRPts
      go_wp2_with (at_builtin; go_must (refine wpList_append_own_at (w1.alloc (.cells #[.slice va l.length vc] 54)) rfl (.tmp 11) (.tmp 17) 31 rfl w.heap.size 54 ti (.slice none 0 0) 1 24 Try.underlying31 hti hz0 hz1 hz2 rfl (by decide) u3 k vals rfl (hown1.below (Below.new _ _)) ⟨w1.heap.size, 0, none⟩ 1 1 [.slice va l.length vc] rfl rfl (Rd.new w1 [.slice va l.length vc] 54).add (by simp [Value.oneCell']) (by unfold maxLen; omega) (by omega) (by have := hbl1.size; simp; omega) ?_); intro v2 w2 hown2 hg3 _ _)
      have hin2 := (hin1.keep (Below.new _ (.cells #[.slice va l.length vc] 54))).grown (hown1.below (Below.new _ (.cells #[.slice va l.length vc] 54))) (by decide) hg3
      go_roundw
      case rel => exact ⟨k + 1, _, by omega, by go_num, hown2, by rw [hst.out]; exact hin2, (hbl1.alloc hbl1.size _).grown hg3 (by have := hbl1.size; simp; omega) (fun g e => (hob g e).1)⟩
      case measure => simp [intOf]; omega
    · obtain rfl : k = xs.length := by omega
      rw [List.take_length] at hin
      go_wp2
      go_ret
      exact ⟨_, vals, rfl, hown, hin, hbl⟩
end Go.Proofs.Ytephdnahmgfmeaa
